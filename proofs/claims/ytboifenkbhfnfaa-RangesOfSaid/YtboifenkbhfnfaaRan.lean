/- Stretches: the powers of two that a number is made of. -/
import Derived.Test.YtboifenkbhfnfaaVBits
import Derived.Test.YtboifenkbhfnfaaVSl
import Derived.Test.YtboifenkbhfnfaaVRanges
import Derived.Test.YtboifenkbhfnfaaSeq
import Derived.Test.YtboifenkbhfnfaaMer
import Derived.Test.YtboifenkbhfnfaaRanP
set_option linter.all false
set_option maxRecDepth 100000
namespace Go.Proofs.Ytboifenkbhfnfaa
open Go
/-- a slice of numbers that its maker owns -/
abbrev IRow (w : World) (p : Option Addr) (n c : Nat) (xs : List Nat) : Prop := V.Row w 3 1 p n c (xs.map fun (x : Nat) => Value.int .i64 (x : Int))
theorem app_int {w : World} {p : Option Addr} {n c : Nat} {xs : List Nat} (h : IRow w p n c xs) (hn : n ≤ 1000000000) (x : Nat) {a : Nat} (ha : a = w.heap.size) {C : Value → World → Prop}
    (hc : ∀ p' c' w', IRow w' p' (n + 1) c' (xs ++ [x]) → V.Kp (fun k => V.blk? p = some k) w w' → (∀ k, V.blk? p' = some k → V.blk? p = some k ∨ w.heap.size ≤ k) → C (.slice p' (n + 1) c') w') :
    V.RunV Try.prog (Builtin.append_ #[75, 75] 75 #[.slice p n c, .slice (some ⟨a, 0, none⟩) 1 1]) (w.alloc (.cells #[.int .i64 (x : Int)] 3)) C := by
  subst ha
  have hk0 : V.Kp V.Nil w (w.alloc (.cells #[.int .i64 (x : Int)] 3)) := V.Kp.alloc (V.Kp.refl _ _) _
  have h2 : IRow (w.alloc (.cells #[.int .i64 (x : Int)] 3)) p n c xs := h.same (fun b hb => hk0.block b (h.lt b hb) (fun e => e))
  refine V.Row.append h2 Try.underlying75 (by kernel_rfl : Try.prog.info? 3 = some Try.t3) (z := Try.t3.zero.getD .nilIface) rfl rfl rfl (by decide) (V.Blk.new w _ _) rfl (by intro u hu; simp at hu; subst hu; rfl) (by show (n + 1) * 8 ≤ _; omega) (by omega) ?_
  intro p' c' w' hr hk hat
  refine hc p' c' w' (by rw [IRow, List.map_append]; exact hr) (V.Kp.trans (hk0.mono (fun _ _ e => e.elim)) hk) ?_
  intro k hk'
  rcases hat with e | e
  · exact .inl (by rw [← e]; exact hk')
  · rw [hk'] at e; cases e; right; rw [V.size_alloc]; omega
theorem IRow.kp {S : Nat → Prop} {w w' : World} {p : Option Addr} {n c : Nat} {xs : List Nat} (h : IRow w p n c xs) (k : V.Kp S w w') (hn : ∀ b, V.blk? p = some b → ¬ S b) : IRow w' p n c xs :=
  h.same (fun b hb => k.block b (h.lt b hb) (hn b hb))
theorem IRow.keep {w w' : World} {p : Option Addr} {n c : Nat} {xs : List Nat} (h : IRow w p n c xs) (k : V.Kp V.Nil w w') : IRow w' p n c xs := h.kp k (fun _ _ e => e)
theorem IRow.load {w : World} {p : Option Addr} {n c : Nat} {xs : List Nat} (h : IRow w p n c xs) {i x : Nat} (hx : xs[i]? = some x) {C : Int → Prop} (hc : C (x : Int)) :
    V.inX (i : Int) n ∧ V.nilCk p fun a => V.nilCk (some (V.aadd a (V.nmul (V.inat (i : Int)) 1))) fun a => V.ldInt w a .i64 C := by
  have hlt : i < xs.length := (List.getElem?_eq_some_iff.1 hx).1
  have hl := h.len
  rw [List.length_map] at hl
  refine ⟨⟨by omega, by omega⟩, ?_⟩
  obtain ⟨g, cur, rfl, _⟩ := h.some (by omega)
  rw [V.nilCk_mk, V.nilCk_mk, V.nmul_eq, V.inat_nat, Nat.mul_one, V.aadd_mk, Nat.zero_add]
  exact V.ldInt_r h (by rw [List.getElem?_map, hx]; rfl) hc
/-! ### bits -/
theorem len_spec (n : Nat) (hn : n < 256) (w : World) (C : Value → World → Prop) (hc : ∀ x : Int, (0 < n → 0 ≤ V.isub .i64 x 1 ∧ V.ishl .i64 1 (V.isub .i64 x 1) = (Mk.pw n : Int)) → C (.int .i64 x) w) :
    V.CallsR Try.prog 69 #[.int .u64 (n : Int)] w C := by
  refine V.calls_of_fnVC (args := [_]) Try.func69 ?_
  rw [vc_bits_Len]
  refine V.calls_of_fnVC (args := [_]) Try.func92 ?_
  rw [vc_bits_Len64]
  refine V.ifB_of (fun hq => ?_) (fun h1 => ?_)
  · simp only [V.ilt_t, V.ilt_f, V.ile_t, V.ile_f, V.igt_t, V.igt_f, V.ige_t, V.ige_f, V.ieq_t, V.ieq_f, V.ine_t, V.ine_f, V.isNil_t, V.isNil_f, V.bnot_eq, Bool.not_eq_true', Bool.not_eq_false', V.seq_t, V.seq_f] at hq; omega
  refine V.ifB_of (fun hq => ?_) (fun h2 => ?_)
  · simp only [V.ilt_t, V.ilt_f, V.ile_t, V.ile_f, V.igt_t, V.igt_f, V.ige_t, V.ige_f, V.ieq_t, V.ieq_f, V.ine_t, V.ine_f, V.isNil_t, V.isNil_f, V.bnot_eq, Bool.not_eq_true', Bool.not_eq_false', V.seq_t, V.seq_f] at hq; omega
  refine V.ifB_of (fun hq => ?_) (fun h3 => ?_)
  · simp only [V.ilt_t, V.ilt_f, V.ile_t, V.ile_f, V.igt_t, V.igt_f, V.ige_t, V.ige_f, V.ieq_t, V.ieq_f, V.ine_t, V.ine_f, V.isNil_t, V.isNil_f, V.bnot_eq, Bool.not_eq_true', Bool.not_eq_false', V.seq_t, V.seq_f] at hq; omega
  clear h1 h2 h3
  refine And.intro ?_ ?_
  · clear hc
    unfold V.inX
    revert n
    decide +kernel
  rw [V.vInt_mk]
  refine hc _ ?_
  clear hc
  revert n
  decide +kernel
theorem ones_spec (n : Nat) (hn : n < 256) (w : World) (C : Value → World → Prop) (hc : C (.int .i64 ((Mk.pows n).length : Int)) w) :
    V.CallsR Try.prog 53 #[.int .u64 (n : Int)] w C := by
  refine V.calls_of_fnVC (args := [_]) Try.func53 ?_
  rw [vc_bits_OnesCount]
  refine V.calls_of_fnVC (args := [_]) Try.func78 ?_
  rw [vc_bits_OnesCount64]
  have key : ∀ z : Int, z = ((Mk.pows n).length : Int) → C (.int .i64 z) w := fun z e => e ▸ hc
  have g : ∀ {a : Int} {p : Prop}, 0 ≤ a → p → V.ige0 a ∧ p := fun h k => ⟨h, k⟩
  refine g (by decide) (g (by decide) (g (by decide) (g (by decide) (g (by decide) (g (by decide) ?_)))))
  rw [V.vInt_mk]
  refine key _ ?_
  clear key hc g
  revert n
  decide +kernel
/-! ### the closure -/
def cellN (w : World) (b : Nat) : Nat := match w.cell? ⟨b, 0, none⟩ with
  | some (.int _ x) => x.toNat
  | _ => 0
theorem cellN_of {w : World} {b : Nat} {k : IntKind} {x : Int} {t : TypeId} (h : V.Blk w b #[.int k x] t) : cellN w b = x.toNat := by
  unfold cellN; rw [h.cell]; rfl
def pItems (n : Nat) : List (List Value) := (Mk.pows n).map fun (p : Nat) => [Value.int .i64 (p : Int)]
theorem powers_spec (n : Int) (w : World) (C : Value → World → Prop) (hc : C (.func (.func 68) #[] #[.pointer (some ⟨w.heap.size, 0, none⟩)]) (w.alloc (.cells #[.int .i64 n] 3))) :
    V.CallsR Try.prog 40 #[.int .i64 n] w C := by
  refine V.calls_of_fnVC (args := [_]) Try.func40 ?_
  rw [vc_ranges_powers]
  exact hc
theorem powers_seq (n : Nat) (hn : n < 256) (w : World) (b : Nat) (hb : V.Blk w b #[.int .i64 (n : Int)] 3) :
    Seq 68 [.pointer (some ⟨b, 0, none⟩)] (V.One b) (V.One b) (pItems n) w := by
  intro v w0 I St C hk h0 hI hr hend hst
  refine V.calls_of_fnVC (args := [_, _]) Try.func68 ?_
  rw [vc_ranges_powers_1]
  refine ⟨⟨fun w' => ∃ k m : Nat, I k w' ∧ V.Blk w' b #[.int .i64 (m : Int)] 3 ∧ (Mk.pows n).drop k = Mk.pows m ∧ k ≤ (Mk.pows n).length ∧ m ≤ n, fun w' => cellN w' b⟩, ⟨0, n, h0, V.Kp.blk hk hb (fun e => e), rfl, by omega, by omega⟩, ?_⟩
  rintro _ w1 ⟨k, m, hi, hb1, hd, hk2, hm⟩
  simp only [V.nptr_eq, V.vBool_mk, V.vInt_mk, V.vStr_mk, V.vPtr_mk, V.vMap_mk, V.vSlice_mk, V.bnot_eq, V.nilCk_mk, V.aadd_mk, V.size_alloc, V.size_drew, V.size_setCell, V.nmul_eq, V.inat_nat, V.inat_lit, Nat.mul_one, Nat.reduceMul, Nat.reduceAdd, V.and_assoc', V.true_and', V.ifB_t, V.ifB_f, V.isNil_some, V.isNil_none, Bool.not_true, Bool.not_false, Nat.zero_add, Nat.add_zero]
  refine V.lI ?_ hb1 rfl
  refine V.ifB_of (fun hq => ?_) (fun hq => ?_) <;> simp only [V.ilt_t, V.ilt_f, V.ile_t, V.ile_f, V.igt_t, V.igt_f, V.ige_t, V.ige_f, V.ieq_t, V.ieq_f, V.ine_t, V.ine_f, V.isNil_t, V.isNil_f, V.bnot_eq, Bool.not_eq_true', Bool.not_eq_false', V.seq_t, V.seq_f] at hq
  · refine V.lI ?_ hb1 rfl
    have ec : V.iconv .u64 (m : Int) = (m : Int) := by unfold V.iconv; rw [V.wrap_u64 (by omega) (by omega)]
    rw [ec]
    refine len_spec m (by omega) _ _ ?_
    intro x hx
    obtain ⟨hx1, hx2⟩ := hx (by omega)
    simp only [V.nptr_eq, V.vBool_mk, V.vInt_mk, V.vStr_mk, V.vPtr_mk, V.vMap_mk, V.vSlice_mk, V.bnot_eq, V.nilCk_mk, V.aadd_mk, V.size_alloc, V.size_drew, V.size_setCell, V.nmul_eq, V.inat_nat, V.inat_lit, Nat.mul_one, Nat.reduceMul, Nat.reduceAdd, V.and_assoc', V.true_and', V.ifB_t, V.ifB_f, V.isNil_some, V.isNil_none, Bool.not_true, Bool.not_false, Nat.zero_add, Nat.add_zero]
    refine And.intro hx1 ?_
    rw [hx2]
    have hpm := Mk.pows_pos (n := m) (by omega)
    have hpl := Mk.pw_le (n := m) (by omega)
    have hpp := Mk.pw_pos (n := m) (by omega)
    rw [hpm] at hd
    have hlt : k < (Mk.pows n).length := by
      rcases Nat.lt_or_ge k (Mk.pows n).length with h | h
      · exact h
      · rw [List.drop_of_length_le h] at hd; cases hd
    have hg : (Mk.pows n)[k]? = some (Mk.pw m) := by
      rw [← List.head?_drop, hd]; rfl
    have hdd : (Mk.pows n).drop (k + 1) = Mk.pows (m - Mk.pw m) := by
      rw [← List.tail_drop, hd]; rfl
    refine callV_mono' (hr k _ w1 (by rw [pItems, List.getElem?_map, hg]; rfl) hi) ?_
    rintro r w2 ⟨hsame, hsz, ho⟩
    have hb2 : V.Blk w2 b #[.int .i64 (m : Int)] 3 := (hsame b rfl).trans hb1
    rcases ho with ⟨rfl, hi2⟩ | ⟨rfl, hs2⟩
    · simp only [V.nptr_eq, V.vBool_mk, V.vInt_mk, V.vStr_mk, V.vPtr_mk, V.vMap_mk, V.vSlice_mk, V.bnot_eq, V.nilCk_mk, V.aadd_mk, V.size_alloc, V.size_drew, V.size_setCell, V.nmul_eq, V.inat_nat, V.inat_lit, Nat.mul_one, Nat.reduceMul, Nat.reduceAdd, V.and_assoc', V.true_and', V.ifB_t, V.ifB_f, V.isNil_some, V.isNil_none, Bool.not_true, Bool.not_false, Nat.zero_add, Nat.add_zero]
      refine V.lI ?_ hb2 rfl
      have es : V.isub .i64 (m : Int) (Mk.pw m : Int) = ((m - Mk.pw m : Nat) : Int) := by rw [V.isub_i64 (by omega) (by omega)]; omega
      rw [es]
      refine V.sC ?_ hb2 (by show 0 < 1; omega)
      have hb3 : V.Blk (w2.setCell ⟨b, 0, none⟩ (.int .i64 ((m - Mk.pw m : Nat) : Int))) b #[.int .i64 ((m - Mk.pw m : Nat) : Int)] 3 := hb2.set 0 _
      refine ⟨⟨k + 1, m - Mk.pw m, hI _ _ _ hi2 (V.Kp.set (S := V.One b) (V.Kp.refl _ _) (.inl rfl) _), hb3, hdd, by omega, by omega⟩, ?_⟩
      show cellN _ b < cellN _ b
      rw [cellN_of hb1, cellN_of hb3, Int.toNat_natCast, Int.toNat_natCast]
      omega
    · simp only [V.nptr_eq, V.vBool_mk, V.vInt_mk, V.vStr_mk, V.vPtr_mk, V.vMap_mk, V.vSlice_mk, V.bnot_eq, V.nilCk_mk, V.aadd_mk, V.size_alloc, V.size_drew, V.size_setCell, V.nmul_eq, V.inat_nat, V.inat_lit, Nat.mul_one, Nat.reduceMul, Nat.reduceAdd, V.and_assoc', V.true_and', V.ifB_t, V.ifB_f, V.isNil_some, V.isNil_none, Bool.not_true, Bool.not_false, Nat.zero_add, Nat.add_zero]
      exact hst _ hs2
  · obtain rfl : m = 0 := by omega
    rw [Mk.pows_zero] at hd
    have : k = (Mk.pows n).length := by
      have := congrArg List.length hd
      rw [List.length_drop] at this
      simp at this; omega
    subst this
    refine hend _ ?_
    rw [pItems, List.length_map]
    exact hi
end Go.Proofs.Ytboifenkbhfnfaa
