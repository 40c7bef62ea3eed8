/- ranges.Of; pair; slices.Clone. -/
import Derived.Test.YtboifenkbhfnfaaRanB
set_option linter.all false
set_option maxRecDepth 100000
namespace Go.Proofs.Ytboifenkbhfnfaa
open Go
theorem rpair_spec (a b : ByteArray) (ha : a.size < 100000000) (hb : b.size < 100000000) (w : World) (C : Value → World → Prop) (hc : ∀ w', V.Kp V.Nil w w' → C (.string (Mk.node a b)) w') :
    V.CallsR Try.prog 43 #[.agg tblC, .string a, .string b] w C := by
  refine V.calls_of_fnVC (args := [_, _, _]) Try.func43 ?_
  rw [vc_ranges_pair]
  have ts := tbl_size
  have s1 : (ByteArray.mk #[1]).size = 1 := rfl
  simp only [V.nptr_eq, V.vBool_mk, V.vInt_mk, V.vStr_mk, V.vPtr_mk, V.vMap_mk, V.vSlice_mk, V.bnot_eq, V.nilCk_mk, V.aadd_mk, V.size_alloc, V.size_drew, V.size_setCell, V.nmul_eq, V.inat_nat, V.inat_lit, Nat.mul_one, Nat.reduceMul, Nat.reduceAdd, V.and_assoc', V.true_and', V.ifB_t, V.ifB_f, V.isNil_some, V.isNil_none, Bool.not_true, Bool.not_false, Nat.zero_add, Nat.add_zero]
  repeat (first | with_reducible refine V.lI ?_ | with_reducible refine V.lS ?_ | with_reducible refine V.lP ?_ | with_reducible refine V.lL ?_ | with_reducible refine V.lM ?_ | with_reducible refine V.lB ?_ | with_reducible refine V.sC ?_ | with_reducible refine V.lG ?_ | ((with_reducible refine And.intro ?_ ?_); (· first | with_reducible exact V.hC | with_reducible exact V.hB | (simp only [V.inX, V.inR, V.inz, V.ige0, V.zi]; omega))) | simp only [V.nptr_eq, V.vBool_mk, V.vInt_mk, V.vStr_mk, V.vPtr_mk, V.vMap_mk, V.vSlice_mk, V.bnot_eq, V.nilCk_mk, V.aadd_mk, V.size_alloc, V.size_drew, V.size_setCell, V.nmul_eq, V.inat_nat, V.inat_lit, Nat.mul_one, Nat.reduceMul, Nat.reduceAdd, V.and_assoc', V.true_and', V.ifB_t, V.ifB_f, V.isNil_some, V.isNil_none, Bool.not_true, Bool.not_false, Nat.zero_add, Nat.add_zero])
  refine And.intro (by unfold V.sfits; omega) (And.intro (by unfold V.sfits; rw [size_cat]; omega) ?_)
  refine sum_spec _ (by rw [size_cat, size_cat]; omega) _ _ ?_
  intro w1 k1
  simp only [V.nptr_eq, V.vBool_mk, V.vInt_mk, V.vStr_mk, V.vPtr_mk, V.vMap_mk, V.vSlice_mk, V.bnot_eq, V.nilCk_mk, V.aadd_mk, V.size_alloc, V.size_drew, V.size_setCell, V.nmul_eq, V.inat_nat, V.inat_lit, Nat.mul_one, Nat.reduceMul, Nat.reduceAdd, V.and_assoc', V.true_and', V.ifB_t, V.ifB_f, V.isNil_some, V.isNil_none, Bool.not_true, Bool.not_false, Nat.zero_add, Nat.add_zero]
  exact hc w1 (V.Kp.trans V.kp k1)
/-- a copy that its maker owns -/
theorem clone_spec (xs : List ByteArray) (p : Option Addr) (n c : Nat) (hn : n = xs.length) (hn2 : n ≤ 1000000) (w : World) (hs : StrAt w p xs) (C : Value → World → Prop)
    (hc : ∀ p' c' w', SRow w' p' n c' xs → New w.heap.size p' → V.Kp V.Nil w w' → C (.slice p' n c') w') :
    V.CallsR Try.prog 47 #[.slice p n c] w C := by
  refine V.calls_of_fnVC (args := [_]) Try.func47 ?_
  rw [vc_slices_Clone_string]
  refine V.ifB_of (fun hq => ?_) (fun hq => ?_) <;> simp only [V.ilt_t, V.ilt_f, V.ile_t, V.ile_f, V.igt_t, V.igt_f, V.ige_t, V.ige_f, V.ieq_t, V.ieq_f, V.ine_t, V.ine_f, V.isNil_t, V.isNil_f, V.bnot_eq, Bool.not_eq_true', Bool.not_eq_false', V.seq_t, V.seq_f] at hq
  · subst hq
    have hx : xs = [] := by
      rcases hs with h | ⟨b, o, h, _⟩
      · exact h
      · cases h
    subst hx
    obtain rfl : n = 0 := by simpa using hn
    exact hc none 0 w (SRow.nil w) (New.none _) (V.Kp.refl _ _)
  · have hr : SRow (w.alloc (.cells #[] 9)) (some ⟨w.heap.size, 0, none⟩) 0 0 [] := V.Row.of (V.Blk.new w #[] _) (Nat.le_refl _) (Nat.zero_le _) rfl rfl
    have k0 : V.Kp V.Nil w (w.alloc (.cells #[] 9)) := V.Kp.alloc (V.Kp.refl _ _) _
    refine app_strs hr (by omega) (hs.keep k0) hn (by omega) ?_
    intro p' c' w' h k hat
    rw [Nat.zero_add] at h ⊢
    have hp : New w.heap.size (some (⟨w.heap.size, 0, none⟩ : Addr)) := fun b hb => by cases hb; exact Nat.le_refl _
    simp only [V.nptr_eq, V.vBool_mk, V.vInt_mk, V.vStr_mk, V.vPtr_mk, V.vMap_mk, V.vSlice_mk, V.bnot_eq, V.nilCk_mk, V.aadd_mk, V.size_alloc, V.size_drew, V.size_setCell, V.nmul_eq, V.inat_nat, V.inat_lit, Nat.mul_one, Nat.reduceMul, Nat.reduceAdd, V.and_assoc', V.true_and', V.ifB_t, V.ifB_f, V.isNil_some, V.isNil_none, Bool.not_true, Bool.not_false, Nat.zero_add, Nat.add_zero]
    exact hc p' c' w' h (app_new k0 hp hat) (kp_new k0 k hp)
def rangeV (n : Nat) (p : Option Addr) (k c : Nat) : Value := .agg #[.int .i64 (n : Int), .slice p k c]
/-- what holds between two rounds of Of -/
structure OfI (w : World) (xs : List ByteArray) (p : Option Addr) (n c k : Nat) (w' : World) : Prop where
  b0 : V.Blk w' w.heap.size tblC 29
  b1 : V.Blk w' (w.heap.size + 1) #[.slice p n c] 22
  b2 : V.Blk w' (w.heap.size + 2) #[.int .i64 0, .slice none 0 0] 33
  b4 : V.Blk w' (w.heap.size + 4) #[.int .i64 (((Mk.pows xs.length).take k).sum : Nat)] 3
  b3 : ∃ q d, V.Blk w' (w.heap.size + 3) #[.int .i64 (n : Int), .slice q k d] 33 ∧ SRow w' q k d ((Mk.ofR xs).take k) ∧ New (w.heap.size + 8) q
  kp : V.Kp V.Nil w w'
theorem OfI.mono {w w1 w2 : World} {xs : List ByteArray} {p : Option Addr} {n c k : Nat} (h : OfI w xs p n c k w1) {S : Nat → Prop} (hk : V.Kp S w1 w2) (hS : ∀ b, S b → w.heap.size + 5 ≤ b ∧ b < w.heap.size + 8) : OfI w xs p n c k w2 where
  b0 := V.Kp.blk hk h.b0 (fun e => by have := hS _ e; omega)
  b1 := V.Kp.blk hk h.b1 (fun e => by have := hS _ e; omega)
  b2 := V.Kp.blk hk h.b2 (fun e => by have := hS _ e; omega)
  b4 := V.Kp.blk hk h.b4 (fun e => by have := hS _ e; omega)
  b3 := by
    obtain ⟨q, d, h1, h2, h3⟩ := h.b3
    exact ⟨q, d, V.Kp.blk hk h1 (fun e => by have := hS _ e; omega), h2.kp hk (fun b hb e => by have := hS _ e; have := h3 b hb; omega), h3⟩
  kp := V.Kp.then h.kp hk (fun i hi e => by have := hS _ e; omega)
def ofT (s : Nat) (p : Option Addr) (n c : Nat) (v : Value) : Array Value := #[.agg tblC, .slice p n c, .pointer (some ⟨s, 0, none⟩), .pointer (some ⟨s + 1, 0, none⟩), .pointer (some ⟨s + 1 + 1, 0, none⟩), .pointer (some ⟨s + 1 + 1 + 1, 0, none⟩), .pointer (some ⟨s + 1 + 1 + 1 + 1, 0, none⟩), undef, .slice p n c,
  .int .i64 (n : Int), .agg #[.int .i64 (n : Int), .slice none 0 0], .slice p n c, .int .i64 (n : Int), .func (.func 68) #[] #[.pointer (some ⟨s + 1 + 1 + 1 + 1 + 1, 0, none⟩)], v, undef, undef, undef, undef, undef, undef, undef, undef, undef, undef, undef, undef, undef, undef, undef, undef, undef]
set_option maxHeartbeats 1000000 in
/-- ranges.Of -/
theorem of_spec (xs : List ByteArray) (hlen : xs.length ≤ 200) (hB : ∀ x ∈ xs, x.size ≤ 1000000) (p : Option Addr) (n c : Nat) (w : World) (hn : n = xs.length) (hnc : n ≤ c) (hs : StrAt w p xs) (C : Value → World → Prop)
    (hc : ∀ p' c' w', SRow w' p' (Mk.ofR xs).length c' (Mk.ofR xs) → New w.heap.size p' → V.Kp V.Nil w w' → C (rangeV n p' (Mk.ofR xs).length c') w') :
    V.CallsR Try.prog 15 #[.agg tblC, .slice p n c] w C := by
  refine V.calls_of_fnVC (args := [_, _]) Try.func15 ?_
  rw [vc_ranges_Of]
  have ts := tbl_size
  simp only [V.nptr_eq, V.vBool_mk, V.vInt_mk, V.vStr_mk, V.vPtr_mk, V.vMap_mk, V.vSlice_mk, V.bnot_eq, V.nilCk_mk, V.aadd_mk, V.size_alloc, V.size_drew, V.size_setCell, V.nmul_eq, V.inat_nat, V.inat_lit, Nat.mul_one, Nat.reduceMul, Nat.reduceAdd, V.and_assoc', V.true_and', V.ifB_t, V.ifB_f, V.isNil_some, V.isNil_none, Bool.not_true, Bool.not_false, Nat.zero_add, Nat.add_zero]
  repeat (first | with_reducible refine V.lI ?_ | with_reducible refine V.lS ?_ | with_reducible refine V.lP ?_ | with_reducible refine V.lL ?_ | with_reducible refine V.lM ?_ | with_reducible refine V.lB ?_ | with_reducible refine V.sC ?_ | with_reducible refine V.lG ?_ | ((with_reducible refine And.intro ?_ ?_); (· first | with_reducible exact V.hC | with_reducible exact V.hB | (simp only [V.inX, V.inR, V.inz, V.ige0, V.zi]; omega))) | simp only [V.nptr_eq, V.vBool_mk, V.vInt_mk, V.vStr_mk, V.vPtr_mk, V.vMap_mk, V.vSlice_mk, V.bnot_eq, V.nilCk_mk, V.aadd_mk, V.size_alloc, V.size_drew, V.size_setCell, V.nmul_eq, V.inat_nat, V.inat_lit, Nat.mul_one, Nat.reduceMul, Nat.reduceAdd, V.and_assoc', V.true_and', V.ifB_t, V.ifB_f, V.isNil_some, V.isNil_none, Bool.not_true, Bool.not_false, Nat.zero_add, Nat.add_zero])
  refine named fun W hW => ?_
  have c0 : V.Blk W w.heap.size tblC 29 := by rw [hW]; exact V.blk
  have c1 : V.Blk W (w.heap.size + 1) #[.slice p n c] 22 := by rw [hW]; exact V.blk
  have c2 : V.Blk W (w.heap.size + 1 + 1) #[.int .i64 0, .slice none 0 0] 33 := by rw [hW]; exact V.blk
  have c3 : V.Blk W (w.heap.size + 1 + 1 + 1) #[.int .i64 (n : Int), .slice none 0 0] 33 := by rw [hW]; exact V.bto
  have c4 : V.Blk W (w.heap.size + 1 + 1 + 1 + 1) #[.int .i64 ((0 : Nat) : Int)] 3 := by rw [hW]; exact V.bto
  have ck : V.Kp V.Nil w W := by rw [hW]; exact V.kp
  have cz : W.heap.size = w.heap.size + 5 := by rw [hW]; simp only [V.size_alloc, V.size_drew, V.size_setCell]
  clear hW
  rw [show V.zi n = (n : Int) from rfl]
  refine powers_spec _ _ _ ?_
  obtain ⟨W', hW'⟩ : ∃ W', W' = W.alloc (.cells #[.int .i64 (n : Int)] 3) := ⟨_, rfl⟩
  have k1 : V.Kp V.Nil W W' := by rw [hW']; exact V.kp
  have c5 : V.Blk W' W.heap.size #[.int .i64 (n : Int)] 3 := by rw [hW']; exact V.blk
  have cz' : W'.heap.size = w.heap.size + 6 := by rw [hW']; simp only [V.size_alloc, cz]
  rw [← hW'] at *
  clear hW'
  have hI0 : OfI w xs p n c 0 W' := ⟨V.Kp.blk k1 c0 (fun e => e), V.Kp.blk k1 c1 (fun e => e), V.Kp.blk k1 c2 (fun e => e), V.Kp.blk k1 c4 (fun e => e), ⟨none, 0, V.Kp.blk k1 c3 (fun e => e), SRow.nil _, New.none _⟩, V.Kp.trans ck k1⟩
  clear c0 c1 c2 c3 c4 ck k1
  have hlo := Mk.ofR_length _ xs rfl
  have hpl := Mk.pows_le xs.length
  refine rf_seq (O := V.One W.heap.size) (R := V.One W.heap.size) (powers_seq n (by omega) _ _ c5) (by kernel_rfl) (w.heap.size + 6) cz' (fun b hb => by have hb : b = _ := hb; omega) (fun b hb => by have hb : b = _ := hb; omega)
    (fun k w' => OfI w xs p n c k w') (fun _ _ => False) hI0 ?_ (fun _ _ _ h => h.elim) ?_ ?_ (fun _ _ h => h.elim)
  · intro k w1 w2 h hk
    refine h.mono hk ?_
    rintro b (e | e | e)
    · have e : b = _ := e
      omega
    · omega
    · omega
  · rintro fn rec hrec k x w1 hx hI hl hd hsz Cq hgo -
    rw [pItems, List.getElem?_map] at hx
    obtain ⟨y, hy, rfl⟩ : ∃ y, (Mk.pows n)[k]? = some y ∧ x = [Value.int .i64 (y : Int)] := by
      cases h : (Mk.pows n)[k]? with
      | none => rw [h] at hx; cases hx
      | some y => rw [h] at hx; cases hx; exact ⟨y, rfl, rfl⟩
    subst hn
    obtain ⟨f1, f2, f3⟩ := Mk.ofR_next hy
    have hk : k < (Mk.pows xs.length).length := (List.getElem?_eq_some_iff.1 hy).1
    obtain ⟨b0, b1, b2, b4, ⟨q, d, b3, hr, hq⟩, kp⟩ := hI
    refine yield_rec (ofT w.heap.size p xs.length c (.int .i64 (y : Int))) hrec hl (by kernel_rfl) (by rw [cz]; kernel_rfl) ?_
    intro hl
    unfold ofT
    rw [rb_ranges_Of_0]
    refine And.intro hl ?_
    have d0 := b0.putO (r := w.heap.size + 6 + 1) (by omega) (.loop (rec .busy none))
    have d1 := b1.putO (r := w.heap.size + 6 + 1) (by omega) (.loop (rec .busy none))
    have d2 := b2.putO (r := w.heap.size + 6 + 1) (by omega) (.loop (rec .busy none))
    have d3 := b3.putO (r := w.heap.size + 6 + 1) (by omega) (.loop (rec .busy none))
    have d4 := b4.putO (r := w.heap.size + 6 + 1) (by omega) (.loop (rec .busy none))
    have dl := hl.put (rec .busy none)
    have dk : V.Kp (V.One (w.heap.size + 6 + 1)) w1 (V.putO w1 (w.heap.size + 6 + 1) (.loop (rec .busy none))) := V.Kp.putO (S := V.One _) (V.Kp.refl _ _) (.inl rfl) _
    have gz := V.size_putO w1 (w.heap.size + 6 + 1) (.loop (rec .busy none))
    generalize V.putO w1 (w.heap.size + 6 + 1) (.loop (rec .busy none)) = w2 at *
    clear b0 b1 b2 b3 b4
    obtain ⟨a, ha⟩ : ∃ a, a = ((Mk.pows xs.length).take k).sum := ⟨_, rfl⟩
    rw [← ha] at f1 f2 f3 d4
    have hr2 : SRow w2 q k d ((Mk.ofR xs).take k) := hr.kp dk (fun b hb e => by have := hq b hb; have e : b = _ := e; omega)
    have kp2 : V.Kp V.Nil w w2 := V.Kp.then kp dk (fun i hi e => by have e : i = _ := e; omega)
    have hs2 := hs.keep kp2
    simp only [V.nptr_eq, V.vBool_mk, V.vInt_mk, V.vStr_mk, V.vPtr_mk, V.vMap_mk, V.vSlice_mk, V.bnot_eq, V.nilCk_mk, V.aadd_mk, V.size_alloc, V.size_drew, V.size_setCell, V.nmul_eq, V.inat_nat, V.inat_lit, Nat.mul_one, Nat.reduceMul, Nat.reduceAdd, V.and_assoc', V.true_and', V.ifB_t, V.ifB_f, V.isNil_some, V.isNil_none, Bool.not_true, Bool.not_false, Nat.zero_add, Nat.add_zero]
    have ea : V.iadd .i64 (a : Int) (y : Int) = ((a + y : Nat) : Int) := by rw [V.iadd_i64 (by omega) (by omega)]; omega
    refine V.lL ?_ d3.drew rfl
    repeat (first | with_reducible refine V.lI ?_ | with_reducible refine V.lS ?_ | with_reducible refine V.lP ?_ | with_reducible refine V.lL ?_ | with_reducible refine V.lM ?_ | with_reducible refine V.lB ?_ | with_reducible refine V.sC ?_ | with_reducible refine V.lG ?_ | ((with_reducible refine And.intro ?_ ?_); (· first | with_reducible exact V.hC | with_reducible exact V.hB | (simp only [V.inX, V.inR, V.inz, V.ige0, V.zi]; omega))) | simp only [V.nptr_eq, V.vBool_mk, V.vInt_mk, V.vStr_mk, V.vPtr_mk, V.vMap_mk, V.vSlice_mk, V.bnot_eq, V.nilCk_mk, V.aadd_mk, V.size_alloc, V.size_drew, V.size_setCell, V.nmul_eq, V.inat_nat, V.inat_lit, Nat.mul_one, Nat.reduceMul, Nat.reduceAdd, V.and_assoc', V.true_and', V.ifB_t, V.ifB_f, V.isNil_some, V.isNil_none, Bool.not_true, Bool.not_false, Nat.zero_add, Nat.add_zero])
    rw [ea]
    refine And.intro (by unfold V.inR; rw [V.inat_nat]; omega) ?_
    rw [V.inat_nat]
    refine mroot_spec y ((xs.drop a).take y) (by rw [List.length_take, List.length_drop]; omega) (by omega) (fun x hx => hB x (List.mem_of_mem_drop (List.mem_of_mem_take hx))) _ _ _ _ (by unfold V.nsub; rw [List.length_take, List.length_drop]; omega) (by unfold V.nsub; omega) ((hs2.keep (V.Kp.drew (V.Kp.refl _ _))).sub (by omega) a y) _ ?_
    intro w3 k3
    have k3' : V.Kp V.Nil w2 w3 := V.Kp.trans (V.Kp.drew (V.Kp.refl _ _)) k3
    have e0 := V.Kp.blk k3' d0 (fun e => e)
    have e1 := V.Kp.blk k3' d1 (fun e => e)
    have e2 := V.Kp.blk k3' d2 (fun e => e)
    have e3 := V.Kp.blk k3' d3 (fun e => e)
    have e4 := V.Kp.blk k3' d4 (fun e => e)
    have el := V.Kp.lblk k3' dl (fun e => e)
    have hr3 := hr2.keep k3'
    simp only [V.nptr_eq, V.vBool_mk, V.vInt_mk, V.vStr_mk, V.vPtr_mk, V.vMap_mk, V.vSlice_mk, V.bnot_eq, V.nilCk_mk, V.aadd_mk, V.size_alloc, V.size_drew, V.size_setCell, V.nmul_eq, V.inat_nat, V.inat_lit, Nat.mul_one, Nat.reduceMul, Nat.reduceAdd, V.and_assoc', V.true_and', V.ifB_t, V.ifB_f, V.isNil_some, V.isNil_none, Bool.not_true, Bool.not_false, Nat.zero_add, Nat.add_zero]
    refine And.intro (V.hC e3 rfl) (And.intro (V.hC (e3.alloc _) rfl) ?_)
    refine app_str hr3 (by omega) _ rfl ?_
    intro q4 d4' w4 hr4 k4 at4
    rw [← f1] at hr4
    have g0 := V.Kp.blk k4 e0 (fun e => by have := hq _ e; omega)
    have g1 := V.Kp.blk k4 e1 (fun e => by have := hq _ e; omega)
    have g2 := V.Kp.blk k4 e2 (fun e => by have := hq _ e; omega)
    have g3 := V.Kp.blk k4 e3 (fun e => by have := hq _ e; omega)
    have g4 := V.Kp.blk k4 e4 (fun e => by have := hq _ e; omega)
    have gl := V.Kp.lblk k4 el (fun e => by have := hq _ e; omega)
    have hq4 : New (w.heap.size + 8) q4 := fun b hb => by
      rcases at4 b hb with e | e
      · exact hq b e
      · have := k3'.size; omega
    simp only [V.nptr_eq, V.vBool_mk, V.vInt_mk, V.vStr_mk, V.vPtr_mk, V.vMap_mk, V.vSlice_mk, V.bnot_eq, V.nilCk_mk, V.aadd_mk, V.size_alloc, V.size_drew, V.size_setCell, V.nmul_eq, V.inat_nat, V.inat_lit, Nat.mul_one, Nat.reduceMul, Nat.reduceAdd, V.and_assoc', V.true_and', V.ifB_t, V.ifB_f, V.isNil_some, V.isNil_none, Bool.not_true, Bool.not_false, Nat.zero_add, Nat.add_zero]
    refine V.sC ?_ g3 (by show 1 < 2; omega)
    refine V.lI ?_ (g4.set_ne (by omega) _) rfl
    refine V.sC ?_ (g4.set_ne (by omega) _) (by show 0 < 1; omega)
    rw [ea]
    refine And.intro ((gl.set _ _).set _ _) ?_
    have kk : V.Kp (fun b => b = w.heap.size + 3 ∨ b = w.heap.size + 4 ∨ b = w.heap.size + 7) w4 (V.putO ((w4.setCell ⟨w.heap.size + 1 + 1 + 1, 1, none⟩ (.slice q4 (k + 1) d4')).setCell ⟨w.heap.size + 1 + 1 + 1 + 1, 0, none⟩ (.int .i64 ((a + y : Nat) : Int))) (w.heap.size + 6 + 1) (.loop (rec .ready none))) :=
      V.Kp.putO (V.Kp.set (V.Kp.set (V.Kp.refl _ _) (.inl (.inl rfl)) _) (.inl (.inr (.inl rfl))) _) (.inl (.inr (.inr rfl))) _
    have kt : V.Kp (fun b => b = w.heap.size + 3 ∨ b = w.heap.size + 4 ∨ b = w.heap.size + 7 ∨ V.blk? q = some b) w1 (V.putO ((w4.setCell ⟨w.heap.size + 1 + 1 + 1, 1, none⟩ (.slice q4 (k + 1) d4')).setCell ⟨w.heap.size + 1 + 1 + 1 + 1, 0, none⟩ (.int .i64 ((a + y : Nat) : Int))) (w.heap.size + 6 + 1) (.loop (rec .ready none))) := by
      refine V.Kp.trans (V.Kp.trans (V.Kp.trans (dk.mono ?_) (k3'.mono (fun _ _ e => e.elim))) (k4.mono (fun _ _ e => .inr (.inr (.inr e))))) (kk.mono ?_)
      · exact fun b _ e => .inr (.inr (.inl e))
      · rintro b _ (e | e | e)
        · exact .inl e
        · exact .inr (.inl e)
        · exact .inr (.inr (.inl e))
    refine hgo _ _ kt ?_ ⟨?_, ?_, ?_, ?_, ⟨q4, d4', ?_, ?_, hq4⟩, ?_⟩ (((gl.set _ _).set _ _).put _)
    · rintro b (e | e | e | e)
      · exact ⟨fun h => by have h : b = _ := h; omega, by omega⟩
      · exact ⟨fun h => by have h : b = _ := h; omega, by omega⟩
      · exact ⟨fun h => by have h : b = _ := h; omega, by omega⟩
      · have := hq b e
        exact ⟨fun h => by have h : b = _ := h; omega, by omega⟩
    · exact V.Kp.blk kk g0 (by omega)
    · exact V.Kp.blk kk g1 (by omega)
    · exact V.Kp.blk kk g2 (by omega)
    · rw [f2]
      exact ((g4.set_ne (by omega) _).set 0 _).putO (by omega) _
    · exact ((g3.set 1 _).set_ne (by omega) _).putO (by omega) _
    · exact hr4.kp kk (fun b hb e => by have := hq4 b hb; omega)
    · refine V.Kp.then kp kt ?_
      rintro i hi (e | e | e | e)
      · omega
      · omega
      · omega
      · have := hq i e; omega
  · rintro w' hI hd hsz
    rw [pItems, List.length_map] at hI
    obtain ⟨b0, b1, b2, b4, ⟨q, d, b3, hr, hq⟩, kp⟩ := hI
    subst hn
    rw [← hlo, List.take_length] at hr
    rw [← hlo] at b3
    show V.ldInt _ _ _ _
    refine V.lI ?_ b3 rfl
    refine V.lL ?_ b3 rfl
    refine V.sC ?_ b2 (by show 0 < 2; omega)
    refine V.sC ?_ (b2.set 0 _) (by show 1 < 2; omega)
    rw [V.finD_one]
    refine And.intro ((hd.set _ _).set _ _) ?_
    refine V.lI ?_ (((b2.set 0 _).set 1 _).putO (by omega) _) rfl
    refine V.lL ?_ (((b2.set 0 _).set 1 _).putO (by omega) _) rfl
    have kk : V.Kp (fun b => b = w.heap.size + 2 ∨ b = w.heap.size + 6) w' (V.putO ((w'.setCell ⟨w.heap.size + 1 + 1, 0, none⟩ (.int .i64 (xs.length : Int))).setCell ⟨w.heap.size + 1 + 1, 1, none⟩ (.slice q (Mk.ofR xs).length d)) (w.heap.size + 6) (.deferred none)) :=
      V.Kp.putO (V.Kp.set (V.Kp.set (V.Kp.refl _ _) (.inl (.inl rfl)) _) (.inl (.inl rfl)) _) (.inl (.inr rfl)) _
    refine hc q d _ (hr.kp kk (fun b hb e => by have := hq b hb; omega)) (hq.le (by omega)) (V.Kp.then kp kk (fun i hi e => by omega))
end Go.Proofs.Ytboifenkbhfnfaa
