/- the reference's tiles; slices.Chunk; tile.level. -/
import Derived.Test.YtboifenkbhfnfaaTile
import Derived.Test.YtboifenkbhfnfaaRanC
set_option linter.all false
set_option maxRecDepth 100000
namespace Go.Proofs.Ytboifenkbhfnfaa
open Go
theorem power_spec (k : Nat) (hk : k ≤ 3) (w : World) (C : Value → World → Prop) (hc : C (.int .i64 ((4 ^ k : Nat) : Int)) w) :
    V.CallsR Try.prog 76 #[.int .i64 (k : Int)] w C := by
  refine V.calls_of_fnVC (args := [_]) Try.func76 ?_
  rw [vc_annalistref07_Power]
  refine ⟨fun x i => ⟨fun w' => w' = w ∧ ∃ j : Nat, i = (j : Int) ∧ j ≤ k ∧ x = ((4 ^ j : Nat) : Int), fun _ => k - i.toNat⟩, ⟨rfl, 0, rfl, by omega, rfl⟩, ?_⟩
  rintro _ x i w1 ⟨rfl, j, rfl, hj, rfl⟩
  refine V.ifB_of (fun hq => ?_) (fun hq => ?_) <;> simp only [V.ilt_t, V.ilt_f, V.ile_t, V.ile_f, V.igt_t, V.igt_f, V.ige_t, V.ige_f, V.ieq_t, V.ieq_f, V.ine_t, V.ine_f, V.isNil_t, V.isNil_f, V.bnot_eq, Bool.not_eq_true', Bool.not_eq_false', V.seq_t, V.seq_f] at hq
  · have e1 : V.imul .i64 ((4 ^ j : Nat) : Int) 4 = ((4 ^ (j + 1) : Nat) : Int) := by
      have : 4 ^ j ≤ 4 ^ 3 := Nat.pow_le_pow_right (by omega) (by omega)
      rw [Nat.pow_succ]
      exact (fun (q : Nat) (hq : q ≤ 64) => by rw [V.imul_i64 (by omega) (by omega)]; omega : ∀ q : Nat, q ≤ 64 → V.imul .i64 (q : Int) 4 = ((q * 4 : Nat) : Int)) _ this
    have e2 : V.iadd .i64 (j : Int) 1 = ((j + 1 : Nat) : Int) := by rw [V.iadd_i64 (by omega) (by omega)]; omega
    rw [e1, e2]
    refine ⟨⟨rfl, j + 1, rfl, by omega, rfl⟩, ?_⟩
    show k - ((j + 1 : Nat) : Int).toNat < k - (j : Int).toNat
    omega
  · obtain rfl : j = k := by omega
    exact hc
theorem rcount_spec (n : Nat) (hn : n ≤ 64) (lv : Int) (w : World) (C : Value → World → Prop) (hc : C (.int .i64 (Tl.cnt n lv : Int)) w) :
    V.CallsR Try.prog 50 #[.int .i64 (n : Int), .int .i64 lv] w C := by
  refine V.calls_of_fnVC (args := [_, _]) Try.func50 ?_
  rw [vc_annalistref07_Count]
  refine V.ifB_of (fun hq => ?_) (fun hq => ?_) <;> simp only [V.ilt_t, V.ilt_f, V.ile_t, V.ile_f, V.igt_t, V.igt_f, V.ige_t, V.ige_f, V.ieq_t, V.ieq_f, V.ine_t, V.ine_f, V.isNil_t, V.isNil_f, V.bnot_eq, Bool.not_eq_true', Bool.not_eq_false', V.seq_t, V.seq_f] at hq
  · omega
  refine V.ifB_of (fun hq => ?_) (fun hq => ?_) <;> simp only [V.ilt_t, V.ilt_f, V.ile_t, V.ile_f, V.igt_t, V.igt_f, V.ige_t, V.ige_f, V.ieq_t, V.ieq_f, V.ine_t, V.ine_f, V.isNil_t, V.isNil_f, V.bnot_eq, Bool.not_eq_true', Bool.not_eq_false', V.seq_t, V.seq_f] at hq
  · omega
  refine V.ifB_of (fun hq => ?_) (fun hq => ?_) <;> simp only [V.ilt_t, V.ilt_f, V.ile_t, V.ile_f, V.igt_t, V.igt_f, V.ige_t, V.ige_f, V.ieq_t, V.ieq_f, V.ine_t, V.ine_f, V.isNil_t, V.isNil_f, V.bnot_eq, Bool.not_eq_true', Bool.not_eq_false', V.seq_t, V.seq_f] at hq
  · rw [show Tl.cnt n lv = 0 by unfold Tl.cnt; rw [if_pos hq]] at hc
    exact hc
  refine V.ifB_of (fun hq => ?_) (fun hq => ?_) <;> simp only [V.ilt_t, V.ilt_f, V.ile_t, V.ile_f, V.igt_t, V.igt_f, V.ige_t, V.ige_f, V.ieq_t, V.ieq_f, V.ine_t, V.ine_f, V.isNil_t, V.isNil_f, V.bnot_eq, Bool.not_eq_true', Bool.not_eq_false', V.seq_t, V.seq_f] at hq
  · have : Tl.cnt n lv = 0 := by
      unfold Tl.cnt
      rw [if_neg (by omega)]
      have : 4 ^ 4 ≤ 4 ^ lv.toNat := Nat.pow_le_pow_right (by omega) (by omega)
      exact Nat.div_eq_of_lt (by omega)
    rw [this] at hc
    exact hc
  obtain ⟨k, rfl⟩ : ∃ k : Nat, lv = (k : Int) := ⟨lv.toNat, by omega⟩
  refine power_spec k (by omega) w _ ?_
  (try simp only [V.nptr_eq, V.vBool_mk, V.vInt_mk, V.vStr_mk, V.vPtr_mk, V.vMap_mk, V.vSlice_mk, V.bnot_eq, V.nilCk_mk, V.aadd_mk, V.size_alloc, V.size_drew, V.size_setCell, V.nmul_eq, V.inat_nat, V.inat_lit, Nat.mul_one, Nat.reduceMul, Nat.reduceAdd, V.and_assoc', V.true_and', V.ifB_t, V.ifB_f, V.isNil_some, V.isNil_none, Bool.not_true, Bool.not_false, Nat.zero_add, Nat.add_zero])
  have hp : 0 < 4 ^ k := Nat.pow_pos (by omega)
  refine And.intro (by unfold V.inz; omega) ?_
  have e : V.iquo .i64 (n : Int) ((4 ^ k : Nat) : Int) = (Tl.cnt n (k : Int) : Int) := by
    unfold V.iquo
    rw [IntWalk.up_tdiv rfl rfl, Tl.cnt_nat]
    have := Nat.div_le_self n (4 ^ k)
    exact (fun (z : Nat) (hz : z ≤ n) => V.wrap_i64 (x := (z : Int)) (by omega) (by omega)) _ this
  rw [e]
  exact hc
theorem rwidth_spec (n : Nat) (hn : n ≤ 64) (lv ix : Int) (w : World) (C : Value → World → Prop) (hc : C (.int .i64 (Tl.wd n lv ix : Int)) w) :
    V.CallsR Try.prog 20 #[.int .i64 (n : Int), .int .i64 lv, .int .i64 ix] w C := by
  refine V.calls_of_fnVC (args := [_, _, _]) Try.func20 ?_
  rw [vc_annalistref07_Width]
  refine rcount_spec n hn lv w _ ?_
  have hcl := Tl.cnt_le n lv
  (try simp only [V.nptr_eq, V.vBool_mk, V.vInt_mk, V.vStr_mk, V.vPtr_mk, V.vMap_mk, V.vSlice_mk, V.bnot_eq, V.nilCk_mk, V.aadd_mk, V.size_alloc, V.size_drew, V.size_setCell, V.nmul_eq, V.inat_nat, V.inat_lit, Nat.mul_one, Nat.reduceMul, Nat.reduceAdd, V.and_assoc', V.true_and', V.ifB_t, V.ifB_f, V.isNil_some, V.isNil_none, Bool.not_true, Bool.not_false, Nat.zero_add, Nat.add_zero])
  refine ⟨fun x i => ⟨fun w' => w' = w ∧ ∃ j : Nat, i = (j : Int) ∧ j ≤ Tl.cnt n lv ∧ x = ((if ix < 0 then 0 else min (j - 4 * ix.toNat) 4 : Nat) : Int), fun _ => Tl.cnt n lv - i.toNat⟩, ⟨rfl, 0, rfl, by omega, by split <;> simp⟩, ?_⟩
  rintro _ x i w1 ⟨rfl, j, rfl, hj, rfl⟩
  refine V.ifB_of (fun hq => ?_) (fun hq => ?_) <;> simp only [V.ilt_t, V.ilt_f, V.ile_t, V.ile_f, V.igt_t, V.igt_f, V.ige_t, V.ige_f, V.ieq_t, V.ieq_f, V.ine_t, V.ine_f, V.isNil_t, V.isNil_f, V.bnot_eq, Bool.not_eq_true', Bool.not_eq_false', V.seq_t, V.seq_f] at hq
  · refine And.intro (by unfold V.inz; omega) ?_
    have eq : V.iquo .i64 (j : Int) 4 = ((j / 4 : Nat) : Int) := by
      unfold V.iquo
      rw [show (4 : Int) = ((4 : Nat) : Int) from rfl, IntWalk.up_tdiv rfl rfl]
      exact V.wrap_i64 (by omega) (by omega)
    have e2 : V.iadd .i64 (j : Int) 1 = ((j + 1 : Nat) : Int) := by rw [V.iadd_i64 (by omega) (by omega)]; omega
    rw [eq, e2]
    have hm : Tl.cnt n lv - ((j + 1 : Nat) : Int).toNat < Tl.cnt n lv - (j : Int).toNat := by omega
    refine V.ifB_of (fun hq2 => ?_) (fun hq2 => ?_) <;> simp only [V.ilt_t, V.ilt_f, V.ile_t, V.ile_f, V.igt_t, V.igt_f, V.ige_t, V.ige_f, V.ieq_t, V.ieq_f, V.ine_t, V.ine_f, V.isNil_t, V.isNil_f, V.bnot_eq, Bool.not_eq_true', Bool.not_eq_false', V.seq_t, V.seq_f] at hq2
    · refine ⟨⟨rfl, j + 1, rfl, by omega, ?_⟩, hm⟩
      rw [if_neg (show ¬ ix < 0 by omega), if_neg (show ¬ ix < 0 by omega), V.iadd_i64 (by omega) (by omega)]
      omega
    · refine ⟨⟨rfl, j + 1, rfl, by omega, ?_⟩, hm⟩
      split
      · rfl
      · omega
  · obtain rfl : j = Tl.cnt n lv := by omega
    exact hc
theorem hash_spec (xs : List ByteArray) (hlen : xs.length ≤ 64) (hB : ∀ x ∈ xs, x.size ≤ 1000000) (k j : Nat) (hk : k ≤ 3) (hj : (j + 1) * 4 ^ k ≤ xs.length) (p : Option Addr) (n c : Nat) (w : World) (hn : n = xs.length) (hnc : n ≤ c) (hs : StrAt w p xs) (C : Value → World → Prop)
    (hc : ∀ w', V.Kp V.Nil w w' → C (.string (Tl.hs xs k j)) w') :
    V.CallsR Try.prog 51 #[.slice p n c, .int .i64 (k : Int), .int .i64 (j : Int)] w C := by
  refine V.calls_of_fnVC (args := [_, _, _]) Try.func51 ?_
  rw [vc_annalistref07_Hash]
  refine power_spec k hk w _ ?_
  have hp : 0 < 4 ^ k := Nat.pow_pos (by omega)
  have h1 : (j + 1) * 4 ^ k = j * 4 ^ k + 4 ^ k := by rw [Nat.add_mul, Nat.one_mul]
  have hjl : j ≤ j * 4 ^ k := Nat.le_mul_of_pos_right _ hp
  unfold Tl.hs at hc
  rw [V.vInt_mk]
  generalize 4 ^ k = m at *
  have e1 : V.imul .i64 (j : Int) (m : Int) = ((j * m : Nat) : Int) := by
    rw [V.imul_i64, Int.natCast_mul]
    · rw [← Int.natCast_mul]; omega
    · rw [← Int.natCast_mul]; omega
  rw [e1]
  generalize j * m = a at *
  have e2 : V.iadd .i64 (a : Int) (m : Int) = ((a + m : Nat) : Int) := by rw [V.iadd_i64 (by omega) (by omega)]; omega
  rw [e2]
  refine And.intro (by unfold V.inR; omega) (And.intro (by unfold V.inR; rw [V.inat_nat]; omega) ?_)
  rw [V.inat_nat, V.inat_nat]
  refine rroot_spec m ((xs.drop a).take m) (by rw [List.length_take, List.length_drop]; omega) (by omega) (fun x hx => hB x (List.mem_of_mem_drop (List.mem_of_mem_take hx))) _ _ _ _ (by unfold V.nsub; rw [List.length_take, List.length_drop]; omega) (by unfold V.nsub; omega) (hs.sub (by omega) a m) _ ?_
  intro w1 k1
  (try simp only [V.nptr_eq, V.vBool_mk, V.vInt_mk, V.vStr_mk, V.vPtr_mk, V.vMap_mk, V.vSlice_mk, V.bnot_eq, V.nilCk_mk, V.aadd_mk, V.size_alloc, V.size_drew, V.size_setCell, V.nmul_eq, V.inat_nat, V.inat_lit, Nat.mul_one, Nat.reduceMul, Nat.reduceAdd, V.and_assoc', V.true_and', V.ifB_t, V.ifB_f, V.isNil_some, V.isNil_none, Bool.not_true, Bool.not_false, Nat.zero_add, Nat.add_zero])
  exact hc w1 k1
/-! ### Chunk -/
def cItems (p : Option Addr) (n : Nat) : List (List Value) := (List.range ((n + 3) / 4)).map fun (j : Nat) => [Value.slice (V.slAdr p (min (4 * j + 4) n) (4 * j) 1) (min (4 * j + 4) n - 4 * j) (min (4 * j + 4) n - 4 * j)]
theorem chunk_spec (p : Option Addr) (n c : Nat) (w : World) (C : Value → World → Prop) (hc : C (.func (.func 113) #[] #[.pointer (some ⟨w.heap.size, 0, none⟩), .pointer (some ⟨w.heap.size + 1, 0, none⟩)]) ((w.alloc (.cells #[.slice p n c] 22)).alloc (.cells #[.int .i64 4] 3))) :
    V.CallsR Try.prog 98 #[.slice p n c, .int .i64 4] w C := by
  refine V.calls_of_fnVC (args := [_, _]) Try.func98 ?_
  rw [vc_slices_Chunk_string]
  simp only [V.nptr_eq, V.vBool_mk, V.vInt_mk, V.vStr_mk, V.vPtr_mk, V.vMap_mk, V.vSlice_mk, V.bnot_eq, V.nilCk_mk, V.aadd_mk, V.size_alloc, V.size_drew, V.size_setCell, V.nmul_eq, V.inat_nat, V.inat_lit, Nat.mul_one, Nat.reduceMul, Nat.reduceAdd, V.and_assoc', V.true_and', V.ifB_t, V.ifB_f, V.isNil_some, V.isNil_none, Bool.not_true, Bool.not_false, Nat.zero_add, Nat.add_zero]
  repeat (first | with_reducible refine V.lI ?_ | with_reducible refine V.lS ?_ | with_reducible refine V.lP ?_ | with_reducible refine V.lL ?_ | with_reducible refine V.lM ?_ | with_reducible refine V.lB ?_ | with_reducible refine V.sC ?_ | with_reducible refine V.lG ?_ | ((with_reducible refine And.intro ?_ ?_); (· first | with_reducible exact V.hC | with_reducible exact V.hB | (simp only [V.inX, V.inR, V.inz, V.ige0, V.zi]; omega))) | simp only [V.nptr_eq, V.vBool_mk, V.vInt_mk, V.vStr_mk, V.vPtr_mk, V.vMap_mk, V.vSlice_mk, V.bnot_eq, V.nilCk_mk, V.aadd_mk, V.size_alloc, V.size_drew, V.size_setCell, V.nmul_eq, V.inat_nat, V.inat_lit, Nat.mul_one, Nat.reduceMul, Nat.reduceAdd, V.and_assoc', V.true_and', V.ifB_t, V.ifB_f, V.isNil_some, V.isNil_none, Bool.not_true, Bool.not_false, Nat.zero_add, Nat.add_zero])
  exact hc
theorem chunk_seq (p : Option Addr) (n c : Nat) (hn : n ≤ 1000000) (hnc : n ≤ c) (w : World) (b d : Nat) (hb : V.Blk w b #[.slice p n c] 22) (hd : V.Blk w d #[.int .i64 4] 3) :
    Seq 113 [.pointer (some ⟨b, 0, none⟩), .pointer (some ⟨d, 0, none⟩)] V.Nil (fun i => i = b ∨ i = d) (cItems p n) w := by
  intro v w0 I St C hk h0 hI hr hend hst
  refine V.calls_of_fnVC (args := [_, _, _]) Try.func113 ?_
  rw [vc_slices_Chunk_1_string]
  refine ⟨fun x => ⟨fun w' => ∃ k : Nat, I k w' ∧ V.Blk w' b #[.slice p n c] 22 ∧ V.Blk w' d #[.int .i64 4] 3 ∧ x = ((4 * k : Nat) : Int) ∧ k ≤ (n + 3) / 4, fun _ => n + 4 - x.toNat⟩, ⟨0, h0, V.Kp.blk hk hb (fun e => e), V.Kp.blk hk hd (fun e => e), rfl, by omega⟩, ?_⟩
  rintro _ x w1 ⟨k, hi, hb1, hd1, rfl, hk2⟩
  (try simp only [V.nptr_eq, V.vBool_mk, V.vInt_mk, V.vStr_mk, V.vPtr_mk, V.vMap_mk, V.vSlice_mk, V.bnot_eq, V.nilCk_mk, V.aadd_mk, V.size_alloc, V.size_drew, V.size_setCell, V.nmul_eq, V.inat_nat, V.inat_lit, Nat.mul_one, Nat.reduceMul, Nat.reduceAdd, V.and_assoc', V.true_and', V.ifB_t, V.ifB_f, V.isNil_some, V.isNil_none, Bool.not_true, Bool.not_false, Nat.zero_add, Nat.add_zero])
  refine V.lL ?_ hb1 rfl
  refine V.ifB_of (fun hq => ?_) (fun hq => ?_) <;> simp only [V.ilt_t, V.ilt_f, V.ile_t, V.ile_f, V.igt_t, V.igt_f, V.ige_t, V.ige_f, V.ieq_t, V.ieq_f, V.ine_t, V.ine_f, V.isNil_t, V.isNil_f, V.bnot_eq, Bool.not_eq_true', Bool.not_eq_false', V.seq_t, V.seq_f, V.zi] at hq
  · refine V.lI ?_ hd1.drew rfl
    refine V.lL ?_ hb1.drew rfl
    refine And.intro (by unfold V.inR; omega) ?_
    refine V.lL ?_ hb1.drew rfl
    have em : V.iadd .i64 ((4 * k : Nat) : Int) (V.imin 4 (V.zi (V.nsub n (4 * k)))) = ((min (4 * k + 4) n : Nat) : Int) := by
      have : V.imin 4 (V.zi (V.nsub n (4 * k))) = ((min 4 (n - 4 * k) : Nat) : Int) := by
        unfold V.imin V.zi V.nsub
        split <;> omega
      rw [this, V.iadd_i64 (by omega) (by omega)]; omega
    (try rw [V.inat_nat])
    rw [em]
    (try simp only [V.inat_nat])
    refine And.intro (by unfold V.inR; omega) (And.intro (by unfold V.inR; omega) (And.intro (by unfold V.inR; omega) ?_))
    have hk3 : k < (n + 3) / 4 := by omega
    have hi' := hI k _ w1.drew hi (V.Kp.drew (V.Kp.refl _ _))
    refine callV_mono' (hr k _ w1.drew (by rw [cItems, List.getElem?_map, List.getElem?_range hk3]; rfl) hi') ?_
    rintro r w2 ⟨hsame, hsz, ho⟩
    have hb2 : V.Blk w2 b #[.slice p n c] 22 := (hsame b (.inl rfl)).trans hb1
    have hd2 : V.Blk w2 d #[.int .i64 4] 3 := (hsame d (.inr rfl)).trans hd1
    rcases ho with ⟨rfl, hi2⟩ | ⟨rfl, hst2⟩
    · (try simp only [V.nptr_eq, V.vBool_mk, V.vInt_mk, V.vStr_mk, V.vPtr_mk, V.vMap_mk, V.vSlice_mk, V.bnot_eq, V.nilCk_mk, V.aadd_mk, V.size_alloc, V.size_drew, V.size_setCell, V.nmul_eq, V.inat_nat, V.inat_lit, Nat.mul_one, Nat.reduceMul, Nat.reduceAdd, V.and_assoc', V.true_and', V.ifB_t, V.ifB_f, V.isNil_some, V.isNil_none, Bool.not_true, Bool.not_false, Nat.zero_add, Nat.add_zero])
      refine V.lI ?_ hd2 rfl
      have e4 : V.iadd .i64 ((4 * k : Nat) : Int) 4 = ((4 * (k + 1) : Nat) : Int) := by rw [V.iadd_i64 (by omega) (by omega)]; omega
      rw [e4]
      refine ⟨⟨k + 1, hi2, hb2, hd2, rfl, by omega⟩, ?_⟩
      show n + 4 - ((4 * (k + 1) : Nat) : Int).toNat < n + 4 - ((4 * k : Nat) : Int).toNat
      omega
    · (try simp only [V.nptr_eq, V.vBool_mk, V.vInt_mk, V.vStr_mk, V.vPtr_mk, V.vMap_mk, V.vSlice_mk, V.bnot_eq, V.nilCk_mk, V.aadd_mk, V.size_alloc, V.size_drew, V.size_setCell, V.nmul_eq, V.inat_nat, V.inat_lit, Nat.mul_one, Nat.reduceMul, Nat.reduceAdd, V.and_assoc', V.true_and', V.ifB_t, V.ifB_f, V.isNil_some, V.isNil_none, Bool.not_true, Bool.not_false, Nat.zero_add, Nat.add_zero])
      exact hst _ hst2
  · have : k = (n + 3) / 4 := by omega
    subst this
    refine hend _ ?_
    rw [cItems, List.length_map, List.length_range]
    exact hi
end Go.Proofs.Ytboifenkbhfnfaa
