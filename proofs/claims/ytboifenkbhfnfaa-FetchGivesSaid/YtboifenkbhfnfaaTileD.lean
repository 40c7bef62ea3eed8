/- tile.Cut. -/
import Derived.Test.YtboifenkbhfnfaaTileC
set_option linter.all false
set_option maxRecDepth 100000
namespace Go.Proofs.Ytboifenkbhfnfaa
open Go
def cutL (xs : List ByteArray) (lv ix : Int) : List ByteArray := ((Tl.lv lv.toNat xs).drop (4 * ix.toNat)).take (Tl.wd xs.length lv ix)
theorem wd_ok {n : Nat} (hn : n ≤ 64) {lv ix : Int} (h : Tl.wd n lv ix ≠ 0) : 0 ≤ lv ∧ lv ≤ 3 ∧ 0 ≤ ix ∧ 4 * ix.toNat + Tl.wd n lv ix ≤ n / 4 ^ lv.toNat := by
  obtain ⟨h1, h2, h3⟩ := Tl.wd_pos h
  have hc : Tl.cnt n lv = n / 4 ^ lv.toNat := by unfold Tl.cnt; rw [if_neg (by omega)]
  rw [hc] at h3
  refine ⟨h1, ?_, h2, h3⟩
  rcases Nat.lt_or_ge lv.toNat 4 with h4 | h4
  · omega
  · exfalso
    have : 4 ^ 4 ≤ 4 ^ lv.toNat := Nat.pow_le_pow_right (by omega) h4
    rw [Nat.div_eq_of_lt (by omega)] at h3
    omega
theorem cutL_len {xs : List ByteArray} (hn : xs.length ≤ 64) {lv ix : Int} (h : Tl.wd xs.length lv ix ≠ 0) : (cutL xs lv ix).length = Tl.wd xs.length lv ix := by
  obtain ⟨h1, h2, h3, h4⟩ := wd_ok hn h
  rw [cutL, List.length_take, List.length_drop, Tl.lv_len]; omega
theorem cutL_hs {xs : List ByteArray} (hn : xs.length ≤ 64) {lv ix : Int} (h : Tl.wd xs.length lv ix ≠ 0) : cutL xs lv ix = (List.range (Tl.wd xs.length lv ix)).map fun j => Tl.hs xs lv.toNat (4 * ix.toNat + j) := by
  obtain ⟨h1, h2, h3, h4⟩ := wd_ok hn h
  apply List.ext_getElem?
  intro j
  by_cases hj : j < Tl.wd xs.length lv ix
  · rw [cutL, List.getElem?_take, if_pos hj, List.getElem?_drop, List.getElem?_map, List.getElem?_range hj]
    rw [Tl.lv_get]
    · rfl
    · have : (4 * ix.toNat + j + 1) * 4 ^ lv.toNat ≤ (xs.length / 4 ^ lv.toNat) * 4 ^ lv.toNat := Nat.mul_le_mul_right _ (by omega)
      have := Nat.div_mul_le_self xs.length (4 ^ lv.toNat)
      omega
  · rw [List.getElem?_eq_none (by rw [cutL_len hn h]; omega), List.getElem?_eq_none (by rw [List.length_map, List.length_range]; omega)]
theorem cut_spec (xs : List ByteArray) (hlen : xs.length ≤ 64) (hB : ∀ x ∈ xs, x.size = 32) (lv ix : Int) (p : Option Addr) (n c : Nat) (w : World) (hn : n = xs.length) (hnc : n ≤ c) (hpw : ∀ b, V.blk? p = some b → b < w.heap.size) (hs : StrAt w p xs) (C : Value → World → Prop)
    (hc0 : Tl.wd xs.length lv ix = 0 → ∀ w', V.Kp V.Nil w w' → C (.tuple #[.agg #[.int .i64 0, .int .i64 0, .slice none 0 0], .int .i64 5]) w')
    (hc1 : Tl.wd xs.length lv ix ≠ 0 → ∀ p' c' w', SRow w' p' (cutL xs lv ix).length c' (cutL xs lv ix) → New w.heap.size p' → V.Kp V.Nil w w' → C (.tuple #[.agg #[.int .i64 lv, .int .i64 ix, .slice p' (cutL xs lv ix).length c'], .int .i64 0]) w') :
    V.CallsR Try.prog 49 #[.agg tblC, .slice p n c, .agg #[.int .i64 lv, .int .i64 ix]] w C := by
  subst hn
  refine V.calls_of_fnVC (args := [_, _, _]) Try.func49 ?_
  rw [vc_tile_Cut]
  have ts := tbl_size
  simp only [V.nptr_eq, V.vBool_mk, V.vInt_mk, V.vStr_mk, V.vPtr_mk, V.vMap_mk, V.vSlice_mk, V.bnot_eq, V.nilCk_mk, V.aadd_mk, V.size_alloc, V.size_drew, V.size_setCell, V.nmul_eq, V.inat_nat, V.inat_lit, Nat.mul_one, Nat.reduceMul, Nat.reduceAdd, V.and_assoc', V.true_and', V.ifB_t, V.ifB_f, V.isNil_some, V.isNil_none, Bool.not_true, Bool.not_false, Nat.zero_add, Nat.add_zero]
  repeat (first | with_reducible refine V.lI ?_ | with_reducible refine V.lS ?_ | with_reducible refine V.lP ?_ | with_reducible refine V.lL ?_ | with_reducible refine V.lM ?_ | with_reducible refine V.lB ?_ | with_reducible refine V.sC ?_ | with_reducible refine V.lG ?_ | ((with_reducible refine And.intro ?_ ?_); (· first | with_reducible exact V.hC | with_reducible exact V.hB | (simp only [V.inX, V.inR, V.inz, V.ige0, V.zi]; omega))) | simp only [V.nptr_eq, V.vBool_mk, V.vInt_mk, V.vStr_mk, V.vPtr_mk, V.vMap_mk, V.vSlice_mk, V.bnot_eq, V.nilCk_mk, V.aadd_mk, V.size_alloc, V.size_drew, V.size_setCell, V.nmul_eq, V.inat_nat, V.inat_lit, Nat.mul_one, Nat.reduceMul, Nat.reduceAdd, V.and_assoc', V.true_and', V.ifB_t, V.ifB_f, V.isNil_some, V.isNil_none, Bool.not_true, Bool.not_false, Nat.zero_add, Nat.add_zero])
  rw [show V.zi xs.length = (xs.length : Int) from rfl]
  refine named fun W hW => ?_
  have c0 : V.Blk W w.heap.size tblC 29 := by rw [hW]; exact V.blk
  have c1 : V.Blk W (w.heap.size + 1) #[.int .i64 lv, .int .i64 ix] 40 := by rw [hW]; exact V.blk
  have c2 : V.Blk W (w.heap.size + 1 + 1) #[.int .i64 0, .int .i64 0, .slice none 0 0] 94 := by rw [hW]; exact V.blk
  have ck : V.Kp V.Nil w W := by rw [hW]; exact V.kp
  have cz : W.heap.size = w.heap.size + 3 := by rw [hW]; simp only [V.size_alloc, V.size_drew, V.size_setCell]
  clear hW
  refine width_spec xs.length hlen lv ix W _ ?_
  intro w1 k1
  have d0 := V.Kp.blk k1 c0 (fun e => e)
  have d1 := V.Kp.blk k1 c1 (fun e => e)
  have d2 := V.Kp.blk k1 c2 (fun e => e)
  have dk := V.Kp.trans ck k1
  have z1 := k1.size
  clear c0 c1 c2
  (try simp only [V.nptr_eq, V.vBool_mk, V.vInt_mk, V.vStr_mk, V.vPtr_mk, V.vMap_mk, V.vSlice_mk, V.bnot_eq, V.nilCk_mk, V.aadd_mk, V.size_alloc, V.size_drew, V.size_setCell, V.nmul_eq, V.inat_nat, V.inat_lit, Nat.mul_one, Nat.reduceMul, Nat.reduceAdd, V.and_assoc', V.true_and', V.ifB_t, V.ifB_f, V.isNil_some, V.isNil_none, Bool.not_true, Bool.not_false, Nat.zero_add, Nat.add_zero])
  refine V.ifB_of (fun hq => ?_) (fun hq => ?_) <;> simp only [V.ilt_t, V.ilt_f, V.ile_t, V.ile_f, V.igt_t, V.igt_f, V.ige_t, V.ige_f, V.ieq_t, V.ieq_f, V.ine_t, V.ine_f, V.isNil_t, V.isNil_f, V.bnot_eq, Bool.not_eq_true', Bool.not_eq_false', V.seq_t, V.seq_f] at hq
  · have h0 : Tl.wd xs.length lv ix = 0 := by omega
    refine V.sC ?_ d2 (by show 0 < 3; omega)
    refine V.sC ?_ V.blk (by rw [Array.size_setIfInBounds]; show 1 < 3; omega)
    refine V.sC ?_ V.blk (by rw [Array.size_setIfInBounds, Array.size_setIfInBounds]; show 2 < 3; omega)
    (try simp only [V.nptr_eq, V.vBool_mk, V.vInt_mk, V.vStr_mk, V.vPtr_mk, V.vMap_mk, V.vSlice_mk, V.bnot_eq, V.nilCk_mk, V.aadd_mk, V.size_alloc, V.size_drew, V.size_setCell, V.nmul_eq, V.inat_nat, V.inat_lit, Nat.mul_one, Nat.reduceMul, Nat.reduceAdd, V.and_assoc', V.true_and', V.ifB_t, V.ifB_f, V.isNil_some, V.isNil_none, Bool.not_true, Bool.not_false, Nat.zero_add, Nat.add_zero])
    refine V.lI ?_
    refine V.lI ?_
    refine V.lL ?_
    exact hc0 h0 _ (V.Kp.set (V.Kp.set (V.Kp.set dk (.inr (by omega)) _) (.inr (by omega)) _) (.inr (by omega)) _)
  have hne : Tl.wd xs.length lv ix ≠ 0 := by omega
  obtain ⟨h1, h2, h3, h4⟩ := wd_ok hlen hne
  have h5 := Nat.div_le_self xs.length (4 ^ lv.toNat)
  have hlvl := Tl.lv_len lv.toNat xs
  obtain ⟨k, rfl⟩ : ∃ k : Nat, lv = (k : Int) := ⟨lv.toNat, by omega⟩
  obtain ⟨i, rfl⟩ : ∃ i : Nat, ix = (i : Int) := ⟨ix.toNat, by omega⟩
  have e1 : V.imul .i64 (i : Int) 4 = ((4 * i : Nat) : Int) := by rw [V.imul_i64 (by omega) (by omega)]; omega
  have e2 : V.iadd .i64 ((4 * i : Nat) : Int) (Tl.wd xs.length (k : Int) (i : Int) : Int) = ((4 * i + Tl.wd xs.length (k : Int) (i : Int) : Nat) : Int) := by rw [V.iadd_i64 (by omega) (by omega)]; omega
  refine V.lI ?_ d1 rfl
  rw [e1, e2]
  refine V.lI ?_ d1.drew rfl
  refine V.lI ?_ d1.drew rfl
  refine V.lG ?_ d0.drew
  refine V.lI ?_ d1.drew rfl
  refine level_spec xs (by omega) hB k (by omega) p _ c _ rfl hnc (fun b hb => by have := hpw b hb; have e := V.size_drew w1; omega) (hs.keep dk.drew) _ ?_
  intro p2 n2 c2' w2 hn2 hnc2 hst2 k2'
  have k2 : V.Kp V.Nil w1 w2 := V.Kp.trans (V.Kp.drew (V.Kp.refl _ _)) k2'
  have f1 := V.Kp.blk k2 d1 (fun e => e)
  have f2 := V.Kp.blk k2 d2 (fun e => e)
  have z2 := k2.size
  (try simp only [V.nptr_eq, V.vBool_mk, V.vInt_mk, V.vStr_mk, V.vPtr_mk, V.vMap_mk, V.vSlice_mk, V.bnot_eq, V.nilCk_mk, V.aadd_mk, V.size_alloc, V.size_drew, V.size_setCell, V.nmul_eq, V.inat_nat, V.inat_lit, Nat.mul_one, Nat.reduceMul, Nat.reduceAdd, V.and_assoc', V.true_and', V.ifB_t, V.ifB_f, V.isNil_some, V.isNil_none, Bool.not_true, Bool.not_false, Nat.zero_add, Nat.add_zero])
  refine And.intro (V.hC f1 rfl) (And.intro (V.hC f1 rfl) ?_)
  simp only [Int.toNat_natCast] at h4 h5 hlvl
  refine And.intro (by unfold V.inR; omega) (And.intro (by unfold V.inR; (try rw [V.inat_nat]); omega) ?_)
  (try simp only [V.inat_nat])
  have hcl := cutL_len hlen hne
  refine clone_spec (cutL xs (k : Int) (i : Int)) _ _ _ (by rw [hcl]; unfold V.nsub; omega) (by unfold V.nsub; omega) w2 ?_ _ ?_
  · have := hst2.sub (c := c2') (by rw [← hn2]; exact hnc2) (4 * i) (Tl.wd xs.length (k : Int) (i : Int))
    exact this
  intro p3 c3 w3 hr3 hp3 k3
  have g1 := V.Kp.blk k3 f1 (fun e => e)
  have g2 := V.Kp.blk k3 f2 (fun e => e)
  have z3 := k3.size
  have en : V.nsub (4 * i + Tl.wd xs.length (k : Int) (i : Int)) (4 * i) = (cutL xs (k : Int) (i : Int)).length := by rw [hcl]; unfold V.nsub; omega
  rw [en] at hr3 ⊢
  (try simp only [V.nptr_eq, V.vBool_mk, V.vInt_mk, V.vStr_mk, V.vPtr_mk, V.vMap_mk, V.vSlice_mk, V.bnot_eq, V.nilCk_mk, V.aadd_mk, V.size_alloc, V.size_drew, V.size_setCell, V.nmul_eq, V.inat_nat, V.inat_lit, Nat.mul_one, Nat.reduceMul, Nat.reduceAdd, V.and_assoc', V.true_and', V.ifB_t, V.ifB_f, V.isNil_some, V.isNil_none, Bool.not_true, Bool.not_false, Nat.zero_add, Nat.add_zero])
  refine And.intro (V.hC g1 rfl) (And.intro (V.hC g1 rfl) ?_)
  refine V.sC ?_ g2 (by show 0 < 3; omega)
  refine V.sC ?_ V.blk (by rw [Array.size_setIfInBounds]; show 1 < 3; omega)
  refine V.sC ?_ V.blk (by rw [Array.size_setIfInBounds, Array.size_setIfInBounds]; show 2 < 3; omega)
  (try simp only [V.nptr_eq, V.vBool_mk, V.vInt_mk, V.vStr_mk, V.vPtr_mk, V.vMap_mk, V.vSlice_mk, V.bnot_eq, V.nilCk_mk, V.aadd_mk, V.size_alloc, V.size_drew, V.size_setCell, V.nmul_eq, V.inat_nat, V.inat_lit, Nat.mul_one, Nat.reduceMul, Nat.reduceAdd, V.and_assoc', V.true_and', V.ifB_t, V.ifB_f, V.isNil_some, V.isNil_none, Bool.not_true, Bool.not_false, Nat.zero_add, Nat.add_zero])
  refine V.lI ?_
  refine V.lI ?_
  refine V.lL ?_
  have kk : V.Kp (V.One (w.heap.size + 1 + 1)) w3 (((w3.setCell ⟨w.heap.size + 1 + 1, 0, none⟩ (.int .i64 (k : Int))).setCell ⟨w.heap.size + 1 + 1, 1, none⟩ (.int .i64 (i : Int))).setCell ⟨w.heap.size + 1 + 1, 2, none⟩ (.slice p3 (cutL xs (k : Int) (i : Int)).length c3)) :=
    V.Kp.set (S := V.One (w.heap.size + 1 + 1)) (V.Kp.set (S := V.One (w.heap.size + 1 + 1)) (V.Kp.set (S := V.One (w.heap.size + 1 + 1)) (V.Kp.refl _ _) (.inl rfl) _) (.inl rfl) _) (.inl rfl) _
  refine hc1 hne p3 c3 _ (hr3.kp kk (fun b hb e => by have := hp3 b hb; have e : b = _ := e; omega)) (hp3.le (by omega)) ?_
  exact V.Kp.then (V.Kp.trans (V.Kp.trans dk k2) k3) kk (fun b hb e => by have e : b = _ := e; omega)
end Go.Proofs.Ytboifenkbhfnfaa
