/- The law RangesOf. -/
import Derived.Test.YtboifenkbhfnfaaVLaw06
import Derived.Test.YtboifenkbhfnfaaRef6
set_option linter.all false
set_option maxRecDepth 100000
namespace Go.Proofs.Ytboifenkbhfnfaa
open Go
theorem awake6_spec (w : World) (C : Value → World → Prop) (hc : ∀ w', V.Kp V.Nil w w' → C (.bool true) w') :
    V.CallsR Try.prog 10 #[] w C := by
  refine V.calls_of_fnVC (args := []) Try.func10 ?_
  rw [vc_annalistlaw06_awake]
  refine stretches_spec 5 (by omega) w _ ?_
  intro p c w1 hr hp k1
  have e : Mk.pows 5 = [4, 1] := by decide +kernel
  rw [e] at hr
  rw [e]
  rw [V.vSlice_mk]
  refine V.ifB_of (fun hq => ?_) (fun hq => ?_) <;> simp only [V.ilt_t, V.ilt_f, V.ile_t, V.ile_f, V.igt_t, V.igt_f, V.ige_t, V.ige_f, V.ieq_t, V.ieq_f, V.ine_t, V.ine_f, V.isNil_t, V.isNil_f, V.bnot_eq, Bool.not_eq_true', Bool.not_eq_false', V.seq_t, V.seq_f, V.zi, List.length_cons, List.length_nil] at hq
  · refine hr.load (i := 0) (x := 4) rfl ?_
    refine V.ifB_of (fun hq => ?_) (fun hq => ?_) <;> simp only [V.ilt_t, V.ilt_f, V.ile_t, V.ile_f, V.igt_t, V.igt_f, V.ige_t, V.ige_f, V.ieq_t, V.ieq_f, V.ine_t, V.ine_f, V.isNil_t, V.isNil_f, V.bnot_eq, Bool.not_eq_true', Bool.not_eq_false', V.seq_t, V.seq_f] at hq
    · refine hr.load (i := 1) (x := 1) rfl ?_
      exact hc w1 k1
    · omega
  · omega
theorem leafs_ok {xs : List ByteArray} : ∀ x ∈ Mk.leaves xs, x.size = 32 := by
  intro x hx
  obtain ⟨y, _, rfl⟩ := List.mem_map.1 hx
  exact Mk.leaf_size y
set_option maxHeartbeats 1000000 in
theorem rof_law (p : Option Addr) (c : Nat) (xs : List ByteArray) (hn2 : xs.length ≤ 9223372036854775807) (hnc : xs.length ≤ c) (w : World) (hs : StrAt w p xs) (C : Value → World → Prop) (hc : ∀ w', V.Kp V.Nil w w' → C (.bool true) w') :
    V.CallsR Try.prog 5 #[.slice p xs.length c] w C := by
  refine V.calls_of_fnVC (args := [_]) Try.func5 ?_
  rw [vc_annalistlaw06_RangesOf]
  refine awake6_spec _ _ ?_
  intro w1 k1
  simp only [V.nptr_eq, V.vBool_mk, V.vInt_mk, V.vStr_mk, V.vPtr_mk, V.vMap_mk, V.vSlice_mk, V.bnot_eq, V.nilCk_mk, V.aadd_mk, V.size_alloc, V.size_drew, V.size_setCell, V.nmul_eq, V.inat_nat, V.inat_lit, Nat.mul_one, Nat.reduceMul, Nat.reduceAdd, V.and_assoc', V.true_and', V.ifB_t, V.ifB_f, V.isNil_some, V.isNil_none, Bool.not_true, Bool.not_false, Nat.zero_add, Nat.add_zero]
  refine few_spec p xs.length c xs rfl hn2 64 60 (by omega) w1 (hs.keep k1) _ ?_
  simp only [V.nptr_eq, V.vBool_mk, V.vInt_mk, V.vStr_mk, V.vPtr_mk, V.vMap_mk, V.vSlice_mk, V.bnot_eq, V.nilCk_mk, V.aadd_mk, V.size_alloc, V.size_drew, V.size_setCell, V.nmul_eq, V.inat_nat, V.inat_lit, Nat.mul_one, Nat.reduceMul, Nat.reduceAdd, V.and_assoc', V.true_and', V.ifB_t, V.ifB_f, V.isNil_some, V.isNil_none, Bool.not_true, Bool.not_false, Nat.zero_add, Nat.add_zero]
  refine V.ifB_of (fun hq => ?_) (fun hq => ?_) <;> simp only [V.bnot_eq, Bool.not_eq_true', Bool.not_eq_false', decide_eq_true_eq, decide_eq_false_iff_not] at hq
  · refine awake6_spec _ _ ?_
    intro w2 k2
    simp only [V.nptr_eq, V.vBool_mk, V.vInt_mk, V.vStr_mk, V.vPtr_mk, V.vMap_mk, V.vSlice_mk, V.bnot_eq, V.nilCk_mk, V.aadd_mk, V.size_alloc, V.size_drew, V.size_setCell, V.nmul_eq, V.inat_nat, V.inat_lit, Nat.mul_one, Nat.reduceMul, Nat.reduceAdd, V.and_assoc', V.true_and', V.ifB_t, V.ifB_f, V.isNil_some, V.isNil_none, Bool.not_true, Bool.not_false, Nat.zero_add, Nat.add_zero]
    exact hc w2 (V.Kp.trans k1 k2)
  obtain ⟨hlen, hB⟩ := hq
  refine make_spec _ _ ?_
  intro w2 k2
  have ts := tbl_size
  rw [V.vArr_mk ts]
  (try simp only [V.nptr_eq, V.vBool_mk, V.vInt_mk, V.vStr_mk, V.vPtr_mk, V.vMap_mk, V.vSlice_mk, V.bnot_eq, V.nilCk_mk, V.aadd_mk, V.size_alloc, V.size_drew, V.size_setCell, V.nmul_eq, V.inat_nat, V.inat_lit, Nat.mul_one, Nat.reduceMul, Nat.reduceAdd, V.and_assoc', V.true_and', V.ifB_t, V.ifB_f, V.isNil_some, V.isNil_none, Bool.not_true, Bool.not_false, Nat.zero_add, Nat.add_zero])
  refine V.stBig_w (V.Blk.new _ _ _) (by kernel_rfl) (by kernel_rfl) (by kernel_rfl) (u32C_one _) ?_
  intro w3 b3 k3 z3
  rw [V.size_alloc] at z3
  have kw3 : V.Kp V.Nil w w3 := V.Kp.then (V.Kp.alloc (V.Kp.trans k1 k2) _) k3 (fun i hi e => by have e : i = _ := e; have := k1.size; have := k2.size; omega)
  refine leaves_spec xs (by omega) (fun x hx => by have := hB x hx; omega) p _ c w3 rfl (hs.keep kw3) _ ?_
  intro pl cl w4 hl hpl k4
  have hll : (Mk.leaves xs).length = xs.length := by simp [Mk.leaves]
  have hl32 : ∀ x ∈ Mk.leaves xs, x.size ≤ 1000000 := fun x hx => by have := leafs_ok x hx; omega
  have ho32 : ∀ x ∈ Mk.ofR (Mk.leaves xs), x.size = 32 := fun x hx => Mk.ofR_32 _ (Mk.leaves xs) rfl leafs_ok x hx
  have hlo := Mk.ofR_length _ (Mk.leaves xs) rfl
  rw [hll] at hlo
  have hpl2 := Mk.pows_le xs.length
  have hT : V.Blk w4 w2.heap.size tblC 29 := V.Kp.blk k4 b3 (fun e => e)
  have kw4 := V.Kp.trans kw3 k4
  (try simp only [V.nptr_eq, V.vBool_mk, V.vInt_mk, V.vStr_mk, V.vPtr_mk, V.vMap_mk, V.vSlice_mk, V.bnot_eq, V.nilCk_mk, V.aadd_mk, V.size_alloc, V.size_drew, V.size_setCell, V.nmul_eq, V.inat_nat, V.inat_lit, Nat.mul_one, Nat.reduceMul, Nat.reduceAdd, V.and_assoc', V.true_and', V.ifB_t, V.ifB_f, V.isNil_some, V.isNil_none, Bool.not_true, Bool.not_false, Nat.zero_add, Nat.add_zero])
  refine V.lG ?_ hT
  refine of_spec (Mk.leaves xs) (by omega) hl32 pl xs.length cl w4 hll.symm hl.le hl.at _ ?_
  intro q d w5 hr5 hq5 k5
  refine ⟨_, _, _, _, rfl, ?_⟩
  (try simp only [V.nptr_eq, V.vBool_mk, V.vInt_mk, V.vStr_mk, V.vPtr_mk, V.vMap_mk, V.vSlice_mk, V.bnot_eq, V.nilCk_mk, V.aadd_mk, V.size_alloc, V.size_drew, V.size_setCell, V.nmul_eq, V.inat_nat, V.inat_lit, Nat.mul_one, Nat.reduceMul, Nat.reduceAdd, V.and_assoc', V.true_and', V.ifB_t, V.ifB_f, V.isNil_some, V.isNil_none, Bool.not_true, Bool.not_false, Nat.zero_add, Nat.add_zero])
  refine V.sC ?_ V.blk (by show 0 < 2; omega)
  refine V.sC ?_ V.blk (by rw [Array.size_setIfInBounds]; show 1 < 2; omega)
  obtain ⟨W, hW⟩ : ∃ W, W = ((w5.alloc (.cells #[.int .i64 0, .slice none 0 0] 33)).setCell ⟨w5.heap.size, 0, none⟩ (.int .i64 (xs.length : Int))).setCell ⟨w5.heap.size, 1, none⟩ (.slice q (Mk.ofR (Mk.leaves xs)).length d) := ⟨_, rfl⟩
  rw [← hW]
  have k5W : V.Kp V.Nil w5 W := by rw [hW]; exact V.kp
  have hg : V.Blk W w5.heap.size #[.int .i64 (xs.length : Int), .slice q (Mk.ofR (Mk.leaves xs)).length d] 33 := by rw [hW]; exact V.bto
  have k4W := V.Kp.trans k5 k5W
  have hTW := V.Kp.blk k4W hT (fun e => e)
  have hlW := hl.keep k4W
  have hrW := hr5.keep k5W
  have kwW := V.Kp.trans kw4 k4W
  clear hW k5W k5 k4W
  (try simp only [V.nptr_eq, V.vBool_mk, V.vInt_mk, V.vStr_mk, V.vPtr_mk, V.vMap_mk, V.vSlice_mk, V.bnot_eq, V.nilCk_mk, V.aadd_mk, V.size_alloc, V.size_drew, V.size_setCell, V.nmul_eq, V.inat_nat, V.inat_lit, Nat.mul_one, Nat.reduceMul, Nat.reduceAdd, V.and_assoc', V.true_and', V.ifB_t, V.ifB_f, V.isNil_some, V.isNil_none, Bool.not_true, Bool.not_false, Nat.zero_add, Nat.add_zero])
  refine V.lI ?_ hg.drew rfl
  refine V.ifB_of (fun hq => ?_) (fun hq => ?_) <;> simp only [V.ilt_t, V.ilt_f, V.ile_t, V.ile_f, V.igt_t, V.igt_f, V.ige_t, V.ige_f, V.ieq_t, V.ieq_f, V.ine_t, V.ine_f, V.isNil_t, V.isNil_f, V.bnot_eq, Bool.not_eq_true', Bool.not_eq_false', V.seq_t, V.seq_f, V.zi] at hq
  rotate_left
  · omega
  refine V.lL ?_ hg.drew rfl
  refine rof_spec (Mk.leaves xs) (by omega) hl32 pl _ cl _ hll.symm hlW.le (hlW.at.keep (V.Kp.drew (V.Kp.refl _ _))) _ ?_
  intro q6 d6 w6 hr6 hq6 k6'
  have k6 : V.Kp V.Nil W w6 := V.Kp.trans (V.Kp.drew (V.Kp.refl _ _)) k6'
  have hg6 := V.Kp.blk k6 hg (fun e => e)
  (try simp only [V.nptr_eq, V.vBool_mk, V.vInt_mk, V.vStr_mk, V.vPtr_mk, V.vMap_mk, V.vSlice_mk, V.bnot_eq, V.nilCk_mk, V.aadd_mk, V.size_alloc, V.size_drew, V.size_setCell, V.nmul_eq, V.inat_nat, V.inat_lit, Nat.mul_one, Nat.reduceMul, Nat.reduceAdd, V.and_assoc', V.true_and', V.ifB_t, V.ifB_f, V.isNil_some, V.isNil_none, Bool.not_true, Bool.not_false, Nat.zero_add, Nat.add_zero])
  refine And.intro (V.hC hg6 rfl) ?_
  refine same2_spec (Mk.ofR (Mk.leaves xs)) (Mk.ofR (Mk.leaves xs)) _ _ _ _ _ _ w6 rfl rfl (by omega) (hrW.at.keep k6) hr6.at _ ?_
  intro w7 k7
  have hg7 := V.Kp.blk k7 hg6 (fun e => e)
  have kW7 := V.Kp.trans k6 k7
  rw [V.vBool_mk, decide_eq_true rfl, V.ifB_t]
  (try simp only [V.nptr_eq, V.vBool_mk, V.vInt_mk, V.vStr_mk, V.vPtr_mk, V.vMap_mk, V.vSlice_mk, V.bnot_eq, V.nilCk_mk, V.aadd_mk, V.size_alloc, V.size_drew, V.size_setCell, V.nmul_eq, V.inat_nat, V.inat_lit, Nat.mul_one, Nat.reduceMul, Nat.reduceAdd, V.and_assoc', V.true_and', V.ifB_t, V.ifB_f, V.isNil_some, V.isNil_none, Bool.not_true, Bool.not_false, Nat.zero_add, Nat.add_zero])
  refine V.lI ?_ hg7 rfl
  refine V.lL ?_ hg7 rfl
  refine rright_spec xs.length hlen (Mk.ofR (Mk.leaves xs)) hlo ho32 q _ d w7 rfl (hrW.at.keep kW7) _ ?_
  intro w8 k8
  have kW8 := V.Kp.trans kW7 k8
  have hg8 := V.Kp.blk k8 hg7 (fun e => e)
  have hT8 := V.Kp.blk kW8 hTW (fun e => e)
  rw [V.vBool_mk, V.ifB_t]
  (try simp only [V.nptr_eq, V.vBool_mk, V.vInt_mk, V.vStr_mk, V.vPtr_mk, V.vMap_mk, V.vSlice_mk, V.bnot_eq, V.nilCk_mk, V.aadd_mk, V.size_alloc, V.size_drew, V.size_setCell, V.nmul_eq, V.inat_nat, V.inat_lit, Nat.mul_one, Nat.reduceMul, Nat.reduceAdd, V.and_assoc', V.true_and', V.ifB_t, V.ifB_f, V.isNil_some, V.isNil_none, Bool.not_true, Bool.not_false, Nat.zero_add, Nat.add_zero])
  refine V.lG ?_ hT8
  refine V.lI ?_ hg8 rfl
  refine V.lL ?_ hg8 rfl
  refine root_spec (Mk.ofR (Mk.leaves xs)) (by omega) (fun x hx => by have := ho32 x hx; omega) _ q _ d w8 rfl hrW.le (hrW.at.keep kW8) _ ?_
  intro w9 k9
  have kW9 := V.Kp.trans kW8 k9
  rw [V.vStr_mk]
  refine rroot_spec xs.length (Mk.leaves xs) hll hlen hl32 pl _ cl w9 hll.symm hlW.le (hlW.at.keep kW9) _ ?_
  intro w10 k10
  rw [V.vStr_mk, V.seq_eq, decide_eq_true (Mk.foldR_of _ (Mk.leaves xs) rfl)]
  exact hc w10 (V.Kp.trans kwW (V.Kp.trans kW9 k10))
end Go.Proofs.Ytboifenkbhfnfaa
