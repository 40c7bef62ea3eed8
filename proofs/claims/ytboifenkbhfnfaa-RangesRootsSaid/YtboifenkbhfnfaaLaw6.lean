/- The laws of ranges: RangesRoots. -/
import Derived.Test.YtboifenkbhfnfaaVLaw06
import Derived.Test.YtboifenkbhfnfaaRanE
set_option linter.all false
set_option maxRecDepth 100000
namespace Go.Proofs.Ytboifenkbhfnfaa
open Go
theorem awake6_spec (w : World) (C : Value → World → Prop) (hc : ∀ w', V.Kp V.Nil w w' → C (.bool true) w') :
    V.CallsR Try.prog 10 #[] w C := by
  refine V.calls_of_fnVC (args := []) Try.func10 ?_
  rw [vc_annalistlaw06_awake]
  refine stretches_spec 5 (by omega) w _ ?_
  intro p c w1 hr hp k1
  have e : Mk.pows 5 = [4, 1] := by decide +kernel
  rw [e] at hr
  rw [e]
  rw [V.vSlice_mk]
  refine V.ifB_of (fun hq => ?_) (fun hq => ?_) <;> simp only [V.ilt_t, V.ilt_f, V.ile_t, V.ile_f, V.igt_t, V.igt_f, V.ige_t, V.ige_f, V.ieq_t, V.ieq_f, V.ine_t, V.ine_f, V.isNil_t, V.isNil_f, V.bnot_eq, Bool.not_eq_true', Bool.not_eq_false', V.seq_t, V.seq_f, V.zi, List.length_cons, List.length_nil] at hq
  · refine hr.load (i := 0) (x := 4) rfl ?_
    refine V.ifB_of (fun hq => ?_) (fun hq => ?_) <;> simp only [V.ilt_t, V.ilt_f, V.ile_t, V.ile_f, V.igt_t, V.igt_f, V.ige_t, V.ige_f, V.ieq_t, V.ieq_f, V.ine_t, V.ine_f, V.isNil_t, V.isNil_f, V.bnot_eq, Bool.not_eq_true', Bool.not_eq_false', V.seq_t, V.seq_f] at hq
    · refine hr.load (i := 1) (x := 1) rfl ?_
      exact hc w1 k1
    · omega
  · omega
theorem leafs_ok {xs : List ByteArray} : ∀ x ∈ Mk.leaves xs, x.size = 32 := by
  intro x hx
  obtain ⟨y, _, rfl⟩ := List.mem_map.1 hx
  exact Mk.leaf_size y
set_option maxHeartbeats 4000000 in
theorem roots_spec (p : Option Addr) (c : Nat) (xs : List ByteArray) (hn2 : xs.length ≤ 9223372036854775807) (hnc : xs.length ≤ c) (leaf : ByteArray) (w : World) (hs : StrAt w p xs) (C : Value → World → Prop) (hc : ∀ w', V.Kp V.Nil w w' → C (.bool true) w') :
    V.CallsR Try.prog 3 #[.slice p xs.length c, .string leaf] w C := by
  refine V.calls_of_fnVC (args := [_, _]) Try.func3 ?_
  rw [vc_annalistlaw06_RangesRoots]
  refine awake6_spec _ _ ?_
  intro w1 k1
  simp only [V.nptr_eq, V.vBool_mk, V.vInt_mk, V.vStr_mk, V.vPtr_mk, V.vMap_mk, V.vSlice_mk, V.bnot_eq, V.nilCk_mk, V.aadd_mk, V.size_alloc, V.size_drew, V.size_setCell, V.nmul_eq, V.inat_nat, V.inat_lit, Nat.mul_one, Nat.reduceMul, Nat.reduceAdd, V.and_assoc', V.true_and', V.ifB_t, V.ifB_f, V.isNil_some, V.isNil_none, Bool.not_true, Bool.not_false, Nat.zero_add, Nat.add_zero]
  refine few_spec p xs.length c xs rfl hn2 63 60 (by omega) w1 (hs.keep k1) _ ?_
  simp only [V.nptr_eq, V.vBool_mk, V.vInt_mk, V.vStr_mk, V.vPtr_mk, V.vMap_mk, V.vSlice_mk, V.bnot_eq, V.nilCk_mk, V.aadd_mk, V.size_alloc, V.size_drew, V.size_setCell, V.nmul_eq, V.inat_nat, V.inat_lit, Nat.mul_one, Nat.reduceMul, Nat.reduceAdd, V.and_assoc', V.true_and', V.ifB_t, V.ifB_f, V.isNil_some, V.isNil_none, Bool.not_true, Bool.not_false, Nat.zero_add, Nat.add_zero]
  refine V.ifB_of (fun hq => ?_) (fun hq => ?_) <;> simp only [V.bnot_eq, Bool.not_eq_true', Bool.not_eq_false', decide_eq_true_eq, decide_eq_false_iff_not] at hq
  · refine awake6_spec _ _ ?_
    intro w2 k2
    simp only [V.nptr_eq, V.vBool_mk, V.vInt_mk, V.vStr_mk, V.vPtr_mk, V.vMap_mk, V.vSlice_mk, V.bnot_eq, V.nilCk_mk, V.aadd_mk, V.size_alloc, V.size_drew, V.size_setCell, V.nmul_eq, V.inat_nat, V.inat_lit, Nat.mul_one, Nat.reduceMul, Nat.reduceAdd, V.and_assoc', V.true_and', V.ifB_t, V.ifB_f, V.isNil_some, V.isNil_none, Bool.not_true, Bool.not_false, Nat.zero_add, Nat.add_zero]
    exact hc w2 (V.Kp.trans k1 k2)
  obtain ⟨hlen, hB⟩ := hq
  refine V.ifB_of (fun hq2 => ?_) (fun hq2 => ?_) <;> simp only [V.ilt_t, V.ilt_f, V.ile_t, V.ile_f, V.igt_t, V.igt_f, V.ige_t, V.ige_f, V.ieq_t, V.ieq_f, V.ine_t, V.ine_f, V.isNil_t, V.isNil_f, V.bnot_eq, Bool.not_eq_true', Bool.not_eq_false', V.seq_t, V.seq_f, V.zi, V.ssize] at hq2
  · refine awake6_spec _ _ ?_
    intro w2 k2
    simp only [V.nptr_eq, V.vBool_mk, V.vInt_mk, V.vStr_mk, V.vPtr_mk, V.vMap_mk, V.vSlice_mk, V.bnot_eq, V.nilCk_mk, V.aadd_mk, V.size_alloc, V.size_drew, V.size_setCell, V.nmul_eq, V.inat_nat, V.inat_lit, Nat.mul_one, Nat.reduceMul, Nat.reduceAdd, V.and_assoc', V.true_and', V.ifB_t, V.ifB_f, V.isNil_some, V.isNil_none, Bool.not_true, Bool.not_false, Nat.zero_add, Nat.add_zero]
    exact hc w2 (V.Kp.trans k1 k2)
  refine make_spec _ _ ?_
  intro w2 k2
  have ts := tbl_size
  rw [V.vArr_mk ts]
  (try simp only [V.nptr_eq, V.vBool_mk, V.vInt_mk, V.vStr_mk, V.vPtr_mk, V.vMap_mk, V.vSlice_mk, V.bnot_eq, V.nilCk_mk, V.aadd_mk, V.size_alloc, V.size_drew, V.size_setCell, V.nmul_eq, V.inat_nat, V.inat_lit, Nat.mul_one, Nat.reduceMul, Nat.reduceAdd, V.and_assoc', V.true_and', V.ifB_t, V.ifB_f, V.isNil_some, V.isNil_none, Bool.not_true, Bool.not_false, Nat.zero_add, Nat.add_zero])
  refine V.stBig_w (V.Blk.new _ _ _) (by kernel_rfl) (by kernel_rfl) (by kernel_rfl) (u32C_one _) ?_
  intro w3 b3 k3 z3
  rw [V.size_alloc] at z3
  have kw3 : V.Kp V.Nil w w3 := V.Kp.then (V.Kp.alloc (V.Kp.trans k1 k2) _) k3 (fun i hi e => by have e : i = _ := e; have := k1.size; have := k2.size; omega)
  have hs3 : StrAt w3 p xs := hs.keep kw3
  refine leaves_spec xs (by omega) (fun x hx => by have := hB x hx; omega) p _ c w3 rfl hs3 _ ?_
  intro pl cl w4 hl hpl k4
  simp only [V.nptr_eq, V.vBool_mk, V.vInt_mk, V.vStr_mk, V.vPtr_mk, V.vMap_mk, V.vSlice_mk, V.bnot_eq, V.nilCk_mk, V.aadd_mk, V.size_alloc, V.size_drew, V.size_setCell, V.nmul_eq, V.inat_nat, V.inat_lit, Nat.mul_one, Nat.reduceMul, Nat.reduceAdd, V.and_assoc', V.true_and', V.ifB_t, V.ifB_f, V.isNil_some, V.isNil_none, Bool.not_true, Bool.not_false, Nat.zero_add, Nat.add_zero]
  have kx : V.Kp V.Nil w4 (w4.alloc (.cells #[.string leaf] 9)) := V.kp
  have hxs : StrAt (w4.alloc (.cells #[.string leaf] 9)) (some ⟨w4.heap.size, 0, none⟩) [leaf] := .inr ⟨w4.heap.size, 0, rfl, by rw [V.size_alloc]; omega, fun i x hx => by
    obtain rfl : i = 0 := by
      have := (List.getElem?_eq_some_iff.1 hx).1
      simpa using this
    cases hx
    rw [(V.Blk.new w4 _ _).cell]; rfl⟩
  refine leaves_spec [leaf] (by simp) (fun x hx => by have : x = leaf := by simpa using hx
                                                      rw [this]; omega) _ 1 1 _ rfl hxs _ ?_
  intro px cx w5 hx hpx k5
  simp only [V.nptr_eq, V.vBool_mk, V.vInt_mk, V.vStr_mk, V.vPtr_mk, V.vMap_mk, V.vSlice_mk, V.bnot_eq, V.nilCk_mk, V.aadd_mk, V.size_alloc, V.size_drew, V.size_setCell, V.nmul_eq, V.inat_nat, V.inat_lit, Nat.mul_one, Nat.reduceMul, Nat.reduceAdd, V.and_assoc', V.true_and', V.ifB_t, V.ifB_f, V.isNil_some, V.isNil_none, Bool.not_true, Bool.not_false, Nat.zero_add, Nat.add_zero]
  obtain ⟨gx, curX, rfl, hXb, -, -, -, hXt⟩ := hx.some (by omega)
  have hX0 : curX[0]? = some (.string (Mk.leaf leaf)) := by
    have : curX.toList[0]? = (curX.toList.take (1 * 1))[0]? := by rw [List.getElem?_take]; simp
    rw [← Array.getElem?_toList, this, hXt]; rfl
  have zx : gx < w5.heap.size := hXb.lt
  have hT : V.Blk w5 w2.heap.size tblC 29 := V.Kp.blk k5 (V.Kp.blk kx (V.Kp.blk k4 b3 (fun e => e)) (fun e => e)) (fun e => e)
  have hl5 : SRow w5 pl xs.length cl (Mk.leaves xs) := (hl.keep kx).keep k5
  have kw5 : V.Kp V.Nil w w5 := V.Kp.trans (V.Kp.trans (V.Kp.trans kw3 k4) kx) k5
  clear b3 k3 k1 k2 hs3 kw3 hpl k4 kx hxs k5 hpx hl hs
  have hll : (Mk.leaves xs).length = xs.length := by simp [Mk.leaves]
  have hl32 : ∀ x ∈ Mk.leaves xs, x.size ≤ 1000000 := fun x hx => by have := leafs_ok x hx; omega
  have ho32 : ∀ x ∈ Mk.ofR (Mk.leaves xs), x.size ≤ 1000000 := fun x hx => by have := Mk.ofR_32 _ (Mk.leaves xs) rfl leafs_ok x hx; omega
  have hlo := Mk.ofR_length _ (Mk.leaves xs) rfl
  rw [hll] at hlo
  have hx32 := Mk.leaf_size leaf
  have hfin := Mk.foldR_add _ (Mk.leaves xs) (Mk.leaf leaf) rfl
  simp only [V.nptr_eq, V.vBool_mk, V.vInt_mk, V.vStr_mk, V.vPtr_mk, V.vMap_mk, V.vSlice_mk, V.bnot_eq, V.nilCk_mk, V.aadd_mk, V.size_alloc, V.size_drew, V.size_setCell, V.nmul_eq, V.inat_nat, V.inat_lit, Nat.mul_one, Nat.reduceMul, Nat.reduceAdd, V.and_assoc', V.true_and', V.ifB_t, V.ifB_f, V.isNil_some, V.isNil_none, Bool.not_true, Bool.not_false, Nat.zero_add, Nat.add_zero]
  repeat (first | with_reducible refine V.lI ?_ | with_reducible refine V.lS ?_ | with_reducible refine V.lP ?_ | with_reducible refine V.lL ?_ | with_reducible refine V.lM ?_ | with_reducible refine V.lB ?_ | with_reducible refine V.sC ?_ | with_reducible refine V.lG ?_ | ((with_reducible refine And.intro ?_ ?_); (· first | with_reducible exact V.hC | with_reducible exact V.hB | (simp only [V.inX, V.inR, V.inz, V.ige0, V.zi]; omega))) | simp only [V.nptr_eq, V.vBool_mk, V.vInt_mk, V.vStr_mk, V.vPtr_mk, V.vMap_mk, V.vSlice_mk, V.bnot_eq, V.nilCk_mk, V.aadd_mk, V.size_alloc, V.size_drew, V.size_setCell, V.nmul_eq, V.inat_nat, V.inat_lit, Nat.mul_one, Nat.reduceMul, Nat.reduceAdd, V.and_assoc', V.true_and', V.ifB_t, V.ifB_f, V.isNil_some, V.isNil_none, Bool.not_true, Bool.not_false, Nat.zero_add, Nat.add_zero])
  refine And.intro ?_ ?_
  · refine of_spec (Mk.leaves xs) (by omega) hl32 pl xs.length cl _ hll.symm hl5.le (hl5.at.keep (V.Kp.drew (V.Kp.refl _ _))) _ ?_
    intro q1 d1 w6 hr6 hq6 k6'
    have k6 : V.Kp V.Nil w5 w6 := V.Kp.trans (V.Kp.drew (V.Kp.refl _ _)) k6'
    have hT6 := V.Kp.blk k6 hT (fun e => e)
    have hX6 := V.Kp.blk k6 hXb (fun e => e)
    refine ⟨_, _, _, _, rfl, ?_⟩
    (try simp only [V.nptr_eq, V.vBool_mk, V.vInt_mk, V.vStr_mk, V.vPtr_mk, V.vMap_mk, V.vSlice_mk, V.bnot_eq, V.nilCk_mk, V.aadd_mk, V.size_alloc, V.size_drew, V.size_setCell, V.nmul_eq, V.inat_nat, V.inat_lit, Nat.mul_one, Nat.reduceMul, Nat.reduceAdd, V.and_assoc', V.true_and', V.ifB_t, V.ifB_f, V.isNil_some, V.isNil_none, Bool.not_true, Bool.not_false, Nat.zero_add, Nat.add_zero])
    refine And.intro (V.hC hX6 hX0) (And.intro (V.hB hT6) ?_)
    refine And.intro ?_ ?_
    · refine add_spec (Mk.ofR (Mk.leaves xs)) (Mk.leaf leaf) ho32 (by omega) xs.length (by omega) q1 _ d1 w6 rfl hlo hr6.at _ ?_
      intro q n1 c1 w7 L hr7 hL2 hLl hf hq7 k7
      refine ⟨_, _, _, _, rfl, ?_⟩
      (try simp only [V.nptr_eq, V.vBool_mk, V.vInt_mk, V.vStr_mk, V.vPtr_mk, V.vMap_mk, V.vSlice_mk, V.bnot_eq, V.nilCk_mk, V.aadd_mk, V.size_alloc, V.size_drew, V.size_setCell, V.nmul_eq, V.inat_nat, V.inat_lit, Nat.mul_one, Nat.reduceMul, Nat.reduceAdd, V.and_assoc', V.true_and', V.ifB_t, V.ifB_f, V.isNil_some, V.isNil_none, Bool.not_true, Bool.not_false, Nat.zero_add, Nat.add_zero])
      refine V.sC ?_ V.blk (by show 0 < 2; omega)
      refine V.sC ?_ V.blk (by rw [Array.size_setIfInBounds]; show 1 < 2; omega)
      obtain ⟨W, hW⟩ : ∃ W, W = ((w7.alloc (.cells #[.int .i64 0, .slice none 0 0] 33)).setCell ⟨w7.heap.size, 0, none⟩ (.int .i64 ((xs.length + 1 : Nat) : Int))).setCell ⟨w7.heap.size, 1, none⟩ (.slice q n1 c1) := ⟨_, rfl⟩
      rw [← hW]
      have k7W : V.Kp V.Nil w7 W := by rw [hW]; exact V.kp
      have hg : V.Blk W w7.heap.size #[.int .i64 ((xs.length + 1 : Nat) : Int), .slice q n1 c1] 33 := by rw [hW]; exact V.bto
      have hL : SRow W q n1 c1 L := hr7.keep k7W
      have k5W : V.Kp V.Nil w5 W := V.Kp.trans (V.Kp.trans k6 k7) k7W
      have hT' := hT
      have hT := V.Kp.blk k5W hT' (fun e => e)
      have hX := V.Kp.blk k5W hXb (fun e => e)
      have hl := hl5.keep k5W
      have kW := V.Kp.trans kw5 k5W
      have hfin2 : Mk.foldR L = Mk.root (Mk.leaves xs ++ [Mk.leaf leaf]) := by rw [hf, hfin]
      clear hW k5W hr7 hq7 k7 k6 k6' hT6 hX6 hr6 hq6 hT' hXb hl5 kw5 hx
      repeat (first | with_reducible refine V.lI ?_ | with_reducible refine V.lS ?_ | with_reducible refine V.lP ?_ | with_reducible refine V.lL ?_ | with_reducible refine V.lM ?_ | with_reducible refine V.lB ?_ | with_reducible refine V.sC ?_ | with_reducible refine V.lG ?_ | ((with_reducible refine And.intro ?_ ?_); (· first | with_reducible exact V.hC | with_reducible exact V.hB | (simp only [V.inX, V.inR, V.inz, V.ige0, V.zi]; omega))) | simp only [V.nptr_eq, V.vBool_mk, V.vInt_mk, V.vStr_mk, V.vPtr_mk, V.vMap_mk, V.vSlice_mk, V.bnot_eq, V.nilCk_mk, V.aadd_mk, V.size_alloc, V.size_drew, V.size_setCell, V.nmul_eq, V.inat_nat, V.inat_lit, Nat.mul_one, Nat.reduceMul, Nat.reduceAdd, V.and_assoc', V.true_and', V.ifB_t, V.ifB_f, V.isNil_some, V.isNil_none, Bool.not_true, Bool.not_false, Nat.zero_add, Nat.add_zero])
      refine And.intro ?_ ?_
      · skip
        refine root_spec L hLl hL2 _ q _ _ _ hL.length hL.le (hL.at.keep (V.kp : V.Kp V.Nil W _)) _ ?_
        intro w8 k8
        have kk8 : V.Kp V.Nil W w8 := V.Kp.trans (V.kp : V.Kp V.Nil W _) k8
        have hT8 := V.Kp.blk kk8 hT (fun e => e)
        have hX8 := V.Kp.blk kk8 hX (fun e => e)
        have hg8 := V.Kp.blk kk8 hg (fun e => e)
        have zk8 := k8.size
        have zz8 := kk8.size
        (try simp only [V.size_alloc, V.size_drew] at zk8)
        (try simp only [V.nptr_eq, V.vBool_mk, V.vInt_mk, V.vStr_mk, V.vPtr_mk, V.vMap_mk, V.vSlice_mk, V.bnot_eq, V.nilCk_mk, V.aadd_mk, V.size_alloc, V.size_drew, V.size_setCell, V.nmul_eq, V.inat_nat, V.inat_lit, Nat.mul_one, Nat.reduceMul, Nat.reduceAdd, V.and_assoc', V.true_and', V.ifB_t, V.ifB_f, V.isNil_some, V.isNil_none, Bool.not_true, Bool.not_false, Nat.zero_add, Nat.add_zero])
        repeat (first | with_reducible refine V.lI ?_ | with_reducible refine V.lS ?_ | with_reducible refine V.lP ?_ | with_reducible refine V.lL ?_ | with_reducible refine V.lM ?_ | with_reducible refine V.lB ?_ | with_reducible refine V.sC ?_ | with_reducible refine V.lG ?_ | ((with_reducible refine And.intro ?_ ?_); (· first | with_reducible exact V.hC | with_reducible exact V.hB | (simp only [V.inX, V.inR, V.inz, V.ige0, V.zi]; omega))) | simp only [V.nptr_eq, V.vBool_mk, V.vInt_mk, V.vStr_mk, V.vPtr_mk, V.vMap_mk, V.vSlice_mk, V.bnot_eq, V.nilCk_mk, V.aadd_mk, V.size_alloc, V.size_drew, V.size_setCell, V.nmul_eq, V.inat_nat, V.inat_lit, Nat.mul_one, Nat.reduceMul, Nat.reduceAdd, V.and_assoc', V.true_and', V.ifB_t, V.ifB_f, V.isNil_some, V.isNil_none, Bool.not_true, Bool.not_false, Nat.zero_add, Nat.add_zero])
        refine And.intro ?_ ?_
        · skip
          refine app_strs (xs := []) (V.Row.of (cur := #[]) V.blk (Nat.le_refl _) (Nat.zero_le _) rfl rfl) (by omega) (hl.at.keep (V.kp : V.Kp V.Nil W _)) hll.symm (by omega) ?_
          intro p9 c9 w9 h9 k9 at9
          rw [Nat.zero_add, List.nil_append] at h9
          rw [Nat.zero_add]
          have zk9 := k9.size
          (try simp only [V.size_alloc, V.size_drew] at zk9)
          have kk9 : V.Kp V.Nil W w9 := V.Kp.then (V.kp : V.Kp V.Nil W _) k9 (fun i hi e => by simp only [V.blk?, Option.map_some, Option.some.injEq, V.size_alloc, V.size_drew] at e; omega)
          have n9 : New W.heap.size p9 := fun b hb => by
            rcases at9 b hb with e | e
            · simp only [V.blk?, Option.map_some, Option.some.injEq, V.size_alloc, V.size_drew] at e; omega
            · (try simp only [V.size_alloc, V.size_drew] at e)
              omega
          have hT9 := V.Kp.blk kk9 hT (fun e => e)
          have hX9 := V.Kp.blk kk9 hX (fun e => e)
          (try simp only [V.nptr_eq, V.vBool_mk, V.vInt_mk, V.vStr_mk, V.vPtr_mk, V.vMap_mk, V.vSlice_mk, V.bnot_eq, V.nilCk_mk, V.aadd_mk, V.size_alloc, V.size_drew, V.size_setCell, V.nmul_eq, V.inat_nat, V.inat_lit, Nat.mul_one, Nat.reduceMul, Nat.reduceAdd, V.and_assoc', V.true_and', V.ifB_t, V.ifB_f, V.isNil_some, V.isNil_none, Bool.not_true, Bool.not_false, Nat.zero_add, Nat.add_zero])
          repeat (first | with_reducible refine V.lI ?_ | with_reducible refine V.lS ?_ | with_reducible refine V.lP ?_ | with_reducible refine V.lL ?_ | with_reducible refine V.lM ?_ | with_reducible refine V.lB ?_ | with_reducible refine V.sC ?_ | with_reducible refine V.lG ?_ | ((with_reducible refine And.intro ?_ ?_); (· first | with_reducible exact V.hC | with_reducible exact V.hB | (simp only [V.inX, V.inR, V.inz, V.ige0, V.zi]; omega))) | simp only [V.nptr_eq, V.vBool_mk, V.vInt_mk, V.vStr_mk, V.vPtr_mk, V.vMap_mk, V.vSlice_mk, V.bnot_eq, V.nilCk_mk, V.aadd_mk, V.size_alloc, V.size_drew, V.size_setCell, V.nmul_eq, V.inat_nat, V.inat_lit, Nat.mul_one, Nat.reduceMul, Nat.reduceAdd, V.and_assoc', V.true_and', V.ifB_t, V.ifB_f, V.isNil_some, V.isNil_none, Bool.not_true, Bool.not_false, Nat.zero_add, Nat.add_zero])
          refine app_strs (h9.keep (V.kp : V.Kp V.Nil w9 _)) (by omega) (strAt_one V.blk) rfl (by simp) ?_
          intro p10 c10 w10 h10 k10 at10
          have kk10 : V.Kp V.Nil W w10 := V.Kp.then (V.kp : V.Kp V.Nil W _) k10 (fun i hi e => by have := n9 i e; omega)
          have hT10 := V.Kp.blk kk10 hT (fun e => e)
          (try simp only [V.nptr_eq, V.vBool_mk, V.vInt_mk, V.vStr_mk, V.vPtr_mk, V.vMap_mk, V.vSlice_mk, V.bnot_eq, V.nilCk_mk, V.aadd_mk, V.size_alloc, V.size_drew, V.size_setCell, V.nmul_eq, V.inat_nat, V.inat_lit, Nat.mul_one, Nat.reduceMul, Nat.reduceAdd, V.and_assoc', V.true_and', V.ifB_t, V.ifB_f, V.isNil_some, V.isNil_none, Bool.not_true, Bool.not_false, Nat.zero_add, Nat.add_zero])
          repeat (first | with_reducible refine V.lI ?_ | with_reducible refine V.lS ?_ | with_reducible refine V.lP ?_ | with_reducible refine V.lL ?_ | with_reducible refine V.lM ?_ | with_reducible refine V.lB ?_ | with_reducible refine V.sC ?_ | with_reducible refine V.lG ?_ | ((with_reducible refine And.intro ?_ ?_); (· first | with_reducible exact V.hC | with_reducible exact V.hB | (simp only [V.inX, V.inR, V.inz, V.ige0, V.zi]; omega))) | simp only [V.nptr_eq, V.vBool_mk, V.vInt_mk, V.vStr_mk, V.vPtr_mk, V.vMap_mk, V.vSlice_mk, V.bnot_eq, V.nilCk_mk, V.aadd_mk, V.size_alloc, V.size_drew, V.size_setCell, V.nmul_eq, V.inat_nat, V.inat_lit, Nat.mul_one, Nat.reduceMul, Nat.reduceAdd, V.and_assoc', V.true_and', V.ifB_t, V.ifB_f, V.isNil_some, V.isNil_none, Bool.not_true, Bool.not_false, Nat.zero_add, Nat.add_zero])
          refine mroot_spec (xs.length + 1) (Mk.leaves xs ++ [Mk.leaf leaf]) (by rw [List.length_append, hll]; rfl) (by omega) (fun y hy => by
            rcases List.mem_append.1 hy with h | h
            · exact hl32 y h
            · have : y = Mk.leaf leaf := by simpa using h
              rw [this]; omega) _ _ _ _ h10.length h10.le h10.at _ ?_
          intro w11 k11
          (try simp only [V.nptr_eq, V.vBool_mk, V.vInt_mk, V.vStr_mk, V.vPtr_mk, V.vMap_mk, V.vSlice_mk, V.bnot_eq, V.nilCk_mk, V.aadd_mk, V.size_alloc, V.size_drew, V.size_setCell, V.nmul_eq, V.inat_nat, V.inat_lit, Nat.mul_one, Nat.reduceMul, Nat.reduceAdd, V.and_assoc', V.true_and', V.ifB_t, V.ifB_f, V.isNil_some, V.isNil_none, Bool.not_true, Bool.not_false, Nat.zero_add, Nat.add_zero])
          rw [V.seq_eq, decide_eq_true hfin2]
          exact hc w11 (V.Kp.trans kW (V.Kp.trans kk10 k11))
        repeat (first | with_reducible refine V.lI ?_ | with_reducible refine V.lS ?_ | with_reducible refine V.lP ?_ | with_reducible refine V.lL ?_ | with_reducible refine V.lM ?_ | with_reducible refine V.lB ?_ | with_reducible refine V.sC ?_ | with_reducible refine V.lG ?_ | ((with_reducible refine And.intro ?_ ?_); (· first | with_reducible exact V.hC | with_reducible exact V.hB | (simp only [V.inX, V.inR, V.inz, V.ige0, V.zi]; omega))) | simp only [V.nptr_eq, V.vBool_mk, V.vInt_mk, V.vStr_mk, V.vPtr_mk, V.vMap_mk, V.vSlice_mk, V.bnot_eq, V.nilCk_mk, V.aadd_mk, V.size_alloc, V.size_drew, V.size_setCell, V.nmul_eq, V.inat_nat, V.inat_lit, Nat.mul_one, Nat.reduceMul, Nat.reduceAdd, V.and_assoc', V.true_and', V.ifB_t, V.ifB_f, V.isNil_some, V.isNil_none, Bool.not_true, Bool.not_false, Nat.zero_add, Nat.add_zero])
        refine And.intro ?_ ?_
        · have hS : V.Blk ((w8.alloc (.cells #[] 9)).alloc (.cells #[.string (Mk.leaf leaf)] 9)) (w8.heap.size + 1) #[.string (Mk.leaf leaf)] 9 := V.blk
          refine app_strs (xs := []) (V.Row.of (cur := #[]) V.blk (Nat.le_refl _) (Nat.zero_le _) rfl rfl) (by omega) (hl.at.keep (V.kp : V.Kp V.Nil W _)) hll.symm (by omega) ?_
          intro p9 c9 w9 h9 k9 at9
          rw [Nat.zero_add, List.nil_append] at h9
          rw [Nat.zero_add]
          have zk9 := k9.size
          (try simp only [V.size_alloc, V.size_drew] at zk9)
          have kk9 : V.Kp V.Nil W w9 := V.Kp.then (V.kp : V.Kp V.Nil W _) k9 (fun i hi e => by simp only [V.blk?, Option.map_some, Option.some.injEq, V.size_alloc, V.size_drew] at e; omega)
          have n9 : New W.heap.size p9 := fun b hb => by
            rcases at9 b hb with e | e
            · simp only [V.blk?, Option.map_some, Option.some.injEq, V.size_alloc, V.size_drew] at e; omega
            · (try simp only [V.size_alloc, V.size_drew] at e)
              omega
          have hT9 := V.Kp.blk kk9 hT (fun e => e)
          have hX9 := V.Kp.blk kk9 hX (fun e => e)
          (try simp only [V.nptr_eq, V.vBool_mk, V.vInt_mk, V.vStr_mk, V.vPtr_mk, V.vMap_mk, V.vSlice_mk, V.bnot_eq, V.nilCk_mk, V.aadd_mk, V.size_alloc, V.size_drew, V.size_setCell, V.nmul_eq, V.inat_nat, V.inat_lit, Nat.mul_one, Nat.reduceMul, Nat.reduceAdd, V.and_assoc', V.true_and', V.ifB_t, V.ifB_f, V.isNil_some, V.isNil_none, Bool.not_true, Bool.not_false, Nat.zero_add, Nat.add_zero])
          repeat (first | with_reducible refine V.lI ?_ | with_reducible refine V.lS ?_ | with_reducible refine V.lP ?_ | with_reducible refine V.lL ?_ | with_reducible refine V.lM ?_ | with_reducible refine V.lB ?_ | with_reducible refine V.sC ?_ | with_reducible refine V.lG ?_ | ((with_reducible refine And.intro ?_ ?_); (· first | with_reducible exact V.hC | with_reducible exact V.hB | (simp only [V.inX, V.inR, V.inz, V.ige0, V.zi]; omega))) | simp only [V.nptr_eq, V.vBool_mk, V.vInt_mk, V.vStr_mk, V.vPtr_mk, V.vMap_mk, V.vSlice_mk, V.bnot_eq, V.nilCk_mk, V.aadd_mk, V.size_alloc, V.size_drew, V.size_setCell, V.nmul_eq, V.inat_nat, V.inat_lit, Nat.mul_one, Nat.reduceMul, Nat.reduceAdd, V.and_assoc', V.true_and', V.ifB_t, V.ifB_f, V.isNil_some, V.isNil_none, Bool.not_true, Bool.not_false, Nat.zero_add, Nat.add_zero])
          have hS9 := V.Kp.blk k9 hS (fun e => by simp only [V.blk?, Option.map_some, Option.some.injEq, V.size_alloc, V.size_drew] at e; omega)
          refine app_strs (h9.keep (V.kp : V.Kp V.Nil w9 _)) (by omega) (strAt_one V.blk) rfl (by simp) ?_
          intro p10 c10 w10 h10 k10 at10
          have kk10 : V.Kp V.Nil W w10 := V.Kp.then (V.kp : V.Kp V.Nil W _) k10 (fun i hi e => by have := n9 i e; omega)
          have hT10 := V.Kp.blk kk10 hT (fun e => e)
          (try simp only [V.nptr_eq, V.vBool_mk, V.vInt_mk, V.vStr_mk, V.vPtr_mk, V.vMap_mk, V.vSlice_mk, V.bnot_eq, V.nilCk_mk, V.aadd_mk, V.size_alloc, V.size_drew, V.size_setCell, V.nmul_eq, V.inat_nat, V.inat_lit, Nat.mul_one, Nat.reduceMul, Nat.reduceAdd, V.and_assoc', V.true_and', V.ifB_t, V.ifB_f, V.isNil_some, V.isNil_none, Bool.not_true, Bool.not_false, Nat.zero_add, Nat.add_zero])
          repeat (first | with_reducible refine V.lI ?_ | with_reducible refine V.lS ?_ | with_reducible refine V.lP ?_ | with_reducible refine V.lL ?_ | with_reducible refine V.lM ?_ | with_reducible refine V.lB ?_ | with_reducible refine V.sC ?_ | with_reducible refine V.lG ?_ | ((with_reducible refine And.intro ?_ ?_); (· first | with_reducible exact V.hC | with_reducible exact V.hB | (simp only [V.inX, V.inR, V.inz, V.ige0, V.zi]; omega))) | simp only [V.nptr_eq, V.vBool_mk, V.vInt_mk, V.vStr_mk, V.vPtr_mk, V.vMap_mk, V.vSlice_mk, V.bnot_eq, V.nilCk_mk, V.aadd_mk, V.size_alloc, V.size_drew, V.size_setCell, V.nmul_eq, V.inat_nat, V.inat_lit, Nat.mul_one, Nat.reduceMul, Nat.reduceAdd, V.and_assoc', V.true_and', V.ifB_t, V.ifB_f, V.isNil_some, V.isNil_none, Bool.not_true, Bool.not_false, Nat.zero_add, Nat.add_zero])
          refine mroot_spec (xs.length + 1) (Mk.leaves xs ++ [Mk.leaf leaf]) (by rw [List.length_append, hll]; rfl) (by omega) (fun y hy => by
            rcases List.mem_append.1 hy with h | h
            · exact hl32 y h
            · have : y = Mk.leaf leaf := by simpa using h
              rw [this]; omega) _ _ _ _ h10.length h10.le h10.at _ ?_
          intro w11 k11
          (try simp only [V.nptr_eq, V.vBool_mk, V.vInt_mk, V.vStr_mk, V.vPtr_mk, V.vMap_mk, V.vSlice_mk, V.bnot_eq, V.nilCk_mk, V.aadd_mk, V.size_alloc, V.size_drew, V.size_setCell, V.nmul_eq, V.inat_nat, V.inat_lit, Nat.mul_one, Nat.reduceMul, Nat.reduceAdd, V.and_assoc', V.true_and', V.ifB_t, V.ifB_f, V.isNil_some, V.isNil_none, Bool.not_true, Bool.not_false, Nat.zero_add, Nat.add_zero])
          rw [V.seq_eq, decide_eq_true hfin2]
          exact hc w11 (V.Kp.trans kW (V.Kp.trans kk10 k11))
        repeat (first | with_reducible refine V.lI ?_ | with_reducible refine V.lS ?_ | with_reducible refine V.lP ?_ | with_reducible refine V.lL ?_ | with_reducible refine V.lM ?_ | with_reducible refine V.lB ?_ | with_reducible refine V.sC ?_ | with_reducible refine V.lG ?_ | ((with_reducible refine And.intro ?_ ?_); (· first | with_reducible exact V.hC | with_reducible exact V.hB | (simp only [V.inX, V.inR, V.inz, V.ige0, V.zi]; omega))) | simp only [V.nptr_eq, V.vBool_mk, V.vInt_mk, V.vStr_mk, V.vPtr_mk, V.vMap_mk, V.vSlice_mk, V.bnot_eq, V.nilCk_mk, V.aadd_mk, V.size_alloc, V.size_drew, V.size_setCell, V.nmul_eq, V.inat_nat, V.inat_lit, Nat.mul_one, Nat.reduceMul, Nat.reduceAdd, V.and_assoc', V.true_and', V.ifB_t, V.ifB_f, V.isNil_some, V.isNil_none, Bool.not_true, Bool.not_false, Nat.zero_add, Nat.add_zero])
        have hS : V.Blk ((w8.alloc (.cells #[.string (Mk.leaf leaf)] 9)).alloc (.cells #[] 9)) w8.heap.size #[.string (Mk.leaf leaf)] 9 := V.blk
        refine app_strs (xs := []) (V.Row.of (cur := #[]) V.blk (Nat.le_refl _) (Nat.zero_le _) rfl rfl) (by omega) (hl.at.keep (V.kp : V.Kp V.Nil W _)) hll.symm (by omega) ?_
        intro p9 c9 w9 h9 k9 at9
        rw [Nat.zero_add, List.nil_append] at h9
        rw [Nat.zero_add]
        have zk9 := k9.size
        (try simp only [V.size_alloc, V.size_drew] at zk9)
        have kk9 : V.Kp V.Nil W w9 := V.Kp.then (V.kp : V.Kp V.Nil W _) k9 (fun i hi e => by simp only [V.blk?, Option.map_some, Option.some.injEq, V.size_alloc, V.size_drew] at e; omega)
        have n9 : New W.heap.size p9 := fun b hb => by
          rcases at9 b hb with e | e
          · simp only [V.blk?, Option.map_some, Option.some.injEq, V.size_alloc, V.size_drew] at e; omega
          · (try simp only [V.size_alloc, V.size_drew] at e)
            omega
        have hT9 := V.Kp.blk kk9 hT (fun e => e)
        have hX9 := V.Kp.blk kk9 hX (fun e => e)
        (try simp only [V.nptr_eq, V.vBool_mk, V.vInt_mk, V.vStr_mk, V.vPtr_mk, V.vMap_mk, V.vSlice_mk, V.bnot_eq, V.nilCk_mk, V.aadd_mk, V.size_alloc, V.size_drew, V.size_setCell, V.nmul_eq, V.inat_nat, V.inat_lit, Nat.mul_one, Nat.reduceMul, Nat.reduceAdd, V.and_assoc', V.true_and', V.ifB_t, V.ifB_f, V.isNil_some, V.isNil_none, Bool.not_true, Bool.not_false, Nat.zero_add, Nat.add_zero])
        repeat (first | with_reducible refine V.lI ?_ | with_reducible refine V.lS ?_ | with_reducible refine V.lP ?_ | with_reducible refine V.lL ?_ | with_reducible refine V.lM ?_ | with_reducible refine V.lB ?_ | with_reducible refine V.sC ?_ | with_reducible refine V.lG ?_ | ((with_reducible refine And.intro ?_ ?_); (· first | with_reducible exact V.hC | with_reducible exact V.hB | (simp only [V.inX, V.inR, V.inz, V.ige0, V.zi]; omega))) | simp only [V.nptr_eq, V.vBool_mk, V.vInt_mk, V.vStr_mk, V.vPtr_mk, V.vMap_mk, V.vSlice_mk, V.bnot_eq, V.nilCk_mk, V.aadd_mk, V.size_alloc, V.size_drew, V.size_setCell, V.nmul_eq, V.inat_nat, V.inat_lit, Nat.mul_one, Nat.reduceMul, Nat.reduceAdd, V.and_assoc', V.true_and', V.ifB_t, V.ifB_f, V.isNil_some, V.isNil_none, Bool.not_true, Bool.not_false, Nat.zero_add, Nat.add_zero])
        have hS9 := V.Kp.blk k9 hS (fun e => by simp only [V.blk?, Option.map_some, Option.some.injEq, V.size_alloc, V.size_drew] at e; omega)
        refine app_strs (h9.keep (V.kp : V.Kp V.Nil w9 _)) (by omega) (strAt_one V.blk) rfl (by simp) ?_
        intro p10 c10 w10 h10 k10 at10
        have kk10 : V.Kp V.Nil W w10 := V.Kp.then (V.kp : V.Kp V.Nil W _) k10 (fun i hi e => by have := n9 i e; omega)
        have hT10 := V.Kp.blk kk10 hT (fun e => e)
        (try simp only [V.nptr_eq, V.vBool_mk, V.vInt_mk, V.vStr_mk, V.vPtr_mk, V.vMap_mk, V.vSlice_mk, V.bnot_eq, V.nilCk_mk, V.aadd_mk, V.size_alloc, V.size_drew, V.size_setCell, V.nmul_eq, V.inat_nat, V.inat_lit, Nat.mul_one, Nat.reduceMul, Nat.reduceAdd, V.and_assoc', V.true_and', V.ifB_t, V.ifB_f, V.isNil_some, V.isNil_none, Bool.not_true, Bool.not_false, Nat.zero_add, Nat.add_zero])
        repeat (first | with_reducible refine V.lI ?_ | with_reducible refine V.lS ?_ | with_reducible refine V.lP ?_ | with_reducible refine V.lL ?_ | with_reducible refine V.lM ?_ | with_reducible refine V.lB ?_ | with_reducible refine V.sC ?_ | with_reducible refine V.lG ?_ | ((with_reducible refine And.intro ?_ ?_); (· first | with_reducible exact V.hC | with_reducible exact V.hB | (simp only [V.inX, V.inR, V.inz, V.ige0, V.zi]; omega))) | simp only [V.nptr_eq, V.vBool_mk, V.vInt_mk, V.vStr_mk, V.vPtr_mk, V.vMap_mk, V.vSlice_mk, V.bnot_eq, V.nilCk_mk, V.aadd_mk, V.size_alloc, V.size_drew, V.size_setCell, V.nmul_eq, V.inat_nat, V.inat_lit, Nat.mul_one, Nat.reduceMul, Nat.reduceAdd, V.and_assoc', V.true_and', V.ifB_t, V.ifB_f, V.isNil_some, V.isNil_none, Bool.not_true, Bool.not_false, Nat.zero_add, Nat.add_zero])
        refine mroot_spec (xs.length + 1) (Mk.leaves xs ++ [Mk.leaf leaf]) (by rw [List.length_append, hll]; rfl) (by omega) (fun y hy => by
          rcases List.mem_append.1 hy with h | h
          · exact hl32 y h
          · have : y = Mk.leaf leaf := by simpa using h
            rw [this]; omega) _ _ _ _ h10.length h10.le h10.at _ ?_
        intro w11 k11
        (try simp only [V.nptr_eq, V.vBool_mk, V.vInt_mk, V.vStr_mk, V.vPtr_mk, V.vMap_mk, V.vSlice_mk, V.bnot_eq, V.nilCk_mk, V.aadd_mk, V.size_alloc, V.size_drew, V.size_setCell, V.nmul_eq, V.inat_nat, V.inat_lit, Nat.mul_one, Nat.reduceMul, Nat.reduceAdd, V.and_assoc', V.true_and', V.ifB_t, V.ifB_f, V.isNil_some, V.isNil_none, Bool.not_true, Bool.not_false, Nat.zero_add, Nat.add_zero])
        rw [V.seq_eq, decide_eq_true hfin2]
        exact hc w11 (V.Kp.trans kW (V.Kp.trans kk10 k11))
      repeat (first | with_reducible refine V.lI ?_ | with_reducible refine V.lS ?_ | with_reducible refine V.lP ?_ | with_reducible refine V.lL ?_ | with_reducible refine V.lM ?_ | with_reducible refine V.lB ?_ | with_reducible refine V.sC ?_ | with_reducible refine V.lG ?_ | ((with_reducible refine And.intro ?_ ?_); (· first | with_reducible exact V.hC | with_reducible exact V.hB | (simp only [V.inX, V.inR, V.inz, V.ige0, V.zi]; omega))) | simp only [V.nptr_eq, V.vBool_mk, V.vInt_mk, V.vStr_mk, V.vPtr_mk, V.vMap_mk, V.vSlice_mk, V.bnot_eq, V.nilCk_mk, V.aadd_mk, V.size_alloc, V.size_drew, V.size_setCell, V.nmul_eq, V.inat_nat, V.inat_lit, Nat.mul_one, Nat.reduceMul, Nat.reduceAdd, V.and_assoc', V.true_and', V.ifB_t, V.ifB_f, V.isNil_some, V.isNil_none, Bool.not_true, Bool.not_false, Nat.zero_add, Nat.add_zero])
      refine And.intro ?_ ?_
      · skip
        refine root_spec L hLl hL2 _ q _ _ _ hL.length hL.le (hL.at.keep (V.kp : V.Kp V.Nil W _)) _ ?_
        intro w8 k8
        have kk8 : V.Kp V.Nil W w8 := V.Kp.trans (V.kp : V.Kp V.Nil W _) k8
        have hT8 := V.Kp.blk kk8 hT (fun e => e)
        have hX8 := V.Kp.blk kk8 hX (fun e => e)
        have hg8 := V.Kp.blk kk8 hg (fun e => e)
        have zk8 := k8.size
        have zz8 := kk8.size
        (try simp only [V.size_alloc, V.size_drew] at zk8)
        (try simp only [V.nptr_eq, V.vBool_mk, V.vInt_mk, V.vStr_mk, V.vPtr_mk, V.vMap_mk, V.vSlice_mk, V.bnot_eq, V.nilCk_mk, V.aadd_mk, V.size_alloc, V.size_drew, V.size_setCell, V.nmul_eq, V.inat_nat, V.inat_lit, Nat.mul_one, Nat.reduceMul, Nat.reduceAdd, V.and_assoc', V.true_and', V.ifB_t, V.ifB_f, V.isNil_some, V.isNil_none, Bool.not_true, Bool.not_false, Nat.zero_add, Nat.add_zero])
        repeat (first | with_reducible refine V.lI ?_ | with_reducible refine V.lS ?_ | with_reducible refine V.lP ?_ | with_reducible refine V.lL ?_ | with_reducible refine V.lM ?_ | with_reducible refine V.lB ?_ | with_reducible refine V.sC ?_ | with_reducible refine V.lG ?_ | ((with_reducible refine And.intro ?_ ?_); (· first | with_reducible exact V.hC | with_reducible exact V.hB | (simp only [V.inX, V.inR, V.inz, V.ige0, V.zi]; omega))) | simp only [V.nptr_eq, V.vBool_mk, V.vInt_mk, V.vStr_mk, V.vPtr_mk, V.vMap_mk, V.vSlice_mk, V.bnot_eq, V.nilCk_mk, V.aadd_mk, V.size_alloc, V.size_drew, V.size_setCell, V.nmul_eq, V.inat_nat, V.inat_lit, Nat.mul_one, Nat.reduceMul, Nat.reduceAdd, V.and_assoc', V.true_and', V.ifB_t, V.ifB_f, V.isNil_some, V.isNil_none, Bool.not_true, Bool.not_false, Nat.zero_add, Nat.add_zero])
        have hE : V.Blk w8 W.heap.size #[] 9 := V.Kp.blk k8 V.blk (fun e => e)
        refine And.intro ?_ ?_
        · skip
          refine app_strs (xs := []) (V.Row.of (cur := #[]) V.blk (Nat.le_refl _) (Nat.zero_le _) rfl rfl) (by omega) (hl.at.keep (V.kp : V.Kp V.Nil W _)) hll.symm (by omega) ?_
          intro p9 c9 w9 h9 k9 at9
          rw [Nat.zero_add, List.nil_append] at h9
          rw [Nat.zero_add]
          have zk9 := k9.size
          (try simp only [V.size_alloc, V.size_drew] at zk9)
          have kk9 : V.Kp V.Nil W w9 := V.Kp.then (V.kp : V.Kp V.Nil W _) k9 (fun i hi e => by simp only [V.blk?, Option.map_some, Option.some.injEq, V.size_alloc, V.size_drew] at e; omega)
          have n9 : New W.heap.size p9 := fun b hb => by
            rcases at9 b hb with e | e
            · simp only [V.blk?, Option.map_some, Option.some.injEq, V.size_alloc, V.size_drew] at e; omega
            · (try simp only [V.size_alloc, V.size_drew] at e)
              omega
          have hT9 := V.Kp.blk kk9 hT (fun e => e)
          have hX9 := V.Kp.blk kk9 hX (fun e => e)
          (try simp only [V.nptr_eq, V.vBool_mk, V.vInt_mk, V.vStr_mk, V.vPtr_mk, V.vMap_mk, V.vSlice_mk, V.bnot_eq, V.nilCk_mk, V.aadd_mk, V.size_alloc, V.size_drew, V.size_setCell, V.nmul_eq, V.inat_nat, V.inat_lit, Nat.mul_one, Nat.reduceMul, Nat.reduceAdd, V.and_assoc', V.true_and', V.ifB_t, V.ifB_f, V.isNil_some, V.isNil_none, Bool.not_true, Bool.not_false, Nat.zero_add, Nat.add_zero])
          repeat (first | with_reducible refine V.lI ?_ | with_reducible refine V.lS ?_ | with_reducible refine V.lP ?_ | with_reducible refine V.lL ?_ | with_reducible refine V.lM ?_ | with_reducible refine V.lB ?_ | with_reducible refine V.sC ?_ | with_reducible refine V.lG ?_ | ((with_reducible refine And.intro ?_ ?_); (· first | with_reducible exact V.hC | with_reducible exact V.hB | (simp only [V.inX, V.inR, V.inz, V.ige0, V.zi]; omega))) | simp only [V.nptr_eq, V.vBool_mk, V.vInt_mk, V.vStr_mk, V.vPtr_mk, V.vMap_mk, V.vSlice_mk, V.bnot_eq, V.nilCk_mk, V.aadd_mk, V.size_alloc, V.size_drew, V.size_setCell, V.nmul_eq, V.inat_nat, V.inat_lit, Nat.mul_one, Nat.reduceMul, Nat.reduceAdd, V.and_assoc', V.true_and', V.ifB_t, V.ifB_f, V.isNil_some, V.isNil_none, Bool.not_true, Bool.not_false, Nat.zero_add, Nat.add_zero])
          refine app_strs (h9.keep (V.kp : V.Kp V.Nil w9 _)) (by omega) (strAt_one V.blk) rfl (by simp) ?_
          intro p10 c10 w10 h10 k10 at10
          have kk10 : V.Kp V.Nil W w10 := V.Kp.then (V.kp : V.Kp V.Nil W _) k10 (fun i hi e => by have := n9 i e; omega)
          have hT10 := V.Kp.blk kk10 hT (fun e => e)
          (try simp only [V.nptr_eq, V.vBool_mk, V.vInt_mk, V.vStr_mk, V.vPtr_mk, V.vMap_mk, V.vSlice_mk, V.bnot_eq, V.nilCk_mk, V.aadd_mk, V.size_alloc, V.size_drew, V.size_setCell, V.nmul_eq, V.inat_nat, V.inat_lit, Nat.mul_one, Nat.reduceMul, Nat.reduceAdd, V.and_assoc', V.true_and', V.ifB_t, V.ifB_f, V.isNil_some, V.isNil_none, Bool.not_true, Bool.not_false, Nat.zero_add, Nat.add_zero])
          repeat (first | with_reducible refine V.lI ?_ | with_reducible refine V.lS ?_ | with_reducible refine V.lP ?_ | with_reducible refine V.lL ?_ | with_reducible refine V.lM ?_ | with_reducible refine V.lB ?_ | with_reducible refine V.sC ?_ | with_reducible refine V.lG ?_ | ((with_reducible refine And.intro ?_ ?_); (· first | with_reducible exact V.hC | with_reducible exact V.hB | (simp only [V.inX, V.inR, V.inz, V.ige0, V.zi]; omega))) | simp only [V.nptr_eq, V.vBool_mk, V.vInt_mk, V.vStr_mk, V.vPtr_mk, V.vMap_mk, V.vSlice_mk, V.bnot_eq, V.nilCk_mk, V.aadd_mk, V.size_alloc, V.size_drew, V.size_setCell, V.nmul_eq, V.inat_nat, V.inat_lit, Nat.mul_one, Nat.reduceMul, Nat.reduceAdd, V.and_assoc', V.true_and', V.ifB_t, V.ifB_f, V.isNil_some, V.isNil_none, Bool.not_true, Bool.not_false, Nat.zero_add, Nat.add_zero])
          refine mroot_spec (xs.length + 1) (Mk.leaves xs ++ [Mk.leaf leaf]) (by rw [List.length_append, hll]; rfl) (by omega) (fun y hy => by
            rcases List.mem_append.1 hy with h | h
            · exact hl32 y h
            · have : y = Mk.leaf leaf := by simpa using h
              rw [this]; omega) _ _ _ _ h10.length h10.le h10.at _ ?_
          intro w11 k11
          (try simp only [V.nptr_eq, V.vBool_mk, V.vInt_mk, V.vStr_mk, V.vPtr_mk, V.vMap_mk, V.vSlice_mk, V.bnot_eq, V.nilCk_mk, V.aadd_mk, V.size_alloc, V.size_drew, V.size_setCell, V.nmul_eq, V.inat_nat, V.inat_lit, Nat.mul_one, Nat.reduceMul, Nat.reduceAdd, V.and_assoc', V.true_and', V.ifB_t, V.ifB_f, V.isNil_some, V.isNil_none, Bool.not_true, Bool.not_false, Nat.zero_add, Nat.add_zero])
          rw [V.seq_eq, decide_eq_true hfin2]
          exact hc w11 (V.Kp.trans kW (V.Kp.trans kk10 k11))
        repeat (first | with_reducible refine V.lI ?_ | with_reducible refine V.lS ?_ | with_reducible refine V.lP ?_ | with_reducible refine V.lL ?_ | with_reducible refine V.lM ?_ | with_reducible refine V.lB ?_ | with_reducible refine V.sC ?_ | with_reducible refine V.lG ?_ | ((with_reducible refine And.intro ?_ ?_); (· first | with_reducible exact V.hC | with_reducible exact V.hB | (simp only [V.inX, V.inR, V.inz, V.ige0, V.zi]; omega))) | simp only [V.nptr_eq, V.vBool_mk, V.vInt_mk, V.vStr_mk, V.vPtr_mk, V.vMap_mk, V.vSlice_mk, V.bnot_eq, V.nilCk_mk, V.aadd_mk, V.size_alloc, V.size_drew, V.size_setCell, V.nmul_eq, V.inat_nat, V.inat_lit, Nat.mul_one, Nat.reduceMul, Nat.reduceAdd, V.and_assoc', V.true_and', V.ifB_t, V.ifB_f, V.isNil_some, V.isNil_none, Bool.not_true, Bool.not_false, Nat.zero_add, Nat.add_zero])
        have hS : V.Blk (w8.alloc (.cells #[.string (Mk.leaf leaf)] 9)) w8.heap.size #[.string (Mk.leaf leaf)] 9 := V.blk
        refine app_strs (xs := []) (V.Row.of (cur := #[]) V.blk (Nat.le_refl _) (Nat.zero_le _) rfl rfl) (by omega) (hl.at.keep (V.kp : V.Kp V.Nil W _)) hll.symm (by omega) ?_
        intro p9 c9 w9 h9 k9 at9
        rw [Nat.zero_add, List.nil_append] at h9
        rw [Nat.zero_add]
        have zk9 := k9.size
        (try simp only [V.size_alloc, V.size_drew] at zk9)
        have kk9 : V.Kp V.Nil W w9 := V.Kp.then (V.kp : V.Kp V.Nil W _) k9 (fun i hi e => by simp only [V.blk?, Option.map_some, Option.some.injEq, V.size_alloc, V.size_drew] at e; omega)
        have n9 : New W.heap.size p9 := fun b hb => by
          rcases at9 b hb with e | e
          · simp only [V.blk?, Option.map_some, Option.some.injEq, V.size_alloc, V.size_drew] at e; omega
          · (try simp only [V.size_alloc, V.size_drew] at e)
            omega
        have hT9 := V.Kp.blk kk9 hT (fun e => e)
        have hX9 := V.Kp.blk kk9 hX (fun e => e)
        (try simp only [V.nptr_eq, V.vBool_mk, V.vInt_mk, V.vStr_mk, V.vPtr_mk, V.vMap_mk, V.vSlice_mk, V.bnot_eq, V.nilCk_mk, V.aadd_mk, V.size_alloc, V.size_drew, V.size_setCell, V.nmul_eq, V.inat_nat, V.inat_lit, Nat.mul_one, Nat.reduceMul, Nat.reduceAdd, V.and_assoc', V.true_and', V.ifB_t, V.ifB_f, V.isNil_some, V.isNil_none, Bool.not_true, Bool.not_false, Nat.zero_add, Nat.add_zero])
        repeat (first | with_reducible refine V.lI ?_ | with_reducible refine V.lS ?_ | with_reducible refine V.lP ?_ | with_reducible refine V.lL ?_ | with_reducible refine V.lM ?_ | with_reducible refine V.lB ?_ | with_reducible refine V.sC ?_ | with_reducible refine V.lG ?_ | ((with_reducible refine And.intro ?_ ?_); (· first | with_reducible exact V.hC | with_reducible exact V.hB | (simp only [V.inX, V.inR, V.inz, V.ige0, V.zi]; omega))) | simp only [V.nptr_eq, V.vBool_mk, V.vInt_mk, V.vStr_mk, V.vPtr_mk, V.vMap_mk, V.vSlice_mk, V.bnot_eq, V.nilCk_mk, V.aadd_mk, V.size_alloc, V.size_drew, V.size_setCell, V.nmul_eq, V.inat_nat, V.inat_lit, Nat.mul_one, Nat.reduceMul, Nat.reduceAdd, V.and_assoc', V.true_and', V.ifB_t, V.ifB_f, V.isNil_some, V.isNil_none, Bool.not_true, Bool.not_false, Nat.zero_add, Nat.add_zero])
        have hS9 := V.Kp.blk k9 hS (fun e => by simp only [V.blk?, Option.map_some, Option.some.injEq, V.size_alloc, V.size_drew] at e; omega)
        refine app_strs (h9.keep (V.kp : V.Kp V.Nil w9 _)) (by omega) (strAt_one V.blk) rfl (by simp) ?_
        intro p10 c10 w10 h10 k10 at10
        have kk10 : V.Kp V.Nil W w10 := V.Kp.then (V.kp : V.Kp V.Nil W _) k10 (fun i hi e => by have := n9 i e; omega)
        have hT10 := V.Kp.blk kk10 hT (fun e => e)
        (try simp only [V.nptr_eq, V.vBool_mk, V.vInt_mk, V.vStr_mk, V.vPtr_mk, V.vMap_mk, V.vSlice_mk, V.bnot_eq, V.nilCk_mk, V.aadd_mk, V.size_alloc, V.size_drew, V.size_setCell, V.nmul_eq, V.inat_nat, V.inat_lit, Nat.mul_one, Nat.reduceMul, Nat.reduceAdd, V.and_assoc', V.true_and', V.ifB_t, V.ifB_f, V.isNil_some, V.isNil_none, Bool.not_true, Bool.not_false, Nat.zero_add, Nat.add_zero])
        repeat (first | with_reducible refine V.lI ?_ | with_reducible refine V.lS ?_ | with_reducible refine V.lP ?_ | with_reducible refine V.lL ?_ | with_reducible refine V.lM ?_ | with_reducible refine V.lB ?_ | with_reducible refine V.sC ?_ | with_reducible refine V.lG ?_ | ((with_reducible refine And.intro ?_ ?_); (· first | with_reducible exact V.hC | with_reducible exact V.hB | (simp only [V.inX, V.inR, V.inz, V.ige0, V.zi]; omega))) | simp only [V.nptr_eq, V.vBool_mk, V.vInt_mk, V.vStr_mk, V.vPtr_mk, V.vMap_mk, V.vSlice_mk, V.bnot_eq, V.nilCk_mk, V.aadd_mk, V.size_alloc, V.size_drew, V.size_setCell, V.nmul_eq, V.inat_nat, V.inat_lit, Nat.mul_one, Nat.reduceMul, Nat.reduceAdd, V.and_assoc', V.true_and', V.ifB_t, V.ifB_f, V.isNil_some, V.isNil_none, Bool.not_true, Bool.not_false, Nat.zero_add, Nat.add_zero])
        refine mroot_spec (xs.length + 1) (Mk.leaves xs ++ [Mk.leaf leaf]) (by rw [List.length_append, hll]; rfl) (by omega) (fun y hy => by
          rcases List.mem_append.1 hy with h | h
          · exact hl32 y h
          · have : y = Mk.leaf leaf := by simpa using h
            rw [this]; omega) _ _ _ _ h10.length h10.le h10.at _ ?_
        intro w11 k11
        (try simp only [V.nptr_eq, V.vBool_mk, V.vInt_mk, V.vStr_mk, V.vPtr_mk, V.vMap_mk, V.vSlice_mk, V.bnot_eq, V.nilCk_mk, V.aadd_mk, V.size_alloc, V.size_drew, V.size_setCell, V.nmul_eq, V.inat_nat, V.inat_lit, Nat.mul_one, Nat.reduceMul, Nat.reduceAdd, V.and_assoc', V.true_and', V.ifB_t, V.ifB_f, V.isNil_some, V.isNil_none, Bool.not_true, Bool.not_false, Nat.zero_add, Nat.add_zero])
        rw [V.seq_eq, decide_eq_true hfin2]
        exact hc w11 (V.Kp.trans kW (V.Kp.trans kk10 k11))
      repeat (first | with_reducible refine V.lI ?_ | with_reducible refine V.lS ?_ | with_reducible refine V.lP ?_ | with_reducible refine V.lL ?_ | with_reducible refine V.lM ?_ | with_reducible refine V.lB ?_ | with_reducible refine V.sC ?_ | with_reducible refine V.lG ?_ | ((with_reducible refine And.intro ?_ ?_); (· first | with_reducible exact V.hC | with_reducible exact V.hB | (simp only [V.inX, V.inR, V.inz, V.ige0, V.zi]; omega))) | simp only [V.nptr_eq, V.vBool_mk, V.vInt_mk, V.vStr_mk, V.vPtr_mk, V.vMap_mk, V.vSlice_mk, V.bnot_eq, V.nilCk_mk, V.aadd_mk, V.size_alloc, V.size_drew, V.size_setCell, V.nmul_eq, V.inat_nat, V.inat_lit, Nat.mul_one, Nat.reduceMul, Nat.reduceAdd, V.and_assoc', V.true_and', V.ifB_t, V.ifB_f, V.isNil_some, V.isNil_none, Bool.not_true, Bool.not_false, Nat.zero_add, Nat.add_zero])
      refine And.intro ?_ ?_
      · skip
        refine root_spec L hLl hL2 _ q _ _ _ hL.length hL.le (hL.at.keep (V.kp : V.Kp V.Nil W _)) _ ?_
        intro w8 k8
        have kk8 : V.Kp V.Nil W w8 := V.Kp.trans (V.kp : V.Kp V.Nil W _) k8
        have hT8 := V.Kp.blk kk8 hT (fun e => e)
        have hX8 := V.Kp.blk kk8 hX (fun e => e)
        have hg8 := V.Kp.blk kk8 hg (fun e => e)
        have zk8 := k8.size
        have zz8 := kk8.size
        (try simp only [V.size_alloc, V.size_drew] at zk8)
        (try simp only [V.nptr_eq, V.vBool_mk, V.vInt_mk, V.vStr_mk, V.vPtr_mk, V.vMap_mk, V.vSlice_mk, V.bnot_eq, V.nilCk_mk, V.aadd_mk, V.size_alloc, V.size_drew, V.size_setCell, V.nmul_eq, V.inat_nat, V.inat_lit, Nat.mul_one, Nat.reduceMul, Nat.reduceAdd, V.and_assoc', V.true_and', V.ifB_t, V.ifB_f, V.isNil_some, V.isNil_none, Bool.not_true, Bool.not_false, Nat.zero_add, Nat.add_zero])
        repeat (first | with_reducible refine V.lI ?_ | with_reducible refine V.lS ?_ | with_reducible refine V.lP ?_ | with_reducible refine V.lL ?_ | with_reducible refine V.lM ?_ | with_reducible refine V.lB ?_ | with_reducible refine V.sC ?_ | with_reducible refine V.lG ?_ | ((with_reducible refine And.intro ?_ ?_); (· first | with_reducible exact V.hC | with_reducible exact V.hB | (simp only [V.inX, V.inR, V.inz, V.ige0, V.zi]; omega))) | simp only [V.nptr_eq, V.vBool_mk, V.vInt_mk, V.vStr_mk, V.vPtr_mk, V.vMap_mk, V.vSlice_mk, V.bnot_eq, V.nilCk_mk, V.aadd_mk, V.size_alloc, V.size_drew, V.size_setCell, V.nmul_eq, V.inat_nat, V.inat_lit, Nat.mul_one, Nat.reduceMul, Nat.reduceAdd, V.and_assoc', V.true_and', V.ifB_t, V.ifB_f, V.isNil_some, V.isNil_none, Bool.not_true, Bool.not_false, Nat.zero_add, Nat.add_zero])
        have hE : V.Blk w8 W.heap.size #[] 9 := V.Kp.blk k8 V.blk (fun e => e)
        have hS : V.Blk w8 (W.heap.size + 1) #[.string (Mk.leaf leaf)] 9 := V.Kp.blk k8 V.blk (fun e => e)
        refine app_strs (xs := []) (V.Row.of (cur := #[]) V.blk (Nat.le_refl _) (Nat.zero_le _) rfl rfl) (by omega) (hl.at.keep (V.kp : V.Kp V.Nil W _)) hll.symm (by omega) ?_
        intro p9 c9 w9 h9 k9 at9
        rw [Nat.zero_add, List.nil_append] at h9
        rw [Nat.zero_add]
        have zk9 := k9.size
        (try simp only [V.size_alloc, V.size_drew] at zk9)
        have kk9 : V.Kp V.Nil W w9 := V.Kp.then (V.kp : V.Kp V.Nil W _) k9 (fun i hi e => by simp only [V.blk?, Option.map_some, Option.some.injEq, V.size_alloc, V.size_drew] at e; omega)
        have n9 : New W.heap.size p9 := fun b hb => by
          rcases at9 b hb with e | e
          · simp only [V.blk?, Option.map_some, Option.some.injEq, V.size_alloc, V.size_drew] at e; omega
          · (try simp only [V.size_alloc, V.size_drew] at e)
            omega
        have hT9 := V.Kp.blk kk9 hT (fun e => e)
        have hX9 := V.Kp.blk kk9 hX (fun e => e)
        (try simp only [V.nptr_eq, V.vBool_mk, V.vInt_mk, V.vStr_mk, V.vPtr_mk, V.vMap_mk, V.vSlice_mk, V.bnot_eq, V.nilCk_mk, V.aadd_mk, V.size_alloc, V.size_drew, V.size_setCell, V.nmul_eq, V.inat_nat, V.inat_lit, Nat.mul_one, Nat.reduceMul, Nat.reduceAdd, V.and_assoc', V.true_and', V.ifB_t, V.ifB_f, V.isNil_some, V.isNil_none, Bool.not_true, Bool.not_false, Nat.zero_add, Nat.add_zero])
        repeat (first | with_reducible refine V.lI ?_ | with_reducible refine V.lS ?_ | with_reducible refine V.lP ?_ | with_reducible refine V.lL ?_ | with_reducible refine V.lM ?_ | with_reducible refine V.lB ?_ | with_reducible refine V.sC ?_ | with_reducible refine V.lG ?_ | ((with_reducible refine And.intro ?_ ?_); (· first | with_reducible exact V.hC | with_reducible exact V.hB | (simp only [V.inX, V.inR, V.inz, V.ige0, V.zi]; omega))) | simp only [V.nptr_eq, V.vBool_mk, V.vInt_mk, V.vStr_mk, V.vPtr_mk, V.vMap_mk, V.vSlice_mk, V.bnot_eq, V.nilCk_mk, V.aadd_mk, V.size_alloc, V.size_drew, V.size_setCell, V.nmul_eq, V.inat_nat, V.inat_lit, Nat.mul_one, Nat.reduceMul, Nat.reduceAdd, V.and_assoc', V.true_and', V.ifB_t, V.ifB_f, V.isNil_some, V.isNil_none, Bool.not_true, Bool.not_false, Nat.zero_add, Nat.add_zero])
        have hS9 := V.Kp.blk k9 hS (fun e => by simp only [V.blk?, Option.map_some, Option.some.injEq, V.size_alloc, V.size_drew] at e; omega)
        refine app_strs (h9.keep (V.kp : V.Kp V.Nil w9 _)) (by omega) (strAt_one V.blk) rfl (by simp) ?_
        intro p10 c10 w10 h10 k10 at10
        have kk10 : V.Kp V.Nil W w10 := V.Kp.then (V.kp : V.Kp V.Nil W _) k10 (fun i hi e => by have := n9 i e; omega)
        have hT10 := V.Kp.blk kk10 hT (fun e => e)
        (try simp only [V.nptr_eq, V.vBool_mk, V.vInt_mk, V.vStr_mk, V.vPtr_mk, V.vMap_mk, V.vSlice_mk, V.bnot_eq, V.nilCk_mk, V.aadd_mk, V.size_alloc, V.size_drew, V.size_setCell, V.nmul_eq, V.inat_nat, V.inat_lit, Nat.mul_one, Nat.reduceMul, Nat.reduceAdd, V.and_assoc', V.true_and', V.ifB_t, V.ifB_f, V.isNil_some, V.isNil_none, Bool.not_true, Bool.not_false, Nat.zero_add, Nat.add_zero])
        repeat (first | with_reducible refine V.lI ?_ | with_reducible refine V.lS ?_ | with_reducible refine V.lP ?_ | with_reducible refine V.lL ?_ | with_reducible refine V.lM ?_ | with_reducible refine V.lB ?_ | with_reducible refine V.sC ?_ | with_reducible refine V.lG ?_ | ((with_reducible refine And.intro ?_ ?_); (· first | with_reducible exact V.hC | with_reducible exact V.hB | (simp only [V.inX, V.inR, V.inz, V.ige0, V.zi]; omega))) | simp only [V.nptr_eq, V.vBool_mk, V.vInt_mk, V.vStr_mk, V.vPtr_mk, V.vMap_mk, V.vSlice_mk, V.bnot_eq, V.nilCk_mk, V.aadd_mk, V.size_alloc, V.size_drew, V.size_setCell, V.nmul_eq, V.inat_nat, V.inat_lit, Nat.mul_one, Nat.reduceMul, Nat.reduceAdd, V.and_assoc', V.true_and', V.ifB_t, V.ifB_f, V.isNil_some, V.isNil_none, Bool.not_true, Bool.not_false, Nat.zero_add, Nat.add_zero])
        refine mroot_spec (xs.length + 1) (Mk.leaves xs ++ [Mk.leaf leaf]) (by rw [List.length_append, hll]; rfl) (by omega) (fun y hy => by
          rcases List.mem_append.1 hy with h | h
          · exact hl32 y h
          · have : y = Mk.leaf leaf := by simpa using h
            rw [this]; omega) _ _ _ _ h10.length h10.le h10.at _ ?_
        intro w11 k11
        (try simp only [V.nptr_eq, V.vBool_mk, V.vInt_mk, V.vStr_mk, V.vPtr_mk, V.vMap_mk, V.vSlice_mk, V.bnot_eq, V.nilCk_mk, V.aadd_mk, V.size_alloc, V.size_drew, V.size_setCell, V.nmul_eq, V.inat_nat, V.inat_lit, Nat.mul_one, Nat.reduceMul, Nat.reduceAdd, V.and_assoc', V.true_and', V.ifB_t, V.ifB_f, V.isNil_some, V.isNil_none, Bool.not_true, Bool.not_false, Nat.zero_add, Nat.add_zero])
        rw [V.seq_eq, decide_eq_true hfin2]
        exact hc w11 (V.Kp.trans kW (V.Kp.trans kk10 k11))
      repeat (first | with_reducible refine V.lI ?_ | with_reducible refine V.lS ?_ | with_reducible refine V.lP ?_ | with_reducible refine V.lL ?_ | with_reducible refine V.lM ?_ | with_reducible refine V.lB ?_ | with_reducible refine V.sC ?_ | with_reducible refine V.lG ?_ | ((with_reducible refine And.intro ?_ ?_); (· first | with_reducible exact V.hC | with_reducible exact V.hB | (simp only [V.inX, V.inR, V.inz, V.ige0, V.zi]; omega))) | simp only [V.nptr_eq, V.vBool_mk, V.vInt_mk, V.vStr_mk, V.vPtr_mk, V.vMap_mk, V.vSlice_mk, V.bnot_eq, V.nilCk_mk, V.aadd_mk, V.size_alloc, V.size_drew, V.size_setCell, V.nmul_eq, V.inat_nat, V.inat_lit, Nat.mul_one, Nat.reduceMul, Nat.reduceAdd, V.and_assoc', V.true_and', V.ifB_t, V.ifB_f, V.isNil_some, V.isNil_none, Bool.not_true, Bool.not_false, Nat.zero_add, Nat.add_zero])
      refine And.intro ?_ ?_
      · skip
        refine root_spec L hLl hL2 _ q _ _ _ hL.length hL.le (hL.at.keep (V.kp : V.Kp V.Nil W _)) _ ?_
        intro w8 k8
        have kk8 : V.Kp V.Nil W w8 := V.Kp.trans (V.kp : V.Kp V.Nil W _) k8
        have hT8 := V.Kp.blk kk8 hT (fun e => e)
        have hX8 := V.Kp.blk kk8 hX (fun e => e)
        have hg8 := V.Kp.blk kk8 hg (fun e => e)
        have zk8 := k8.size
        have zz8 := kk8.size
        (try simp only [V.size_alloc, V.size_drew] at zk8)
        (try simp only [V.nptr_eq, V.vBool_mk, V.vInt_mk, V.vStr_mk, V.vPtr_mk, V.vMap_mk, V.vSlice_mk, V.bnot_eq, V.nilCk_mk, V.aadd_mk, V.size_alloc, V.size_drew, V.size_setCell, V.nmul_eq, V.inat_nat, V.inat_lit, Nat.mul_one, Nat.reduceMul, Nat.reduceAdd, V.and_assoc', V.true_and', V.ifB_t, V.ifB_f, V.isNil_some, V.isNil_none, Bool.not_true, Bool.not_false, Nat.zero_add, Nat.add_zero])
        repeat (first | with_reducible refine V.lI ?_ | with_reducible refine V.lS ?_ | with_reducible refine V.lP ?_ | with_reducible refine V.lL ?_ | with_reducible refine V.lM ?_ | with_reducible refine V.lB ?_ | with_reducible refine V.sC ?_ | with_reducible refine V.lG ?_ | ((with_reducible refine And.intro ?_ ?_); (· first | with_reducible exact V.hC | with_reducible exact V.hB | (simp only [V.inX, V.inR, V.inz, V.ige0, V.zi]; omega))) | simp only [V.nptr_eq, V.vBool_mk, V.vInt_mk, V.vStr_mk, V.vPtr_mk, V.vMap_mk, V.vSlice_mk, V.bnot_eq, V.nilCk_mk, V.aadd_mk, V.size_alloc, V.size_drew, V.size_setCell, V.nmul_eq, V.inat_nat, V.inat_lit, Nat.mul_one, Nat.reduceMul, Nat.reduceAdd, V.and_assoc', V.true_and', V.ifB_t, V.ifB_f, V.isNil_some, V.isNil_none, Bool.not_true, Bool.not_false, Nat.zero_add, Nat.add_zero])
        have hS' : V.Blk w8 W.heap.size #[.string (Mk.leaf leaf)] 9 := V.Kp.blk k8 V.blk (fun e => e)
        have hS := hS'.alloc (.cells #[] 9)
        refine app_strs (xs := []) (V.Row.of (cur := #[]) V.blk (Nat.le_refl _) (Nat.zero_le _) rfl rfl) (by omega) (hl.at.keep (V.kp : V.Kp V.Nil W _)) hll.symm (by omega) ?_
        intro p9 c9 w9 h9 k9 at9
        rw [Nat.zero_add, List.nil_append] at h9
        rw [Nat.zero_add]
        have zk9 := k9.size
        (try simp only [V.size_alloc, V.size_drew] at zk9)
        have kk9 : V.Kp V.Nil W w9 := V.Kp.then (V.kp : V.Kp V.Nil W _) k9 (fun i hi e => by simp only [V.blk?, Option.map_some, Option.some.injEq, V.size_alloc, V.size_drew] at e; omega)
        have n9 : New W.heap.size p9 := fun b hb => by
          rcases at9 b hb with e | e
          · simp only [V.blk?, Option.map_some, Option.some.injEq, V.size_alloc, V.size_drew] at e; omega
          · (try simp only [V.size_alloc, V.size_drew] at e)
            omega
        have hT9 := V.Kp.blk kk9 hT (fun e => e)
        have hX9 := V.Kp.blk kk9 hX (fun e => e)
        (try simp only [V.nptr_eq, V.vBool_mk, V.vInt_mk, V.vStr_mk, V.vPtr_mk, V.vMap_mk, V.vSlice_mk, V.bnot_eq, V.nilCk_mk, V.aadd_mk, V.size_alloc, V.size_drew, V.size_setCell, V.nmul_eq, V.inat_nat, V.inat_lit, Nat.mul_one, Nat.reduceMul, Nat.reduceAdd, V.and_assoc', V.true_and', V.ifB_t, V.ifB_f, V.isNil_some, V.isNil_none, Bool.not_true, Bool.not_false, Nat.zero_add, Nat.add_zero])
        repeat (first | with_reducible refine V.lI ?_ | with_reducible refine V.lS ?_ | with_reducible refine V.lP ?_ | with_reducible refine V.lL ?_ | with_reducible refine V.lM ?_ | with_reducible refine V.lB ?_ | with_reducible refine V.sC ?_ | with_reducible refine V.lG ?_ | ((with_reducible refine And.intro ?_ ?_); (· first | with_reducible exact V.hC | with_reducible exact V.hB | (simp only [V.inX, V.inR, V.inz, V.ige0, V.zi]; omega))) | simp only [V.nptr_eq, V.vBool_mk, V.vInt_mk, V.vStr_mk, V.vPtr_mk, V.vMap_mk, V.vSlice_mk, V.bnot_eq, V.nilCk_mk, V.aadd_mk, V.size_alloc, V.size_drew, V.size_setCell, V.nmul_eq, V.inat_nat, V.inat_lit, Nat.mul_one, Nat.reduceMul, Nat.reduceAdd, V.and_assoc', V.true_and', V.ifB_t, V.ifB_f, V.isNil_some, V.isNil_none, Bool.not_true, Bool.not_false, Nat.zero_add, Nat.add_zero])
        have hS9 := V.Kp.blk k9 hS (fun e => by simp only [V.blk?, Option.map_some, Option.some.injEq, V.size_alloc, V.size_drew] at e; omega)
        refine app_strs (h9.keep (V.kp : V.Kp V.Nil w9 _)) (by omega) (strAt_one V.blk) rfl (by simp) ?_
        intro p10 c10 w10 h10 k10 at10
        have kk10 : V.Kp V.Nil W w10 := V.Kp.then (V.kp : V.Kp V.Nil W _) k10 (fun i hi e => by have := n9 i e; omega)
        have hT10 := V.Kp.blk kk10 hT (fun e => e)
        (try simp only [V.nptr_eq, V.vBool_mk, V.vInt_mk, V.vStr_mk, V.vPtr_mk, V.vMap_mk, V.vSlice_mk, V.bnot_eq, V.nilCk_mk, V.aadd_mk, V.size_alloc, V.size_drew, V.size_setCell, V.nmul_eq, V.inat_nat, V.inat_lit, Nat.mul_one, Nat.reduceMul, Nat.reduceAdd, V.and_assoc', V.true_and', V.ifB_t, V.ifB_f, V.isNil_some, V.isNil_none, Bool.not_true, Bool.not_false, Nat.zero_add, Nat.add_zero])
        repeat (first | with_reducible refine V.lI ?_ | with_reducible refine V.lS ?_ | with_reducible refine V.lP ?_ | with_reducible refine V.lL ?_ | with_reducible refine V.lM ?_ | with_reducible refine V.lB ?_ | with_reducible refine V.sC ?_ | with_reducible refine V.lG ?_ | ((with_reducible refine And.intro ?_ ?_); (· first | with_reducible exact V.hC | with_reducible exact V.hB | (simp only [V.inX, V.inR, V.inz, V.ige0, V.zi]; omega))) | simp only [V.nptr_eq, V.vBool_mk, V.vInt_mk, V.vStr_mk, V.vPtr_mk, V.vMap_mk, V.vSlice_mk, V.bnot_eq, V.nilCk_mk, V.aadd_mk, V.size_alloc, V.size_drew, V.size_setCell, V.nmul_eq, V.inat_nat, V.inat_lit, Nat.mul_one, Nat.reduceMul, Nat.reduceAdd, V.and_assoc', V.true_and', V.ifB_t, V.ifB_f, V.isNil_some, V.isNil_none, Bool.not_true, Bool.not_false, Nat.zero_add, Nat.add_zero])
        refine mroot_spec (xs.length + 1) (Mk.leaves xs ++ [Mk.leaf leaf]) (by rw [List.length_append, hll]; rfl) (by omega) (fun y hy => by
          rcases List.mem_append.1 hy with h | h
          · exact hl32 y h
          · have : y = Mk.leaf leaf := by simpa using h
            rw [this]; omega) _ _ _ _ h10.length h10.le h10.at _ ?_
        intro w11 k11
        (try simp only [V.nptr_eq, V.vBool_mk, V.vInt_mk, V.vStr_mk, V.vPtr_mk, V.vMap_mk, V.vSlice_mk, V.bnot_eq, V.nilCk_mk, V.aadd_mk, V.size_alloc, V.size_drew, V.size_setCell, V.nmul_eq, V.inat_nat, V.inat_lit, Nat.mul_one, Nat.reduceMul, Nat.reduceAdd, V.and_assoc', V.true_and', V.ifB_t, V.ifB_f, V.isNil_some, V.isNil_none, Bool.not_true, Bool.not_false, Nat.zero_add, Nat.add_zero])
        rw [V.seq_eq, decide_eq_true hfin2]
        exact hc w11 (V.Kp.trans kW (V.Kp.trans kk10 k11))
      repeat (first | with_reducible refine V.lI ?_ | with_reducible refine V.lS ?_ | with_reducible refine V.lP ?_ | with_reducible refine V.lL ?_ | with_reducible refine V.lM ?_ | with_reducible refine V.lB ?_ | with_reducible refine V.sC ?_ | with_reducible refine V.lG ?_ | ((with_reducible refine And.intro ?_ ?_); (· first | with_reducible exact V.hC | with_reducible exact V.hB | (simp only [V.inX, V.inR, V.inz, V.ige0, V.zi]; omega))) | simp only [V.nptr_eq, V.vBool_mk, V.vInt_mk, V.vStr_mk, V.vPtr_mk, V.vMap_mk, V.vSlice_mk, V.bnot_eq, V.nilCk_mk, V.aadd_mk, V.size_alloc, V.size_drew, V.size_setCell, V.nmul_eq, V.inat_nat, V.inat_lit, Nat.mul_one, Nat.reduceMul, Nat.reduceAdd, V.and_assoc', V.true_and', V.ifB_t, V.ifB_f, V.isNil_some, V.isNil_none, Bool.not_true, Bool.not_false, Nat.zero_add, Nat.add_zero])
      refine root_spec L hLl hL2 _ q _ _ _ hL.length hL.le (hL.at.keep (V.kp : V.Kp V.Nil W _)) _ ?_
      intro w8 k8
      have kk8 : V.Kp V.Nil W w8 := V.Kp.trans (V.kp : V.Kp V.Nil W _) k8
      have hT8 := V.Kp.blk kk8 hT (fun e => e)
      have hX8 := V.Kp.blk kk8 hX (fun e => e)
      have hg8 := V.Kp.blk kk8 hg (fun e => e)
      have zk8 := k8.size
      have zz8 := kk8.size
      (try simp only [V.size_alloc, V.size_drew] at zk8)
      (try simp only [V.nptr_eq, V.vBool_mk, V.vInt_mk, V.vStr_mk, V.vPtr_mk, V.vMap_mk, V.vSlice_mk, V.bnot_eq, V.nilCk_mk, V.aadd_mk, V.size_alloc, V.size_drew, V.size_setCell, V.nmul_eq, V.inat_nat, V.inat_lit, Nat.mul_one, Nat.reduceMul, Nat.reduceAdd, V.and_assoc', V.true_and', V.ifB_t, V.ifB_f, V.isNil_some, V.isNil_none, Bool.not_true, Bool.not_false, Nat.zero_add, Nat.add_zero])
      repeat (first | with_reducible refine V.lI ?_ | with_reducible refine V.lS ?_ | with_reducible refine V.lP ?_ | with_reducible refine V.lL ?_ | with_reducible refine V.lM ?_ | with_reducible refine V.lB ?_ | with_reducible refine V.sC ?_ | with_reducible refine V.lG ?_ | ((with_reducible refine And.intro ?_ ?_); (· first | with_reducible exact V.hC | with_reducible exact V.hB | (simp only [V.inX, V.inR, V.inz, V.ige0, V.zi]; omega))) | simp only [V.nptr_eq, V.vBool_mk, V.vInt_mk, V.vStr_mk, V.vPtr_mk, V.vMap_mk, V.vSlice_mk, V.bnot_eq, V.nilCk_mk, V.aadd_mk, V.size_alloc, V.size_drew, V.size_setCell, V.nmul_eq, V.inat_nat, V.inat_lit, Nat.mul_one, Nat.reduceMul, Nat.reduceAdd, V.and_assoc', V.true_and', V.ifB_t, V.ifB_f, V.isNil_some, V.isNil_none, Bool.not_true, Bool.not_false, Nat.zero_add, Nat.add_zero])
      have hE : V.Blk w8 (W.heap.size + 1) #[] 9 := V.Kp.blk k8 V.blk (fun e => e)
      have hS : V.Blk w8 W.heap.size #[.string (Mk.leaf leaf)] 9 := V.Kp.blk k8 V.blk (fun e => e)
      refine app_strs (xs := []) (V.Row.of (cur := #[]) V.blk (Nat.le_refl _) (Nat.zero_le _) rfl rfl) (by omega) (hl.at.keep (V.kp : V.Kp V.Nil W _)) hll.symm (by omega) ?_
      intro p9 c9 w9 h9 k9 at9
      rw [Nat.zero_add, List.nil_append] at h9
      rw [Nat.zero_add]
      have zk9 := k9.size
      (try simp only [V.size_alloc, V.size_drew] at zk9)
      have kk9 : V.Kp V.Nil W w9 := V.Kp.then (V.kp : V.Kp V.Nil W _) k9 (fun i hi e => by simp only [V.blk?, Option.map_some, Option.some.injEq, V.size_alloc, V.size_drew] at e; omega)
      have n9 : New W.heap.size p9 := fun b hb => by
        rcases at9 b hb with e | e
        · simp only [V.blk?, Option.map_some, Option.some.injEq, V.size_alloc, V.size_drew] at e; omega
        · (try simp only [V.size_alloc, V.size_drew] at e)
          omega
      have hT9 := V.Kp.blk kk9 hT (fun e => e)
      have hX9 := V.Kp.blk kk9 hX (fun e => e)
      (try simp only [V.nptr_eq, V.vBool_mk, V.vInt_mk, V.vStr_mk, V.vPtr_mk, V.vMap_mk, V.vSlice_mk, V.bnot_eq, V.nilCk_mk, V.aadd_mk, V.size_alloc, V.size_drew, V.size_setCell, V.nmul_eq, V.inat_nat, V.inat_lit, Nat.mul_one, Nat.reduceMul, Nat.reduceAdd, V.and_assoc', V.true_and', V.ifB_t, V.ifB_f, V.isNil_some, V.isNil_none, Bool.not_true, Bool.not_false, Nat.zero_add, Nat.add_zero])
      repeat (first | with_reducible refine V.lI ?_ | with_reducible refine V.lS ?_ | with_reducible refine V.lP ?_ | with_reducible refine V.lL ?_ | with_reducible refine V.lM ?_ | with_reducible refine V.lB ?_ | with_reducible refine V.sC ?_ | with_reducible refine V.lG ?_ | ((with_reducible refine And.intro ?_ ?_); (· first | with_reducible exact V.hC | with_reducible exact V.hB | (simp only [V.inX, V.inR, V.inz, V.ige0, V.zi]; omega))) | simp only [V.nptr_eq, V.vBool_mk, V.vInt_mk, V.vStr_mk, V.vPtr_mk, V.vMap_mk, V.vSlice_mk, V.bnot_eq, V.nilCk_mk, V.aadd_mk, V.size_alloc, V.size_drew, V.size_setCell, V.nmul_eq, V.inat_nat, V.inat_lit, Nat.mul_one, Nat.reduceMul, Nat.reduceAdd, V.and_assoc', V.true_and', V.ifB_t, V.ifB_f, V.isNil_some, V.isNil_none, Bool.not_true, Bool.not_false, Nat.zero_add, Nat.add_zero])
      have hS9 := V.Kp.blk k9 hS (fun e => by simp only [V.blk?, Option.map_some, Option.some.injEq, V.size_alloc, V.size_drew] at e; omega)
      refine app_strs (h9.keep (V.kp : V.Kp V.Nil w9 _)) (by omega) (strAt_one V.blk) rfl (by simp) ?_
      intro p10 c10 w10 h10 k10 at10
      have kk10 : V.Kp V.Nil W w10 := V.Kp.then (V.kp : V.Kp V.Nil W _) k10 (fun i hi e => by have := n9 i e; omega)
      have hT10 := V.Kp.blk kk10 hT (fun e => e)
      (try simp only [V.nptr_eq, V.vBool_mk, V.vInt_mk, V.vStr_mk, V.vPtr_mk, V.vMap_mk, V.vSlice_mk, V.bnot_eq, V.nilCk_mk, V.aadd_mk, V.size_alloc, V.size_drew, V.size_setCell, V.nmul_eq, V.inat_nat, V.inat_lit, Nat.mul_one, Nat.reduceMul, Nat.reduceAdd, V.and_assoc', V.true_and', V.ifB_t, V.ifB_f, V.isNil_some, V.isNil_none, Bool.not_true, Bool.not_false, Nat.zero_add, Nat.add_zero])
      repeat (first | with_reducible refine V.lI ?_ | with_reducible refine V.lS ?_ | with_reducible refine V.lP ?_ | with_reducible refine V.lL ?_ | with_reducible refine V.lM ?_ | with_reducible refine V.lB ?_ | with_reducible refine V.sC ?_ | with_reducible refine V.lG ?_ | ((with_reducible refine And.intro ?_ ?_); (· first | with_reducible exact V.hC | with_reducible exact V.hB | (simp only [V.inX, V.inR, V.inz, V.ige0, V.zi]; omega))) | simp only [V.nptr_eq, V.vBool_mk, V.vInt_mk, V.vStr_mk, V.vPtr_mk, V.vMap_mk, V.vSlice_mk, V.bnot_eq, V.nilCk_mk, V.aadd_mk, V.size_alloc, V.size_drew, V.size_setCell, V.nmul_eq, V.inat_nat, V.inat_lit, Nat.mul_one, Nat.reduceMul, Nat.reduceAdd, V.and_assoc', V.true_and', V.ifB_t, V.ifB_f, V.isNil_some, V.isNil_none, Bool.not_true, Bool.not_false, Nat.zero_add, Nat.add_zero])
      refine mroot_spec (xs.length + 1) (Mk.leaves xs ++ [Mk.leaf leaf]) (by rw [List.length_append, hll]; rfl) (by omega) (fun y hy => by
        rcases List.mem_append.1 hy with h | h
        · exact hl32 y h
        · have : y = Mk.leaf leaf := by simpa using h
          rw [this]; omega) _ _ _ _ h10.length h10.le h10.at _ ?_
      intro w11 k11
      (try simp only [V.nptr_eq, V.vBool_mk, V.vInt_mk, V.vStr_mk, V.vPtr_mk, V.vMap_mk, V.vSlice_mk, V.bnot_eq, V.nilCk_mk, V.aadd_mk, V.size_alloc, V.size_drew, V.size_setCell, V.nmul_eq, V.inat_nat, V.inat_lit, Nat.mul_one, Nat.reduceMul, Nat.reduceAdd, V.and_assoc', V.true_and', V.ifB_t, V.ifB_f, V.isNil_some, V.isNil_none, Bool.not_true, Bool.not_false, Nat.zero_add, Nat.add_zero])
      rw [V.seq_eq, decide_eq_true hfin2]
      exact hc w11 (V.Kp.trans kW (V.Kp.trans kk10 k11))
    · repeat (first | with_reducible refine V.lI ?_ | with_reducible refine V.lS ?_ | with_reducible refine V.lP ?_ | with_reducible refine V.lL ?_ | with_reducible refine V.lM ?_ | with_reducible refine V.lB ?_ | with_reducible refine V.sC ?_ | with_reducible refine V.lG ?_ | ((with_reducible refine And.intro ?_ ?_); (· first | with_reducible exact V.hC | with_reducible exact V.hB | (simp only [V.inX, V.inR, V.inz, V.ige0, V.zi]; omega))) | simp only [V.nptr_eq, V.vBool_mk, V.vInt_mk, V.vStr_mk, V.vPtr_mk, V.vMap_mk, V.vSlice_mk, V.bnot_eq, V.nilCk_mk, V.aadd_mk, V.size_alloc, V.size_drew, V.size_setCell, V.nmul_eq, V.inat_nat, V.inat_lit, Nat.mul_one, Nat.reduceMul, Nat.reduceAdd, V.and_assoc', V.true_and', V.ifB_t, V.ifB_f, V.isNil_some, V.isNil_none, Bool.not_true, Bool.not_false, Nat.zero_add, Nat.add_zero])
      refine add_spec (Mk.ofR (Mk.leaves xs)) (Mk.leaf leaf) ho32 (by omega) xs.length (by omega) q1 _ d1 _ rfl hlo (hr6.at.keep (V.Kp.alloc (V.Kp.refl _ _) _)) _ ?_
      intro q n1 c1 w7 L hr7 hL2 hLl hf hq7 k7'
      have hg6 : V.Blk w7 w6.heap.size #[.int .i64 0, .slice none 0 0] 33 := V.Kp.blk k7' V.blk (fun e => e)
      have k7 : V.Kp V.Nil w6 w7 := V.Kp.trans V.kp k7'
      refine ⟨_, _, _, _, rfl, ?_⟩
      (try simp only [V.nptr_eq, V.vBool_mk, V.vInt_mk, V.vStr_mk, V.vPtr_mk, V.vMap_mk, V.vSlice_mk, V.bnot_eq, V.nilCk_mk, V.aadd_mk, V.size_alloc, V.size_drew, V.size_setCell, V.nmul_eq, V.inat_nat, V.inat_lit, Nat.mul_one, Nat.reduceMul, Nat.reduceAdd, V.and_assoc', V.true_and', V.ifB_t, V.ifB_f, V.isNil_some, V.isNil_none, Bool.not_true, Bool.not_false, Nat.zero_add, Nat.add_zero])
      refine V.sC ?_ hg6 (by show 0 < 2; omega)
      refine V.sC ?_ V.blk (by rw [Array.size_setIfInBounds]; show 1 < 2; omega)
      obtain ⟨W, hW⟩ : ∃ W, W = (w7.setCell ⟨w6.heap.size, 0, none⟩ (.int .i64 ((xs.length + 1 : Nat) : Int))).setCell ⟨w6.heap.size, 1, none⟩ (.slice q n1 c1) := ⟨_, rfl⟩
      rw [← hW]
      have z56 := k6.size
      have z67 := k7'.size
      rw [V.size_alloc] at z67
      have k6W : V.Kp V.Nil w6 W := by rw [hW]; exact V.Kp.set (V.Kp.set k7 (.inr (Nat.le_refl _)) _) (.inr (Nat.le_refl _)) _
      have hg : V.Blk W w6.heap.size #[.int .i64 ((xs.length + 1 : Nat) : Int), .slice q n1 c1] 33 := by rw [hW]; exact V.bto
      have hL : SRow W q n1 c1 L := by
        rw [hW]
        have kk : V.Kp (V.One w6.heap.size) w7 ((w7.setCell ⟨w6.heap.size, 0, none⟩ (.int .i64 ((xs.length + 1 : Nat) : Int))).setCell ⟨w6.heap.size, 1, none⟩ (.slice q n1 c1)) := V.Kp.set (S := V.One w6.heap.size) (V.Kp.set (S := V.One w6.heap.size) (V.Kp.refl _ _) (.inl rfl) _) (.inl rfl) _
        exact hr7.kp kk (fun b hb e => by have := hq7 b hb; rw [V.size_alloc] at this; have e : b = _ := e; omega)
      have k5W : V.Kp V.Nil w5 W := V.Kp.trans k6 k6W
      have hT' := hT
      have hT := V.Kp.blk k5W hT' (fun e => e)
      have hX := V.Kp.blk k5W hXb (fun e => e)
      have hl := hl5.keep k5W
      have kW := V.Kp.trans kw5 k5W
      have hfin2 : Mk.foldR L = Mk.root (Mk.leaves xs ++ [Mk.leaf leaf]) := by rw [hf, hfin]
      clear hW k5W hr7 hq7 k7 k6 k6' hT6 hX6 hr6 hq6 hT' hXb hl5 kw5 hx
      repeat (first | with_reducible refine V.lI ?_ | with_reducible refine V.lS ?_ | with_reducible refine V.lP ?_ | with_reducible refine V.lL ?_ | with_reducible refine V.lM ?_ | with_reducible refine V.lB ?_ | with_reducible refine V.sC ?_ | with_reducible refine V.lG ?_ | ((with_reducible refine And.intro ?_ ?_); (· first | with_reducible exact V.hC | with_reducible exact V.hB | (simp only [V.inX, V.inR, V.inz, V.ige0, V.zi]; omega))) | simp only [V.nptr_eq, V.vBool_mk, V.vInt_mk, V.vStr_mk, V.vPtr_mk, V.vMap_mk, V.vSlice_mk, V.bnot_eq, V.nilCk_mk, V.aadd_mk, V.size_alloc, V.size_drew, V.size_setCell, V.nmul_eq, V.inat_nat, V.inat_lit, Nat.mul_one, Nat.reduceMul, Nat.reduceAdd, V.and_assoc', V.true_and', V.ifB_t, V.ifB_f, V.isNil_some, V.isNil_none, Bool.not_true, Bool.not_false, Nat.zero_add, Nat.add_zero])
      refine And.intro ?_ ?_
      · skip
        refine root_spec L hLl hL2 _ q _ _ _ hL.length hL.le (hL.at.keep (V.kp : V.Kp V.Nil W _)) _ ?_
        intro w8 k8
        have kk8 : V.Kp V.Nil W w8 := V.Kp.trans (V.kp : V.Kp V.Nil W _) k8
        have hT8 := V.Kp.blk kk8 hT (fun e => e)
        have hX8 := V.Kp.blk kk8 hX (fun e => e)
        have hg8 := V.Kp.blk kk8 hg (fun e => e)
        have zk8 := k8.size
        have zz8 := kk8.size
        (try simp only [V.size_alloc, V.size_drew] at zk8)
        (try simp only [V.nptr_eq, V.vBool_mk, V.vInt_mk, V.vStr_mk, V.vPtr_mk, V.vMap_mk, V.vSlice_mk, V.bnot_eq, V.nilCk_mk, V.aadd_mk, V.size_alloc, V.size_drew, V.size_setCell, V.nmul_eq, V.inat_nat, V.inat_lit, Nat.mul_one, Nat.reduceMul, Nat.reduceAdd, V.and_assoc', V.true_and', V.ifB_t, V.ifB_f, V.isNil_some, V.isNil_none, Bool.not_true, Bool.not_false, Nat.zero_add, Nat.add_zero])
        repeat (first | with_reducible refine V.lI ?_ | with_reducible refine V.lS ?_ | with_reducible refine V.lP ?_ | with_reducible refine V.lL ?_ | with_reducible refine V.lM ?_ | with_reducible refine V.lB ?_ | with_reducible refine V.sC ?_ | with_reducible refine V.lG ?_ | ((with_reducible refine And.intro ?_ ?_); (· first | with_reducible exact V.hC | with_reducible exact V.hB | (simp only [V.inX, V.inR, V.inz, V.ige0, V.zi]; omega))) | simp only [V.nptr_eq, V.vBool_mk, V.vInt_mk, V.vStr_mk, V.vPtr_mk, V.vMap_mk, V.vSlice_mk, V.bnot_eq, V.nilCk_mk, V.aadd_mk, V.size_alloc, V.size_drew, V.size_setCell, V.nmul_eq, V.inat_nat, V.inat_lit, Nat.mul_one, Nat.reduceMul, Nat.reduceAdd, V.and_assoc', V.true_and', V.ifB_t, V.ifB_f, V.isNil_some, V.isNil_none, Bool.not_true, Bool.not_false, Nat.zero_add, Nat.add_zero])
        refine And.intro ?_ ?_
        · skip
          refine app_strs (xs := []) (V.Row.of (cur := #[]) V.blk (Nat.le_refl _) (Nat.zero_le _) rfl rfl) (by omega) (hl.at.keep (V.kp : V.Kp V.Nil W _)) hll.symm (by omega) ?_
          intro p9 c9 w9 h9 k9 at9
          rw [Nat.zero_add, List.nil_append] at h9
          rw [Nat.zero_add]
          have zk9 := k9.size
          (try simp only [V.size_alloc, V.size_drew] at zk9)
          have kk9 : V.Kp V.Nil W w9 := V.Kp.then (V.kp : V.Kp V.Nil W _) k9 (fun i hi e => by simp only [V.blk?, Option.map_some, Option.some.injEq, V.size_alloc, V.size_drew] at e; omega)
          have n9 : New W.heap.size p9 := fun b hb => by
            rcases at9 b hb with e | e
            · simp only [V.blk?, Option.map_some, Option.some.injEq, V.size_alloc, V.size_drew] at e; omega
            · (try simp only [V.size_alloc, V.size_drew] at e)
              omega
          have hT9 := V.Kp.blk kk9 hT (fun e => e)
          have hX9 := V.Kp.blk kk9 hX (fun e => e)
          (try simp only [V.nptr_eq, V.vBool_mk, V.vInt_mk, V.vStr_mk, V.vPtr_mk, V.vMap_mk, V.vSlice_mk, V.bnot_eq, V.nilCk_mk, V.aadd_mk, V.size_alloc, V.size_drew, V.size_setCell, V.nmul_eq, V.inat_nat, V.inat_lit, Nat.mul_one, Nat.reduceMul, Nat.reduceAdd, V.and_assoc', V.true_and', V.ifB_t, V.ifB_f, V.isNil_some, V.isNil_none, Bool.not_true, Bool.not_false, Nat.zero_add, Nat.add_zero])
          repeat (first | with_reducible refine V.lI ?_ | with_reducible refine V.lS ?_ | with_reducible refine V.lP ?_ | with_reducible refine V.lL ?_ | with_reducible refine V.lM ?_ | with_reducible refine V.lB ?_ | with_reducible refine V.sC ?_ | with_reducible refine V.lG ?_ | ((with_reducible refine And.intro ?_ ?_); (· first | with_reducible exact V.hC | with_reducible exact V.hB | (simp only [V.inX, V.inR, V.inz, V.ige0, V.zi]; omega))) | simp only [V.nptr_eq, V.vBool_mk, V.vInt_mk, V.vStr_mk, V.vPtr_mk, V.vMap_mk, V.vSlice_mk, V.bnot_eq, V.nilCk_mk, V.aadd_mk, V.size_alloc, V.size_drew, V.size_setCell, V.nmul_eq, V.inat_nat, V.inat_lit, Nat.mul_one, Nat.reduceMul, Nat.reduceAdd, V.and_assoc', V.true_and', V.ifB_t, V.ifB_f, V.isNil_some, V.isNil_none, Bool.not_true, Bool.not_false, Nat.zero_add, Nat.add_zero])
          refine app_strs (h9.keep (V.kp : V.Kp V.Nil w9 _)) (by omega) (strAt_one V.blk) rfl (by simp) ?_
          intro p10 c10 w10 h10 k10 at10
          have kk10 : V.Kp V.Nil W w10 := V.Kp.then (V.kp : V.Kp V.Nil W _) k10 (fun i hi e => by have := n9 i e; omega)
          have hT10 := V.Kp.blk kk10 hT (fun e => e)
          (try simp only [V.nptr_eq, V.vBool_mk, V.vInt_mk, V.vStr_mk, V.vPtr_mk, V.vMap_mk, V.vSlice_mk, V.bnot_eq, V.nilCk_mk, V.aadd_mk, V.size_alloc, V.size_drew, V.size_setCell, V.nmul_eq, V.inat_nat, V.inat_lit, Nat.mul_one, Nat.reduceMul, Nat.reduceAdd, V.and_assoc', V.true_and', V.ifB_t, V.ifB_f, V.isNil_some, V.isNil_none, Bool.not_true, Bool.not_false, Nat.zero_add, Nat.add_zero])
          repeat (first | with_reducible refine V.lI ?_ | with_reducible refine V.lS ?_ | with_reducible refine V.lP ?_ | with_reducible refine V.lL ?_ | with_reducible refine V.lM ?_ | with_reducible refine V.lB ?_ | with_reducible refine V.sC ?_ | with_reducible refine V.lG ?_ | ((with_reducible refine And.intro ?_ ?_); (· first | with_reducible exact V.hC | with_reducible exact V.hB | (simp only [V.inX, V.inR, V.inz, V.ige0, V.zi]; omega))) | simp only [V.nptr_eq, V.vBool_mk, V.vInt_mk, V.vStr_mk, V.vPtr_mk, V.vMap_mk, V.vSlice_mk, V.bnot_eq, V.nilCk_mk, V.aadd_mk, V.size_alloc, V.size_drew, V.size_setCell, V.nmul_eq, V.inat_nat, V.inat_lit, Nat.mul_one, Nat.reduceMul, Nat.reduceAdd, V.and_assoc', V.true_and', V.ifB_t, V.ifB_f, V.isNil_some, V.isNil_none, Bool.not_true, Bool.not_false, Nat.zero_add, Nat.add_zero])
          refine mroot_spec (xs.length + 1) (Mk.leaves xs ++ [Mk.leaf leaf]) (by rw [List.length_append, hll]; rfl) (by omega) (fun y hy => by
            rcases List.mem_append.1 hy with h | h
            · exact hl32 y h
            · have : y = Mk.leaf leaf := by simpa using h
              rw [this]; omega) _ _ _ _ h10.length h10.le h10.at _ ?_
          intro w11 k11
          (try simp only [V.nptr_eq, V.vBool_mk, V.vInt_mk, V.vStr_mk, V.vPtr_mk, V.vMap_mk, V.vSlice_mk, V.bnot_eq, V.nilCk_mk, V.aadd_mk, V.size_alloc, V.size_drew, V.size_setCell, V.nmul_eq, V.inat_nat, V.inat_lit, Nat.mul_one, Nat.reduceMul, Nat.reduceAdd, V.and_assoc', V.true_and', V.ifB_t, V.ifB_f, V.isNil_some, V.isNil_none, Bool.not_true, Bool.not_false, Nat.zero_add, Nat.add_zero])
          rw [V.seq_eq, decide_eq_true hfin2]
          exact hc w11 (V.Kp.trans kW (V.Kp.trans kk10 k11))
        repeat (first | with_reducible refine V.lI ?_ | with_reducible refine V.lS ?_ | with_reducible refine V.lP ?_ | with_reducible refine V.lL ?_ | with_reducible refine V.lM ?_ | with_reducible refine V.lB ?_ | with_reducible refine V.sC ?_ | with_reducible refine V.lG ?_ | ((with_reducible refine And.intro ?_ ?_); (· first | with_reducible exact V.hC | with_reducible exact V.hB | (simp only [V.inX, V.inR, V.inz, V.ige0, V.zi]; omega))) | simp only [V.nptr_eq, V.vBool_mk, V.vInt_mk, V.vStr_mk, V.vPtr_mk, V.vMap_mk, V.vSlice_mk, V.bnot_eq, V.nilCk_mk, V.aadd_mk, V.size_alloc, V.size_drew, V.size_setCell, V.nmul_eq, V.inat_nat, V.inat_lit, Nat.mul_one, Nat.reduceMul, Nat.reduceAdd, V.and_assoc', V.true_and', V.ifB_t, V.ifB_f, V.isNil_some, V.isNil_none, Bool.not_true, Bool.not_false, Nat.zero_add, Nat.add_zero])
        refine And.intro ?_ ?_
        · have hS : V.Blk ((w8.alloc (.cells #[] 9)).alloc (.cells #[.string (Mk.leaf leaf)] 9)) (w8.heap.size + 1) #[.string (Mk.leaf leaf)] 9 := V.blk
          refine app_strs (xs := []) (V.Row.of (cur := #[]) V.blk (Nat.le_refl _) (Nat.zero_le _) rfl rfl) (by omega) (hl.at.keep (V.kp : V.Kp V.Nil W _)) hll.symm (by omega) ?_
          intro p9 c9 w9 h9 k9 at9
          rw [Nat.zero_add, List.nil_append] at h9
          rw [Nat.zero_add]
          have zk9 := k9.size
          (try simp only [V.size_alloc, V.size_drew] at zk9)
          have kk9 : V.Kp V.Nil W w9 := V.Kp.then (V.kp : V.Kp V.Nil W _) k9 (fun i hi e => by simp only [V.blk?, Option.map_some, Option.some.injEq, V.size_alloc, V.size_drew] at e; omega)
          have n9 : New W.heap.size p9 := fun b hb => by
            rcases at9 b hb with e | e
            · simp only [V.blk?, Option.map_some, Option.some.injEq, V.size_alloc, V.size_drew] at e; omega
            · (try simp only [V.size_alloc, V.size_drew] at e)
              omega
          have hT9 := V.Kp.blk kk9 hT (fun e => e)
          have hX9 := V.Kp.blk kk9 hX (fun e => e)
          (try simp only [V.nptr_eq, V.vBool_mk, V.vInt_mk, V.vStr_mk, V.vPtr_mk, V.vMap_mk, V.vSlice_mk, V.bnot_eq, V.nilCk_mk, V.aadd_mk, V.size_alloc, V.size_drew, V.size_setCell, V.nmul_eq, V.inat_nat, V.inat_lit, Nat.mul_one, Nat.reduceMul, Nat.reduceAdd, V.and_assoc', V.true_and', V.ifB_t, V.ifB_f, V.isNil_some, V.isNil_none, Bool.not_true, Bool.not_false, Nat.zero_add, Nat.add_zero])
          repeat (first | with_reducible refine V.lI ?_ | with_reducible refine V.lS ?_ | with_reducible refine V.lP ?_ | with_reducible refine V.lL ?_ | with_reducible refine V.lM ?_ | with_reducible refine V.lB ?_ | with_reducible refine V.sC ?_ | with_reducible refine V.lG ?_ | ((with_reducible refine And.intro ?_ ?_); (· first | with_reducible exact V.hC | with_reducible exact V.hB | (simp only [V.inX, V.inR, V.inz, V.ige0, V.zi]; omega))) | simp only [V.nptr_eq, V.vBool_mk, V.vInt_mk, V.vStr_mk, V.vPtr_mk, V.vMap_mk, V.vSlice_mk, V.bnot_eq, V.nilCk_mk, V.aadd_mk, V.size_alloc, V.size_drew, V.size_setCell, V.nmul_eq, V.inat_nat, V.inat_lit, Nat.mul_one, Nat.reduceMul, Nat.reduceAdd, V.and_assoc', V.true_and', V.ifB_t, V.ifB_f, V.isNil_some, V.isNil_none, Bool.not_true, Bool.not_false, Nat.zero_add, Nat.add_zero])
          have hS9 := V.Kp.blk k9 hS (fun e => by simp only [V.blk?, Option.map_some, Option.some.injEq, V.size_alloc, V.size_drew] at e; omega)
          refine app_strs (h9.keep (V.kp : V.Kp V.Nil w9 _)) (by omega) (strAt_one V.blk) rfl (by simp) ?_
          intro p10 c10 w10 h10 k10 at10
          have kk10 : V.Kp V.Nil W w10 := V.Kp.then (V.kp : V.Kp V.Nil W _) k10 (fun i hi e => by have := n9 i e; omega)
          have hT10 := V.Kp.blk kk10 hT (fun e => e)
          (try simp only [V.nptr_eq, V.vBool_mk, V.vInt_mk, V.vStr_mk, V.vPtr_mk, V.vMap_mk, V.vSlice_mk, V.bnot_eq, V.nilCk_mk, V.aadd_mk, V.size_alloc, V.size_drew, V.size_setCell, V.nmul_eq, V.inat_nat, V.inat_lit, Nat.mul_one, Nat.reduceMul, Nat.reduceAdd, V.and_assoc', V.true_and', V.ifB_t, V.ifB_f, V.isNil_some, V.isNil_none, Bool.not_true, Bool.not_false, Nat.zero_add, Nat.add_zero])
          repeat (first | with_reducible refine V.lI ?_ | with_reducible refine V.lS ?_ | with_reducible refine V.lP ?_ | with_reducible refine V.lL ?_ | with_reducible refine V.lM ?_ | with_reducible refine V.lB ?_ | with_reducible refine V.sC ?_ | with_reducible refine V.lG ?_ | ((with_reducible refine And.intro ?_ ?_); (· first | with_reducible exact V.hC | with_reducible exact V.hB | (simp only [V.inX, V.inR, V.inz, V.ige0, V.zi]; omega))) | simp only [V.nptr_eq, V.vBool_mk, V.vInt_mk, V.vStr_mk, V.vPtr_mk, V.vMap_mk, V.vSlice_mk, V.bnot_eq, V.nilCk_mk, V.aadd_mk, V.size_alloc, V.size_drew, V.size_setCell, V.nmul_eq, V.inat_nat, V.inat_lit, Nat.mul_one, Nat.reduceMul, Nat.reduceAdd, V.and_assoc', V.true_and', V.ifB_t, V.ifB_f, V.isNil_some, V.isNil_none, Bool.not_true, Bool.not_false, Nat.zero_add, Nat.add_zero])
          refine mroot_spec (xs.length + 1) (Mk.leaves xs ++ [Mk.leaf leaf]) (by rw [List.length_append, hll]; rfl) (by omega) (fun y hy => by
            rcases List.mem_append.1 hy with h | h
            · exact hl32 y h
            · have : y = Mk.leaf leaf := by simpa using h
              rw [this]; omega) _ _ _ _ h10.length h10.le h10.at _ ?_
          intro w11 k11
          (try simp only [V.nptr_eq, V.vBool_mk, V.vInt_mk, V.vStr_mk, V.vPtr_mk, V.vMap_mk, V.vSlice_mk, V.bnot_eq, V.nilCk_mk, V.aadd_mk, V.size_alloc, V.size_drew, V.size_setCell, V.nmul_eq, V.inat_nat, V.inat_lit, Nat.mul_one, Nat.reduceMul, Nat.reduceAdd, V.and_assoc', V.true_and', V.ifB_t, V.ifB_f, V.isNil_some, V.isNil_none, Bool.not_true, Bool.not_false, Nat.zero_add, Nat.add_zero])
          rw [V.seq_eq, decide_eq_true hfin2]
          exact hc w11 (V.Kp.trans kW (V.Kp.trans kk10 k11))
        repeat (first | with_reducible refine V.lI ?_ | with_reducible refine V.lS ?_ | with_reducible refine V.lP ?_ | with_reducible refine V.lL ?_ | with_reducible refine V.lM ?_ | with_reducible refine V.lB ?_ | with_reducible refine V.sC ?_ | with_reducible refine V.lG ?_ | ((with_reducible refine And.intro ?_ ?_); (· first | with_reducible exact V.hC | with_reducible exact V.hB | (simp only [V.inX, V.inR, V.inz, V.ige0, V.zi]; omega))) | simp only [V.nptr_eq, V.vBool_mk, V.vInt_mk, V.vStr_mk, V.vPtr_mk, V.vMap_mk, V.vSlice_mk, V.bnot_eq, V.nilCk_mk, V.aadd_mk, V.size_alloc, V.size_drew, V.size_setCell, V.nmul_eq, V.inat_nat, V.inat_lit, Nat.mul_one, Nat.reduceMul, Nat.reduceAdd, V.and_assoc', V.true_and', V.ifB_t, V.ifB_f, V.isNil_some, V.isNil_none, Bool.not_true, Bool.not_false, Nat.zero_add, Nat.add_zero])
        have hS : V.Blk ((w8.alloc (.cells #[.string (Mk.leaf leaf)] 9)).alloc (.cells #[] 9)) w8.heap.size #[.string (Mk.leaf leaf)] 9 := V.blk
        refine app_strs (xs := []) (V.Row.of (cur := #[]) V.blk (Nat.le_refl _) (Nat.zero_le _) rfl rfl) (by omega) (hl.at.keep (V.kp : V.Kp V.Nil W _)) hll.symm (by omega) ?_
        intro p9 c9 w9 h9 k9 at9
        rw [Nat.zero_add, List.nil_append] at h9
        rw [Nat.zero_add]
        have zk9 := k9.size
        (try simp only [V.size_alloc, V.size_drew] at zk9)
        have kk9 : V.Kp V.Nil W w9 := V.Kp.then (V.kp : V.Kp V.Nil W _) k9 (fun i hi e => by simp only [V.blk?, Option.map_some, Option.some.injEq, V.size_alloc, V.size_drew] at e; omega)
        have n9 : New W.heap.size p9 := fun b hb => by
          rcases at9 b hb with e | e
          · simp only [V.blk?, Option.map_some, Option.some.injEq, V.size_alloc, V.size_drew] at e; omega
          · (try simp only [V.size_alloc, V.size_drew] at e)
            omega
        have hT9 := V.Kp.blk kk9 hT (fun e => e)
        have hX9 := V.Kp.blk kk9 hX (fun e => e)
        (try simp only [V.nptr_eq, V.vBool_mk, V.vInt_mk, V.vStr_mk, V.vPtr_mk, V.vMap_mk, V.vSlice_mk, V.bnot_eq, V.nilCk_mk, V.aadd_mk, V.size_alloc, V.size_drew, V.size_setCell, V.nmul_eq, V.inat_nat, V.inat_lit, Nat.mul_one, Nat.reduceMul, Nat.reduceAdd, V.and_assoc', V.true_and', V.ifB_t, V.ifB_f, V.isNil_some, V.isNil_none, Bool.not_true, Bool.not_false, Nat.zero_add, Nat.add_zero])
        repeat (first | with_reducible refine V.lI ?_ | with_reducible refine V.lS ?_ | with_reducible refine V.lP ?_ | with_reducible refine V.lL ?_ | with_reducible refine V.lM ?_ | with_reducible refine V.lB ?_ | with_reducible refine V.sC ?_ | with_reducible refine V.lG ?_ | ((with_reducible refine And.intro ?_ ?_); (· first | with_reducible exact V.hC | with_reducible exact V.hB | (simp only [V.inX, V.inR, V.inz, V.ige0, V.zi]; omega))) | simp only [V.nptr_eq, V.vBool_mk, V.vInt_mk, V.vStr_mk, V.vPtr_mk, V.vMap_mk, V.vSlice_mk, V.bnot_eq, V.nilCk_mk, V.aadd_mk, V.size_alloc, V.size_drew, V.size_setCell, V.nmul_eq, V.inat_nat, V.inat_lit, Nat.mul_one, Nat.reduceMul, Nat.reduceAdd, V.and_assoc', V.true_and', V.ifB_t, V.ifB_f, V.isNil_some, V.isNil_none, Bool.not_true, Bool.not_false, Nat.zero_add, Nat.add_zero])
        have hS9 := V.Kp.blk k9 hS (fun e => by simp only [V.blk?, Option.map_some, Option.some.injEq, V.size_alloc, V.size_drew] at e; omega)
        refine app_strs (h9.keep (V.kp : V.Kp V.Nil w9 _)) (by omega) (strAt_one V.blk) rfl (by simp) ?_
        intro p10 c10 w10 h10 k10 at10
        have kk10 : V.Kp V.Nil W w10 := V.Kp.then (V.kp : V.Kp V.Nil W _) k10 (fun i hi e => by have := n9 i e; omega)
        have hT10 := V.Kp.blk kk10 hT (fun e => e)
        (try simp only [V.nptr_eq, V.vBool_mk, V.vInt_mk, V.vStr_mk, V.vPtr_mk, V.vMap_mk, V.vSlice_mk, V.bnot_eq, V.nilCk_mk, V.aadd_mk, V.size_alloc, V.size_drew, V.size_setCell, V.nmul_eq, V.inat_nat, V.inat_lit, Nat.mul_one, Nat.reduceMul, Nat.reduceAdd, V.and_assoc', V.true_and', V.ifB_t, V.ifB_f, V.isNil_some, V.isNil_none, Bool.not_true, Bool.not_false, Nat.zero_add, Nat.add_zero])
        repeat (first | with_reducible refine V.lI ?_ | with_reducible refine V.lS ?_ | with_reducible refine V.lP ?_ | with_reducible refine V.lL ?_ | with_reducible refine V.lM ?_ | with_reducible refine V.lB ?_ | with_reducible refine V.sC ?_ | with_reducible refine V.lG ?_ | ((with_reducible refine And.intro ?_ ?_); (· first | with_reducible exact V.hC | with_reducible exact V.hB | (simp only [V.inX, V.inR, V.inz, V.ige0, V.zi]; omega))) | simp only [V.nptr_eq, V.vBool_mk, V.vInt_mk, V.vStr_mk, V.vPtr_mk, V.vMap_mk, V.vSlice_mk, V.bnot_eq, V.nilCk_mk, V.aadd_mk, V.size_alloc, V.size_drew, V.size_setCell, V.nmul_eq, V.inat_nat, V.inat_lit, Nat.mul_one, Nat.reduceMul, Nat.reduceAdd, V.and_assoc', V.true_and', V.ifB_t, V.ifB_f, V.isNil_some, V.isNil_none, Bool.not_true, Bool.not_false, Nat.zero_add, Nat.add_zero])
        refine mroot_spec (xs.length + 1) (Mk.leaves xs ++ [Mk.leaf leaf]) (by rw [List.length_append, hll]; rfl) (by omega) (fun y hy => by
          rcases List.mem_append.1 hy with h | h
          · exact hl32 y h
          · have : y = Mk.leaf leaf := by simpa using h
            rw [this]; omega) _ _ _ _ h10.length h10.le h10.at _ ?_
        intro w11 k11
        (try simp only [V.nptr_eq, V.vBool_mk, V.vInt_mk, V.vStr_mk, V.vPtr_mk, V.vMap_mk, V.vSlice_mk, V.bnot_eq, V.nilCk_mk, V.aadd_mk, V.size_alloc, V.size_drew, V.size_setCell, V.nmul_eq, V.inat_nat, V.inat_lit, Nat.mul_one, Nat.reduceMul, Nat.reduceAdd, V.and_assoc', V.true_and', V.ifB_t, V.ifB_f, V.isNil_some, V.isNil_none, Bool.not_true, Bool.not_false, Nat.zero_add, Nat.add_zero])
        rw [V.seq_eq, decide_eq_true hfin2]
        exact hc w11 (V.Kp.trans kW (V.Kp.trans kk10 k11))
      repeat (first | with_reducible refine V.lI ?_ | with_reducible refine V.lS ?_ | with_reducible refine V.lP ?_ | with_reducible refine V.lL ?_ | with_reducible refine V.lM ?_ | with_reducible refine V.lB ?_ | with_reducible refine V.sC ?_ | with_reducible refine V.lG ?_ | ((with_reducible refine And.intro ?_ ?_); (· first | with_reducible exact V.hC | with_reducible exact V.hB | (simp only [V.inX, V.inR, V.inz, V.ige0, V.zi]; omega))) | simp only [V.nptr_eq, V.vBool_mk, V.vInt_mk, V.vStr_mk, V.vPtr_mk, V.vMap_mk, V.vSlice_mk, V.bnot_eq, V.nilCk_mk, V.aadd_mk, V.size_alloc, V.size_drew, V.size_setCell, V.nmul_eq, V.inat_nat, V.inat_lit, Nat.mul_one, Nat.reduceMul, Nat.reduceAdd, V.and_assoc', V.true_and', V.ifB_t, V.ifB_f, V.isNil_some, V.isNil_none, Bool.not_true, Bool.not_false, Nat.zero_add, Nat.add_zero])
      refine And.intro ?_ ?_
      · skip
        refine root_spec L hLl hL2 _ q _ _ _ hL.length hL.le (hL.at.keep (V.kp : V.Kp V.Nil W _)) _ ?_
        intro w8 k8
        have kk8 : V.Kp V.Nil W w8 := V.Kp.trans (V.kp : V.Kp V.Nil W _) k8
        have hT8 := V.Kp.blk kk8 hT (fun e => e)
        have hX8 := V.Kp.blk kk8 hX (fun e => e)
        have hg8 := V.Kp.blk kk8 hg (fun e => e)
        have zk8 := k8.size
        have zz8 := kk8.size
        (try simp only [V.size_alloc, V.size_drew] at zk8)
        (try simp only [V.nptr_eq, V.vBool_mk, V.vInt_mk, V.vStr_mk, V.vPtr_mk, V.vMap_mk, V.vSlice_mk, V.bnot_eq, V.nilCk_mk, V.aadd_mk, V.size_alloc, V.size_drew, V.size_setCell, V.nmul_eq, V.inat_nat, V.inat_lit, Nat.mul_one, Nat.reduceMul, Nat.reduceAdd, V.and_assoc', V.true_and', V.ifB_t, V.ifB_f, V.isNil_some, V.isNil_none, Bool.not_true, Bool.not_false, Nat.zero_add, Nat.add_zero])
        repeat (first | with_reducible refine V.lI ?_ | with_reducible refine V.lS ?_ | with_reducible refine V.lP ?_ | with_reducible refine V.lL ?_ | with_reducible refine V.lM ?_ | with_reducible refine V.lB ?_ | with_reducible refine V.sC ?_ | with_reducible refine V.lG ?_ | ((with_reducible refine And.intro ?_ ?_); (· first | with_reducible exact V.hC | with_reducible exact V.hB | (simp only [V.inX, V.inR, V.inz, V.ige0, V.zi]; omega))) | simp only [V.nptr_eq, V.vBool_mk, V.vInt_mk, V.vStr_mk, V.vPtr_mk, V.vMap_mk, V.vSlice_mk, V.bnot_eq, V.nilCk_mk, V.aadd_mk, V.size_alloc, V.size_drew, V.size_setCell, V.nmul_eq, V.inat_nat, V.inat_lit, Nat.mul_one, Nat.reduceMul, Nat.reduceAdd, V.and_assoc', V.true_and', V.ifB_t, V.ifB_f, V.isNil_some, V.isNil_none, Bool.not_true, Bool.not_false, Nat.zero_add, Nat.add_zero])
        have hE : V.Blk w8 W.heap.size #[] 9 := V.Kp.blk k8 V.blk (fun e => e)
        refine And.intro ?_ ?_
        · skip
          refine app_strs (xs := []) (V.Row.of (cur := #[]) V.blk (Nat.le_refl _) (Nat.zero_le _) rfl rfl) (by omega) (hl.at.keep (V.kp : V.Kp V.Nil W _)) hll.symm (by omega) ?_
          intro p9 c9 w9 h9 k9 at9
          rw [Nat.zero_add, List.nil_append] at h9
          rw [Nat.zero_add]
          have zk9 := k9.size
          (try simp only [V.size_alloc, V.size_drew] at zk9)
          have kk9 : V.Kp V.Nil W w9 := V.Kp.then (V.kp : V.Kp V.Nil W _) k9 (fun i hi e => by simp only [V.blk?, Option.map_some, Option.some.injEq, V.size_alloc, V.size_drew] at e; omega)
          have n9 : New W.heap.size p9 := fun b hb => by
            rcases at9 b hb with e | e
            · simp only [V.blk?, Option.map_some, Option.some.injEq, V.size_alloc, V.size_drew] at e; omega
            · (try simp only [V.size_alloc, V.size_drew] at e)
              omega
          have hT9 := V.Kp.blk kk9 hT (fun e => e)
          have hX9 := V.Kp.blk kk9 hX (fun e => e)
          (try simp only [V.nptr_eq, V.vBool_mk, V.vInt_mk, V.vStr_mk, V.vPtr_mk, V.vMap_mk, V.vSlice_mk, V.bnot_eq, V.nilCk_mk, V.aadd_mk, V.size_alloc, V.size_drew, V.size_setCell, V.nmul_eq, V.inat_nat, V.inat_lit, Nat.mul_one, Nat.reduceMul, Nat.reduceAdd, V.and_assoc', V.true_and', V.ifB_t, V.ifB_f, V.isNil_some, V.isNil_none, Bool.not_true, Bool.not_false, Nat.zero_add, Nat.add_zero])
          repeat (first | with_reducible refine V.lI ?_ | with_reducible refine V.lS ?_ | with_reducible refine V.lP ?_ | with_reducible refine V.lL ?_ | with_reducible refine V.lM ?_ | with_reducible refine V.lB ?_ | with_reducible refine V.sC ?_ | with_reducible refine V.lG ?_ | ((with_reducible refine And.intro ?_ ?_); (· first | with_reducible exact V.hC | with_reducible exact V.hB | (simp only [V.inX, V.inR, V.inz, V.ige0, V.zi]; omega))) | simp only [V.nptr_eq, V.vBool_mk, V.vInt_mk, V.vStr_mk, V.vPtr_mk, V.vMap_mk, V.vSlice_mk, V.bnot_eq, V.nilCk_mk, V.aadd_mk, V.size_alloc, V.size_drew, V.size_setCell, V.nmul_eq, V.inat_nat, V.inat_lit, Nat.mul_one, Nat.reduceMul, Nat.reduceAdd, V.and_assoc', V.true_and', V.ifB_t, V.ifB_f, V.isNil_some, V.isNil_none, Bool.not_true, Bool.not_false, Nat.zero_add, Nat.add_zero])
          refine app_strs (h9.keep (V.kp : V.Kp V.Nil w9 _)) (by omega) (strAt_one V.blk) rfl (by simp) ?_
          intro p10 c10 w10 h10 k10 at10
          have kk10 : V.Kp V.Nil W w10 := V.Kp.then (V.kp : V.Kp V.Nil W _) k10 (fun i hi e => by have := n9 i e; omega)
          have hT10 := V.Kp.blk kk10 hT (fun e => e)
          (try simp only [V.nptr_eq, V.vBool_mk, V.vInt_mk, V.vStr_mk, V.vPtr_mk, V.vMap_mk, V.vSlice_mk, V.bnot_eq, V.nilCk_mk, V.aadd_mk, V.size_alloc, V.size_drew, V.size_setCell, V.nmul_eq, V.inat_nat, V.inat_lit, Nat.mul_one, Nat.reduceMul, Nat.reduceAdd, V.and_assoc', V.true_and', V.ifB_t, V.ifB_f, V.isNil_some, V.isNil_none, Bool.not_true, Bool.not_false, Nat.zero_add, Nat.add_zero])
          repeat (first | with_reducible refine V.lI ?_ | with_reducible refine V.lS ?_ | with_reducible refine V.lP ?_ | with_reducible refine V.lL ?_ | with_reducible refine V.lM ?_ | with_reducible refine V.lB ?_ | with_reducible refine V.sC ?_ | with_reducible refine V.lG ?_ | ((with_reducible refine And.intro ?_ ?_); (· first | with_reducible exact V.hC | with_reducible exact V.hB | (simp only [V.inX, V.inR, V.inz, V.ige0, V.zi]; omega))) | simp only [V.nptr_eq, V.vBool_mk, V.vInt_mk, V.vStr_mk, V.vPtr_mk, V.vMap_mk, V.vSlice_mk, V.bnot_eq, V.nilCk_mk, V.aadd_mk, V.size_alloc, V.size_drew, V.size_setCell, V.nmul_eq, V.inat_nat, V.inat_lit, Nat.mul_one, Nat.reduceMul, Nat.reduceAdd, V.and_assoc', V.true_and', V.ifB_t, V.ifB_f, V.isNil_some, V.isNil_none, Bool.not_true, Bool.not_false, Nat.zero_add, Nat.add_zero])
          refine mroot_spec (xs.length + 1) (Mk.leaves xs ++ [Mk.leaf leaf]) (by rw [List.length_append, hll]; rfl) (by omega) (fun y hy => by
            rcases List.mem_append.1 hy with h | h
            · exact hl32 y h
            · have : y = Mk.leaf leaf := by simpa using h
              rw [this]; omega) _ _ _ _ h10.length h10.le h10.at _ ?_
          intro w11 k11
          (try simp only [V.nptr_eq, V.vBool_mk, V.vInt_mk, V.vStr_mk, V.vPtr_mk, V.vMap_mk, V.vSlice_mk, V.bnot_eq, V.nilCk_mk, V.aadd_mk, V.size_alloc, V.size_drew, V.size_setCell, V.nmul_eq, V.inat_nat, V.inat_lit, Nat.mul_one, Nat.reduceMul, Nat.reduceAdd, V.and_assoc', V.true_and', V.ifB_t, V.ifB_f, V.isNil_some, V.isNil_none, Bool.not_true, Bool.not_false, Nat.zero_add, Nat.add_zero])
          rw [V.seq_eq, decide_eq_true hfin2]
          exact hc w11 (V.Kp.trans kW (V.Kp.trans kk10 k11))
        repeat (first | with_reducible refine V.lI ?_ | with_reducible refine V.lS ?_ | with_reducible refine V.lP ?_ | with_reducible refine V.lL ?_ | with_reducible refine V.lM ?_ | with_reducible refine V.lB ?_ | with_reducible refine V.sC ?_ | with_reducible refine V.lG ?_ | ((with_reducible refine And.intro ?_ ?_); (· first | with_reducible exact V.hC | with_reducible exact V.hB | (simp only [V.inX, V.inR, V.inz, V.ige0, V.zi]; omega))) | simp only [V.nptr_eq, V.vBool_mk, V.vInt_mk, V.vStr_mk, V.vPtr_mk, V.vMap_mk, V.vSlice_mk, V.bnot_eq, V.nilCk_mk, V.aadd_mk, V.size_alloc, V.size_drew, V.size_setCell, V.nmul_eq, V.inat_nat, V.inat_lit, Nat.mul_one, Nat.reduceMul, Nat.reduceAdd, V.and_assoc', V.true_and', V.ifB_t, V.ifB_f, V.isNil_some, V.isNil_none, Bool.not_true, Bool.not_false, Nat.zero_add, Nat.add_zero])
        have hS : V.Blk (w8.alloc (.cells #[.string (Mk.leaf leaf)] 9)) w8.heap.size #[.string (Mk.leaf leaf)] 9 := V.blk
        refine app_strs (xs := []) (V.Row.of (cur := #[]) V.blk (Nat.le_refl _) (Nat.zero_le _) rfl rfl) (by omega) (hl.at.keep (V.kp : V.Kp V.Nil W _)) hll.symm (by omega) ?_
        intro p9 c9 w9 h9 k9 at9
        rw [Nat.zero_add, List.nil_append] at h9
        rw [Nat.zero_add]
        have zk9 := k9.size
        (try simp only [V.size_alloc, V.size_drew] at zk9)
        have kk9 : V.Kp V.Nil W w9 := V.Kp.then (V.kp : V.Kp V.Nil W _) k9 (fun i hi e => by simp only [V.blk?, Option.map_some, Option.some.injEq, V.size_alloc, V.size_drew] at e; omega)
        have n9 : New W.heap.size p9 := fun b hb => by
          rcases at9 b hb with e | e
          · simp only [V.blk?, Option.map_some, Option.some.injEq, V.size_alloc, V.size_drew] at e; omega
          · (try simp only [V.size_alloc, V.size_drew] at e)
            omega
        have hT9 := V.Kp.blk kk9 hT (fun e => e)
        have hX9 := V.Kp.blk kk9 hX (fun e => e)
        (try simp only [V.nptr_eq, V.vBool_mk, V.vInt_mk, V.vStr_mk, V.vPtr_mk, V.vMap_mk, V.vSlice_mk, V.bnot_eq, V.nilCk_mk, V.aadd_mk, V.size_alloc, V.size_drew, V.size_setCell, V.nmul_eq, V.inat_nat, V.inat_lit, Nat.mul_one, Nat.reduceMul, Nat.reduceAdd, V.and_assoc', V.true_and', V.ifB_t, V.ifB_f, V.isNil_some, V.isNil_none, Bool.not_true, Bool.not_false, Nat.zero_add, Nat.add_zero])
        repeat (first | with_reducible refine V.lI ?_ | with_reducible refine V.lS ?_ | with_reducible refine V.lP ?_ | with_reducible refine V.lL ?_ | with_reducible refine V.lM ?_ | with_reducible refine V.lB ?_ | with_reducible refine V.sC ?_ | with_reducible refine V.lG ?_ | ((with_reducible refine And.intro ?_ ?_); (· first | with_reducible exact V.hC | with_reducible exact V.hB | (simp only [V.inX, V.inR, V.inz, V.ige0, V.zi]; omega))) | simp only [V.nptr_eq, V.vBool_mk, V.vInt_mk, V.vStr_mk, V.vPtr_mk, V.vMap_mk, V.vSlice_mk, V.bnot_eq, V.nilCk_mk, V.aadd_mk, V.size_alloc, V.size_drew, V.size_setCell, V.nmul_eq, V.inat_nat, V.inat_lit, Nat.mul_one, Nat.reduceMul, Nat.reduceAdd, V.and_assoc', V.true_and', V.ifB_t, V.ifB_f, V.isNil_some, V.isNil_none, Bool.not_true, Bool.not_false, Nat.zero_add, Nat.add_zero])
        have hS9 := V.Kp.blk k9 hS (fun e => by simp only [V.blk?, Option.map_some, Option.some.injEq, V.size_alloc, V.size_drew] at e; omega)
        refine app_strs (h9.keep (V.kp : V.Kp V.Nil w9 _)) (by omega) (strAt_one V.blk) rfl (by simp) ?_
        intro p10 c10 w10 h10 k10 at10
        have kk10 : V.Kp V.Nil W w10 := V.Kp.then (V.kp : V.Kp V.Nil W _) k10 (fun i hi e => by have := n9 i e; omega)
        have hT10 := V.Kp.blk kk10 hT (fun e => e)
        (try simp only [V.nptr_eq, V.vBool_mk, V.vInt_mk, V.vStr_mk, V.vPtr_mk, V.vMap_mk, V.vSlice_mk, V.bnot_eq, V.nilCk_mk, V.aadd_mk, V.size_alloc, V.size_drew, V.size_setCell, V.nmul_eq, V.inat_nat, V.inat_lit, Nat.mul_one, Nat.reduceMul, Nat.reduceAdd, V.and_assoc', V.true_and', V.ifB_t, V.ifB_f, V.isNil_some, V.isNil_none, Bool.not_true, Bool.not_false, Nat.zero_add, Nat.add_zero])
        repeat (first | with_reducible refine V.lI ?_ | with_reducible refine V.lS ?_ | with_reducible refine V.lP ?_ | with_reducible refine V.lL ?_ | with_reducible refine V.lM ?_ | with_reducible refine V.lB ?_ | with_reducible refine V.sC ?_ | with_reducible refine V.lG ?_ | ((with_reducible refine And.intro ?_ ?_); (· first | with_reducible exact V.hC | with_reducible exact V.hB | (simp only [V.inX, V.inR, V.inz, V.ige0, V.zi]; omega))) | simp only [V.nptr_eq, V.vBool_mk, V.vInt_mk, V.vStr_mk, V.vPtr_mk, V.vMap_mk, V.vSlice_mk, V.bnot_eq, V.nilCk_mk, V.aadd_mk, V.size_alloc, V.size_drew, V.size_setCell, V.nmul_eq, V.inat_nat, V.inat_lit, Nat.mul_one, Nat.reduceMul, Nat.reduceAdd, V.and_assoc', V.true_and', V.ifB_t, V.ifB_f, V.isNil_some, V.isNil_none, Bool.not_true, Bool.not_false, Nat.zero_add, Nat.add_zero])
        refine mroot_spec (xs.length + 1) (Mk.leaves xs ++ [Mk.leaf leaf]) (by rw [List.length_append, hll]; rfl) (by omega) (fun y hy => by
          rcases List.mem_append.1 hy with h | h
          · exact hl32 y h
          · have : y = Mk.leaf leaf := by simpa using h
            rw [this]; omega) _ _ _ _ h10.length h10.le h10.at _ ?_
        intro w11 k11
        (try simp only [V.nptr_eq, V.vBool_mk, V.vInt_mk, V.vStr_mk, V.vPtr_mk, V.vMap_mk, V.vSlice_mk, V.bnot_eq, V.nilCk_mk, V.aadd_mk, V.size_alloc, V.size_drew, V.size_setCell, V.nmul_eq, V.inat_nat, V.inat_lit, Nat.mul_one, Nat.reduceMul, Nat.reduceAdd, V.and_assoc', V.true_and', V.ifB_t, V.ifB_f, V.isNil_some, V.isNil_none, Bool.not_true, Bool.not_false, Nat.zero_add, Nat.add_zero])
        rw [V.seq_eq, decide_eq_true hfin2]
        exact hc w11 (V.Kp.trans kW (V.Kp.trans kk10 k11))
      repeat (first | with_reducible refine V.lI ?_ | with_reducible refine V.lS ?_ | with_reducible refine V.lP ?_ | with_reducible refine V.lL ?_ | with_reducible refine V.lM ?_ | with_reducible refine V.lB ?_ | with_reducible refine V.sC ?_ | with_reducible refine V.lG ?_ | ((with_reducible refine And.intro ?_ ?_); (· first | with_reducible exact V.hC | with_reducible exact V.hB | (simp only [V.inX, V.inR, V.inz, V.ige0, V.zi]; omega))) | simp only [V.nptr_eq, V.vBool_mk, V.vInt_mk, V.vStr_mk, V.vPtr_mk, V.vMap_mk, V.vSlice_mk, V.bnot_eq, V.nilCk_mk, V.aadd_mk, V.size_alloc, V.size_drew, V.size_setCell, V.nmul_eq, V.inat_nat, V.inat_lit, Nat.mul_one, Nat.reduceMul, Nat.reduceAdd, V.and_assoc', V.true_and', V.ifB_t, V.ifB_f, V.isNil_some, V.isNil_none, Bool.not_true, Bool.not_false, Nat.zero_add, Nat.add_zero])
      refine And.intro ?_ ?_
      · skip
        refine root_spec L hLl hL2 _ q _ _ _ hL.length hL.le (hL.at.keep (V.kp : V.Kp V.Nil W _)) _ ?_
        intro w8 k8
        have kk8 : V.Kp V.Nil W w8 := V.Kp.trans (V.kp : V.Kp V.Nil W _) k8
        have hT8 := V.Kp.blk kk8 hT (fun e => e)
        have hX8 := V.Kp.blk kk8 hX (fun e => e)
        have hg8 := V.Kp.blk kk8 hg (fun e => e)
        have zk8 := k8.size
        have zz8 := kk8.size
        (try simp only [V.size_alloc, V.size_drew] at zk8)
        (try simp only [V.nptr_eq, V.vBool_mk, V.vInt_mk, V.vStr_mk, V.vPtr_mk, V.vMap_mk, V.vSlice_mk, V.bnot_eq, V.nilCk_mk, V.aadd_mk, V.size_alloc, V.size_drew, V.size_setCell, V.nmul_eq, V.inat_nat, V.inat_lit, Nat.mul_one, Nat.reduceMul, Nat.reduceAdd, V.and_assoc', V.true_and', V.ifB_t, V.ifB_f, V.isNil_some, V.isNil_none, Bool.not_true, Bool.not_false, Nat.zero_add, Nat.add_zero])
        repeat (first | with_reducible refine V.lI ?_ | with_reducible refine V.lS ?_ | with_reducible refine V.lP ?_ | with_reducible refine V.lL ?_ | with_reducible refine V.lM ?_ | with_reducible refine V.lB ?_ | with_reducible refine V.sC ?_ | with_reducible refine V.lG ?_ | ((with_reducible refine And.intro ?_ ?_); (· first | with_reducible exact V.hC | with_reducible exact V.hB | (simp only [V.inX, V.inR, V.inz, V.ige0, V.zi]; omega))) | simp only [V.nptr_eq, V.vBool_mk, V.vInt_mk, V.vStr_mk, V.vPtr_mk, V.vMap_mk, V.vSlice_mk, V.bnot_eq, V.nilCk_mk, V.aadd_mk, V.size_alloc, V.size_drew, V.size_setCell, V.nmul_eq, V.inat_nat, V.inat_lit, Nat.mul_one, Nat.reduceMul, Nat.reduceAdd, V.and_assoc', V.true_and', V.ifB_t, V.ifB_f, V.isNil_some, V.isNil_none, Bool.not_true, Bool.not_false, Nat.zero_add, Nat.add_zero])
        have hE : V.Blk w8 W.heap.size #[] 9 := V.Kp.blk k8 V.blk (fun e => e)
        have hS : V.Blk w8 (W.heap.size + 1) #[.string (Mk.leaf leaf)] 9 := V.Kp.blk k8 V.blk (fun e => e)
        refine app_strs (xs := []) (V.Row.of (cur := #[]) V.blk (Nat.le_refl _) (Nat.zero_le _) rfl rfl) (by omega) (hl.at.keep (V.kp : V.Kp V.Nil W _)) hll.symm (by omega) ?_
        intro p9 c9 w9 h9 k9 at9
        rw [Nat.zero_add, List.nil_append] at h9
        rw [Nat.zero_add]
        have zk9 := k9.size
        (try simp only [V.size_alloc, V.size_drew] at zk9)
        have kk9 : V.Kp V.Nil W w9 := V.Kp.then (V.kp : V.Kp V.Nil W _) k9 (fun i hi e => by simp only [V.blk?, Option.map_some, Option.some.injEq, V.size_alloc, V.size_drew] at e; omega)
        have n9 : New W.heap.size p9 := fun b hb => by
          rcases at9 b hb with e | e
          · simp only [V.blk?, Option.map_some, Option.some.injEq, V.size_alloc, V.size_drew] at e; omega
          · (try simp only [V.size_alloc, V.size_drew] at e)
            omega
        have hT9 := V.Kp.blk kk9 hT (fun e => e)
        have hX9 := V.Kp.blk kk9 hX (fun e => e)
        (try simp only [V.nptr_eq, V.vBool_mk, V.vInt_mk, V.vStr_mk, V.vPtr_mk, V.vMap_mk, V.vSlice_mk, V.bnot_eq, V.nilCk_mk, V.aadd_mk, V.size_alloc, V.size_drew, V.size_setCell, V.nmul_eq, V.inat_nat, V.inat_lit, Nat.mul_one, Nat.reduceMul, Nat.reduceAdd, V.and_assoc', V.true_and', V.ifB_t, V.ifB_f, V.isNil_some, V.isNil_none, Bool.not_true, Bool.not_false, Nat.zero_add, Nat.add_zero])
        repeat (first | with_reducible refine V.lI ?_ | with_reducible refine V.lS ?_ | with_reducible refine V.lP ?_ | with_reducible refine V.lL ?_ | with_reducible refine V.lM ?_ | with_reducible refine V.lB ?_ | with_reducible refine V.sC ?_ | with_reducible refine V.lG ?_ | ((with_reducible refine And.intro ?_ ?_); (· first | with_reducible exact V.hC | with_reducible exact V.hB | (simp only [V.inX, V.inR, V.inz, V.ige0, V.zi]; omega))) | simp only [V.nptr_eq, V.vBool_mk, V.vInt_mk, V.vStr_mk, V.vPtr_mk, V.vMap_mk, V.vSlice_mk, V.bnot_eq, V.nilCk_mk, V.aadd_mk, V.size_alloc, V.size_drew, V.size_setCell, V.nmul_eq, V.inat_nat, V.inat_lit, Nat.mul_one, Nat.reduceMul, Nat.reduceAdd, V.and_assoc', V.true_and', V.ifB_t, V.ifB_f, V.isNil_some, V.isNil_none, Bool.not_true, Bool.not_false, Nat.zero_add, Nat.add_zero])
        have hS9 := V.Kp.blk k9 hS (fun e => by simp only [V.blk?, Option.map_some, Option.some.injEq, V.size_alloc, V.size_drew] at e; omega)
        refine app_strs (h9.keep (V.kp : V.Kp V.Nil w9 _)) (by omega) (strAt_one V.blk) rfl (by simp) ?_
        intro p10 c10 w10 h10 k10 at10
        have kk10 : V.Kp V.Nil W w10 := V.Kp.then (V.kp : V.Kp V.Nil W _) k10 (fun i hi e => by have := n9 i e; omega)
        have hT10 := V.Kp.blk kk10 hT (fun e => e)
        (try simp only [V.nptr_eq, V.vBool_mk, V.vInt_mk, V.vStr_mk, V.vPtr_mk, V.vMap_mk, V.vSlice_mk, V.bnot_eq, V.nilCk_mk, V.aadd_mk, V.size_alloc, V.size_drew, V.size_setCell, V.nmul_eq, V.inat_nat, V.inat_lit, Nat.mul_one, Nat.reduceMul, Nat.reduceAdd, V.and_assoc', V.true_and', V.ifB_t, V.ifB_f, V.isNil_some, V.isNil_none, Bool.not_true, Bool.not_false, Nat.zero_add, Nat.add_zero])
        repeat (first | with_reducible refine V.lI ?_ | with_reducible refine V.lS ?_ | with_reducible refine V.lP ?_ | with_reducible refine V.lL ?_ | with_reducible refine V.lM ?_ | with_reducible refine V.lB ?_ | with_reducible refine V.sC ?_ | with_reducible refine V.lG ?_ | ((with_reducible refine And.intro ?_ ?_); (· first | with_reducible exact V.hC | with_reducible exact V.hB | (simp only [V.inX, V.inR, V.inz, V.ige0, V.zi]; omega))) | simp only [V.nptr_eq, V.vBool_mk, V.vInt_mk, V.vStr_mk, V.vPtr_mk, V.vMap_mk, V.vSlice_mk, V.bnot_eq, V.nilCk_mk, V.aadd_mk, V.size_alloc, V.size_drew, V.size_setCell, V.nmul_eq, V.inat_nat, V.inat_lit, Nat.mul_one, Nat.reduceMul, Nat.reduceAdd, V.and_assoc', V.true_and', V.ifB_t, V.ifB_f, V.isNil_some, V.isNil_none, Bool.not_true, Bool.not_false, Nat.zero_add, Nat.add_zero])
        refine mroot_spec (xs.length + 1) (Mk.leaves xs ++ [Mk.leaf leaf]) (by rw [List.length_append, hll]; rfl) (by omega) (fun y hy => by
          rcases List.mem_append.1 hy with h | h
          · exact hl32 y h
          · have : y = Mk.leaf leaf := by simpa using h
            rw [this]; omega) _ _ _ _ h10.length h10.le h10.at _ ?_
        intro w11 k11
        (try simp only [V.nptr_eq, V.vBool_mk, V.vInt_mk, V.vStr_mk, V.vPtr_mk, V.vMap_mk, V.vSlice_mk, V.bnot_eq, V.nilCk_mk, V.aadd_mk, V.size_alloc, V.size_drew, V.size_setCell, V.nmul_eq, V.inat_nat, V.inat_lit, Nat.mul_one, Nat.reduceMul, Nat.reduceAdd, V.and_assoc', V.true_and', V.ifB_t, V.ifB_f, V.isNil_some, V.isNil_none, Bool.not_true, Bool.not_false, Nat.zero_add, Nat.add_zero])
        rw [V.seq_eq, decide_eq_true hfin2]
        exact hc w11 (V.Kp.trans kW (V.Kp.trans kk10 k11))
      repeat (first | with_reducible refine V.lI ?_ | with_reducible refine V.lS ?_ | with_reducible refine V.lP ?_ | with_reducible refine V.lL ?_ | with_reducible refine V.lM ?_ | with_reducible refine V.lB ?_ | with_reducible refine V.sC ?_ | with_reducible refine V.lG ?_ | ((with_reducible refine And.intro ?_ ?_); (· first | with_reducible exact V.hC | with_reducible exact V.hB | (simp only [V.inX, V.inR, V.inz, V.ige0, V.zi]; omega))) | simp only [V.nptr_eq, V.vBool_mk, V.vInt_mk, V.vStr_mk, V.vPtr_mk, V.vMap_mk, V.vSlice_mk, V.bnot_eq, V.nilCk_mk, V.aadd_mk, V.size_alloc, V.size_drew, V.size_setCell, V.nmul_eq, V.inat_nat, V.inat_lit, Nat.mul_one, Nat.reduceMul, Nat.reduceAdd, V.and_assoc', V.true_and', V.ifB_t, V.ifB_f, V.isNil_some, V.isNil_none, Bool.not_true, Bool.not_false, Nat.zero_add, Nat.add_zero])
      refine And.intro ?_ ?_
      · skip
        refine root_spec L hLl hL2 _ q _ _ _ hL.length hL.le (hL.at.keep (V.kp : V.Kp V.Nil W _)) _ ?_
        intro w8 k8
        have kk8 : V.Kp V.Nil W w8 := V.Kp.trans (V.kp : V.Kp V.Nil W _) k8
        have hT8 := V.Kp.blk kk8 hT (fun e => e)
        have hX8 := V.Kp.blk kk8 hX (fun e => e)
        have hg8 := V.Kp.blk kk8 hg (fun e => e)
        have zk8 := k8.size
        have zz8 := kk8.size
        (try simp only [V.size_alloc, V.size_drew] at zk8)
        (try simp only [V.nptr_eq, V.vBool_mk, V.vInt_mk, V.vStr_mk, V.vPtr_mk, V.vMap_mk, V.vSlice_mk, V.bnot_eq, V.nilCk_mk, V.aadd_mk, V.size_alloc, V.size_drew, V.size_setCell, V.nmul_eq, V.inat_nat, V.inat_lit, Nat.mul_one, Nat.reduceMul, Nat.reduceAdd, V.and_assoc', V.true_and', V.ifB_t, V.ifB_f, V.isNil_some, V.isNil_none, Bool.not_true, Bool.not_false, Nat.zero_add, Nat.add_zero])
        repeat (first | with_reducible refine V.lI ?_ | with_reducible refine V.lS ?_ | with_reducible refine V.lP ?_ | with_reducible refine V.lL ?_ | with_reducible refine V.lM ?_ | with_reducible refine V.lB ?_ | with_reducible refine V.sC ?_ | with_reducible refine V.lG ?_ | ((with_reducible refine And.intro ?_ ?_); (· first | with_reducible exact V.hC | with_reducible exact V.hB | (simp only [V.inX, V.inR, V.inz, V.ige0, V.zi]; omega))) | simp only [V.nptr_eq, V.vBool_mk, V.vInt_mk, V.vStr_mk, V.vPtr_mk, V.vMap_mk, V.vSlice_mk, V.bnot_eq, V.nilCk_mk, V.aadd_mk, V.size_alloc, V.size_drew, V.size_setCell, V.nmul_eq, V.inat_nat, V.inat_lit, Nat.mul_one, Nat.reduceMul, Nat.reduceAdd, V.and_assoc', V.true_and', V.ifB_t, V.ifB_f, V.isNil_some, V.isNil_none, Bool.not_true, Bool.not_false, Nat.zero_add, Nat.add_zero])
        have hS' : V.Blk w8 W.heap.size #[.string (Mk.leaf leaf)] 9 := V.Kp.blk k8 V.blk (fun e => e)
        have hS := hS'.alloc (.cells #[] 9)
        refine app_strs (xs := []) (V.Row.of (cur := #[]) V.blk (Nat.le_refl _) (Nat.zero_le _) rfl rfl) (by omega) (hl.at.keep (V.kp : V.Kp V.Nil W _)) hll.symm (by omega) ?_
        intro p9 c9 w9 h9 k9 at9
        rw [Nat.zero_add, List.nil_append] at h9
        rw [Nat.zero_add]
        have zk9 := k9.size
        (try simp only [V.size_alloc, V.size_drew] at zk9)
        have kk9 : V.Kp V.Nil W w9 := V.Kp.then (V.kp : V.Kp V.Nil W _) k9 (fun i hi e => by simp only [V.blk?, Option.map_some, Option.some.injEq, V.size_alloc, V.size_drew] at e; omega)
        have n9 : New W.heap.size p9 := fun b hb => by
          rcases at9 b hb with e | e
          · simp only [V.blk?, Option.map_some, Option.some.injEq, V.size_alloc, V.size_drew] at e; omega
          · (try simp only [V.size_alloc, V.size_drew] at e)
            omega
        have hT9 := V.Kp.blk kk9 hT (fun e => e)
        have hX9 := V.Kp.blk kk9 hX (fun e => e)
        (try simp only [V.nptr_eq, V.vBool_mk, V.vInt_mk, V.vStr_mk, V.vPtr_mk, V.vMap_mk, V.vSlice_mk, V.bnot_eq, V.nilCk_mk, V.aadd_mk, V.size_alloc, V.size_drew, V.size_setCell, V.nmul_eq, V.inat_nat, V.inat_lit, Nat.mul_one, Nat.reduceMul, Nat.reduceAdd, V.and_assoc', V.true_and', V.ifB_t, V.ifB_f, V.isNil_some, V.isNil_none, Bool.not_true, Bool.not_false, Nat.zero_add, Nat.add_zero])
        repeat (first | with_reducible refine V.lI ?_ | with_reducible refine V.lS ?_ | with_reducible refine V.lP ?_ | with_reducible refine V.lL ?_ | with_reducible refine V.lM ?_ | with_reducible refine V.lB ?_ | with_reducible refine V.sC ?_ | with_reducible refine V.lG ?_ | ((with_reducible refine And.intro ?_ ?_); (· first | with_reducible exact V.hC | with_reducible exact V.hB | (simp only [V.inX, V.inR, V.inz, V.ige0, V.zi]; omega))) | simp only [V.nptr_eq, V.vBool_mk, V.vInt_mk, V.vStr_mk, V.vPtr_mk, V.vMap_mk, V.vSlice_mk, V.bnot_eq, V.nilCk_mk, V.aadd_mk, V.size_alloc, V.size_drew, V.size_setCell, V.nmul_eq, V.inat_nat, V.inat_lit, Nat.mul_one, Nat.reduceMul, Nat.reduceAdd, V.and_assoc', V.true_and', V.ifB_t, V.ifB_f, V.isNil_some, V.isNil_none, Bool.not_true, Bool.not_false, Nat.zero_add, Nat.add_zero])
        have hS9 := V.Kp.blk k9 hS (fun e => by simp only [V.blk?, Option.map_some, Option.some.injEq, V.size_alloc, V.size_drew] at e; omega)
        refine app_strs (h9.keep (V.kp : V.Kp V.Nil w9 _)) (by omega) (strAt_one V.blk) rfl (by simp) ?_
        intro p10 c10 w10 h10 k10 at10
        have kk10 : V.Kp V.Nil W w10 := V.Kp.then (V.kp : V.Kp V.Nil W _) k10 (fun i hi e => by have := n9 i e; omega)
        have hT10 := V.Kp.blk kk10 hT (fun e => e)
        (try simp only [V.nptr_eq, V.vBool_mk, V.vInt_mk, V.vStr_mk, V.vPtr_mk, V.vMap_mk, V.vSlice_mk, V.bnot_eq, V.nilCk_mk, V.aadd_mk, V.size_alloc, V.size_drew, V.size_setCell, V.nmul_eq, V.inat_nat, V.inat_lit, Nat.mul_one, Nat.reduceMul, Nat.reduceAdd, V.and_assoc', V.true_and', V.ifB_t, V.ifB_f, V.isNil_some, V.isNil_none, Bool.not_true, Bool.not_false, Nat.zero_add, Nat.add_zero])
        repeat (first | with_reducible refine V.lI ?_ | with_reducible refine V.lS ?_ | with_reducible refine V.lP ?_ | with_reducible refine V.lL ?_ | with_reducible refine V.lM ?_ | with_reducible refine V.lB ?_ | with_reducible refine V.sC ?_ | with_reducible refine V.lG ?_ | ((with_reducible refine And.intro ?_ ?_); (· first | with_reducible exact V.hC | with_reducible exact V.hB | (simp only [V.inX, V.inR, V.inz, V.ige0, V.zi]; omega))) | simp only [V.nptr_eq, V.vBool_mk, V.vInt_mk, V.vStr_mk, V.vPtr_mk, V.vMap_mk, V.vSlice_mk, V.bnot_eq, V.nilCk_mk, V.aadd_mk, V.size_alloc, V.size_drew, V.size_setCell, V.nmul_eq, V.inat_nat, V.inat_lit, Nat.mul_one, Nat.reduceMul, Nat.reduceAdd, V.and_assoc', V.true_and', V.ifB_t, V.ifB_f, V.isNil_some, V.isNil_none, Bool.not_true, Bool.not_false, Nat.zero_add, Nat.add_zero])
        refine mroot_spec (xs.length + 1) (Mk.leaves xs ++ [Mk.leaf leaf]) (by rw [List.length_append, hll]; rfl) (by omega) (fun y hy => by
          rcases List.mem_append.1 hy with h | h
          · exact hl32 y h
          · have : y = Mk.leaf leaf := by simpa using h
            rw [this]; omega) _ _ _ _ h10.length h10.le h10.at _ ?_
        intro w11 k11
        (try simp only [V.nptr_eq, V.vBool_mk, V.vInt_mk, V.vStr_mk, V.vPtr_mk, V.vMap_mk, V.vSlice_mk, V.bnot_eq, V.nilCk_mk, V.aadd_mk, V.size_alloc, V.size_drew, V.size_setCell, V.nmul_eq, V.inat_nat, V.inat_lit, Nat.mul_one, Nat.reduceMul, Nat.reduceAdd, V.and_assoc', V.true_and', V.ifB_t, V.ifB_f, V.isNil_some, V.isNil_none, Bool.not_true, Bool.not_false, Nat.zero_add, Nat.add_zero])
        rw [V.seq_eq, decide_eq_true hfin2]
        exact hc w11 (V.Kp.trans kW (V.Kp.trans kk10 k11))
      repeat (first | with_reducible refine V.lI ?_ | with_reducible refine V.lS ?_ | with_reducible refine V.lP ?_ | with_reducible refine V.lL ?_ | with_reducible refine V.lM ?_ | with_reducible refine V.lB ?_ | with_reducible refine V.sC ?_ | with_reducible refine V.lG ?_ | ((with_reducible refine And.intro ?_ ?_); (· first | with_reducible exact V.hC | with_reducible exact V.hB | (simp only [V.inX, V.inR, V.inz, V.ige0, V.zi]; omega))) | simp only [V.nptr_eq, V.vBool_mk, V.vInt_mk, V.vStr_mk, V.vPtr_mk, V.vMap_mk, V.vSlice_mk, V.bnot_eq, V.nilCk_mk, V.aadd_mk, V.size_alloc, V.size_drew, V.size_setCell, V.nmul_eq, V.inat_nat, V.inat_lit, Nat.mul_one, Nat.reduceMul, Nat.reduceAdd, V.and_assoc', V.true_and', V.ifB_t, V.ifB_f, V.isNil_some, V.isNil_none, Bool.not_true, Bool.not_false, Nat.zero_add, Nat.add_zero])
      refine root_spec L hLl hL2 _ q _ _ _ hL.length hL.le (hL.at.keep (V.kp : V.Kp V.Nil W _)) _ ?_
      intro w8 k8
      have kk8 : V.Kp V.Nil W w8 := V.Kp.trans (V.kp : V.Kp V.Nil W _) k8
      have hT8 := V.Kp.blk kk8 hT (fun e => e)
      have hX8 := V.Kp.blk kk8 hX (fun e => e)
      have hg8 := V.Kp.blk kk8 hg (fun e => e)
      have zk8 := k8.size
      have zz8 := kk8.size
      (try simp only [V.size_alloc, V.size_drew] at zk8)
      (try simp only [V.nptr_eq, V.vBool_mk, V.vInt_mk, V.vStr_mk, V.vPtr_mk, V.vMap_mk, V.vSlice_mk, V.bnot_eq, V.nilCk_mk, V.aadd_mk, V.size_alloc, V.size_drew, V.size_setCell, V.nmul_eq, V.inat_nat, V.inat_lit, Nat.mul_one, Nat.reduceMul, Nat.reduceAdd, V.and_assoc', V.true_and', V.ifB_t, V.ifB_f, V.isNil_some, V.isNil_none, Bool.not_true, Bool.not_false, Nat.zero_add, Nat.add_zero])
      repeat (first | with_reducible refine V.lI ?_ | with_reducible refine V.lS ?_ | with_reducible refine V.lP ?_ | with_reducible refine V.lL ?_ | with_reducible refine V.lM ?_ | with_reducible refine V.lB ?_ | with_reducible refine V.sC ?_ | with_reducible refine V.lG ?_ | ((with_reducible refine And.intro ?_ ?_); (· first | with_reducible exact V.hC | with_reducible exact V.hB | (simp only [V.inX, V.inR, V.inz, V.ige0, V.zi]; omega))) | simp only [V.nptr_eq, V.vBool_mk, V.vInt_mk, V.vStr_mk, V.vPtr_mk, V.vMap_mk, V.vSlice_mk, V.bnot_eq, V.nilCk_mk, V.aadd_mk, V.size_alloc, V.size_drew, V.size_setCell, V.nmul_eq, V.inat_nat, V.inat_lit, Nat.mul_one, Nat.reduceMul, Nat.reduceAdd, V.and_assoc', V.true_and', V.ifB_t, V.ifB_f, V.isNil_some, V.isNil_none, Bool.not_true, Bool.not_false, Nat.zero_add, Nat.add_zero])
      have hE : V.Blk w8 (W.heap.size + 1) #[] 9 := V.Kp.blk k8 V.blk (fun e => e)
      have hS : V.Blk w8 W.heap.size #[.string (Mk.leaf leaf)] 9 := V.Kp.blk k8 V.blk (fun e => e)
      refine app_strs (xs := []) (V.Row.of (cur := #[]) V.blk (Nat.le_refl _) (Nat.zero_le _) rfl rfl) (by omega) (hl.at.keep (V.kp : V.Kp V.Nil W _)) hll.symm (by omega) ?_
      intro p9 c9 w9 h9 k9 at9
      rw [Nat.zero_add, List.nil_append] at h9
      rw [Nat.zero_add]
      have zk9 := k9.size
      (try simp only [V.size_alloc, V.size_drew] at zk9)
      have kk9 : V.Kp V.Nil W w9 := V.Kp.then (V.kp : V.Kp V.Nil W _) k9 (fun i hi e => by simp only [V.blk?, Option.map_some, Option.some.injEq, V.size_alloc, V.size_drew] at e; omega)
      have n9 : New W.heap.size p9 := fun b hb => by
        rcases at9 b hb with e | e
        · simp only [V.blk?, Option.map_some, Option.some.injEq, V.size_alloc, V.size_drew] at e; omega
        · (try simp only [V.size_alloc, V.size_drew] at e)
          omega
      have hT9 := V.Kp.blk kk9 hT (fun e => e)
      have hX9 := V.Kp.blk kk9 hX (fun e => e)
      (try simp only [V.nptr_eq, V.vBool_mk, V.vInt_mk, V.vStr_mk, V.vPtr_mk, V.vMap_mk, V.vSlice_mk, V.bnot_eq, V.nilCk_mk, V.aadd_mk, V.size_alloc, V.size_drew, V.size_setCell, V.nmul_eq, V.inat_nat, V.inat_lit, Nat.mul_one, Nat.reduceMul, Nat.reduceAdd, V.and_assoc', V.true_and', V.ifB_t, V.ifB_f, V.isNil_some, V.isNil_none, Bool.not_true, Bool.not_false, Nat.zero_add, Nat.add_zero])
      repeat (first | with_reducible refine V.lI ?_ | with_reducible refine V.lS ?_ | with_reducible refine V.lP ?_ | with_reducible refine V.lL ?_ | with_reducible refine V.lM ?_ | with_reducible refine V.lB ?_ | with_reducible refine V.sC ?_ | with_reducible refine V.lG ?_ | ((with_reducible refine And.intro ?_ ?_); (· first | with_reducible exact V.hC | with_reducible exact V.hB | (simp only [V.inX, V.inR, V.inz, V.ige0, V.zi]; omega))) | simp only [V.nptr_eq, V.vBool_mk, V.vInt_mk, V.vStr_mk, V.vPtr_mk, V.vMap_mk, V.vSlice_mk, V.bnot_eq, V.nilCk_mk, V.aadd_mk, V.size_alloc, V.size_drew, V.size_setCell, V.nmul_eq, V.inat_nat, V.inat_lit, Nat.mul_one, Nat.reduceMul, Nat.reduceAdd, V.and_assoc', V.true_and', V.ifB_t, V.ifB_f, V.isNil_some, V.isNil_none, Bool.not_true, Bool.not_false, Nat.zero_add, Nat.add_zero])
      have hS9 := V.Kp.blk k9 hS (fun e => by simp only [V.blk?, Option.map_some, Option.some.injEq, V.size_alloc, V.size_drew] at e; omega)
      refine app_strs (h9.keep (V.kp : V.Kp V.Nil w9 _)) (by omega) (strAt_one V.blk) rfl (by simp) ?_
      intro p10 c10 w10 h10 k10 at10
      have kk10 : V.Kp V.Nil W w10 := V.Kp.then (V.kp : V.Kp V.Nil W _) k10 (fun i hi e => by have := n9 i e; omega)
      have hT10 := V.Kp.blk kk10 hT (fun e => e)
      (try simp only [V.nptr_eq, V.vBool_mk, V.vInt_mk, V.vStr_mk, V.vPtr_mk, V.vMap_mk, V.vSlice_mk, V.bnot_eq, V.nilCk_mk, V.aadd_mk, V.size_alloc, V.size_drew, V.size_setCell, V.nmul_eq, V.inat_nat, V.inat_lit, Nat.mul_one, Nat.reduceMul, Nat.reduceAdd, V.and_assoc', V.true_and', V.ifB_t, V.ifB_f, V.isNil_some, V.isNil_none, Bool.not_true, Bool.not_false, Nat.zero_add, Nat.add_zero])
      repeat (first | with_reducible refine V.lI ?_ | with_reducible refine V.lS ?_ | with_reducible refine V.lP ?_ | with_reducible refine V.lL ?_ | with_reducible refine V.lM ?_ | with_reducible refine V.lB ?_ | with_reducible refine V.sC ?_ | with_reducible refine V.lG ?_ | ((with_reducible refine And.intro ?_ ?_); (· first | with_reducible exact V.hC | with_reducible exact V.hB | (simp only [V.inX, V.inR, V.inz, V.ige0, V.zi]; omega))) | simp only [V.nptr_eq, V.vBool_mk, V.vInt_mk, V.vStr_mk, V.vPtr_mk, V.vMap_mk, V.vSlice_mk, V.bnot_eq, V.nilCk_mk, V.aadd_mk, V.size_alloc, V.size_drew, V.size_setCell, V.nmul_eq, V.inat_nat, V.inat_lit, Nat.mul_one, Nat.reduceMul, Nat.reduceAdd, V.and_assoc', V.true_and', V.ifB_t, V.ifB_f, V.isNil_some, V.isNil_none, Bool.not_true, Bool.not_false, Nat.zero_add, Nat.add_zero])
      refine mroot_spec (xs.length + 1) (Mk.leaves xs ++ [Mk.leaf leaf]) (by rw [List.length_append, hll]; rfl) (by omega) (fun y hy => by
        rcases List.mem_append.1 hy with h | h
        · exact hl32 y h
        · have : y = Mk.leaf leaf := by simpa using h
          rw [this]; omega) _ _ _ _ h10.length h10.le h10.at _ ?_
      intro w11 k11
      (try simp only [V.nptr_eq, V.vBool_mk, V.vInt_mk, V.vStr_mk, V.vPtr_mk, V.vMap_mk, V.vSlice_mk, V.bnot_eq, V.nilCk_mk, V.aadd_mk, V.size_alloc, V.size_drew, V.size_setCell, V.nmul_eq, V.inat_nat, V.inat_lit, Nat.mul_one, Nat.reduceMul, Nat.reduceAdd, V.and_assoc', V.true_and', V.ifB_t, V.ifB_f, V.isNil_some, V.isNil_none, Bool.not_true, Bool.not_false, Nat.zero_add, Nat.add_zero])
      rw [V.seq_eq, decide_eq_true hfin2]
      exact hc w11 (V.Kp.trans kW (V.Kp.trans kk10 k11))
  · repeat (first | with_reducible refine V.lI ?_ | with_reducible refine V.lS ?_ | with_reducible refine V.lP ?_ | with_reducible refine V.lL ?_ | with_reducible refine V.lM ?_ | with_reducible refine V.lB ?_ | with_reducible refine V.sC ?_ | with_reducible refine V.lG ?_ | ((with_reducible refine And.intro ?_ ?_); (· first | with_reducible exact V.hC | with_reducible exact V.hB | (simp only [V.inX, V.inR, V.inz, V.ige0, V.zi]; omega))) | simp only [V.nptr_eq, V.vBool_mk, V.vInt_mk, V.vStr_mk, V.vPtr_mk, V.vMap_mk, V.vSlice_mk, V.bnot_eq, V.nilCk_mk, V.aadd_mk, V.size_alloc, V.size_drew, V.size_setCell, V.nmul_eq, V.inat_nat, V.inat_lit, Nat.mul_one, Nat.reduceMul, Nat.reduceAdd, V.and_assoc', V.true_and', V.ifB_t, V.ifB_f, V.isNil_some, V.isNil_none, Bool.not_true, Bool.not_false, Nat.zero_add, Nat.add_zero])
    refine of_spec (Mk.leaves xs) (by omega) hl32 pl xs.length cl _ hll.symm hl5.le (hl5.at.keep (V.Kp.alloc (V.Kp.drew (V.Kp.refl _ _)) _)) _ ?_
    intro q1 d1 w6 hr6 hq6 k6'
    have hg5 : V.Blk w6 w5.heap.size #[.int .i64 0, .slice none 0 0] 33 := V.Kp.blk k6' V.blk (fun e => e)
    have z56 := k6'.size
    rw [V.size_alloc] at z56
    simp only [V.size_drew] at z56
    have k6 : V.Kp V.Nil w5 w6 := V.Kp.trans V.kp k6'
    have hT6 := V.Kp.blk k6 hT (fun e => e)
    have hX6 := V.Kp.blk k6 hXb (fun e => e)
    refine ⟨_, _, _, _, rfl, ?_⟩
    (try simp only [V.nptr_eq, V.vBool_mk, V.vInt_mk, V.vStr_mk, V.vPtr_mk, V.vMap_mk, V.vSlice_mk, V.bnot_eq, V.nilCk_mk, V.aadd_mk, V.size_alloc, V.size_drew, V.size_setCell, V.nmul_eq, V.inat_nat, V.inat_lit, Nat.mul_one, Nat.reduceMul, Nat.reduceAdd, V.and_assoc', V.true_and', V.ifB_t, V.ifB_f, V.isNil_some, V.isNil_none, Bool.not_true, Bool.not_false, Nat.zero_add, Nat.add_zero])
    refine And.intro (V.hC hX6 hX0) (And.intro (V.hB hT6) ?_)
    refine add_spec (Mk.ofR (Mk.leaves xs)) (Mk.leaf leaf) ho32 (by omega) xs.length (by omega) q1 _ d1 w6 rfl hlo hr6.at _ ?_
    intro q n1 c1 w7 L hr7 hL2 hLl hf hq7 k7
    have hg6 := V.Kp.blk k7 hg5 (fun e => e)
    refine ⟨_, _, _, _, rfl, ?_⟩
    (try simp only [V.nptr_eq, V.vBool_mk, V.vInt_mk, V.vStr_mk, V.vPtr_mk, V.vMap_mk, V.vSlice_mk, V.bnot_eq, V.nilCk_mk, V.aadd_mk, V.size_alloc, V.size_drew, V.size_setCell, V.nmul_eq, V.inat_nat, V.inat_lit, Nat.mul_one, Nat.reduceMul, Nat.reduceAdd, V.and_assoc', V.true_and', V.ifB_t, V.ifB_f, V.isNil_some, V.isNil_none, Bool.not_true, Bool.not_false, Nat.zero_add, Nat.add_zero])
    refine V.sC ?_ hg6 (by show 0 < 2; omega)
    refine V.sC ?_ V.blk (by rw [Array.size_setIfInBounds]; show 1 < 2; omega)
    obtain ⟨W, hW⟩ : ∃ W, W = (w7.setCell ⟨w5.heap.size, 0, none⟩ (.int .i64 ((xs.length + 1 : Nat) : Int))).setCell ⟨w5.heap.size, 1, none⟩ (.slice q n1 c1) := ⟨_, rfl⟩
    rw [← hW]
    have k5W : V.Kp V.Nil w5 W := by rw [hW]; exact V.Kp.set (V.Kp.set (V.Kp.trans k6 k7) (.inr (Nat.le_refl _)) _) (.inr (Nat.le_refl _)) _
    have hg : V.Blk W w5.heap.size #[.int .i64 ((xs.length + 1 : Nat) : Int), .slice q n1 c1] 33 := by rw [hW]; exact V.bto
    have hL : SRow W q n1 c1 L := by
      rw [hW]
      have kk : V.Kp (V.One w5.heap.size) w7 ((w7.setCell ⟨w5.heap.size, 0, none⟩ (.int .i64 ((xs.length + 1 : Nat) : Int))).setCell ⟨w5.heap.size, 1, none⟩ (.slice q n1 c1)) := V.Kp.set (S := V.One w5.heap.size) (V.Kp.set (S := V.One w5.heap.size) (V.Kp.refl _ _) (.inl rfl) _) (.inl rfl) _
      exact hr7.kp kk (fun b hb e => by have := hq7 b hb; have e : b = _ := e; omega)
    have hT' := hT
    have hT := V.Kp.blk k5W hT' (fun e => e)
    have hX := V.Kp.blk k5W hXb (fun e => e)
    have hl := hl5.keep k5W
    have kW := V.Kp.trans kw5 k5W
    have hfin2 : Mk.foldR L = Mk.root (Mk.leaves xs ++ [Mk.leaf leaf]) := by rw [hf, hfin]
    clear hW k5W hr7 hq7 k7 k6 k6' hT6 hX6 hr6 hq6 hT' hXb hl5 kw5 hx
    repeat (first | with_reducible refine V.lI ?_ | with_reducible refine V.lS ?_ | with_reducible refine V.lP ?_ | with_reducible refine V.lL ?_ | with_reducible refine V.lM ?_ | with_reducible refine V.lB ?_ | with_reducible refine V.sC ?_ | with_reducible refine V.lG ?_ | ((with_reducible refine And.intro ?_ ?_); (· first | with_reducible exact V.hC | with_reducible exact V.hB | (simp only [V.inX, V.inR, V.inz, V.ige0, V.zi]; omega))) | simp only [V.nptr_eq, V.vBool_mk, V.vInt_mk, V.vStr_mk, V.vPtr_mk, V.vMap_mk, V.vSlice_mk, V.bnot_eq, V.nilCk_mk, V.aadd_mk, V.size_alloc, V.size_drew, V.size_setCell, V.nmul_eq, V.inat_nat, V.inat_lit, Nat.mul_one, Nat.reduceMul, Nat.reduceAdd, V.and_assoc', V.true_and', V.ifB_t, V.ifB_f, V.isNil_some, V.isNil_none, Bool.not_true, Bool.not_false, Nat.zero_add, Nat.add_zero])
    refine And.intro ?_ ?_
    · skip
      refine root_spec L hLl hL2 _ q _ _ _ hL.length hL.le (hL.at.keep (V.kp : V.Kp V.Nil W _)) _ ?_
      intro w8 k8
      have kk8 : V.Kp V.Nil W w8 := V.Kp.trans (V.kp : V.Kp V.Nil W _) k8
      have hT8 := V.Kp.blk kk8 hT (fun e => e)
      have hX8 := V.Kp.blk kk8 hX (fun e => e)
      have hg8 := V.Kp.blk kk8 hg (fun e => e)
      have zk8 := k8.size
      have zz8 := kk8.size
      (try simp only [V.size_alloc, V.size_drew] at zk8)
      (try simp only [V.nptr_eq, V.vBool_mk, V.vInt_mk, V.vStr_mk, V.vPtr_mk, V.vMap_mk, V.vSlice_mk, V.bnot_eq, V.nilCk_mk, V.aadd_mk, V.size_alloc, V.size_drew, V.size_setCell, V.nmul_eq, V.inat_nat, V.inat_lit, Nat.mul_one, Nat.reduceMul, Nat.reduceAdd, V.and_assoc', V.true_and', V.ifB_t, V.ifB_f, V.isNil_some, V.isNil_none, Bool.not_true, Bool.not_false, Nat.zero_add, Nat.add_zero])
      repeat (first | with_reducible refine V.lI ?_ | with_reducible refine V.lS ?_ | with_reducible refine V.lP ?_ | with_reducible refine V.lL ?_ | with_reducible refine V.lM ?_ | with_reducible refine V.lB ?_ | with_reducible refine V.sC ?_ | with_reducible refine V.lG ?_ | ((with_reducible refine And.intro ?_ ?_); (· first | with_reducible exact V.hC | with_reducible exact V.hB | (simp only [V.inX, V.inR, V.inz, V.ige0, V.zi]; omega))) | simp only [V.nptr_eq, V.vBool_mk, V.vInt_mk, V.vStr_mk, V.vPtr_mk, V.vMap_mk, V.vSlice_mk, V.bnot_eq, V.nilCk_mk, V.aadd_mk, V.size_alloc, V.size_drew, V.size_setCell, V.nmul_eq, V.inat_nat, V.inat_lit, Nat.mul_one, Nat.reduceMul, Nat.reduceAdd, V.and_assoc', V.true_and', V.ifB_t, V.ifB_f, V.isNil_some, V.isNil_none, Bool.not_true, Bool.not_false, Nat.zero_add, Nat.add_zero])
      refine And.intro ?_ ?_
      · skip
        refine app_strs (xs := []) (V.Row.of (cur := #[]) V.blk (Nat.le_refl _) (Nat.zero_le _) rfl rfl) (by omega) (hl.at.keep (V.kp : V.Kp V.Nil W _)) hll.symm (by omega) ?_
        intro p9 c9 w9 h9 k9 at9
        rw [Nat.zero_add, List.nil_append] at h9
        rw [Nat.zero_add]
        have zk9 := k9.size
        (try simp only [V.size_alloc, V.size_drew] at zk9)
        have kk9 : V.Kp V.Nil W w9 := V.Kp.then (V.kp : V.Kp V.Nil W _) k9 (fun i hi e => by simp only [V.blk?, Option.map_some, Option.some.injEq, V.size_alloc, V.size_drew] at e; omega)
        have n9 : New W.heap.size p9 := fun b hb => by
          rcases at9 b hb with e | e
          · simp only [V.blk?, Option.map_some, Option.some.injEq, V.size_alloc, V.size_drew] at e; omega
          · (try simp only [V.size_alloc, V.size_drew] at e)
            omega
        have hT9 := V.Kp.blk kk9 hT (fun e => e)
        have hX9 := V.Kp.blk kk9 hX (fun e => e)
        (try simp only [V.nptr_eq, V.vBool_mk, V.vInt_mk, V.vStr_mk, V.vPtr_mk, V.vMap_mk, V.vSlice_mk, V.bnot_eq, V.nilCk_mk, V.aadd_mk, V.size_alloc, V.size_drew, V.size_setCell, V.nmul_eq, V.inat_nat, V.inat_lit, Nat.mul_one, Nat.reduceMul, Nat.reduceAdd, V.and_assoc', V.true_and', V.ifB_t, V.ifB_f, V.isNil_some, V.isNil_none, Bool.not_true, Bool.not_false, Nat.zero_add, Nat.add_zero])
        repeat (first | with_reducible refine V.lI ?_ | with_reducible refine V.lS ?_ | with_reducible refine V.lP ?_ | with_reducible refine V.lL ?_ | with_reducible refine V.lM ?_ | with_reducible refine V.lB ?_ | with_reducible refine V.sC ?_ | with_reducible refine V.lG ?_ | ((with_reducible refine And.intro ?_ ?_); (· first | with_reducible exact V.hC | with_reducible exact V.hB | (simp only [V.inX, V.inR, V.inz, V.ige0, V.zi]; omega))) | simp only [V.nptr_eq, V.vBool_mk, V.vInt_mk, V.vStr_mk, V.vPtr_mk, V.vMap_mk, V.vSlice_mk, V.bnot_eq, V.nilCk_mk, V.aadd_mk, V.size_alloc, V.size_drew, V.size_setCell, V.nmul_eq, V.inat_nat, V.inat_lit, Nat.mul_one, Nat.reduceMul, Nat.reduceAdd, V.and_assoc', V.true_and', V.ifB_t, V.ifB_f, V.isNil_some, V.isNil_none, Bool.not_true, Bool.not_false, Nat.zero_add, Nat.add_zero])
        refine app_strs (h9.keep (V.kp : V.Kp V.Nil w9 _)) (by omega) (strAt_one V.blk) rfl (by simp) ?_
        intro p10 c10 w10 h10 k10 at10
        have kk10 : V.Kp V.Nil W w10 := V.Kp.then (V.kp : V.Kp V.Nil W _) k10 (fun i hi e => by have := n9 i e; omega)
        have hT10 := V.Kp.blk kk10 hT (fun e => e)
        (try simp only [V.nptr_eq, V.vBool_mk, V.vInt_mk, V.vStr_mk, V.vPtr_mk, V.vMap_mk, V.vSlice_mk, V.bnot_eq, V.nilCk_mk, V.aadd_mk, V.size_alloc, V.size_drew, V.size_setCell, V.nmul_eq, V.inat_nat, V.inat_lit, Nat.mul_one, Nat.reduceMul, Nat.reduceAdd, V.and_assoc', V.true_and', V.ifB_t, V.ifB_f, V.isNil_some, V.isNil_none, Bool.not_true, Bool.not_false, Nat.zero_add, Nat.add_zero])
        repeat (first | with_reducible refine V.lI ?_ | with_reducible refine V.lS ?_ | with_reducible refine V.lP ?_ | with_reducible refine V.lL ?_ | with_reducible refine V.lM ?_ | with_reducible refine V.lB ?_ | with_reducible refine V.sC ?_ | with_reducible refine V.lG ?_ | ((with_reducible refine And.intro ?_ ?_); (· first | with_reducible exact V.hC | with_reducible exact V.hB | (simp only [V.inX, V.inR, V.inz, V.ige0, V.zi]; omega))) | simp only [V.nptr_eq, V.vBool_mk, V.vInt_mk, V.vStr_mk, V.vPtr_mk, V.vMap_mk, V.vSlice_mk, V.bnot_eq, V.nilCk_mk, V.aadd_mk, V.size_alloc, V.size_drew, V.size_setCell, V.nmul_eq, V.inat_nat, V.inat_lit, Nat.mul_one, Nat.reduceMul, Nat.reduceAdd, V.and_assoc', V.true_and', V.ifB_t, V.ifB_f, V.isNil_some, V.isNil_none, Bool.not_true, Bool.not_false, Nat.zero_add, Nat.add_zero])
        refine mroot_spec (xs.length + 1) (Mk.leaves xs ++ [Mk.leaf leaf]) (by rw [List.length_append, hll]; rfl) (by omega) (fun y hy => by
          rcases List.mem_append.1 hy with h | h
          · exact hl32 y h
          · have : y = Mk.leaf leaf := by simpa using h
            rw [this]; omega) _ _ _ _ h10.length h10.le h10.at _ ?_
        intro w11 k11
        (try simp only [V.nptr_eq, V.vBool_mk, V.vInt_mk, V.vStr_mk, V.vPtr_mk, V.vMap_mk, V.vSlice_mk, V.bnot_eq, V.nilCk_mk, V.aadd_mk, V.size_alloc, V.size_drew, V.size_setCell, V.nmul_eq, V.inat_nat, V.inat_lit, Nat.mul_one, Nat.reduceMul, Nat.reduceAdd, V.and_assoc', V.true_and', V.ifB_t, V.ifB_f, V.isNil_some, V.isNil_none, Bool.not_true, Bool.not_false, Nat.zero_add, Nat.add_zero])
        rw [V.seq_eq, decide_eq_true hfin2]
        exact hc w11 (V.Kp.trans kW (V.Kp.trans kk10 k11))
      repeat (first | with_reducible refine V.lI ?_ | with_reducible refine V.lS ?_ | with_reducible refine V.lP ?_ | with_reducible refine V.lL ?_ | with_reducible refine V.lM ?_ | with_reducible refine V.lB ?_ | with_reducible refine V.sC ?_ | with_reducible refine V.lG ?_ | ((with_reducible refine And.intro ?_ ?_); (· first | with_reducible exact V.hC | with_reducible exact V.hB | (simp only [V.inX, V.inR, V.inz, V.ige0, V.zi]; omega))) | simp only [V.nptr_eq, V.vBool_mk, V.vInt_mk, V.vStr_mk, V.vPtr_mk, V.vMap_mk, V.vSlice_mk, V.bnot_eq, V.nilCk_mk, V.aadd_mk, V.size_alloc, V.size_drew, V.size_setCell, V.nmul_eq, V.inat_nat, V.inat_lit, Nat.mul_one, Nat.reduceMul, Nat.reduceAdd, V.and_assoc', V.true_and', V.ifB_t, V.ifB_f, V.isNil_some, V.isNil_none, Bool.not_true, Bool.not_false, Nat.zero_add, Nat.add_zero])
      refine And.intro ?_ ?_
      · have hS : V.Blk ((w8.alloc (.cells #[] 9)).alloc (.cells #[.string (Mk.leaf leaf)] 9)) (w8.heap.size + 1) #[.string (Mk.leaf leaf)] 9 := V.blk
        refine app_strs (xs := []) (V.Row.of (cur := #[]) V.blk (Nat.le_refl _) (Nat.zero_le _) rfl rfl) (by omega) (hl.at.keep (V.kp : V.Kp V.Nil W _)) hll.symm (by omega) ?_
        intro p9 c9 w9 h9 k9 at9
        rw [Nat.zero_add, List.nil_append] at h9
        rw [Nat.zero_add]
        have zk9 := k9.size
        (try simp only [V.size_alloc, V.size_drew] at zk9)
        have kk9 : V.Kp V.Nil W w9 := V.Kp.then (V.kp : V.Kp V.Nil W _) k9 (fun i hi e => by simp only [V.blk?, Option.map_some, Option.some.injEq, V.size_alloc, V.size_drew] at e; omega)
        have n9 : New W.heap.size p9 := fun b hb => by
          rcases at9 b hb with e | e
          · simp only [V.blk?, Option.map_some, Option.some.injEq, V.size_alloc, V.size_drew] at e; omega
          · (try simp only [V.size_alloc, V.size_drew] at e)
            omega
        have hT9 := V.Kp.blk kk9 hT (fun e => e)
        have hX9 := V.Kp.blk kk9 hX (fun e => e)
        (try simp only [V.nptr_eq, V.vBool_mk, V.vInt_mk, V.vStr_mk, V.vPtr_mk, V.vMap_mk, V.vSlice_mk, V.bnot_eq, V.nilCk_mk, V.aadd_mk, V.size_alloc, V.size_drew, V.size_setCell, V.nmul_eq, V.inat_nat, V.inat_lit, Nat.mul_one, Nat.reduceMul, Nat.reduceAdd, V.and_assoc', V.true_and', V.ifB_t, V.ifB_f, V.isNil_some, V.isNil_none, Bool.not_true, Bool.not_false, Nat.zero_add, Nat.add_zero])
        repeat (first | with_reducible refine V.lI ?_ | with_reducible refine V.lS ?_ | with_reducible refine V.lP ?_ | with_reducible refine V.lL ?_ | with_reducible refine V.lM ?_ | with_reducible refine V.lB ?_ | with_reducible refine V.sC ?_ | with_reducible refine V.lG ?_ | ((with_reducible refine And.intro ?_ ?_); (· first | with_reducible exact V.hC | with_reducible exact V.hB | (simp only [V.inX, V.inR, V.inz, V.ige0, V.zi]; omega))) | simp only [V.nptr_eq, V.vBool_mk, V.vInt_mk, V.vStr_mk, V.vPtr_mk, V.vMap_mk, V.vSlice_mk, V.bnot_eq, V.nilCk_mk, V.aadd_mk, V.size_alloc, V.size_drew, V.size_setCell, V.nmul_eq, V.inat_nat, V.inat_lit, Nat.mul_one, Nat.reduceMul, Nat.reduceAdd, V.and_assoc', V.true_and', V.ifB_t, V.ifB_f, V.isNil_some, V.isNil_none, Bool.not_true, Bool.not_false, Nat.zero_add, Nat.add_zero])
        have hS9 := V.Kp.blk k9 hS (fun e => by simp only [V.blk?, Option.map_some, Option.some.injEq, V.size_alloc, V.size_drew] at e; omega)
        refine app_strs (h9.keep (V.kp : V.Kp V.Nil w9 _)) (by omega) (strAt_one V.blk) rfl (by simp) ?_
        intro p10 c10 w10 h10 k10 at10
        have kk10 : V.Kp V.Nil W w10 := V.Kp.then (V.kp : V.Kp V.Nil W _) k10 (fun i hi e => by have := n9 i e; omega)
        have hT10 := V.Kp.blk kk10 hT (fun e => e)
        (try simp only [V.nptr_eq, V.vBool_mk, V.vInt_mk, V.vStr_mk, V.vPtr_mk, V.vMap_mk, V.vSlice_mk, V.bnot_eq, V.nilCk_mk, V.aadd_mk, V.size_alloc, V.size_drew, V.size_setCell, V.nmul_eq, V.inat_nat, V.inat_lit, Nat.mul_one, Nat.reduceMul, Nat.reduceAdd, V.and_assoc', V.true_and', V.ifB_t, V.ifB_f, V.isNil_some, V.isNil_none, Bool.not_true, Bool.not_false, Nat.zero_add, Nat.add_zero])
        repeat (first | with_reducible refine V.lI ?_ | with_reducible refine V.lS ?_ | with_reducible refine V.lP ?_ | with_reducible refine V.lL ?_ | with_reducible refine V.lM ?_ | with_reducible refine V.lB ?_ | with_reducible refine V.sC ?_ | with_reducible refine V.lG ?_ | ((with_reducible refine And.intro ?_ ?_); (· first | with_reducible exact V.hC | with_reducible exact V.hB | (simp only [V.inX, V.inR, V.inz, V.ige0, V.zi]; omega))) | simp only [V.nptr_eq, V.vBool_mk, V.vInt_mk, V.vStr_mk, V.vPtr_mk, V.vMap_mk, V.vSlice_mk, V.bnot_eq, V.nilCk_mk, V.aadd_mk, V.size_alloc, V.size_drew, V.size_setCell, V.nmul_eq, V.inat_nat, V.inat_lit, Nat.mul_one, Nat.reduceMul, Nat.reduceAdd, V.and_assoc', V.true_and', V.ifB_t, V.ifB_f, V.isNil_some, V.isNil_none, Bool.not_true, Bool.not_false, Nat.zero_add, Nat.add_zero])
        refine mroot_spec (xs.length + 1) (Mk.leaves xs ++ [Mk.leaf leaf]) (by rw [List.length_append, hll]; rfl) (by omega) (fun y hy => by
          rcases List.mem_append.1 hy with h | h
          · exact hl32 y h
          · have : y = Mk.leaf leaf := by simpa using h
            rw [this]; omega) _ _ _ _ h10.length h10.le h10.at _ ?_
        intro w11 k11
        (try simp only [V.nptr_eq, V.vBool_mk, V.vInt_mk, V.vStr_mk, V.vPtr_mk, V.vMap_mk, V.vSlice_mk, V.bnot_eq, V.nilCk_mk, V.aadd_mk, V.size_alloc, V.size_drew, V.size_setCell, V.nmul_eq, V.inat_nat, V.inat_lit, Nat.mul_one, Nat.reduceMul, Nat.reduceAdd, V.and_assoc', V.true_and', V.ifB_t, V.ifB_f, V.isNil_some, V.isNil_none, Bool.not_true, Bool.not_false, Nat.zero_add, Nat.add_zero])
        rw [V.seq_eq, decide_eq_true hfin2]
        exact hc w11 (V.Kp.trans kW (V.Kp.trans kk10 k11))
      repeat (first | with_reducible refine V.lI ?_ | with_reducible refine V.lS ?_ | with_reducible refine V.lP ?_ | with_reducible refine V.lL ?_ | with_reducible refine V.lM ?_ | with_reducible refine V.lB ?_ | with_reducible refine V.sC ?_ | with_reducible refine V.lG ?_ | ((with_reducible refine And.intro ?_ ?_); (· first | with_reducible exact V.hC | with_reducible exact V.hB | (simp only [V.inX, V.inR, V.inz, V.ige0, V.zi]; omega))) | simp only [V.nptr_eq, V.vBool_mk, V.vInt_mk, V.vStr_mk, V.vPtr_mk, V.vMap_mk, V.vSlice_mk, V.bnot_eq, V.nilCk_mk, V.aadd_mk, V.size_alloc, V.size_drew, V.size_setCell, V.nmul_eq, V.inat_nat, V.inat_lit, Nat.mul_one, Nat.reduceMul, Nat.reduceAdd, V.and_assoc', V.true_and', V.ifB_t, V.ifB_f, V.isNil_some, V.isNil_none, Bool.not_true, Bool.not_false, Nat.zero_add, Nat.add_zero])
      have hS : V.Blk ((w8.alloc (.cells #[.string (Mk.leaf leaf)] 9)).alloc (.cells #[] 9)) w8.heap.size #[.string (Mk.leaf leaf)] 9 := V.blk
      refine app_strs (xs := []) (V.Row.of (cur := #[]) V.blk (Nat.le_refl _) (Nat.zero_le _) rfl rfl) (by omega) (hl.at.keep (V.kp : V.Kp V.Nil W _)) hll.symm (by omega) ?_
      intro p9 c9 w9 h9 k9 at9
      rw [Nat.zero_add, List.nil_append] at h9
      rw [Nat.zero_add]
      have zk9 := k9.size
      (try simp only [V.size_alloc, V.size_drew] at zk9)
      have kk9 : V.Kp V.Nil W w9 := V.Kp.then (V.kp : V.Kp V.Nil W _) k9 (fun i hi e => by simp only [V.blk?, Option.map_some, Option.some.injEq, V.size_alloc, V.size_drew] at e; omega)
      have n9 : New W.heap.size p9 := fun b hb => by
        rcases at9 b hb with e | e
        · simp only [V.blk?, Option.map_some, Option.some.injEq, V.size_alloc, V.size_drew] at e; omega
        · (try simp only [V.size_alloc, V.size_drew] at e)
          omega
      have hT9 := V.Kp.blk kk9 hT (fun e => e)
      have hX9 := V.Kp.blk kk9 hX (fun e => e)
      (try simp only [V.nptr_eq, V.vBool_mk, V.vInt_mk, V.vStr_mk, V.vPtr_mk, V.vMap_mk, V.vSlice_mk, V.bnot_eq, V.nilCk_mk, V.aadd_mk, V.size_alloc, V.size_drew, V.size_setCell, V.nmul_eq, V.inat_nat, V.inat_lit, Nat.mul_one, Nat.reduceMul, Nat.reduceAdd, V.and_assoc', V.true_and', V.ifB_t, V.ifB_f, V.isNil_some, V.isNil_none, Bool.not_true, Bool.not_false, Nat.zero_add, Nat.add_zero])
      repeat (first | with_reducible refine V.lI ?_ | with_reducible refine V.lS ?_ | with_reducible refine V.lP ?_ | with_reducible refine V.lL ?_ | with_reducible refine V.lM ?_ | with_reducible refine V.lB ?_ | with_reducible refine V.sC ?_ | with_reducible refine V.lG ?_ | ((with_reducible refine And.intro ?_ ?_); (· first | with_reducible exact V.hC | with_reducible exact V.hB | (simp only [V.inX, V.inR, V.inz, V.ige0, V.zi]; omega))) | simp only [V.nptr_eq, V.vBool_mk, V.vInt_mk, V.vStr_mk, V.vPtr_mk, V.vMap_mk, V.vSlice_mk, V.bnot_eq, V.nilCk_mk, V.aadd_mk, V.size_alloc, V.size_drew, V.size_setCell, V.nmul_eq, V.inat_nat, V.inat_lit, Nat.mul_one, Nat.reduceMul, Nat.reduceAdd, V.and_assoc', V.true_and', V.ifB_t, V.ifB_f, V.isNil_some, V.isNil_none, Bool.not_true, Bool.not_false, Nat.zero_add, Nat.add_zero])
      have hS9 := V.Kp.blk k9 hS (fun e => by simp only [V.blk?, Option.map_some, Option.some.injEq, V.size_alloc, V.size_drew] at e; omega)
      refine app_strs (h9.keep (V.kp : V.Kp V.Nil w9 _)) (by omega) (strAt_one V.blk) rfl (by simp) ?_
      intro p10 c10 w10 h10 k10 at10
      have kk10 : V.Kp V.Nil W w10 := V.Kp.then (V.kp : V.Kp V.Nil W _) k10 (fun i hi e => by have := n9 i e; omega)
      have hT10 := V.Kp.blk kk10 hT (fun e => e)
      (try simp only [V.nptr_eq, V.vBool_mk, V.vInt_mk, V.vStr_mk, V.vPtr_mk, V.vMap_mk, V.vSlice_mk, V.bnot_eq, V.nilCk_mk, V.aadd_mk, V.size_alloc, V.size_drew, V.size_setCell, V.nmul_eq, V.inat_nat, V.inat_lit, Nat.mul_one, Nat.reduceMul, Nat.reduceAdd, V.and_assoc', V.true_and', V.ifB_t, V.ifB_f, V.isNil_some, V.isNil_none, Bool.not_true, Bool.not_false, Nat.zero_add, Nat.add_zero])
      repeat (first | with_reducible refine V.lI ?_ | with_reducible refine V.lS ?_ | with_reducible refine V.lP ?_ | with_reducible refine V.lL ?_ | with_reducible refine V.lM ?_ | with_reducible refine V.lB ?_ | with_reducible refine V.sC ?_ | with_reducible refine V.lG ?_ | ((with_reducible refine And.intro ?_ ?_); (· first | with_reducible exact V.hC | with_reducible exact V.hB | (simp only [V.inX, V.inR, V.inz, V.ige0, V.zi]; omega))) | simp only [V.nptr_eq, V.vBool_mk, V.vInt_mk, V.vStr_mk, V.vPtr_mk, V.vMap_mk, V.vSlice_mk, V.bnot_eq, V.nilCk_mk, V.aadd_mk, V.size_alloc, V.size_drew, V.size_setCell, V.nmul_eq, V.inat_nat, V.inat_lit, Nat.mul_one, Nat.reduceMul, Nat.reduceAdd, V.and_assoc', V.true_and', V.ifB_t, V.ifB_f, V.isNil_some, V.isNil_none, Bool.not_true, Bool.not_false, Nat.zero_add, Nat.add_zero])
      refine mroot_spec (xs.length + 1) (Mk.leaves xs ++ [Mk.leaf leaf]) (by rw [List.length_append, hll]; rfl) (by omega) (fun y hy => by
        rcases List.mem_append.1 hy with h | h
        · exact hl32 y h
        · have : y = Mk.leaf leaf := by simpa using h
          rw [this]; omega) _ _ _ _ h10.length h10.le h10.at _ ?_
      intro w11 k11
      (try simp only [V.nptr_eq, V.vBool_mk, V.vInt_mk, V.vStr_mk, V.vPtr_mk, V.vMap_mk, V.vSlice_mk, V.bnot_eq, V.nilCk_mk, V.aadd_mk, V.size_alloc, V.size_drew, V.size_setCell, V.nmul_eq, V.inat_nat, V.inat_lit, Nat.mul_one, Nat.reduceMul, Nat.reduceAdd, V.and_assoc', V.true_and', V.ifB_t, V.ifB_f, V.isNil_some, V.isNil_none, Bool.not_true, Bool.not_false, Nat.zero_add, Nat.add_zero])
      rw [V.seq_eq, decide_eq_true hfin2]
      exact hc w11 (V.Kp.trans kW (V.Kp.trans kk10 k11))
    repeat (first | with_reducible refine V.lI ?_ | with_reducible refine V.lS ?_ | with_reducible refine V.lP ?_ | with_reducible refine V.lL ?_ | with_reducible refine V.lM ?_ | with_reducible refine V.lB ?_ | with_reducible refine V.sC ?_ | with_reducible refine V.lG ?_ | ((with_reducible refine And.intro ?_ ?_); (· first | with_reducible exact V.hC | with_reducible exact V.hB | (simp only [V.inX, V.inR, V.inz, V.ige0, V.zi]; omega))) | simp only [V.nptr_eq, V.vBool_mk, V.vInt_mk, V.vStr_mk, V.vPtr_mk, V.vMap_mk, V.vSlice_mk, V.bnot_eq, V.nilCk_mk, V.aadd_mk, V.size_alloc, V.size_drew, V.size_setCell, V.nmul_eq, V.inat_nat, V.inat_lit, Nat.mul_one, Nat.reduceMul, Nat.reduceAdd, V.and_assoc', V.true_and', V.ifB_t, V.ifB_f, V.isNil_some, V.isNil_none, Bool.not_true, Bool.not_false, Nat.zero_add, Nat.add_zero])
    refine And.intro ?_ ?_
    · skip
      refine root_spec L hLl hL2 _ q _ _ _ hL.length hL.le (hL.at.keep (V.kp : V.Kp V.Nil W _)) _ ?_
      intro w8 k8
      have kk8 : V.Kp V.Nil W w8 := V.Kp.trans (V.kp : V.Kp V.Nil W _) k8
      have hT8 := V.Kp.blk kk8 hT (fun e => e)
      have hX8 := V.Kp.blk kk8 hX (fun e => e)
      have hg8 := V.Kp.blk kk8 hg (fun e => e)
      have zk8 := k8.size
      have zz8 := kk8.size
      (try simp only [V.size_alloc, V.size_drew] at zk8)
      (try simp only [V.nptr_eq, V.vBool_mk, V.vInt_mk, V.vStr_mk, V.vPtr_mk, V.vMap_mk, V.vSlice_mk, V.bnot_eq, V.nilCk_mk, V.aadd_mk, V.size_alloc, V.size_drew, V.size_setCell, V.nmul_eq, V.inat_nat, V.inat_lit, Nat.mul_one, Nat.reduceMul, Nat.reduceAdd, V.and_assoc', V.true_and', V.ifB_t, V.ifB_f, V.isNil_some, V.isNil_none, Bool.not_true, Bool.not_false, Nat.zero_add, Nat.add_zero])
      repeat (first | with_reducible refine V.lI ?_ | with_reducible refine V.lS ?_ | with_reducible refine V.lP ?_ | with_reducible refine V.lL ?_ | with_reducible refine V.lM ?_ | with_reducible refine V.lB ?_ | with_reducible refine V.sC ?_ | with_reducible refine V.lG ?_ | ((with_reducible refine And.intro ?_ ?_); (· first | with_reducible exact V.hC | with_reducible exact V.hB | (simp only [V.inX, V.inR, V.inz, V.ige0, V.zi]; omega))) | simp only [V.nptr_eq, V.vBool_mk, V.vInt_mk, V.vStr_mk, V.vPtr_mk, V.vMap_mk, V.vSlice_mk, V.bnot_eq, V.nilCk_mk, V.aadd_mk, V.size_alloc, V.size_drew, V.size_setCell, V.nmul_eq, V.inat_nat, V.inat_lit, Nat.mul_one, Nat.reduceMul, Nat.reduceAdd, V.and_assoc', V.true_and', V.ifB_t, V.ifB_f, V.isNil_some, V.isNil_none, Bool.not_true, Bool.not_false, Nat.zero_add, Nat.add_zero])
      have hE : V.Blk w8 W.heap.size #[] 9 := V.Kp.blk k8 V.blk (fun e => e)
      refine And.intro ?_ ?_
      · skip
        refine app_strs (xs := []) (V.Row.of (cur := #[]) V.blk (Nat.le_refl _) (Nat.zero_le _) rfl rfl) (by omega) (hl.at.keep (V.kp : V.Kp V.Nil W _)) hll.symm (by omega) ?_
        intro p9 c9 w9 h9 k9 at9
        rw [Nat.zero_add, List.nil_append] at h9
        rw [Nat.zero_add]
        have zk9 := k9.size
        (try simp only [V.size_alloc, V.size_drew] at zk9)
        have kk9 : V.Kp V.Nil W w9 := V.Kp.then (V.kp : V.Kp V.Nil W _) k9 (fun i hi e => by simp only [V.blk?, Option.map_some, Option.some.injEq, V.size_alloc, V.size_drew] at e; omega)
        have n9 : New W.heap.size p9 := fun b hb => by
          rcases at9 b hb with e | e
          · simp only [V.blk?, Option.map_some, Option.some.injEq, V.size_alloc, V.size_drew] at e; omega
          · (try simp only [V.size_alloc, V.size_drew] at e)
            omega
        have hT9 := V.Kp.blk kk9 hT (fun e => e)
        have hX9 := V.Kp.blk kk9 hX (fun e => e)
        (try simp only [V.nptr_eq, V.vBool_mk, V.vInt_mk, V.vStr_mk, V.vPtr_mk, V.vMap_mk, V.vSlice_mk, V.bnot_eq, V.nilCk_mk, V.aadd_mk, V.size_alloc, V.size_drew, V.size_setCell, V.nmul_eq, V.inat_nat, V.inat_lit, Nat.mul_one, Nat.reduceMul, Nat.reduceAdd, V.and_assoc', V.true_and', V.ifB_t, V.ifB_f, V.isNil_some, V.isNil_none, Bool.not_true, Bool.not_false, Nat.zero_add, Nat.add_zero])
        repeat (first | with_reducible refine V.lI ?_ | with_reducible refine V.lS ?_ | with_reducible refine V.lP ?_ | with_reducible refine V.lL ?_ | with_reducible refine V.lM ?_ | with_reducible refine V.lB ?_ | with_reducible refine V.sC ?_ | with_reducible refine V.lG ?_ | ((with_reducible refine And.intro ?_ ?_); (· first | with_reducible exact V.hC | with_reducible exact V.hB | (simp only [V.inX, V.inR, V.inz, V.ige0, V.zi]; omega))) | simp only [V.nptr_eq, V.vBool_mk, V.vInt_mk, V.vStr_mk, V.vPtr_mk, V.vMap_mk, V.vSlice_mk, V.bnot_eq, V.nilCk_mk, V.aadd_mk, V.size_alloc, V.size_drew, V.size_setCell, V.nmul_eq, V.inat_nat, V.inat_lit, Nat.mul_one, Nat.reduceMul, Nat.reduceAdd, V.and_assoc', V.true_and', V.ifB_t, V.ifB_f, V.isNil_some, V.isNil_none, Bool.not_true, Bool.not_false, Nat.zero_add, Nat.add_zero])
        refine app_strs (h9.keep (V.kp : V.Kp V.Nil w9 _)) (by omega) (strAt_one V.blk) rfl (by simp) ?_
        intro p10 c10 w10 h10 k10 at10
        have kk10 : V.Kp V.Nil W w10 := V.Kp.then (V.kp : V.Kp V.Nil W _) k10 (fun i hi e => by have := n9 i e; omega)
        have hT10 := V.Kp.blk kk10 hT (fun e => e)
        (try simp only [V.nptr_eq, V.vBool_mk, V.vInt_mk, V.vStr_mk, V.vPtr_mk, V.vMap_mk, V.vSlice_mk, V.bnot_eq, V.nilCk_mk, V.aadd_mk, V.size_alloc, V.size_drew, V.size_setCell, V.nmul_eq, V.inat_nat, V.inat_lit, Nat.mul_one, Nat.reduceMul, Nat.reduceAdd, V.and_assoc', V.true_and', V.ifB_t, V.ifB_f, V.isNil_some, V.isNil_none, Bool.not_true, Bool.not_false, Nat.zero_add, Nat.add_zero])
        repeat (first | with_reducible refine V.lI ?_ | with_reducible refine V.lS ?_ | with_reducible refine V.lP ?_ | with_reducible refine V.lL ?_ | with_reducible refine V.lM ?_ | with_reducible refine V.lB ?_ | with_reducible refine V.sC ?_ | with_reducible refine V.lG ?_ | ((with_reducible refine And.intro ?_ ?_); (· first | with_reducible exact V.hC | with_reducible exact V.hB | (simp only [V.inX, V.inR, V.inz, V.ige0, V.zi]; omega))) | simp only [V.nptr_eq, V.vBool_mk, V.vInt_mk, V.vStr_mk, V.vPtr_mk, V.vMap_mk, V.vSlice_mk, V.bnot_eq, V.nilCk_mk, V.aadd_mk, V.size_alloc, V.size_drew, V.size_setCell, V.nmul_eq, V.inat_nat, V.inat_lit, Nat.mul_one, Nat.reduceMul, Nat.reduceAdd, V.and_assoc', V.true_and', V.ifB_t, V.ifB_f, V.isNil_some, V.isNil_none, Bool.not_true, Bool.not_false, Nat.zero_add, Nat.add_zero])
        refine mroot_spec (xs.length + 1) (Mk.leaves xs ++ [Mk.leaf leaf]) (by rw [List.length_append, hll]; rfl) (by omega) (fun y hy => by
          rcases List.mem_append.1 hy with h | h
          · exact hl32 y h
          · have : y = Mk.leaf leaf := by simpa using h
            rw [this]; omega) _ _ _ _ h10.length h10.le h10.at _ ?_
        intro w11 k11
        (try simp only [V.nptr_eq, V.vBool_mk, V.vInt_mk, V.vStr_mk, V.vPtr_mk, V.vMap_mk, V.vSlice_mk, V.bnot_eq, V.nilCk_mk, V.aadd_mk, V.size_alloc, V.size_drew, V.size_setCell, V.nmul_eq, V.inat_nat, V.inat_lit, Nat.mul_one, Nat.reduceMul, Nat.reduceAdd, V.and_assoc', V.true_and', V.ifB_t, V.ifB_f, V.isNil_some, V.isNil_none, Bool.not_true, Bool.not_false, Nat.zero_add, Nat.add_zero])
        rw [V.seq_eq, decide_eq_true hfin2]
        exact hc w11 (V.Kp.trans kW (V.Kp.trans kk10 k11))
      repeat (first | with_reducible refine V.lI ?_ | with_reducible refine V.lS ?_ | with_reducible refine V.lP ?_ | with_reducible refine V.lL ?_ | with_reducible refine V.lM ?_ | with_reducible refine V.lB ?_ | with_reducible refine V.sC ?_ | with_reducible refine V.lG ?_ | ((with_reducible refine And.intro ?_ ?_); (· first | with_reducible exact V.hC | with_reducible exact V.hB | (simp only [V.inX, V.inR, V.inz, V.ige0, V.zi]; omega))) | simp only [V.nptr_eq, V.vBool_mk, V.vInt_mk, V.vStr_mk, V.vPtr_mk, V.vMap_mk, V.vSlice_mk, V.bnot_eq, V.nilCk_mk, V.aadd_mk, V.size_alloc, V.size_drew, V.size_setCell, V.nmul_eq, V.inat_nat, V.inat_lit, Nat.mul_one, Nat.reduceMul, Nat.reduceAdd, V.and_assoc', V.true_and', V.ifB_t, V.ifB_f, V.isNil_some, V.isNil_none, Bool.not_true, Bool.not_false, Nat.zero_add, Nat.add_zero])
      have hS : V.Blk (w8.alloc (.cells #[.string (Mk.leaf leaf)] 9)) w8.heap.size #[.string (Mk.leaf leaf)] 9 := V.blk
      refine app_strs (xs := []) (V.Row.of (cur := #[]) V.blk (Nat.le_refl _) (Nat.zero_le _) rfl rfl) (by omega) (hl.at.keep (V.kp : V.Kp V.Nil W _)) hll.symm (by omega) ?_
      intro p9 c9 w9 h9 k9 at9
      rw [Nat.zero_add, List.nil_append] at h9
      rw [Nat.zero_add]
      have zk9 := k9.size
      (try simp only [V.size_alloc, V.size_drew] at zk9)
      have kk9 : V.Kp V.Nil W w9 := V.Kp.then (V.kp : V.Kp V.Nil W _) k9 (fun i hi e => by simp only [V.blk?, Option.map_some, Option.some.injEq, V.size_alloc, V.size_drew] at e; omega)
      have n9 : New W.heap.size p9 := fun b hb => by
        rcases at9 b hb with e | e
        · simp only [V.blk?, Option.map_some, Option.some.injEq, V.size_alloc, V.size_drew] at e; omega
        · (try simp only [V.size_alloc, V.size_drew] at e)
          omega
      have hT9 := V.Kp.blk kk9 hT (fun e => e)
      have hX9 := V.Kp.blk kk9 hX (fun e => e)
      (try simp only [V.nptr_eq, V.vBool_mk, V.vInt_mk, V.vStr_mk, V.vPtr_mk, V.vMap_mk, V.vSlice_mk, V.bnot_eq, V.nilCk_mk, V.aadd_mk, V.size_alloc, V.size_drew, V.size_setCell, V.nmul_eq, V.inat_nat, V.inat_lit, Nat.mul_one, Nat.reduceMul, Nat.reduceAdd, V.and_assoc', V.true_and', V.ifB_t, V.ifB_f, V.isNil_some, V.isNil_none, Bool.not_true, Bool.not_false, Nat.zero_add, Nat.add_zero])
      repeat (first | with_reducible refine V.lI ?_ | with_reducible refine V.lS ?_ | with_reducible refine V.lP ?_ | with_reducible refine V.lL ?_ | with_reducible refine V.lM ?_ | with_reducible refine V.lB ?_ | with_reducible refine V.sC ?_ | with_reducible refine V.lG ?_ | ((with_reducible refine And.intro ?_ ?_); (· first | with_reducible exact V.hC | with_reducible exact V.hB | (simp only [V.inX, V.inR, V.inz, V.ige0, V.zi]; omega))) | simp only [V.nptr_eq, V.vBool_mk, V.vInt_mk, V.vStr_mk, V.vPtr_mk, V.vMap_mk, V.vSlice_mk, V.bnot_eq, V.nilCk_mk, V.aadd_mk, V.size_alloc, V.size_drew, V.size_setCell, V.nmul_eq, V.inat_nat, V.inat_lit, Nat.mul_one, Nat.reduceMul, Nat.reduceAdd, V.and_assoc', V.true_and', V.ifB_t, V.ifB_f, V.isNil_some, V.isNil_none, Bool.not_true, Bool.not_false, Nat.zero_add, Nat.add_zero])
      have hS9 := V.Kp.blk k9 hS (fun e => by simp only [V.blk?, Option.map_some, Option.some.injEq, V.size_alloc, V.size_drew] at e; omega)
      refine app_strs (h9.keep (V.kp : V.Kp V.Nil w9 _)) (by omega) (strAt_one V.blk) rfl (by simp) ?_
      intro p10 c10 w10 h10 k10 at10
      have kk10 : V.Kp V.Nil W w10 := V.Kp.then (V.kp : V.Kp V.Nil W _) k10 (fun i hi e => by have := n9 i e; omega)
      have hT10 := V.Kp.blk kk10 hT (fun e => e)
      (try simp only [V.nptr_eq, V.vBool_mk, V.vInt_mk, V.vStr_mk, V.vPtr_mk, V.vMap_mk, V.vSlice_mk, V.bnot_eq, V.nilCk_mk, V.aadd_mk, V.size_alloc, V.size_drew, V.size_setCell, V.nmul_eq, V.inat_nat, V.inat_lit, Nat.mul_one, Nat.reduceMul, Nat.reduceAdd, V.and_assoc', V.true_and', V.ifB_t, V.ifB_f, V.isNil_some, V.isNil_none, Bool.not_true, Bool.not_false, Nat.zero_add, Nat.add_zero])
      repeat (first | with_reducible refine V.lI ?_ | with_reducible refine V.lS ?_ | with_reducible refine V.lP ?_ | with_reducible refine V.lL ?_ | with_reducible refine V.lM ?_ | with_reducible refine V.lB ?_ | with_reducible refine V.sC ?_ | with_reducible refine V.lG ?_ | ((with_reducible refine And.intro ?_ ?_); (· first | with_reducible exact V.hC | with_reducible exact V.hB | (simp only [V.inX, V.inR, V.inz, V.ige0, V.zi]; omega))) | simp only [V.nptr_eq, V.vBool_mk, V.vInt_mk, V.vStr_mk, V.vPtr_mk, V.vMap_mk, V.vSlice_mk, V.bnot_eq, V.nilCk_mk, V.aadd_mk, V.size_alloc, V.size_drew, V.size_setCell, V.nmul_eq, V.inat_nat, V.inat_lit, Nat.mul_one, Nat.reduceMul, Nat.reduceAdd, V.and_assoc', V.true_and', V.ifB_t, V.ifB_f, V.isNil_some, V.isNil_none, Bool.not_true, Bool.not_false, Nat.zero_add, Nat.add_zero])
      refine mroot_spec (xs.length + 1) (Mk.leaves xs ++ [Mk.leaf leaf]) (by rw [List.length_append, hll]; rfl) (by omega) (fun y hy => by
        rcases List.mem_append.1 hy with h | h
        · exact hl32 y h
        · have : y = Mk.leaf leaf := by simpa using h
          rw [this]; omega) _ _ _ _ h10.length h10.le h10.at _ ?_
      intro w11 k11
      (try simp only [V.nptr_eq, V.vBool_mk, V.vInt_mk, V.vStr_mk, V.vPtr_mk, V.vMap_mk, V.vSlice_mk, V.bnot_eq, V.nilCk_mk, V.aadd_mk, V.size_alloc, V.size_drew, V.size_setCell, V.nmul_eq, V.inat_nat, V.inat_lit, Nat.mul_one, Nat.reduceMul, Nat.reduceAdd, V.and_assoc', V.true_and', V.ifB_t, V.ifB_f, V.isNil_some, V.isNil_none, Bool.not_true, Bool.not_false, Nat.zero_add, Nat.add_zero])
      rw [V.seq_eq, decide_eq_true hfin2]
      exact hc w11 (V.Kp.trans kW (V.Kp.trans kk10 k11))
    repeat (first | with_reducible refine V.lI ?_ | with_reducible refine V.lS ?_ | with_reducible refine V.lP ?_ | with_reducible refine V.lL ?_ | with_reducible refine V.lM ?_ | with_reducible refine V.lB ?_ | with_reducible refine V.sC ?_ | with_reducible refine V.lG ?_ | ((with_reducible refine And.intro ?_ ?_); (· first | with_reducible exact V.hC | with_reducible exact V.hB | (simp only [V.inX, V.inR, V.inz, V.ige0, V.zi]; omega))) | simp only [V.nptr_eq, V.vBool_mk, V.vInt_mk, V.vStr_mk, V.vPtr_mk, V.vMap_mk, V.vSlice_mk, V.bnot_eq, V.nilCk_mk, V.aadd_mk, V.size_alloc, V.size_drew, V.size_setCell, V.nmul_eq, V.inat_nat, V.inat_lit, Nat.mul_one, Nat.reduceMul, Nat.reduceAdd, V.and_assoc', V.true_and', V.ifB_t, V.ifB_f, V.isNil_some, V.isNil_none, Bool.not_true, Bool.not_false, Nat.zero_add, Nat.add_zero])
    refine And.intro ?_ ?_
    · skip
      refine root_spec L hLl hL2 _ q _ _ _ hL.length hL.le (hL.at.keep (V.kp : V.Kp V.Nil W _)) _ ?_
      intro w8 k8
      have kk8 : V.Kp V.Nil W w8 := V.Kp.trans (V.kp : V.Kp V.Nil W _) k8
      have hT8 := V.Kp.blk kk8 hT (fun e => e)
      have hX8 := V.Kp.blk kk8 hX (fun e => e)
      have hg8 := V.Kp.blk kk8 hg (fun e => e)
      have zk8 := k8.size
      have zz8 := kk8.size
      (try simp only [V.size_alloc, V.size_drew] at zk8)
      (try simp only [V.nptr_eq, V.vBool_mk, V.vInt_mk, V.vStr_mk, V.vPtr_mk, V.vMap_mk, V.vSlice_mk, V.bnot_eq, V.nilCk_mk, V.aadd_mk, V.size_alloc, V.size_drew, V.size_setCell, V.nmul_eq, V.inat_nat, V.inat_lit, Nat.mul_one, Nat.reduceMul, Nat.reduceAdd, V.and_assoc', V.true_and', V.ifB_t, V.ifB_f, V.isNil_some, V.isNil_none, Bool.not_true, Bool.not_false, Nat.zero_add, Nat.add_zero])
      repeat (first | with_reducible refine V.lI ?_ | with_reducible refine V.lS ?_ | with_reducible refine V.lP ?_ | with_reducible refine V.lL ?_ | with_reducible refine V.lM ?_ | with_reducible refine V.lB ?_ | with_reducible refine V.sC ?_ | with_reducible refine V.lG ?_ | ((with_reducible refine And.intro ?_ ?_); (· first | with_reducible exact V.hC | with_reducible exact V.hB | (simp only [V.inX, V.inR, V.inz, V.ige0, V.zi]; omega))) | simp only [V.nptr_eq, V.vBool_mk, V.vInt_mk, V.vStr_mk, V.vPtr_mk, V.vMap_mk, V.vSlice_mk, V.bnot_eq, V.nilCk_mk, V.aadd_mk, V.size_alloc, V.size_drew, V.size_setCell, V.nmul_eq, V.inat_nat, V.inat_lit, Nat.mul_one, Nat.reduceMul, Nat.reduceAdd, V.and_assoc', V.true_and', V.ifB_t, V.ifB_f, V.isNil_some, V.isNil_none, Bool.not_true, Bool.not_false, Nat.zero_add, Nat.add_zero])
      have hE : V.Blk w8 W.heap.size #[] 9 := V.Kp.blk k8 V.blk (fun e => e)
      have hS : V.Blk w8 (W.heap.size + 1) #[.string (Mk.leaf leaf)] 9 := V.Kp.blk k8 V.blk (fun e => e)
      refine app_strs (xs := []) (V.Row.of (cur := #[]) V.blk (Nat.le_refl _) (Nat.zero_le _) rfl rfl) (by omega) (hl.at.keep (V.kp : V.Kp V.Nil W _)) hll.symm (by omega) ?_
      intro p9 c9 w9 h9 k9 at9
      rw [Nat.zero_add, List.nil_append] at h9
      rw [Nat.zero_add]
      have zk9 := k9.size
      (try simp only [V.size_alloc, V.size_drew] at zk9)
      have kk9 : V.Kp V.Nil W w9 := V.Kp.then (V.kp : V.Kp V.Nil W _) k9 (fun i hi e => by simp only [V.blk?, Option.map_some, Option.some.injEq, V.size_alloc, V.size_drew] at e; omega)
      have n9 : New W.heap.size p9 := fun b hb => by
        rcases at9 b hb with e | e
        · simp only [V.blk?, Option.map_some, Option.some.injEq, V.size_alloc, V.size_drew] at e; omega
        · (try simp only [V.size_alloc, V.size_drew] at e)
          omega
      have hT9 := V.Kp.blk kk9 hT (fun e => e)
      have hX9 := V.Kp.blk kk9 hX (fun e => e)
      (try simp only [V.nptr_eq, V.vBool_mk, V.vInt_mk, V.vStr_mk, V.vPtr_mk, V.vMap_mk, V.vSlice_mk, V.bnot_eq, V.nilCk_mk, V.aadd_mk, V.size_alloc, V.size_drew, V.size_setCell, V.nmul_eq, V.inat_nat, V.inat_lit, Nat.mul_one, Nat.reduceMul, Nat.reduceAdd, V.and_assoc', V.true_and', V.ifB_t, V.ifB_f, V.isNil_some, V.isNil_none, Bool.not_true, Bool.not_false, Nat.zero_add, Nat.add_zero])
      repeat (first | with_reducible refine V.lI ?_ | with_reducible refine V.lS ?_ | with_reducible refine V.lP ?_ | with_reducible refine V.lL ?_ | with_reducible refine V.lM ?_ | with_reducible refine V.lB ?_ | with_reducible refine V.sC ?_ | with_reducible refine V.lG ?_ | ((with_reducible refine And.intro ?_ ?_); (· first | with_reducible exact V.hC | with_reducible exact V.hB | (simp only [V.inX, V.inR, V.inz, V.ige0, V.zi]; omega))) | simp only [V.nptr_eq, V.vBool_mk, V.vInt_mk, V.vStr_mk, V.vPtr_mk, V.vMap_mk, V.vSlice_mk, V.bnot_eq, V.nilCk_mk, V.aadd_mk, V.size_alloc, V.size_drew, V.size_setCell, V.nmul_eq, V.inat_nat, V.inat_lit, Nat.mul_one, Nat.reduceMul, Nat.reduceAdd, V.and_assoc', V.true_and', V.ifB_t, V.ifB_f, V.isNil_some, V.isNil_none, Bool.not_true, Bool.not_false, Nat.zero_add, Nat.add_zero])
      have hS9 := V.Kp.blk k9 hS (fun e => by simp only [V.blk?, Option.map_some, Option.some.injEq, V.size_alloc, V.size_drew] at e; omega)
      refine app_strs (h9.keep (V.kp : V.Kp V.Nil w9 _)) (by omega) (strAt_one V.blk) rfl (by simp) ?_
      intro p10 c10 w10 h10 k10 at10
      have kk10 : V.Kp V.Nil W w10 := V.Kp.then (V.kp : V.Kp V.Nil W _) k10 (fun i hi e => by have := n9 i e; omega)
      have hT10 := V.Kp.blk kk10 hT (fun e => e)
      (try simp only [V.nptr_eq, V.vBool_mk, V.vInt_mk, V.vStr_mk, V.vPtr_mk, V.vMap_mk, V.vSlice_mk, V.bnot_eq, V.nilCk_mk, V.aadd_mk, V.size_alloc, V.size_drew, V.size_setCell, V.nmul_eq, V.inat_nat, V.inat_lit, Nat.mul_one, Nat.reduceMul, Nat.reduceAdd, V.and_assoc', V.true_and', V.ifB_t, V.ifB_f, V.isNil_some, V.isNil_none, Bool.not_true, Bool.not_false, Nat.zero_add, Nat.add_zero])
      repeat (first | with_reducible refine V.lI ?_ | with_reducible refine V.lS ?_ | with_reducible refine V.lP ?_ | with_reducible refine V.lL ?_ | with_reducible refine V.lM ?_ | with_reducible refine V.lB ?_ | with_reducible refine V.sC ?_ | with_reducible refine V.lG ?_ | ((with_reducible refine And.intro ?_ ?_); (· first | with_reducible exact V.hC | with_reducible exact V.hB | (simp only [V.inX, V.inR, V.inz, V.ige0, V.zi]; omega))) | simp only [V.nptr_eq, V.vBool_mk, V.vInt_mk, V.vStr_mk, V.vPtr_mk, V.vMap_mk, V.vSlice_mk, V.bnot_eq, V.nilCk_mk, V.aadd_mk, V.size_alloc, V.size_drew, V.size_setCell, V.nmul_eq, V.inat_nat, V.inat_lit, Nat.mul_one, Nat.reduceMul, Nat.reduceAdd, V.and_assoc', V.true_and', V.ifB_t, V.ifB_f, V.isNil_some, V.isNil_none, Bool.not_true, Bool.not_false, Nat.zero_add, Nat.add_zero])
      refine mroot_spec (xs.length + 1) (Mk.leaves xs ++ [Mk.leaf leaf]) (by rw [List.length_append, hll]; rfl) (by omega) (fun y hy => by
        rcases List.mem_append.1 hy with h | h
        · exact hl32 y h
        · have : y = Mk.leaf leaf := by simpa using h
          rw [this]; omega) _ _ _ _ h10.length h10.le h10.at _ ?_
      intro w11 k11
      (try simp only [V.nptr_eq, V.vBool_mk, V.vInt_mk, V.vStr_mk, V.vPtr_mk, V.vMap_mk, V.vSlice_mk, V.bnot_eq, V.nilCk_mk, V.aadd_mk, V.size_alloc, V.size_drew, V.size_setCell, V.nmul_eq, V.inat_nat, V.inat_lit, Nat.mul_one, Nat.reduceMul, Nat.reduceAdd, V.and_assoc', V.true_and', V.ifB_t, V.ifB_f, V.isNil_some, V.isNil_none, Bool.not_true, Bool.not_false, Nat.zero_add, Nat.add_zero])
      rw [V.seq_eq, decide_eq_true hfin2]
      exact hc w11 (V.Kp.trans kW (V.Kp.trans kk10 k11))
    repeat (first | with_reducible refine V.lI ?_ | with_reducible refine V.lS ?_ | with_reducible refine V.lP ?_ | with_reducible refine V.lL ?_ | with_reducible refine V.lM ?_ | with_reducible refine V.lB ?_ | with_reducible refine V.sC ?_ | with_reducible refine V.lG ?_ | ((with_reducible refine And.intro ?_ ?_); (· first | with_reducible exact V.hC | with_reducible exact V.hB | (simp only [V.inX, V.inR, V.inz, V.ige0, V.zi]; omega))) | simp only [V.nptr_eq, V.vBool_mk, V.vInt_mk, V.vStr_mk, V.vPtr_mk, V.vMap_mk, V.vSlice_mk, V.bnot_eq, V.nilCk_mk, V.aadd_mk, V.size_alloc, V.size_drew, V.size_setCell, V.nmul_eq, V.inat_nat, V.inat_lit, Nat.mul_one, Nat.reduceMul, Nat.reduceAdd, V.and_assoc', V.true_and', V.ifB_t, V.ifB_f, V.isNil_some, V.isNil_none, Bool.not_true, Bool.not_false, Nat.zero_add, Nat.add_zero])
    refine And.intro ?_ ?_
    · skip
      refine root_spec L hLl hL2 _ q _ _ _ hL.length hL.le (hL.at.keep (V.kp : V.Kp V.Nil W _)) _ ?_
      intro w8 k8
      have kk8 : V.Kp V.Nil W w8 := V.Kp.trans (V.kp : V.Kp V.Nil W _) k8
      have hT8 := V.Kp.blk kk8 hT (fun e => e)
      have hX8 := V.Kp.blk kk8 hX (fun e => e)
      have hg8 := V.Kp.blk kk8 hg (fun e => e)
      have zk8 := k8.size
      have zz8 := kk8.size
      (try simp only [V.size_alloc, V.size_drew] at zk8)
      (try simp only [V.nptr_eq, V.vBool_mk, V.vInt_mk, V.vStr_mk, V.vPtr_mk, V.vMap_mk, V.vSlice_mk, V.bnot_eq, V.nilCk_mk, V.aadd_mk, V.size_alloc, V.size_drew, V.size_setCell, V.nmul_eq, V.inat_nat, V.inat_lit, Nat.mul_one, Nat.reduceMul, Nat.reduceAdd, V.and_assoc', V.true_and', V.ifB_t, V.ifB_f, V.isNil_some, V.isNil_none, Bool.not_true, Bool.not_false, Nat.zero_add, Nat.add_zero])
      repeat (first | with_reducible refine V.lI ?_ | with_reducible refine V.lS ?_ | with_reducible refine V.lP ?_ | with_reducible refine V.lL ?_ | with_reducible refine V.lM ?_ | with_reducible refine V.lB ?_ | with_reducible refine V.sC ?_ | with_reducible refine V.lG ?_ | ((with_reducible refine And.intro ?_ ?_); (· first | with_reducible exact V.hC | with_reducible exact V.hB | (simp only [V.inX, V.inR, V.inz, V.ige0, V.zi]; omega))) | simp only [V.nptr_eq, V.vBool_mk, V.vInt_mk, V.vStr_mk, V.vPtr_mk, V.vMap_mk, V.vSlice_mk, V.bnot_eq, V.nilCk_mk, V.aadd_mk, V.size_alloc, V.size_drew, V.size_setCell, V.nmul_eq, V.inat_nat, V.inat_lit, Nat.mul_one, Nat.reduceMul, Nat.reduceAdd, V.and_assoc', V.true_and', V.ifB_t, V.ifB_f, V.isNil_some, V.isNil_none, Bool.not_true, Bool.not_false, Nat.zero_add, Nat.add_zero])
      have hS' : V.Blk w8 W.heap.size #[.string (Mk.leaf leaf)] 9 := V.Kp.blk k8 V.blk (fun e => e)
      have hS := hS'.alloc (.cells #[] 9)
      refine app_strs (xs := []) (V.Row.of (cur := #[]) V.blk (Nat.le_refl _) (Nat.zero_le _) rfl rfl) (by omega) (hl.at.keep (V.kp : V.Kp V.Nil W _)) hll.symm (by omega) ?_
      intro p9 c9 w9 h9 k9 at9
      rw [Nat.zero_add, List.nil_append] at h9
      rw [Nat.zero_add]
      have zk9 := k9.size
      (try simp only [V.size_alloc, V.size_drew] at zk9)
      have kk9 : V.Kp V.Nil W w9 := V.Kp.then (V.kp : V.Kp V.Nil W _) k9 (fun i hi e => by simp only [V.blk?, Option.map_some, Option.some.injEq, V.size_alloc, V.size_drew] at e; omega)
      have n9 : New W.heap.size p9 := fun b hb => by
        rcases at9 b hb with e | e
        · simp only [V.blk?, Option.map_some, Option.some.injEq, V.size_alloc, V.size_drew] at e; omega
        · (try simp only [V.size_alloc, V.size_drew] at e)
          omega
      have hT9 := V.Kp.blk kk9 hT (fun e => e)
      have hX9 := V.Kp.blk kk9 hX (fun e => e)
      (try simp only [V.nptr_eq, V.vBool_mk, V.vInt_mk, V.vStr_mk, V.vPtr_mk, V.vMap_mk, V.vSlice_mk, V.bnot_eq, V.nilCk_mk, V.aadd_mk, V.size_alloc, V.size_drew, V.size_setCell, V.nmul_eq, V.inat_nat, V.inat_lit, Nat.mul_one, Nat.reduceMul, Nat.reduceAdd, V.and_assoc', V.true_and', V.ifB_t, V.ifB_f, V.isNil_some, V.isNil_none, Bool.not_true, Bool.not_false, Nat.zero_add, Nat.add_zero])
      repeat (first | with_reducible refine V.lI ?_ | with_reducible refine V.lS ?_ | with_reducible refine V.lP ?_ | with_reducible refine V.lL ?_ | with_reducible refine V.lM ?_ | with_reducible refine V.lB ?_ | with_reducible refine V.sC ?_ | with_reducible refine V.lG ?_ | ((with_reducible refine And.intro ?_ ?_); (· first | with_reducible exact V.hC | with_reducible exact V.hB | (simp only [V.inX, V.inR, V.inz, V.ige0, V.zi]; omega))) | simp only [V.nptr_eq, V.vBool_mk, V.vInt_mk, V.vStr_mk, V.vPtr_mk, V.vMap_mk, V.vSlice_mk, V.bnot_eq, V.nilCk_mk, V.aadd_mk, V.size_alloc, V.size_drew, V.size_setCell, V.nmul_eq, V.inat_nat, V.inat_lit, Nat.mul_one, Nat.reduceMul, Nat.reduceAdd, V.and_assoc', V.true_and', V.ifB_t, V.ifB_f, V.isNil_some, V.isNil_none, Bool.not_true, Bool.not_false, Nat.zero_add, Nat.add_zero])
      have hS9 := V.Kp.blk k9 hS (fun e => by simp only [V.blk?, Option.map_some, Option.some.injEq, V.size_alloc, V.size_drew] at e; omega)
      refine app_strs (h9.keep (V.kp : V.Kp V.Nil w9 _)) (by omega) (strAt_one V.blk) rfl (by simp) ?_
      intro p10 c10 w10 h10 k10 at10
      have kk10 : V.Kp V.Nil W w10 := V.Kp.then (V.kp : V.Kp V.Nil W _) k10 (fun i hi e => by have := n9 i e; omega)
      have hT10 := V.Kp.blk kk10 hT (fun e => e)
      (try simp only [V.nptr_eq, V.vBool_mk, V.vInt_mk, V.vStr_mk, V.vPtr_mk, V.vMap_mk, V.vSlice_mk, V.bnot_eq, V.nilCk_mk, V.aadd_mk, V.size_alloc, V.size_drew, V.size_setCell, V.nmul_eq, V.inat_nat, V.inat_lit, Nat.mul_one, Nat.reduceMul, Nat.reduceAdd, V.and_assoc', V.true_and', V.ifB_t, V.ifB_f, V.isNil_some, V.isNil_none, Bool.not_true, Bool.not_false, Nat.zero_add, Nat.add_zero])
      repeat (first | with_reducible refine V.lI ?_ | with_reducible refine V.lS ?_ | with_reducible refine V.lP ?_ | with_reducible refine V.lL ?_ | with_reducible refine V.lM ?_ | with_reducible refine V.lB ?_ | with_reducible refine V.sC ?_ | with_reducible refine V.lG ?_ | ((with_reducible refine And.intro ?_ ?_); (· first | with_reducible exact V.hC | with_reducible exact V.hB | (simp only [V.inX, V.inR, V.inz, V.ige0, V.zi]; omega))) | simp only [V.nptr_eq, V.vBool_mk, V.vInt_mk, V.vStr_mk, V.vPtr_mk, V.vMap_mk, V.vSlice_mk, V.bnot_eq, V.nilCk_mk, V.aadd_mk, V.size_alloc, V.size_drew, V.size_setCell, V.nmul_eq, V.inat_nat, V.inat_lit, Nat.mul_one, Nat.reduceMul, Nat.reduceAdd, V.and_assoc', V.true_and', V.ifB_t, V.ifB_f, V.isNil_some, V.isNil_none, Bool.not_true, Bool.not_false, Nat.zero_add, Nat.add_zero])
      refine mroot_spec (xs.length + 1) (Mk.leaves xs ++ [Mk.leaf leaf]) (by rw [List.length_append, hll]; rfl) (by omega) (fun y hy => by
        rcases List.mem_append.1 hy with h | h
        · exact hl32 y h
        · have : y = Mk.leaf leaf := by simpa using h
          rw [this]; omega) _ _ _ _ h10.length h10.le h10.at _ ?_
      intro w11 k11
      (try simp only [V.nptr_eq, V.vBool_mk, V.vInt_mk, V.vStr_mk, V.vPtr_mk, V.vMap_mk, V.vSlice_mk, V.bnot_eq, V.nilCk_mk, V.aadd_mk, V.size_alloc, V.size_drew, V.size_setCell, V.nmul_eq, V.inat_nat, V.inat_lit, Nat.mul_one, Nat.reduceMul, Nat.reduceAdd, V.and_assoc', V.true_and', V.ifB_t, V.ifB_f, V.isNil_some, V.isNil_none, Bool.not_true, Bool.not_false, Nat.zero_add, Nat.add_zero])
      rw [V.seq_eq, decide_eq_true hfin2]
      exact hc w11 (V.Kp.trans kW (V.Kp.trans kk10 k11))
    repeat (first | with_reducible refine V.lI ?_ | with_reducible refine V.lS ?_ | with_reducible refine V.lP ?_ | with_reducible refine V.lL ?_ | with_reducible refine V.lM ?_ | with_reducible refine V.lB ?_ | with_reducible refine V.sC ?_ | with_reducible refine V.lG ?_ | ((with_reducible refine And.intro ?_ ?_); (· first | with_reducible exact V.hC | with_reducible exact V.hB | (simp only [V.inX, V.inR, V.inz, V.ige0, V.zi]; omega))) | simp only [V.nptr_eq, V.vBool_mk, V.vInt_mk, V.vStr_mk, V.vPtr_mk, V.vMap_mk, V.vSlice_mk, V.bnot_eq, V.nilCk_mk, V.aadd_mk, V.size_alloc, V.size_drew, V.size_setCell, V.nmul_eq, V.inat_nat, V.inat_lit, Nat.mul_one, Nat.reduceMul, Nat.reduceAdd, V.and_assoc', V.true_and', V.ifB_t, V.ifB_f, V.isNil_some, V.isNil_none, Bool.not_true, Bool.not_false, Nat.zero_add, Nat.add_zero])
    refine root_spec L hLl hL2 _ q _ _ _ hL.length hL.le (hL.at.keep (V.kp : V.Kp V.Nil W _)) _ ?_
    intro w8 k8
    have kk8 : V.Kp V.Nil W w8 := V.Kp.trans (V.kp : V.Kp V.Nil W _) k8
    have hT8 := V.Kp.blk kk8 hT (fun e => e)
    have hX8 := V.Kp.blk kk8 hX (fun e => e)
    have hg8 := V.Kp.blk kk8 hg (fun e => e)
    have zk8 := k8.size
    have zz8 := kk8.size
    (try simp only [V.size_alloc, V.size_drew] at zk8)
    (try simp only [V.nptr_eq, V.vBool_mk, V.vInt_mk, V.vStr_mk, V.vPtr_mk, V.vMap_mk, V.vSlice_mk, V.bnot_eq, V.nilCk_mk, V.aadd_mk, V.size_alloc, V.size_drew, V.size_setCell, V.nmul_eq, V.inat_nat, V.inat_lit, Nat.mul_one, Nat.reduceMul, Nat.reduceAdd, V.and_assoc', V.true_and', V.ifB_t, V.ifB_f, V.isNil_some, V.isNil_none, Bool.not_true, Bool.not_false, Nat.zero_add, Nat.add_zero])
    repeat (first | with_reducible refine V.lI ?_ | with_reducible refine V.lS ?_ | with_reducible refine V.lP ?_ | with_reducible refine V.lL ?_ | with_reducible refine V.lM ?_ | with_reducible refine V.lB ?_ | with_reducible refine V.sC ?_ | with_reducible refine V.lG ?_ | ((with_reducible refine And.intro ?_ ?_); (· first | with_reducible exact V.hC | with_reducible exact V.hB | (simp only [V.inX, V.inR, V.inz, V.ige0, V.zi]; omega))) | simp only [V.nptr_eq, V.vBool_mk, V.vInt_mk, V.vStr_mk, V.vPtr_mk, V.vMap_mk, V.vSlice_mk, V.bnot_eq, V.nilCk_mk, V.aadd_mk, V.size_alloc, V.size_drew, V.size_setCell, V.nmul_eq, V.inat_nat, V.inat_lit, Nat.mul_one, Nat.reduceMul, Nat.reduceAdd, V.and_assoc', V.true_and', V.ifB_t, V.ifB_f, V.isNil_some, V.isNil_none, Bool.not_true, Bool.not_false, Nat.zero_add, Nat.add_zero])
    have hE : V.Blk w8 (W.heap.size + 1) #[] 9 := V.Kp.blk k8 V.blk (fun e => e)
    have hS : V.Blk w8 W.heap.size #[.string (Mk.leaf leaf)] 9 := V.Kp.blk k8 V.blk (fun e => e)
    refine app_strs (xs := []) (V.Row.of (cur := #[]) V.blk (Nat.le_refl _) (Nat.zero_le _) rfl rfl) (by omega) (hl.at.keep (V.kp : V.Kp V.Nil W _)) hll.symm (by omega) ?_
    intro p9 c9 w9 h9 k9 at9
    rw [Nat.zero_add, List.nil_append] at h9
    rw [Nat.zero_add]
    have zk9 := k9.size
    (try simp only [V.size_alloc, V.size_drew] at zk9)
    have kk9 : V.Kp V.Nil W w9 := V.Kp.then (V.kp : V.Kp V.Nil W _) k9 (fun i hi e => by simp only [V.blk?, Option.map_some, Option.some.injEq, V.size_alloc, V.size_drew] at e; omega)
    have n9 : New W.heap.size p9 := fun b hb => by
      rcases at9 b hb with e | e
      · simp only [V.blk?, Option.map_some, Option.some.injEq, V.size_alloc, V.size_drew] at e; omega
      · (try simp only [V.size_alloc, V.size_drew] at e)
        omega
    have hT9 := V.Kp.blk kk9 hT (fun e => e)
    have hX9 := V.Kp.blk kk9 hX (fun e => e)
    (try simp only [V.nptr_eq, V.vBool_mk, V.vInt_mk, V.vStr_mk, V.vPtr_mk, V.vMap_mk, V.vSlice_mk, V.bnot_eq, V.nilCk_mk, V.aadd_mk, V.size_alloc, V.size_drew, V.size_setCell, V.nmul_eq, V.inat_nat, V.inat_lit, Nat.mul_one, Nat.reduceMul, Nat.reduceAdd, V.and_assoc', V.true_and', V.ifB_t, V.ifB_f, V.isNil_some, V.isNil_none, Bool.not_true, Bool.not_false, Nat.zero_add, Nat.add_zero])
    repeat (first | with_reducible refine V.lI ?_ | with_reducible refine V.lS ?_ | with_reducible refine V.lP ?_ | with_reducible refine V.lL ?_ | with_reducible refine V.lM ?_ | with_reducible refine V.lB ?_ | with_reducible refine V.sC ?_ | with_reducible refine V.lG ?_ | ((with_reducible refine And.intro ?_ ?_); (· first | with_reducible exact V.hC | with_reducible exact V.hB | (simp only [V.inX, V.inR, V.inz, V.ige0, V.zi]; omega))) | simp only [V.nptr_eq, V.vBool_mk, V.vInt_mk, V.vStr_mk, V.vPtr_mk, V.vMap_mk, V.vSlice_mk, V.bnot_eq, V.nilCk_mk, V.aadd_mk, V.size_alloc, V.size_drew, V.size_setCell, V.nmul_eq, V.inat_nat, V.inat_lit, Nat.mul_one, Nat.reduceMul, Nat.reduceAdd, V.and_assoc', V.true_and', V.ifB_t, V.ifB_f, V.isNil_some, V.isNil_none, Bool.not_true, Bool.not_false, Nat.zero_add, Nat.add_zero])
    have hS9 := V.Kp.blk k9 hS (fun e => by simp only [V.blk?, Option.map_some, Option.some.injEq, V.size_alloc, V.size_drew] at e; omega)
    refine app_strs (h9.keep (V.kp : V.Kp V.Nil w9 _)) (by omega) (strAt_one V.blk) rfl (by simp) ?_
    intro p10 c10 w10 h10 k10 at10
    have kk10 : V.Kp V.Nil W w10 := V.Kp.then (V.kp : V.Kp V.Nil W _) k10 (fun i hi e => by have := n9 i e; omega)
    have hT10 := V.Kp.blk kk10 hT (fun e => e)
    (try simp only [V.nptr_eq, V.vBool_mk, V.vInt_mk, V.vStr_mk, V.vPtr_mk, V.vMap_mk, V.vSlice_mk, V.bnot_eq, V.nilCk_mk, V.aadd_mk, V.size_alloc, V.size_drew, V.size_setCell, V.nmul_eq, V.inat_nat, V.inat_lit, Nat.mul_one, Nat.reduceMul, Nat.reduceAdd, V.and_assoc', V.true_and', V.ifB_t, V.ifB_f, V.isNil_some, V.isNil_none, Bool.not_true, Bool.not_false, Nat.zero_add, Nat.add_zero])
    repeat (first | with_reducible refine V.lI ?_ | with_reducible refine V.lS ?_ | with_reducible refine V.lP ?_ | with_reducible refine V.lL ?_ | with_reducible refine V.lM ?_ | with_reducible refine V.lB ?_ | with_reducible refine V.sC ?_ | with_reducible refine V.lG ?_ | ((with_reducible refine And.intro ?_ ?_); (· first | with_reducible exact V.hC | with_reducible exact V.hB | (simp only [V.inX, V.inR, V.inz, V.ige0, V.zi]; omega))) | simp only [V.nptr_eq, V.vBool_mk, V.vInt_mk, V.vStr_mk, V.vPtr_mk, V.vMap_mk, V.vSlice_mk, V.bnot_eq, V.nilCk_mk, V.aadd_mk, V.size_alloc, V.size_drew, V.size_setCell, V.nmul_eq, V.inat_nat, V.inat_lit, Nat.mul_one, Nat.reduceMul, Nat.reduceAdd, V.and_assoc', V.true_and', V.ifB_t, V.ifB_f, V.isNil_some, V.isNil_none, Bool.not_true, Bool.not_false, Nat.zero_add, Nat.add_zero])
    refine mroot_spec (xs.length + 1) (Mk.leaves xs ++ [Mk.leaf leaf]) (by rw [List.length_append, hll]; rfl) (by omega) (fun y hy => by
      rcases List.mem_append.1 hy with h | h
      · exact hl32 y h
      · have : y = Mk.leaf leaf := by simpa using h
        rw [this]; omega) _ _ _ _ h10.length h10.le h10.at _ ?_
    intro w11 k11
    (try simp only [V.nptr_eq, V.vBool_mk, V.vInt_mk, V.vStr_mk, V.vPtr_mk, V.vMap_mk, V.vSlice_mk, V.bnot_eq, V.nilCk_mk, V.aadd_mk, V.size_alloc, V.size_drew, V.size_setCell, V.nmul_eq, V.inat_nat, V.inat_lit, Nat.mul_one, Nat.reduceMul, Nat.reduceAdd, V.and_assoc', V.true_and', V.ifB_t, V.ifB_f, V.isNil_some, V.isNil_none, Bool.not_true, Bool.not_false, Nat.zero_add, Nat.add_zero])
    rw [V.seq_eq, decide_eq_true hfin2]
    exact hc w11 (V.Kp.trans kW (V.Kp.trans kk10 k11))
end Go.Proofs.Ytboifenkbhfnfaa
