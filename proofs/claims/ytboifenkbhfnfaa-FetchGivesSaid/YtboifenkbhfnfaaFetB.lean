/- fetch.New; awake; the law FetchGives. -/
import Derived.Test.YtboifenkbhfnfaaVLaw21
import Derived.Test.YtboifenkbhfnfaaFetA
set_option linter.all false
set_option maxRecDepth 100000
namespace Go.Proofs.Ytboifenkbhfnfaa
open Go
/-- the cells of a fetch -/
def fetC (size : Int) (root : ByteArray) (m1 m2 : Nat) (asked : Int) : Array Value := (tblC.toList ++ [Value.int .i64 size, Value.string root, Value.map (some m1), Value.map (some m2), Value.int .i64 asked]).toArray
theorem fetC_bld (size : Int) (root : ByteArray) (m1 m2 : Nat) (C : Value → Prop) : V.bldVC Try.prog 106 [(0, .agg tblC), (1, .int .i64 size), (2, .string root), (3, .map (some m1)), (4, .map (some m2))] C = C (.agg (fetC size root m1 m2 0)) := by kernel_rfl
theorem new_spec (size : Int) (root : ByteArray) (w : World) (C : Value → World → Prop)
    (hc0 : ¬ (0 ≤ size ∧ size ≤ 64 ∧ root.size = 32 ∧ (size = 0 → root = Mk.emptyRoot)) → ∀ w', V.Kp V.Nil w w' → C (.tuple #[.pointer none, .int .i64 1]) w')
    (hc1 : (0 ≤ size ∧ size ≤ 64 ∧ root.size = 32 ∧ (size = 0 → root = Mk.emptyRoot)) → ∀ b w', w.heap.size ≤ b → V.MBlk w' b #[] 0 → V.MBlk w' (b + 1) #[] 0 → V.Blk w' (b + 2) (fetC size root b (b + 1) 0) 106 → V.Kp V.Nil w w' → C (.tuple #[.pointer (some ⟨b + 2, 0, none⟩), .int .i64 0]) w') :
    V.CallsR Try.prog 27 #[.agg tblC, .int .i64 size, .string root] w C := by
  refine V.calls_of_fnVC (args := [_, _, _]) Try.func27 ?_
  rw [vc_fetch_New]
  have ts := tbl_size
  refine V.ifB_of (fun hq => ?_) (fun hq => ?_) <;> simp only [V.ilt_t, V.ilt_f, V.ile_t, V.ile_f, V.igt_t, V.igt_f, V.ige_t, V.ige_f, V.ieq_t, V.ieq_f, V.ine_t, V.ine_f, V.isNil_t, V.isNil_f, V.bnot_eq, Bool.not_eq_true', Bool.not_eq_false', V.seq_t, V.seq_f] at hq
  · exact hc0 (by omega) _ V.kp
  refine V.ifB_of (fun hq => ?_) (fun hq => ?_) <;> simp only [V.ilt_t, V.ilt_f, V.ile_t, V.ile_f, V.igt_t, V.igt_f, V.ige_t, V.ige_f, V.ieq_t, V.ieq_f, V.ine_t, V.ine_f, V.isNil_t, V.isNil_f, V.bnot_eq, Bool.not_eq_true', Bool.not_eq_false', V.seq_t, V.seq_f] at hq
  · exact hc0 (by omega) _ V.kp
  refine V.ifB_of (fun hq => ?_) (fun hq => ?_) <;> simp only [V.ilt_t, V.ilt_f, V.ile_t, V.ile_f, V.igt_t, V.igt_f, V.ige_t, V.ige_f, V.ieq_t, V.ieq_f, V.ine_t, V.ine_f, V.isNil_t, V.isNil_f, V.bnot_eq, Bool.not_eq_true', Bool.not_eq_false', V.seq_t, V.seq_f, V.zi, V.ssize] at hq
  · exact hc0 (by omega) _ V.kp
  refine V.ifB_of (fun hq0 => ?_) (fun hq0 => ?_) <;> simp only [V.ilt_t, V.ilt_f, V.ile_t, V.ile_f, V.igt_t, V.igt_f, V.ige_t, V.ige_f, V.ieq_t, V.ieq_f, V.ine_t, V.ine_f, V.isNil_t, V.isNil_f, V.bnot_eq, Bool.not_eq_true', Bool.not_eq_false', V.seq_t, V.seq_f] at hq0
  · simp only [V.nptr_eq, V.vBool_mk, V.vInt_mk, V.vStr_mk, V.vPtr_mk, V.vMap_mk, V.vSlice_mk, V.bnot_eq, V.nilCk_mk, V.aadd_mk, V.size_alloc, V.size_drew, V.size_setCell, V.nmul_eq, V.inat_nat, V.inat_lit, Nat.mul_one, Nat.reduceMul, Nat.reduceAdd, V.and_assoc', V.true_and', V.ifB_t, V.ifB_f, V.isNil_some, V.isNil_none, Bool.not_true, Bool.not_false, Nat.zero_add, Nat.add_zero]
    refine V.lG ?_
    refine mroot_spec 0 [] rfl (by omega) (by simp) none 0 0 _ rfl (Nat.le_refl _) (StrAt.nil _ _) _ ?_
    intro w1 k1
    rw [Mk.root_nil]
    have b1 : V.Blk w1 w.heap.size tblC 29 := V.Kp.blk k1 V.blk (fun e => e)
    have k : V.Kp V.Nil w w1 := V.Kp.trans V.kp k1
    have z1 := k.size
    (try simp only [V.nptr_eq, V.vBool_mk, V.vInt_mk, V.vStr_mk, V.vPtr_mk, V.vMap_mk, V.vSlice_mk, V.bnot_eq, V.nilCk_mk, V.aadd_mk, V.size_alloc, V.size_drew, V.size_setCell, V.nmul_eq, V.inat_nat, V.inat_lit, Nat.mul_one, Nat.reduceMul, Nat.reduceAdd, V.and_assoc', V.true_and', V.ifB_t, V.ifB_f, V.isNil_some, V.isNil_none, Bool.not_true, Bool.not_false, Nat.zero_add, Nat.add_zero])
    refine V.ifB_of (fun hq2 => ?_) (fun hq2 => ?_) <;> simp only [Bool.not_eq_true', Bool.not_eq_false', V.seq_t, V.seq_f] at hq2
    · exact hc0 (fun h => hq2 (h.2.2.2 hq0)) w1 k
    · refine V.lG ?_ b1
      rw [fetC_bld]
      refine hc1 ⟨by omega, by omega, by omega, fun _ => hq2⟩ w1.heap.size _ z1 ?_ ?_ (V.Blk.new' (by simp only [V.size_alloc])) (V.Kp.alloc (V.Kp.alloc (V.Kp.alloc k _) _) _)
      · exact ((V.MBlk.new w1 #[] 0).alloc _).alloc _
      · have := (V.MBlk.new (w1.alloc (.map #[] 0)) #[] 0).alloc (.cells (fetC size root w1.heap.size (w1.heap.size + 1) 0) 106)
        rw [V.size_alloc] at this
        exact this
  · simp only [V.nptr_eq, V.vBool_mk, V.vInt_mk, V.vStr_mk, V.vPtr_mk, V.vMap_mk, V.vSlice_mk, V.bnot_eq, V.nilCk_mk, V.aadd_mk, V.size_alloc, V.size_drew, V.size_setCell, V.nmul_eq, V.inat_nat, V.inat_lit, Nat.mul_one, Nat.reduceMul, Nat.reduceAdd, V.and_assoc', V.true_and', V.ifB_t, V.ifB_f, V.isNil_some, V.isNil_none, Bool.not_true, Bool.not_false, Nat.zero_add, Nat.add_zero]
    refine V.lG ?_
    rw [fetC_bld]
    have k : V.Kp V.Nil w (w.alloc (.cells tblC 29)) := V.kp
    obtain ⟨w1, hw1⟩ : ∃ w1, w1 = w.alloc (.cells tblC 29) := ⟨_, rfl⟩
    have hz : w.heap.size + 1 = w1.heap.size := by rw [hw1, V.size_alloc]
    rw [← hw1]
    rw [← hw1] at k
    rw [hz]
    have z1 : w.heap.size ≤ w1.heap.size := by omega
    refine hc1 ⟨by omega, by omega, by omega, fun h => absurd h hq0⟩ w1.heap.size _ z1 ?_ ?_ (V.Blk.new' (by simp only [V.size_alloc])) (V.Kp.alloc (V.Kp.alloc (V.Kp.alloc k _) _) _)
    · exact ((V.MBlk.new w1 #[] 0).alloc _).alloc _
    · have := (V.MBlk.new (w1.alloc (.map #[] 0)) #[] 0).alloc (.cells (fetC size root w1.heap.size (w1.heap.size + 1) 0) 106)
      rw [V.size_alloc] at this
      exact this
theorem awake21_spec (w : World) (C : Value → World → Prop) (hc : ∀ w', V.Kp V.Nil w w' → C (.bool true) w') :
    V.CallsR Try.prog 18 #[] w C := by
  refine V.calls_of_fnVC (args := []) Try.func18 ?_
  rw [vc_annalistlaw21_awake]
  have ts := tbl_size
  refine make_spec _ _ ?_
  intro w1 k1
  rw [V.vArr_mk ts]
  refine new_spec (-1) _ w1 _ ?_ (fun h => absurd h.1 (by omega))
  intro _ w2 k2
  refine ⟨_, _, rfl, ?_⟩
  refine make_spec _ _ ?_
  intro w3 k3
  rw [V.vArr_mk ts]
  refine refH_spec _ (by decide) _ _ ?_
  intro w4 k4
  (try simp only [V.nptr_eq, V.vBool_mk, V.vInt_mk, V.vStr_mk, V.vPtr_mk, V.vMap_mk, V.vSlice_mk, V.bnot_eq, V.nilCk_mk, V.aadd_mk, V.size_alloc, V.size_drew, V.size_setCell, V.nmul_eq, V.inat_nat, V.inat_lit, Nat.mul_one, Nat.reduceMul, Nat.reduceAdd, V.and_assoc', V.true_and', V.ifB_t, V.ifB_f, V.isNil_some, V.isNil_none, Bool.not_true, Bool.not_false, Nat.zero_add, Nat.add_zero])
  refine new_spec 1 _ w4 _ (fun h => absurd ⟨by omega, by omega, Sha.sum_size _, fun h => by omega⟩ h) ?_
  intro _ b w5 _ _ _ _ k5
  refine ⟨_, _, rfl, ?_⟩
  exact hc w5 (V.Kp.trans (V.Kp.trans (V.Kp.trans (V.Kp.trans k1 k2) k3) k4) k5)
theorem giveL_le (xs : List ByteArray) (b : Bool) (lv ix : Int) (h : xs.length ≤ 64) : (giveL xs b lv ix).length ≤ 4 := by
  unfold giveL
  split
  · rw [List.length_take]; have := Tl.wd_le xs.length lv ix; omega
  · unfold cutL
    rw [List.length_take]; have := Tl.wd_le (Mk.leaves xs).length lv ix; omega
set_option maxHeartbeats 1000000 in
theorem gives_spec (p : Option Addr) (c : Nat) (xs : List ByteArray) (hn2 : xs.length ≤ 9223372036854775807) (hnc : xs.length ≤ c) (size : Int) (b : Bool) (lv ix : Int) (w : World) (hs : StrAt w p xs) (C : Value → World → Prop) (hc : ∀ w', V.Kp V.Nil w w' → C (.bool true) w') :
    V.CallsR Try.prog 4 #[.slice p xs.length c, .int .i64 size, .agg #[.bool b, .int .i64 lv, .int .i64 ix]] w C := by
  refine V.calls_of_fnVC (args := [_, _, _]) Try.func4 ?_
  rw [vc_annalistlaw21_FetchGives]
  have ts := tbl_size
  refine awake21_spec _ _ ?_
  intro w1 k1'
  have b1 : V.Blk w1 w.heap.size #[.bool b, .int .i64 lv, .int .i64 ix] 42 := V.Kp.blk k1' V.blk (fun e => e)
  have k1 : V.Kp V.Nil w w1 := V.Kp.trans V.kp k1'
  clear k1'
  simp only [V.nptr_eq, V.vBool_mk, V.vInt_mk, V.vStr_mk, V.vPtr_mk, V.vMap_mk, V.vSlice_mk, V.bnot_eq, V.nilCk_mk, V.aadd_mk, V.size_alloc, V.size_drew, V.size_setCell, V.nmul_eq, V.inat_nat, V.inat_lit, Nat.mul_one, Nat.reduceMul, Nat.reduceAdd, V.and_assoc', V.true_and', V.ifB_t, V.ifB_f, V.isNil_some, V.isNil_none, Bool.not_true, Bool.not_false, Nat.zero_add, Nat.add_zero]
  refine few_spec p xs.length c xs rfl hn2 70 40 (by omega) w1 (hs.keep k1) _ ?_
  (try simp only [V.nptr_eq, V.vBool_mk, V.vInt_mk, V.vStr_mk, V.vPtr_mk, V.vMap_mk, V.vSlice_mk, V.bnot_eq, V.nilCk_mk, V.aadd_mk, V.size_alloc, V.size_drew, V.size_setCell, V.nmul_eq, V.inat_nat, V.inat_lit, Nat.mul_one, Nat.reduceMul, Nat.reduceAdd, V.and_assoc', V.true_and', V.ifB_t, V.ifB_f, V.isNil_some, V.isNil_none, Bool.not_true, Bool.not_false, Nat.zero_add, Nat.add_zero])
  refine V.ifB_of (fun hq => ?_) (fun hq => ?_) <;> simp only [V.bnot_eq, Bool.not_eq_true', Bool.not_eq_false', decide_eq_true_eq, decide_eq_false_iff_not] at hq
  · refine awake21_spec _ _ ?_
    intro w2 k2
    (try simp only [V.nptr_eq, V.vBool_mk, V.vInt_mk, V.vStr_mk, V.vPtr_mk, V.vMap_mk, V.vSlice_mk, V.bnot_eq, V.nilCk_mk, V.aadd_mk, V.size_alloc, V.size_drew, V.size_setCell, V.nmul_eq, V.inat_nat, V.inat_lit, Nat.mul_one, Nat.reduceMul, Nat.reduceAdd, V.and_assoc', V.true_and', V.ifB_t, V.ifB_f, V.isNil_some, V.isNil_none, Bool.not_true, Bool.not_false, Nat.zero_add, Nat.add_zero])
    exact hc w2 (V.Kp.trans k1 k2)
  obtain ⟨hlen, hB⟩ := hq
  repeat (first | with_reducible refine V.lI ?_ | with_reducible refine V.lS ?_ | with_reducible refine V.lP ?_ | with_reducible refine V.lL ?_ | with_reducible refine V.lM ?_ | with_reducible refine V.lB ?_ | with_reducible refine V.sC ?_ | with_reducible refine V.lG ?_ | ((with_reducible refine And.intro ?_ ?_); (· first | with_reducible exact V.hC | with_reducible exact V.hB | (simp only [V.inX, V.inR, V.inz, V.ige0, V.zi]; omega))) | simp only [V.nptr_eq, V.vBool_mk, V.vInt_mk, V.vStr_mk, V.vPtr_mk, V.vMap_mk, V.vSlice_mk, V.bnot_eq, V.nilCk_mk, V.aadd_mk, V.size_alloc, V.size_drew, V.size_setCell, V.nmul_eq, V.inat_nat, V.inat_lit, Nat.mul_one, Nat.reduceMul, Nat.reduceAdd, V.and_assoc', V.true_and', V.ifB_t, V.ifB_f, V.isNil_some, V.isNil_none, Bool.not_true, Bool.not_false, Nat.zero_add, Nat.add_zero])
  refine make_spec _ _ ?_
  intro w2 k2
  rw [V.vArr_mk ts]
  have k2' : V.Kp V.Nil w1 w2 := V.Kp.trans (V.Kp.drew (V.Kp.refl _ _)) k2
  have b2 := V.Kp.blk k2' b1 (fun e => e)
  have kw2 := V.Kp.trans k1 k2'
  refine And.intro (V.hC b2 rfl) (And.intro (V.hC b2 rfl) (And.intro (V.hC b2 rfl) ?_))
  refine give_spec xs (by omega) (fun x hx => by have := hB x hx; omega) size b lv ix p _ c w2 rfl hnc (hs.keep kw2) _ ?_ ?_
  · intro hbad w3 k3
    have b3 := V.Kp.blk k3 b2 (fun e => e)
    have kw3 := V.Kp.trans kw2 k3
    refine ⟨_, _, _, _, rfl, ?_⟩
    refine V.ifB_of (fun hq => ?_) (fun hq => ?_) <;> simp only [V.ilt_t, V.ilt_f, V.ile_t, V.ile_f, V.igt_t, V.igt_f, V.ige_t, V.ige_f, V.ieq_t, V.ieq_f, V.ine_t, V.ine_f, V.isNil_t, V.isNil_f, V.bnot_eq, Bool.not_eq_true', Bool.not_eq_false', V.seq_t, V.seq_f, V.zi] at hq
    · exact hc w3 kw3
    refine V.ifB_of (fun hq => ?_) (fun hq => ?_) <;> simp only [V.ilt_t, V.ilt_f, V.ile_t, V.ile_f, V.igt_t, V.igt_f, V.ige_t, V.ige_f, V.ieq_t, V.ieq_f, V.ine_t, V.ine_f, V.isNil_t, V.isNil_f, V.bnot_eq, Bool.not_eq_true', Bool.not_eq_false', V.seq_t, V.seq_f, V.zi] at hq
    · exact hc w3 kw3
    refine V.ifB_of (fun hq => ?_) (fun hq => ?_) <;> simp only [V.ilt_t, V.ilt_f, V.ile_t, V.ile_f, V.igt_t, V.igt_f, V.ige_t, V.ige_f, V.ieq_t, V.ieq_f, V.ine_t, V.ine_f, V.isNil_t, V.isNil_f, V.bnot_eq, Bool.not_eq_true', Bool.not_eq_false', V.seq_t, V.seq_f, V.zi] at hq
    · exact hc w3 kw3
    obtain ⟨sz, rfl⟩ : ∃ sz : Nat, size = (sz : Int) := ⟨size.toNat, by omega⟩
    (try simp only [V.nptr_eq, V.vBool_mk, V.vInt_mk, V.vStr_mk, V.vPtr_mk, V.vMap_mk, V.vSlice_mk, V.bnot_eq, V.nilCk_mk, V.aadd_mk, V.size_alloc, V.size_drew, V.size_setCell, V.nmul_eq, V.inat_nat, V.inat_lit, Nat.mul_one, Nat.reduceMul, Nat.reduceAdd, V.and_assoc', V.true_and', V.ifB_t, V.ifB_f, V.isNil_some, V.isNil_none, Bool.not_true, Bool.not_false, Nat.zero_add, Nat.add_zero])
    refine V.lB ?_ b3 rfl
    refine V.ifB_of (fun hb => ?_) (fun hb => ?_)
    · refine V.lI ?_ b3 rfl
      refine V.ifB_of (fun hq => ?_) (fun hq => ?_) <;> simp only [V.ilt_t, V.ilt_f, V.ile_t, V.ile_f, V.igt_t, V.igt_f, V.ige_t, V.ige_f, V.ieq_t, V.ieq_f, V.ine_t, V.ine_f, V.isNil_t, V.isNil_f, V.bnot_eq, Bool.not_eq_true', Bool.not_eq_false', V.seq_t, V.seq_f, V.zi] at hq
      · exact hc w3 kw3
      have hbl : b = true → lv = 0 := fun _ => hq
      clear hq
      refine V.lI ?_ b3 rfl
      refine V.lI ?_ b3 rfl
      refine rwidth_spec sz (by omega) lv ix w3 _ ?_
      (try simp only [V.nptr_eq, V.vBool_mk, V.vInt_mk, V.vStr_mk, V.vPtr_mk, V.vMap_mk, V.vSlice_mk, V.bnot_eq, V.nilCk_mk, V.aadd_mk, V.size_alloc, V.size_drew, V.size_setCell, V.nmul_eq, V.inat_nat, V.inat_lit, Nat.mul_one, Nat.reduceMul, Nat.reduceAdd, V.and_assoc', V.true_and', V.ifB_t, V.ifB_f, V.isNil_some, V.isNil_none, Bool.not_true, Bool.not_false, Nat.zero_add, Nat.add_zero])
      refine V.ifB_of (fun hq => ?_) (fun hq => ?_) <;> simp only [V.ilt_t, V.ilt_f, V.ile_t, V.ile_f, V.igt_t, V.igt_f, V.ige_t, V.ige_f, V.ieq_t, V.ieq_f, V.ine_t, V.ine_f, V.isNil_t, V.isNil_f, V.bnot_eq, Bool.not_eq_true', Bool.not_eq_false', V.seq_t, V.seq_f] at hq
      · exact hc w3 kw3
      · exact absurd ⟨by omega, by omega, by omega, hbl, by rw [Int.toNat_natCast]; omega⟩ hbad
    · have hbl : b = true → lv = 0 := fun h => absurd h (by rw [hb]; decide)
      refine V.lI ?_ b3 rfl
      refine V.lI ?_ b3 rfl
      refine rwidth_spec sz (by omega) lv ix w3 _ ?_
      (try simp only [V.nptr_eq, V.vBool_mk, V.vInt_mk, V.vStr_mk, V.vPtr_mk, V.vMap_mk, V.vSlice_mk, V.bnot_eq, V.nilCk_mk, V.aadd_mk, V.size_alloc, V.size_drew, V.size_setCell, V.nmul_eq, V.inat_nat, V.inat_lit, Nat.mul_one, Nat.reduceMul, Nat.reduceAdd, V.and_assoc', V.true_and', V.ifB_t, V.ifB_f, V.isNil_some, V.isNil_none, Bool.not_true, Bool.not_false, Nat.zero_add, Nat.add_zero])
      refine V.ifB_of (fun hq => ?_) (fun hq => ?_) <;> simp only [V.ilt_t, V.ilt_f, V.ile_t, V.ile_f, V.igt_t, V.igt_f, V.ige_t, V.ige_f, V.ieq_t, V.ieq_f, V.ine_t, V.ine_f, V.isNil_t, V.isNil_f, V.bnot_eq, Bool.not_eq_true', Bool.not_eq_false', V.seq_t, V.seq_f] at hq
      · exact hc w3 kw3
      · exact absurd ⟨by omega, by omega, by omega, hbl, by rw [Int.toNat_natCast]; omega⟩ hbad
  · rintro ⟨g1, g2, g3, g4, g5⟩ p3 m3 c3 w3 hm hmc hst k3
    have b3 := V.Kp.blk k3 b2 (fun e => e)
    have kw3 := V.Kp.trans kw2 k3
    refine ⟨_, _, _, _, rfl, ?_⟩
    refine V.ifB_of (fun hq => ?_) (fun hq => ?_) <;> simp only [V.ilt_t, V.ilt_f, V.ile_t, V.ile_f, V.igt_t, V.igt_f, V.ige_t, V.ige_f, V.ieq_t, V.ieq_f, V.ine_t, V.ine_f, V.isNil_t, V.isNil_f, V.bnot_eq, Bool.not_eq_true', Bool.not_eq_false', V.seq_t, V.seq_f, V.zi] at hq
    · omega
    refine V.ifB_of (fun hq => ?_) (fun hq => ?_) <;> simp only [V.ilt_t, V.ilt_f, V.ile_t, V.ile_f, V.igt_t, V.igt_f, V.ige_t, V.ige_f, V.ieq_t, V.ieq_f, V.ine_t, V.ine_f, V.isNil_t, V.isNil_f, V.bnot_eq, Bool.not_eq_true', Bool.not_eq_false', V.seq_t, V.seq_f, V.zi] at hq
    · omega
    refine V.ifB_of (fun hq => ?_) (fun hq => ?_) <;> simp only [V.ilt_t, V.ilt_f, V.ile_t, V.ile_f, V.igt_t, V.igt_f, V.ige_t, V.ige_f, V.ieq_t, V.ieq_f, V.ine_t, V.ine_f, V.isNil_t, V.isNil_f, V.bnot_eq, Bool.not_eq_true', Bool.not_eq_false', V.seq_t, V.seq_f, V.zi] at hq
    · omega
    obtain ⟨sz, rfl⟩ : ∃ sz : Nat, size = (sz : Int) := ⟨size.toNat, by omega⟩
    simp only [Int.toNat_natCast] at g5 hm hst
    (try simp only [V.nptr_eq, V.vBool_mk, V.vInt_mk, V.vStr_mk, V.vPtr_mk, V.vMap_mk, V.vSlice_mk, V.bnot_eq, V.nilCk_mk, V.aadd_mk, V.size_alloc, V.size_drew, V.size_setCell, V.nmul_eq, V.inat_nat, V.inat_lit, Nat.mul_one, Nat.reduceMul, Nat.reduceAdd, V.and_assoc', V.true_and', V.ifB_t, V.ifB_f, V.isNil_some, V.isNil_none, Bool.not_true, Bool.not_false, Nat.zero_add, Nat.add_zero])
    refine V.lB ?_ b3 rfl
    refine V.ifB_of (fun hb => ?_) (fun hb => ?_)
    · refine V.lI ?_ b3 rfl
      refine V.ifB_of (fun hq => ?_) (fun hq => ?_) <;> simp only [V.ilt_t, V.ilt_f, V.ile_t, V.ile_f, V.igt_t, V.igt_f, V.ige_t, V.ige_f, V.ieq_t, V.ieq_f, V.ine_t, V.ine_f, V.isNil_t, V.isNil_f, V.bnot_eq, Bool.not_eq_true', Bool.not_eq_false', V.seq_t, V.seq_f, V.zi] at hq
      · exact absurd (g4 hb) hq
      clear hq
      refine V.lI ?_ b3 rfl
      refine V.lI ?_ b3 rfl
      refine rwidth_spec sz (by omega) lv ix w3 _ ?_
      (try simp only [V.nptr_eq, V.vBool_mk, V.vInt_mk, V.vStr_mk, V.vPtr_mk, V.vMap_mk, V.vSlice_mk, V.bnot_eq, V.nilCk_mk, V.aadd_mk, V.size_alloc, V.size_drew, V.size_setCell, V.nmul_eq, V.inat_nat, V.inat_lit, Nat.mul_one, Nat.reduceMul, Nat.reduceAdd, V.and_assoc', V.true_and', V.ifB_t, V.ifB_f, V.isNil_some, V.isNil_none, Bool.not_true, Bool.not_false, Nat.zero_add, Nat.add_zero])
      refine V.ifB_of (fun hq => ?_) (fun hq => ?_) <;> simp only [V.ilt_t, V.ilt_f, V.ile_t, V.ile_f, V.igt_t, V.igt_f, V.ige_t, V.ige_f, V.ieq_t, V.ieq_f, V.ine_t, V.ine_f, V.isNil_t, V.isNil_f, V.bnot_eq, Bool.not_eq_true', Bool.not_eq_false', V.seq_t, V.seq_f] at hq
      · exact absurd (by omega) g5
      rw [show V.ieq 0 0 = true from rfl, V.ifB_t]
      refine And.intro (by unfold V.inR; omega) ?_
      refine V.lB ?_ b3.drew rfl
      refine V.lI ?_ b3.drew rfl
      refine V.lI ?_ b3.drew rfl
      have hlx : (xs.take sz).length = sz := by rw [List.length_take]; omega
      rw [show V.nsub sz 0 = sz from rfl, slAdr_z]
      refine rgive_spec (xs.take sz) (by omega) (fun x hx => by have := hB x (List.mem_of_mem_take hx); omega) b lv ix g4 (by rw [hlx]; exact g5) p sz _ _ hlx.symm (by unfold V.nsub; omega) (((hs.keep kw3).take sz).keep (V.Kp.drew (V.Kp.refl _ _))) _ ?_
      intro p5 m5 c5 w5 hm5 hmc5 hst5 k5
      rw [V.vSlice_mk]
      refine same21_spec _ _ _ _ _ _ _ _ w5 hm hm5 (by have := giveL_le (xs.take sz) b lv ix (by omega); omega) (hst.keep (V.Kp.trans (V.Kp.drew (V.Kp.refl _ _)) k5)) hst5 _ ?_
      intro w6 k6
      rw [V.vBool_mk, decide_eq_true rfl]
      exact hc w6 (V.Kp.trans (V.Kp.trans kw3.drew k5) k6)
    · refine V.lI ?_ b3 rfl
      refine V.lI ?_ b3 rfl
      refine rwidth_spec sz (by omega) lv ix w3 _ ?_
      (try simp only [V.nptr_eq, V.vBool_mk, V.vInt_mk, V.vStr_mk, V.vPtr_mk, V.vMap_mk, V.vSlice_mk, V.bnot_eq, V.nilCk_mk, V.aadd_mk, V.size_alloc, V.size_drew, V.size_setCell, V.nmul_eq, V.inat_nat, V.inat_lit, Nat.mul_one, Nat.reduceMul, Nat.reduceAdd, V.and_assoc', V.true_and', V.ifB_t, V.ifB_f, V.isNil_some, V.isNil_none, Bool.not_true, Bool.not_false, Nat.zero_add, Nat.add_zero])
      refine V.ifB_of (fun hq => ?_) (fun hq => ?_) <;> simp only [V.ilt_t, V.ilt_f, V.ile_t, V.ile_f, V.igt_t, V.igt_f, V.ige_t, V.ige_f, V.ieq_t, V.ieq_f, V.ine_t, V.ine_f, V.isNil_t, V.isNil_f, V.bnot_eq, Bool.not_eq_true', Bool.not_eq_false', V.seq_t, V.seq_f] at hq
      · exact absurd (by omega) g5
      rw [show V.ieq 0 0 = true from rfl, V.ifB_t]
      refine And.intro (by unfold V.inR; omega) ?_
      refine V.lB ?_ b3.drew rfl
      refine V.lI ?_ b3.drew rfl
      refine V.lI ?_ b3.drew rfl
      have hlx : (xs.take sz).length = sz := by rw [List.length_take]; omega
      rw [show V.nsub sz 0 = sz from rfl, slAdr_z]
      refine rgive_spec (xs.take sz) (by omega) (fun x hx => by have := hB x (List.mem_of_mem_take hx); omega) b lv ix g4 (by rw [hlx]; exact g5) p sz _ _ hlx.symm (by unfold V.nsub; omega) (((hs.keep kw3).take sz).keep (V.Kp.drew (V.Kp.refl _ _))) _ ?_
      intro p5 m5 c5 w5 hm5 hmc5 hst5 k5
      rw [V.vSlice_mk]
      refine same21_spec _ _ _ _ _ _ _ _ w5 hm hm5 (by have := giveL_le (xs.take sz) b lv ix (by omega); omega) (hst.keep (V.Kp.trans (V.Kp.drew (V.Kp.refl _ _)) k5)) hst5 _ ?_
      intro w6 k6
      rw [V.vBool_mk, decide_eq_true rfl]
      exact hc w6 (V.Kp.trans (V.Kp.trans kw3.drew k5) k6)
end Go.Proofs.Ytboifenkbhfnfaa
