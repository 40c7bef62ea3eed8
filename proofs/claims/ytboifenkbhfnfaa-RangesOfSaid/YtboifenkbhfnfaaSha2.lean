/- sha: contracts: schedule. -/
import Derived.Test.YtboifenkbhfnfaaSha1
set_option linter.all false
set_option maxRecDepth 100000
namespace Go.Proofs.Ytboifenkbhfnfaa
open Go
/-- cells of words -/
def u32C (l : List Sha.W) : Array Value := (l.map fun x => Value.int .u32 (V.bI x)).toArray
theorem u32C_size (l : List Sha.W) : (u32C l).size = l.length := by simp [u32C]
theorem u32C_set (l : List Sha.W) (i : Nat) (x : Sha.W) : (u32C l).setIfInBounds i (.int .u32 (V.bI x)) = u32C (l.set i x) := by
  unfold u32C
  apply Array.ext'
  simp [List.map_set]
theorem u32C_get {l : List Sha.W} {i : Nat} (h : i < l.length) : (u32C l)[i]? = some (.int .u32 (V.bI (Sha.g l i))) := by
  unfold u32C Sha.g
  simp [h]
theorem u32C_one (l : List Sha.W) : ∀ v ∈ (u32C l).toList, v.oneCell' = true := by
  intro v hv
  simp only [u32C, List.mem_map] at hv
  obtain ⟨x, _, rfl⟩ := hv; rfl
theorem zero_64 : V.zcells Try.prog 26 = u32C (List.replicate 64 0) := by kernel_rfl
theorem word_or (a b c d : Nat) (ha : a < 256) (hb : b < 256) (hc : c < 256) (hd : d < 256) :
    ((BitVec.ofNat 32 a <<< 24 ||| BitVec.ofNat 32 b <<< 16) ||| BitVec.ofNat 32 c <<< 8) ||| BitVec.ofNat 32 d = BitVec.ofNat 32 (a * 16777216 + b * 65536 + c * 256 + d) := by
  apply BitVec.eq_of_toNat_eq
  have m : ∀ x k : Nat, x * 2 ^ k < 2 ^ 32 → x < 2 ^ 32 → (BitVec.ofNat 32 x <<< k).toNat = 2 ^ k * x := fun x k h h' => by
    rw [BitVec.toNat_shiftLeft, BitVec.toNat_ofNat, Nat.shiftLeft_eq, Nat.mod_eq_of_lt h', Nat.mod_eq_of_lt h, Nat.mul_comm]
  simp only [BitVec.toNat_or]
  rw [m a 24 (by omega) (by omega), m b 16 (by omega) (by omega), m c 8 (by omega) (by omega), BitVec.toNat_ofNat, BitVec.toNat_ofNat, Nat.mod_eq_of_lt (show d < 2 ^ 32 by omega), Nat.mod_eq_of_lt (show a * 16777216 + b * 65536 + c * 256 + d < 2 ^ 32 by omega)]
  rw [← Nat.two_pow_add_eq_or_of_lt (show 2 ^ 16 * b < 2 ^ 24 by omega)]
  rw [show 2 ^ 24 * a + 2 ^ 16 * b = 2 ^ 16 * (256 * a + b) by omega, ← Nat.two_pow_add_eq_or_of_lt (show 2 ^ 8 * c < 2 ^ 16 by omega)]
  rw [show 2 ^ 16 * (256 * a + b) + 2 ^ 8 * c = 2 ^ 8 * (256 * (256 * a + b) + c) by omega, ← Nat.two_pow_add_eq_or_of_lt (show d < 2 ^ 8 by omega)]
  omega
theorem sbyte_eq (b : ByteArray) (i : Nat) : V.iconv .u32 (V.sbyte b (i : Int)) = V.bI (BitVec.ofNat 32 (b.data.toList.getD i 0).toNat) := by
  have e : V.sbyte b (i : Int) = ((b.data.toList.getD i 0).toNat : Int) := by
    unfold V.sbyte
    rw [Int.toNat_natCast]
    congr 2
    rw [List.getD_eq_getElem?_getD, Array.getElem?_toList]
    by_cases h : i < b.data.size
    · rw [getElem?_pos b i h, Array.getElem?_eq_getElem h]; rfl
    · rw [getElem?_neg b i h, Array.getElem?_eq_none (by omega)]
  rw [e]
  unfold V.iconv
  exact V.wrap32_bI _
theorem word_prog (b : ByteArray) (i : Nat) : V.ior .u32 (V.ior .u32 (V.ior .u32 (V.ishl .u32 (V.iconv .u32 (V.sbyte b (i : Int))) 24) (V.ishl .u32 (V.iconv .u32 (V.sbyte b ((i + 1 : Nat) : Int))) 16)) (V.ishl .u32 (V.iconv .u32 (V.sbyte b ((i + 2 : Nat) : Int))) 8)) (V.iconv .u32 (V.sbyte b ((i + 3 : Nat) : Int))) = V.bI (Sha.word b.data.toList i) := by
  rw [sbyte_eq, sbyte_eq, sbyte_eq, sbyte_eq, V.ishl32 _ 24 24 rfl (by omega), V.ishl32 _ 16 16 rfl (by omega), V.ishl32 _ 8 8 rfl (by omega), V.ior32, V.ior32, V.ior32, word_or _ _ _ _ (UInt8.toNat_lt _) (UInt8.toNat_lt _) (UInt8.toNat_lt _) (UInt8.toNat_lt _)]
  rfl
theorem g_take {l m : List Sha.W} {i : Nat} (h : i < l.length) : Sha.g (l ++ m) i = Sha.g l i := by
  unfold Sha.g; simp [List.getElem?_append_left h]
theorem sched_set (b : List UInt8) (k : Nat) (hk : k < 64) (x : Sha.W) (hx : x = if k < 16 then Sha.word b (4 * k) else Sha.g (Sha.sched b k) (k - 16) + Sha.g (Sha.sched b k) (k - 7) + Sha.sg0 (Sha.g (Sha.sched b k) (k - 15)) + Sha.sg1 (Sha.g (Sha.sched b k) (k - 2))) :
    (Sha.sched b k ++ List.replicate (64 - k) 0).set k x = Sha.sched b (k + 1) ++ List.replicate (64 - (k + 1)) 0 := by
  have e : 64 - k = (64 - (k + 1)) + 1 := by omega
  rw [e, List.replicate_succ, List.set_append_right _ _ (by rw [Sha.sched_len]; omega), Sha.sched_len, Nat.sub_self, List.set_cons_zero, Sha.sched, hx, List.append_assoc]
  rfl
set_option maxHeartbeats 1000000 in
theorem schedule_spec (b : ByteArray) (hb : b.size = 64) (w : World) (C : Value → World → Prop)
    (hc : ∀ w', V.Kp V.Nil w w' → C (.agg (u32C (Sha.sched b.data.toList 64))) w') :
    V.CallsR Try.prog 104 #[.string b] w C := by
  refine V.calls_of_fnVC Try.func104 ?_
  rw [vc_sha_schedule, zero_64]
  have hz : V.ssize b = 64 := hb
  rw [hz]
  refine ⟨fun i => ⟨fun w' => ∃ k : Nat, i = k ∧ k ≤ 16 ∧ V.Blk w' w.heap.size (u32C (List.replicate 64 0)) 26 ∧ V.Blk w' (w.heap.size + 1) (u32C (Sha.sched b.data.toList k ++ List.replicate (64 - k) 0)) 26 ∧ V.Kp V.Nil w w', fun _ => (64 - i.toNat)⟩, ⟨0, rfl, by omega, V.blk, ?_, V.kp⟩, ?_⟩
  · exact V.bto
  rintro _ i w1 ⟨k, rfl, hk, hb0, hb1, kp1⟩
  have hl : (Sha.sched b.data.toList k ++ List.replicate (64 - k) 0).length = 64 := by simp [Sha.sched_len]; omega
  have hlt0 := hb0.lt
  refine V.ifB_of (fun hq => ?_) (fun hq => ?_) <;> simp only [V.ilt_t, V.ilt_f, V.ile_t, V.ile_f, V.igt_t, V.igt_f, V.ige_t, V.ige_f, V.ieq_t, V.ieq_f, V.ine_t, V.ine_f, V.isNil_t, V.isNil_f, V.bnot_eq, Bool.not_eq_true', Bool.not_eq_false', V.seq_t, V.seq_f, V.zi] at hq
  · have e1 : V.imul .i64 4 (k : Int) = ((4 * k : Nat) : Int) := by rw [V.imul_i64 (by omega) (by omega)]; omega
    have e2 : V.iadd .i64 ((4 * k : Nat) : Int) 1 = ((4 * k + 1 : Nat) : Int) := by rw [V.iadd_i64 (by omega) (by omega)]; omega
    have e3 : V.iadd .i64 ((4 * k : Nat) : Int) 2 = ((4 * k + 2 : Nat) : Int) := by rw [V.iadd_i64 (by omega) (by omega)]; omega
    have e4 : V.iadd .i64 ((4 * k : Nat) : Int) 3 = ((4 * k + 3 : Nat) : Int) := by rw [V.iadd_i64 (by omega) (by omega)]; omega
    have e5 : V.iadd .i64 (k : Int) 1 = ((k + 1 : Nat) : Int) := by rw [V.iadd_i64 (by omega) (by omega)]; omega
    rw [e1, e2, e3, e4, word_prog, e5]
    repeat (first | with_reducible refine V.lI ?_ | with_reducible refine V.lS ?_ | with_reducible refine V.lP ?_ | with_reducible refine V.lL ?_ | with_reducible refine V.lM ?_ | with_reducible refine V.lB ?_ | with_reducible refine V.sC ?_ | with_reducible refine V.lG ?_ | ((with_reducible refine And.intro ?_ ?_); (· first | with_reducible exact V.hC | with_reducible exact V.hB | (simp only [V.inX, V.inR, V.inz, V.ige0, V.zi]; omega))) | simp only [V.nptr_eq, V.vBool_mk, V.vInt_mk, V.vStr_mk, V.vPtr_mk, V.vMap_mk, V.vSlice_mk, V.bnot_eq, V.nilCk_mk, V.aadd_mk, V.size_alloc, V.size_drew, V.size_setCell, V.nmul_eq, V.inat_nat, V.inat_lit, Nat.mul_one, Nat.reduceMul, Nat.reduceAdd, V.and_assoc', V.true_and', V.ifB_t, V.ifB_f, V.isNil_some, V.isNil_none, Bool.not_true, Bool.not_false, Nat.zero_add, Nat.add_zero])
    refine V.sC (cs := u32C (Sha.sched b.data.toList k ++ List.replicate (64 - k) 0)) ?_ V.blk (by rw [u32C_size, hl]; omega)
    refine ⟨⟨k + 1, rfl, by omega, V.blk, (hb1.drew.set k _).to ?_, V.kp⟩, by show 64 - ((k + 1 : Nat) : Int).toNat < 64 - (k : Int).toNat; omega⟩
    rw [u32C_set, sched_set _ _ (by omega) _ (by rw [if_pos (by omega)])]
  · obtain rfl : k = 16 := by omega
    refine ⟨fun i => ⟨fun w' => ∃ k : Nat, i = k ∧ 16 ≤ k ∧ k ≤ 64 ∧ V.Blk w' w.heap.size (u32C (List.replicate 64 0)) 26 ∧ V.Blk w' (w.heap.size + 1) (u32C (Sha.sched b.data.toList k ++ List.replicate (64 - k) 0)) 26 ∧ V.Kp V.Nil w w', fun _ => (64 - i.toNat)⟩, ⟨16, rfl, by omega, by omega, hb0, hb1, V.kp⟩, ?_⟩
    clear hb0 hb1 kp1 hl hlt0
    rintro _ i w2 ⟨k, rfl, hk1, hk2, hb0, hb1, kp1⟩
    have hl : (Sha.sched b.data.toList k ++ List.replicate (64 - k) 0).length = 64 := by simp [Sha.sched_len]; omega
    have hlt0 := hb0.lt
    refine V.ifB_of (fun hq => ?_) (fun hq => ?_) <;> simp only [V.ilt_t, V.ilt_f, V.ile_t, V.ile_f, V.igt_t, V.igt_f, V.ige_t, V.ige_f, V.ieq_t, V.ieq_f, V.ine_t, V.ine_f, V.isNil_t, V.isNil_f, V.bnot_eq, Bool.not_eq_true', Bool.not_eq_false', V.seq_t, V.seq_f, V.zi] at hq
    · have gk : ∀ j, j < k → (u32C (Sha.sched b.data.toList k ++ List.replicate (64 - k) 0))[j]? = some (.int .u32 (V.bI (Sha.g (Sha.sched b.data.toList k) j))) := fun j hj => by
        rw [u32C_get (by omega), g_take (by rw [Sha.sched_len]; exact hj)]
      have s15 : V.isub .i64 (k : Int) 15 = ((k - 15 : Nat) : Int) := by rw [V.isub_i64 (by omega) (by omega)]; omega
      have s2 : V.isub .i64 (k : Int) 2 = ((k - 2 : Nat) : Int) := by rw [V.isub_i64 (by omega) (by omega)]; omega
      have s16 : V.isub .i64 (k : Int) 16 = ((k - 16 : Nat) : Int) := by rw [V.isub_i64 (by omega) (by omega)]; omega
      have s7 : V.isub .i64 (k : Int) 7 = ((k - 7 : Nat) : Int) := by rw [V.isub_i64 (by omega) (by omega)]; omega
      have e5 : V.iadd .i64 (k : Int) 1 = ((k + 1 : Nat) : Int) := by rw [V.iadd_i64 (by omega) (by omega)]; omega
      rw [s15, s2, s16, s7, e5]
      have g15 := gk (k - 15) (by omega)
      have g2 := gk (k - 2) (by omega)
      have g16 := gk (k - 16) (by omega)
      have g7 := gk (k - 7) (by omega)
      repeat (first | with_reducible refine V.lI ?_ | with_reducible refine V.lS ?_ | with_reducible refine V.lP ?_ | with_reducible refine V.lL ?_ | with_reducible refine V.lM ?_ | with_reducible refine V.lB ?_ | with_reducible refine V.sC ?_ | with_reducible refine V.lG ?_ | ((with_reducible refine And.intro ?_ ?_); (· first | with_reducible exact V.hC | with_reducible exact V.hB | (simp only [V.inX, V.inR, V.inz, V.ige0, V.zi]; omega))) | simp only [V.nptr_eq, V.vBool_mk, V.vInt_mk, V.vStr_mk, V.vPtr_mk, V.vMap_mk, V.vSlice_mk, V.bnot_eq, V.nilCk_mk, V.aadd_mk, V.size_alloc, V.size_drew, V.size_setCell, V.nmul_eq, V.inat_nat, V.inat_lit, Nat.mul_one, Nat.reduceMul, Nat.reduceAdd, V.and_assoc', V.true_and', V.ifB_t, V.ifB_f, V.isNil_some, V.isNil_none, Bool.not_true, Bool.not_false, Nat.zero_add, Nat.add_zero])
      refine turn_spec _ 7 (by omega) (by omega) _ _ ?_
      repeat (first | with_reducible refine V.lI ?_ | with_reducible refine V.lS ?_ | with_reducible refine V.lP ?_ | with_reducible refine V.lL ?_ | with_reducible refine V.lM ?_ | with_reducible refine V.lB ?_ | with_reducible refine V.sC ?_ | with_reducible refine V.lG ?_ | ((with_reducible refine And.intro ?_ ?_); (· first | with_reducible exact V.hC | with_reducible exact V.hB | (simp only [V.inX, V.inR, V.inz, V.ige0, V.zi]; omega))) | simp only [V.nptr_eq, V.vBool_mk, V.vInt_mk, V.vStr_mk, V.vPtr_mk, V.vMap_mk, V.vSlice_mk, V.bnot_eq, V.nilCk_mk, V.aadd_mk, V.size_alloc, V.size_drew, V.size_setCell, V.nmul_eq, V.inat_nat, V.inat_lit, Nat.mul_one, Nat.reduceMul, Nat.reduceAdd, V.and_assoc', V.true_and', V.ifB_t, V.ifB_f, V.isNil_some, V.isNil_none, Bool.not_true, Bool.not_false, Nat.zero_add, Nat.add_zero])
      refine turn_spec _ 18 (by omega) (by omega) _ _ ?_
      repeat (first | with_reducible refine V.lI ?_ | with_reducible refine V.lS ?_ | with_reducible refine V.lP ?_ | with_reducible refine V.lL ?_ | with_reducible refine V.lM ?_ | with_reducible refine V.lB ?_ | with_reducible refine V.sC ?_ | with_reducible refine V.lG ?_ | ((with_reducible refine And.intro ?_ ?_); (· first | with_reducible exact V.hC | with_reducible exact V.hB | (simp only [V.inX, V.inR, V.inz, V.ige0, V.zi]; omega))) | simp only [V.nptr_eq, V.vBool_mk, V.vInt_mk, V.vStr_mk, V.vPtr_mk, V.vMap_mk, V.vSlice_mk, V.bnot_eq, V.nilCk_mk, V.aadd_mk, V.size_alloc, V.size_drew, V.size_setCell, V.nmul_eq, V.inat_nat, V.inat_lit, Nat.mul_one, Nat.reduceMul, Nat.reduceAdd, V.and_assoc', V.true_and', V.ifB_t, V.ifB_f, V.isNil_some, V.isNil_none, Bool.not_true, Bool.not_false, Nat.zero_add, Nat.add_zero])
      refine turn_spec _ 17 (by omega) (by omega) _ _ ?_
      repeat (first | with_reducible refine V.lI ?_ | with_reducible refine V.lS ?_ | with_reducible refine V.lP ?_ | with_reducible refine V.lL ?_ | with_reducible refine V.lM ?_ | with_reducible refine V.lB ?_ | with_reducible refine V.sC ?_ | with_reducible refine V.lG ?_ | ((with_reducible refine And.intro ?_ ?_); (· first | with_reducible exact V.hC | with_reducible exact V.hB | (simp only [V.inX, V.inR, V.inz, V.ige0, V.zi]; omega))) | simp only [V.nptr_eq, V.vBool_mk, V.vInt_mk, V.vStr_mk, V.vPtr_mk, V.vMap_mk, V.vSlice_mk, V.bnot_eq, V.nilCk_mk, V.aadd_mk, V.size_alloc, V.size_drew, V.size_setCell, V.nmul_eq, V.inat_nat, V.inat_lit, Nat.mul_one, Nat.reduceMul, Nat.reduceAdd, V.and_assoc', V.true_and', V.ifB_t, V.ifB_f, V.isNil_some, V.isNil_none, Bool.not_true, Bool.not_false, Nat.zero_add, Nat.add_zero])
      refine turn_spec _ 19 (by omega) (by omega) _ _ ?_
      repeat (first | with_reducible refine V.lI ?_ | with_reducible refine V.lS ?_ | with_reducible refine V.lP ?_ | with_reducible refine V.lL ?_ | with_reducible refine V.lM ?_ | with_reducible refine V.lB ?_ | with_reducible refine V.sC ?_ | with_reducible refine V.lG ?_ | ((with_reducible refine And.intro ?_ ?_); (· first | with_reducible exact V.hC | with_reducible exact V.hB | (simp only [V.inX, V.inR, V.inz, V.ige0, V.zi]; omega))) | simp only [V.nptr_eq, V.vBool_mk, V.vInt_mk, V.vStr_mk, V.vPtr_mk, V.vMap_mk, V.vSlice_mk, V.bnot_eq, V.nilCk_mk, V.aadd_mk, V.size_alloc, V.size_drew, V.size_setCell, V.nmul_eq, V.inat_nat, V.inat_lit, Nat.mul_one, Nat.reduceMul, Nat.reduceAdd, V.and_assoc', V.true_and', V.ifB_t, V.ifB_f, V.isNil_some, V.isNil_none, Bool.not_true, Bool.not_false, Nat.zero_add, Nat.add_zero])
      rw [V.ishr32 _ 3 3 rfl (by omega), V.ishr32 _ 10 10 rfl (by omega)]
      simp only [V.ixor32, V.iadd32]
      refine V.sC (cs := u32C (Sha.sched b.data.toList k ++ List.replicate (64 - k) 0)) ?_ V.blk (by rw [u32C_size, hl]; omega)
      refine ⟨⟨k + 1, rfl, by omega, by omega, V.blk, (hb1.drew.drew.set k _).to ?_, V.kp⟩, by show 64 - ((k + 1 : Nat) : Int).toNat < 64 - (k : Int).toNat; omega⟩
      rw [u32C_set, sched_set _ _ (by omega) _ (by rw [if_neg (by omega)]; rfl)]
    · obtain rfl : k = 64 := by omega
      have el : Sha.sched b.data.toList 64 ++ List.replicate (64 - 64) 0 = Sha.sched b.data.toList 64 := by simp
      rw [el] at hb1
      simp only [V.nptr_eq, V.vBool_mk, V.vInt_mk, V.vStr_mk, V.vPtr_mk, V.vMap_mk, V.vSlice_mk, V.bnot_eq, V.nilCk_mk, V.aadd_mk, V.size_alloc, V.size_drew, V.size_setCell, V.nmul_eq, V.inat_nat, V.inat_lit, Nat.mul_one, Nat.reduceMul, Nat.reduceAdd, V.and_assoc', V.true_and', V.ifB_t, V.ifB_f, V.isNil_some, V.isNil_none, Bool.not_true, Bool.not_false, Nat.zero_add, Nat.add_zero]
      refine V.ldBig_w hb1 (by rw [u32C_size, Sha.sched_len]) ?_
      refine V.stBig_w hb0 (by kernel_rfl) (by rw [u32C_size, Sha.sched_len]; kernel_rfl) (by simp [u32C_size, Sha.sched_len]) (u32C_one _) ?_
      intro w3 h3 k3 _
      refine V.ldBig_w h3 (by rw [u32C_size, Sha.sched_len]) ?_
      exact hc w3 (V.Kp.then kp1 k3 (fun i hi e => by have e : i = _ := e; omega))
end Go.Proofs.Ytboifenkbhfnfaa
