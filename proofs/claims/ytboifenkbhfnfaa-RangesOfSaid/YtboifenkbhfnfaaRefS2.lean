/- the reference's SHA-256: contract: block. -/
import Derived.Test.YtboifenkbhfnfaaRefS1
set_option linter.all false
set_option maxRecDepth 100000
namespace Go.Proofs.Ytboifenkbhfnfaa
open Go
/-- what stands at a call of block: the boxes, the words, the bytes that are read -/
structure RbI (w : World) (s : Nat) (h : List Sha.W) (ws : List Sha.W) (w' : World) : Prop where
  bk : V.Blk w' s (u64C Sha.K) 130
  bh : V.Blk w' (s + 1) (u64C h) 132
  br : ∃ c0, c0.size = 8 ∧ V.Blk w' (s + 1 + 1) c0 132
  bw : V.Blk w' (s + 1 + 1 + 1) (u64C ws) 130
  kp : V.Kp V.Nil w w'
theorem list_mid (l : List Sha.W) (k : Nat) (hl : l.length = k) (hk : k < 64) : l ++ List.replicate (64 - k) 0 = l ++ [0] ++ List.replicate (64 - (k + 1)) 0 := by
  rw [show 64 - k = (64 - (k + 1)) + 1 by omega, List.replicate_succ, List.append_assoc]; rfl
theorem set_mid (l r : List Sha.W) (k : Nat) (hl : l.length = k) (x y : Sha.W) : (l ++ [x] ++ r).set k y = l ++ [y] ++ r := by
  rw [List.append_assoc, List.set_append_right _ _ (by omega), hl, Nat.sub_self, List.append_assoc]; rfl
theorem get_mid (l r : List Sha.W) (k : Nat) (hl : l.length = k) (x : Sha.W) : Sha.g (l ++ [x] ++ r) k = x := by
  unfold Sha.g
  rw [List.append_assoc, List.getD_eq_getElem?_getD, List.getElem?_append_right (by omega), hl, Nat.sub_self]; rfl
/-- a state whose words from m + 1 on are moved -/
def shf (s : List Sha.W) (m : Nat) : List Sha.W := (List.range 8).map fun i => Sha.g s (if i ≤ m then i else i - 1)
theorem shf_len (s : List Sha.W) (m : Nat) : (shf s m).length = 8 := by simp [shf]
theorem shf_7 (s : List Sha.W) (h : s.length = 8) : shf s 7 = s := by
  obtain ⟨a, b, c, d, e, f, g, i, rfl⟩ : ∃ a b c d e f g i, s = [a, b, c, d, e, f, g, i] := by
    match s, h with
    | [a, b, c, d, e, f, g, i], _ => exact ⟨a, b, c, d, e, f, g, i, rfl⟩
  rfl
theorem shf_get (s : List Sha.W) (m j : Nat) (hj : j ≤ m) (h8 : j < 8) : Sha.g (shf s m) j = Sha.g s j := by
  unfold shf
  rw [Sha.g, List.getD_eq_getElem?_getD, List.getElem?_map, List.getElem?_range h8]
  simp [hj]
theorem shf_set (s : List Sha.W) (m : Nat) (hm : m + 1 < 8) : (shf s (m + 1)).set (m + 1) (Sha.g s m) = shf s m := by
  apply List.ext_getElem
  · simp [shf]
  · intro i h1 h2
    have h3 : i < 8 := by simpa [shf] using h2
    rw [List.getElem_set]
    by_cases hi : m + 1 = i
    · subst hi
      have : ¬ m + 1 ≤ m := by omega
      simp [shf, this]
    · rw [if_neg hi]
      simp only [shf, List.getElem_map, List.getElem_range]
      by_cases hi2 : i ≤ m
      · rw [if_pos (by omega), if_pos hi2]
      · rw [if_neg (by omega), if_neg hi2]
theorem step_shf (s : List Sha.W) (k w : Sha.W) : ((shf s 0).set 4 (Sha.g s 3 + Sha.t1 s k w)).set 0 (Sha.t1 s k w + Sha.t2 s) = Sha.stepS s k w := rfl
set_option maxHeartbeats 4000000 in
theorem block_spec (h : List Sha.W) (hh : h.length = 8) (l : List UInt8) (gb o c : Nat) (w : World) (hgl : gb < w.heap.size) (hcur : ∀ i, i < 64 → w.cell? ⟨gb, o + i, none⟩ = some (.int .u8 ((l.getD i 0).toNat : Int))) (C : Value → World → Prop)
    (hc : ∀ w', V.Kp V.Nil w w' → C (.agg (u64C (Sha.comp h l))) w') :
    V.CallsR Try.prog 82 #[.agg (u64C Sha.K), .agg (u64C h), .slice (some ⟨gb, o, none⟩) 64 c] w C := by
  refine V.calls_of_fnVC (args := [_, _, _]) Try.func82 ?_
  rw [vc_annalistref01_block, zero64_64]
  simp only [V.nptr_eq, V.vBool_mk, V.vInt_mk, V.vStr_mk, V.vPtr_mk, V.vMap_mk, V.vSlice_mk, V.bnot_eq, V.nilCk_mk, V.aadd_mk, V.size_alloc, V.size_drew, V.size_setCell, V.nmul_eq, V.inat_nat, V.inat_lit, Nat.mul_one, Nat.reduceMul, Nat.reduceAdd, V.and_assoc', V.true_and', V.ifB_t, V.ifB_f, V.isNil_some, V.isNil_none, Bool.not_true, Bool.not_false, Nat.zero_add, Nat.add_zero]
  obtain ⟨s, hs⟩ : ∃ s, s = w.heap.size := ⟨_, rfl⟩
  rw [← hs]
  refine ⟨fun i => ⟨fun w' => ∃ k : Nat, i = k ∧ k ≤ 64 ∧ RbI w s h (Sha.sched l k ++ List.replicate (64 - k) 0) w', fun _ => 64 - i.toNat⟩, ⟨0, rfl, by omega, ⟨by rw [hs]; exact V.blk, by rw [hs]; exact V.blk, ⟨_, rfl, by rw [hs]; exact V.blk⟩, by rw [hs]; exact V.bto, V.kp⟩⟩, ?_⟩
  rintro _ i w1 ⟨k, rfl, hk, hI⟩
  have hz := hI.bw.lt
  refine V.ifB_of (fun hq => ?_) (fun hq => ?_) <;> simp only [V.ilt_t, V.ilt_f, V.ile_t, V.ile_f, V.igt_t, V.igt_f, V.ige_t, V.ige_f, V.ieq_t, V.ieq_f, V.ine_t, V.ine_f, V.isNil_t, V.isNil_f, V.bnot_eq, Bool.not_eq_true', Bool.not_eq_false', V.seq_t, V.seq_f, V.zi] at hq
  · have hk64 : k < 64 := by omega
    have sl := Sha.sched_len l k
    have e5 : V.iadd .i64 (k : Int) 1 = ((k + 1 : Nat) : Int) := by rw [V.iadd_i64 (by omega) (by omega)]; omega
    rw [e5]
    refine V.ifB_of (fun hq2 => ?_) (fun hq2 => ?_) <;> simp only [V.ilt_t, V.ilt_f, V.ile_t, V.ile_f, V.igt_t, V.igt_f, V.ige_t, V.ige_f, V.ieq_t, V.ieq_f, V.ine_t, V.ine_f, V.isNil_t, V.isNil_f, V.bnot_eq, Bool.not_eq_true', Bool.not_eq_false', V.seq_t, V.seq_f, V.zi] at hq2
    · have hk16 : k < 16 := by omega
      refine ⟨fun j => ⟨fun w' => ∃ m : Nat, j = m ∧ m ≤ 4 ∧ RbI w s h (Sha.sched l k ++ [BitVec.ofNat 32 (pw l (4 * k) m)] ++ List.replicate (64 - (k + 1)) 0) w', fun _ => 4 - j.toNat⟩, ⟨0, rfl, by omega, by
        rw [show BitVec.ofNat 32 (pw l (4 * k) 0) = 0 from rfl, ← list_mid _ k sl hk64]; exact hI⟩, ?_⟩
      clear hI
      rintro _ j w2 ⟨m, rfl, hm, hI⟩
      obtain ⟨bk, bh, br, bw, kp⟩ := hI
      have pl := pw_lt l (4 * k) m
      have ll : (Sha.sched l k ++ [BitVec.ofNat 32 (pw l (4 * k) m)] ++ List.replicate (64 - (k + 1)) 0 : List Sha.W).length = 64 := by simp [sl]; omega
      refine V.ifB_of (fun hq3 => ?_) (fun hq3 => ?_) <;> simp only [V.ilt_t, V.ilt_f, V.ile_t, V.ile_f, V.igt_t, V.igt_f, V.ige_t, V.ige_f, V.ieq_t, V.ieq_f, V.ine_t, V.ine_f, V.isNil_t, V.isNil_f, V.bnot_eq, Bool.not_eq_true', Bool.not_eq_false', V.seq_t, V.seq_f, V.zi] at hq3
      · have hm4 : m < 4 := by omega
        have e4 : V.iadd .i64 (V.imul .i64 4 (k : Int)) (m : Int) = ((4 * k + m : Nat) : Int) := by
          rw [V.imul_i64 (by omega) (by omega), V.iadd_i64 (by omega) (by omega)]; omega
        have em : V.iadd .i64 (m : Int) 1 = ((m + 1 : Nat) : Int) := by rw [V.iadd_i64 (by omega) (by omega)]; omega
        have gw : (u64C (Sha.sched l k ++ [BitVec.ofNat 32 (pw l (4 * k) m)] ++ List.replicate (64 - (k + 1)) 0))[k]? = some (.int .u64 (V.bI (BitVec.ofNat 32 (pw l (4 * k) m)))) := by
          rw [u64C_get (by omega), get_mid _ _ k sl]
        have gc : w2.drew.cell? ⟨gb, o + (4 * k + m), none⟩ = some (.int .u8 ((l.getD (4 * k + m) 0).toNat : Int)) := by
          rw [← hcur (4 * k + m) (by omega)]
          exact World.cell?_of_block (kp.block gb hgl (fun e => e))
        have pm : pw l (4 * k) m < 16777216 := by
          have : (256 : Nat) ^ m ≤ 256 ^ 3 := Nat.pow_le_pow_right (by omega) (by omega)
          omega
        have lb := (l.getD (4 * k + m) 0).toNat_lt
        have ev : V.iadd .u64 (V.imul .u64 (V.bI (BitVec.ofNat 32 (pw l (4 * k) m))) 256) (V.iconv .u64 ((l.getD (4 * k + m) 0).toNat : Int)) = V.bI (BitVec.ofNat 32 (pw l (4 * k) (m + 1))) := by
          unfold V.iconv
          rw [bI_nat, bI_nat, BitVec.toNat_ofNat, BitVec.toNat_ofNat, Nat.mod_eq_of_lt (by omega), V.wrap_u64 (x := ((l.getD (4 * k + m) 0).toNat : Int)) (by omega) (by omega), show (256 : Int) = ((256 : Nat) : Int) from rfl, imul64n _ _ (by omega), iadd64n _ _ (by omega)]
          simp only [pw]
          rw [Nat.mod_eq_of_lt (by omega)]
        rw [e4, em]
        repeat (first | with_reducible refine V.lI ?_ | with_reducible refine V.lS ?_ | with_reducible refine V.lP ?_ | with_reducible refine V.lL ?_ | with_reducible refine V.lM ?_ | with_reducible refine V.lB ?_ | with_reducible refine V.sC ?_ | with_reducible refine V.lG ?_ | ((with_reducible refine And.intro ?_ ?_); (· first | with_reducible exact V.hC | with_reducible exact V.hB | (simp only [V.inX, V.inR, V.inz, V.ige0, V.zi]; omega))) | simp only [V.nptr_eq, V.vBool_mk, V.vInt_mk, V.vStr_mk, V.vPtr_mk, V.vMap_mk, V.vSlice_mk, V.bnot_eq, V.nilCk_mk, V.aadd_mk, V.size_alloc, V.size_drew, V.size_setCell, V.nmul_eq, V.inat_nat, V.inat_lit, Nat.mul_one, Nat.reduceMul, Nat.reduceAdd, V.and_assoc', V.true_and', V.ifB_t, V.ifB_f, V.isNil_some, V.isNil_none, Bool.not_true, Bool.not_false, Nat.zero_add, Nat.add_zero])
        refine ⟨_, gc, ?_⟩
        repeat (first | with_reducible refine V.lI ?_ | with_reducible refine V.lS ?_ | with_reducible refine V.lP ?_ | with_reducible refine V.lL ?_ | with_reducible refine V.lM ?_ | with_reducible refine V.lB ?_ | with_reducible refine V.sC ?_ | with_reducible refine V.lG ?_ | ((with_reducible refine And.intro ?_ ?_); (· first | with_reducible exact V.hC | with_reducible exact V.hB | (simp only [V.inX, V.inR, V.inz, V.ige0, V.zi]; omega))) | simp only [V.nptr_eq, V.vBool_mk, V.vInt_mk, V.vStr_mk, V.vPtr_mk, V.vMap_mk, V.vSlice_mk, V.bnot_eq, V.nilCk_mk, V.aadd_mk, V.size_alloc, V.size_drew, V.size_setCell, V.nmul_eq, V.inat_nat, V.inat_lit, Nat.mul_one, Nat.reduceMul, Nat.reduceAdd, V.and_assoc', V.true_and', V.ifB_t, V.ifB_f, V.isNil_some, V.isNil_none, Bool.not_true, Bool.not_false, Nat.zero_add, Nat.add_zero])
        rw [ev]
        refine V.sC ?_ bw.drew (by rw [u64C_size]; omega)
        refine ⟨⟨m + 1, rfl, by omega, ⟨V.blk, V.blk, ?_, ?_, V.kp⟩⟩, by show 4 - ((m + 1 : Nat) : Int).toNat < 4 - (m : Int).toNat; omega⟩
        · obtain ⟨c0, h0, b0⟩ := br
          exact ⟨c0, h0, V.blk⟩
        · refine (bw.drew.set k _).to ?_
          rw [u64C_set, set_mid _ _ k sl]
      · obtain rfl : m = 4 := by omega
        refine ⟨⟨k + 1, rfl, by omega, ?_⟩, by show 64 - ((k + 1 : Nat) : Int).toNat < 64 - (k : Int).toNat; omega⟩
        refine ⟨bk, bh, br, bw.to ?_, kp⟩
        rw [pw_word, Sha.sched, if_pos hk16]
    · have hk16 : 16 ≤ k := by omega
      obtain ⟨bk, bh, br, bw, kp⟩ := hI
      have gk : ∀ j, j < k → (u64C (Sha.sched l k ++ List.replicate (64 - k) 0))[j]? = some (.int .u64 (V.bI (Sha.g (Sha.sched l k) j))) := fun j hj => by
        rw [u64C_get (by simp [sl]; omega), g_take (by rw [sl]; exact hj)]
      have s15 : V.isub .i64 (k : Int) 15 = ((k - 15 : Nat) : Int) := by rw [V.isub_i64 (by omega) (by omega)]; omega
      have s2 : V.isub .i64 (k : Int) 2 = ((k - 2 : Nat) : Int) := by rw [V.isub_i64 (by omega) (by omega)]; omega
      have s16 : V.isub .i64 (k : Int) 16 = ((k - 16 : Nat) : Int) := by rw [V.isub_i64 (by omega) (by omega)]; omega
      have s7 : V.isub .i64 (k : Int) 7 = ((k - 7 : Nat) : Int) := by rw [V.isub_i64 (by omega) (by omega)]; omega
      rw [s15, s2, s16, s7]
      have g15 := gk (k - 15) (by omega)
      have g2 := gk (k - 2) (by omega)
      have g16 := gk (k - 16) (by omega)
      have g7 := gk (k - 7) (by omega)
      repeat (first | with_reducible refine V.lI ?_ | with_reducible refine V.lS ?_ | with_reducible refine V.lP ?_ | with_reducible refine V.lL ?_ | with_reducible refine V.lM ?_ | with_reducible refine V.lB ?_ | with_reducible refine V.sC ?_ | with_reducible refine V.lG ?_ | ((with_reducible refine And.intro ?_ ?_); (· first | with_reducible exact V.hC | with_reducible exact V.hB | (simp only [V.inX, V.inR, V.inz, V.ige0, V.zi]; omega))) | simp only [V.nptr_eq, V.vBool_mk, V.vInt_mk, V.vStr_mk, V.vPtr_mk, V.vMap_mk, V.vSlice_mk, V.bnot_eq, V.nilCk_mk, V.aadd_mk, V.size_alloc, V.size_drew, V.size_setCell, V.nmul_eq, V.inat_nat, V.inat_lit, Nat.mul_one, Nat.reduceMul, Nat.reduceAdd, V.and_assoc', V.true_and', V.ifB_t, V.ifB_f, V.isNil_some, V.isNil_none, Bool.not_true, Bool.not_false, Nat.zero_add, Nat.add_zero])
      refine right_spec _ 7 (by omega) (by omega) _ _ ?_
      repeat (first | with_reducible refine V.lI ?_ | with_reducible refine V.lS ?_ | with_reducible refine V.lP ?_ | with_reducible refine V.lL ?_ | with_reducible refine V.lM ?_ | with_reducible refine V.lB ?_ | with_reducible refine V.sC ?_ | with_reducible refine V.lG ?_ | ((with_reducible refine And.intro ?_ ?_); (· first | with_reducible exact V.hC | with_reducible exact V.hB | (simp only [V.inX, V.inR, V.inz, V.ige0, V.zi]; omega))) | simp only [V.nptr_eq, V.vBool_mk, V.vInt_mk, V.vStr_mk, V.vPtr_mk, V.vMap_mk, V.vSlice_mk, V.bnot_eq, V.nilCk_mk, V.aadd_mk, V.size_alloc, V.size_drew, V.size_setCell, V.nmul_eq, V.inat_nat, V.inat_lit, Nat.mul_one, Nat.reduceMul, Nat.reduceAdd, V.and_assoc', V.true_and', V.ifB_t, V.ifB_f, V.isNil_some, V.isNil_none, Bool.not_true, Bool.not_false, Nat.zero_add, Nat.add_zero])
      refine right_spec _ 18 (by omega) (by omega) _ _ ?_
      repeat (first | with_reducible refine V.lI ?_ | with_reducible refine V.lS ?_ | with_reducible refine V.lP ?_ | with_reducible refine V.lL ?_ | with_reducible refine V.lM ?_ | with_reducible refine V.lB ?_ | with_reducible refine V.sC ?_ | with_reducible refine V.lG ?_ | ((with_reducible refine And.intro ?_ ?_); (· first | with_reducible exact V.hC | with_reducible exact V.hB | (simp only [V.inX, V.inR, V.inz, V.ige0, V.zi]; omega))) | simp only [V.nptr_eq, V.vBool_mk, V.vInt_mk, V.vStr_mk, V.vPtr_mk, V.vMap_mk, V.vSlice_mk, V.bnot_eq, V.nilCk_mk, V.aadd_mk, V.size_alloc, V.size_drew, V.size_setCell, V.nmul_eq, V.inat_nat, V.inat_lit, Nat.mul_one, Nat.reduceMul, Nat.reduceAdd, V.and_assoc', V.true_and', V.ifB_t, V.ifB_f, V.isNil_some, V.isNil_none, Bool.not_true, Bool.not_false, Nat.zero_add, Nat.add_zero])
      refine right_spec _ 17 (by omega) (by omega) _ _ ?_
      repeat (first | with_reducible refine V.lI ?_ | with_reducible refine V.lS ?_ | with_reducible refine V.lP ?_ | with_reducible refine V.lL ?_ | with_reducible refine V.lM ?_ | with_reducible refine V.lB ?_ | with_reducible refine V.sC ?_ | with_reducible refine V.lG ?_ | ((with_reducible refine And.intro ?_ ?_); (· first | with_reducible exact V.hC | with_reducible exact V.hB | (simp only [V.inX, V.inR, V.inz, V.ige0, V.zi]; omega))) | simp only [V.nptr_eq, V.vBool_mk, V.vInt_mk, V.vStr_mk, V.vPtr_mk, V.vMap_mk, V.vSlice_mk, V.bnot_eq, V.nilCk_mk, V.aadd_mk, V.size_alloc, V.size_drew, V.size_setCell, V.nmul_eq, V.inat_nat, V.inat_lit, Nat.mul_one, Nat.reduceMul, Nat.reduceAdd, V.and_assoc', V.true_and', V.ifB_t, V.ifB_f, V.isNil_some, V.isNil_none, Bool.not_true, Bool.not_false, Nat.zero_add, Nat.add_zero])
      refine right_spec _ 19 (by omega) (by omega) _ _ ?_
      repeat (first | with_reducible refine V.lI ?_ | with_reducible refine V.lS ?_ | with_reducible refine V.lP ?_ | with_reducible refine V.lL ?_ | with_reducible refine V.lM ?_ | with_reducible refine V.lB ?_ | with_reducible refine V.sC ?_ | with_reducible refine V.lG ?_ | ((with_reducible refine And.intro ?_ ?_); (· first | with_reducible exact V.hC | with_reducible exact V.hB | (simp only [V.inX, V.inR, V.inz, V.ige0, V.zi]; omega))) | simp only [V.nptr_eq, V.vBool_mk, V.vInt_mk, V.vStr_mk, V.vPtr_mk, V.vMap_mk, V.vSlice_mk, V.bnot_eq, V.nilCk_mk, V.aadd_mk, V.size_alloc, V.size_drew, V.size_setCell, V.nmul_eq, V.inat_nat, V.inat_lit, Nat.mul_one, Nat.reduceMul, Nat.reduceAdd, V.and_assoc', V.true_and', V.ifB_t, V.ifB_f, V.isNil_some, V.isNil_none, Bool.not_true, Bool.not_false, Nat.zero_add, Nat.add_zero])
      have d3 := div_bI (Sha.g (Sha.sched l k) (k - 15)) 3
      have d10 := div_bI (Sha.g (Sha.sched l k) (k - 2)) 10
      rw [show (8 : Int) = ((2 ^ 3 : Nat) : Int) from rfl, d3, show (1024 : Int) = ((2 ^ 10 : Nat) : Int) from rfl, d10]
      simp only [V.ixor64_lo]
      have e9 : ∀ a b c d : Sha.W, V.irem (V.iadd .u64 (V.iadd .u64 (V.iadd .u64 (V.bI a) (V.bI b)) (V.bI c)) (V.bI d)) 4294967296 = V.bI (a + b + c + d) := sum4
      rw [e9]
      refine V.sC ?_ bw.drew.drew (by rw [u64C_size]; simp [sl]; omega)
      refine ⟨⟨k + 1, rfl, by omega, ⟨V.blk, V.blk, ?_, ?_, V.kp⟩⟩, by show 64 - ((k + 1 : Nat) : Int).toNat < 64 - (k : Int).toNat; omega⟩
      · obtain ⟨c0, h0, b0⟩ := br
        exact ⟨c0, h0, V.blk⟩
      · refine (bw.drew.drew.set k _).to ?_
        rw [u64C_set, sched_set _ _ (by omega) _ (by rw [if_neg (by omega)]; rfl)]
  · obtain rfl : k = 64 := by omega
    rw [show Sha.sched l 64 ++ List.replicate (64 - 64) 0 = Sha.sched l 64 by simp] at hI
    obtain ⟨vb, hvb⟩ : ∃ vb, vb = w1.heap.size := ⟨_, rfl⟩
    rw [← hvb] at hz ⊢
    have hvs : s + 4 ≤ vb := by omega
    refine V.ldBig_w hI.bh (by rw [u64C_size, hh]) ?_
    refine V.stBig_w (cs := u64C h) (cur := _) (b := vb) (V.Blk.new' hvb) (by kernel_rfl) (by rw [u64C_size, hh]; kernel_rfl) (by rw [u64C_size, hh]; rfl) (u64C_one _) ?_
    intro w2 h2 k2 z2
    rw [V.size_alloc] at z2
    have hI2 : RbI w s h (Sha.sched l 64) w2 := by
      obtain ⟨bk, bh, ⟨c0, h0, b0⟩, bw, kp⟩ := hI
      exact ⟨V.Kp.blk k2 (bk.alloc _) (fun e => by have e : s = vb := e; omega), V.Kp.blk k2 (bh.alloc _) (fun e => by have e : s + 1 = vb := e; omega), ⟨c0, h0, V.Kp.blk k2 (b0.alloc _) (fun e => by have e : s + 1 + 1 = vb := e; omega)⟩, V.Kp.blk k2 (bw.alloc _) (fun e => by have e : s + 1 + 1 + 1 = vb := e; omega),
        V.Kp.then (kp.alloc _) k2 (fun i hi e => by have e : i = vb := e; omega)⟩
    refine ⟨fun i => ⟨fun w' => ∃ k : Nat, i = k ∧ k ≤ 64 ∧ RbI w s h (Sha.sched l 64) w' ∧ V.Blk w' vb (u64C (Sha.steps h (Sha.sched l 64) k)) 132, fun _ => 64 - i.toNat⟩, ⟨0, rfl, by omega, hI2, h2⟩, ?_⟩
    clear hI2 h2 k2 z2 hI hz
    rintro _ i w3 ⟨k, rfl, hk, hI, hv⟩
    obtain ⟨v, hvv⟩ : ∃ v, v = Sha.steps h (Sha.sched l 64) k := ⟨_, rfl⟩
    have vl : v.length = 8 := by rw [hvv]; exact Sha.steps_len _ _ hh _
    rw [← hvv] at hv
    obtain ⟨bk, bh, ⟨c0, h0, b0⟩, bw, kp⟩ := hI
    refine V.ifB_of (fun hq => ?_) (fun hq => ?_) <;> simp only [V.ilt_t, V.ilt_f, V.ile_t, V.ile_f, V.igt_t, V.igt_f, V.ige_t, V.ige_f, V.ieq_t, V.ieq_f, V.ine_t, V.ine_f, V.isNil_t, V.isNil_f, V.bnot_eq, Bool.not_eq_true', Bool.not_eq_false', V.seq_t, V.seq_f, V.zi] at hq
    · have e5 : V.iadd .i64 (k : Int) 1 = ((k + 1 : Nat) : Int) := by rw [V.iadd_i64 (by omega) (by omega)]; omega
      rw [e5]
      have gk : ∀ j, j < 8 → (u64C v)[j]? = some (.int .u64 (V.bI (Sha.g v j))) := fun j hj => by rw [u64C_get (by omega)]
      have g0 := gk 0 (by omega)
      have g1 := gk 1 (by omega)
      have g2 := gk 2 (by omega)
      have g4 := gk 4 (by omega)
      have g5 := gk 5 (by omega)
      have g6 := gk 6 (by omega)
      have g7 := gk 7 (by omega)
      have gK : (u64C Sha.K)[k]? = some (.int .u64 (V.bI (Sha.g Sha.K k))) := u64C_get (by show k < 64; omega)
      have gW : (u64C (Sha.sched l 64))[k]? = some (.int .u64 (V.bI (Sha.g (Sha.sched l 64) k))) := u64C_get (by rw [Sha.sched_len]; omega)
      repeat (first | with_reducible refine V.lI ?_ | with_reducible refine V.lS ?_ | with_reducible refine V.lP ?_ | with_reducible refine V.lL ?_ | with_reducible refine V.lM ?_ | with_reducible refine V.lB ?_ | with_reducible refine V.sC ?_ | with_reducible refine V.lG ?_ | ((with_reducible refine And.intro ?_ ?_); (· first | with_reducible exact V.hC | with_reducible exact V.hB | (simp only [V.inX, V.inR, V.inz, V.ige0, V.zi]; omega))) | simp only [V.nptr_eq, V.vBool_mk, V.vInt_mk, V.vStr_mk, V.vPtr_mk, V.vMap_mk, V.vSlice_mk, V.bnot_eq, V.nilCk_mk, V.aadd_mk, V.size_alloc, V.size_drew, V.size_setCell, V.nmul_eq, V.inat_nat, V.inat_lit, Nat.mul_one, Nat.reduceMul, Nat.reduceAdd, V.and_assoc', V.true_and', V.ifB_t, V.ifB_f, V.isNil_some, V.isNil_none, Bool.not_true, Bool.not_false, Nat.zero_add, Nat.add_zero])
      refine right_spec _ 6 (by omega) (by omega) _ _ ?_
      repeat (first | with_reducible refine V.lI ?_ | with_reducible refine V.lS ?_ | with_reducible refine V.lP ?_ | with_reducible refine V.lL ?_ | with_reducible refine V.lM ?_ | with_reducible refine V.lB ?_ | with_reducible refine V.sC ?_ | with_reducible refine V.lG ?_ | ((with_reducible refine And.intro ?_ ?_); (· first | with_reducible exact V.hC | with_reducible exact V.hB | (simp only [V.inX, V.inR, V.inz, V.ige0, V.zi]; omega))) | simp only [V.nptr_eq, V.vBool_mk, V.vInt_mk, V.vStr_mk, V.vPtr_mk, V.vMap_mk, V.vSlice_mk, V.bnot_eq, V.nilCk_mk, V.aadd_mk, V.size_alloc, V.size_drew, V.size_setCell, V.nmul_eq, V.inat_nat, V.inat_lit, Nat.mul_one, Nat.reduceMul, Nat.reduceAdd, V.and_assoc', V.true_and', V.ifB_t, V.ifB_f, V.isNil_some, V.isNil_none, Bool.not_true, Bool.not_false, Nat.zero_add, Nat.add_zero])
      refine right_spec _ 11 (by omega) (by omega) _ _ ?_
      repeat (first | with_reducible refine V.lI ?_ | with_reducible refine V.lS ?_ | with_reducible refine V.lP ?_ | with_reducible refine V.lL ?_ | with_reducible refine V.lM ?_ | with_reducible refine V.lB ?_ | with_reducible refine V.sC ?_ | with_reducible refine V.lG ?_ | ((with_reducible refine And.intro ?_ ?_); (· first | with_reducible exact V.hC | with_reducible exact V.hB | (simp only [V.inX, V.inR, V.inz, V.ige0, V.zi]; omega))) | simp only [V.nptr_eq, V.vBool_mk, V.vInt_mk, V.vStr_mk, V.vPtr_mk, V.vMap_mk, V.vSlice_mk, V.bnot_eq, V.nilCk_mk, V.aadd_mk, V.size_alloc, V.size_drew, V.size_setCell, V.nmul_eq, V.inat_nat, V.inat_lit, Nat.mul_one, Nat.reduceMul, Nat.reduceAdd, V.and_assoc', V.true_and', V.ifB_t, V.ifB_f, V.isNil_some, V.isNil_none, Bool.not_true, Bool.not_false, Nat.zero_add, Nat.add_zero])
      refine right_spec _ 25 (by omega) (by omega) _ _ ?_
      repeat (first | with_reducible refine V.lI ?_ | with_reducible refine V.lS ?_ | with_reducible refine V.lP ?_ | with_reducible refine V.lL ?_ | with_reducible refine V.lM ?_ | with_reducible refine V.lB ?_ | with_reducible refine V.sC ?_ | with_reducible refine V.lG ?_ | ((with_reducible refine And.intro ?_ ?_); (· first | with_reducible exact V.hC | with_reducible exact V.hB | (simp only [V.inX, V.inR, V.inz, V.ige0, V.zi]; omega))) | simp only [V.nptr_eq, V.vBool_mk, V.vInt_mk, V.vStr_mk, V.vPtr_mk, V.vMap_mk, V.vSlice_mk, V.bnot_eq, V.nilCk_mk, V.aadd_mk, V.size_alloc, V.size_drew, V.size_setCell, V.nmul_eq, V.inat_nat, V.inat_lit, Nat.mul_one, Nat.reduceMul, Nat.reduceAdd, V.and_assoc', V.true_and', V.ifB_t, V.ifB_f, V.isNil_some, V.isNil_none, Bool.not_true, Bool.not_false, Nat.zero_add, Nat.add_zero])
      refine right_spec _ 2 (by omega) (by omega) _ _ ?_
      repeat (first | with_reducible refine V.lI ?_ | with_reducible refine V.lS ?_ | with_reducible refine V.lP ?_ | with_reducible refine V.lL ?_ | with_reducible refine V.lM ?_ | with_reducible refine V.lB ?_ | with_reducible refine V.sC ?_ | with_reducible refine V.lG ?_ | ((with_reducible refine And.intro ?_ ?_); (· first | with_reducible exact V.hC | with_reducible exact V.hB | (simp only [V.inX, V.inR, V.inz, V.ige0, V.zi]; omega))) | simp only [V.nptr_eq, V.vBool_mk, V.vInt_mk, V.vStr_mk, V.vPtr_mk, V.vMap_mk, V.vSlice_mk, V.bnot_eq, V.nilCk_mk, V.aadd_mk, V.size_alloc, V.size_drew, V.size_setCell, V.nmul_eq, V.inat_nat, V.inat_lit, Nat.mul_one, Nat.reduceMul, Nat.reduceAdd, V.and_assoc', V.true_and', V.ifB_t, V.ifB_f, V.isNil_some, V.isNil_none, Bool.not_true, Bool.not_false, Nat.zero_add, Nat.add_zero])
      refine right_spec _ 13 (by omega) (by omega) _ _ ?_
      repeat (first | with_reducible refine V.lI ?_ | with_reducible refine V.lS ?_ | with_reducible refine V.lP ?_ | with_reducible refine V.lL ?_ | with_reducible refine V.lM ?_ | with_reducible refine V.lB ?_ | with_reducible refine V.sC ?_ | with_reducible refine V.lG ?_ | ((with_reducible refine And.intro ?_ ?_); (· first | with_reducible exact V.hC | with_reducible exact V.hB | (simp only [V.inX, V.inR, V.inz, V.ige0, V.zi]; omega))) | simp only [V.nptr_eq, V.vBool_mk, V.vInt_mk, V.vStr_mk, V.vPtr_mk, V.vMap_mk, V.vSlice_mk, V.bnot_eq, V.nilCk_mk, V.aadd_mk, V.size_alloc, V.size_drew, V.size_setCell, V.nmul_eq, V.inat_nat, V.inat_lit, Nat.mul_one, Nat.reduceMul, Nat.reduceAdd, V.and_assoc', V.true_and', V.ifB_t, V.ifB_f, V.isNil_some, V.isNil_none, Bool.not_true, Bool.not_false, Nat.zero_add, Nat.add_zero])
      refine right_spec _ 22 (by omega) (by omega) _ _ ?_
      repeat (first | with_reducible refine V.lI ?_ | with_reducible refine V.lS ?_ | with_reducible refine V.lP ?_ | with_reducible refine V.lL ?_ | with_reducible refine V.lM ?_ | with_reducible refine V.lB ?_ | with_reducible refine V.sC ?_ | with_reducible refine V.lG ?_ | ((with_reducible refine And.intro ?_ ?_); (· first | with_reducible exact V.hC | with_reducible exact V.hB | (simp only [V.inX, V.inR, V.inz, V.ige0, V.zi]; omega))) | simp only [V.nptr_eq, V.vBool_mk, V.vInt_mk, V.vStr_mk, V.vPtr_mk, V.vMap_mk, V.vSlice_mk, V.bnot_eq, V.nilCk_mk, V.aadd_mk, V.size_alloc, V.size_drew, V.size_setCell, V.nmul_eq, V.inat_nat, V.inat_lit, Nat.mul_one, Nat.reduceMul, Nat.reduceAdd, V.and_assoc', V.true_and', V.ifB_t, V.ifB_f, V.isNil_some, V.isNil_none, Bool.not_true, Bool.not_false, Nat.zero_add, Nat.add_zero])
      simp only [not_ref, V.iand64_lo, V.ixor64_lo, V.ior64_lo, maj_or]
      refine ⟨fun j => ⟨fun w' => ∃ m : Nat, j = m ∧ m ≤ 7 ∧ RbI w s h (Sha.sched l 64) w' ∧ V.Blk w' vb (u64C (shf v m)) 132, fun _ => j.toNat⟩, ⟨7, rfl, by omega, ⟨V.blk, V.blk, ⟨c0, h0, V.blk⟩, V.blk, V.kp⟩, by rw [shf_7 v vl]; exact V.blk⟩, ?_⟩
      clear bk bh b0 bw kp hv
      rintro _ j w4 ⟨m, rfl, hm, hI, hv⟩
      obtain ⟨bk, bh, ⟨c1, h1, b1⟩, bw, kp⟩ := hI
      refine V.ifB_of (fun hq2 => ?_) (fun hq2 => ?_) <;> simp only [V.ilt_t, V.ilt_f, V.ile_t, V.ile_f, V.igt_t, V.igt_f, V.ige_t, V.ige_f, V.ieq_t, V.ieq_f, V.ine_t, V.ine_f, V.isNil_t, V.isNil_f, V.bnot_eq, Bool.not_eq_true', Bool.not_eq_false', V.seq_t, V.seq_f, V.zi] at hq2
      · obtain ⟨m, rfl⟩ : ∃ m', m = m' + 1 := ⟨m - 1, by omega⟩
        have e1 : V.isub .i64 ((m + 1 : Nat) : Int) 1 = (m : Int) := by rw [V.isub_i64 (by omega) (by omega)]; omega
        have gm : (u64C (shf v (m + 1)))[m]? = some (.int .u64 (V.bI (Sha.g v m))) := by rw [u64C_get (by rw [shf_len]; omega), shf_get _ _ _ (by omega) (by omega)]
        rw [e1]
        repeat (first | with_reducible refine V.lI ?_ | with_reducible refine V.lS ?_ | with_reducible refine V.lP ?_ | with_reducible refine V.lL ?_ | with_reducible refine V.lM ?_ | with_reducible refine V.lB ?_ | with_reducible refine V.sC ?_ | with_reducible refine V.lG ?_ | ((with_reducible refine And.intro ?_ ?_); (· first | with_reducible exact V.hC | with_reducible exact V.hB | (simp only [V.inX, V.inR, V.inz, V.ige0, V.zi]; omega))) | simp only [V.nptr_eq, V.vBool_mk, V.vInt_mk, V.vStr_mk, V.vPtr_mk, V.vMap_mk, V.vSlice_mk, V.bnot_eq, V.nilCk_mk, V.aadd_mk, V.size_alloc, V.size_drew, V.size_setCell, V.nmul_eq, V.inat_nat, V.inat_lit, Nat.mul_one, Nat.reduceMul, Nat.reduceAdd, V.and_assoc', V.true_and', V.ifB_t, V.ifB_f, V.isNil_some, V.isNil_none, Bool.not_true, Bool.not_false, Nat.zero_add, Nat.add_zero])
        refine V.sC (cs := u64C (shf v (m + 1))) ?_ V.blk (by rw [u64C_size, shf_len]; omega)
        refine ⟨⟨m, rfl, by omega, ⟨V.blk, V.blk, ⟨c1, h1, V.blk⟩, V.blk, V.kp⟩, (hv.drew.set (m + 1) _).to ?_⟩, by show (m : Int).toNat < ((m + 1 : Nat) : Int).toNat; omega⟩
        rw [u64C_set, shf_set v m (by omega)]
      · obtain rfl : m = 0 := by omega
        have s4 : (u64C (shf v 0))[4]? = some (.int .u64 (V.bI (Sha.g v 3))) := u64C_get (l := shf v 0) (by rw [shf_len]; omega)
        repeat (first | with_reducible refine V.lI ?_ | with_reducible refine V.lS ?_ | with_reducible refine V.lP ?_ | with_reducible refine V.lL ?_ | with_reducible refine V.lM ?_ | with_reducible refine V.lB ?_ | with_reducible refine V.sC ?_ | with_reducible refine V.lG ?_ | ((with_reducible refine And.intro ?_ ?_); (· first | with_reducible exact V.hC | with_reducible exact V.hB | (simp only [V.inX, V.inR, V.inz, V.ige0, V.zi]; omega))) | simp only [V.nptr_eq, V.vBool_mk, V.vInt_mk, V.vStr_mk, V.vPtr_mk, V.vMap_mk, V.vSlice_mk, V.bnot_eq, V.nilCk_mk, V.aadd_mk, V.size_alloc, V.size_drew, V.size_setCell, V.nmul_eq, V.inat_nat, V.inat_lit, Nat.mul_one, Nat.reduceMul, Nat.reduceAdd, V.and_assoc', V.true_and', V.ifB_t, V.ifB_f, V.isNil_some, V.isNil_none, Bool.not_true, Bool.not_false, Nat.zero_add, Nat.add_zero])
        rw [sum_t1]
        rw [sum_t12]
        refine ⟨⟨k + 1, rfl, by omega, ⟨V.blk, V.blk, ⟨c1, h1, V.blk⟩, V.blk, V.kp⟩, ((hv.set 4 (.int .u64 (V.bI (Sha.g v 3 + Sha.t1 v (Sha.g Sha.K k) (Sha.g (Sha.sched l 64) k))))).set 0 (.int .u64 (V.bI (Sha.t1 v (Sha.g Sha.K k) (Sha.g (Sha.sched l 64) k) + Sha.t2 v)))).to ?_⟩, by show 64 - ((k + 1 : Nat) : Int).toNat < 64 - (k : Int).toNat; omega⟩
        rw [u64C_set, u64C_set, step_shf, hvv]
        rfl
    · obtain rfl : k = 64 := by omega
      have al : (Sha.addS h v).length = 8 := by simp [Sha.addS]
      refine ⟨fun i => ⟨fun w' => ∃ k : Nat, i = k ∧ k ≤ 8 ∧ V.Blk w' (s + 1) (u64C ((Sha.addS h v).take k ++ h.drop k)) 132 ∧ (V.Blk w' (s + 1 + 1) c0 132) ∧ V.Blk w' vb (u64C v) 132 ∧ V.Kp V.Nil w w', fun _ => (8 - i.toNat)⟩, ⟨0, rfl, by omega, bh, b0, hv, kp⟩, ?_⟩
      clear bk bh b0 bw kp hv
      rintro _ i w4 ⟨k, rfl, hk, bh, b0, hv, kp⟩
      have hl : ((Sha.addS h v).take k ++ h.drop k).length = 8 := by simp [al, hh]; omega
      refine V.ifB_of (fun hq => ?_) (fun hq => ?_) <;> simp only [V.ilt_t, V.ilt_f, V.ile_t, V.ile_f, V.igt_t, V.igt_f, V.ige_t, V.ige_f, V.ieq_t, V.ieq_f, V.ine_t, V.ine_f, V.isNil_t, V.isNil_f, V.bnot_eq, Bool.not_eq_true', Bool.not_eq_false', V.seq_t, V.seq_f, V.zi] at hq
      · have e5 : V.iadd .i64 (k : Int) 1 = ((k + 1 : Nat) : Int) := by rw [V.iadd_i64 (by omega) (by omega)]; omega
        rw [e5]
        have ge : Sha.g ((Sha.addS h v).take k ++ h.drop k) k = Sha.g h k := by
          unfold Sha.g
          simp [List.getElem?_append_right, al, Nat.min_eq_left (show k ≤ 8 by omega)]
        have g1 : (u64C ((Sha.addS h v).take k ++ h.drop k))[k]? = some (.int .u64 (V.bI (Sha.g h k))) := by rw [u64C_get (by omega), ge]
        have g2 : (u64C v)[k]? = some (.int .u64 (V.bI (Sha.g v k))) := u64C_get (by omega)
        repeat (first | with_reducible refine V.lI ?_ | with_reducible refine V.lS ?_ | with_reducible refine V.lP ?_ | with_reducible refine V.lL ?_ | with_reducible refine V.lM ?_ | with_reducible refine V.lB ?_ | with_reducible refine V.sC ?_ | with_reducible refine V.lG ?_ | ((with_reducible refine And.intro ?_ ?_); (· first | with_reducible exact V.hC | with_reducible exact V.hB | (simp only [V.inX, V.inR, V.inz, V.ige0, V.zi]; omega))) | simp only [V.nptr_eq, V.vBool_mk, V.vInt_mk, V.vStr_mk, V.vPtr_mk, V.vMap_mk, V.vSlice_mk, V.bnot_eq, V.nilCk_mk, V.aadd_mk, V.size_alloc, V.size_drew, V.size_setCell, V.nmul_eq, V.inat_nat, V.inat_lit, Nat.mul_one, Nat.reduceMul, Nat.reduceAdd, V.and_assoc', V.true_and', V.ifB_t, V.ifB_f, V.isNil_some, V.isNil_none, Bool.not_true, Bool.not_false, Nat.zero_add, Nat.add_zero])
        rw [sum2]
        refine V.sC (cs := u64C ((Sha.addS h v).take k ++ h.drop k)) ?_ V.blk (by rw [u64C_size, hl]; omega)
        refine ⟨⟨k + 1, rfl, by omega, (bh.drew.set k _).to ?_, V.blk, V.blk, V.kp⟩, by show 8 - ((k + 1 : Nat) : Int).toNat < 8 - (k : Int).toNat; omega⟩
        rw [u64C_set, addS_take h v hh k (by omega)]
      · obtain rfl : k = 8 := by omega
        have e8 : (Sha.addS h v).take 8 ++ h.drop 8 = Sha.comp h l := by
          rw [List.take_of_length_le (by omega), List.drop_of_length_le (by omega), List.append_nil, hvv]; rfl
        rw [e8] at bh
        refine V.ldBig_w bh (by rw [u64C_size, Sha.comp_len]) ?_
        refine V.stBig_w (cs := u64C (Sha.comp h l)) b0 (by kernel_rfl) (by rw [u64C_size, Sha.comp_len]; kernel_rfl) (by rw [u64C_size, Sha.comp_len, h0]) (u64C_one _) ?_
        intro w5 h5 k5 _
        refine V.ldBig_w h5 (by rw [u64C_size, Sha.comp_len]) ?_
        exact hc w5 (V.Kp.then kp k5 (fun i hi e => by have e : i = s + 1 + 1 := e; omega))
end Go.Proofs.Ytboifenkbhfnfaa
