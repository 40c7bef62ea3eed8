/- sha: contracts: step (a block put into the state). -/
import Derived.Test.YtboifenkbhfnfaaSha2
set_option linter.all false
set_option maxRecDepth 100000
namespace Go.Proofs.Ytboifenkbhfnfaa
open Go
theorem lenS {l : List Sha.W} (h : l.length = 8) : ∃ a b c d e f g i, l = [a, b, c, d, e, f, g, i] := by
  match l, h with
  | [a, b, c, d, e, f, g, i], _ => exact ⟨a, b, c, d, e, f, g, i, rfl⟩
/-- the table: 64 words, and eight -/
def tblC : Array Value := u32C (Sha.K ++ Sha.H0)
theorem tbl_get (i : Nat) (h : i < 64) : tblC[0 + i]? = some (.int .u32 (V.bI (Sha.g Sha.K i))) := by
  rw [Nat.zero_add]
  unfold tblC
  rw [u32C_get (by rw [List.length_append]; show i < 64 + 8; omega), g_take (show i < Sha.K.length by exact h)]
theorem addS_take (h s : List Sha.W) (hh : h.length = 8) (k : Nat) (hk : k < 8) :
    ((Sha.addS h s).take k ++ h.drop k).set k (Sha.g h k + Sha.g s k) = (Sha.addS h s).take (k + 1) ++ h.drop (k + 1) := by
  have hl : (Sha.addS h s).length = 8 := by simp [Sha.addS]
  have hd : h.drop k = h[k] :: h.drop (k + 1) := by rw [List.drop_eq_getElem_cons (by omega)]
  rw [List.set_append_right _ _ (by simp; omega), List.length_take, hl, Nat.min_eq_left (by omega), Nat.sub_self, hd, List.set_cons_zero, List.take_succ_eq_append_getElem (by omega)]
  have e : (Sha.addS h s)[k]'(by omega) = Sha.g h k + Sha.g s k := by simp [Sha.addS]
  rw [e, List.append_assoc]
  rfl
set_option maxRecDepth 10000 in
set_option maxHeartbeats 2000000 in
theorem step_spec (h : List Sha.W) (hh : h.length = 8) (b : ByteArray) (hb : b.size = 64) (w : World) (tb to : Nat) (cur : Array Value) (te : TypeId) (ht : V.Blk w tb cur te)
    (hto : ∀ i, i < 64 → cur[to + i]? = some (.int .u32 (V.bI (Sha.g Sha.K i)))) (C : Value → World → Prop)
    (hc : ∀ w', V.Kp V.Nil w w' → C (.agg (u32C (Sha.comp h b.data.toList))) w') :
    V.CallsR Try.prog 93 #[.pointer (some ⟨tb, to, none⟩), .agg (u32C h), .string b] w C := by
  refine V.calls_of_fnVC (args := [_, _, _]) Try.func93 ?_
  rw [vc_sha_step]
  simp only [V.nptr_eq, V.vBool_mk, V.vInt_mk, V.vStr_mk, V.vPtr_mk, V.vMap_mk, V.vSlice_mk, V.bnot_eq, V.nilCk_mk, V.aadd_mk, V.size_alloc, V.size_drew, V.size_setCell, V.nmul_eq, V.inat_nat, V.inat_lit, Nat.mul_one, Nat.reduceMul, Nat.reduceAdd, V.and_assoc', V.true_and', V.ifB_t, V.ifB_f, V.isNil_some, V.isNil_none, Bool.not_true, Bool.not_false, Nat.zero_add, Nat.add_zero]
  have hlt := ht.lt
  refine V.ldBig_w (cur := u32C h) V.blk (by rw [u32C_size, hh]) ?_
  refine V.stBig_w (cur := _) V.blk (by kernel_rfl) (by rw [u32C_size, hh]; kernel_rfl) (by rw [u32C_size, hh]; rfl) (u32C_one _) ?_
  intro w1 h1 k1 z1
  have kp1 : V.Kp V.Nil w w1 := V.Kp.then (V.kp (w := w)) k1 (fun i hi e => by have e : i = _ := e; omega)
  simp only [V.size_alloc] at z1
  have hh1 : V.Blk w1 w.heap.size (u32C h) 27 := V.Kp.blk k1 V.blk (fun e => by have e : w.heap.size = w.heap.size + 1 + 1 := e; omega)
  have hr1 : ∃ c0, c0.size = 8 ∧ V.Blk w1 (w.heap.size + 1) c0 27 := ⟨_, rfl, V.Kp.blk k1 V.blk (fun e => by have e : w.heap.size + 1 = w.heap.size + 1 + 1 := e; omega)⟩
  have ht1 : V.Blk w1 tb cur te := V.Kp.blk kp1 ht (fun e => e)
  refine schedule_spec b hb _ _ ?_
  intro w2 k2
  have z2 := k2.size
  rw [V.vArr_mk (by rw [u32C_size, Sha.sched_len])]
  refine ⟨fun i => ⟨fun w' => ∃ k : Nat, i = k ∧ k ≤ 64 ∧ V.Blk w' w.heap.size (u32C h) 27 ∧ (∃ c0, c0.size = 8 ∧ V.Blk w' (w.heap.size + 1) c0 27) ∧ V.Blk w' (w.heap.size + 1 + 1) (u32C (Sha.steps h (Sha.sched b.data.toList 64) k)) 27 ∧ V.Blk w' tb cur te ∧ V.Kp V.Nil w w', fun _ => (64 - i.toNat)⟩,
    ⟨0, rfl, by omega, V.Kp.blk k2 hh1 (fun e => e), ?_, V.Kp.blk k2 h1 (fun e => e), V.Kp.blk k2 ht1 (fun e => e), V.Kp.trans kp1 k2⟩, ?_⟩
  · obtain ⟨c0, h0, hb0⟩ := hr1
    exact ⟨c0, h0, V.Kp.blk k2 hb0 (fun e => e)⟩
  clear k2 hh1 hr1 ht1 kp1 z1 h1 k1 z2
  rintro _ i w3 ⟨k, rfl, hk, hh3, hr3, hs3, ht3, kp3⟩
  obtain ⟨c0, hc0, hr3⟩ := hr3
  have z3 := hs3.lt
  obtain ⟨s, hs⟩ : ∃ s, s = Sha.steps h (Sha.sched b.data.toList 64) k := ⟨_, rfl⟩
  have sl : s.length = 8 := by rw [hs]; exact Sha.steps_len _ _ hh _
  rw [← hs] at hs3
  refine V.ifB_of (fun hq => ?_) (fun hq => ?_) <;> simp only [V.ilt_t, V.ilt_f, V.ile_t, V.ile_f, V.igt_t, V.igt_f, V.ige_t, V.ige_f, V.ieq_t, V.ieq_f, V.ine_t, V.ine_f, V.isNil_t, V.isNil_f, V.bnot_eq, Bool.not_eq_true', Bool.not_eq_false', V.seq_t, V.seq_f, V.zi] at hq
  · have gk : ∀ j, j < 8 → (u32C s)[j]? = some (.int .u32 (V.bI (Sha.g s j))) := fun j hj => by
      rw [u32C_get (by omega)]
    have g0 := gk 0 (by omega)
    have g1 := gk 1 (by omega)
    have g2 := gk 2 (by omega)
    have g3 := gk 3 (by omega)
    have g4 := gk 4 (by omega)
    have g5 := gk 5 (by omega)
    have g6 := gk 6 (by omega)
    have g7 := gk 7 (by omega)
    have gt := hto k (by omega)
    have gw : V.partV Try.prog 25 (u32C (Sha.sched b.data.toList 64)) (V.inat (k : Int)) = some (.int .u32 (V.bI (Sha.g (Sha.sched b.data.toList 64) k))) := by
      rw [V.partV_int Try.underlying25, V.inat_nat, u32C_get (by rw [Sha.sched_len]; omega)]
    refine And.intro (by simp only [V.inX]; omega) (Exists.intro _ (And.intro gw ?_))
    have tn := fun (x : Sha.W) (n : Nat) (h0 : 0 < n) (h1 : n < 32) => turn_spec x n h0 h1
    repeat (first | with_reducible refine V.lI ?_ | with_reducible refine V.lS ?_ | with_reducible refine V.lP ?_ | with_reducible refine V.lL ?_ | with_reducible refine V.lM ?_ | with_reducible refine V.lB ?_ | with_reducible refine V.sC ?_ | with_reducible refine V.lG ?_ | ((with_reducible refine And.intro ?_ ?_); (· first | with_reducible exact V.hC | with_reducible exact V.hB | (simp only [V.inX, V.inR, V.inz, V.ige0, V.zi]; omega))) | simp only [V.nptr_eq, V.vBool_mk, V.vInt_mk, V.vStr_mk, V.vPtr_mk, V.vMap_mk, V.vSlice_mk, V.bnot_eq, V.nilCk_mk, V.aadd_mk, V.size_alloc, V.size_drew, V.size_setCell, V.nmul_eq, V.inat_nat, V.inat_lit, Nat.mul_one, Nat.reduceMul, Nat.reduceAdd, V.and_assoc', V.true_and', V.ifB_t, V.ifB_f, V.isNil_some, V.isNil_none, Bool.not_true, Bool.not_false, Nat.zero_add, Nat.add_zero])
    refine tn _ 6 (by omega) (by omega) _ _ ?_
    repeat (first | with_reducible refine V.lI ?_ | with_reducible refine V.lS ?_ | with_reducible refine V.lP ?_ | with_reducible refine V.lL ?_ | with_reducible refine V.lM ?_ | with_reducible refine V.lB ?_ | with_reducible refine V.sC ?_ | with_reducible refine V.lG ?_ | ((with_reducible refine And.intro ?_ ?_); (· first | with_reducible exact V.hC | with_reducible exact V.hB | (simp only [V.inX, V.inR, V.inz, V.ige0, V.zi]; omega))) | simp only [V.nptr_eq, V.vBool_mk, V.vInt_mk, V.vStr_mk, V.vPtr_mk, V.vMap_mk, V.vSlice_mk, V.bnot_eq, V.nilCk_mk, V.aadd_mk, V.size_alloc, V.size_drew, V.size_setCell, V.nmul_eq, V.inat_nat, V.inat_lit, Nat.mul_one, Nat.reduceMul, Nat.reduceAdd, V.and_assoc', V.true_and', V.ifB_t, V.ifB_f, V.isNil_some, V.isNil_none, Bool.not_true, Bool.not_false, Nat.zero_add, Nat.add_zero])
    refine tn _ 11 (by omega) (by omega) _ _ ?_
    repeat (first | with_reducible refine V.lI ?_ | with_reducible refine V.lS ?_ | with_reducible refine V.lP ?_ | with_reducible refine V.lL ?_ | with_reducible refine V.lM ?_ | with_reducible refine V.lB ?_ | with_reducible refine V.sC ?_ | with_reducible refine V.lG ?_ | ((with_reducible refine And.intro ?_ ?_); (· first | with_reducible exact V.hC | with_reducible exact V.hB | (simp only [V.inX, V.inR, V.inz, V.ige0, V.zi]; omega))) | simp only [V.nptr_eq, V.vBool_mk, V.vInt_mk, V.vStr_mk, V.vPtr_mk, V.vMap_mk, V.vSlice_mk, V.bnot_eq, V.nilCk_mk, V.aadd_mk, V.size_alloc, V.size_drew, V.size_setCell, V.nmul_eq, V.inat_nat, V.inat_lit, Nat.mul_one, Nat.reduceMul, Nat.reduceAdd, V.and_assoc', V.true_and', V.ifB_t, V.ifB_f, V.isNil_some, V.isNil_none, Bool.not_true, Bool.not_false, Nat.zero_add, Nat.add_zero])
    refine tn _ 25 (by omega) (by omega) _ _ ?_
    repeat (first | with_reducible refine V.lI ?_ | with_reducible refine V.lS ?_ | with_reducible refine V.lP ?_ | with_reducible refine V.lL ?_ | with_reducible refine V.lM ?_ | with_reducible refine V.lB ?_ | with_reducible refine V.sC ?_ | with_reducible refine V.lG ?_ | ((with_reducible refine And.intro ?_ ?_); (· first | with_reducible exact V.hC | with_reducible exact V.hB | (simp only [V.inX, V.inR, V.inz, V.ige0, V.zi]; omega))) | simp only [V.nptr_eq, V.vBool_mk, V.vInt_mk, V.vStr_mk, V.vPtr_mk, V.vMap_mk, V.vSlice_mk, V.bnot_eq, V.nilCk_mk, V.aadd_mk, V.size_alloc, V.size_drew, V.size_setCell, V.nmul_eq, V.inat_nat, V.inat_lit, Nat.mul_one, Nat.reduceMul, Nat.reduceAdd, V.and_assoc', V.true_and', V.ifB_t, V.ifB_f, V.isNil_some, V.isNil_none, Bool.not_true, Bool.not_false, Nat.zero_add, Nat.add_zero])
    refine tn _ 2 (by omega) (by omega) _ _ ?_
    repeat (first | with_reducible refine V.lI ?_ | with_reducible refine V.lS ?_ | with_reducible refine V.lP ?_ | with_reducible refine V.lL ?_ | with_reducible refine V.lM ?_ | with_reducible refine V.lB ?_ | with_reducible refine V.sC ?_ | with_reducible refine V.lG ?_ | ((with_reducible refine And.intro ?_ ?_); (· first | with_reducible exact V.hC | with_reducible exact V.hB | (simp only [V.inX, V.inR, V.inz, V.ige0, V.zi]; omega))) | simp only [V.nptr_eq, V.vBool_mk, V.vInt_mk, V.vStr_mk, V.vPtr_mk, V.vMap_mk, V.vSlice_mk, V.bnot_eq, V.nilCk_mk, V.aadd_mk, V.size_alloc, V.size_drew, V.size_setCell, V.nmul_eq, V.inat_nat, V.inat_lit, Nat.mul_one, Nat.reduceMul, Nat.reduceAdd, V.and_assoc', V.true_and', V.ifB_t, V.ifB_f, V.isNil_some, V.isNil_none, Bool.not_true, Bool.not_false, Nat.zero_add, Nat.add_zero])
    refine tn _ 13 (by omega) (by omega) _ _ ?_
    repeat (first | with_reducible refine V.lI ?_ | with_reducible refine V.lS ?_ | with_reducible refine V.lP ?_ | with_reducible refine V.lL ?_ | with_reducible refine V.lM ?_ | with_reducible refine V.lB ?_ | with_reducible refine V.sC ?_ | with_reducible refine V.lG ?_ | ((with_reducible refine And.intro ?_ ?_); (· first | with_reducible exact V.hC | with_reducible exact V.hB | (simp only [V.inX, V.inR, V.inz, V.ige0, V.zi]; omega))) | simp only [V.nptr_eq, V.vBool_mk, V.vInt_mk, V.vStr_mk, V.vPtr_mk, V.vMap_mk, V.vSlice_mk, V.bnot_eq, V.nilCk_mk, V.aadd_mk, V.size_alloc, V.size_drew, V.size_setCell, V.nmul_eq, V.inat_nat, V.inat_lit, Nat.mul_one, Nat.reduceMul, Nat.reduceAdd, V.and_assoc', V.true_and', V.ifB_t, V.ifB_f, V.isNil_some, V.isNil_none, Bool.not_true, Bool.not_false, Nat.zero_add, Nat.add_zero])
    refine tn _ 22 (by omega) (by omega) _ _ ?_
    repeat (first | with_reducible refine V.lI ?_ | with_reducible refine V.lS ?_ | with_reducible refine V.lP ?_ | with_reducible refine V.lL ?_ | with_reducible refine V.lM ?_ | with_reducible refine V.lB ?_ | with_reducible refine V.sC ?_ | with_reducible refine V.lG ?_ | ((with_reducible refine And.intro ?_ ?_); (· first | with_reducible exact V.hC | with_reducible exact V.hB | (simp only [V.inX, V.inR, V.inz, V.ige0, V.zi]; omega))) | simp only [V.nptr_eq, V.vBool_mk, V.vInt_mk, V.vStr_mk, V.vPtr_mk, V.vMap_mk, V.vSlice_mk, V.bnot_eq, V.nilCk_mk, V.aadd_mk, V.size_alloc, V.size_drew, V.size_setCell, V.nmul_eq, V.inat_nat, V.inat_lit, Nat.mul_one, Nat.reduceMul, Nat.reduceAdd, V.and_assoc', V.true_and', V.ifB_t, V.ifB_f, V.isNil_some, V.isNil_none, Bool.not_true, Bool.not_false, Nat.zero_add, Nat.add_zero])
    simp only [V.inot32, V.iand32, V.ixor32, V.iadd32]
    have e5 : V.iadd .i64 (k : Int) 1 = ((k + 1 : Nat) : Int) := by rw [V.iadd_i64 (by omega) (by omega)]; omega
    rw [e5]
    refine V.stBig_w (cs := u32C (Sha.stepS s (Sha.g Sha.K k) (Sha.g (Sha.sched b.data.toList 64) k))) (cur := u32C s) V.blk (by kernel_rfl) (by rw [u32C_size]; kernel_rfl) (by rw [u32C_size, u32C_size, sl]; rfl) (u32C_one _) ?_
    intro w4 h4 k4 _
    refine ⟨⟨k + 1, rfl, by omega, V.Kp.blk k4 V.blk (fun e => by have e : w.heap.size = w.heap.size + 1 + 1 := e; omega), ⟨c0, hc0, V.Kp.blk k4 V.blk (fun e => by have e : w.heap.size + 1 = w.heap.size + 1 + 1 := e; omega)⟩, h4.to (by rw [hs]; rfl), V.Kp.blk k4 V.blk (fun e => by have e : tb = w.heap.size + 1 + 1 := e; omega), V.Kp.then (V.kp (w := w)) k4 (fun i hi e => by have e : i = _ := e; omega)⟩, by show 64 - ((k + 1 : Nat) : Int).toNat < 64 - (k : Int).toNat; omega⟩
  · obtain rfl : k = 64 := by omega
    have al : (Sha.addS h s).length = 8 := by simp [Sha.addS]
    refine ⟨fun i => ⟨fun w' => ∃ k : Nat, i = k ∧ k ≤ 8 ∧ V.Blk w' w.heap.size (u32C ((Sha.addS h s).take k ++ h.drop k)) 27 ∧ V.Blk w' (w.heap.size + 1) c0 27 ∧ V.Blk w' (w.heap.size + 1 + 1) (u32C s) 27 ∧ V.Kp V.Nil w w', fun _ => (8 - i.toNat)⟩, ⟨0, rfl, by omega, hh3, hr3, hs3, kp3⟩, ?_⟩
    clear hh3 hr3 hs3 ht3 kp3 z3
    rintro _ i w4 ⟨k, rfl, hk, hh3, hr3, hs3, kp3⟩
    have z3 := hs3.lt
    have hl : ((Sha.addS h s).take k ++ h.drop k).length = 8 := by simp [al, hh]; omega
    refine V.ifB_of (fun hq => ?_) (fun hq => ?_) <;> simp only [V.ilt_t, V.ilt_f, V.ile_t, V.ile_f, V.igt_t, V.igt_f, V.ige_t, V.ige_f, V.ieq_t, V.ieq_f, V.ine_t, V.ine_f, V.isNil_t, V.isNil_f, V.bnot_eq, Bool.not_eq_true', Bool.not_eq_false', V.seq_t, V.seq_f, V.zi] at hq
    · have e5 : V.iadd .i64 (k : Int) 1 = ((k + 1 : Nat) : Int) := by rw [V.iadd_i64 (by omega) (by omega)]; omega
      have ge : Sha.g ((Sha.addS h s).take k ++ h.drop k) k = Sha.g h k := by
        unfold Sha.g
        simp [List.getElem?_append_right, al, Nat.min_eq_left (show k ≤ 8 by omega)]
      have g1 : (u32C ((Sha.addS h s).take k ++ h.drop k))[k]? = some (.int .u32 (V.bI (Sha.g h k))) := by rw [u32C_get (by omega), ge]
      have g2 : (u32C s)[k]? = some (.int .u32 (V.bI (Sha.g s k))) := u32C_get (by omega)
      repeat (first | with_reducible refine V.lI ?_ | with_reducible refine V.lS ?_ | with_reducible refine V.lP ?_ | with_reducible refine V.lL ?_ | with_reducible refine V.lM ?_ | with_reducible refine V.lB ?_ | with_reducible refine V.sC ?_ | with_reducible refine V.lG ?_ | ((with_reducible refine And.intro ?_ ?_); (· first | with_reducible exact V.hC | with_reducible exact V.hB | (simp only [V.inX, V.inR, V.inz, V.ige0, V.zi]; omega))) | simp only [V.nptr_eq, V.vBool_mk, V.vInt_mk, V.vStr_mk, V.vPtr_mk, V.vMap_mk, V.vSlice_mk, V.bnot_eq, V.nilCk_mk, V.aadd_mk, V.size_alloc, V.size_drew, V.size_setCell, V.nmul_eq, V.inat_nat, V.inat_lit, Nat.mul_one, Nat.reduceMul, Nat.reduceAdd, V.and_assoc', V.true_and', V.ifB_t, V.ifB_f, V.isNil_some, V.isNil_none, Bool.not_true, Bool.not_false, Nat.zero_add, Nat.add_zero])
      rw [V.iadd32, e5]
      refine V.sC (cs := u32C ((Sha.addS h s).take k ++ h.drop k)) ?_ V.blk (by rw [u32C_size, hl]; omega)
      refine ⟨⟨k + 1, rfl, by omega, (hh3.drew.set k _).to ?_, V.blk, V.blk, V.kp⟩, by show 8 - ((k + 1 : Nat) : Int).toNat < 8 - (k : Int).toNat; omega⟩
      rw [u32C_set, addS_take h s hh k (by omega)]
    · obtain rfl : k = 8 := by omega
      have e8 : (Sha.addS h s).take 8 ++ h.drop 8 = Sha.comp h b.data.toList := by
        rw [List.take_of_length_le (by omega), List.drop_of_length_le (by omega), List.append_nil, hs]; rfl
      rw [e8] at hh3
      refine V.ldBig_w hh3 (by rw [u32C_size, Sha.comp_len]) ?_
      refine V.stBig_w hr3 (by kernel_rfl) (by rw [u32C_size, Sha.comp_len]; kernel_rfl) (by rw [u32C_size, Sha.comp_len, hc0]) (u32C_one _) ?_
      intro w5 h5 k5 _
      refine V.ldBig_w h5 (by rw [u32C_size, Sha.comp_len]) ?_
      exact hc w5 (V.Kp.then kp3 k5 (fun i hi e => by have e : i = _ := e; omega))
end Go.Proofs.Ytboifenkbhfnfaa
