/- sha: contracts: turn, number. -/
import Derived.Test.YtboifenkbhfnfaaVSha
import Derived.Test.YtboifenkbhfnfaaVcK
import Derived.Test.YtboifenkbhfnfaaShaP
import Derived.Laws.MakeOwn
import Derived.Laws.IdiomStrings
set_option linter.all false
set_option maxRecDepth 100000
namespace Go.Proofs.Ytboifenkbhfnfaa
open Go
theorem rotl_n : ∀ n : Fin 32, 0 < n.val → V.iand .u64 (V.iconv .u64 (V.isub .i64 0 (n.val : Int))) 31 = ((32 - n.val : Nat) : Int) ∧ V.isub .u64 32 (V.iand .u64 (V.iconv .u64 (V.isub .i64 0 (n.val : Int))) 31) = (n.val : Int) := by decide +kernel
theorem turn_spec (x : Sha.W) (n : Nat) (h0 : 0 < n) (h : n < 32) (w : World) (C : Value → World → Prop) (hc : C (.int .u32 (V.bI (V.rot x n))) w) :
    V.CallsR Try.prog 105 #[.int .u32 (V.bI x), .int .i64 (n : Int)] w C := by
  refine V.calls_of_fnVC Try.func105 ?_
  rw [vc_sha_turn]
  refine V.calls_of_fnVC (args := [_, _]) Try.func117 ?_
  rw [vc_bits_RotateLeft32]
  obtain ⟨e1, e2⟩ := rotl_n ⟨n, h⟩ h0
  simp only at e1 e2
  rw [e2, e1]
  refine ⟨by unfold V.ige0; omega, by unfold V.ige0; omega, ?_⟩
  rw [V.ishl32 _ _ _ rfl (by omega), V.ishr32 _ _ _ rfl (by omega), V.ior32]
  simp only [V.nptr_eq, V.vBool_mk, V.vInt_mk, V.vStr_mk, V.vPtr_mk, V.vMap_mk, V.vSlice_mk, V.bnot_eq, V.nilCk_mk, V.aadd_mk, V.size_alloc, V.size_drew, V.size_setCell, V.nmul_eq, V.inat_nat, V.inat_lit, Nat.mul_one, Nat.reduceMul, Nat.reduceAdd, V.and_assoc', V.true_and', V.ifB_t, V.ifB_f, V.isNil_some, V.isNil_none, Bool.not_true, Bool.not_false, Nat.zero_add, Nat.add_zero]
  exact hc
/-- cells of bytes -/
def byC (l : List UInt8) : Array Value := (l.map fun b => Value.int .u8 (b.toNat : Int)).toArray
theorem byC_size (l : List UInt8) : (byC l).size = l.length := by simp [byC]
theorem made_bytes (n : Nat) : madeCells #[.int .u8 0] n = byC (List.replicate n 0) := by
  unfold madeCells byC
  apply Array.ext
  · simp
  · intro i h1 h2
    simp [Nat.mod_one]
theorem byC_set (l : List UInt8) (i : Nat) (b : UInt8) : (byC l).setIfInBounds i (.int .u8 (b.toNat : Int)) = byC (l.set i b) := by
  unfold byC
  apply Array.ext'
  simp [List.map_set]
theorem mk_bytes (n : Nat) (hn : n ≤ 1000) (w : World) {C : Value → World → Prop} (hc : C (.slice (some ⟨w.heap.size, 0, none⟩) n n) (w.alloc (.cells (byC (List.replicate n 0)) 5))) :
    V.RunV Try.prog (Instr.makeSlice 113 (.int .i64 (n : Int)) (.int .i64 (n : Int))) w C := by
  refine ⟨_, _, run_makeSlice (P := Try.prog) w 113 5 Try.t5 (.int .u8 0) Try.underlying113 (by kernel_rfl) rfl .i64 .i64 _ _ (by omega) (Int.le_refl _) ?_ ?_ (by omega), ?_⟩
  · show n * 1 ≤ _; omega
  · show 1 * (n : Int) ≤ _; omega
  · rw [show (n : Int).toNat * Try.t5.size = n from by show n * 1 = n; omega]
    have e : (Value.int IntKind.u8 0).cells = #[.int .u8 0] := rfl
    rw [e, made_bytes]
    exact hc
theorem to_string {w : World} {b : Nat} {l : List UInt8} {t : TypeId} (h : V.Blk w b (byC l) t) (c : Nat) {C : Value → Prop} (hc : C (.string ⟨l.toArray⟩)) :
    V.RunR Try.prog (convert 113 9 (.slice (some ⟨b, 0, none⟩) l.length c)) w C := by
  refine ⟨_, run_convert_bytes_back w _ _ 5 ⟨b, 0, none⟩ c l Try.underlying113 Try.underlying5 Try.underlying9 (fun j hj => ?_), hc⟩
  have e : (⟨b, 0, none⟩ : Addr).add j = ⟨b, j, none⟩ := by have := V.aadd_mk b 0 j; simpa [V.aadd] using this
  rw [e, h.cell]
  simp [byC, hj]
theorem set_take_rep {α : Type} (xs : List α) (z x : α) (n k : Nat) (hn : xs.length = n) (hk : xs[k]? = some x) : (xs.take k ++ List.replicate (n - k) z).set k x = xs.take (k + 1) ++ List.replicate (n - (k + 1)) z := by
  have hlt : k < xs.length := (List.getElem?_eq_some_iff.1 hk).1
  have hx : xs[k] = x := (List.getElem?_eq_some_iff.1 hk).2
  have e : n - k = (n - (k + 1)) + 1 := by omega
  rw [e, List.replicate_succ, List.set_append_right _ _ (by simp; omega), List.length_take, Nat.min_eq_left (by omega), Nat.sub_self, List.set_cons_zero, List.take_succ_eq_append_getElem hlt, hx, List.append_assoc]
  rfl
/-- number: the bytes of a number -/
theorem number_spec (n size : Nat) (hn : n < 18446744073709551616) (hs : 0 < size) (hs8 : size ≤ 8) (w : World) (C : Value → World → Prop)
    (hc : ∀ w', V.Kp V.Nil w w' → C (.string ⟨(Sha.numB n size).toArray⟩) w') :
    V.CallsR Try.prog 95 #[.int .u64 (n : Int), .int .i64 (size : Int)] w C := by
  refine V.calls_of_fnVC Try.func95 ?_
  rw [vc_sha_number]
  refine mk_bytes size (by omega) w ?_
  simp only [V.nptr_eq, V.vBool_mk, V.vInt_mk, V.vStr_mk, V.vPtr_mk, V.vMap_mk, V.vSlice_mk, V.bnot_eq, V.nilCk_mk, V.aadd_mk, V.size_alloc, V.size_drew, V.size_setCell, V.nmul_eq, V.inat_nat, V.inat_lit, Nat.mul_one, Nat.reduceMul, Nat.reduceAdd, V.and_assoc', V.true_and', V.ifB_t, V.ifB_f, V.isNil_some, V.isNil_none, Bool.not_true, Bool.not_false, Nat.zero_add, Nat.add_zero]
  refine ⟨fun i => ⟨fun w' => ∃ k : Nat, i = k ∧ k ≤ size ∧ V.Blk w' w.heap.size (byC ((Sha.numB n size).take k ++ List.replicate (size - k) 0)) 5 ∧ V.Kp V.Nil w w', fun _ => (size - i.toNat)⟩, ⟨0, rfl, by omega, ?_, V.kp⟩, ?_⟩
  · exact (V.Blk.new w _ _).to (by simp)
  rintro _ i w1 ⟨k, rfl, hk, hb, kp1⟩
  have hl : ((Sha.numB n size).take k ++ List.replicate (size - k) 0).length = size := by simp [Sha.numB_len]; omega
  refine V.ifB_of (fun hq => ?_) (fun hq => ?_) <;> simp only [V.ilt_t, V.ilt_f, V.ile_t, V.ile_f, V.igt_t, V.igt_f, V.ige_t, V.ige_f, V.ieq_t, V.ieq_f, V.ine_t, V.ine_f, V.isNil_t, V.isNil_f, V.bnot_eq, Bool.not_eq_true', Bool.not_eq_false', V.seq_t, V.seq_f, V.zi] at hq
  · have hk2 : k < size := by omega
    have hm8 : size - 1 - k < 8 := by omega
    have e1 : V.imul .i64 8 (V.isub .i64 (V.isub .i64 (size : Int) 1) (k : Int)) = ((8 * (size - 1 - k) : Nat) : Int) := by
      rw [V.isub_i64 (x := (size : Int)) (by omega) (by omega), V.isub_i64 (by omega) (by omega), V.imul_i64 (by omega) (by omega)]
      omega
    rw [e1]
    refine ⟨by unfold V.ige0; omega, ⟨by omega, by omega⟩, ?_⟩
    simp only [V.nptr_eq, V.vBool_mk, V.vInt_mk, V.vStr_mk, V.vPtr_mk, V.vMap_mk, V.vSlice_mk, V.bnot_eq, V.nilCk_mk, V.aadd_mk, V.size_alloc, V.size_drew, V.size_setCell, V.nmul_eq, V.inat_nat, V.inat_lit, Nat.mul_one, Nat.reduceMul, Nat.reduceAdd, V.and_assoc', V.true_and', V.ifB_t, V.ifB_f, V.isNil_some, V.isNil_none, Bool.not_true, Bool.not_false, Nat.zero_add, Nat.add_zero]
    have e2 : V.iconv .u8 (V.ishr .u64 (n : Int) ((8 * (size - 1 - k) : Nat) : Int)) = ((UInt8.ofNat (n / 256 ^ (size - 1 - k))).toNat : Int) := by
      generalize size - 1 - k = m at *
      unfold V.iconv V.ishr
      have e3 : min (((8 * m : Nat) : Int)).toNat IntKind.u64.bits = 8 * m := by simp only [IntKind.bits, Int.toNat_natCast]; omega
      have e4 : (2 : Int) ^ (8 * m) = ((256 ^ m : Nat) : Int) := by rw [Int.pow_mul, Int.natCast_pow]; rfl
      rw [e3, e4, Int.fdiv_eq_ediv_of_nonneg _ (Int.natCast_nonneg _), ← Int.natCast_ediv, IntKind.wrap_u8, UInt8.toNat_ofNat']
      omega
    rw [e2]
    refine V.sC (cs := byC ((Sha.numB n size).take k ++ List.replicate (size - k) 0)) ?_ hb (by rw [byC_size, hl]; exact hk2)
    have e4 : V.iadd .i64 (k : Int) 1 = ((k + 1 : Nat) : Int) := by rw [V.iadd_i64 (by omega) (by omega)]; omega
    rw [e4]
    refine ⟨⟨k + 1, rfl, hk2, (hb.set k _).to ?_, V.kp⟩, by show size - ((k + 1 : Nat) : Int).toNat < size - (k : Int).toNat; omega⟩
    rw [byC_set, set_take_rep _ _ _ _ _ (Sha.numB_len n size) (by simp [Sha.numB, hk2])]
  · obtain rfl : k = size := by omega
    have e5 : (Sha.numB n k).take k ++ List.replicate (k - k) 0 = Sha.numB n k := by
      rw [List.take_of_length_le (by rw [Sha.numB_len]; omega), Nat.sub_self]; simp
    rw [e5] at hb
    have hr := to_string hb k (C := fun v => V.vStr v fun s => C (.string s) w1) (by simp only [V.nptr_eq, V.vBool_mk, V.vInt_mk, V.vStr_mk, V.vPtr_mk, V.vMap_mk, V.vSlice_mk, V.bnot_eq, V.nilCk_mk, V.aadd_mk, V.size_alloc, V.size_drew, V.size_setCell, V.nmul_eq, V.inat_nat, V.inat_lit, Nat.mul_one, Nat.reduceMul, Nat.reduceAdd, V.and_assoc', V.true_and', V.ifB_t, V.ifB_f, V.isNil_some, V.isNil_none, Bool.not_true, Bool.not_false, Nat.zero_add, Nat.add_zero]; exact hc w1 kp1)
    rwa [Sha.numB_len] at hr
end Go.Proofs.Ytboifenkbhfnfaa
