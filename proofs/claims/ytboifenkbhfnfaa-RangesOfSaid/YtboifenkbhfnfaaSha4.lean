/- sha: contracts: New, Write, Sum. -/
import Derived.Test.YtboifenkbhfnfaaSha3
set_option linter.all false
set_option maxRecDepth 100000
namespace Go.Proofs.Ytboifenkbhfnfaa
open Go
/-! ### strings as lists of bytes -/
def ls (b : ByteArray) : List UInt8 := b.data.toList
theorem ls_len (b : ByteArray) : (ls b).length = b.size := by simp [ls]
theorem ls_mk (l : List UInt8) : ls ⟨l.toArray⟩ = l := rfl
theorem ls_inj {a b : ByteArray} (h : ls a = ls b) : a = b := by
  cases a; cases b
  simp only [ls] at h
  congr
  exact Array.toList_inj.1 h
theorem mk_ls (b : ByteArray) : (⟨(ls b).toArray⟩ : ByteArray) = b := ls_inj rfl
theorem ls_cat (a b : ByteArray) : ls (V.scat a b) = ls a ++ ls b := by
  unfold V.scat ls; simp
theorem ls_app (a b : ByteArray) : ls (a ++ b) = ls a ++ ls b := ls_cat a b
theorem ls_sub (b : ByteArray) (i j : Nat) : ls (V.ssub b i j) = ((ls b).drop i).take (j - i) := by
  unfold V.ssub ls
  rw [ByteArray.data_extract, Array.toList_extract, List.extract_eq_drop_take]
theorem size_cat (a b : ByteArray) : (V.scat a b).size = a.size + b.size := by rw [← ls_len, ls_cat, List.length_append, ls_len, ls_len]
theorem size_sub (b : ByteArray) (i j : Nat) : (V.ssub b i j).size = min (j - i) (b.size - i) := by rw [← ls_len, ls_sub, List.length_take, List.length_drop, ls_len]
/-! ### the digest's cells -/
def digL (h : List Sha.W) (rest : ByteArray) (size : Nat) : List Value := tblC.toList ++ (u32C h).toList ++ [.string rest, .int .u64 (size : Int)]
def digC (h : List Sha.W) (rest : ByteArray) (size : Nat) : Array Value := (digL h rest size).toArray
theorem tblC_len : tblC.toList.length = 72 := by decide +kernel
section
variable {h : List Sha.W} (hh : h.length = 8) (rest : ByteArray) (size : Nat)
include hh
theorem u_len : (u32C h).toList.length = 8 := by rw [Array.length_toList, u32C_size, hh]
theorem dig_size : (digC h rest size).size = 82 := by simp [digC, digL, tblC_len, u_len hh, -Array.length_toList]
theorem dig_tbl (i : Nat) (hi : i < 64) : (digC h rest size)[0 + i]? = some (.int .u32 (V.bI (Sha.g Sha.K i))) := by
  have := tbl_get i hi
  unfold digC digL
  rw [List.getElem?_toArray, List.append_assoc, List.getElem?_append_left (by rw [tblC_len]; omega), Array.getElem?_toList]
  exact this
theorem dig_h : (digC h rest size).extract 72 (72 + 8) = u32C h := by
  apply Array.ext'
  rw [Array.toList_extract, List.extract_eq_drop_take]
  unfold digC digL
  rw [List.append_assoc, List.drop_append_of_le_length (by rw [tblC_len]; omega), List.drop_of_length_le (by rw [tblC_len]; omega), List.nil_append, List.take_append_of_le_length (by rw [u_len hh]; omega), List.take_of_length_le (by rw [u_len hh]; omega)]
theorem dig_set_h (h' : List Sha.W) : ((digC h rest size).toList.take 72 ++ (u32C h').toList ++ (digC h rest size).toList.drop (72 + 8)).toArray = digC h' rest size := by
  unfold digC digL
  congr 1
  show ((tblC.toList ++ (u32C h).toList ++ [Value.string rest, .int .u64 (size : Int)]).take 72 ++ (u32C h').toList ++ (tblC.toList ++ (u32C h).toList ++ [Value.string rest, .int .u64 (size : Int)]).drop (72 + 8)) = _
  rw [List.drop_append_of_le_length (by rw [List.length_append, tblC_len, u_len hh]; omega), List.drop_of_length_le (by rw [List.length_append, tblC_len, u_len hh]; omega), List.nil_append, List.append_assoc tblC.toList, List.take_append_of_le_length (by rw [tblC_len]; omega), List.take_of_length_le (by rw [tblC_len]; omega)]
theorem dig_80 : (digC h rest size)[80]? = some (.string rest) := by
  unfold digC digL
  rw [List.getElem?_toArray, List.getElem?_append_right (by rw [List.length_append, tblC_len, u_len hh]; omega), List.length_append, tblC_len, u_len hh]
  rfl
theorem dig_81 : (digC h rest size)[81]? = some (.int .u64 (size : Int)) := by
  unfold digC digL
  rw [List.getElem?_toArray, List.getElem?_append_right (by rw [List.length_append, tblC_len, u_len hh]; omega), List.length_append, tblC_len, u_len hh]
  rfl
theorem dig_set80 (r : ByteArray) : (digC h rest size).setIfInBounds 80 (.string r) = digC h r size := by
  apply Array.ext'
  unfold digC digL
  rw [Array.toList_setIfInBounds]
  show (tblC.toList ++ (u32C h).toList ++ [Value.string rest, .int .u64 (size : Int)]).set 80 _ = _
  rw [List.set_append_right _ _ (by rw [List.length_append, tblC_len, u_len hh]; omega), List.length_append, tblC_len, u_len hh]
  rfl
theorem dig_set81 (n : Nat) : (digC h rest size).setIfInBounds 81 (.int .u64 (n : Int)) = digC h rest n := by
  apply Array.ext'
  unfold digC digL
  rw [Array.toList_setIfInBounds]
  show (tblC.toList ++ (u32C h).toList ++ [Value.string rest, .int .u64 (size : Int)]).set 81 _ = _
  rw [List.set_append_right _ _ (by rw [List.length_append, tblC_len, u_len hh]; omega), List.length_append, tblC_len, u_len hh]
  rfl
theorem dig_one : ∀ v ∈ (digC h rest size).toList, v.oneCell' = true := by
  intro v hv
  unfold digC digL at hv
  simp only [List.mem_append, List.mem_cons, List.not_mem_nil, or_false] at hv
  rcases hv with (hv | hv) | rfl | rfl
  · exact u32C_one _ v hv
  · exact u32C_one _ v hv
  · rfl
  · rfl
end
theorem new_sha_spec (w : World) (C : Value → World → Prop) (hc : ∀ w' d, w.heap.size ≤ d → V.Kp V.Nil w w' → V.Blk w' d (digC Sha.H0 ⟨#[]⟩ 0) 141 → C (.pointer (some ⟨d, 0, none⟩)) w') :
    V.CallsR Try.prog 70 #[.agg tblC] w C := by
  refine V.calls_of_fnVC (args := [_]) Try.func70 ?_
  rw [vc_sha_New]
  simp only [V.nptr_eq, V.vBool_mk, V.vInt_mk, V.vStr_mk, V.vPtr_mk, V.vMap_mk, V.vSlice_mk, V.bnot_eq, V.nilCk_mk, V.aadd_mk, V.size_alloc, V.size_drew, V.size_setCell, V.nmul_eq, V.inat_nat, V.inat_lit, Nat.mul_one, Nat.reduceMul, Nat.reduceAdd, V.and_assoc', V.true_and', V.ifB_t, V.ifB_f, V.isNil_some, V.isNil_none, Bool.not_true, Bool.not_false, Nat.zero_add, Nat.add_zero]
  refine V.ldBig_w (cur := tblC) V.blk (by rw [← Array.length_toList, tblC_len]) ?_
  refine V.ldBig_b (cur := tblC) V.blk (by rw [← Array.length_toList, tblC_len]; omega) ?_
  show V.bldVC Try.prog _ _ _
  have e : V.bldVC Try.prog 141 [(0, .agg tblC), (1, .agg (tblC.extract 64 72))] (fun x7 => C (.pointer (some ⟨w.heap.size + 1, 0, none⟩)) ((w.alloc (.cells tblC 29)).alloc (.cells x7.cells 141))) =
    C (.pointer (some ⟨w.heap.size + 1, 0, none⟩)) ((w.alloc (.cells tblC 29)).alloc (.cells (digC Sha.H0 ⟨#[]⟩ 0) 141)) := by kernel_rfl
  rw [e]
  exact hc _ _ (by omega) V.kp V.blk
set_option maxHeartbeats 1000000 in
theorem write_spec (d : Nat) (h : List Sha.W) (hh : h.length = 8) (rest : ByteArray) (size : Nat) (b : ByteArray) (hs : size + b.size < 18446744073709551616) (hf : rest.size + b.size < 9223372036854775807) (w : World) (hd : V.Blk w d (digC h rest size) 141) (C : Value → World → Prop)
    (hc : ∀ w', V.Blk w' d (digC (Sha.runB ((rest.size + b.size) / 64) h (ls rest ++ ls b)) ⟨((ls rest ++ ls b).drop (64 * ((rest.size + b.size) / 64))).toArray⟩ (size + b.size)) 141 → V.Kp (V.One d) w w' → C (.tuple #[]) w') :
    V.CallsR Try.prog 71 #[.pointer (some ⟨d, 0, none⟩), .string b] w C := by
  refine V.calls_of_fnVC (args := [_, _]) Try.func71 ?_
  rw [vc_sha_Digest_Write]
  simp only [V.nptr_eq, V.vBool_mk, V.vInt_mk, V.vStr_mk, V.vPtr_mk, V.vMap_mk, V.vSlice_mk, V.bnot_eq, V.nilCk_mk, V.aadd_mk, V.size_alloc, V.size_drew, V.size_setCell, V.nmul_eq, V.inat_nat, V.inat_lit, Nat.mul_one, Nat.reduceMul, Nat.reduceAdd, V.and_assoc', V.true_and', V.ifB_t, V.ifB_f, V.isNil_some, V.isNil_none, Bool.not_true, Bool.not_false, Nat.zero_add, Nat.add_zero]
  have g81 := dig_81 hh rest size
  have ds := dig_size hh rest size
  refine V.lI ?_ hd g81
  have e1 : V.iadd .u64 (size : Int) (V.iconv .u64 (V.zi (V.ssize b))) = ((size + b.size : Nat) : Int) := by
    unfold V.iconv V.zi V.ssize V.iadd
    rw [V.wrap_u64 (x := (b.size : Int)) (by omega) (by omega), V.wrap_u64 (by omega) (by omega)]
    omega
  rw [e1]
  refine V.sC ?_ hd (by omega)
  have hd1 := (hd.set 81 (.int .u64 ((size + b.size : Nat) : Int))).to (dig_set81 hh rest size (size + b.size))
  have g80 := dig_80 hh rest (size + b.size)
  refine V.lS ?_ hd1 g80
  refine And.intro (by unfold V.sfits; omega) ?_
  obtain ⟨l, hl⟩ : ∃ l, l = ls rest ++ ls b := ⟨_, rfl⟩
  have ll : l.length = rest.size + b.size := by rw [hl, List.length_append, ls_len, ls_len]
  rw [← hl, ← ll] at hc
  refine ⟨fun x => ⟨fun w' => ∃ k, 64 * k ≤ l.length ∧ ls x = l.drop (64 * k) ∧ V.Blk w' d (digC (Sha.runB k h l) rest (size + b.size)) 141 ∧ V.Kp (V.One d) w w', fun _ => x.size⟩, ⟨0, by omega, by rw [ls_cat, hl]; rfl, hd1, V.kp⟩, ?_⟩
  rintro _ x w1 ⟨k, hk, hx, hd2, kp2⟩
  have xs : x.size = l.length - 64 * k := by rw [← ls_len, hx, List.length_drop]
  have rl : (Sha.runB k h l).length = 8 := Sha.runB_len _ _ _ hh
  have ds2 := dig_size rl rest (size + b.size)
  refine V.ifB_of (fun hq => ?_) (fun hq => ?_) <;> simp only [V.ilt_t, V.ilt_f, V.ile_t, V.ile_f, V.igt_t, V.igt_f, V.ige_t, V.ige_f, V.ieq_t, V.ieq_f, V.ine_t, V.ine_f, V.isNil_t, V.isNil_f, V.bnot_eq, Bool.not_eq_true', Bool.not_eq_false', V.seq_t, V.seq_f, V.zi] at hq
  · have hx64 : 64 ≤ x.size := by unfold V.ssize at hq; omega
    simp only [V.nptr_eq, V.vBool_mk, V.vInt_mk, V.vStr_mk, V.vPtr_mk, V.vMap_mk, V.vSlice_mk, V.bnot_eq, V.nilCk_mk, V.aadd_mk, V.size_alloc, V.size_drew, V.size_setCell, V.nmul_eq, V.inat_nat, V.inat_lit, Nat.mul_one, Nat.reduceMul, Nat.reduceAdd, V.and_assoc', V.true_and', V.ifB_t, V.ifB_f, V.isNil_some, V.isNil_none, Bool.not_true, Bool.not_false, Nat.zero_add, Nat.add_zero]
    refine V.ldBig_b hd2.drew (by omega) ?_
    rw [dig_h rl]
    refine And.intro (by unfold V.inR V.ssize; omega) ?_
    refine step_spec _ rl (V.ssub x 0 64) (by rw [size_sub]; omega) _ d 0 _ _ hd2.drew (dig_tbl rl rest (size + b.size)) _ ?_
    intro w3 k3
    have hd3 := V.Kp.blk k3 hd2.drew (fun e => e)
    rw [V.vArr_mk (by rw [u32C_size, Sha.comp_len])]
    refine V.stBig_b hd3 (by kernel_rfl) (by rw [u32C_size, Sha.comp_len]; kernel_rfl) (by rw [u32C_size, Sha.comp_len]; omega) (u32C_one _) ?_
    intro w4 h4 k4 _
    rw [u32C_size, Sha.comp_len, dig_set_h rl] at h4
    have kp3 : V.Kp (V.One d) w w3 := V.Kp.then (V.kp (w := w)) k3 (fun _ _ e => e.elim)
    refine And.intro (by unfold V.inR V.ssize; omega) ⟨⟨k + 1, by omega, ?_, h4.to ?_, V.Kp.trans kp3 k4⟩, ?_⟩
    · rw [ls_sub, hx, List.drop_drop, List.take_of_length_le (by rw [List.length_drop]; unfold V.ssize; omega)]
      congr 1
    · rw [Sha.runB_add k 1 h l]
      have e3 : (V.ssub x 0 64).data.toList = (l.drop (64 * k)).take 64 := by
        have := ls_sub x 0 64
        unfold ls at this hx
        rw [this, hx]; simp
      rw [e3]
      rfl
    · show (V.ssub x 64 (V.ssize x)).size < x.size
      rw [size_sub]; unfold V.ssize; omega
  · have hx64 : x.size < 64 := by unfold V.ssize at hq; omega
    refine V.sC ?_ hd2 (by omega)
    have hk2 : k = l.length / 64 := by omega
    subst hk2
    refine hc _ ((hd2.set 80 (.string x)).to ?_) V.kp
    rw [dig_set80 rl]
    congr 1
    rw [← hx, mk_ls]
end Go.Proofs.Ytboifenkbhfnfaa
