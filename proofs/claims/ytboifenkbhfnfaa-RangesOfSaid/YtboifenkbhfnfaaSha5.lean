/- sha: contracts: the digest's Sum, Sum. -/
import Derived.Test.YtboifenkbhfnfaaSha4
import Derived.Test.YtboifenkbhfnfaaLayR
set_option linter.all false
set_option maxRecDepth 100000
namespace Go.Proofs.Ytboifenkbhfnfaa
open Go
def tailB (n : Nat) : List UInt8 := [128] ++ List.replicate (Sha.zeros n) 0 ++ Sha.numB (8 * n % 18446744073709551616) 8
theorem tail_len (n : Nat) : (tailB n).length = 9 + Sha.zeros n := by simp [tailB, Sha.numB_len]; omega
theorem padded_eq (l : List UInt8) : Sha.padded l = l ++ tailB l.length := by simp [Sha.padded, tailB]
theorem runB_padded (l : List UInt8) : Sha.runB ((l.length - 64 * (l.length / 64) + (tailB l.length).length) / 64) (Sha.runB (l.length / 64) Sha.H0 l) (l.drop (64 * (l.length / 64)) ++ tailB l.length) = Sha.runB ((Sha.padded l).length / 64) Sha.H0 (Sha.padded l) := by
  have h1 : (Sha.padded l).length / 64 = l.length / 64 + (l.length - 64 * (l.length / 64) + (tailB l.length).length) / 64 := by
    rw [padded_eq, List.length_append]; omega
  rw [h1, Sha.runB_add, padded_eq, Sha.runB_append (l.length / 64) Sha.H0 l (tailB l.length) (by omega), List.drop_append_of_le_length (by omega)]
set_option maxHeartbeats 1000000 in
theorem dsum_spec (d : Nat) (l : List UInt8) (hl : l.length < 1125899906842624) (w : World) (hd : V.Blk w d (digC (Sha.runB (l.length / 64) Sha.H0 l) ⟨(l.drop (64 * (l.length / 64))).toArray⟩ l.length) 141) (C : Value → World → Prop)
    (hc : ∀ w', V.Kp V.Nil w w' → C (.string ⟨(Sha.digest l).toArray⟩) w') :
    V.CallsR Try.prog 72 #[.pointer (some ⟨d, 0, none⟩)] w C := by
  obtain ⟨h, hh⟩ : ∃ h, h = Sha.runB (l.length / 64) Sha.H0 l := ⟨_, rfl⟩
  have h8 : h.length = 8 := by rw [hh]; exact Sha.runB_len _ _ _ rfl
  obtain ⟨rest, hr⟩ : ∃ rest : ByteArray, rest = ⟨(l.drop (64 * (l.length / 64))).toArray⟩ := ⟨_, rfl⟩
  have lr : ls rest = l.drop (64 * (l.length / 64)) := by rw [hr]; rfl
  have sr : rest.size = l.length - 64 * (l.length / 64) := by rw [← ls_len, lr, List.length_drop]
  rw [← hh, ← hr] at hd
  have hlt := hd.lt
  refine V.calls_of_fnVC (args := [_]) Try.func72 ?_
  rw [vc_sha_Digest_Sum]
  simp only [V.nptr_eq, V.vBool_mk, V.vInt_mk, V.vStr_mk, V.vPtr_mk, V.vMap_mk, V.vSlice_mk, V.bnot_eq, V.nilCk_mk, V.aadd_mk, V.size_alloc, V.size_drew, V.size_setCell, V.nmul_eq, V.inat_nat, V.inat_lit, Nat.mul_one, Nat.reduceMul, Nat.reduceAdd, V.and_assoc', V.true_and', V.ifB_t, V.ifB_f, V.isNil_some, V.isNil_none, Bool.not_true, Bool.not_false, Nat.zero_add, Nat.add_zero]
  have ds := dig_size h8 rest l.length
  refine V.ldBig_w hd ds ?_
  have zc : (V.zcells Try.prog 141).size = 82 := by kernel_rfl
  refine V.stBig_w (cur := V.zcells Try.prog 141) V.blk (by kernel_rfl) (by rw [ds]; kernel_rfl) (by rw [ds, zc]) (dig_one h8 _ _) ?_
  intro w1 h1 k1 z1
  rw [V.size_alloc] at z1
  have kp1 : V.Kp V.Nil w w1 := V.Kp.then (V.kp (w := w)) k1 (fun i hi e => by have e : i = _ := e; omega)
  have hd1 := V.Kp.blk kp1 hd (fun e => e)
  have g80 := dig_80 h8 rest l.length
  have g81 := dig_81 h8 rest l.length
  refine V.lS ?_ h1 g80
  refine And.intro (by unfold V.inz; omega) ?_
  refine V.lI ?_ hd1.drew g81
  have e1 : V.irem (V.isub .i64 119 (V.zi (V.ssize rest))) 64 = ((Sha.zeros l.length : Nat) : Int) := by
    unfold V.irem V.zi V.ssize Sha.zeros
    rw [V.isub_i64 (by omega) (by omega), Int.tmod_eq_emod_of_nonneg (by omega)]
    omega
  rw [e1]
  refine repeat_spec 0 _ (by unfold Sha.zeros; omega) _ _ ?_
  intro w2 k2
  have h2 := V.Kp.blk k2 h1.drew (fun e => e)
  have hd2 := V.Kp.blk k2 hd1.drew (fun e => e)
  have kp2 : V.Kp V.Nil w w2 := V.Kp.trans (V.kp (w := w)) k2
  have e2 : V.imul .u64 8 (l.length : Int) = ((8 * l.length : Nat) : Int) := by unfold V.imul; rw [V.wrap_u64 (by omega) (by omega)]; omega
  have zl : Sha.zeros l.length < 64 := by unfold Sha.zeros; omega
  simp only [V.nptr_eq, V.vBool_mk, V.vInt_mk, V.vStr_mk, V.vPtr_mk, V.vMap_mk, V.vSlice_mk, V.bnot_eq, V.nilCk_mk, V.aadd_mk, V.size_alloc, V.size_drew, V.size_setCell, V.nmul_eq, V.inat_nat, V.inat_lit, Nat.mul_one, Nat.reduceMul, Nat.reduceAdd, V.and_assoc', V.true_and', V.ifB_t, V.ifB_f, V.isNil_some, V.isNil_none, Bool.not_true, Bool.not_false, Nat.zero_add, Nat.add_zero]
  refine And.intro (V.hC hd2 g81) (And.intro ?_ ?_)
  · unfold V.sfits; rw [← ls_len, ← ls_len, ls_mk, ls_mk]; simp; omega
  rw [e2]
  refine number_spec (8 * l.length) 8 (by omega) (by omega) (by omega) _ _ ?_
  intro w3 k3
  have h3 := V.Kp.blk k3 h2 (fun e => e)
  have kp3 : V.Kp V.Nil w w3 := V.Kp.trans kp2 k3
  simp only [V.nptr_eq, V.vBool_mk, V.vInt_mk, V.vStr_mk, V.vPtr_mk, V.vMap_mk, V.vSlice_mk, V.bnot_eq, V.nilCk_mk, V.aadd_mk, V.size_alloc, V.size_drew, V.size_setCell, V.nmul_eq, V.inat_nat, V.inat_lit, Nat.mul_one, Nat.reduceMul, Nat.reduceAdd, V.and_assoc', V.true_and', V.ifB_t, V.ifB_f, V.isNil_some, V.isNil_none, Bool.not_true, Bool.not_false, Nat.zero_add, Nat.add_zero]
  have e3 : V.scat (V.scat ⟨#[128]⟩ ⟨(List.replicate (Sha.zeros l.length) 0).toArray⟩) ⟨(Sha.numB (8 * l.length) 8).toArray⟩ = ⟨(tailB l.length).toArray⟩ := by
    apply ls_inj
    rw [ls_cat, ls_cat, ls_mk, ls_mk, ls_mk, tailB, Nat.mod_eq_of_lt (by omega)]
    rfl
  have ts : (⟨(tailB l.length).toArray⟩ : ByteArray).size = 9 + Sha.zeros l.length := by rw [← ls_len, ls_mk, tail_len]
  refine And.intro ?_ ?_
  · unfold V.sfits; rw [size_cat, ← ls_len, ← ls_len, ← ls_len, ls_mk, ls_mk, ls_mk, Sha.numB_len]; simp; omega
  rw [e3]
  refine write_spec w.heap.size h h8 rest l.length ⟨(tailB l.length).toArray⟩ (by omega) (by omega) w3 h3 _ ?_
  intro w4 h4 k4
  have kp4 : V.Kp V.Nil w w4 := V.Kp.then kp3 k4 (fun i hi e => by have e : i = _ := e; omega)
  obtain ⟨o, ho⟩ : ∃ o, o = Sha.runB ((Sha.padded l).length / 64) Sha.H0 (Sha.padded l) := ⟨_, rfl⟩
  have o8 : o.length = 8 := by rw [ho]; exact Sha.runB_len _ _ _ rfl
  rw [lr, ls_mk, sr, ts, hh, ← tail_len, runB_padded l, ← ho] at h4
  have do4 := dig_size o8 ⟨(List.drop (64 * ((l.length - 64 * (l.length / 64) + (tailB l.length).length) / 64)) (List.drop (64 * (l.length / 64)) l ++ tailB l.length)).toArray⟩ (l.length + (tailB l.length).length)
  refine V.ldBig_b h4 (by omega) ?_
  rw [dig_h o8]
  have dg : Sha.digest l = Sha.outB o := by rw [ho]; rfl
  rw [dg] at hc
  have ob : ∀ k, k < 8 → Sha.outB (o.take (k + 1)) = Sha.outB (o.take k) ++ Sha.numB (Sha.g o k).toNat 4 := fun k hk => by
    unfold Sha.outB
    rw [List.take_succ_eq_append_getElem (by omega), List.flatMap_append]
    simp [Sha.g, show k < o.length by omega]
  refine ⟨fun s i => ⟨fun w' => ∃ k : Nat, i = k ∧ k ≤ 8 ∧ ls s = Sha.outB (o.take k) ∧ V.Kp V.Nil w w', fun _ => 8 - i.toNat⟩, ⟨0, rfl, by omega, rfl, kp4⟩, ?_⟩
  rintro _ s i w5 ⟨k, rfl, hk, hs, kp5⟩
  have sl : s.size = 4 * k := by
    rw [← ls_len, hs]; unfold Sha.outB
    rw [List.length_flatMap, List.map_congr_left (g := fun _ => 4) (fun x _ => Sha.numB_len _ _), List.map_const', List.sum_replicate_nat, List.length_take]
    omega
  refine V.ifB_of (fun hq => ?_) (fun hq => ?_) <;> simp only [V.ilt_t, V.ilt_f, V.ile_t, V.ile_f, V.igt_t, V.igt_f, V.ige_t, V.ige_f, V.ieq_t, V.ieq_f, V.ine_t, V.ine_f, V.isNil_t, V.isNil_f, V.bnot_eq, Bool.not_eq_true', Bool.not_eq_false', V.seq_t, V.seq_f, V.zi] at hq
  · have hk8 : k < 8 := by omega
    have gw : V.partV Try.prog 25 (u32C o) (V.inat (k : Int)) = some (.int .u32 (V.bI (Sha.g o k))) := by
      rw [V.partV_int Try.underlying25, V.inat_nat, u32C_get (by omega)]
    refine And.intro (by simp only [V.inX]; omega) (Exists.intro _ (And.intro gw ?_))
    rw [V.vInt_mk, V.iconv32_64]
    refine number_spec _ 4 (by have := (Sha.g o k).isLt; omega) (by omega) (by omega) _ _ ?_
    intro w6 k6
    simp only [V.nptr_eq, V.vBool_mk, V.vInt_mk, V.vStr_mk, V.vPtr_mk, V.vMap_mk, V.vSlice_mk, V.bnot_eq, V.nilCk_mk, V.aadd_mk, V.size_alloc, V.size_drew, V.size_setCell, V.nmul_eq, V.inat_nat, V.inat_lit, Nat.mul_one, Nat.reduceMul, Nat.reduceAdd, V.and_assoc', V.true_and', V.ifB_t, V.ifB_f, V.isNil_some, V.isNil_none, Bool.not_true, Bool.not_false, Nat.zero_add, Nat.add_zero]
    have e5 : V.iadd .i64 (k : Int) 1 = ((k + 1 : Nat) : Int) := by rw [V.iadd_i64 (by omega) (by omega)]; omega
    rw [e5]
    refine And.intro ?_ ⟨⟨k + 1, rfl, by omega, ?_, V.Kp.trans kp5 k6⟩, by show 8 - ((k + 1 : Nat) : Int).toNat < 8 - (k : Int).toNat; omega⟩
    · unfold V.sfits; rw [sl, ← ls_len, ls_mk, Sha.numB_len]; omega
    · rw [ls_cat, hs, ls_mk, ob k hk8]
  · obtain rfl : k = 8 := by omega
    rw [List.take_of_length_le (by omega)] at hs
    have := hc w5 kp5
    rw [← hs, mk_ls] at this
    exact this
/-- the digest of bytes -/
theorem sum_spec (b : ByteArray) (hb : b.size < 1125899906842624) (w : World) (C : Value → World → Prop) (hc : ∀ w', V.Kp V.Nil w w' → C (.string (Sha.sum b)) w') :
    V.CallsR Try.prog 41 #[.agg tblC, .string b] w C := by
  refine V.calls_of_fnVC (args := [_, _]) Try.func41 ?_
  rw [vc_sha_Sum]
  simp only [V.nptr_eq, V.vBool_mk, V.vInt_mk, V.vStr_mk, V.vPtr_mk, V.vMap_mk, V.vSlice_mk, V.bnot_eq, V.nilCk_mk, V.aadd_mk, V.size_alloc, V.size_drew, V.size_setCell, V.nmul_eq, V.inat_nat, V.inat_lit, Nat.mul_one, Nat.reduceMul, Nat.reduceAdd, V.and_assoc', V.true_and', V.ifB_t, V.ifB_f, V.isNil_some, V.isNil_none, Bool.not_true, Bool.not_false, Nat.zero_add, Nat.add_zero]
  refine V.ldBig_w (cur := tblC) V.blk (by rw [← Array.length_toList, tblC_len]) ?_
  refine new_sha_spec _ _ ?_
  intro w1 d hd k1 h1
  rw [V.size_alloc] at hd
  have kp1 : V.Kp V.Nil w w1 := V.Kp.trans (V.kp (w := w)) k1
  simp only [V.nptr_eq, V.vBool_mk, V.vInt_mk, V.vStr_mk, V.vPtr_mk, V.vMap_mk, V.vSlice_mk, V.bnot_eq, V.nilCk_mk, V.aadd_mk, V.size_alloc, V.size_drew, V.size_setCell, V.nmul_eq, V.inat_nat, V.inat_lit, Nat.mul_one, Nat.reduceMul, Nat.reduceAdd, V.and_assoc', V.true_and', V.ifB_t, V.ifB_f, V.isNil_some, V.isNil_none, Bool.not_true, Bool.not_false, Nat.zero_add, Nat.add_zero]
  refine write_spec d Sha.H0 rfl ⟨#[]⟩ 0 b (by omega) (by show 0 + b.size < _; omega) w1 h1 _ ?_
  intro w2 h2 k2
  have kp2 : V.Kp V.Nil w w2 := V.Kp.then kp1 k2 (fun i hi e => by have e : i = _ := e; omega)
  have e1 : ls ⟨#[]⟩ ++ ls b = ls b := rfl
  have e2 : (⟨#[]⟩ : ByteArray).size + b.size = (ls b).length := by rw [ls_len]; show 0 + b.size = _; omega
  have e3 : 0 + b.size = (ls b).length := by rw [ls_len]; omega
  rw [e1, e2, e3] at h2
  refine dsum_spec d (ls b) (by rw [ls_len]; exact hb) w2 h2 _ ?_
  intro w3 k3
  simp only [V.nptr_eq, V.vBool_mk, V.vInt_mk, V.vStr_mk, V.vPtr_mk, V.vMap_mk, V.vSlice_mk, V.bnot_eq, V.nilCk_mk, V.aadd_mk, V.size_alloc, V.size_drew, V.size_setCell, V.nmul_eq, V.inat_nat, V.inat_lit, Nat.mul_one, Nat.reduceMul, Nat.reduceAdd, V.and_assoc', V.true_and', V.ifB_t, V.ifB_f, V.isNil_some, V.isNil_none, Bool.not_true, Bool.not_false, Nat.zero_add, Nat.add_zero]
  exact hc w3 (V.Kp.trans kp2 k3)
end Go.Proofs.Ytboifenkbhfnfaa
