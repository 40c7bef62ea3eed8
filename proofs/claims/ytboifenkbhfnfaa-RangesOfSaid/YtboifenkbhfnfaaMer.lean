/- merkle and the reference's trees: contracts. -/
import Derived.Test.YtboifenkbhfnfaaVMerkle
import Derived.Test.YtboifenkbhfnfaaVRef04
import Derived.Test.YtboifenkbhfnfaaSha7
import Derived.Test.YtboifenkbhfnfaaRefS3
import Derived.Test.YtboifenkbhfnfaaSt
import Derived.Test.YtboifenkbhfnfaaMerP
set_option linter.all false
set_option maxRecDepth 100000
namespace Go.Proofs.Ytboifenkbhfnfaa
open Go
theorem tbl_size : tblC.size = 72 := by rw [← Array.length_toList, tblC_len]
theorem refH_spec (b : ByteArray) (hb : b.size < 100000000000000) (w : World) (C : Value → World → Prop) (hc : ∀ w', V.Kp V.Nil w w' → C (.string (Sha.sum b)) w') :
    V.CallsR Try.prog 28 #[.string b] w C := by
  refine V.calls_of_fnVC (args := [_]) Try.func28 ?_
  rw [vc_annalistref04_H]
  refine rsum_spec b hb w _ ?_
  intro w1 k1
  simp only [V.nptr_eq, V.vBool_mk, V.vInt_mk, V.vStr_mk, V.vPtr_mk, V.vMap_mk, V.vSlice_mk, V.bnot_eq, V.nilCk_mk, V.aadd_mk, V.size_alloc, V.size_drew, V.size_setCell, V.nmul_eq, V.inat_nat, V.inat_lit, Nat.mul_one, Nat.reduceMul, Nat.reduceAdd, V.and_assoc', V.true_and', V.ifB_t, V.ifB_f, V.isNil_some, V.isNil_none, Bool.not_true, Bool.not_false, Nat.zero_add, Nat.add_zero]
  exact hc w1 k1
theorem leaf_spec (b : ByteArray) (hb : b.size < 100000000) (w : World) (C : Value → World → Prop) (hc : ∀ w', V.Kp V.Nil w w' → C (.string (Mk.leaf b)) w') :
    V.CallsR Try.prog 48 #[.agg tblC, .string b] w C := by
  refine V.calls_of_fnVC (args := [_, _]) Try.func48 ?_
  rw [vc_merkle_Leaf]
  have ts := tbl_size
  simp only [V.nptr_eq, V.vBool_mk, V.vInt_mk, V.vStr_mk, V.vPtr_mk, V.vMap_mk, V.vSlice_mk, V.bnot_eq, V.nilCk_mk, V.aadd_mk, V.size_alloc, V.size_drew, V.size_setCell, V.nmul_eq, V.inat_nat, V.inat_lit, Nat.mul_one, Nat.reduceMul, Nat.reduceAdd, V.and_assoc', V.true_and', V.ifB_t, V.ifB_f, V.isNil_some, V.isNil_none, Bool.not_true, Bool.not_false, Nat.zero_add, Nat.add_zero]
  repeat (first | with_reducible refine V.lI ?_ | with_reducible refine V.lS ?_ | with_reducible refine V.lP ?_ | with_reducible refine V.lL ?_ | with_reducible refine V.lM ?_ | with_reducible refine V.lB ?_ | with_reducible refine V.sC ?_ | with_reducible refine V.lG ?_ | ((with_reducible refine And.intro ?_ ?_); (· first | with_reducible exact V.hC | with_reducible exact V.hB | (simp only [V.inX, V.inR, V.inz, V.ige0, V.zi]; omega))) | simp only [V.nptr_eq, V.vBool_mk, V.vInt_mk, V.vStr_mk, V.vPtr_mk, V.vMap_mk, V.vSlice_mk, V.bnot_eq, V.nilCk_mk, V.aadd_mk, V.size_alloc, V.size_drew, V.size_setCell, V.nmul_eq, V.inat_nat, V.inat_lit, Nat.mul_one, Nat.reduceMul, Nat.reduceAdd, V.and_assoc', V.true_and', V.ifB_t, V.ifB_f, V.isNil_some, V.isNil_none, Bool.not_true, Bool.not_false, Nat.zero_add, Nat.add_zero])
  refine And.intro (by unfold V.sfits; rw [show (ByteArray.mk #[0]).size = 1 from rfl]; omega) ?_
  refine sum_spec _ (by rw [size_cat, show (ByteArray.mk #[0]).size = 1 from rfl]; omega) _ _ ?_
  intro w1 k1
  simp only [V.nptr_eq, V.vBool_mk, V.vInt_mk, V.vStr_mk, V.vPtr_mk, V.vMap_mk, V.vSlice_mk, V.bnot_eq, V.nilCk_mk, V.aadd_mk, V.size_alloc, V.size_drew, V.size_setCell, V.nmul_eq, V.inat_nat, V.inat_lit, Nat.mul_one, Nat.reduceMul, Nat.reduceAdd, V.and_assoc', V.true_and', V.ifB_t, V.ifB_f, V.isNil_some, V.isNil_none, Bool.not_true, Bool.not_false, Nat.zero_add, Nat.add_zero]
  exact hc w1 (V.Kp.trans V.kp k1)
theorem mpair_spec (a b : ByteArray) (ha : a.size < 100000000) (hb : b.size < 100000000) (w : World) (C : Value → World → Prop) (hc : ∀ w', V.Kp V.Nil w w' → C (.string (Mk.node a b)) w') :
    V.CallsR Try.prog 45 #[.agg tblC, .string a, .string b] w C := by
  refine V.calls_of_fnVC (args := [_, _, _]) Try.func45 ?_
  rw [vc_merkle_pair]
  have ts := tbl_size
  have s1 : (ByteArray.mk #[1]).size = 1 := rfl
  simp only [V.nptr_eq, V.vBool_mk, V.vInt_mk, V.vStr_mk, V.vPtr_mk, V.vMap_mk, V.vSlice_mk, V.bnot_eq, V.nilCk_mk, V.aadd_mk, V.size_alloc, V.size_drew, V.size_setCell, V.nmul_eq, V.inat_nat, V.inat_lit, Nat.mul_one, Nat.reduceMul, Nat.reduceAdd, V.and_assoc', V.true_and', V.ifB_t, V.ifB_f, V.isNil_some, V.isNil_none, Bool.not_true, Bool.not_false, Nat.zero_add, Nat.add_zero]
  repeat (first | with_reducible refine V.lI ?_ | with_reducible refine V.lS ?_ | with_reducible refine V.lP ?_ | with_reducible refine V.lL ?_ | with_reducible refine V.lM ?_ | with_reducible refine V.lB ?_ | with_reducible refine V.sC ?_ | with_reducible refine V.lG ?_ | ((with_reducible refine And.intro ?_ ?_); (· first | with_reducible exact V.hC | with_reducible exact V.hB | (simp only [V.inX, V.inR, V.inz, V.ige0, V.zi]; omega))) | simp only [V.nptr_eq, V.vBool_mk, V.vInt_mk, V.vStr_mk, V.vPtr_mk, V.vMap_mk, V.vSlice_mk, V.bnot_eq, V.nilCk_mk, V.aadd_mk, V.size_alloc, V.size_drew, V.size_setCell, V.nmul_eq, V.inat_nat, V.inat_lit, Nat.mul_one, Nat.reduceMul, Nat.reduceAdd, V.and_assoc', V.true_and', V.ifB_t, V.ifB_f, V.isNil_some, V.isNil_none, Bool.not_true, Bool.not_false, Nat.zero_add, Nat.add_zero])
  refine And.intro (by unfold V.sfits; omega) (And.intro (by unfold V.sfits; rw [size_cat]; omega) ?_)
  refine sum_spec _ (by rw [size_cat, size_cat]; omega) _ _ ?_
  intro w1 k1
  simp only [V.nptr_eq, V.vBool_mk, V.vInt_mk, V.vStr_mk, V.vPtr_mk, V.vMap_mk, V.vSlice_mk, V.bnot_eq, V.nilCk_mk, V.aadd_mk, V.size_alloc, V.size_drew, V.size_setCell, V.nmul_eq, V.inat_nat, V.inat_lit, Nat.mul_one, Nat.reduceMul, Nat.reduceAdd, V.and_assoc', V.true_and', V.ifB_t, V.ifB_f, V.isNil_some, V.isNil_none, Bool.not_true, Bool.not_false, Nat.zero_add, Nat.add_zero]
  exact hc w1 (V.Kp.trans V.kp k1)
theorem split_spec (n : Nat) (h2 : 2 ≤ n) (hn : n ≤ 1000000000) (w : World) (C : Value → World → Prop) (hc : C (.int .i64 (Mk.split n : Int)) w) : V.CallsR Try.prog 44 #[.int .i64 (n : Int)] w C := by
  refine V.calls_of_fnVC (args := [_]) Try.func44 ?_
  rw [vc_merkle_split]
  refine ⟨fun x => ⟨fun w' => w' = w ∧ ∃ k f : Nat, x = (k : Int) ∧ 0 < k ∧ k < n ∧ n ≤ k + f ∧ Mk.splitF f k n = Mk.split n, fun _ => n - x.toNat⟩, ⟨rfl, 1, n, rfl, by omega, by omega, by omega, rfl⟩, ?_⟩
  rintro _ x w1 ⟨rfl, k, f, rfl, h0, hk, hf, he⟩
  have e1 : V.imul .i64 2 (k : Int) = ((2 * k : Nat) : Int) := by rw [V.imul_i64 (by omega) (by omega)]; omega
  have e2 : V.imul .i64 (k : Int) 2 = ((k * 2 : Nat) : Int) := by rw [V.imul_i64 (by omega) (by omega)]; omega
  rw [e1, e2]
  obtain ⟨f, rfl⟩ : ∃ f', f = f' + 1 := ⟨f - 1, by omega⟩
  rw [Mk.splitF] at he
  refine V.ifB_of (fun hq => ?_) (fun hq => ?_) <;> simp only [V.ilt_t, V.ilt_f, V.ile_t, V.ile_f, V.igt_t, V.igt_f, V.ige_t, V.ige_f, V.ieq_t, V.ieq_f, V.ine_t, V.ine_f, V.isNil_t, V.isNil_f, V.bnot_eq, Bool.not_eq_true', Bool.not_eq_false', V.seq_t, V.seq_f] at hq
  · rw [if_pos (by omega)] at he
    refine ⟨⟨rfl, k * 2, f, rfl, by omega, by omega, by omega, he⟩, ?_⟩
    show n - ((k * 2 : Nat) : Int).toNat < n - (k : Int).toNat
    rw [Int.toNat_natCast, Int.toNat_natCast]; omega
  · rw [if_neg (by omega)] at he
    rw [← he] at hc
    exact hc
/-- the reference's half is the same, up to 64 -/
theorem half_eq : ∀ n : Fin 65, 2 ≤ n.val → ∀ k : Fin 7, (2 ^ k.val < n.val ∧ n.val ≤ 2 ^ (k.val + 1)) → Mk.split n.val = 2 ^ k.val := by decide +kernel
theorem half_spec (n : Nat) (h2 : 2 ≤ n) (hn : n ≤ 64) (w : World) (C : Value → World → Prop) (hc : C (.int .i64 (Mk.split n : Int)) w) : V.CallsR Try.prog 56 #[.int .i64 (n : Int)] w C := by
  refine V.calls_of_fnVC (args := [_]) Try.func56 ?_
  rw [vc_annalistref04_half]
  refine ⟨fun x => ⟨fun w' => w' = w ∧ ∃ k : Nat, x = ((2 ^ k : Nat) : Int) ∧ k ≤ 6 ∧ n ≤ 2 ^ (k + 1), fun _ => x.toNat⟩, ⟨rfl, 6, rfl, by omega, by omega⟩, ?_⟩
  rintro _ x w1 ⟨rfl, k, rfl, hk, hnk⟩
  refine V.ifB_of (fun hq => ?_) (fun hq => ?_) <;> simp only [V.ilt_t, V.ilt_f, V.ile_t, V.ile_f, V.igt_t, V.igt_f, V.ige_t, V.ige_f, V.ieq_t, V.ieq_f, V.ine_t, V.ine_f, V.isNil_t, V.isNil_f, V.bnot_eq, Bool.not_eq_true', Bool.not_eq_false', V.seq_t, V.seq_f] at hq
  · refine And.intro (by unfold V.inz; omega) ?_
    obtain ⟨k, rfl⟩ : ∃ k', k = k' + 1 := ⟨k - 1, by
      rcases Nat.eq_zero_or_pos k with h | h
      · subst h; simp at hq; omega
      · omega⟩
    have e : V.iquo .i64 ((2 ^ (k + 1) : Nat) : Int) 2 = ((2 ^ k : Nat) : Int) := by
      unfold V.iquo
      rw [show (2 : Int) = ((2 : Nat) : Int) from rfl, IntWalk.up_tdiv rfl rfl]
      have e2 : 2 ^ (k + 1) / 2 = 2 ^ k := by rw [Nat.pow_succ]; omega
      have : 2 ^ k ≤ 2 ^ 6 := Nat.pow_le_pow_right (by omega) (by omega)
      rw [e2]
      exact V.wrap_i64 (by omega) (by omega)
    rw [e]
    refine ⟨⟨rfl, k, rfl, by omega, by omega⟩, ?_⟩
    show ((2 ^ k : Nat) : Int).toNat < ((2 ^ (k + 1) : Nat) : Int).toNat
    rw [Int.toNat_natCast, Int.toNat_natCast, Nat.pow_succ]
    have := Nat.two_pow_pos k
    omega
  · have := half_eq ⟨n, by omega⟩ h2 ⟨k, by omega⟩ ⟨by simp only; omega, hnk⟩
    simp only at this
    rw [this] at hc
    exact hc
/-- merkle.Root -/
theorem mroot_spec : ∀ (N : Nat) (xs : List ByteArray), xs.length = N → N ≤ 1000000 → (∀ x ∈ xs, x.size ≤ 1000000) → ∀ (p : Option Addr) (n c : Nat) (w : World), n = xs.length → n ≤ c → StrAt w p xs → ∀ (C : Value → World → Prop), (∀ w', V.Kp V.Nil w w' → C (.string (Mk.root xs)) w') →
    V.CallsR Try.prog 17 #[.agg tblC, .slice p n c] w C := by
  intro N
  induction N using Nat.strongRecOn with
  | _ N ih =>
    intro xs hN hN2 hB p n c w hn hc hs C hC
    refine V.calls_of_fnVC (args := [_, _]) Try.func17 ?_
    rw [vc_merkle_Root]
    have ts := tbl_size
    refine V.ifB_of (fun hq => ?_) (fun hq => ?_) <;> simp only [V.ilt_t, V.ilt_f, V.ile_t, V.ile_f, V.igt_t, V.igt_f, V.ige_t, V.ige_f, V.ieq_t, V.ieq_f, V.ine_t, V.ine_f, V.isNil_t, V.isNil_f, V.bnot_eq, Bool.not_eq_true', Bool.not_eq_false', V.seq_t, V.seq_f, V.zi] at hq
    · have : xs = [] := List.eq_nil_of_length_eq_zero (by omega)
      subst this
      simp only [V.nptr_eq, V.vBool_mk, V.vInt_mk, V.vStr_mk, V.vPtr_mk, V.vMap_mk, V.vSlice_mk, V.bnot_eq, V.nilCk_mk, V.aadd_mk, V.size_alloc, V.size_drew, V.size_setCell, V.nmul_eq, V.inat_nat, V.inat_lit, Nat.mul_one, Nat.reduceMul, Nat.reduceAdd, V.and_assoc', V.true_and', V.ifB_t, V.ifB_f, V.isNil_some, V.isNil_none, Bool.not_true, Bool.not_false, Nat.zero_add, Nat.add_zero]
      repeat (first | with_reducible refine V.lI ?_ | with_reducible refine V.lS ?_ | with_reducible refine V.lP ?_ | with_reducible refine V.lL ?_ | with_reducible refine V.lM ?_ | with_reducible refine V.lB ?_ | with_reducible refine V.sC ?_ | with_reducible refine V.lG ?_ | ((with_reducible refine And.intro ?_ ?_); (· first | with_reducible exact V.hC | with_reducible exact V.hB | (simp only [V.inX, V.inR, V.inz, V.ige0, V.zi]; omega))) | simp only [V.nptr_eq, V.vBool_mk, V.vInt_mk, V.vStr_mk, V.vPtr_mk, V.vMap_mk, V.vSlice_mk, V.bnot_eq, V.nilCk_mk, V.aadd_mk, V.size_alloc, V.size_drew, V.size_setCell, V.nmul_eq, V.inat_nat, V.inat_lit, Nat.mul_one, Nat.reduceMul, Nat.reduceAdd, V.and_assoc', V.true_and', V.ifB_t, V.ifB_f, V.isNil_some, V.isNil_none, Bool.not_true, Bool.not_false, Nat.zero_add, Nat.add_zero])
      refine sum_spec _ (by decide) _ _ ?_
      intro w1 k1
      simp only [V.nptr_eq, V.vBool_mk, V.vInt_mk, V.vStr_mk, V.vPtr_mk, V.vMap_mk, V.vSlice_mk, V.bnot_eq, V.nilCk_mk, V.aadd_mk, V.size_alloc, V.size_drew, V.size_setCell, V.nmul_eq, V.inat_nat, V.inat_lit, Nat.mul_one, Nat.reduceMul, Nat.reduceAdd, V.and_assoc', V.true_and', V.ifB_t, V.ifB_f, V.isNil_some, V.isNil_none, Bool.not_true, Bool.not_false, Nat.zero_add, Nat.add_zero]
      rw [Mk.root_nil] at hC
      exact hC w1 (V.Kp.trans V.kp k1)
    refine V.ifB_of (fun hq2 => ?_) (fun hq2 => ?_) <;> simp only [V.ilt_t, V.ilt_f, V.ile_t, V.ile_f, V.igt_t, V.igt_f, V.ige_t, V.ige_f, V.ieq_t, V.ieq_f, V.ine_t, V.ine_f, V.isNil_t, V.isNil_f, V.bnot_eq, Bool.not_eq_true', Bool.not_eq_false', V.seq_t, V.seq_f, V.zi] at hq2
    · obtain ⟨x, rfl⟩ : ∃ x, xs = [x] := List.length_eq_one_iff.1 (by omega)
      rw [Mk.root_one] at hC
      exact (hs.keep (V.Kp.alloc (V.Kp.refl _ _) _)).load (i := 0) hn rfl (hC _ V.kp)
    have h2 : 2 ≤ n := by omega
    have s1 := Mk.split_lt h2
    have s0 := Mk.split_pos h2
    rw [show V.zi n = (n : Int) from rfl]
    refine split_spec n h2 (by omega) _ _ ?_
    simp only [V.nptr_eq, V.vBool_mk, V.vInt_mk, V.vStr_mk, V.vPtr_mk, V.vMap_mk, V.vSlice_mk, V.bnot_eq, V.nilCk_mk, V.aadd_mk, V.size_alloc, V.size_drew, V.size_setCell, V.nmul_eq, V.inat_nat, V.inat_lit, Nat.mul_one, Nat.reduceMul, Nat.reduceAdd, V.and_assoc', V.true_and', V.ifB_t, V.ifB_f, V.isNil_some, V.isNil_none, Bool.not_true, Bool.not_false, Nat.zero_add, Nat.add_zero]
    repeat (first | with_reducible refine V.lI ?_ | with_reducible refine V.lS ?_ | with_reducible refine V.lP ?_ | with_reducible refine V.lL ?_ | with_reducible refine V.lM ?_ | with_reducible refine V.lB ?_ | with_reducible refine V.sC ?_ | with_reducible refine V.lG ?_ | ((with_reducible refine And.intro ?_ ?_); (· first | with_reducible exact V.hC | with_reducible exact V.hB | (simp only [V.inX, V.inR, V.inz, V.ige0, V.zi]; omega))) | simp only [V.nptr_eq, V.vBool_mk, V.vInt_mk, V.vStr_mk, V.vPtr_mk, V.vMap_mk, V.vSlice_mk, V.bnot_eq, V.nilCk_mk, V.aadd_mk, V.size_alloc, V.size_drew, V.size_setCell, V.nmul_eq, V.inat_nat, V.inat_lit, Nat.mul_one, Nat.reduceMul, Nat.reduceAdd, V.and_assoc', V.true_and', V.ifB_t, V.ifB_f, V.isNil_some, V.isNil_none, Bool.not_true, Bool.not_false, Nat.zero_add, Nat.add_zero])
    have hs1 : StrAt (w.alloc (.cells tblC 29)).drew p xs := hs.keep V.kp
    have en : V.nsub (Mk.split n) 0 = Mk.split n := by unfold V.nsub; omega
    rw [en]
    refine ih (Mk.split n) (by omega) (xs.take (Mk.split n)) (by rw [List.length_take]; omega) (by omega) (fun x hx => hB x (List.mem_of_mem_take hx)) _ _ _ _ (by rw [List.length_take]; omega) (by unfold V.nsub; omega) ?_ _ ?_
    · have := hs1.sub (c := c) (by omega) 0 (Mk.split n)
      simpa using this
    intro w2 k2
    have b2 : V.Blk w2 w.heap.size tblC 29 := V.Kp.blk k2 V.blk (fun e => e)
    repeat (first | with_reducible refine V.lI ?_ | with_reducible refine V.lS ?_ | with_reducible refine V.lP ?_ | with_reducible refine V.lL ?_ | with_reducible refine V.lM ?_ | with_reducible refine V.lB ?_ | with_reducible refine V.sC ?_ | with_reducible refine V.lG ?_ | ((with_reducible refine And.intro ?_ ?_); (· first | with_reducible exact V.hC | with_reducible exact V.hB | (simp only [V.inX, V.inR, V.inz, V.ige0, V.zi]; omega))) | simp only [V.nptr_eq, V.vBool_mk, V.vInt_mk, V.vStr_mk, V.vPtr_mk, V.vMap_mk, V.vSlice_mk, V.bnot_eq, V.nilCk_mk, V.aadd_mk, V.size_alloc, V.size_drew, V.size_setCell, V.nmul_eq, V.inat_nat, V.inat_lit, Nat.mul_one, Nat.reduceMul, Nat.reduceAdd, V.and_assoc', V.true_and', V.ifB_t, V.ifB_f, V.isNil_some, V.isNil_none, Bool.not_true, Bool.not_false, Nat.zero_add, Nat.add_zero])
    refine ih (n - Mk.split n) (by omega) (xs.drop (Mk.split n)) (by rw [List.length_drop]; omega) (by omega) (fun x hx => hB x (List.mem_of_mem_drop hx)) _ _ _ _ (by unfold V.nsub; rw [List.length_drop]; omega) (by unfold V.nsub; omega) ?_ _ ?_
    · exact (hs1.keep k2).drop (by omega) _
    intro w3 k3
    have b3 : V.Blk w3 w.heap.size tblC 29 := V.Kp.blk k3 b2 (fun e => e)
    repeat (first | with_reducible refine V.lI ?_ | with_reducible refine V.lS ?_ | with_reducible refine V.lP ?_ | with_reducible refine V.lL ?_ | with_reducible refine V.lM ?_ | with_reducible refine V.lB ?_ | with_reducible refine V.sC ?_ | with_reducible refine V.lG ?_ | ((with_reducible refine And.intro ?_ ?_); (· first | with_reducible exact V.hC | with_reducible exact V.hB | (simp only [V.inX, V.inR, V.inz, V.ige0, V.zi]; omega))) | simp only [V.nptr_eq, V.vBool_mk, V.vInt_mk, V.vStr_mk, V.vPtr_mk, V.vMap_mk, V.vSlice_mk, V.bnot_eq, V.nilCk_mk, V.aadd_mk, V.size_alloc, V.size_drew, V.size_setCell, V.nmul_eq, V.inat_nat, V.inat_lit, Nat.mul_one, Nat.reduceMul, Nat.reduceAdd, V.and_assoc', V.true_and', V.ifB_t, V.ifB_f, V.isNil_some, V.isNil_none, Bool.not_true, Bool.not_false, Nat.zero_add, Nat.add_zero])
    have r1 := Mk.root_size (xs.take (Mk.split n)) (B := 1000000) (by omega) (fun x hx => hB x (List.mem_of_mem_take hx))
    have r2 := Mk.root_size (xs.drop (Mk.split n)) (B := 1000000) (by omega) (fun x hx => hB x (List.mem_of_mem_drop hx))
    refine mpair_spec _ _ (by omega) (by omega) _ _ ?_
    intro w4 k4
    simp only [V.nptr_eq, V.vBool_mk, V.vInt_mk, V.vStr_mk, V.vPtr_mk, V.vMap_mk, V.vSlice_mk, V.bnot_eq, V.nilCk_mk, V.aadd_mk, V.size_alloc, V.size_drew, V.size_setCell, V.nmul_eq, V.inat_nat, V.inat_lit, Nat.mul_one, Nat.reduceMul, Nat.reduceAdd, V.and_assoc', V.true_and', V.ifB_t, V.ifB_f, V.isNil_some, V.isNil_none, Bool.not_true, Bool.not_false, Nat.zero_add, Nat.add_zero]
    rw [Mk.root_two (by omega), ← hn] at hC
    exact hC w4 (V.Kp.trans (V.Kp.trans (V.Kp.trans (V.kp (w := w)) k2) k3) k4)
/-- the reference's Root -/
theorem rroot_spec : ∀ (N : Nat) (xs : List ByteArray), xs.length = N → N ≤ 64 → (∀ x ∈ xs, x.size ≤ 1000000) → ∀ (p : Option Addr) (n c : Nat) (w : World), n = xs.length → n ≤ c → StrAt w p xs → ∀ (C : Value → World → Prop), (∀ w', V.Kp V.Nil w w' → C (.string (Mk.root xs)) w') →
    V.CallsR Try.prog 26 #[.slice p n c] w C := by
  intro N
  induction N using Nat.strongRecOn with
  | _ N ih =>
    intro xs hN hN2 hB p n c w hn hc hs C hC
    refine V.calls_of_fnVC (args := [_]) Try.func26 ?_
    rw [vc_annalistref04_Root]
    refine V.ifB_of (fun hq => ?_) (fun hq => ?_) <;> simp only [V.ilt_t, V.ilt_f, V.ile_t, V.ile_f, V.igt_t, V.igt_f, V.ige_t, V.ige_f, V.ieq_t, V.ieq_f, V.ine_t, V.ine_f, V.isNil_t, V.isNil_f, V.bnot_eq, Bool.not_eq_true', Bool.not_eq_false', V.seq_t, V.seq_f, V.zi] at hq
    · have : xs = [] := List.eq_nil_of_length_eq_zero (by omega)
      subst this
      refine refH_spec _ (by decide) _ _ ?_
      intro w1 k1
      simp only [V.nptr_eq, V.vBool_mk, V.vInt_mk, V.vStr_mk, V.vPtr_mk, V.vMap_mk, V.vSlice_mk, V.bnot_eq, V.nilCk_mk, V.aadd_mk, V.size_alloc, V.size_drew, V.size_setCell, V.nmul_eq, V.inat_nat, V.inat_lit, Nat.mul_one, Nat.reduceMul, Nat.reduceAdd, V.and_assoc', V.true_and', V.ifB_t, V.ifB_f, V.isNil_some, V.isNil_none, Bool.not_true, Bool.not_false, Nat.zero_add, Nat.add_zero]
      rw [Mk.root_nil] at hC
      exact hC w1 k1
    refine V.ifB_of (fun hq2 => ?_) (fun hq2 => ?_) <;> simp only [V.ilt_t, V.ilt_f, V.ile_t, V.ile_f, V.igt_t, V.igt_f, V.ige_t, V.ige_f, V.ieq_t, V.ieq_f, V.ine_t, V.ine_f, V.isNil_t, V.isNil_f, V.bnot_eq, Bool.not_eq_true', Bool.not_eq_false', V.seq_t, V.seq_f, V.zi] at hq2
    · obtain ⟨x, rfl⟩ : ∃ x, xs = [x] := List.length_eq_one_iff.1 (by omega)
      rw [Mk.root_one] at hC
      exact hs.load (i := 0) hn rfl (hC _ V.kp)
    have h2 : 2 ≤ n := by omega
    have s1 := Mk.split_lt h2
    have s0 := Mk.split_pos h2
    rw [show V.zi n = (n : Int) from rfl]
    refine half_spec n h2 (by omega) _ _ ?_
    simp only [V.nptr_eq, V.vBool_mk, V.vInt_mk, V.vStr_mk, V.vPtr_mk, V.vMap_mk, V.vSlice_mk, V.bnot_eq, V.nilCk_mk, V.aadd_mk, V.size_alloc, V.size_drew, V.size_setCell, V.nmul_eq, V.inat_nat, V.inat_lit, Nat.mul_one, Nat.reduceMul, Nat.reduceAdd, V.and_assoc', V.true_and', V.ifB_t, V.ifB_f, V.isNil_some, V.isNil_none, Bool.not_true, Bool.not_false, Nat.zero_add, Nat.add_zero]
    repeat (first | with_reducible refine V.lI ?_ | with_reducible refine V.lS ?_ | with_reducible refine V.lP ?_ | with_reducible refine V.lL ?_ | with_reducible refine V.lM ?_ | with_reducible refine V.lB ?_ | with_reducible refine V.sC ?_ | with_reducible refine V.lG ?_ | ((with_reducible refine And.intro ?_ ?_); (· first | with_reducible exact V.hC | with_reducible exact V.hB | (simp only [V.inX, V.inR, V.inz, V.ige0, V.zi]; omega))) | simp only [V.nptr_eq, V.vBool_mk, V.vInt_mk, V.vStr_mk, V.vPtr_mk, V.vMap_mk, V.vSlice_mk, V.bnot_eq, V.nilCk_mk, V.aadd_mk, V.size_alloc, V.size_drew, V.size_setCell, V.nmul_eq, V.inat_nat, V.inat_lit, Nat.mul_one, Nat.reduceMul, Nat.reduceAdd, V.and_assoc', V.true_and', V.ifB_t, V.ifB_f, V.isNil_some, V.isNil_none, Bool.not_true, Bool.not_false, Nat.zero_add, Nat.add_zero])
    have hs1 : StrAt w.drew p xs := hs.keep V.kp
    have en : V.nsub (Mk.split n) 0 = Mk.split n := by unfold V.nsub; omega
    rw [en]
    refine ih (Mk.split n) (by omega) (xs.take (Mk.split n)) (by rw [List.length_take]; omega) (by omega) (fun x hx => hB x (List.mem_of_mem_take hx)) _ _ _ _ (by rw [List.length_take]; omega) (by unfold V.nsub; omega) ?_ _ ?_
    · have := hs1.sub (c := c) (by omega) 0 (Mk.split n)
      simpa using this
    intro w2 k2
    have r1 := Mk.root_size (xs.take (Mk.split n)) (B := 1000000) (by omega) (fun x hx => hB x (List.mem_of_mem_take hx))
    have r2 := Mk.root_size (xs.drop (Mk.split n)) (B := 1000000) (by omega) (fun x hx => hB x (List.mem_of_mem_drop hx))
    have o1 : (ByteArray.mk #[1]).size = 1 := rfl
    simp only [V.nptr_eq, V.vBool_mk, V.vInt_mk, V.vStr_mk, V.vPtr_mk, V.vMap_mk, V.vSlice_mk, V.bnot_eq, V.nilCk_mk, V.aadd_mk, V.size_alloc, V.size_drew, V.size_setCell, V.nmul_eq, V.inat_nat, V.inat_lit, Nat.mul_one, Nat.reduceMul, Nat.reduceAdd, V.and_assoc', V.true_and', V.ifB_t, V.ifB_f, V.isNil_some, V.isNil_none, Bool.not_true, Bool.not_false, Nat.zero_add, Nat.add_zero]
    refine And.intro (by unfold V.sfits; omega) ?_
    refine ih (n - Mk.split n) (by omega) (xs.drop (Mk.split n)) (by rw [List.length_drop]; omega) (by omega) (fun x hx => hB x (List.mem_of_mem_drop hx)) _ _ _ _ (by unfold V.nsub; rw [List.length_drop]; omega) (by unfold V.nsub; omega) ?_ _ ?_
    · exact (hs1.keep k2).drop (by omega) _
    intro w3 k3
    simp only [V.nptr_eq, V.vBool_mk, V.vInt_mk, V.vStr_mk, V.vPtr_mk, V.vMap_mk, V.vSlice_mk, V.bnot_eq, V.nilCk_mk, V.aadd_mk, V.size_alloc, V.size_drew, V.size_setCell, V.nmul_eq, V.inat_nat, V.inat_lit, Nat.mul_one, Nat.reduceMul, Nat.reduceAdd, V.and_assoc', V.true_and', V.ifB_t, V.ifB_f, V.isNil_some, V.isNil_none, Bool.not_true, Bool.not_false, Nat.zero_add, Nat.add_zero]
    refine And.intro (by unfold V.sfits; rw [size_cat]; omega) ?_
    refine refH_spec _ (by rw [size_cat, size_cat]; omega) _ _ ?_
    intro w4 k4
    simp only [V.nptr_eq, V.vBool_mk, V.vInt_mk, V.vStr_mk, V.vPtr_mk, V.vMap_mk, V.vSlice_mk, V.bnot_eq, V.nilCk_mk, V.aadd_mk, V.size_alloc, V.size_drew, V.size_setCell, V.nmul_eq, V.inat_nat, V.inat_lit, Nat.mul_one, Nat.reduceMul, Nat.reduceAdd, V.and_assoc', V.true_and', V.ifB_t, V.ifB_f, V.isNil_some, V.isNil_none, Bool.not_true, Bool.not_false, Nat.zero_add, Nat.add_zero]
    rw [Mk.root_two (by omega), ← hn] at hC
    exact hC w4 (V.Kp.trans (V.Kp.trans (V.Kp.trans (V.kp (w := w)) k2) k3) k4)
/-- the reference's Leaves -/
theorem leaves_spec (xs : List ByteArray) (hlen : xs.length ≤ 1000000) (hB : ∀ x ∈ xs, x.size ≤ 1000000) (p : Option Addr) (n c : Nat) (w : World) (hn : n = xs.length) (hs : StrAt w p xs) (C : Value → World → Prop)
    (hC : ∀ p' c' w', SRow w' p' n c' (Mk.leaves xs) → New w.heap.size p' → V.Kp V.Nil w w' → C (.slice p' n c') w') :
    V.CallsR Try.prog 13 #[.slice p n c] w C := by
  refine V.calls_of_fnVC (args := [_]) Try.func13 ?_
  rw [vc_annalistref04_Leaves]
  refine ⟨fun q m d i => ⟨fun w' => i = (m : Int) ∧ m ≤ n ∧ SRow w' q m d ((Mk.leaves xs).take m) ∧ New w.heap.size q ∧ V.Kp V.Nil w w', fun _ => n - i.toNat⟩, ⟨rfl, by omega, SRow.nil w, New.none _, V.kp⟩, ?_⟩
  rintro _ q m d i w1 ⟨rfl, hm, hr, hq, kp⟩
  refine V.ifB_of (fun hc => ?_) (fun hc => ?_) <;> simp only [V.ilt_t, V.ilt_f, V.ile_t, V.ile_f, V.igt_t, V.igt_f, V.ige_t, V.ige_f, V.ieq_t, V.ieq_f, V.ine_t, V.ine_f, V.isNil_t, V.isNil_f, V.bnot_eq, Bool.not_eq_true', Bool.not_eq_false', V.seq_t, V.seq_f, V.zi] at hc
  · have hlt : m < xs.length := by omega
    refine (hs.keep kp).load hn (List.getElem?_eq_getElem hlt) ?_
    have hx := hB xs[m] (List.getElem_mem hlt)
    have o1 : (ByteArray.mk #[0]).size = 1 := rfl
    refine And.intro (by unfold V.sfits; omega) ?_
    refine refH_spec _ (by rw [size_cat]; omega) _ _ ?_
    intro w2 k2
    simp only [V.nptr_eq, V.vBool_mk, V.vInt_mk, V.vStr_mk, V.vPtr_mk, V.vMap_mk, V.vSlice_mk, V.bnot_eq, V.nilCk_mk, V.aadd_mk, V.size_alloc, V.size_drew, V.size_setCell, V.nmul_eq, V.inat_nat, V.inat_lit, Nat.mul_one, Nat.reduceMul, Nat.reduceAdd, V.and_assoc', V.true_and', V.ifB_t, V.ifB_f, V.isNil_some, V.isNil_none, Bool.not_true, Bool.not_false, Nat.zero_add, Nat.add_zero]
    refine app_str (hr.keep k2) (by omega) _ rfl ?_
    intro p3 c3 w3 h3 k3 at3
    simp only [V.nptr_eq, V.vBool_mk, V.vInt_mk, V.vStr_mk, V.vPtr_mk, V.vMap_mk, V.vSlice_mk, V.bnot_eq, V.nilCk_mk, V.aadd_mk, V.size_alloc, V.size_drew, V.size_setCell, V.nmul_eq, V.inat_nat, V.inat_lit, Nat.mul_one, Nat.reduceMul, Nat.reduceAdd, V.and_assoc', V.true_and', V.ifB_t, V.ifB_f, V.isNil_some, V.isNil_none, Bool.not_true, Bool.not_false, Nat.zero_add, Nat.add_zero]
    have e5 : V.iadd .i64 (m : Int) 1 = ((m + 1 : Nat) : Int) := by rw [V.iadd_i64 (by omega) (by omega)]; omega
    rw [e5]
    refine ⟨rfl, by omega, ?_, app_new (V.Kp.trans kp k2) hq at3, kp_new (V.Kp.trans kp k2) k3 hq, by show n - ((m + 1 : Nat) : Int).toNat < n - (m : Int).toNat; rw [Int.toNat_natCast, Int.toNat_natCast]; omega⟩
    have e : (Mk.leaves xs).take (m + 1) = (Mk.leaves xs).take m ++ [Sha.sum (V.scat ⟨#[0]⟩ xs[m])] := by
      rw [List.take_succ_eq_append_getElem (by simp [Mk.leaves]; exact hlt)]
      congr 2
      simp [Mk.leaves, Mk.leaf, V.scat]
    rw [e]; exact h3
  · obtain rfl : m = n := by omega
    rw [List.take_of_length_le (by simp [Mk.leaves]; omega)] at hr
    exact hC q d w1 hr hq kp
/-- are two lists the same? -/
theorem same2_spec (xs ys : List ByteArray) (p q : Option Addr) (n c m d : Nat) (w : World) (hn : n = xs.length) (hm : m = ys.length) (hn2 : n ≤ 1000000000) (hs : StrAt w p xs) (ht : StrAt w q ys) (C : Value → World → Prop) (hC : ∀ w', V.Kp V.Nil w w' → C (.bool (decide (xs = ys))) w') :
    V.CallsR Try.prog 23 #[.slice p n c, .slice q m d] w C := by
  refine V.calls_of_fnVC (args := [_, _]) Try.func23 ?_
  rw [vc_annalistref02_Same]
  refine V.ifB_of (fun hc => ?_) (fun hc => ?_) <;> simp only [V.ilt_t, V.ilt_f, V.ile_t, V.ile_f, V.igt_t, V.igt_f, V.ige_t, V.ige_f, V.ieq_t, V.ieq_f, V.ine_t, V.ine_f, V.isNil_t, V.isNil_f, V.bnot_eq, Bool.not_eq_true', Bool.not_eq_false', V.seq_t, V.seq_f, V.zi] at hc
  · have : ¬ xs = ys := fun e => hc (by rw [hn, hm, e])
    have := hC w V.kp
    rwa [decide_eq_false ‹_›] at this
  have hl : xs.length = ys.length := by omega
  refine ⟨fun i => ⟨fun w' => ∃ k : Nat, i = k ∧ k ≤ n ∧ xs.take k = ys.take k ∧ V.Kp V.Nil w w', fun _ => n - i.toNat⟩, ⟨0, rfl, by omega, rfl, V.kp⟩, ?_⟩
  rintro _ i w1 ⟨k, rfl, hk, he, kp⟩
  refine V.ifB_of (fun hc2 => ?_) (fun hc2 => ?_) <;> simp only [V.ilt_t, V.ilt_f, V.ile_t, V.ile_f, V.igt_t, V.igt_f, V.ige_t, V.ige_f, V.ieq_t, V.ieq_f, V.ine_t, V.ine_f, V.isNil_t, V.isNil_f, V.bnot_eq, Bool.not_eq_true', Bool.not_eq_false', V.seq_t, V.seq_f, V.zi] at hc2
  · have h1 : k < xs.length := by omega
    have h2 : k < ys.length := by omega
    refine (hs.keep kp.drew).load hn (List.getElem?_eq_getElem h1) ?_
    refine (ht.keep kp.drew).load hm (List.getElem?_eq_getElem h2) ?_
    have e5 : V.iadd .i64 (k : Int) 1 = ((k + 1 : Nat) : Int) := by rw [V.iadd_i64 (by omega) (by omega)]; omega
    rw [e5]
    refine V.ifB_of (fun hc3 => ?_) (fun hc3 => ?_) <;> simp only [V.bnot_eq, Bool.not_eq_true', Bool.not_eq_false', V.seq_t, V.seq_f] at hc3
    · have : ¬ xs = ys := fun e => by subst e; exact hc3 rfl
      have := hC w1.drew kp.drew
      rwa [decide_eq_false ‹_›] at this
    · refine ⟨⟨k + 1, rfl, by omega, ?_, kp.drew⟩, by show n - ((k + 1 : Nat) : Int).toNat < n - (k : Int).toNat; rw [Int.toNat_natCast, Int.toNat_natCast]; omega⟩
      rw [List.take_succ_eq_append_getElem h1, List.take_succ_eq_append_getElem h2, he, hc3]
  · obtain rfl : k = n := by omega
    have e : xs = ys := by rwa [List.take_of_length_le (by omega), List.take_of_length_le (by omega)] at he
    have := hC w1 kp
    rwa [decide_eq_true e] at this
/-- few texts of a size that is looked at -/
theorem few_spec (p : Option Addr) (n c : Nat) (xs : List ByteArray) (hn : n = xs.length) (hn2 : n ≤ 9223372036854775807) (m size : Nat) (hm : m ≤ 300) (w : World) (hs : StrAt w p xs) (C : Value → World → Prop)
    (hC : C (.bool (decide (n ≤ m ∧ ∀ x ∈ xs, x.size ≤ size))) w) :
    V.CallsR Try.prog 11 #[.slice p n c, .int .i64 (m : Int), .int .i64 (size : Int)] w C := by
  refine V.calls_of_fnVC (args := [_, _, _]) Try.func11 ?_
  rw [vc_annalistref04_Few]
  have en : V.ile (V.zi n) (m : Int) = decide (n ≤ m) := by unfold V.ile V.zi; rw [Bool.eq_iff_iff]; simp
  rw [en]
  refine ⟨fun i => ⟨fun w' => w' = w ∧ ∃ k : Nat, i = k ∧ k ≤ n ∧ k ≤ 300 ∧ ∀ x ∈ xs.take k, x.size ≤ size, fun _ => n - i.toNat⟩, ⟨rfl, 0, rfl, by omega, by omega, by simp⟩, ?_⟩
  rintro _ i w1 ⟨rfl, k, rfl, hk, hk3, he⟩
  have fin : (n ≤ k ∨ 300 ≤ k) → C (.bool (decide (n ≤ m))) w1 := fun h => by
    have e : decide (n ≤ m ∧ ∀ x ∈ xs, x.size ≤ size) = decide (n ≤ m) := by
      by_cases hnm : n ≤ m
      · rw [decide_eq_true hnm, decide_eq_true]
        refine ⟨hnm, ?_⟩
        have : k = n := by omega
        rw [List.take_of_length_le (by omega)] at he
        exact he
      · rw [decide_eq_false hnm, decide_eq_false (fun h => hnm h.1)]
    rw [e] at hC
    exact hC
  refine V.ifB_of (fun hc2 => ?_) (fun hc2 => ?_) <;> simp only [V.ilt_t, V.ilt_f, V.ile_t, V.ile_f, V.igt_t, V.igt_f, V.ige_t, V.ige_f, V.ieq_t, V.ieq_f, V.ine_t, V.ine_f, V.isNil_t, V.isNil_f, V.bnot_eq, Bool.not_eq_true', Bool.not_eq_false', V.seq_t, V.seq_f, V.zi] at hc2
  · refine V.ifB_of (fun hc3 => ?_) (fun hc3 => ?_) <;> simp only [V.ilt_t, V.ilt_f, V.ile_t, V.ile_f, V.igt_t, V.igt_f, V.ige_t, V.ige_f, V.ieq_t, V.ieq_f, V.ine_t, V.ine_f, V.isNil_t, V.isNil_f, V.bnot_eq, Bool.not_eq_true', Bool.not_eq_false', V.seq_t, V.seq_f, V.zi] at hc3
    · have h1 : k < xs.length := by omega
      refine hs.load hn (List.getElem?_eq_getElem h1) ?_
      have e5 : V.iadd .i64 (k : Int) 1 = ((k + 1 : Nat) : Int) := by rw [V.iadd_i64 (by omega) (by omega)]; omega
      rw [e5]
      refine V.ifB_of (fun hc4 => ?_) (fun hc4 => ?_) <;> simp only [V.ilt_t, V.ilt_f, V.ile_t, V.ile_f, V.igt_t, V.igt_f, V.ige_t, V.ige_f, V.ieq_t, V.ieq_f, V.ine_t, V.ine_f, V.isNil_t, V.isNil_f, V.bnot_eq, Bool.not_eq_true', Bool.not_eq_false', V.seq_t, V.seq_f, V.zi, V.ssize] at hc4
      · rw [decide_eq_false] at hC
        · exact hC
        · rintro ⟨_, h⟩
          have := h _ (List.getElem_mem h1)
          omega
      · refine ⟨⟨rfl, k + 1, rfl, by omega, by omega, ?_⟩, by show n - ((k + 1 : Nat) : Int).toNat < n - (k : Int).toNat; rw [Int.toNat_natCast, Int.toNat_natCast]; omega⟩
        intro x hx
        rw [List.take_succ_eq_append_getElem h1, List.mem_append] at hx
        rcases hx with hx | hx
        · exact he x hx
        · have : x = xs[k] := by simpa using hx
          rw [this]; omega
    · exact fin (.inr (by omega))
  · exact fin (.inl (by omega))
end Go.Proofs.Ytboifenkbhfnfaa
