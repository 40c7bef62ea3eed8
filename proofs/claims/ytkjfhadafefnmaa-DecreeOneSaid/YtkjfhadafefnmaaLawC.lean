/- decree: the laws' walks, 3: DecreeStill. -/
import Derived.Test.YtkjfhadafefnmaaLawB
set_option linter.all false
namespace Go.Proofs.Ytkjfhadafefnmaa
open Go
set_option linter.unusedSimpArgs false
theorem run_still : ∀ (l : List StepS) (S : DecS), (∀ s ∈ l, s.kind ≠ 1) → (S.run l).slots = S.slots ∧ (S.run l).taken = S.taken ∧ (S.run l).chosen = S.chosen
  | [], _, _ => ⟨rfl, rfl, rfl⟩
  | s :: r, S, h => by
    obtain ⟨a1, a2, a3⟩ := step_still S s (h s (by simp))
    obtain ⟨b1, b2, b3⟩ := run_still r (S.step s) fun x hx => h x (by simp [hx])
    exact ⟨b1.trans a1, b2.trans a2, b3.trans a3⟩
def notTake (s : StepS) : Bool := decide (s.kind ≠ 1)
theorem filter_take_succ {l : List StepS} {k : Nat} {s : StepS} (hs : l[k]? = some s) : (l.take (k + 1)).filter notTake = (l.take k).filter notTake ++ if s.kind = 1 then [] else [s] := by
  rw [List.take_add_one, hs, List.filter_append]
  congr 1
  simp only [Option.toList_some, List.filter_cons, List.filter_nil, notTake]
  by_cases h : s.kind = 1 <;> simp [h]
set_option maxHeartbeats 1000000 in
theorem still_spec (n : Int) (hn0 : 0 ≤ n) (p : Option Addr) (cp : Nat) (l : List StepS) (w : World) (h1 : StepsAt w p l) (R : Value → World → Prop) (hR : ∀ W, V.Kp V.Nil w W → R (.bool true) W) :
    V.CallsR Try.prog 5 #[.int .u8 n, .slice p l.length cp] w R := by
  refine V.calls_of_fnVC Try.func5 ?_
  rw [vc_annalistlaw19_DecreeStill]
  refine awake_spec w _ fun w0 k0 => ?_
  simp only [V.nptr_eq, V.vBool_mk, V.vInt_mk, V.vStr_mk, V.vPtr_mk, V.vMap_mk, V.vSlice_mk, V.bnot_eq, V.nilCk_mk, V.aadd_mk, V.size_alloc, V.size_drew, V.size_setCell, V.nmul_nat, V.and_assoc', V.true_and', V.ifB_t, V.ifB_f, V.isNil_some, V.isNil_none, Bool.not_true, Bool.not_false, Nat.zero_add, Nat.add_zero]
  refine V.ifB_of (fun h3 => ?_) (fun h3 => ?_) <;> simp only [V.ilt_t, V.ilt_f, V.ile_t, V.ile_f, V.igt_t, V.igt_f, V.ige_t, V.ige_f, V.ieq_t, V.ieq_f, V.ine_t, V.ine_f, V.isNil_t, V.isNil_f, V.bnot_eq, Bool.not_eq_true', Bool.not_eq_false', V.zi] at h3
  · refine awake_spec w0 _ fun w1 k1 => ?_
    simp only [V.nptr_eq, V.vBool_mk, V.vInt_mk, V.vStr_mk, V.vPtr_mk, V.vMap_mk, V.vSlice_mk, V.bnot_eq, V.nilCk_mk, V.aadd_mk, V.size_alloc, V.size_drew, V.size_setCell, V.nmul_nat, V.and_assoc', V.true_and', V.ifB_t, V.ifB_f, V.isNil_some, V.isNil_none, Bool.not_true, Bool.not_false, Nat.zero_add, Nat.add_zero]
    exact hR w1 (k0.trans k1)
  obtain ⟨m, hm, m3, m5⟩ : ∃ m : Nat, V.iadd .i64 3 (V.iconv .i64 (V.irem n 3)) = (m : Int) ∧ 3 ≤ m ∧ m ≤ 5 := by
    refine ⟨(3 + n % 3).toNat, ?_, by omega, by omega⟩
    unfold V.iconv V.irem
    rw [Int.tmod_eq_emod_of_nonneg hn0, V.wrap_i64 (by omega) (by omega), V.iadd_i64 (by omega) (by omega)]
    omega
  rw [hm]
  refine ⟨by unfold V.inz; decide, ?_⟩
  refine new_spec m w0 _ ?_
  intro g d w1 hr k1 hf
  have hmm : nodesOf (m : Int) = m := by unfold nodesOf V.imin V.imax; rw [if_neg (by omega), if_neg (by omega)]; omega
  rw [hmm] at hr
  simp only [V.nptr_eq, V.vBool_mk, V.vInt_mk, V.vStr_mk, V.vPtr_mk, V.vMap_mk, V.vSlice_mk, V.bnot_eq, V.nilCk_mk, V.aadd_mk, V.size_alloc, V.size_drew, V.size_setCell, V.nmul_nat, V.and_assoc', V.true_and', V.ifB_t, V.ifB_f, V.isNil_some, V.isNil_none, Bool.not_true, Bool.not_false, Nat.zero_add, Nat.add_zero]
  have r0 : Run (fun k => k < w.heap.size) w w1 d m 0 (DecS.new m) (DecS.new m) (fun _ => none) :=
    ⟨g, _, hr, new_inv (by omega) m5, new_bnd _, Later.refl _ _, (k0.trans k1).mono fun _ _ e => e.elim, fun k hk => ⟨hk, hf k (by have := k0.size; omega)⟩⟩
  refine ⟨fun i => ⟨fun W => ∃ k : Nat, i = k ∧ k ≤ l.length ∧ Run (fun k => k < w.heap.size) w W d m k (DecS.new m) ((DecS.new m).run ((l.take k).filter notTake)) (fun _ => none), fun _ => l.length - i.toNat⟩, ⟨0, rfl, Nat.zero_le _, r0⟩, ?_⟩
  rintro _ i W ⟨k, rfl, hk, rW⟩
  refine V.ifB_of (fun h5 => ?_) (fun h5 => ?_) <;> simp only [V.ilt_t, V.ilt_f, V.ile_t, V.ile_f, V.igt_t, V.igt_f, V.ige_t, V.ige_f, V.ieq_t, V.ieq_f, V.ine_t, V.ine_f, V.isNil_t, V.isNil_f, V.bnot_eq, Bool.not_eq_true', Bool.not_eq_false', V.zi] at h5
  · obtain ⟨s, hs⟩ : ∃ s, l[k]? = some s := ⟨_, List.getElem?_eq_getElem (by omega)⟩
    obtain ⟨a, rfl, c1, c2, c3, c4⟩ := (h1.keep fun k hk => rW.keeps hk).at' k s hs
    have ei : V.iadd .i64 (k : Int) 1 = ((k + 1 : Nat) : Int) := by rw [V.iadd_i64 (by omega) (by omega)]; rfl
    have hft := filter_take_succ hs
    refine ⟨inX_nat (by omega), ?_⟩
    simp only [V.nilCk_mk, aadd_aadd, V.nmul_nat, Nat.add_zero]
    refine ⟨_, c1, ?_⟩
    refine V.ifB_of (fun h6 => ?_) (fun h6 => ?_) <;> simp only [V.ilt_t, V.ilt_f, V.ile_t, V.ile_f, V.igt_t, V.igt_f, V.ige_t, V.ige_f, V.ieq_t, V.ieq_f, V.ine_t, V.ine_f, V.isNil_t, V.isNil_f, V.bnot_eq, Bool.not_eq_true', Bool.not_eq_false'] at h6
    · rw [if_pos h6, List.append_nil] at hft
      rw [ei]
      refine ⟨⟨k + 1, rfl, by omega, ?_⟩, by simp only [Int.toNat_natCast]; omega⟩
      rw [hft]
      obtain ⟨g, pv, a1, a2, a3, a4⟩ := rW
      exact ⟨g, pv, a1, a2, a3.more (by omega), a4⟩
    · rw [if_neg h6] at hft
      refine ⟨inX_nat (by omega), ?_⟩
      refine ⟨_, c1, _, c2, _, c3, _, c4, ?_⟩
      refine rW.step (by omega) s _ fun W' rW' => ?_
      rw [ei]
      refine ⟨⟨k + 1, rfl, by omega, ?_⟩, by simp only [Int.toNat_natCast]; omega⟩
      rw [hft, DecS.run, List.foldl_append]
      exact rW'
  have hkl : k = l.length := by omega
  subst hkl
  rw [List.take_length] at rW
  obtain ⟨t1, t2, t3⟩ := run_still (l.filter notTake) (DecS.new m) fun s hs => by have := (List.mem_filter.1 hs).2; simpa [notTake] using this
  generalize (DecS.new m).run (l.filter notTake) = S1 at rW t1 t2 t3
  obtain ⟨gW, pvW, hrW, hiW, hbW, hlW, hkW, hfW⟩ := rW
  obtain ⟨ok1, tk1⟩ := hiW.oks hbW (by omega)
  refine ⟨fun i => ⟨fun W' => ∃ k : Nat, i = k ∧ k ≤ m ∧ V.Kp V.Nil W W', fun _ => m - i.toNat⟩, ⟨0, rfl, Nat.zero_le _, V.Kp.refl _ _⟩, ?_⟩
  rintro _ i W' ⟨k, rfl, hk, kW⟩
  have kk : V.Kp V.Nil w W' := ⟨by rw [kW.os, hkW.os], by rw [kW.tape, hkW.tape], by rw [kW.output, hkW.output], Nat.le_trans hkW.size kW.size, fun i hi _ => (kW.block i (Nat.lt_of_lt_of_le hi hkW.size) (fun e => e)).trans (hkW.block i hi (fun e => e hi))⟩
  have hr' := hrW.kp kW (fun _ e => e.elim)
  refine V.ifB_of (fun h5 => ?_) (fun h5 => ?_) <;> simp only [V.ilt_t, V.ilt_f, V.ile_t, V.ile_f, V.igt_t, V.igt_f, V.ige_t, V.ige_f, V.ieq_t, V.ieq_f, V.ine_t, V.ine_f, V.isNil_t, V.isNil_f, V.bnot_eq, Bool.not_eq_true', Bool.not_eq_false'] at h5
  · have hsl : S1.slots[k]? = some ⟨0, 0, ⟨#[]⟩⟩ := by rw [t1]; simp only [DecS.new, List.getElem?_replicate]; rw [if_pos (by omega)]
    refine slotAt_spec hr' (by rw [t1]; simp only [DecS.new, List.length_replicate]; omega) hsl _ fun W'' k2 => ?_
    refine ⟨_, _, _, rfl, ?_⟩
    refine V.ifB_of (fun h6 => ?_) (fun h6 => ?_) <;> simp only [V.ilt_t, V.ilt_f, V.ile_t, V.ile_f, V.igt_t, V.igt_f, V.ige_t, V.ige_f, V.ieq_t, V.ieq_f, V.ine_t, V.ine_f, V.isNil_t, V.isNil_f, V.bnot_eq, Bool.not_eq_true', Bool.not_eq_false'] at h6
    · exact absurd rfl h6
    · rw [show V.iadd .i64 (k : Int) 1 = ((k + 1 : Nat) : Int) by rw [V.iadd_i64 (by omega) (by omega)]; rfl]
      exact ⟨⟨k + 1, rfl, by omega, kW.trans k2⟩, by simp only [Int.toNat_natCast]; omega⟩
  · refine chosen_spec hr' ok1 _ ?_
    intro pc cc W2 hc kc _
    have e3 : S1.chosen = [] := by rw [t3]; rfl
    rw [e3]
    simp only [V.nptr_eq, V.vBool_mk, V.vInt_mk, V.vStr_mk, V.vPtr_mk, V.vMap_mk, V.vSlice_mk, V.bnot_eq, V.nilCk_mk, V.aadd_mk, V.size_alloc, V.size_drew, V.size_setCell, V.nmul_nat, V.and_assoc', V.true_and', V.ifB_t, V.ifB_f, V.isNil_some, V.isNil_none, Bool.not_true, Bool.not_false, Nat.zero_add, Nat.add_zero]
    refine V.ifB_of (fun h6 => ?_) (fun h6 => ?_) <;> simp only [V.ilt_t, V.ilt_f, V.ile_t, V.ile_f, V.igt_t, V.igt_f, V.ige_t, V.ige_f, V.ieq_t, V.ieq_f, V.ine_t, V.ine_f, V.isNil_t, V.isNil_f, V.bnot_eq, Bool.not_eq_true', Bool.not_eq_false', V.zi] at h6
    · refine been_spec (hr'.kp kc (fun _ e => e.elim)) ok1 tk1 _ ?_
      intro pb cb W3 hb kb _
      have e4 : S1.been = [] := by unfold DecS.been; rw [t2]; rfl
      rw [e4]
      simp only [V.nptr_eq, V.vBool_mk, V.vInt_mk, V.vStr_mk, V.vPtr_mk, V.vMap_mk, V.vSlice_mk, V.bnot_eq, V.nilCk_mk, V.aadd_mk, V.size_alloc, V.size_drew, V.size_setCell, V.nmul_nat, V.and_assoc', V.true_and', V.ifB_t, V.ifB_f, V.isNil_some, V.isNil_none, Bool.not_true, Bool.not_false, Nat.zero_add, Nat.add_zero]
      exact hR W3 ((kk.trans kc).trans kb)
    · exact absurd rfl h6
end Go.Proofs.Ytkjfhadafefnmaa
