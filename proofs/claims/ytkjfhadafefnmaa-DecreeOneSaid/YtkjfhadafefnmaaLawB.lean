/- decree: the laws' walks, 2: DecreeStays. -/
import Derived.Test.YtkjfhadafefnmaaLawA
set_option linter.all false
namespace Go.Proofs.Ytkjfhadafefnmaa
open Go
set_option linter.unusedSimpArgs false
set_option maxHeartbeats 1000000 in
theorem stays_spec (n : Int) (p q : Option Addr) (cp cq : Nat) (l more : List StepS) (w : World) (h1 : StepsAt w p l) (h2 : StepsAt w q more) (R : Value → World → Prop) (hR : ∀ W, V.Kp V.Nil w W → R (.bool true) W) :
    V.CallsR Try.prog 3 #[.int .i64 n, .slice p l.length cp, .slice q more.length cq] w R := by
  refine V.calls_of_fnVC Try.func3 ?_
  rw [vc_annalistlaw19_DecreeStays]
  refine awake_spec w _ fun w0 k0 => ?_
  simp only [V.nptr_eq, V.vBool_mk, V.vInt_mk, V.vStr_mk, V.vPtr_mk, V.vMap_mk, V.vSlice_mk, V.bnot_eq, V.nilCk_mk, V.aadd_mk, V.size_alloc, V.size_drew, V.size_setCell, V.nmul_nat, V.and_assoc', V.true_and', V.ifB_t, V.ifB_f, V.isNil_some, V.isNil_none, Bool.not_true, Bool.not_false, Nat.zero_add, Nat.add_zero]
  refine V.ifB_of (fun h3 => ?_) (fun h3 => ?_) <;> simp only [V.ilt_t, V.ilt_f, V.ile_t, V.ile_f, V.igt_t, V.igt_f, V.ige_t, V.ige_f, V.ieq_t, V.ieq_f, V.ine_t, V.ine_f, V.isNil_t, V.isNil_f, V.bnot_eq, Bool.not_eq_true', Bool.not_eq_false', V.zi] at h3
  · refine awake_spec w0 _ fun w1 k1 => ?_
    simp only [V.nptr_eq, V.vBool_mk, V.vInt_mk, V.vStr_mk, V.vPtr_mk, V.vMap_mk, V.vSlice_mk, V.bnot_eq, V.nilCk_mk, V.aadd_mk, V.size_alloc, V.size_drew, V.size_setCell, V.nmul_nat, V.and_assoc', V.true_and', V.ifB_t, V.ifB_f, V.isNil_some, V.isNil_none, Bool.not_true, Bool.not_false, Nat.zero_add, Nat.add_zero]
    exact hR w1 (k0.trans k1)
  refine V.ifB_of (fun h4 => ?_) (fun h4 => ?_) <;> simp only [V.ilt_t, V.ilt_f, V.ile_t, V.ile_f, V.igt_t, V.igt_f, V.ige_t, V.ige_f, V.ieq_t, V.ieq_f, V.ine_t, V.ine_f, V.isNil_t, V.isNil_f, V.bnot_eq, Bool.not_eq_true', Bool.not_eq_false', V.zi] at h4
  · refine awake_spec w0 _ fun w1 k1 => ?_
    simp only [V.nptr_eq, V.vBool_mk, V.vInt_mk, V.vStr_mk, V.vPtr_mk, V.vMap_mk, V.vSlice_mk, V.bnot_eq, V.nilCk_mk, V.aadd_mk, V.size_alloc, V.size_drew, V.size_setCell, V.nmul_nat, V.and_assoc', V.true_and', V.ifB_t, V.ifB_f, V.isNil_some, V.isNil_none, Bool.not_true, Bool.not_false, Nat.zero_add, Nat.add_zero]
    exact hR w1 (k0.trans k1)
  refine new_spec n w0 _ ?_
  intro g d w1 hr k1 hf
  obtain ⟨-, n1, n5⟩ := nodesOf_eq n
  simp only [V.nptr_eq, V.vBool_mk, V.vInt_mk, V.vStr_mk, V.vPtr_mk, V.vMap_mk, V.vSlice_mk, V.bnot_eq, V.nilCk_mk, V.aadd_mk, V.size_alloc, V.size_drew, V.size_setCell, V.nmul_nat, V.and_assoc', V.true_and', V.ifB_t, V.ifB_f, V.isNil_some, V.isNil_none, Bool.not_true, Bool.not_false, Nat.zero_add, Nat.add_zero]
  have r0 : Run (fun k => k < w.heap.size) w w1 d (nodesOf n) 0 (DecS.new (nodesOf n)) (DecS.new (nodesOf n)) (fun _ => none) :=
    ⟨g, _, hr, new_inv n1 n5, new_bnd _, Later.refl _ _, (k0.trans k1).mono fun _ _ e => e.elim, fun k hk => ⟨hk, hf k (by have := k0.size; omega)⟩⟩
  refine ⟨fun i => ⟨fun W => ∃ k : Nat, i = k ∧ k ≤ l.length ∧ Run (fun k => k < w.heap.size) w W d (nodesOf n) k (DecS.new (nodesOf n)) ((DecS.new (nodesOf n)).run (l.take k)) (fun _ => none), fun _ => l.length - i.toNat⟩, ⟨0, rfl, Nat.zero_le _, r0⟩, ?_⟩
  rintro _ i W ⟨k, rfl, hk, rW⟩
  refine V.ifB_of (fun h5 => ?_) (fun h5 => ?_) <;> simp only [V.ilt_t, V.ilt_f, V.ile_t, V.ile_f, V.igt_t, V.igt_f, V.ige_t, V.ige_f, V.ieq_t, V.ieq_f, V.ine_t, V.ine_f, V.isNil_t, V.isNil_f, V.bnot_eq, Bool.not_eq_true', Bool.not_eq_false', V.zi] at h5
  · obtain ⟨s, hs⟩ : ∃ s, l[k]? = some s := ⟨_, List.getElem?_eq_getElem (by omega)⟩
    obtain ⟨a, rfl, c1, c2, c3, c4⟩ := (h1.keep fun k hk => rW.keeps hk).at' k s hs
    refine ⟨inX_nat (by omega), ?_⟩
    simp only [V.nilCk_mk, aadd_aadd, V.nmul_nat, Nat.add_zero]
    refine ⟨_, c1, _, c2, _, c3, _, c4, ?_⟩
    refine rW.step (by omega) s _ fun W' rW' => ?_
    have ei : V.iadd .i64 (k : Int) 1 = ((k + 1 : Nat) : Int) := by rw [V.iadd_i64 (by omega) (by omega)]; rfl
    rw [ei]
    refine ⟨⟨k + 1, rfl, by omega, by rw [run_take _ hs]; exact rW'⟩, by simp only [Int.toNat_natCast]; omega⟩
  have hkl : k = l.length := by omega
  subst hkl
  rw [List.take_length] at rW
  generalize (DecS.new (nodesOf n)).run l = S1 at rW
  obtain ⟨gW, pvW, hrW, hiW, hbW, hlW, hkW, hfW⟩ := rW
  obtain ⟨ok1, tk1⟩ := hiW.oks hbW (by omega)
  refine been_spec hrW ok1 tk1 _ ?_
  intro pw cw w2 hw kw hnw
  simp only [V.nptr_eq, V.vBool_mk, V.vInt_mk, V.vStr_mk, V.vPtr_mk, V.vMap_mk, V.vSlice_mk, V.bnot_eq, V.nilCk_mk, V.aadd_mk, V.size_alloc, V.size_drew, V.size_setCell, V.nmul_nat, V.and_assoc', V.true_and', V.ifB_t, V.ifB_f, V.isNil_some, V.isNil_none, Bool.not_true, Bool.not_false, Nat.zero_add, Nat.add_zero]
  have z1 := hkW.size
  have z2 := kw.size
  have base : ∀ k, k < w.heap.size → w2.heap[k]? = w.heap[k]? := fun k hk => (kw.block k (by omega) (fun e => e)).trans (hkW.block k hk (fun e => e hk))
  have rB : Run (fun k => k < w.heap.size ∨ V.blk? pw = some k) w2 w2 d (nodesOf n) l.length S1 S1 pvW :=
    ⟨gW, pvW, hrW.kp kw (fun _ e => e.elim), hiW, hbW, Later.refl _ _, V.Kp.refl _ _, fun k hk => by
      rcases hk with h | h
      · exact ⟨by omega, (hfW k h).2⟩
      · exact ⟨hw.lt k h, hrW.fresh (hnw k h)⟩⟩
  refine ⟨fun i => ⟨fun W' => ∃ k : Nat, i = k ∧ k ≤ more.length ∧ Run (fun k => k < w.heap.size ∨ V.blk? pw = some k) w2 W' d (nodesOf n) (l.length + k) S1 (S1.run (more.take k)) pvW, fun _ => more.length - i.toNat⟩, ⟨0, rfl, Nat.zero_le _, rB⟩, ?_⟩
  rintro _ i W' ⟨k, rfl, hk, rW⟩
  refine V.ifB_of (fun h5 => ?_) (fun h5 => ?_) <;> simp only [V.ilt_t, V.ilt_f, V.ile_t, V.ile_f, V.igt_t, V.igt_f, V.ige_t, V.ige_f, V.ieq_t, V.ieq_f, V.ine_t, V.ine_f, V.isNil_t, V.isNil_f, V.bnot_eq, Bool.not_eq_true', Bool.not_eq_false', V.zi] at h5
  · obtain ⟨s, hs⟩ : ∃ s, more[k]? = some s := ⟨_, List.getElem?_eq_getElem (by omega)⟩
    obtain ⟨a, rfl, c1, c2, c3, c4⟩ := (h2.keep fun k hk => (rW.keeps (.inl hk)).trans (base k hk)).at' k s hs
    refine ⟨inX_nat (by omega), ?_⟩
    simp only [V.nilCk_mk, aadd_aadd, V.nmul_nat, Nat.add_zero]
    refine ⟨_, c1, _, c2, _, c3, _, c4, ?_⟩
    refine rW.step (by omega) s _ fun W'' rW' => ?_
    have ei : V.iadd .i64 (k : Int) 1 = ((k + 1 : Nat) : Int) := by rw [V.iadd_i64 (by omega) (by omega)]; rfl
    rw [ei]
    refine ⟨⟨k + 1, rfl, by omega, by rw [run_take _ hs]; exact rW'⟩, by simp only [Int.toNat_natCast]; omega⟩
  have hkl : k = more.length := by omega
  subst hkl
  rw [List.take_length] at rW
  generalize S1.run more = S2 at rW
  have hkeep := fun k hk => rW.keeps (k := k) hk
  obtain ⟨g2, pv2, hr2, hi2, hb2, hl2, hk2, hf2⟩ := rW
  obtain ⟨ok2, tk2⟩ := hi2.oks hb2 (by omega)
  refine been_spec hr2 ok2 tk2 _ ?_
  intro pn cn w4 hn kn hnn
  simp only [V.nptr_eq, V.vBool_mk, V.vInt_mk, V.vStr_mk, V.vPtr_mk, V.vMap_mk, V.vSlice_mk, V.bnot_eq, V.nilCk_mk, V.aadd_mk, V.size_alloc, V.size_drew, V.size_setCell, V.nmul_nat, V.and_assoc', V.true_and', V.ifB_t, V.ifB_f, V.isNil_some, V.isNil_none, Bool.not_true, Bool.not_false, Nat.zero_add, Nat.add_zero]
  obtain ⟨s1, s2⟩ := hiW.law_stays hi2 hl2
  have hbn := been_len ok2
  refine V.ifB_of (fun h6 => ?_) (fun h6 => ?_) <;> simp only [V.ilt_t, V.ilt_f, V.ile_t, V.ile_f, V.igt_t, V.igt_f, V.ige_t, V.ige_f, V.ieq_t, V.ieq_f, V.ine_t, V.ine_f, V.isNil_t, V.isNil_f, V.bnot_eq, Bool.not_eq_true', Bool.not_eq_false', V.zi] at h6
  · omega
  have z3 := hk2.size
  have z4 := kn.size
  have hw4 : StrRow w4 pw S1.been.length cw S1.been := hw.same fun k hk => (kn.block k (by have := hw.lt k hk; omega) (fun e => e)).trans (hkeep k (.inr hk))
  have k4 : V.Kp V.Nil w w4 := ⟨by rw [kn.os, hk2.os, kw.os, hkW.os], by rw [kn.tape, hk2.tape, kw.tape, hkW.tape], by rw [kn.output, hk2.output, kw.output, hkW.output], by omega, fun k hk _ => (kn.block k (by omega) (fun e => e)).trans ((hkeep k (.inl hk)).trans (base k hk))⟩
  refine ⟨fun i => ⟨fun W => ∃ k : Nat, i = k ∧ k ≤ S2.been.length ∧ V.Kp V.Nil w4 W, fun _ => S2.been.length - i.toNat⟩, ⟨0, rfl, Nat.zero_le _, V.Kp.refl _ _⟩, ?_⟩
  rintro _ i W5 ⟨k, rfl, hk, k5⟩
  refine V.ifB_of (fun h7 => ?_) (fun h7 => ?_) <;> simp only [V.ilt_t, V.ilt_f, V.ile_t, V.ile_f, V.igt_t, V.igt_f, V.ige_t, V.ige_f, V.ieq_t, V.ieq_f, V.ine_t, V.ine_f, V.isNil_t, V.isNil_f, V.bnot_eq, Bool.not_eq_true', Bool.not_eq_false', V.zi] at h7
  · refine V.ifB_of (fun h8 => ?_) (fun h8 => ?_) <;> simp only [V.ilt_t, V.ilt_f, V.ile_t, V.ile_f, V.igt_t, V.igt_f, V.ige_t, V.ige_f, V.ieq_t, V.ieq_f, V.ine_t, V.ine_f, V.isNil_t, V.isNil_f, V.bnot_eq, Bool.not_eq_true', Bool.not_eq_false', V.zi] at h8
    · obtain ⟨v, hv⟩ : ∃ v, S2.been[k]? = some v := ⟨_, List.getElem?_eq_getElem (by omega)⟩
      obtain ⟨u, hu⟩ : ∃ u, S1.been[0]? = some u := ⟨_, List.getElem?_eq_getElem (by omega)⟩
      have hvu := s2 u (List.mem_of_getElem? hu) v (List.mem_of_getElem? hv)
      have hn5 : StrRow W5.drew pn S2.been.length cn S2.been := hn.same fun k hk => k5.block k (hn.lt k hk) (fun e => e)
      have hw5 : StrRow W5.drew pw S1.been.length cw S1.been := hw4.same fun k hk => k5.block k (hw4.lt k hk) (fun e => e)
      obtain ⟨ga, ca, rfl, -⟩ := hn5.some (by omega)
      obtain ⟨gb, cb, rfl, -⟩ := hw5.some (by omega)
      refine ⟨inX_nat (by omega), ?_⟩
      simp only [V.nptr_eq, V.vBool_mk, V.vInt_mk, V.vStr_mk, V.vPtr_mk, V.vMap_mk, V.vSlice_mk, V.bnot_eq, V.nilCk_mk, V.aadd_mk, V.size_alloc, V.size_drew, V.size_setCell, V.nmul_nat, V.and_assoc', V.true_and', V.ifB_t, V.ifB_f, V.isNil_some, V.isNil_none, Bool.not_true, Bool.not_false, Nat.zero_add, Nat.add_zero]
      refine V.ldStr_r hn5 (i := k * 1) (by rw [Nat.mul_one, List.getElem?_map, hv]; rfl) ?_
      refine ⟨inX_nat (i := 0) (by omega), ?_⟩
      have e0 : V.nmul (V.inat 0) 1 = 0 := rfl
      rw [e0]
      refine V.ldStr_r hw5 (i := 0) (by rw [List.getElem?_map, hu]; rfl) ?_
      have e1 : V.seq v u = true := by rw [hvu]; simp [V.seq]
      rw [e1]
      have ei : V.iadd .i64 (k : Int) 1 = ((k + 1 : Nat) : Int) := by rw [V.iadd_i64 (by omega) (by omega)]; rfl
      rw [ei]
      exact ⟨⟨k + 1, rfl, by omega, k5.drew⟩, by simp only [Int.toNat_natCast]; omega⟩
    · exact hR _ (k4.trans k5)
  · exact hR _ (k4.trans k5)
end Go.Proofs.Ytkjfhadafefnmaa
