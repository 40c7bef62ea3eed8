/- decree: the laws' walks, 4: DecreeOne. -/
import Derived.Test.YtkjfhadafefnmaaLawC
set_option linter.all false
namespace Go.Proofs.Ytkjfhadafefnmaa
open Go
set_option linter.unusedSimpArgs false
set_option maxHeartbeats 1000000 in
theorem one_spec (n : Int) (p : Option Addr) (cp : Nat) (l : List StepS) (w : World) (h1 : StepsAt w p l) (R : Value → World → Prop) (hR : ∀ W, V.Kp V.Nil w W → R (.bool true) W) :
    V.CallsR Try.prog 4 #[.int .i64 n, .slice p l.length cp] w R := by
  refine V.calls_of_fnVC Try.func4 ?_
  rw [vc_annalistlaw19_DecreeOne]
  refine awake_spec w _ fun w0 k0 => ?_
  simp only [V.nptr_eq, V.vBool_mk, V.vInt_mk, V.vStr_mk, V.vPtr_mk, V.vMap_mk, V.vSlice_mk, V.bnot_eq, V.nilCk_mk, V.aadd_mk, V.size_alloc, V.size_drew, V.size_setCell, V.nmul_nat, V.and_assoc', V.true_and', V.ifB_t, V.ifB_f, V.isNil_some, V.isNil_none, Bool.not_true, Bool.not_false, Nat.zero_add, Nat.add_zero]
  refine V.ifB_of (fun h3 => ?_) (fun h3 => ?_) <;> simp only [V.ilt_t, V.ilt_f, V.ile_t, V.ile_f, V.igt_t, V.igt_f, V.ige_t, V.ige_f, V.ieq_t, V.ieq_f, V.ine_t, V.ine_f, V.isNil_t, V.isNil_f, V.bnot_eq, Bool.not_eq_true', Bool.not_eq_false', V.zi] at h3
  · refine awake_spec w0 _ fun w1 k1 => ?_
    simp only [V.nptr_eq, V.vBool_mk, V.vInt_mk, V.vStr_mk, V.vPtr_mk, V.vMap_mk, V.vSlice_mk, V.bnot_eq, V.nilCk_mk, V.aadd_mk, V.size_alloc, V.size_drew, V.size_setCell, V.nmul_nat, V.and_assoc', V.true_and', V.ifB_t, V.ifB_f, V.isNil_some, V.isNil_none, Bool.not_true, Bool.not_false, Nat.zero_add, Nat.add_zero]
    exact hR w1 (k0.trans k1)
  refine new_spec n w0 _ ?_
  intro g d w1 hr k1 hf
  obtain ⟨-, n1, n5⟩ := nodesOf_eq n
  simp only [V.nptr_eq, V.vBool_mk, V.vInt_mk, V.vStr_mk, V.vPtr_mk, V.vMap_mk, V.vSlice_mk, V.bnot_eq, V.nilCk_mk, V.aadd_mk, V.size_alloc, V.size_drew, V.size_setCell, V.nmul_nat, V.and_assoc', V.true_and', V.ifB_t, V.ifB_f, V.isNil_some, V.isNil_none, Bool.not_true, Bool.not_false, Nat.zero_add, Nat.add_zero]
  have r0 : Run (fun k => k < w.heap.size) w w1 d (nodesOf n) 0 (DecS.new (nodesOf n)) (DecS.new (nodesOf n)) (fun _ => none) :=
    ⟨g, _, hr, new_inv n1 n5, new_bnd _, Later.refl _ _, (k0.trans k1).mono fun _ _ e => e.elim, fun k hk => ⟨hk, hf k (by have := k0.size; omega)⟩⟩
  refine ⟨fun i => ⟨fun W => ∃ k : Nat, i = k ∧ k ≤ l.length ∧ Run (fun k => k < w.heap.size) w W d (nodesOf n) k (DecS.new (nodesOf n)) ((DecS.new (nodesOf n)).run (l.take k)) (fun _ => none), fun _ => l.length - i.toNat⟩, ⟨0, rfl, Nat.zero_le _, r0⟩, ?_⟩
  rintro _ i W ⟨k, rfl, hk, rW⟩
  refine V.ifB_of (fun h5 => ?_) (fun h5 => ?_) <;> simp only [V.ilt_t, V.ilt_f, V.ile_t, V.ile_f, V.igt_t, V.igt_f, V.ige_t, V.ige_f, V.ieq_t, V.ieq_f, V.ine_t, V.ine_f, V.isNil_t, V.isNil_f, V.bnot_eq, Bool.not_eq_true', Bool.not_eq_false', V.zi] at h5
  · obtain ⟨s, hs⟩ : ∃ s, l[k]? = some s := ⟨_, List.getElem?_eq_getElem (by omega)⟩
    obtain ⟨a, rfl, c1, c2, c3, c4⟩ := (h1.keep fun k hk => rW.keeps hk).at' k s hs
    refine ⟨inX_nat (by omega), ?_⟩
    simp only [V.nilCk_mk, aadd_aadd, V.nmul_nat, Nat.add_zero]
    refine ⟨_, c1, _, c2, _, c3, _, c4, ?_⟩
    refine rW.step (by omega) s _ fun W' rW' => ?_
    have ei : V.iadd .i64 (k : Int) 1 = ((k + 1 : Nat) : Int) := by rw [V.iadd_i64 (by omega) (by omega)]; rfl
    rw [ei]
    refine ⟨⟨k + 1, rfl, by omega, by rw [run_take _ hs]; exact rW'⟩, by simp only [Int.toNat_natCast]; omega⟩
  have hkl : k = l.length := by omega
  subst hkl
  rw [List.take_length] at rW
  generalize (DecS.new (nodesOf n)).run l = S1 at rW
  obtain ⟨gW, pvW, hrW, hiW, hbW, hlW, hkW, hfW⟩ := rW
  obtain ⟨ok1, tk1⟩ := hiW.oks hbW (by omega)
  obtain ⟨o1, o2⟩ := hiW.law_one
  have kW : V.Kp V.Nil w W := ⟨hkW.os, hkW.tape, hkW.output, hkW.size, fun i hi _ => hkW.block i hi (fun e => e hi)⟩
  have hbl := been_len ok1
  have hcl := ok1.chosen
  have hgl := ok1.begun
  refine chosen_spec (hrW.alloc _) ok1 _ ?_
  intro pc cc W2 hc kc hcn
  simp only [V.nptr_eq, V.vBool_mk, V.vInt_mk, V.vStr_mk, V.vPtr_mk, V.vMap_mk, V.vSlice_mk, V.bnot_eq, V.nilCk_mk, V.aadd_mk, V.size_alloc, V.size_drew, V.size_setCell, V.nmul_nat, V.and_assoc', V.true_and', V.ifB_t, V.ifB_f, V.isNil_some, V.isNil_none, Bool.not_true, Bool.not_false, Nat.zero_add, Nat.add_zero]
  have h00 : StrRow W2 (some ⟨W.heap.size, 0, none⟩) 0 0 [] := by
    have : StrRow (W.alloc (.cells #[] strT)) (some ⟨W.heap.size, 0, none⟩) 0 0 [] := V.Row.of (cur := #[]) (V.Blk.new W #[] strT) (Nat.le_refl _) (by decide) rfl rfl
    exact this.same fun k hk => kc.block k (this.lt k hk) (fun e => e)
  refine appStr h00 hc (by omega) ?_
  intro p3 c3 W3 h3r k3 hat3
  simp only [Nat.zero_add, List.nil_append] at h3r ⊢
  simp only [V.nptr_eq, V.vBool_mk, V.vInt_mk, V.vStr_mk, V.vPtr_mk, V.vMap_mk, V.vSlice_mk, V.bnot_eq, V.nilCk_mk, V.aadd_mk, V.size_alloc, V.size_drew, V.size_setCell, V.nmul_nat, V.and_assoc', V.true_and', V.ifB_t, V.ifB_f, V.isNil_some, V.isNil_none, Bool.not_true, Bool.not_false, Nat.zero_add, Nat.add_zero]
  have z2 := kc.size
  simp only [V.size_alloc] at z2
  have k3W : V.Kp V.Nil W W3 := V.Kp.then (V.Kp.then (V.Kp.alloc (V.Kp.refl _ _) _) kc (fun _ _ e => e)) k3 fun i hi e => by
    have e : W.heap.size = i := Option.some.inj e
    omega
  have hr3 := hrW.kp k3W (fun _ e => e.elim)
  refine been_spec hr3 ok1 tk1 _ ?_
  intro pb cb W4 hb4 kb hbn
  simp only [V.nptr_eq, V.vBool_mk, V.vInt_mk, V.vStr_mk, V.vPtr_mk, V.vMap_mk, V.vSlice_mk, V.bnot_eq, V.nilCk_mk, V.aadd_mk, V.size_alloc, V.size_drew, V.size_setCell, V.nmul_nat, V.and_assoc', V.true_and', V.ifB_t, V.ifB_f, V.isNil_some, V.isNil_none, Bool.not_true, Bool.not_false, Nat.zero_add, Nat.add_zero]
  have h34 : StrRow W4 p3 S1.chosen.length c3 S1.chosen := h3r.same fun k hk => kb.block k (h3r.lt k hk) (fun e => e)
  refine appStr h34 hb4 (by omega) ?_
  intro p5 c5 W5 h5r k5 hat5
  simp only [V.nptr_eq, V.vBool_mk, V.vInt_mk, V.vStr_mk, V.vPtr_mk, V.vMap_mk, V.vSlice_mk, V.bnot_eq, V.nilCk_mk, V.aadd_mk, V.size_alloc, V.size_drew, V.size_setCell, V.nmul_nat, V.and_assoc', V.true_and', V.ifB_t, V.ifB_f, V.isNil_some, V.isNil_none, Bool.not_true, Bool.not_false, Nat.zero_add, Nat.add_zero]
  have hp3 : ∀ k, V.blk? p3 = some k → W.heap.size ≤ k := fun k hk => by
    rcases hat3 with e | e
    · rw [e] at hk; have e : W.heap.size = k := Option.some.inj hk; omega
    · rw [e] at hk; have e := Option.some.inj hk; omega
  have k5W : V.Kp V.Nil W W5 := V.Kp.then (k3W.trans kb) k5 fun i hi e => by have := hp3 i e; omega
  have hlen : (S1.chosen ++ S1.been).length = S1.chosen.length + S1.been.length := List.length_append
  rw [← hlen] at h5r ⊢
  generalize hall : S1.chosen ++ S1.been = al at h5r o1 o2 hlen ⊢
  refine ⟨fun i => ⟨fun W' => ∃ k : Nat, i = k ∧ 1 ≤ k ∧ (k ≤ al.length ∨ k = 1) ∧ V.Kp V.Nil W5 W', fun _ => al.length - i.toNat⟩, ⟨1, rfl, Nat.le_refl _, .inr rfl, V.Kp.refl _ _⟩, ?_⟩
  rintro _ i W6 ⟨k, rfl, hk1, hk, k6⟩
  have h6r : StrRow W6.drew p5 al.length c5 al := h5r.same fun k hk => k6.block k (h5r.lt k hk) (fun e => e)
  refine V.ifB_of (fun h7 => ?_) (fun h7 => ?_) <;> simp only [V.ilt_t, V.ilt_f, V.ile_t, V.ile_f, V.igt_t, V.igt_f, V.ige_t, V.ige_f, V.ieq_t, V.ieq_f, V.ine_t, V.ine_f, V.isNil_t, V.isNil_f, V.bnot_eq, Bool.not_eq_true', Bool.not_eq_false', V.zi] at h7
  · obtain ⟨v, hv⟩ : ∃ v, al[k]? = some v := ⟨_, List.getElem?_eq_getElem (by omega)⟩
    obtain ⟨u, hu⟩ : ∃ u, al[0]? = some u := ⟨_, List.getElem?_eq_getElem (by omega)⟩
    obtain ⟨ga, ca, rfl, -⟩ := h6r.some (by omega)
    refine ⟨inX_nat (by omega), ?_⟩
    simp only [V.nptr_eq, V.vBool_mk, V.vInt_mk, V.vStr_mk, V.vPtr_mk, V.vMap_mk, V.vSlice_mk, V.bnot_eq, V.nilCk_mk, V.aadd_mk, V.size_alloc, V.size_drew, V.size_setCell, V.nmul_nat, V.and_assoc', V.true_and', V.ifB_t, V.ifB_f, V.isNil_some, V.isNil_none, Bool.not_true, Bool.not_false, Nat.zero_add, Nat.add_zero]
    refine V.ldStr_r h6r (i := k * 1) (by rw [Nat.mul_one, List.getElem?_map, hv]; rfl) ?_
    refine ⟨inX_nat (i := 0) (by omega), ?_⟩
    have e0 : V.nmul (V.inat 0) 1 = 0 := rfl
    rw [e0]
    refine V.ldStr_r h6r (i := 0) (by rw [List.getElem?_map, hu]; rfl) ?_
    have e1 : V.seq v u = true := by rw [o1 v (List.mem_of_getElem? hv) u (List.mem_of_getElem? hu)]; simp [V.seq]
    rw [e1]
    have ei : V.iadd .i64 (k : Int) 1 = ((k + 1 : Nat) : Int) := by rw [V.iadd_i64 (by omega) (by omega)]; rfl
    rw [ei]
    exact ⟨⟨k + 1, rfl, by omega, .inl (by omega), k6.drew⟩, by simp only [Int.toNat_natCast]; omega⟩
  refine V.ifB_of (fun h8 => ?_) (fun h8 => ?_) <;> simp only [V.ilt_t, V.ilt_f, V.ile_t, V.ile_f, V.igt_t, V.igt_f, V.ige_t, V.ige_f, V.ieq_t, V.ieq_f, V.ine_t, V.ine_f, V.isNil_t, V.isNil_f, V.bnot_eq, Bool.not_eq_true', Bool.not_eq_false', V.zi] at h8
  · exact hR _ ((kW.trans k5W).trans k6)
  obtain ⟨u, hu⟩ : ∃ u, al[0]? = some u := ⟨_, List.getElem?_eq_getElem (by omega)⟩
  obtain ⟨ub, hbne⟩ := o2 u (List.mem_of_getElem? hu)
  have hr6 := hrW.kp (k5W.trans k6) (fun _ e => e.elim)
  refine begun_spec hr6 ok1 _ ?_
  intro po co W7 ho k7 hon
  simp only [V.nptr_eq, V.vBool_mk, V.vInt_mk, V.vStr_mk, V.vPtr_mk, V.vMap_mk, V.vSlice_mk, V.bnot_eq, V.nilCk_mk, V.aadd_mk, V.size_alloc, V.size_drew, V.size_setCell, V.nmul_nat, V.and_assoc', V.true_and', V.ifB_t, V.ifB_f, V.isNil_some, V.isNil_none, Bool.not_true, Bool.not_false, Nat.zero_add, Nat.add_zero]
  refine ⟨fun i => ⟨fun W' => ∃ k : Nat, i = k ∧ k ≤ S1.begun.length ∧ (∀ j v, j < k → S1.begun[j]? = some v → v ≠ u) ∧ V.Kp V.Nil W7 W', fun _ => S1.begun.length - i.toNat⟩, ⟨0, rfl, Nat.zero_le _, fun j v hj => by omega, V.Kp.refl _ _⟩, ?_⟩
  rintro _ i W8 ⟨k', rfl, hk', hno, k8⟩
  have h8r : StrRow W8.drew p5 al.length c5 al := (h6r.same (w' := W6) fun _ _ => rfl).same fun k hk => (k8.block k (by have := k7.size; have := h6r.lt k hk; simp only [V.size_drew] at this; omega) (fun e => e)).trans (k7.block k (by have := h6r.lt k hk; simp only [V.size_drew] at this; omega) (fun e => e))
  have ho8 : StrRow W8.drew po S1.begun.length co S1.begun := ho.same fun k hk => k8.block k (ho.lt k hk) (fun e => e)
  refine V.ifB_of (fun h9 => ?_) (fun h9 => ?_) <;> simp only [V.ilt_t, V.ilt_f, V.ile_t, V.ile_f, V.igt_t, V.igt_f, V.ige_t, V.ige_f, V.ieq_t, V.ieq_f, V.ine_t, V.ine_f, V.isNil_t, V.isNil_f, V.bnot_eq, Bool.not_eq_true', Bool.not_eq_false', V.zi] at h9
  · obtain ⟨v, hv⟩ : ∃ v, S1.begun[k']? = some v := ⟨_, List.getElem?_eq_getElem (by omega)⟩
    obtain ⟨ga, ca, rfl, -⟩ := h8r.some (by omega)
    obtain ⟨gb, cb', rfl, -⟩ := ho8.some (by omega)
    refine ⟨inX_nat (by omega), ?_⟩
    simp only [V.nptr_eq, V.vBool_mk, V.vInt_mk, V.vStr_mk, V.vPtr_mk, V.vMap_mk, V.vSlice_mk, V.bnot_eq, V.nilCk_mk, V.aadd_mk, V.size_alloc, V.size_drew, V.size_setCell, V.nmul_nat, V.and_assoc', V.true_and', V.ifB_t, V.ifB_f, V.isNil_some, V.isNil_none, Bool.not_true, Bool.not_false, Nat.zero_add, Nat.add_zero]
    refine V.ldStr_r ho8 (i := k' * 1) (by rw [Nat.mul_one, List.getElem?_map, hv]; rfl) ?_
    refine ⟨inX_nat (i := 0) (by omega), ?_⟩
    have e0 : V.nmul (V.inat 0) 1 = 0 := rfl
    rw [e0]
    refine V.ldStr_r h8r (i := 0) (by rw [List.getElem?_map, hu]; rfl) ?_
    refine V.ifB_of (fun h10 => ?_) (fun h10 => ?_)
    · refine been_spec ((hr6.kp k7 (fun _ e => e.elim)).kp k8 (fun _ e => e.elim)).drew ok1 tk1 _ ?_
      intro pz cz W9 hz kz _
      simp only [V.nptr_eq, V.vBool_mk, V.vInt_mk, V.vStr_mk, V.vPtr_mk, V.vMap_mk, V.vSlice_mk, V.bnot_eq, V.nilCk_mk, V.aadd_mk, V.size_alloc, V.size_drew, V.size_setCell, V.nmul_nat, V.and_assoc', V.true_and', V.ifB_t, V.ifB_f, V.isNil_some, V.isNil_none, Bool.not_true, Bool.not_false, Nat.zero_add, Nat.add_zero]
      have e2 : V.igt (V.zi S1.been.length) 0 = true := by
        have : 0 < S1.been.length := List.length_pos_iff.2 hbne
        simp only [V.igt_t, V.zi]; omega
      rw [e2]
      exact hR _ ((((kW.trans k5W).trans k6).trans k7).trans (k8.drew.trans kz))
    · have hne : v ≠ u := fun e => by rw [e] at h10; simp [V.seq] at h10
      have ei : V.iadd .i64 (k' : Int) 1 = ((k' + 1 : Nat) : Int) := by rw [V.iadd_i64 (by omega) (by omega)]; rfl
      rw [ei]
      refine ⟨⟨k' + 1, rfl, by omega, fun j v' hj hv' => ?_, k8.drew⟩, by simp only [Int.toNat_natCast]; omega⟩
      by_cases hjk : j = k'
      · rw [hjk, hv] at hv'; cases hv'; exact hne
      · exact hno j v' (by omega) hv'
  · obtain ⟨j, hj⟩ := List.getElem?_of_mem ub
    exact absurd rfl (hno j u (by have := (List.getElem?_eq_some_iff.1 hj).1; omega) hj)
end Go.Proofs.Ytkjfhadafefnmaa
