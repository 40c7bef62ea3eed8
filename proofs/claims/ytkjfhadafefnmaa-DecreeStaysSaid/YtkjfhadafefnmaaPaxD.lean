/- decree: the plain law, 4: acceptances, and what a proposer is told. -/
import Derived.Test.YtkjfhadafefnmaaPaxC
set_option linter.all false
namespace Go.Proofs.Ytkjfhadafefnmaa
open Go
theorem rise_ins {ν : Type} {x : Int × ν} : ∀ {l : List (Int × ν)}, l.Pairwise (fun a b => a.1 < b.1) → (∀ p ∈ l, p.1 ≠ x.1) → (V.ains x l).Pairwise (fun a b => a.1 < b.1)
  | [], _, _ => by simp [V.ains]
  | y :: r, h, hn => by
    obtain ⟨h1, h2⟩ := List.pairwise_cons.1 h
    unfold V.ains
    split
    · rename_i hlt
      refine List.pairwise_cons.2 ⟨fun p hp => ?_, h⟩
      rcases List.mem_cons.1 hp with rfl | hp
      · exact hlt
      · have := h1 p hp; omega
    · rename_i hlt
      have hy := hn y (by simp)
      refine List.pairwise_cons.2 ⟨fun p hp => ?_, rise_ins h2 fun p hp => hn p (by simp [hp])⟩
      rcases mem_ains hp with rfl | hp
      · omega
      · exact h1 p hp
theorem rise_put {ν : Type} {l : List (Int × ν)} (h : l.Pairwise (fun a b => a.1 < b.1)) (k : Int) (v : ν) : (V.aput l k v).Pairwise (fun a b => a.1 < b.1) := by
  unfold V.aput
  refine rise_ins (h.filter _) fun p hp => ?_
  have := (List.mem_filter.1 hp).2
  simpa using this
theorem mem_ains' {ν : Type} (x : Int × ν) : ∀ (l : List (Int × ν)), x ∈ V.ains x l
  | [] => by simp [V.ains]
  | y :: r => by
    unfold V.ains
    split
    · simp
    · exact List.mem_cons_of_mem _ (mem_ains' x r)
theorem mem_ains_old {ν : Type} {x e : Int × ν} : ∀ {l : List (Int × ν)}, e ∈ l → e ∈ V.ains x l
  | [], h => by cases h
  | y :: r, h => by
    unfold V.ains
    split
    · exact List.mem_cons_of_mem _ h
    · rcases List.mem_cons.1 h with rfl | h
      · simp
      · exact List.mem_cons_of_mem _ (mem_ains_old h)
theorem find_of_mem {ν : Type} {l : List (Int × ν)} (h : l.Pairwise (fun a b => a.1 < b.1)) {e : Int × ν} (he : e ∈ l) : l.find? (fun p => p.1 == e.1) = some e := by
  obtain ⟨k, hk⟩ := List.getElem?_of_mem he
  exact find_rise h hk
theorem alook_put {ν : Type} {l : List (Int × ν)} (h : l.Pairwise (fun a b => a.1 < b.1)) (k c : Int) (v : ν) : V.alook (V.aput l k v) c = if c = k then some v else V.alook l c := by
  unfold V.alook
  have hp := rise_put h k v
  split
  · rename_i e
    subst e
    rw [find_of_mem hp (e := (c, v)) (by unfold V.aput; exact mem_ains' _ _)]
    rfl
  · rename_i hne
    cases hf : l.find? (fun p => p.1 == c) with
    | some e =>
      obtain ⟨he, hc⟩ := find_mem hf
      have : e ∈ V.aput l k v := by
        unfold V.aput
        refine mem_ains_old (List.mem_filter.2 ⟨he, ?_⟩)
        simp only [Bool.not_eq_true', beq_eq_false_iff_ne]; omega
      have := find_of_mem hp this
      rw [hc] at this
      rw [this]
    | none =>
      rw [List.find?_eq_none.2 fun p hp' => ?_]
      rcases mem_aput hp' with rfl | ⟨h1, _⟩
      · simp; omega
      · exact List.find?_eq_none.1 hf p h1
section
variable {S : DecS} {n : Nat} {pv : Int → Option ByteArray}
theorem DInv.accept (I : DInv S n pv) {x : LetS} (hx : LetOk S n pv x) (hk : x.kind = 2) {s : SlotS} (hs : S.slots[x.to]? = some s) : DInv (S.accept x s) n pv := by
  unfold DecS.accept
  split
  case isFalse => exact I
  rename_i hc
  have hlt : x.to < S.slots.length := (List.getElem?_eq_some_iff.1 hs).1
  have hto : x.to < n := hx.rng.2.1
  have n5 := I.n5
  have so := I.sl _ _ hs
  have hpv := hx.k2 hk
  have hwl := I.who_lt x.ballot
  have heldS : ∀ c, (DecS.held { S with slots := S.slots.set x.to ⟨x.ballot, x.ballot, x.val⟩, taken := V.aput S.taken x.ballot ⟨withN (S.held x.ballot).who x.to, x.val⟩ } c) = if c = x.ballot then ⟨withN (S.held x.ballot).who x.to, x.val⟩ else S.held c := fun c => by
    unfold DecS.held
    simp only [alook_put I.rise]
    split <;> rfl
  have whS : ∀ c i, (wh { S with slots := S.slots.set x.to ⟨x.ballot, x.ballot, x.val⟩, taken := V.aput S.taken x.ballot ⟨withN (S.held x.ballot).who x.to, x.val⟩ } c i ↔ wh S c i ∨ (c = x.ballot ∧ i = x.to)) := fun c i => by
    unfold wh
    rw [heldS]
    split
    · rename_i e
      subst e
      by_cases hi5 : i < 5
      · rw [withN_bit _ _ _ hwl (by omega) hi5]
        simp only [Bool.or_eq_true, decide_eq_true_eq]
        constructor
        · rintro (h | h)
          · exact .inl h
          · exact .inr ⟨trivial, h.symm⟩
        · rintro (h | h)
          · exact .inl h
          · exact .inr h.2.symm
      · have hz : ∀ s, s < 32 → s.testBit i = false := fun s hs => Nat.testBit_lt_two_pow (Nat.lt_of_lt_of_le hs (Nat.le_trans (by decide : 32 ≤ 2 ^ 5) (Nat.pow_le_pow_right (by decide) (by omega))))
        simp only [hz _ hwl, hz _ (withN_lt _ x.to hwl (by omega))]
        constructor
        · intro h; cases h
        · rintro (h | h)
          · cases h
          · omega
    · rename_i e
      constructor
      · exact .inl
      · rintro (h | h)
        · exact h
        · exact absurd h.1 e
  have g : Grow S { S with slots := S.slots.set x.to ⟨x.ballot, x.ballot, x.val⟩, taken := V.aput S.taken x.ballot ⟨withN (S.held x.ballot).who x.to, x.val⟩ } :=
    { prs := fun i s' h => by
        simp only [List.getElem?_set] at h
        split at h
        · rename_i e
          subst e
          cases h
          exact ⟨s, hs, by simp only; omega⟩
        · exact ⟨s', h, Int.le_refl _⟩
      whs := fun c i h => by
        rcases (whS c i).1 h with h | ⟨rfl, rfl⟩
        · exact .inl h
        · exact .inr ⟨s, hs, hc.2.2⟩
      wh2 := fun c i h => (whS c i).2 (.inl h) }
  have I1 : DInv { S with slots := S.slots.set x.to ⟨x.ballot, x.ballot, x.val⟩, taken := V.aput S.taken x.ballot ⟨withN (S.held x.ballot).who x.to, x.val⟩ } n pv :=
    { len := by simp only [List.length_set]; exact I.len
      n1 := I.n1, n5 := I.n5
      sl := fun i s' h => by
        simp only [List.getElem?_set] at h
        split at h
        · rename_i e
          subst e
          cases h
          refine ⟨⟨by simp only; omega, Int.le_refl _⟩, fun c hw => ?_, fun _ => hpv⟩
          rcases (whS c x.to).1 hw with h | ⟨rfl, _⟩
          · have h1 := so.acc c h
            have h2 := so.rng.2
            simp only; omega
          · exact Int.le_refl _
        · rename_i hne
          refine ⟨(I.sl i s' h).rng, fun c hw => ?_, (I.sl i s' h).val⟩
          rcases (whS c i).1 hw with h1 | ⟨_, h1⟩
          · exact (I.sl i s' h).acc c h1
          · exact absurd h1.symm hne
      le := fun y hy => (I.le y hy).grow g (Int.le_refl _) (fun _ _ h => h)
      pr := fun e he => (I.pr e he).grow g (Int.le_refl _) (fun _ h => h) (fun _ _ h => h) (fun h => h)
      rise := rise_put I.rise _ _
      ta := fun e he => by
        rcases mem_aput he with rfl | ⟨he, _⟩
        · exact ⟨withN_lt _ _ hwl (by omega), hc.1, hx.rng.2.2.2, hpv⟩
        · exact I.ta e he
      pvr := I.pvr
      safe := fun b v h => I.safe_grow g (fun _ _ h => h) h
      ch := fun v hv => by
        obtain ⟨b, h1, h2⟩ := I.ch v hv
        refine ⟨b, h1, ?_⟩
        rw [heldS]
        split
        · rename_i e
          subst e
          refine enough_mono _ _ n hwl (withN_lt _ _ hwl (by omega)) n5 (fun i hi hb => ?_) h2
          simp only
          rw [withN_bit _ _ _ hwl (by omega) (by omega), hb]; rfl
        · exact h2 }
  refine I1.setLetters fun y hy => ?_
  rcases List.mem_append.1 hy with h | h
  · exact I1.le y h
  · rw [List.mem_singleton.1 h]
    exact
    { rng := ⟨hx.rng.2.1, hx.rng.1, hx.rng.2.2.1, hx.rng.2.2.2⟩
      kind := .inr (.inr (.inr rfl))
      k1 := fun h => by simp at h
      k2 := fun h => by simp at h
      k3 := fun _ => (whS x.ballot x.to).2 (.inr ⟨rfl, rfl⟩) }
end
end Go.Proofs.Ytkjfhadafefnmaa
