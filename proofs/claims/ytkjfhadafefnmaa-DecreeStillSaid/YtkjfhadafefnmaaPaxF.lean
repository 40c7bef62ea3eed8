/- decree: the plain law, 6: a step. -/
import Derived.Test.YtkjfhadafefnmaaPaxE
set_option linter.all false
namespace Go.Proofs.Ytkjfhadafefnmaa
open Go
/-- what a step never takes back -/
structure Later (S S' : DecS) (pv pv' : Int → Option ByteArray) : Prop where
  ext : ∀ b v, pv b = some v → pv' b = some v
  who : ∀ c i, wh S c i → wh S' c i
  been : S.been.length ≤ S'.been.length
theorem Later.refl (S : DecS) (pv : Int → Option ByteArray) : Later S S pv pv := ⟨fun _ _ h => h, fun _ _ h => h, Nat.le_refl _⟩
theorem Later.trans {S T U : DecS} {p q r : Int → Option ByteArray} (h : Later S T p q) (k : Later T U q r) : Later S U p r :=
  ⟨fun b v x => k.ext b v (h.ext b v x), fun c i x => k.who c i (h.who c i x), Nat.le_trans h.been k.been⟩
theorem Later.same {S S' : DecS} {pv pv' : Int → Option ByteArray} (h1 : S'.slots.length = S.slots.length) (h2 : S'.taken = S.taken) (he : ∀ b v, pv b = some v → pv' b = some v) : Later S S' pv pv' :=
  ⟨he, fun c i h => by unfold wh DecS.held at *; rw [h2]; exact h, by unfold DecS.been; rw [h1, h2]; exact Nat.le_refl _⟩
theorem ains_count {ν : Type} (P : Int × ν → Bool) (x : Int × ν) : ∀ l : List (Int × ν), ((V.ains x l).filter P).length = ([x].filter P).length + (l.filter P).length
  | [] => by simp [V.ains]
  | y :: r => by
    unfold V.ains
    split
    · rw [show x :: y :: r = [x] ++ y :: r from rfl, List.filter_append, List.length_append]
    · rw [List.filter_cons, List.filter_cons (xs := r)]
      split
      · rw [List.length_cons, List.length_cons, ains_count P x r]; omega
      · exact ains_count P x r
theorem adel_count {ν : Type} (P : Int × ν → Bool) (k : Int) (v : ν) : ∀ l : List (Int × ν), l.Pairwise (fun a b => a.1 < b.1) → (∀ e ∈ l, e.1 = k → P e = true → P (k, v) = true) → (l.filter P).length ≤ ([(k, v)].filter P).length + ((V.adel l k).filter P).length
  | [], _, _ => by simp
  | y :: r, h, hp => by
    obtain ⟨h1, h2⟩ := List.pairwise_cons.1 h
    have ih := adel_count P k v r h2 fun e he => hp e (List.mem_cons_of_mem _ he)
    by_cases hy : y.1 = k
    · have hr : V.adel r k = r := adel_none fun p hp' => by have := h1 p hp'; omega
      have hd : V.adel (y :: r) k = r := by
        unfold V.adel at *
        rw [List.filter_cons_of_neg (by simp [hy]), hr]
      rw [hd, List.filter_cons]
      split
      · rename_i hP
        have := hp y (by simp) hy hP
        rw [List.filter_cons_of_pos this]
        simp
        omega
      · omega
    · have hd : V.adel (y :: r) k = y :: V.adel r k := by
        unfold V.adel
        rw [List.filter_cons_of_pos (by simpa using hy)]
      rw [hd, List.filter_cons, List.filter_cons (xs := V.adel r k)]
      split
      · simp only [List.length_cons]; omega
      · exact ih
theorem aput_count {ν : Type} (P : Int × ν → Bool) (k : Int) (v : ν) {l : List (Int × ν)} (h : l.Pairwise (fun a b => a.1 < b.1)) (hp : ∀ e ∈ l, e.1 = k → P e = true → P (k, v) = true) : (l.filter P).length ≤ ((V.aput l k v).filter P).length := by
  unfold V.aput
  rw [ains_count]
  exact adel_count P k v l h hp
section
variable {S : DecS} {n : Nat} {pv : Int → Option ByteArray}
theorem DInv.accept_later (I : DInv S n pv) {x : LetS} (hx : LetOk S n pv x) {s : SlotS} : Later S (S.accept x s) pv pv := by
  unfold DecS.accept
  split
  case isFalse => exact Later.refl _ _
  have hto : x.to < n := hx.rng.2.1
  have n5 := I.n5
  have hwl := I.who_lt x.ballot
  refine ⟨fun _ _ h => h, fun c i h => ?_, ?_⟩
  · unfold wh DecS.held at *
    simp only [alook_put I.rise]
    split
    · rename_i e
      subst e
      simp only [Option.getD_some]
      have hi5 : i < 5 := by
        refine Classical.byContradiction fun hn => ?_
        have hz : (S.held x.ballot).who.testBit i = false := Nat.testBit_lt_two_pow (Nat.lt_of_lt_of_le hwl (Nat.le_trans (by decide : 32 ≤ 2 ^ 5) (Nat.pow_le_pow_right (by decide) (by omega))))
        unfold DecS.held at hz
        rw [hz] at h; cases h
      have := withN_bit _ x.to i hwl (by omega) hi5
      unfold DecS.held at this
      rw [this, h]; rfl
    · exact h
  · unfold DecS.been
    simp only [List.length_map, List.length_set]
    refine aput_count _ _ _ I.rise fun e he hk hP => ?_
    unfold isIn at *
    have hee : S.held x.ballot = e.2 := by
      unfold DecS.held V.alook
      rw [← hk, find_of_mem I.rise he]; rfl
    refine enough_mono _ _ _ (I.ta e he).1 (withN_lt _ _ hwl (by omega)) (by rw [I.len]; exact n5) (fun i hi hb => ?_) hP
    rw [I.len] at hi
    rw [withN_bit _ _ _ hwl (by omega) (by omega), hee, hb]; rfl
theorem tell_same (x : LetS) : (S.tell x).slots = S.slots ∧ (S.tell x).taken = S.taken := by
  unfold DecS.tell
  split
  · exact ⟨rfl, rfl⟩
  · split
    · simp only; split <;> exact ⟨rfl, rfl⟩
    · simp only; split <;> exact ⟨rfl, rfl⟩
theorem promise_same (x : LetS) (s : SlotS) : (S.promise x s).slots.length = S.slots.length ∧ (S.promise x s).taken = S.taken := by
  unfold DecS.promise
  split
  · exact ⟨by simp, rfl⟩
  · exact ⟨rfl, rfl⟩
theorem DInv.read (I : DInv S n pv) {x : LetS} (hx : LetOk S n pv x) : ∃ pv', DInv (S.read x) n pv' ∧ Later S (S.read x) pv pv' := by
  unfold DecS.read
  split
  · exact ⟨pv, I, Later.refl _ _⟩
  · rename_i s hs
    split
    · exact ⟨pv, I.promise hx hs, Later.same (promise_same x s).1 (promise_same x s).2 fun _ _ h => h⟩
    · split
      · rename_i h2
        exact ⟨pv, I.accept hx h2 hs, I.accept_later hx⟩
      · rename_i h0 h2
        obtain ⟨pv', h1, h3⟩ := I.tell hx (by rcases hx.kind with h | h | h | h <;> first | exact absurd h h0 | exact .inl h | exact absurd h h2 | exact .inr h)
        exact ⟨pv', h1, Later.same (by rw [(tell_same x).1]) (tell_same x).2 h3⟩
theorem DInv.step (I : DInv S n pv) (s : StepS) : ∃ pv', DInv (S.step s) n pv' ∧ Later S (S.step s) pv pv' := by
  have n1 := I.n1
  unfold DecS.step
  split
  · have h0 := Int.emod_nonneg s.who (b := (S.slots.length : Int)) (by rw [I.len]; omega)
    have h9 := Int.emod_lt_of_pos s.who (b := (S.slots.length : Int)) (by rw [I.len]; omega)
    rw [I.len] at h0 h9 ⊢
    exact ⟨pv, I.begin (by omega) _, Later.same rfl rfl fun _ _ h => h⟩
  split
  · exact ⟨pv, I.forget _, Later.same rfl rfl fun _ _ h => h⟩
  split
  · split
    · exact ⟨pv, I, Later.refl _ _⟩
    · rename_i x hx
      have hm := List.mem_of_getElem? hx
      split
      · exact ⟨pv, I.twice hm, Later.same rfl rfl fun _ _ h => h⟩
      split
      · have I1 := I.drop (s.n % S.letters.length).toNat
        obtain ⟨pv', h1, h2⟩ := I1.read ((I.le x hm).grow (Grow.same rfl rfl) (Int.le_refl _) (fun _ _ h => h))
        exact ⟨pv', h1, Later.trans (T := S.drop (s.n % S.letters.length).toNat) (q := pv) (Later.same rfl rfl fun _ _ h => h) h2⟩
      · exact ⟨pv, I.drop _, Later.same rfl rfl fun _ _ h => h⟩
  · exact ⟨pv, I, Later.refl _ _⟩
end
end Go.Proofs.Ytkjfhadafefnmaa
