/- decree: the plain law, 3: each step keeps what is always so. -/
import Derived.Test.YtkjfhadafefnmaaPaxB
set_option linter.all false
namespace Go.Proofs.Ytkjfhadafefnmaa
open Go
section
variable {S : DecS} {n : Nat} {pv : Int → Option ByteArray}
theorem DInv.setLetters (I : DInv S n pv) {l : List LetS} (hl : ∀ x ∈ l, LetOk S n pv x) : DInv { S with letters := l } n pv :=
  have g : Grow S { S with letters := l } := Grow.same rfl rfl
  { len := I.len, n1 := I.n1, n5 := I.n5, sl := fun i s hs => ⟨(I.sl i s hs).rng, (I.sl i s hs).acc, (I.sl i s hs).val⟩
    le := fun x hx => (hl x hx).grow g (Int.le_refl _) (fun _ _ h => h)
    pr := fun e he => (I.pr e he).grow g (Int.le_refl _) (fun _ h => h) (fun _ _ h => h) (fun h => h)
    rise := I.rise, ta := I.ta, pvr := I.pvr, safe := I.safe, ch := I.ch }
theorem DInv.setProps (I : DInv S n pv) {l : List (Int × PropS)} (hl : ∀ e ∈ l, PropOk S n pv e) : DInv { S with props := l } n pv :=
  have g : Grow S { S with props := l } := Grow.same rfl rfl
  { len := I.len, n1 := I.n1, n5 := I.n5, sl := fun i s hs => ⟨(I.sl i s hs).rng, (I.sl i s hs).acc, (I.sl i s hs).val⟩
    le := fun x hx => (I.le x hx).grow g (Int.le_refl _) (fun _ _ h => h)
    pr := fun e he => (hl e he).grow g (Int.le_refl _) (fun _ h => h) (fun _ _ h => h) (fun h => h)
    rise := I.rise, ta := I.ta, pvr := I.pvr, safe := I.safe, ch := I.ch }
theorem DInv.all (I : DInv S n pv) {x : LetS} (hx : ∀ i, i < n → LetOk S n pv { x with to := i }) : DInv (S.all x) n pv := by
  refine I.setLetters fun y hy => ?_
  rcases List.mem_append.1 hy with h | h
  · exact I.le y h
  · obtain ⟨i, hi, rfl⟩ := List.mem_map.1 h
    exact hx i (by rw [← I.len]; exact List.mem_range.1 hi)
theorem DInv.forget (I : DInv S n pv) (who : Int) : DInv (S.forget who) n pv := I.setProps fun e he => I.pr e (List.mem_filter.1 he).1
theorem DInv.drop (I : DInv S n pv) (i : Nat) : DInv (S.drop i) n pv := I.setLetters fun x hx => I.le x (List.mem_of_mem_eraseIdx hx)
theorem DInv.twice (I : DInv S n pv) {x : LetS} (hx : x ∈ S.letters) : DInv { S with letters := S.letters ++ [x] } n pv := I.setLetters fun y hy => by
  rcases List.mem_append.1 hy with h | h
  · exact I.le y h
  · rw [List.mem_singleton.1 h]; exact I.le x hx
theorem DInv.pv_none (I : DInv S n pv) {b : Int} (h : top S ≤ b) : pv b = none := by
  cases hb : pv b with
  | none => rfl
  | some v => have := (I.pvr b v hb).2.1; omega
theorem DInv.begin (I : DInv S n pv) {who : Nat} (hw : who < n) (v : ByteArray) : DInv (S.begin who v) n pv := by
  have n5 := I.n5
  have htop : top { S with begun := S.begun ++ [v], props := V.aput S.props (8 * ((S.begun.length : Int) + 1) + who) (PropS.new S.slots.length (8 * ((S.begun.length : Int) + 1) + who) v) } = top S + 8 := by
    simp only [top, List.length_append, List.length_cons, List.length_nil]; omega
  have ht0 : top S = 8 * ((S.begun.length : Int) + 1) := rfl
  have g : Grow S { S with begun := S.begun ++ [v], props := V.aput S.props (8 * ((S.begun.length : Int) + 1) + who) (PropS.new S.slots.length (8 * ((S.begun.length : Int) + 1) + who) v) } := Grow.same rfl rfl
  have hbg : ∀ u ∈ S.begun, u ∈ S.begun ++ [v] := fun u hu => List.mem_append.2 (.inl hu)
  refine DInv.all ?_ ?_
  · exact
    { len := I.len, n1 := I.n1, n5 := I.n5, sl := fun i s hs => ⟨(I.sl i s hs).rng, (I.sl i s hs).acc, (I.sl i s hs).val⟩
      le := fun x hx => (I.le x hx).grow g (by omega) (fun _ _ h => h)
      pr := fun e he => by
        rcases mem_aput he with rfl | ⟨he, _⟩
        · exact
          { ok := by rw [I.len]; exact PropS.new_ok I.n1 I.n5 _ _
            nn := I.len
            ballot := rfl
            rng := by rw [htop]; simp only; omega
            val := List.mem_append.2 (.inr (List.mem_singleton.2 rfl))
            p1 := fun _ => ⟨I.pv_none (by simp only; omega), Int.le_refl _, by simp only [PropS.new]; omega, fun h => by simp [PropS.new] at h, fun i _ hq => by simp [PropS.new] at hq⟩
            p2 := fun h => absurd rfl h
            ta := fun i _ hq => by simp [PropS.new] at hq }
        · exact (I.pr e he).grow g (by omega) hbg (fun _ _ h => h) (fun h => h)
      rise := I.rise
      ta := fun e he => ⟨(I.ta e he).1, (I.ta e he).2.1, by have := (I.ta e he).2.2.1; omega, (I.ta e he).2.2.2⟩
      pvr := fun b u h => ⟨(I.pvr b u h).1, by have := (I.pvr b u h).2.1; omega, hbg _ (I.pvr b u h).2.2⟩
      safe := I.safe, ch := I.ch }
  · intro i hi
    exact { rng := ⟨hw, hi, by simp only; omega, by rw [htop]; simp only; omega⟩, kind := .inl rfl, k1 := fun h => by simp at h, k2 := fun h => by simp at h, k3 := fun h => by simp at h }
theorem DInv.promise (I : DInv S n pv) {x : LetS} (hx : LetOk S n pv x) {s : SlotS} (hs : S.slots[x.to]? = some s) : DInv (S.promise x s) n pv := by
  unfold DecS.promise
  split
  case isFalse => exact I
  rename_i hc
  have hlt : x.to < S.slots.length := (List.getElem?_eq_some_iff.1 hs).1
  have so := I.sl _ _ hs
  have gs : ∀ (i : Nat) (s' : SlotS), (S.slots.set x.to { s with pr := x.ballot })[i]? = some s' → (i = x.to ∧ s' = { s with pr := x.ballot }) ∨ (i ≠ x.to ∧ S.slots[i]? = some s') := fun i s' h => by
    rw [List.getElem?_set] at h
    split at h
    · rename_i e
      subst e
      exact .inl ⟨rfl, (Option.some.inj h).symm⟩
    · rename_i e
      exact .inr ⟨fun e' => e e'.symm, h⟩
  have g : Grow S { S with slots := S.slots.set x.to { s with pr := x.ballot } } :=
    { prs := fun i s' h => by
        rcases gs i s' h with ⟨rfl, rfl⟩ | ⟨_, h⟩
        · exact ⟨s, hs, by simp only; omega⟩
        · exact ⟨s', h, Int.le_refl _⟩
      whs := fun c i h => .inl h
      wh2 := fun c i h => h }
  have I1 : DInv { S with slots := S.slots.set x.to { s with pr := x.ballot } } n pv :=
    { len := by simp only [List.length_set]; exact I.len
      n1 := I.n1, n5 := I.n5
      sl := fun i s' h => by
        rcases gs i s' h with ⟨rfl, rfl⟩ | ⟨_, h⟩
        · exact ⟨⟨so.rng.1, by have := so.rng.2; simp only; omega⟩, so.acc, so.val⟩
        · exact ⟨(I.sl i s' h).rng, (I.sl i s' h).acc, (I.sl i s' h).val⟩
      le := fun y hy => (I.le y hy).grow g (Int.le_refl _) (fun _ _ h => h)
      pr := fun e he => (I.pr e he).grow g (Int.le_refl _) (fun _ h => h) (fun _ _ h => h) (fun h => h)
      rise := I.rise, ta := I.ta, pvr := I.pvr
      safe := fun b v h => I.safe_grow g (fun _ _ h => h) h
      ch := I.ch }
  refine I1.setLetters fun y hy => ?_
  rcases List.mem_append.1 hy with h | h
  · exact I1.le y h
  · rw [List.mem_singleton.1 h]
    exact
    { rng := ⟨hx.rng.2.1, hx.rng.1, hx.rng.2.2.1, hx.rng.2.2.2⟩
      kind := .inr (.inl rfl)
      k1 := fun _ => by
        refine ⟨⟨fun s' hs' => ?_, fun c hc _ => so.acc c hc⟩, so.rng.1, by have := so.rng.2; simp only; omega, so.val⟩
        rcases gs x.to s' hs' with ⟨_, rfl⟩ | ⟨h, _⟩
        · exact Int.le_refl _
        · exact absurd rfl h
      k2 := fun h => by simp at h
      k3 := fun h => by simp at h }
end
end Go.Proofs.Ytkjfhadafefnmaa
