/- decree: the plain law, 7: any number of steps; what the three laws ask. -/
import Derived.Test.YtkjfhadafefnmaaPaxF
set_option linter.all false
namespace Go.Proofs.Ytkjfhadafefnmaa
open Go
def DecS.run (S : DecS) (l : List StepS) : DecS := l.foldl DecS.step S
structure Bnd (k : Nat) (S : DecS) : Prop where
  letters : S.letters.length ≤ 5 * k
  begun : S.begun.length ≤ k
  chosen : S.chosen.length ≤ k
  props : S.props.length ≤ k
  taken : S.taken.length ≤ k
theorem aput_len {ν : Type} (l : List (Int × ν)) (k : Int) (v : ν) : (V.aput l k v).length ≤ l.length + 1 := by
  have h0 : ∀ x : List (Int × ν), x.filter (fun _ => true) = x := fun x => List.filter_eq_self.2 fun _ _ => rfl
  have h1 := ains_count (fun _ : Int × ν => true) (k, v) (V.adel l k)
  rw [h0, h0, h0, List.length_singleton] at h1
  unfold V.aput
  rw [h1]
  have := List.length_filter_le (fun p : Int × ν => !(p.1 == k)) l
  unfold V.adel
  omega
theorem all_len (S : DecS) (x : LetS) : (S.all x).letters.length = S.letters.length + S.slots.length := by simp [DecS.all]
theorem aset_len {ν : Type} (l : List (Int × ν)) (b : Int) (q : ν) : (aset l b q).length = l.length := by simp [aset]
theorem Bnd.more {k m : Nat} {S : DecS} (h : Bnd k S) (hm : k ≤ m) : Bnd m S :=
  ⟨by have := h.letters; omega, Nat.le_trans h.begun hm, Nat.le_trans h.chosen hm, Nat.le_trans h.props hm, Nat.le_trans h.taken hm⟩
theorem Bnd.tell {k : Nat} {S : DecS} (h : Bnd k S) (h5 : S.slots.length ≤ 5) (x : LetS) : Bnd (k + 1) (S.tell x) := by
  have a := h.letters; have b := h.begun; have c := h.chosen; have d := h.props; have e := h.taken
  unfold DecS.tell
  split
  · exact h.more (by omega)
  · split
    · simp only
      split
      · exact ⟨by rw [all_len]; simp only; omega, by show S.begun.length ≤ _; omega, by show S.chosen.length ≤ _; omega, by show (aset _ _ _).length ≤ _; rw [aset_len]; omega, by show S.taken.length ≤ _; omega⟩
      · exact ⟨by simp only; omega, by simp only; omega, by simp only; omega, by simp only [aset_len]; omega, by simp only; omega⟩
    · simp only
      split
      · exact ⟨by simp only; omega, by simp only; omega, by simp only [List.length_append, List.length_singleton]; omega, by simp only [aset_len]; omega, by simp only; omega⟩
      · exact ⟨by simp only; omega, by simp only; omega, by simp only; omega, by simp only [aset_len]; omega, by simp only; omega⟩
theorem Bnd.read {k : Nat} {S : DecS} (h : Bnd k S) (h5 : S.slots.length ≤ 5) (x : LetS) : Bnd (k + 1) (S.read x) := by
  have a := h.letters; have b := h.begun; have c := h.chosen; have d := h.props; have e := h.taken
  unfold DecS.read
  split
  · exact h.more (by omega)
  · split
    · unfold DecS.promise
      split
      · exact ⟨by simp only [List.length_append, List.length_singleton]; omega, by simp only; omega, by simp only; omega, by simp only; omega, by simp only; omega⟩
      · exact h.more (by omega)
    · split
      · unfold DecS.accept
        split
        · exact ⟨by simp only [List.length_append, List.length_singleton]; omega, by simp only; omega, by simp only; omega, by simp only; omega, Nat.le_trans (aput_len _ _ _) (by omega)⟩
        · exact h.more (by omega)
      · exact h.tell h5 x
theorem Bnd.drop {k : Nat} {S : DecS} (h : Bnd k S) (i : Nat) : Bnd k (S.drop i) := ⟨Nat.le_trans (List.length_eraseIdx_le _ _) h.letters, h.begun, h.chosen, h.props, h.taken⟩
theorem Bnd.step {k : Nat} {S : DecS} (h : Bnd k S) (h5 : S.slots.length ≤ 5) (s : StepS) : Bnd (k + 1) (S.step s) := by
  have a := h.letters; have b := h.begun; have c := h.chosen; have d := h.props; have e := h.taken
  unfold DecS.step
  split
  · exact ⟨by unfold DecS.begin; rw [all_len]; simp only; omega, by show (S.begun ++ [s.value]).length ≤ _; simp only [List.length_append, List.length_singleton]; omega, by show S.chosen.length ≤ _; omega, Nat.le_trans (aput_len _ _ _) (by omega), by show S.taken.length ≤ _; omega⟩
  split
  · exact ⟨by show S.letters.length ≤ _; omega, by show S.begun.length ≤ _; omega, by show S.chosen.length ≤ _; omega, Nat.le_trans (List.length_filter_le _ _) (by omega), by show S.taken.length ≤ _; omega⟩
  split
  · split
    · exact h.more (by omega)
    · split
      · exact ⟨by simp only [List.length_append, List.length_singleton]; omega, by simp only; omega, by simp only; omega, by simp only; omega, by simp only; omega⟩
      split
      · exact (h.drop _).read h5 _
      · exact (h.drop _).more (by omega)
  · exact h.more (by omega)
theorem DInv.oks {S : DecS} {n : Nat} {pv : Int → Option ByteArray} (I : DInv S n pv) {k : Nat} (h : Bnd k S) (hk : k ≤ 1000) : S.Ok ∧ S.TOk := by
  have a := h.letters; have b := h.begun; have c := h.chosen; have d := h.props; have e := h.taken
  have ht : top S = 8 * ((S.begun.length : Int) + 1) := rfl
  refine ⟨⟨by rw [I.len]; exact I.n1, by rw [I.len]; exact I.n5, by omega, by omega, by omega, fun e he => (I.pr e he).rng.2, fun e he => (I.pr e he).ok, by omega, by omega, fun x hx => ?_, fun e he => (I.ta e he).1⟩, ⟨I.rise, fun e he => ?_⟩⟩
  · have := (I.le x hx).rng
    rw [I.len]
    exact ⟨this.1, this.2.1, by omega, by omega⟩
  · have := I.ta e he
    exact ⟨by omega, by omega⟩
theorem new_inv {n : Nat} (h1 : 1 ≤ n) (h5 : n ≤ 5) : DInv (DecS.new n) n (fun _ => none) where
  len := by simp [DecS.new]
  n1 := h1
  n5 := h5
  sl i s hs := by
    simp only [DecS.new, List.getElem?_replicate] at hs
    split at hs
    · cases hs
      exact ⟨⟨Int.le_refl _, Int.le_refl _⟩, fun c hc => by obtain ⟨e, he, _⟩ := wh_mem hc; simp [DecS.new] at he, fun h => by simp at h⟩
    · cases hs
  le x hx := by simp [DecS.new] at hx
  pr e he := by simp [DecS.new] at he
  rise := by simp [DecS.new]
  ta e he := by simp [DecS.new] at he
  pvr b v h := by cases h
  safe b v h := by cases h
  ch v hv := by simp [DecS.new] at hv
theorem new_bnd (n : Nat) : Bnd 0 (DecS.new n) := ⟨by simp [DecS.new], by simp [DecS.new], by simp [DecS.new], by simp [DecS.new], by simp [DecS.new]⟩
section
variable {S : DecS} {n : Nat} {pv : Int → Option ByteArray}
theorem DInv.been_at (I : DInv S n pv) {v : ByteArray} (h : v ∈ S.been) : ∃ b, pv b = some v ∧ enough (S.held b).who n = true := by
  unfold DecS.been at h
  obtain ⟨e, he, rfl⟩ := List.mem_map.1 h
  obtain ⟨h1, h2⟩ := List.mem_filter.1 he
  refine ⟨e.1, (I.ta e h1).2.2.2, ?_⟩
  have : S.held e.1 = e.2 := by unfold DecS.held V.alook; rw [find_of_mem I.rise h1]; rfl
  rw [this]
  unfold isIn at h2
  rw [I.len] at h2
  exact h2
theorem DInv.been_of (I : DInv S n pv) {b : Int} (h : enough (S.held b).who n = true) : S.been ≠ [] := by
  have h0 : (S.held b).who ≠ 0 := fun e => by rw [e, enough_none n I.n5] at h; cases h
  obtain ⟨e, he, _, h2⟩ := held_mem h0
  intro hn
  have : e.2.val ∈ S.been := by
    unfold DecS.been
    refine List.mem_map.2 ⟨e, List.mem_filter.2 ⟨he, ?_⟩, rfl⟩
    unfold isIn
    rw [h2, I.len]; exact h
  rw [hn] at this; cases this
/-- DecreeOne -/
theorem DInv.law_one (I : DInv S n pv) : (∀ u ∈ S.chosen ++ S.been, ∀ v ∈ S.chosen ++ S.been, u = v) ∧ (∀ u ∈ S.chosen ++ S.been, u ∈ S.begun ∧ S.been ≠ []) := by
  have at' : ∀ u ∈ S.chosen ++ S.been, ∃ b, pv b = some u ∧ enough (S.held b).who n = true := fun u hu => by
    rcases List.mem_append.1 hu with h | h
    · exact I.ch u h
    · exact I.been_at h
  refine ⟨fun u hu v hv => ?_, fun u hu => ?_⟩
  · obtain ⟨b, h1, h2⟩ := at' u hu
    obtain ⟨c, h3, h4⟩ := at' v hv
    exact I.one h1 h2 h3 h4
  · obtain ⟨b, h1, h2⟩ := at' u hu
    exact ⟨(I.pvr b u h1).2.2, I.been_of h2⟩
/-- DecreeStays -/
theorem DInv.law_stays (I : DInv S n pv) {S' : DecS} {pv' : Int → Option ByteArray} (I' : DInv S' n pv') (L : Later S S' pv pv') : S.been.length ≤ S'.been.length ∧ ∀ u ∈ S.been, ∀ v ∈ S'.been, v = u := by
  refine ⟨L.been, fun u hu v hv => ?_⟩
  obtain ⟨b, h1, h2⟩ := I.been_at hu
  obtain ⟨c, h3, h4⟩ := I'.been_at hv
  exact I'.one h3 h4 (L.ext b u h1) (enough_mono _ _ n (I.who_lt b) (I'.who_lt b) I.n5 (fun i _ h => L.who b i h) h2)
end
/-- DecreeStill -/
theorem step_still (S : DecS) (s : StepS) (h : s.kind ≠ 1) : (S.step s).slots = S.slots ∧ (S.step s).taken = S.taken ∧ (S.step s).chosen = S.chosen := by
  unfold DecS.step
  split
  · exact ⟨rfl, rfl, rfl⟩
  split
  · exact ⟨rfl, rfl, rfl⟩
  split
  · split
    · exact ⟨rfl, rfl, rfl⟩
    · split <;> exact ⟨rfl, rfl, rfl⟩
  · exact ⟨rfl, rfl, rfl⟩
end Go.Proofs.Ytkjfhadafefnmaa
