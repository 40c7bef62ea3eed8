/- decree: what changes of the memory change of the parts. -/
import Derived.Test.YtkjfhadafefnmaaDecA
set_option linter.all false
namespace Go.Proofs.Ytkjfhadafefnmaa
open Go
set_option linter.unusedSimpArgs false
theorem flat_get {α : Type} (f : α → List Value) (m : Nat) (hf : ∀ x, (f x).length = m) : ∀ (l : List α) (i j : Nat) (x : α), j < m → l[i]? = some x → (l.flatMap f)[i * m + j]? = (f x)[j]?
  | [], _, _, _, _, h => by simp at h
  | y :: r, 0, j, x, hj, h => by
    simp only [List.getElem?_cons_zero, Option.some.injEq] at h
    subst h
    rw [List.flatMap_cons, Nat.zero_mul, Nat.zero_add, List.getElem?_append_left (by rw [hf]; exact hj)]
  | y :: r, i + 1, j, x, hj, h => by
    rw [List.flatMap_cons, List.getElem?_append_right (by rw [hf, Nat.succ_mul]; omega), hf, show (i + 1) * m + j - m = i * m + j by rw [Nat.succ_mul]; omega]
    exact flat_get f m hf r i j x hj (by simpa using h)
theorem flat_len {α : Type} (f : α → List Value) (m : Nat) (hf : ∀ x, (f x).length = m) : ∀ (l : List α), (l.flatMap f).length = l.length * m
  | [] => by simp
  | y :: r => by rw [List.flatMap_cons, List.length_append, hf, flat_len f m hf r, List.length_cons, Nat.succ_mul]; omega
theorem flat_take {α : Type} (f : α → List Value) (m : Nat) (hf : ∀ x, (f x).length = m) : ∀ (l : List α) (i : Nat), (l.flatMap f).take (i * m) = (l.take i).flatMap f
  | [], _ => by simp
  | y :: r, 0 => by simp
  | y :: r, i + 1 => by
    rw [List.flatMap_cons, Nat.succ_mul, Nat.add_comm, List.take_append, hf, List.take_of_length_le (by rw [hf]; omega), Nat.add_sub_cancel_left, flat_take f m hf r i]
    simp
theorem flat_drop {α : Type} (f : α → List Value) (m : Nat) (hf : ∀ x, (f x).length = m) : ∀ (l : List α) (i : Nat), (l.flatMap f).drop (i * m) = (l.drop i).flatMap f
  | [], _ => by simp
  | y :: r, 0 => by simp
  | y :: r, i + 1 => by
    rw [List.flatMap_cons, Nat.succ_mul, Nat.add_comm, List.drop_append, hf, List.drop_of_length_le (by rw [hf]; omega), Nat.add_sub_cancel_left, flat_drop f m hf r i]
    simp
theorem slot_set3 (s : SlotS) : ∀ (l : List SlotS) (i : Nat), i < l.length → (((l.flatMap SlotS.cells).set (i * 3) (.int .i64 s.pr)).set (i * 3 + 1) (.int .i64 s.ba)).set (i * 3 + 2) (.string s.va) = (l.set i s).flatMap SlotS.cells
  | [], _, h => by simp at h
  | y :: r, 0, _ => by simp [List.flatMap_cons]
  | y :: r, i + 1, h => by
    have := slot_set3 s r i (by simpa using h)
    simp only [List.flatMap_cons, List.set_cons_succ, ← this, Nat.succ_mul]
    simp [List.set_append, Nat.add_assoc]
section
variable {g : Gh} {w w' : World} {d : Nat} {S : DecS}
/-- the slice of begun has been made anew -/
theorem Rep.setBegun (h : Rep g w d S) {l : List ByteArray} {p : Option Addr} {c : Nat} (hk : V.Kp (fun k => V.blk? g.bp = some k) w w') (hr : V.Row w' strT 1 p l.length c (l.map strV)) (hat : V.blk? p = V.blk? g.bp ∨ V.blk? p = some w.heap.size) :
    Rep (g.withBegun p c) (w'.setCell ⟨d, 3, none⟩ (.slice p l.length c)) d { S with begun := l } ∧ Stp g (g.withBegun p c) w (w'.setCell ⟨d, 3, none⟩ (.slice p l.length c)) := by
  have hp : ∀ k, V.blk? p = some k → g.own k = .begun ∨ (g.own k = .free ∧ k = w.heap.size) := fun k hk => by
    rcases hat with e | e
    · exact .inl (h.obegun k (e ▸ hk))
    · rw [e] at hk; cases hk; exact .inr ⟨h.fresh (Nat.le_refl _), rfl⟩
  have hne : ∀ k, g.own k ≠ .free → g.own k ≠ .begun → ¬ V.blk? p = some k := fun k h1 h2 e => (hp k e).elim h2 (fun x => h1 x.1)
  have ho : ∀ k, g.own k ≠ .free → g.own k ≠ .begun → (g.withBegun p c).own k = g.own k := fun k h1 h2 => by simp only [Gh.withBegun]; rw [if_neg (hne k h1 h2)]
  have st : ∀ k, g.own k ≠ .free → g.own k ≠ .begun → g.own k ≠ .dec → (w'.setCell ⟨d, 3, none⟩ (.slice p l.length c)).heap[k]? = w.heap[k]? := fun k h1 h2 h3 => by
    rw [V.heap_setCell_ne _ _ _ (fun e => h3 (by have e : k = d := e; rw [e]; exact h.odec))]
    exact hk.block k (h.lo k h1) (fun e => h2 (h.obegun k e))
  have hd : V.Blk w' d (g.cells S) decT := V.Kp.blk hk h.dec (fun e => by have := h.obegun d e; rw [h.odec] at this; cases this)
  refine ⟨⟨fun k hf => ?_, ?_, ?_, ?_, ?_, ?_, ?_, fun p hp => ?_, fun p hp => ?_, ?_, ?_, ?_, ?_, ?_, ?_, ?_, ?_⟩, ⟨?_, fun k hk' hf => ?_⟩⟩
  · rw [V.size_setCell]
    simp only [Gh.withBegun] at hf
    split at hf
    · rename_i e; exact hr.lt k e
    · exact Nat.lt_of_lt_of_le (h.lo k hf) hk.size
  · (with_reducible apply V.Blk.to); (· repeat (first | with_reducible assumption | ((with_reducible apply V.Blk.new'); first | with_reducible rfl | (simp only [V.size_alloc, V.size_drew, V.size_setCell]; done)) | with_reducible apply V.Blk.set | ((with_reducible apply V.Blk.set_ne); (case hne => (try simp only [ne_eq]); omega)) | with_reducible apply V.Blk.alloc | with_reducible apply V.Blk.drew)); (· rfl)
  · rw [ho d (by rw [h.odec]; nofun) (by rw [h.odec]; nofun)]; exact h.odec
  · exact (st g.bs (by rw [h.oslots]; nofun) (by rw [h.oslots]; nofun) (by rw [h.oslots]; nofun)).trans h.slots
  · exact (ho g.bs (by rw [h.oslots]; nofun) (by rw [h.oslots]; nofun)).trans h.oslots
  · exact h.props.same (st g.mp (by rw [h.oprops]; nofun) (by rw [h.oprops]; nofun) (by rw [h.oprops]; nofun))
  · exact (ho g.mp (by rw [h.oprops]; nofun) (by rw [h.oprops]; nofun)).trans h.oprops
  · exact (st (g.pat p.1) (by rw [h.oprop p hp]; nofun) (by rw [h.oprop p hp]; nofun) (by rw [h.oprop p hp]; nofun)).trans (h.prop p hp)
  · exact (ho (g.pat p.1) (by rw [h.oprop p hp]; nofun) (by rw [h.oprop p hp]; nofun)).trans (h.oprop p hp)
  · exact h.letters.same fun k e => st k (by rw [h.oletters k e]; nofun) (by rw [h.oletters k e]; nofun) (by rw [h.oletters k e]; nofun)
  · exact fun k e => (ho k (by rw [h.oletters k e]; nofun) (by rw [h.oletters k e]; nofun)).trans (h.oletters k e)
  · exact hr.same fun k e => V.heap_setCell_ne _ _ _ (fun e' => by
      have e' : k = d := e'; subst e'
      rcases hp k e with x | x
      · rw [h.odec] at x; cases x
      · rw [h.odec] at x; cases x.1)
  · intro k e; simp only [Gh.withBegun] at e ⊢; rw [if_pos e]
  · exact h.chosen.same fun k e => st k (by rw [h.ochosen k e]; nofun) (by rw [h.ochosen k e]; nofun) (by rw [h.ochosen k e]; nofun)
  · exact fun k e => (ho k (by rw [h.ochosen k e]; nofun) (by rw [h.ochosen k e]; nofun)).trans (h.ochosen k e)
  · exact h.taken.same (st g.mt (by rw [h.otaken]; nofun) (by rw [h.otaken]; nofun) (by rw [h.otaken]; nofun))
  · exact (ho g.mt (by rw [h.otaken]; nofun) (by rw [h.otaken]; nofun)).trans h.otaken
  · refine V.Kp.set (V.Kp.mono hk fun i _ e => ?_) (.inl ?_) _
    · rw [h.obegun i e]; nofun
    · rw [h.odec]; nofun
  · simp only [Gh.withBegun]
    rw [if_neg]
    · exact hf
    · intro e
      rcases hp k e with x | x
      · rw [hf] at x; cases x
      · omega
/-- the slice of chosen has been made anew -/
theorem Rep.setChosen (h : Rep g w d S) {l : List ByteArray} {p : Option Addr} {c : Nat} (hk : V.Kp (fun k => V.blk? g.cp = some k) w w') (hr : V.Row w' strT 1 p l.length c (l.map strV)) (hat : V.blk? p = V.blk? g.cp ∨ V.blk? p = some w.heap.size) :
    Rep (g.withChosen p c) (w'.setCell ⟨d, 4, none⟩ (.slice p l.length c)) d { S with chosen := l } ∧ Stp g (g.withChosen p c) w (w'.setCell ⟨d, 4, none⟩ (.slice p l.length c)) := by
  have hp : ∀ k, V.blk? p = some k → g.own k = .chosen ∨ (g.own k = .free ∧ k = w.heap.size) := fun k hk => by
    rcases hat with e | e
    · exact .inl (h.ochosen k (e ▸ hk))
    · rw [e] at hk; cases hk; exact .inr ⟨h.fresh (Nat.le_refl _), rfl⟩
  have hne : ∀ k, g.own k ≠ .free → g.own k ≠ .chosen → ¬ V.blk? p = some k := fun k h1 h2 e => (hp k e).elim h2 (fun x => h1 x.1)
  have ho : ∀ k, g.own k ≠ .free → g.own k ≠ .chosen → (g.withChosen p c).own k = g.own k := fun k h1 h2 => by simp only [Gh.withChosen]; rw [if_neg (hne k h1 h2)]
  have st : ∀ k, g.own k ≠ .free → g.own k ≠ .chosen → g.own k ≠ .dec → (w'.setCell ⟨d, 4, none⟩ (.slice p l.length c)).heap[k]? = w.heap[k]? := fun k h1 h2 h3 => by
    rw [V.heap_setCell_ne _ _ _ (fun e => h3 (by have e : k = d := e; rw [e]; exact h.odec))]
    exact hk.block k (h.lo k h1) (fun e => h2 (h.ochosen k e))
  have hd : V.Blk w' d (g.cells S) decT := V.Kp.blk hk h.dec (fun e => by have := h.ochosen d e; rw [h.odec] at this; cases this)
  refine ⟨⟨fun k hf => ?_, ?_, ?_, ?_, ?_, ?_, ?_, fun p hp => ?_, fun p hp => ?_, ?_, ?_, ?_, ?_, ?_, ?_, ?_, ?_⟩, ⟨?_, fun k hk' hf => ?_⟩⟩
  · rw [V.size_setCell]
    simp only [Gh.withChosen] at hf
    split at hf
    · rename_i e; exact hr.lt k e
    · exact Nat.lt_of_lt_of_le (h.lo k hf) hk.size
  · (with_reducible apply V.Blk.to); (· repeat (first | with_reducible assumption | ((with_reducible apply V.Blk.new'); first | with_reducible rfl | (simp only [V.size_alloc, V.size_drew, V.size_setCell]; done)) | with_reducible apply V.Blk.set | ((with_reducible apply V.Blk.set_ne); (case hne => (try simp only [ne_eq]); omega)) | with_reducible apply V.Blk.alloc | with_reducible apply V.Blk.drew)); (· rfl)
  · rw [ho d (by rw [h.odec]; nofun) (by rw [h.odec]; nofun)]; exact h.odec
  · exact (st g.bs (by rw [h.oslots]; nofun) (by rw [h.oslots]; nofun) (by rw [h.oslots]; nofun)).trans h.slots
  · exact (ho g.bs (by rw [h.oslots]; nofun) (by rw [h.oslots]; nofun)).trans h.oslots
  · exact h.props.same (st g.mp (by rw [h.oprops]; nofun) (by rw [h.oprops]; nofun) (by rw [h.oprops]; nofun))
  · exact (ho g.mp (by rw [h.oprops]; nofun) (by rw [h.oprops]; nofun)).trans h.oprops
  · exact (st (g.pat p.1) (by rw [h.oprop p hp]; nofun) (by rw [h.oprop p hp]; nofun) (by rw [h.oprop p hp]; nofun)).trans (h.prop p hp)
  · exact (ho (g.pat p.1) (by rw [h.oprop p hp]; nofun) (by rw [h.oprop p hp]; nofun)).trans (h.oprop p hp)
  · exact h.letters.same fun k e => st k (by rw [h.oletters k e]; nofun) (by rw [h.oletters k e]; nofun) (by rw [h.oletters k e]; nofun)
  · exact fun k e => (ho k (by rw [h.oletters k e]; nofun) (by rw [h.oletters k e]; nofun)).trans (h.oletters k e)
  · exact h.begun.same fun k e => st k (by rw [h.obegun k e]; nofun) (by rw [h.obegun k e]; nofun) (by rw [h.obegun k e]; nofun)
  · exact fun k e => (ho k (by rw [h.obegun k e]; nofun) (by rw [h.obegun k e]; nofun)).trans (h.obegun k e)
  · exact hr.same fun k e => V.heap_setCell_ne _ _ _ (fun e' => by
      have e' : k = d := e'; subst e'
      rcases hp k e with x | x
      · rw [h.odec] at x; cases x
      · rw [h.odec] at x; cases x.1)
  · intro k e; simp only [Gh.withChosen] at e ⊢; rw [if_pos e]
  · exact h.taken.same (st g.mt (by rw [h.otaken]; nofun) (by rw [h.otaken]; nofun) (by rw [h.otaken]; nofun))
  · exact (ho g.mt (by rw [h.otaken]; nofun) (by rw [h.otaken]; nofun)).trans h.otaken
  · refine V.Kp.set (V.Kp.mono hk fun i _ e => ?_) (.inl ?_) _
    · rw [h.ochosen i e]; nofun
    · rw [h.odec]; nofun
  · simp only [Gh.withChosen]
    rw [if_neg]
    · exact hf
    · intro e
      rcases hp k e with x | x
      · rw [hf] at x; cases x
      · omega
end
end Go.Proofs.Ytkjfhadafefnmaa
