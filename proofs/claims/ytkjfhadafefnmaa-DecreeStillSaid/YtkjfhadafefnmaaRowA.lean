/- decree: an argument that is a slice of steps, opened. -/
import Derived.Test.YtkjfhadafefnmaaLawD
import Derived.ProofKit
import Derived.Deep.Slices
import Derived.Deep.Fields
set_option linter.all false
namespace Go.Proofs.Ytkjfhadafefnmaa
open Go Go.ChangeShapes Go.WideShapes Go.ChangeAt Go.RowKit Go.Deep
theorem Try.laidOut : laidOutB Try.prog = true := by kernel_rfl
theorem step_of_cells {H : Type} {enc : TypeId × Value → H} {w : World} {base fuel : Nat} {spare : Nat → Bool} {held : Bool} {cs : List Value} {x : DataW H × List MemPlace} (h : DataW.trod enc Try.prog w base spare held fuel stepT cs = some x) :
    ∃ s : StepS, cs = [.int .i64 s.kind, .int .i64 s.who, .int .i64 s.n, .string s.value] := by
  obtain ⟨xs, n, -, -, hl, hx, hf⟩ := DataW.trod_struct Try.underlying28 h
  have hl4 : cs.length = 4 := hl
  have hx4 : xs.length = 4 := hx
  match cs, hl4, xs, hx4 with
  | [c0, c1, c2, c3], _, [x0, x1, x2, x3], _ =>
    have f0 := hf 0 _ rfl
    have f1 := hf 1 _ rfl
    have f2 := hf 2 _ rfl
    have f3 := hf 3 _ rfl
    obtain ⟨a, e0, -⟩ := DataW.trod_int Try.underlying3 f0
    obtain ⟨b, e1, -⟩ := DataW.trod_int Try.underlying3 f1
    obtain ⟨c, e2, -⟩ := DataW.trod_int Try.underlying3 f2
    obtain ⟨v, e3, -⟩ := DataW.trod_string Try.underlying9 f3
    refine ⟨⟨a, b, c, v⟩, ?_⟩
    have k1 : Try.prog.cellsOf 3 = 1 := by kernel_rfl
    have k2 : Try.prog.cellsOf 9 = 1 := by kernel_rfl
    simp [k1] at e0 e1 e2
    simp [k2] at e3
    rw [e0, e1, e2, e3]
theorem open_steps {H : Type} {enc : TypeId × Value → H} {w : World} {base fuel : Nat} {spare : Nat → Bool} {held : Bool} {v : Value} {x : DataW H × List MemPlace} (h : DataW.trod enc Try.prog w base spare held fuel 22 [v] = some x) :
    ∃ (p : Option Addr) (c : Nat) (l : List StepS), v = .slice p l.length c ∧ StepsAt w p l := by
  rcases open_slice Try.underlying22 h with ⟨h0, -⟩ | ⟨a, len, cap, m, n, D, Pl, hcs, -, hlc, -, hm, -, hi⟩
  · have := List.head_eq_of_cons_eq h0
    exact ⟨none, 0, [], this, ⟨fun i s hs => by simp at hs⟩⟩
  · have hv := List.head_eq_of_cons_eq hcs
    have hc4 : Try.prog.cellsOf 28 = 4 := by kernel_rfl
    have hlm : len ≤ m := by rw [hm]; split <;> omega
    have key : ∀ i, i < len → ∃ s : StepS, w.cell? (V.aadd a (i * 4)) = some (.int .i64 s.kind) ∧ w.cell? (V.aadd a (i * 4 + 1)) = some (.int .i64 s.who) ∧ w.cell? (V.aadd a (i * 4 + 2)) = some (.int .i64 s.n) ∧ w.cell? (V.aadd a (i * 4 + 3)) = some (.string s.value) := fun i hil => by
      obtain ⟨cs', h1, h2⟩ := hi i (by omega)
      rw [hc4] at h1
      obtain ⟨s, rfl⟩ := step_of_cells h2
      obtain ⟨-, -, h3⟩ := World.cells?_some h1
      have e : ∀ j, j < 4 → w.cell? (V.aadd a (i * 4 + j)) = [Value.int .i64 s.kind, .int .i64 s.who, .int .i64 s.n, .string s.value][j]? := fun j hj => by
        have := h3 j hj
        rw [show (a.add (i * 4)).add j = V.aadd a (i * 4 + j) from Go.Deep.add_add a (i * 4) j] at this
        exact this
      exact ⟨s, e 0 (by decide), e 1 (by decide), e 2 (by decide), e 3 (by decide)⟩
    let f : Nat → StepS := fun i => if hil : i < len then Classical.choose (key i hil) else ⟨0, 0, 0, ⟨#[]⟩⟩
    refine ⟨some a, cap, (List.range len).map f, by rw [hv]; simp, ⟨fun i s hs => ?_⟩⟩
    obtain ⟨hlt, rfl⟩ : i < len ∧ f i = s := by
      simp only [List.getElem?_map, Option.map_eq_some_iff] at hs
      obtain ⟨j, hj, rfl⟩ := hs
      have hj' := List.getElem?_eq_some_iff.1 hj
      obtain ⟨h5, h6⟩ := hj'
      simp at h5 h6
      subst h6
      exact ⟨h5, rfl⟩
    have := Classical.choose_spec (key i hlt)
    have ef : f i = Classical.choose (key i hlt) := by simp only [f]; rw [dif_pos hlt]
    rw [ef]
    exact ⟨a, rfl, this⟩
end Go.Proofs.Ytkjfhadafefnmaa
