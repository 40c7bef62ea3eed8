/- an argument that is a slice of strings, opened. -/
import Derived.Test.YtboifenkbhfnfaaSt
import Derived.ProofKit
import Derived.Deep.Slices
import Derived.Deep.Fields
set_option linter.all false
set_option maxRecDepth 100000
namespace Go.Proofs.Ytboifenkbhfnfaa
open Go Go.ChangeShapes Go.WideShapes Go.ChangeAt Go.RowKit Go.Deep
theorem Try.laidOut : laidOutB Try.prog = true := by kernel_rfl
theorem open_strs {H : Type} {enc : TypeId × Value → H} {w : World} {base fuel : Nat} {spare : Nat → Bool} {held : Bool} {v : Value} {x : DataW H × List MemPlace} (h : DataW.trod enc Try.prog w base spare held fuel 22 [v] = some x) :
    ∃ (p : Option Addr) (c : Nat) (l : List ByteArray), v = .slice p l.length c ∧ l.length ≤ c ∧ c ≤ maxLen ∧ StrAt w p l := by
  rcases open_slice Try.underlying22 h with ⟨h0, -⟩ | ⟨a, len, cap, m, n, D, Pl, hcs, -, hlc, hcm, hm, -, hi⟩
  · have := List.head_eq_of_cons_eq h0
    exact ⟨none, 0, [], this, Nat.le_refl _, Nat.zero_le _, .inl rfl⟩
  · have hv := List.head_eq_of_cons_eq hcs
    have hc4 : Try.prog.cellsOf 9 = 1 := by kernel_rfl
    have hlm : len ≤ m := by rw [hm]; split <;> omega
    have key : ∀ i, i < len → ∃ s : ByteArray, w.cell? (V.aadd a i) = some (.string s) := fun i hil => by
      obtain ⟨cs', h1, h2⟩ := hi i (by omega)
      rw [hc4] at h1
      obtain ⟨s, e1, -⟩ := DataW.trod_string Try.underlying9 h2
      obtain ⟨-, -, h3⟩ := World.cells?_some h1
      have := h3 0 (by omega)
      rw [show (a.add (i * 1)).add 0 = V.aadd a i from by rw [Go.Deep.add_add, Nat.mul_one]; rfl, e1] at this
      exact ⟨s, this⟩
    let f : Nat → ByteArray := fun i => if hil : i < len then Classical.choose (key i hil) else ⟨#[]⟩
    refine ⟨some a, cap, (List.range len).map f, by rw [hv]; simp, by simp; omega, hcm, ?_⟩
    rcases Nat.eq_zero_or_pos len with h0 | h0
    · left; subst h0; rfl
    · obtain ⟨s0, h00⟩ := key 0 h0
      obtain ⟨b, o, sp⟩ := a
      have hsp : sp = none := by
        unfold World.cell? at h00
        rw [show V.aadd ⟨b, o, sp⟩ 0 = ⟨b, o, sp⟩ from rfl] at h00
        cases sp with
        | none => rfl
        | some _ => simp at h00; split at h00 <;> cases h00
      subst hsp
      have hb : b < w.heap.size := by
        rw [show V.aadd ⟨b, o, none⟩ 0 = ⟨b, o, none⟩ from rfl] at h00
        unfold World.cell? at h00
        rcases Nat.lt_or_ge b w.heap.size with h | h
        · exact h
        · simp only at h00
          rw [Array.getElem?_eq_none h] at h00; cases h00
      refine .inr ⟨b, o, rfl, hb, fun i x hx => ?_⟩
      have hlt : i < len := by
        have := (List.getElem?_eq_some_iff.1 hx).1
        simpa using this
      have hx2 : f i = x := by
        rw [List.getElem?_map, List.getElem?_range hlt] at hx
        simpa using hx
      have := Classical.choose_spec (key i hlt)
      have ef : f i = Classical.choose (key i hlt) := by simp only [f]; rw [dif_pos hlt]
      rw [show (⟨b, o + i, none⟩ : Addr) = V.aadd ⟨b, o, none⟩ i from (V.aadd_mk b o i).symm, this, ← ef, hx2]
end Go.Proofs.Ytboifenkbhfnfaa
