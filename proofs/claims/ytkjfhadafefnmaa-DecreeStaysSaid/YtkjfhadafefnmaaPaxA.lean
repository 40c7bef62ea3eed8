/- decree: the plain law, 1: sets of few nodes, and what is always so of a Decree. -/
import Derived.Test.YtkjfhadafefnmaaDecM
set_option linter.all false
namespace Go.Proofs.Ytkjfhadafefnmaa
open Go
/-! ### sets -/
theorem withN_bit : ∀ s i j, s < 32 → i < 5 → j < 5 → (withN s i).testBit j = (s.testBit j || decide (i = j)) := by
  intro s i j hs hi hj
  have := (by decide +kernel : ∀ s : Fin 32, ∀ i j : Fin 5, (withN s.val i.val).testBit j.val = (s.val.testBit j.val || decide (i.val = j.val))) ⟨s, hs⟩ ⟨i, hi⟩ ⟨j, hj⟩
  exact this
/-- two sets, each enough, share a node -/
theorem share : ∀ s t n, s < 32 → t < 32 → n ≤ 5 → enough s n = true → enough t n = true → ∃ i, i < n ∧ s.testBit i = true ∧ t.testBit i = true := by
  intro s t n hs ht hn h1 h2
  have := (by decide +kernel : ∀ s t : Fin 32, ∀ n : Fin 6, enough s.val n.val = true → enough t.val n.val = true → ∃ i : Fin 5, i.val < n.val ∧ s.val.testBit i.val = true ∧ t.val.testBit i.val = true) ⟨s, hs⟩ ⟨t, ht⟩ ⟨n, by omega⟩ h1 h2
  obtain ⟨i, h⟩ := this
  exact ⟨i.val, h⟩
/-- more nodes are still enough -/
theorem enough_mono : ∀ s t n, s < 32 → t < 32 → n ≤ 5 → (∀ i, i < n → s.testBit i = true → t.testBit i = true) → enough s n = true → enough t n = true := by
  intro s t n hs ht hn h1 h2
  have := (by decide +kernel : ∀ s t : Fin 32, ∀ n : Fin 6, (∀ i : Fin 5, i.val < n.val → s.val.testBit i.val = true → t.val.testBit i.val = true) → enough s.val n.val = true → enough t.val n.val = true) ⟨s, hs⟩ ⟨t, ht⟩ ⟨n, by omega⟩
  exact this (fun i hi h => h1 i.val hi h) h2
theorem enough_none : ∀ n, n ≤ 5 → enough 0 n = false := by
  intro n hn
  exact (by decide +kernel : ∀ n : Fin 6, enough 0 n.val = false) ⟨n, by omega⟩
end Go.Proofs.Ytkjfhadafefnmaa
