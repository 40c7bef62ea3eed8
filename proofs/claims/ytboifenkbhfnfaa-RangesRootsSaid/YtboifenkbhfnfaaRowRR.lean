/- the row RangesRoots. -/
import Derived.Test.YtboifenkbhfnfaaRows
import Derived.Test.YtboifenkbhfnfaaLaw6
import Derived.Test.YtboifenkbhfnfaaStrA
import Derived.ProofKit
import Derived.Deep.Slices
import Derived.Deep.Fields
set_option linter.all false
set_option maxRecDepth 100000
namespace Go.Proofs.Ytboifenkbhfnfaa
open Go Go.ChangeShapes Go.WideShapes Go.ChangeAt Go.RowKit Go.Deep
theorem Try.own : ownKnob Try.prog.godebug = none := by kernel_rfl
set_option maxRecDepth 100000 in
theorem roots_lifted (os : Os) (started : os.Started) (H : Type) (enc : TypeId × Value → H) :
    ReturnsInHanded {} Try.checked os 3 .any (Rows.rangesRootsSpec.pre6 enc Try.prog Try.f3 Rows.rangesRootsRow.domain false) (Rows.rangesRootsSpec.post enc Try.prog Try.f3 false true false false) := by
  refine returnsInHanded_of_change (C := Try.checked) Try.own started (by kernel_rfl) Try.func3
    (ChangeSpec.witness6 (enc := enc) (C := Try.checked) false ⟨#[], #[.slice none 0 0, .string ⟨#[]⟩], []⟩ 8 (by kernel_rfl) (by kernel_rfl) (by kernel_rfl) (by kernel_rfl)) ?_
  intro W base args ds gs before hval0 hW hcnd _
  have hval : ∀ (j : Nat) t v, Try.f3.params[j]? = some t → args[j]? = some v → Value.okWide Try.prog W .any base t v := hval0
  have hW' := hW
  obtain ⟨p, q, hA0, hV, rfl, hfz, hnd⟩ := hW
  have hA : DataW.TrodAll enc Try.prog W 0 (fun _ => true) true Try.f3.params.toList args.toList ds p := hA0
  rw [Try.params3] at hA hval
  obtain ⟨v0, v1, d0, d1, p0, p1, rfl, rfl, rfl, h0, h1⟩ := trodAll_two hA
  obtain ⟨rfl, rfl⟩ := trodVars_none hV
  have h0k := h0
  have h1k := h1
  obtain ⟨a0, len, cap, rfl⟩ := okWide_slice Try.underlying22 (hval 0 22 v0 rfl rfl)
  obtain ⟨fuel, hf⟩ := h0
  obtain ⟨pp, c, l, hsl, hlc, hcm, hst⟩ := open_strs (v := .slice a0 len cap) (by simpa [Value.cells] using hf)
  obtain ⟨leaf, rfl, rfl, rfl, hleaf⟩ := Go.ChangeMaps.open_string Try.underlying9 (hval 1 9 v1 rfl rfl) h1
  clear hA0 hval0
  simp only [List.append_nil] at hW'
  have hlt : ∀ x ∈ p0, x.block < W.heap.size := fun x hx => by simpa using hW'.lt x (by simpa using hx)
  have fin : ∀ (W' : World), V.Kp V.Nil W W' → Rows.rangesRootsSpec.post enc Try.checked.prog Try.f3 false true false false W #[.slice a0 len cap, .string leaf] (.bool true) W' := by
    intro W' hk
    have hb : Below W.heap.size W W' := ⟨hk.os, hk.tape, hk.output, hk.size, fun k hk' => hk.block k hk' (fun e => e)⟩
    refine ⟨_, _, _, [], p0 ++ [], [], hW', ?_, trodAll_mk2 (Below.trod Try.laidOut (by kernel_rfl) (of_decide_eq_true (by kernel_rfl)) h0k hb hlt) (Below.trod Try.laidOut (by kernel_rfl) (of_decide_eq_true (by kernel_rfl)) h1k hb (fun x hx => by cases hx)), rfl, hb.frame _, fun h => by cases h⟩
    exact trodAll_mk1 (shut_bool Try.underlying4 true)
  rw [hsl] at fin ⊢
  refine Calls.mono (roots_spec pp c l (by simp only [maxLen] at hcm; omega) hlc leaf W hst (fun v W' => v = .bool true ∧ V.Kp V.Nil W W') (fun W' k => ⟨rfl, k⟩)) ?_
  rintro e W' ⟨v, rfl, rfl, hk⟩
  exact ⟨_, rfl, fin W' hk⟩
theorem roots_holds : Rows.RangesRootsSaid :=
  OpenClaim.holds_of_wide 3 Try.f3 rfl rfl rfl rfl rfl rfl rfl ⟨rfl, rfl, rfl, rfl, rfl⟩ rfl rfl rfl rfl rfl (by kernel_rfl) Try.func3 (by kernel_rfl)
    (of_decide_eq_true (by kernel_rfl)) (by unfold Func.isWrapper; rw [if_neg (of_decide_eq_false (by kernel_rfl))]; exact ⟨rfl, rfl⟩)
    (fun os started H enc _ => roots_lifted os started H enc)
end Go.Proofs.Ytboifenkbhfnfaa
