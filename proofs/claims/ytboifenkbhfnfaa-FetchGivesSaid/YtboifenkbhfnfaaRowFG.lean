/- the row FetchGives. -/
import Derived.Test.YtboifenkbhfnfaaRows
import Derived.Test.YtboifenkbhfnfaaFetB
import Derived.Test.YtboifenkbhfnfaaStrA
import Derived.ProofKit
import Derived.Deep.Slices
import Derived.Deep.Fields
set_option linter.all false
set_option maxRecDepth 100000
namespace Go.Proofs.Ytboifenkbhfnfaa
open Go Go.ChangeShapes Go.WideShapes Go.ChangeAt Go.RowKit Go.Deep
theorem Try.own : ownKnob Try.prog.godebug = none := by kernel_rfl
theorem id_of_cells {H : Type} {enc : TypeId × Value → H} {w : World} {base fuel : Nat} {spare : Nat → Bool} {held : Bool} {cs : List Value} {x : DataW H × List MemPlace} (h : DataW.trod enc Try.prog w base spare held fuel 40 cs = some x) :
    ∃ lv ix : Int, cs = [.int .i64 lv, .int .i64 ix] := by
  obtain ⟨xs, n, -, -, hl, hx, hf⟩ := DataW.trod_struct Try.underlying40 h
  have hl2 : cs.length = 2 := hl
  have hx2 : xs.length = 2 := hx
  match cs, hl2, xs, hx2 with
  | [c0, c1], _, [x0, x1], _ =>
    have f0 := hf 0 _ rfl
    have f1 := hf 1 _ rfl
    obtain ⟨a, e0, -⟩ := DataW.trod_int Try.underlying3 f0
    obtain ⟨b, e1, -⟩ := DataW.trod_int Try.underlying3 f1
    have k1 : Try.prog.cellsOf 3 = 1 := by kernel_rfl
    refine ⟨a, b, ?_⟩
    simp [k1] at e0 e1
    rw [e0, e1]
theorem want_of_cells {H : Type} {enc : TypeId × Value → H} {w : World} {base fuel : Nat} {spare : Nat → Bool} {held : Bool} {cs : List Value} {x : DataW H × List MemPlace} (h : DataW.trod enc Try.prog w base spare held fuel 42 cs = some x) :
    ∃ (b : Bool) (lv ix : Int), cs = [.bool b, .int .i64 lv, .int .i64 ix] := by
  obtain ⟨xs, n, -, -, hl, hx, hf⟩ := DataW.trod_struct Try.underlying42 h
  have hl3 : cs.length = 3 := hl
  have hx2 : xs.length = 2 := hx
  match cs, hl3, xs, hx2 with
  | [c0, c1, c2], _, [x0, x1], _ =>
    have f0 := hf 0 _ rfl
    have f1 := hf 1 _ rfl
    obtain ⟨b, e0, -⟩ := DataW.trod_bool Try.underlying4 f0
    obtain ⟨lv, ix, e1⟩ := id_of_cells f1
    have k1 : Try.prog.cellsOf 4 = 1 := by kernel_rfl
    have k2 : Try.prog.cellsOf 40 = 2 := by kernel_rfl
    refine ⟨b, lv, ix, ?_⟩
    simp [k1] at e0
    simp [k2] at e1
    rw [e0, e1.1, e1.2]
set_option maxRecDepth 100000 in
theorem gives_lifted (os : Os) (started : os.Started) (H : Type) (enc : TypeId × Value → H) :
    ReturnsInHanded {} Try.checked os 4 .any (Rows.fetchGivesSpec.pre6 enc Try.prog Try.f4 Rows.fetchGivesRow.domain false) (Rows.fetchGivesSpec.post enc Try.prog Try.f4 false true false false) := by
  refine returnsInHanded_of_change (C := Try.checked) Try.own started (by kernel_rfl) Try.func4
    (ChangeSpec.witness6 (enc := enc) (C := Try.checked) false ⟨#[], #[.slice none 0 0, .int .i64 0, .agg #[.bool false, .int .i64 0, .int .i64 0]], []⟩ 8 (by kernel_rfl) (by kernel_rfl) (by kernel_rfl) (by kernel_rfl)) ?_
  intro W base args ds gs before hval0 hW hcnd _
  have hval : ∀ (j : Nat) t v, Try.f4.params[j]? = some t → args[j]? = some v → Value.okWide Try.prog W .any base t v := hval0
  have hW' := hW
  obtain ⟨p, q, hA0, hV, rfl, hfz, hnd⟩ := hW
  have hA : DataW.TrodAll enc Try.prog W 0 (fun _ => true) true Try.f4.params.toList args.toList ds p := hA0
  rw [Try.params4] at hA hval
  obtain ⟨v0, v1, v2, d0, d1, d2, p0, p1, p2, rfl, rfl, rfl, h0, h1, h2⟩ := trodAll_three hA
  obtain ⟨rfl, rfl⟩ := trodVars_none hV
  have h0k := h0
  have h1k := h1
  have h2k := h2
  obtain ⟨a0, len, cap, rfl⟩ := okWide_slice Try.underlying22 (hval 0 22 v0 rfl rfl)
  obtain ⟨fuel, hf⟩ := h0
  obtain ⟨pp, c, l, hsl, hlc, hcm, hst⟩ := open_strs (v := .slice a0 len cap) (by simpa [Value.cells] using hf)
  obtain ⟨size, rfl, rfl, rfl, wsz⟩ := open_int Try.underlying3 (hval 1 3 v1 rfl rfl) h1
  obtain ⟨cs, rfl, hcs⟩ := okWide_struct Try.underlying42 (hval 2 42 v2 rfl rfl)
  obtain ⟨fuel2, hf2⟩ := h2
  obtain ⟨b, lv, ix, hcells⟩ := want_of_cells (cs := cs.toList) (by simpa [Value.cells] using hf2)
  obtain rfl : cs = #[.bool b, .int .i64 lv, .int .i64 ix] := by rw [← Array.toList_inj]; exact hcells
  clear hA0 hval0
  simp only [List.append_nil, List.nil_append] at hW'
  have hlt0 : ∀ x ∈ p0, x.block < W.heap.size := fun x hx => hW'.lt x (by simp [hx])
  have hlt2 : ∀ x ∈ p2, x.block < W.heap.size := fun x hx => hW'.lt x (by simp [hx])
  have fin : ∀ (W' : World), V.Kp V.Nil W W' → Rows.fetchGivesSpec.post enc Try.checked.prog Try.f4 false true false false W #[.slice a0 len cap, .int .i64 size, .agg #[.bool b, .int .i64 lv, .int .i64 ix]] (.bool true) W' := by
    intro W' hk
    have hb : Below W.heap.size W W' := ⟨hk.os, hk.tape, hk.output, hk.size, fun k hk' => hk.block k hk' (fun e => e)⟩
    refine ⟨_, _, _, [], p0 ++ ([] ++ p2), [], hW', ?_, trodAll_mk3 (Below.trod Try.laidOut (by kernel_rfl) (of_decide_eq_true (by kernel_rfl)) h0k hb hlt0) (Below.trod Try.laidOut (by kernel_rfl) (of_decide_eq_true (by kernel_rfl)) h1k hb (fun x hx => by cases hx)) (Below.trod Try.laidOut (by kernel_rfl) (of_decide_eq_true (by kernel_rfl)) h2k hb hlt2), rfl, hb.frame _, fun h => by cases h⟩
    exact trodAll_mk1 (shut_bool Try.underlying4 true)
  rw [hsl] at fin ⊢
  refine Calls.mono (gives_spec pp c l (by simp only [maxLen] at hcm; omega) hlc size b lv ix W hst (fun v W' => v = .bool true ∧ V.Kp V.Nil W W') (fun W' k => ⟨rfl, k⟩)) ?_
  rintro e W' ⟨v, rfl, rfl, hk⟩
  exact ⟨_, rfl, fin W' hk⟩
theorem gives_holds : Rows.FetchGivesSaid :=
  OpenClaim.holds_of_wide 4 Try.f4 rfl rfl rfl rfl rfl rfl rfl ⟨rfl, rfl, rfl, rfl, rfl⟩ rfl rfl rfl rfl rfl (by kernel_rfl) Try.func4 (by kernel_rfl)
    (of_decide_eq_true (by kernel_rfl)) (by unfold Func.isWrapper; rw [if_neg (of_decide_eq_false (by kernel_rfl))]; exact ⟨rfl, rfl⟩)
    (fun os started H enc _ => gives_lifted os started H enc)
end Go.Proofs.Ytboifenkbhfnfaa
