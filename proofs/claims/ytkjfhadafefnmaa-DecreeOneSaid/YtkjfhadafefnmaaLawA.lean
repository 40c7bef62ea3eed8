/- decree: the laws' walks, 1: a step in a world where an input lies. -/
import Derived.Test.YtkjfhadafefnmaaPaxG
import Derived.Deep.Slices
set_option linter.all false
namespace Go.Proofs.Ytkjfhadafefnmaa
open Go
set_option linter.unusedSimpArgs false
/-- the slice p of steps holds l -/
structure StepsAt (w : World) (p : Option Addr) (l : List StepS) : Prop where
  at' : ∀ i s, l[i]? = some s → ∃ a, p = some a ∧ w.cell? (V.aadd a (i * 4)) = some (.int .i64 s.kind) ∧ w.cell? (V.aadd a (i * 4 + 1)) = some (.int .i64 s.who) ∧ w.cell? (V.aadd a (i * 4 + 2)) = some (.int .i64 s.n) ∧ w.cell? (V.aadd a (i * 4 + 3)) = some (.string s.value)
theorem keep_cell {w W : World} (h : ∀ k, k < w.heap.size → W.heap[k]? = w.heap[k]?) {a : Addr} {v : Value} (hc : w.cell? a = some v) : W.cell? a = some v :=
  (World.cell?_of_block (h a.block (World.block_lt_of_cell? w a hc))).trans hc
theorem StepsAt.keep {w W : World} {p : Option Addr} {l : List StepS} (h : StepsAt w p l) (k : ∀ k, k < w.heap.size → W.heap[k]? = w.heap[k]?) : StepsAt W p l :=
  ⟨fun i s hs => by obtain ⟨a, e, h1, h2, h3, h4⟩ := h.at' i s hs; exact ⟨a, e, keep_cell k h1, keep_cell k h2, keep_cell k h3, keep_cell k h4⟩⟩
theorem aadd_aadd (a : Addr) (x y : Nat) : V.aadd (V.aadd a x) y = V.aadd a (x + y) := Go.Deep.add_add a x y
/-- d lies in W, came of S0 by steps; nothing of the blocks to be kept has changed since w -/
def Run (K : Nat → Prop) (w W : World) (d n m : Nat) (S0 S : DecS) (pv0 : Int → Option ByteArray) : Prop :=
  ∃ g pv, Rep g W d S ∧ DInv S n pv ∧ Bnd m S ∧ Later S0 S pv0 pv ∧ V.Kp (fun k => ¬ K k) w W ∧ ∀ k, K k → k < w.heap.size ∧ g.own k = .free
theorem Run.step {K : Nat → Prop} {w W : World} {d n m : Nat} {S0 S : DecS} {pv0 : Int → Option ByteArray} (h : Run K w W d n m S0 S pv0) (hm : m ≤ 999) (s : StepS) (R : Value → World → Prop) (hR : ∀ W', Run K w W' d n (m + 1) S0 (S.step s) pv0 → R (.tuple #[]) W') :
    V.CallsR Try.prog 8 #[ptrV d, s.v] W R := by
  obtain ⟨g, pv, hr, hi, hb, hl, hk, hf⟩ := h
  obtain ⟨ok, -⟩ := hi.oks hb (by omega)
  refine do_spec hr ok s R fun g' W' hr' hs' => ?_
  obtain ⟨pv', hi', hl'⟩ := hi.step s
  refine hR W' ⟨g', pv', hr', hi', hb.step ok.n5 s, hl.trans hl', V.Kp.then hk hs'.kp fun i _ h2 h3 => h2 (hf i h3).2, fun k hk' => ⟨(hf k hk').1, hs'.keep k ?_ (hf k hk').2⟩⟩
  have := hk.size
  have := (hf k hk').1
  omega
theorem Run.kp {K : Nat → Prop} {w W W' : World} {d n m : Nat} {S0 S : DecS} {pv0 : Int → Option ByteArray} (h : Run K w W d n m S0 S pv0) (k : V.Kp V.Nil W W') : Run K w W' d n m S0 S pv0 := by
  obtain ⟨g, pv, hr, hi, hb, hl, hk, hf⟩ := h
  exact ⟨g, pv, hr.kp k (fun _ e => e.elim), hi, hb, hl, V.Kp.trans hk (k.mono fun _ _ e => e.elim), hf⟩
theorem Run.keeps {K : Nat → Prop} {w W : World} {d n m : Nat} {S0 S : DecS} {pv0 : Int → Option ByteArray} (h : Run K w W d n m S0 S pv0) {k : Nat} (hk : K k) : W.heap[k]? = w.heap[k]? := by
  obtain ⟨g, pv, hr, hi, hb, hl, hkp, hf⟩ := h
  exact hkp.block k (hf k hk).1 (fun e => e hk)
theorem been_len {S : DecS} (ok : S.Ok) : S.been.length ≤ 900000 := by
  unfold DecS.been
  rw [List.length_map]
  exact Nat.le_trans (List.length_filter_le _ _) ok.tlen
theorem run_take (S : DecS) {l : List StepS} {k : Nat} {s : StepS} (hs : l[k]? = some s) : S.run (l.take (k + 1)) = (S.run (l.take k)).step s := by
  unfold DecS.run
  rw [List.take_add_one, hs, List.foldl_append]
  rfl
theorem awake_spec (w : World) (R : Value → World → Prop) (hR : ∀ W, V.Kp V.Nil w W → R (.bool true) W) : V.CallsR Try.prog 6 #[] w R := by
  refine V.calls_of_fnVC (args := []) Try.func6 ?_
  rw [vc_annalistlaw19_awake]
  refine new_spec 3 w _ ?_
  intro g d w1 hr k1 hf
  simp only [V.nptr_eq, V.vBool_mk, V.vInt_mk, V.vStr_mk, V.vPtr_mk, V.vMap_mk, V.vSlice_mk, V.bnot_eq, V.nilCk_mk, V.aadd_mk, V.size_alloc, V.size_drew, V.size_setCell, V.nmul_nat, V.and_assoc', V.true_and', V.ifB_t, V.ifB_f, V.isNil_some, V.isNil_none, Bool.not_true, Bool.not_false, Nat.zero_add, Nat.add_zero]
  have hn : nodesOf 3 = 3 := rfl
  have h0 : Run (fun k => k < w.heap.size) w w1 d 3 0 (DecS.new 3) (DecS.new 3) (fun _ => none) := ⟨g, _, by rw [← hn]; exact hr, new_inv (by decide) (by decide), new_bnd 3, Later.refl _ _, k1.mono fun _ _ e => e.elim, fun k hk => ⟨hk, hf k hk⟩⟩
  refine h0.step (by omega) ⟨0, 0, 0, ⟨#[97]⟩⟩ _ fun W h1 => ?_
  obtain ⟨g2, pv2, hr2, -, -, -, k2, -⟩ := h1
  refine letters_spec hr2 _ ?_
  simp only [V.nptr_eq, V.vBool_mk, V.vInt_mk, V.vStr_mk, V.vPtr_mk, V.vMap_mk, V.vSlice_mk, V.bnot_eq, V.nilCk_mk, V.aadd_mk, V.size_alloc, V.size_drew, V.size_setCell, V.nmul_nat, V.and_assoc', V.true_and', V.ifB_t, V.ifB_f, V.isNil_some, V.isNil_none, Bool.not_true, Bool.not_false, Nat.zero_add, Nat.add_zero]
  exact hR W (k2.mono fun i hi e => e hi)
end Go.Proofs.Ytkjfhadafefnmaa
