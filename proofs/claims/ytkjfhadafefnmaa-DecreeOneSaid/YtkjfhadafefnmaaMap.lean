/- Maps with integer keys: the kit's 'ownsMap' with a reader that hands each value back as it is; a map is a list of pairs, its keys rising. -/
import Derived.Test.YtkjfhadafefnmaaVcH
import Derived.Maps.OwnSet
set_option linter.all false
namespace Go.Proofs.Ytkjfhadafefnmaa.V
open Go
section
variable {ν : Type}
def alook (l : List (Int × ν)) (k : Int) : Option ν := (l.find? fun p => p.1 == k).map (·.2)
def ains (x : Int × ν) : List (Int × ν) → List (Int × ν)
  | [] => [x]
  | y :: r => if x.1 < y.1 then x :: y :: r else y :: ains x r
def adel (l : List (Int × ν)) (k : Int) : List (Int × ν) := l.filter fun p => !(p.1 == k)
def aput (l : List (Int × ν)) (k : Int) (v : ν) : List (Int × ν) := ains (k, v) (adel l k)
end
/-- every value reads as itself -/
def rdAll (v : Value) : Option (DataW Value × List MemPlace) := some (.held v, [])
def ent (p : Int × Value) : Lit × DataW Value := (.int .i64 p.1, .held p.2)
def mapD (l : List (Int × Value)) : DataW Value := .map (l.map ent)
def MapI (P : Program) (kt : TypeId) (w : World) (b : Nat) (l : List (Int × Value)) : Prop := w.ownsMap P kt rdAll b l.length (mapD l)
def i64ok (k : Int) : Prop := -9223372036854775808 ≤ k ∧ k ≤ 9223372036854775807
theorem i64ok.wf {k : Int} (h : i64ok k) : (Lit.int .i64 k).wf = true := by
  unfold i64ok at h
  simp only [Lit.wf, IntKind.min, IntKind.max, Bool.and_eq_true]
  simpa [IntKind.signed, IntKind.bits] using h
theorem sameKey_int (a b : Int) : (Lit.int .i64 a).sameKey (.int .i64 b) = (a == b) := by simp [Lit.sameKey]; rfl
theorem mapD_at (l : List (Int × Value)) (k : Int) (z : Value) : (mapD l).atKey (.int .i64 k) (.held z) = .held ((alook l k).getD z) := by
  simp only [mapD, DataW.atKey, alook]
  induction l with
  | nil => rfl
  | cons p r ih =>
    simp only [List.map_cons, List.find?_cons, ent, sameKey_int]
    cases p.1 == k
    · exact ih
    · rfl
theorem mapD_has (l : List (Int × Value)) (k : Int) : Maps.has (mapD l) (.int .i64 k) = (alook l k).isSome := by
  simp only [mapD, Maps.has, alook]
  induction l with
  | nil => rfl
  | cons p r ih =>
    simp only [List.map_cons, List.any_cons, List.find?_cons, ent, sameKey_int]
    cases p.1 == k
    · simpa using ih
    · rfl
theorem ins_ent (x : Int × Value) (l : List (Int × Value)) : DataW.insert (ent x) (l.map ent) = (ains x l).map ent := by
  induction l with
  | nil => rfl
  | cons y r ih =>
    simp only [List.map_cons, DataW.insert, ains, ent, Lit.before, decide_eq_true_eq]
    split
    · rfl
    · simp only [List.map_cons]; congr 1
theorem fil_ent (k : Int) : ((fun p : Lit × DataW Value => !p.fst.sameKey (Lit.int IntKind.i64 k)) ∘ ent) = fun p => !(p.1 == k) := by
  funext p; simp only [Function.comp, ent, sameKey_int]
theorem mapD_del (l : List (Int × Value)) (k : Int) : (mapD l).del (.int .i64 k) = mapD (adel l k) := by
  simp only [mapD, DataW.del, adel, List.filter_map, fil_ent]
theorem mapD_put (l : List (Int × Value)) (k : Int) (v : Value) : (mapD l).put (.int .i64 k) (.held v) = mapD (aput l k v) := by
  simp only [mapD, DataW.put, aput, adel, List.filter_map, fil_ent]
  rw [← ins_ent]
  rfl
section
variable {P : Program} {kt t e : TypeId} {w : World} {b : Nat} {l : List (Int × Value)}
theorem MapI.tight {n : Nat} (h : w.ownsMap P kt rdAll b n (mapD l)) : MapI P kt w b l := by
  obtain ⟨es, clk, hb, F, hs, hD⟩ := h
  refine ⟨es, clk, hb, F, ?_, hD⟩
  have := congrArg Maps.size hD
  simp only [mapD, Maps.size, List.length_map, length_sorted] at this
  simp at this
  omega
theorem MapI.lt (h : MapI P kt w b l) : b < w.heap.size := World.ownsMap.lt h
theorem MapI.same {w' : World} (h : MapI P kt w b l) (e : w'.heap[b]? = w.heap[b]?) : MapI P kt w' b l := by
  obtain ⟨es, clk, hb, F, hs, hD⟩ := h
  exact ⟨es, clk, e.trans hb, F, hs, hD⟩
theorem MapI.made (P : Program) (kt : TypeId) (w : World) : MapI P kt (w.alloc (.map #[] 0)) w.heap.size [] := World.ownsMap_made w P kt rdAll
theorem MapI.room (h : MapI P kt w b l) : l.length ≤ maxLen := by
  obtain ⟨es, clk, hb, F, hs, hD⟩ := h
  have := congrArg Maps.size hD
  simp only [mapD, Maps.size, List.length_map, length_sorted] at this
  simp at this
  have := F.size
  omega
theorem MapI.lookup (h : MapI P kt w b l) (hk : P.underlying kt = some (.int .i64)) (ht : P.underlying t = some (.map kt e)) {z : Value} (hz : (zeroValue e).run P w = .ok z w) {k : Int} (hi : i64ok k) {C : Value → Prop} (hc : C ((alook l k).getD z)) :
    RunR P (Instr.lookup t (.map (some b)) (.int .i64 k) false) w C := by
  obtain ⟨v, ps, hr, hv⟩ := World.ownsMap.lookup h (Maps.int_keyed hk) ht hz (zd := .held z) (zp := []) rfl (Maps.keyOf_int_mk hk hi.wf)
  rw [mapD_at] at hv
  simp only [rdAll, Option.some.injEq, Prod.mk.injEq, DataW.held.injEq] at hv
  rw [hv.1] at hr
  exact ⟨_, hr, hc⟩
theorem MapI.stays (h : MapI P kt w b l) (hk : P.underlying kt = some (.int .i64)) (ht : P.underlying t = some (.map kt e)) {z : Value} (hz : (zeroValue e).run P w = .ok z w) {k : Int} (hi : i64ok k) {v : Value} (hv : (alook l k).getD z = v) :
    V.stays P (Instr.lookup t (.map (some b)) (.int .i64 k) false) v w := by
  obtain ⟨_, hr, rfl⟩ := h.lookup (C := fun x => x = v) hk ht hz hi hv
  exact hr
theorem MapI.lookOk (h : MapI P kt w b l) (hk : P.underlying kt = some (.int .i64)) (ht : P.underlying t = some (.map kt e)) {z : Value} (hz : (zeroValue e).run P w = .ok z w) {k : Int} (hi : i64ok k) {C : Value → Prop} (hc : C (.tuple #[(alook l k).getD z, .bool (alook l k).isSome])) :
    RunR P (Instr.lookup t (.map (some b)) (.int .i64 k) true) w C := by
  obtain ⟨v, ps, hr, hv⟩ := World.ownsMap.look_ok h (Maps.int_keyed hk) ht hz (zd := .held z) (zp := []) rfl (Maps.keyOf_int_mk hk hi.wf)
  rw [mapD_at] at hv
  simp only [rdAll, Option.some.injEq, Prod.mk.injEq, DataW.held.injEq] at hv
  rw [hv.1, mapD_has] at hr
  exact ⟨_, hr, hc⟩
theorem kp_of_grown {S : Nat → Prop} {w w' : World} {b : Nat} (h : w.grownBy w' (some b)) (hb : S b) : Kp S w w' :=
  ⟨h.os, h.tape, h.output, h.size, fun i hi hs => h.block i hi (fun e => hs (by cases e; exact hb))⟩
theorem MapI.update (h : MapI P kt w b l) (hk : P.underlying kt = some (.int .i64)) (ht : P.underlying t = some (.map kt e)) {k : Int} (hi : i64ok k) (hn : l.length < maxLen) (v : Value) {C : World → Prop}
    (hc : ∀ w', MapI P kt w' b (aput l k v) → Kp (One b) w w' → w'.heap.size = w.heap.size → C w') : RunU P (Instr.mapUpdate t (.map (some b)) (.int .i64 k) v) w C := by
  obtain ⟨w', hr, ho, hg⟩ := World.ownsMap.store h (Maps.int_keyed hk) ht hn (d := .held v) (ps := []) (Maps.keyOf_int_mk hk hi.wf) rfl
  rw [mapD_put] at ho
  refine ⟨w', hr, hc w' (MapI.tight ho) (kp_of_grown hg.grown rfl) ?_⟩
  obtain ⟨_, _, _, _, _, rfl⟩ := hg
  simp [ChangeMaps.setBlock]
theorem MapI.delete (h : MapI P kt w b l) (hk : P.underlying kt = some (.int .i64)) (ht : P.underlying t = some (.map kt e)) {k : Int} (hi : i64ok k) (ty : TypeId) {C : Value → World → Prop}
    (hc : ∀ w', MapI P kt w' b (adel l k) → Kp (One b) w w' → w'.heap.size = w.heap.size → C (.tuple #[]) w') : RunV P (Builtin.delete_ #[t, kt] ty #[.map (some b), .int .i64 k]) w C := by
  obtain ⟨w', hr, ho, hg⟩ := World.ownsMap.drop h (Maps.int_keyed hk) ht (Maps.keyOf_int_mk hk hi.wf) ty
  rw [mapD_del] at ho
  refine ⟨_, w', hr, hc w' (MapI.tight ho) (kp_of_grown hg.grown rfl) ?_⟩
  obtain ⟨_, _, _, _, _, rfl⟩ := hg
  simp [ChangeMaps.setBlock]
end
end Go.Proofs.Ytkjfhadafefnmaa.V
