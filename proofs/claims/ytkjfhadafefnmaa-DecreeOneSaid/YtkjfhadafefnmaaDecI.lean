/- decree: contract: forget. -/
import Derived.Test.YtkjfhadafefnmaaDecH
import Derived.Test.YtkjfhadafefnmaaPlain
set_option linter.all false
namespace Go.Proofs.Ytkjfhadafefnmaa
open Go
set_option linter.unusedSimpArgs false
def keepP (who : Int) (e : Int × PropS) : Bool := !(decide (e.1.tmod 8 = who) && decide (e.2.phase ≠ 3))
def DecS.forget (S : DecS) (who : Int) : DecS := { S with props := S.props.filter (keepP who) }
theorem forget_closure (k who : Int) (q box : Nat) (p : PropS) (W : World) (hb : V.Blk W box #[.int .i64 who] intT) (hp : V.Blk W q p.cells propT) (R : Value → World → Prop) (hR : R (.bool (decide (k.tmod 8 = who) && decide (p.phase ≠ 3))) W) :
    V.CallsR Try.prog 26 #[.int .i64 k, ptrV q, ptrV box] W R := by
  refine V.calls_of_fnVC (args := [.int .i64 k, ptrV q, ptrV box]) Try.func26 ?_
  rw [vc_decree_Decree_forget_1]
  simp only [V.nptr_eq, V.vBool_mk, V.vInt_mk, V.vStr_mk, V.vPtr_mk, V.vMap_mk, V.vSlice_mk, V.bnot_eq, V.nilCk_mk, V.aadd_mk, V.size_alloc, V.size_drew, V.size_setCell, V.nmul_nat, V.and_assoc', V.true_and', V.ifB_t, V.ifB_f, V.isNil_some, V.isNil_none, Bool.not_true, Bool.not_false, Nat.zero_add, Nat.add_zero]
  refine ⟨by unfold V.inz; decide, ?_⟩
  repeat (first | ((with_reducible apply V.ldInt_b); (· repeat (first | with_reducible assumption | ((with_reducible apply V.Blk.new'); first | with_reducible rfl | (simp only [V.size_alloc, V.size_drew, V.size_setCell]; done)) | with_reducible apply V.Blk.set | ((with_reducible apply V.Blk.set_ne); (case hne => (try simp only [ne_eq]); omega)) | with_reducible apply V.Blk.alloc | with_reducible apply V.Blk.drew)); (· first | with_reducible assumption | rfl)) | ((with_reducible apply V.ldStr_b); (· repeat (first | with_reducible assumption | ((with_reducible apply V.Blk.new'); first | with_reducible rfl | (simp only [V.size_alloc, V.size_drew, V.size_setCell]; done)) | with_reducible apply V.Blk.set | ((with_reducible apply V.Blk.set_ne); (case hne => (try simp only [ne_eq]); omega)) | with_reducible apply V.Blk.alloc | with_reducible apply V.Blk.drew)); (· first | with_reducible assumption | rfl)) | ((with_reducible apply V.ldPtr_b); (· repeat (first | with_reducible assumption | ((with_reducible apply V.Blk.new'); first | with_reducible rfl | (simp only [V.size_alloc, V.size_drew, V.size_setCell]; done)) | with_reducible apply V.Blk.set | ((with_reducible apply V.Blk.set_ne); (case hne => (try simp only [ne_eq]); omega)) | with_reducible apply V.Blk.alloc | with_reducible apply V.Blk.drew)); (· first | with_reducible assumption | rfl)) | ((with_reducible apply V.ldSlice_b); (· repeat (first | with_reducible assumption | ((with_reducible apply V.Blk.new'); first | with_reducible rfl | (simp only [V.size_alloc, V.size_drew, V.size_setCell]; done)) | with_reducible apply V.Blk.set | ((with_reducible apply V.Blk.set_ne); (case hne => (try simp only [ne_eq]); omega)) | with_reducible apply V.Blk.alloc | with_reducible apply V.Blk.drew)); (· first | with_reducible assumption | rfl)) | ((with_reducible apply V.ldMap_b); (· repeat (first | with_reducible assumption | ((with_reducible apply V.Blk.new'); first | with_reducible rfl | (simp only [V.size_alloc, V.size_drew, V.size_setCell]; done)) | with_reducible apply V.Blk.set | ((with_reducible apply V.Blk.set_ne); (case hne => (try simp only [ne_eq]); omega)) | with_reducible apply V.Blk.alloc | with_reducible apply V.Blk.drew)); (· first | with_reducible assumption | rfl)) | ((with_reducible apply V.ldBool_b); (· repeat (first | with_reducible assumption | ((with_reducible apply V.Blk.new'); first | with_reducible rfl | (simp only [V.size_alloc, V.size_drew, V.size_setCell]; done)) | with_reducible apply V.Blk.set | ((with_reducible apply V.Blk.set_ne); (case hne => (try simp only [ne_eq]); omega)) | with_reducible apply V.Blk.alloc | with_reducible apply V.Blk.drew)); (· first | with_reducible assumption | rfl)) | ((with_reducible apply V.stCell_b); (· repeat (first | with_reducible assumption | ((with_reducible apply V.Blk.new'); first | with_reducible rfl | (simp only [V.size_alloc, V.size_drew, V.size_setCell]; done)) | with_reducible apply V.Blk.set | ((with_reducible apply V.Blk.set_ne); (case hne => (try simp only [ne_eq]); omega)) | with_reducible apply V.Blk.alloc | with_reducible apply V.Blk.drew)); (· first | exact Nat.le_of_ble_eq_true rfl | ((try simp only [Array.size_setIfInBounds]); omega)); (· rfl)) | ((with_reducible refine ⟨?_, ?_⟩); (· first | ((with_reducible apply V.hasCell_b); (· repeat (first | with_reducible assumption | ((with_reducible apply V.Blk.new'); first | with_reducible rfl | (simp only [V.size_alloc, V.size_drew, V.size_setCell]; done)) | with_reducible apply V.Blk.set | ((with_reducible apply V.Blk.set_ne); (case hne => (try simp only [ne_eq]); omega)) | with_reducible apply V.Blk.alloc | with_reducible apply V.Blk.drew)); (· first | with_reducible assumption | rfl)) | (simp only [V.inX, V.inR, V.inz, V.ige0, V.zi]; omega))) | simp only [V.nptr_eq, V.vBool_mk, V.vInt_mk, V.vStr_mk, V.vPtr_mk, V.vMap_mk, V.vSlice_mk, V.bnot_eq, V.nilCk_mk, V.aadd_mk, V.size_alloc, V.size_drew, V.size_setCell, V.nmul_nat, V.and_assoc', V.true_and', V.ifB_t, V.ifB_f, V.isNil_some, V.isNil_none, Bool.not_true, Bool.not_false, Nat.zero_add, Nat.add_zero])
  refine V.ifB_of (fun h2 => ?_) (fun h2 => ?_) <;> simp only [V.ilt_t, V.ilt_f, V.ile_t, V.ile_f, V.igt_t, V.igt_f, V.ige_t, V.ige_f, V.ieq_t, V.ieq_f, V.ine_t, V.ine_f, V.isNil_t, V.isNil_f, V.bnot_eq, Bool.not_eq_true', Bool.not_eq_false', V.irem] at h2
  · refine prop_phase_spec q p _ _ hp ?_
    simp only [V.nptr_eq, V.vBool_mk, V.vInt_mk, V.vStr_mk, V.vPtr_mk, V.vMap_mk, V.vSlice_mk, V.bnot_eq, V.nilCk_mk, V.aadd_mk, V.size_alloc, V.size_drew, V.size_setCell, V.nmul_nat, V.and_assoc', V.true_and', V.ifB_t, V.ifB_f, V.isNil_some, V.isNil_none, Bool.not_true, Bool.not_false, Nat.zero_add, Nat.add_zero]
    simpa [h2, V.ine, bne, BEq.beq] using hR
  · simpa [h2] using hR
open Classical in
noncomputable def forgetD (w : World) (who : Int) : Lit → DataW Value → Bool
  | .int _ k, .held v => decide (k.tmod 8 = who) && decide (∃ q, v = ptrV q ∧ w.cell? ⟨q, 2, none⟩ ≠ some (.int .i64 3))
  | _, _ => false
theorem forgetD_at (w : World) (who k : Int) {q : Nat} {p : PropS} (hb : V.Blk w q p.cells propT) : forgetD w who (.int .i64 k) (.held (ptrV q)) = (decide (k.tmod 8 = who) && decide (p.phase ≠ 3)) := by
  unfold forgetD
  simp only
  congr 1
  have hc : w.cell? ⟨q, 2, none⟩ = some (.int .i64 p.phase) := hb.cell 2
  refine decide_eq_decide.2 ⟨fun ⟨q', e, hn⟩ h3 => ?_, fun h3 => ⟨q, rfl, fun e => ?_⟩⟩
  · cases e; exact hn (by rw [hc, h3])
  · rw [hc] at e
    have := Option.some.inj e
    injection this with _ h4
    exact h3 h4
open Classical in
noncomputable def rdIn (l : List (Int × Value)) (v : Value) : Option (DataW Value × List MemPlace) := if ∃ e ∈ l, e.2 = v then some (.held v, []) else none
theorem MapI_in {P : Program} {kt : TypeId} {w : World} {b : Nat} {l : List (Int × Value)} (h : V.MapI P kt w b l) : w.ownsMap P kt (rdIn l) b l.length (V.mapD l) := by
  obtain ⟨es, clk, hb, F, hs, hD⟩ := h
  have hmem : ∀ x ∈ es.toList, ∀ z, V.rdAll x.val = some z → rdIn l x.val = some z := by
    intro x hx z hz
    cases hz
    have h1 : WideElems.rg P kt V.rdAll x ∈ (es.toList.map (WideElems.rg P kt V.rdAll)).foldr DataW.insert [] := (WideShapes.sorted_perm _).mem_iff.2 (List.mem_map.2 ⟨x, hx, rfl⟩)
    have h2 : l.map V.ent = (es.toList.map (WideElems.rg P kt V.rdAll)).foldr DataW.insert [] := DataW.map.inj hD
    obtain ⟨y, hy⟩ := F.reads x hx
    obtain ⟨z, hz, hy2⟩ := WideElems.rd_val hy
    cases hz
    rw [WideElems.rg_of hy] at h1
    rw [← h2] at h1
    obtain ⟨e, he, hee⟩ := List.mem_map.1 h1
    have : e.2 = x.val := by
      have h3 := congrArg Prod.snd hee
      rw [hy2] at h3
      simpa [V.ent] using h3
    unfold rdIn
    rw [if_pos ⟨e, he, this⟩]
  obtain ⟨F1, hmap, _⟩ := F.stay hmem
  exact ⟨es, clk, hb, F1, hs, by rw [hmap]; exact hD⟩
theorem MapI_out {P : Program} {kt : TypeId} {w : World} {b n : Nat} {l l' : List (Int × Value)} (h : w.ownsMap P kt (rdIn l) b n (V.mapD l')) : V.MapI P kt w b l' := by
  obtain ⟨es, clk, hb, F, hs, hD⟩ := h
  have hmem : ∀ x ∈ es.toList, ∀ z, rdIn l x.val = some z → V.rdAll x.val = some z := by
    intro x hx z hz
    unfold rdIn at hz
    split at hz
    · exact hz
    · cases hz
  obtain ⟨F1, hmap, _⟩ := F.stay hmem
  exact V.MapI.tight ⟨es, clk, hb, F1, hs, by rw [hmap]; exact hD⟩
theorem forget_spec {g : Gh} {w : World} {d : Nat} {S : DecS} (h : Rep g w d S) (ok : S.Ok) (who : Int) (R : Value → World → Prop)
    (hR : ∀ g' w', Rep g' w' d (S.forget who) → Stp g g' w w' → R (.tuple #[]) w') :
    V.CallsR Try.prog 16 #[ptrV d, .int .i64 who] w R := by
  refine V.calls_of_fnVC Try.func16 ?_
  rw [vc_decree_Decree_forget]
  simp only [V.nptr_eq, V.vBool_mk, V.vInt_mk, V.vStr_mk, V.vPtr_mk, V.vMap_mk, V.vSlice_mk, V.bnot_eq, V.nilCk_mk, V.aadd_mk, V.size_alloc, V.size_drew, V.size_setCell, V.nmul_nat, V.and_assoc', V.true_and', V.ifB_t, V.ifB_f, V.isNil_some, V.isNil_none, Bool.not_true, Bool.not_false, Nat.zero_add, Nat.add_zero]
  have h1 := h.alloc (.cells #[.int .i64 who] intT)
  have hx1 := V.Blk.new w #[.int .i64 who] intT
  have hd1 := h1.dec
  have hf1 := h.fresh (Nat.le_refl _)
  have kp1 : Stp g g w (w.alloc (.cells #[.int .i64 who] intT)) := ⟨by repeat (first | with_reducible assumption | with_reducible exact V.Kp.refl _ _ | ((with_reducible apply V.Kp.set); (case hp => first | exact .inl rfl | exact .inl (by assumption) | exact .inr (by (try simp only [V.size_alloc, V.size_drew, V.size_setCell]); omega))) | with_reducible apply V.Kp.alloc | with_reducible apply V.Kp.drew), fun _ _ hf => hf⟩
  repeat (first | ((with_reducible apply V.ldInt_b); (· repeat (first | with_reducible assumption | ((with_reducible apply V.Blk.new'); first | with_reducible rfl | (simp only [V.size_alloc, V.size_drew, V.size_setCell]; done)) | with_reducible apply V.Blk.set | ((with_reducible apply V.Blk.set_ne); (case hne => (try simp only [ne_eq]); omega)) | with_reducible apply V.Blk.alloc | with_reducible apply V.Blk.drew)); (· first | with_reducible assumption | rfl)) | ((with_reducible apply V.ldStr_b); (· repeat (first | with_reducible assumption | ((with_reducible apply V.Blk.new'); first | with_reducible rfl | (simp only [V.size_alloc, V.size_drew, V.size_setCell]; done)) | with_reducible apply V.Blk.set | ((with_reducible apply V.Blk.set_ne); (case hne => (try simp only [ne_eq]); omega)) | with_reducible apply V.Blk.alloc | with_reducible apply V.Blk.drew)); (· first | with_reducible assumption | rfl)) | ((with_reducible apply V.ldPtr_b); (· repeat (first | with_reducible assumption | ((with_reducible apply V.Blk.new'); first | with_reducible rfl | (simp only [V.size_alloc, V.size_drew, V.size_setCell]; done)) | with_reducible apply V.Blk.set | ((with_reducible apply V.Blk.set_ne); (case hne => (try simp only [ne_eq]); omega)) | with_reducible apply V.Blk.alloc | with_reducible apply V.Blk.drew)); (· first | with_reducible assumption | rfl)) | ((with_reducible apply V.ldSlice_b); (· repeat (first | with_reducible assumption | ((with_reducible apply V.Blk.new'); first | with_reducible rfl | (simp only [V.size_alloc, V.size_drew, V.size_setCell]; done)) | with_reducible apply V.Blk.set | ((with_reducible apply V.Blk.set_ne); (case hne => (try simp only [ne_eq]); omega)) | with_reducible apply V.Blk.alloc | with_reducible apply V.Blk.drew)); (· first | with_reducible assumption | rfl)) | ((with_reducible apply V.ldMap_b); (· repeat (first | with_reducible assumption | ((with_reducible apply V.Blk.new'); first | with_reducible rfl | (simp only [V.size_alloc, V.size_drew, V.size_setCell]; done)) | with_reducible apply V.Blk.set | ((with_reducible apply V.Blk.set_ne); (case hne => (try simp only [ne_eq]); omega)) | with_reducible apply V.Blk.alloc | with_reducible apply V.Blk.drew)); (· first | with_reducible assumption | rfl)) | ((with_reducible apply V.ldBool_b); (· repeat (first | with_reducible assumption | ((with_reducible apply V.Blk.new'); first | with_reducible rfl | (simp only [V.size_alloc, V.size_drew, V.size_setCell]; done)) | with_reducible apply V.Blk.set | ((with_reducible apply V.Blk.set_ne); (case hne => (try simp only [ne_eq]); omega)) | with_reducible apply V.Blk.alloc | with_reducible apply V.Blk.drew)); (· first | with_reducible assumption | rfl)) | ((with_reducible apply V.stCell_b); (· repeat (first | with_reducible assumption | ((with_reducible apply V.Blk.new'); first | with_reducible rfl | (simp only [V.size_alloc, V.size_drew, V.size_setCell]; done)) | with_reducible apply V.Blk.set | ((with_reducible apply V.Blk.set_ne); (case hne => (try simp only [ne_eq]); omega)) | with_reducible apply V.Blk.alloc | with_reducible apply V.Blk.drew)); (· first | exact Nat.le_of_ble_eq_true rfl | ((try simp only [Array.size_setIfInBounds]); omega)); (· rfl)) | ((with_reducible refine ⟨?_, ?_⟩); (· first | ((with_reducible apply V.hasCell_b); (· repeat (first | with_reducible assumption | ((with_reducible apply V.Blk.new'); first | with_reducible rfl | (simp only [V.size_alloc, V.size_drew, V.size_setCell]; done)) | with_reducible apply V.Blk.set | ((with_reducible apply V.Blk.set_ne); (case hne => (try simp only [ne_eq]); omega)) | with_reducible apply V.Blk.alloc | with_reducible apply V.Blk.drew)); (· first | with_reducible assumption | rfl)) | (simp only [V.inX, V.inR, V.inz, V.ige0, V.zi]; omega))) | simp only [V.nptr_eq, V.vBool_mk, V.vInt_mk, V.vStr_mk, V.vPtr_mk, V.vMap_mk, V.vSlice_mk, V.bnot_eq, V.nilCk_mk, V.aadd_mk, V.size_alloc, V.size_drew, V.size_setCell, V.nmul_nat, V.and_assoc', V.true_and', V.ifB_t, V.ifB_f, V.isNil_some, V.isNil_none, Bool.not_true, Bool.not_false, Nat.zero_add, Nat.add_zero])
  generalize w.alloc (.cells #[.int .i64 who] intT) = w1 at h1 hx1 hd1 kp1 ⊢
  have hm := MapI_in h1.props
  have hcon := AnyDf.maps_DeleteFunc (ρ := Try.delP_ren) Try.delP (Maps.int_keyed Try.underlying3) _ (forgetD w1 who) 26 #[ptrV w.heap.size] g.mp _ _ w1 (enters_of Try.func26 (by kernel_rfl) rfl) hm (by
    intro W key val kl yd yp hg hk hv
    have hk' : keyOf Try.prog intT key = some kl := hk
    simp only [keyOf, Try.underlying3] at hk'
    rcases Classical.em (∃ e ∈ S.props.map fun p => (p.1, ptrV (g.pat p.1)), e.2 = val) with hin | hin
    case inr => rw [rdIn, if_neg hin] at hv; cases hv
    rw [rdIn, if_pos hin] at hv
    obtain ⟨x, hx, rfl⟩ := hin
    obtain ⟨e, he, rfl⟩ := List.mem_map.1 hx
    cases hv
    cases key <;> simp [mapKey, Try.underlying3] at hk'
    rename_i kk k
    obtain ⟨⟨rfl, _⟩, rfl⟩ := hk'
    have hpo := h1.oprop e he
    have hpb := h1.prop e he
    have hb2 : V.Blk W w.heap.size #[.int .i64 who] intT := (hg.block _ hx1.lt (fun e => by have e' := Option.some.inj e; rw [e', h1.oprops] at hf1; cases hf1)).trans hx1
    have hp2 : V.Blk W (g.pat e.1) e.2.cells propT := (hg.block _ hpb.lt (fun e' => by have e'' := Option.some.inj e'; rw [e'', h1.oprops] at hpo; cases hpo)).trans hpb
    refine Calls.mono (forget_closure k who _ _ e.2 W hb2 hp2 (fun v w' => v = .bool (decide (k.tmod 8 = who) && decide (e.2.phase ≠ 3)) ∧ w' = W) ⟨rfl, rfl⟩) ?_
    rintro _ _ ⟨v, rfl, rfl, rfl⟩
    refine ⟨?_, World.grownBy.refl _ _⟩
    rw [forgetD_at w1 who k hpb])
  have hmono : ∀ e w', (e = Ending.returned (.tuple #[]) ∧ w'.ownsMap Try.prog intT (rdIn (S.props.map fun p => (p.1, ptrV (g.pat p.1)))) g.mp (S.props.map fun p => (p.1, ptrV (g.pat p.1))).length (Lib.deleteFuncD (forgetD w1 who) (V.mapD (S.props.map fun p => (p.1, ptrV (g.pat p.1))))) ∧ w1.grownBy w' (some g.mp)) → ∃ v, e = .returned v ∧ R (.tuple #[]) w' := by
    rintro e w' ⟨rfl, h2, h3⟩
    refine ⟨_, rfl, ?_⟩
    have e1 : Lib.deleteFuncD (forgetD w1 who) (V.mapD (S.props.map fun p => (p.1, ptrV (g.pat p.1)))) = V.mapD ((S.props.filter (keepP who)).map fun p => (p.1, ptrV (g.pat p.1))) := by
      simp only [Lib.deleteFuncD, V.mapD, List.map_map, List.filter_map]
      congr 2
      refine List.filter_congr fun e he => ?_
      simp only [Function.comp, V.ent, keepP]
      rw [forgetD_at w1 who e.1 (h1.prop e he)]
    rw [e1] at h2
    obtain ⟨h4, s4⟩ := h1.setProps (fun e he => (List.mem_filter.1 he).1) (MapI_out h2) (V.kp_of_grown h3 rfl)
    exact hR g w' h4 (kp1.trans s4)
  exact Calls.mono hcon hmono
end Go.Proofs.Ytkjfhadafefnmaa
