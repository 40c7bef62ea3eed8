/- Short words: lemmas that look for their own side conditions (by tactic blocks in their statements). -/
import Derived.Test.YtboifenkbhfnfaaVcH
import Derived.RangeFuncRecord
import Derived.Laws.Strings
set_option linter.all false
set_option maxRecDepth 100000
namespace Go.Proofs.Ytboifenkbhfnfaa.V
open Go
/-! ### putO, loop records, marks -/
theorem size_putO (w : World) (r : Nat) (o : Obj) : (putO w r o).heap.size = w.heap.size := by simp [putO]
theorem heap_putO_ne (w : World) {r b : Nat} (o : Obj) (h : b ≠ r) : (putO w r o).heap[b]? = w.heap[b]? := World.putObj_heap_other h
theorem Blk.putO {w : World} {b : Nat} {cs : Array Value} {t : TypeId} (h : Blk w b cs t) {r : Nat} (hne : b ≠ r) (o : Obj) : Blk (putO w r o) b cs t := (heap_putO_ne w o hne).trans h
theorem MBlk.putO {w : World} {b : Nat} {es : Array MapEntry} {k : Nat} (h : MBlk w b es k) {r : Nat} (hne : b ≠ r) (o : Obj) : MBlk (putO w r o) b es k := (heap_putO_ne w o hne).trans h
theorem LBlk.lt {w : World} {b : Nat} {r : Loop} (h : LBlk w b r) : b < w.heap.size := (Array.getElem?_eq_some_iff.1 h).1
theorem DBlk.lt {w : World} {b : Nat} (h : DBlk w b) : b < w.heap.size := (Array.getElem?_eq_some_iff.1 h).1
theorem LBlk.alloc {w : World} {b : Nat} {r : Loop} (h : LBlk w b r) (o : Obj) : LBlk (w.alloc o) b r := by
  unfold LBlk; rw [heap_alloc, if_neg (by have := h.lt; omega)]; exact h
theorem DBlk.alloc {w : World} {b : Nat} (h : DBlk w b) (o : Obj) : DBlk (w.alloc o) b := by
  unfold DBlk; rw [heap_alloc, if_neg (by have := h.lt; omega)]; exact h
theorem LBlk.set {w : World} {b : Nat} {r : Loop} (h : LBlk w b r) (a : Addr) (v : Value) : LBlk (w.setCell a v) b r := by
  unfold LBlk at *
  simp only [World.setCell, Array.getElem?_modify]
  split <;> simp_all
theorem DBlk.set {w : World} {b : Nat} (h : DBlk w b) (a : Addr) (v : Value) : DBlk (w.setCell a v) b := by
  unfold DBlk at *
  simp only [World.setCell, Array.getElem?_modify]
  split <;> simp_all
theorem LBlk.drew {w : World} {b : Nat} {r : Loop} (h : LBlk w b r) : LBlk w.drew b r := h
theorem DBlk.drew {w : World} {b : Nat} (h : DBlk w b) : DBlk w.drew b := h
theorem LBlk.put {w : World} {b : Nat} {r : Loop} (h : LBlk w b r) (r' : Loop) : LBlk (V.putO w b (.loop r')) b r' := World.putObj_heap_same h.lt
theorem LBlk.putO {w : World} {b : Nat} {r : Loop} (h : LBlk w b r) {c : Nat} (hne : b ≠ c) (o : Obj) : LBlk (V.putO w c o) b r := (heap_putO_ne w o hne).trans h
theorem DBlk.putO {w : World} {b : Nat} (h : DBlk w b) {c : Nat} (hne : b ≠ c) (o : Obj) : DBlk (V.putO w c o) b := (heap_putO_ne w o hne).trans h
theorem Kp.lblk {S : Nat → Prop} {w w' : World} (h : Kp S w w') {b : Nat} {r : Loop} (hb : LBlk w b r) (hn : ¬ S b) : LBlk w' b r := (h.block b hb.lt hn).trans hb
theorem Kp.dblk {S : Nat → Prop} {w w' : World} (h : Kp S w w') {b : Nat} (hb : DBlk w b) (hn : ¬ S b) : DBlk w' b := (h.block b hb.lt hn).trans hb
theorem Kp.putO {S : Nat → Prop} {a b : World} (h : Kp S a b) {c : Nat} (hp : S c ∨ a.heap.size ≤ c) (o : Obj) : Kp S a (V.putO b c o) :=
  ⟨h.os, h.tape, h.output, by rw [size_putO]; exact h.size, fun i hi hn => by
    rw [heap_putO_ne _ _ (fun e => by subst e; exact hp.elim hn (fun h => by omega))]; exact h.block i hi hn⟩
theorem rfW_size (fn : FuncId) (tmps : Array Value) (ps : Array Tmp) (as bd : Code) (w : World) : (rfW fn tmps ps as bd w).heap.size = w.heap.size + 2 := by simp [rfW]
theorem Blk.rfW {w : World} {b : Nat} {cs : Array Value} {t : TypeId} (h : Blk w b cs t) (fn : FuncId) (tmps : Array Value) (ps : Array Tmp) (as bd : Code) : Blk (V.rfW fn tmps ps as bd w) b cs t := (h.alloc _).alloc _
theorem MBlk.rfW {w : World} {b : Nat} {es : Array MapEntry} {k : Nat} (h : MBlk w b es k) (fn : FuncId) (tmps : Array Value) (ps : Array Tmp) (as bd : Code) : MBlk (V.rfW fn tmps ps as bd w) b es k := (h.alloc _).alloc _
theorem Kp.rfW {S : Nat → Prop} {a w : World} (h : Kp S a w) (fn : FuncId) (tmps : Array Value) (ps : Array Tmp) (as bd : Code) : Kp S a (V.rfW fn tmps ps as bd w) := (h.alloc _).alloc _
theorem LBlk.rfW (fn : FuncId) (tmps : Array Value) (ps : Array Tmp) (as bd : Code) (w : World) : LBlk (V.rfW fn tmps ps as bd w) (w.heap.size + 1) (rfRec fn tmps ps as bd w.heap.size .ready none) := by
  unfold LBlk V.rfW; rw [heap_alloc]; simp
theorem DBlk.rfW (fn : FuncId) (tmps : Array Value) (ps : Array Tmp) (as bd : Code) (w : World) : DBlk (V.rfW fn tmps ps as bd w) w.heap.size := by
  unfold DBlk V.rfW; rw [heap_alloc, if_neg (by simp), heap_alloc]; simp
theorem finD_one (D : Nat) (w : World) (C : World → Prop) : finD (col D :: []) w C = (DBlk w D ∧ C (putO w D (.deferred none))) := rfl

theorem partV_int {P : Program} {t : TypeId} {k : IntKind} (h : P.underlying t = some (.int k)) (cs : Array Value) (off : Nat) : partV P t cs off = cs[off]? := by unfold partV; rw [h]
theorem seq_eq (a b : ByteArray) : seq a b = decide (a = b) := by
  unfold seq
  rw [ByteArray.toList_eq, ByteArray.toList_eq, Bool.eq_iff_iff]
  simp only [beq_iff_eq, decide_eq_true_eq]
  exact ⟨fun h => ByteArray.ext (Array.toList_inj.1 h), fun h => by rw [h]⟩
theorem seq_t {a b : ByteArray} : (seq a b = true) = (a = b) := by rw [seq_eq]; simp
theorem seq_f {a b : ByteArray} : (seq a b = false) = (a ≠ b) := by rw [seq_eq]; simp
theorem nmul_eq (a b : Nat) : nmul a b = a * b := rfl
theorem inat_nat (n : Nat) : inat (n : Int) = n := rfl
theorem inat_lit (n : Nat) : inat (no_index (OfNat.ofNat n)) = OfNat.ofNat n := rfl
theorem rfVC_fn {P : Program} {n : FuncId} {captured : Array Value} {tmps : Array Value} {ps : Array Tmp} {as bd : Code} {w : World} {K : Option Code → Nat → World → Prop} (hn : callable P n = true)
    (h : ∀ fn : FuncId, CallsR P n ([Value.func (.yield (w.heap.size + 1)) #[] #[]] ++ captured.toList).toArray (rfW fn tmps ps as bd w) fun _ w3 =>
        ∃ (st : LoopState) (pe : Option Code), LBlk w3 (w.heap.size + 1) (rfRec fn tmps ps as bd w.heap.size st pe) ∧ st ≠ .busy ∧
          K pe w.heap.size (putO w3 (w.heap.size + 1) (.loop (rfRec fn tmps ps as bd w.heap.size .exhausted pe)))) : rfVC P (.func (.func n) #[] captured) tmps ps as bd w K := by
  unfold rfVC
  show onlyIf (callable P n) _
  rw [hn]
  exact h
/-! ### what stands in a block, by search -/
theorem blk {w : World} {b : Nat} {cs : Array Value} {t : TypeId}
    (h : Blk w b cs t := by repeat (first | with_reducible assumption | ((with_reducible apply Go.Proofs.Ytboifenkbhfnfaa.V.Blk.new'); first | with_reducible rfl | (simp only [Go.Proofs.Ytboifenkbhfnfaa.V.size_alloc, Go.Proofs.Ytboifenkbhfnfaa.V.size_drew, Go.Proofs.Ytboifenkbhfnfaa.V.size_setCell, Go.Proofs.Ytboifenkbhfnfaa.V.size_putO]; done) | (simp only [Go.Proofs.Ytboifenkbhfnfaa.V.size_alloc, Go.Proofs.Ytboifenkbhfnfaa.V.size_drew, Go.Proofs.Ytboifenkbhfnfaa.V.size_setCell, Go.Proofs.Ytboifenkbhfnfaa.V.size_putO]; omega)) | with_reducible apply Go.Proofs.Ytboifenkbhfnfaa.V.Blk.set | ((with_reducible apply Go.Proofs.Ytboifenkbhfnfaa.V.Blk.set_ne); (case hne => (try simp only [ne_eq]); omega)) | with_reducible apply Go.Proofs.Ytboifenkbhfnfaa.V.Blk.alloc | with_reducible apply Go.Proofs.Ytboifenkbhfnfaa.V.Blk.drew | ((with_reducible apply Go.Proofs.Ytboifenkbhfnfaa.V.Blk.putO); (case hne => (try simp only [ne_eq]); omega)))) : Blk w b cs t := h
theorem lblk {w : World} {b : Nat} {r : Loop}
    (h : LBlk w b r := by repeat (first | with_reducible assumption | with_reducible apply Go.Proofs.Ytboifenkbhfnfaa.V.LBlk.put | with_reducible apply Go.Proofs.Ytboifenkbhfnfaa.V.LBlk.set | with_reducible apply Go.Proofs.Ytboifenkbhfnfaa.V.LBlk.alloc | with_reducible apply Go.Proofs.Ytboifenkbhfnfaa.V.LBlk.drew | ((with_reducible apply Go.Proofs.Ytboifenkbhfnfaa.V.LBlk.putO); (case hne => (try simp only [ne_eq]); omega)))) : LBlk w b r := h
theorem dblk {w : World} {b : Nat}
    (h : DBlk w b := by repeat (first | with_reducible assumption | with_reducible apply Go.Proofs.Ytboifenkbhfnfaa.V.DBlk.set | with_reducible apply Go.Proofs.Ytboifenkbhfnfaa.V.DBlk.alloc | with_reducible apply Go.Proofs.Ytboifenkbhfnfaa.V.DBlk.drew | ((with_reducible apply Go.Proofs.Ytboifenkbhfnfaa.V.DBlk.putO); (case hne => (try simp only [ne_eq]); omega)))) : DBlk w b := h
theorem kp {S : Nat → Prop} {w w' : World}
    (h : Kp S w w' := by repeat (first | with_reducible assumption | with_reducible exact Go.Proofs.Ytboifenkbhfnfaa.V.Kp.refl _ _ | ((with_reducible apply Go.Proofs.Ytboifenkbhfnfaa.V.Kp.set); (case hp => first | exact .inl rfl | exact .inl (by assumption) | exact .inr (by (try simp only [Go.Proofs.Ytboifenkbhfnfaa.V.size_alloc, Go.Proofs.Ytboifenkbhfnfaa.V.size_drew, Go.Proofs.Ytboifenkbhfnfaa.V.size_setCell, Go.Proofs.Ytboifenkbhfnfaa.V.size_putO]); omega))) | ((with_reducible apply Go.Proofs.Ytboifenkbhfnfaa.V.Kp.putO); (case hp => first | exact .inl rfl | exact .inl (by assumption) | exact .inr (by (try simp only [Go.Proofs.Ytboifenkbhfnfaa.V.size_alloc, Go.Proofs.Ytboifenkbhfnfaa.V.size_drew, Go.Proofs.Ytboifenkbhfnfaa.V.size_setCell, Go.Proofs.Ytboifenkbhfnfaa.V.size_putO]); omega))) | with_reducible apply Go.Proofs.Ytboifenkbhfnfaa.V.Kp.alloc | with_reducible apply Go.Proofs.Ytboifenkbhfnfaa.V.Kp.drew)) : Kp S w w' := h
theorem bto {w : World} {b : Nat} {cs cs' : Array Value} {t : TypeId} (h : Blk w b cs t := by exact Go.Proofs.Ytboifenkbhfnfaa.V.blk) (e : cs = cs' := by with_unfolding_all rfl) : Blk w b cs' t := e ▸ h
/-! ### loads and stores, by search -/
section
variable {w : World} {b o : Nat} {cs : Array Value} {t : TypeId}
theorem lI {k : IntKind} {x : Int} {C : Int → Prop} (hc : C x) (h : Blk w b cs t := by exact Go.Proofs.Ytboifenkbhfnfaa.V.blk) (hx : cs[o]? = some (.int k x) := by first | with_reducible assumption | with_unfolding_all rfl) : ldInt w ⟨b, o, none⟩ k C := ldInt_b h hx hc
theorem lB {x : Bool} {C : Bool → Prop} (hc : C x) (h : Blk w b cs t := by exact Go.Proofs.Ytboifenkbhfnfaa.V.blk) (hx : cs[o]? = some (.bool x) := by first | with_reducible assumption | with_unfolding_all rfl) : ldBool w ⟨b, o, none⟩ C := ldBool_b h hx hc
theorem lS {x : ByteArray} {C : ByteArray → Prop} (hc : C x) (h : Blk w b cs t := by exact Go.Proofs.Ytboifenkbhfnfaa.V.blk) (hx : cs[o]? = some (.string x) := by first | with_reducible assumption | with_unfolding_all rfl) : ldStr w ⟨b, o, none⟩ C := ldStr_b h hx hc
theorem lP {x : Option Addr} {C : Option Addr → Prop} (hc : C x) (h : Blk w b cs t := by exact Go.Proofs.Ytboifenkbhfnfaa.V.blk) (hx : cs[o]? = some (.pointer x) := by first | with_reducible assumption | with_unfolding_all rfl) : ldPtr w ⟨b, o, none⟩ C := ldPtr_b h hx hc
theorem lL {p : Option Addr} {n c : Nat} {C : Option Addr → Nat → Nat → Prop} (hc : C p n c) (h : Blk w b cs t := by exact Go.Proofs.Ytboifenkbhfnfaa.V.blk) (hx : cs[o]? = some (.slice p n c) := by first | with_reducible assumption | with_unfolding_all rfl) : ldSlice w ⟨b, o, none⟩ C := ldSlice_b h hx hc
theorem lM {x : Option Nat} {C : Option Nat → Prop} (hc : C x) (h : Blk w b cs t := by exact Go.Proofs.Ytboifenkbhfnfaa.V.blk) (hx : cs[o]? = some (.map x) := by first | with_reducible assumption | with_unfolding_all rfl) : ldMap w ⟨b, o, none⟩ C := ldMap_b h hx hc
theorem lR {x : Value} {C : Value → Prop} (hc : C x) (h : Blk w b cs t := by exact Go.Proofs.Ytboifenkbhfnfaa.V.blk) (hx : cs[o]? = some x := by first | with_reducible assumption | with_unfolding_all rfl) : ldRaw w ⟨b, o, none⟩ C := ldRaw_b h hx hc
theorem hC {x : Value} (h : Blk w b cs t := by exact Go.Proofs.Ytboifenkbhfnfaa.V.blk) (hx : cs[o]? = some x := by first | with_reducible assumption | with_unfolding_all rfl) : hasCell w ⟨b, o, none⟩ x := hasCell_b h hx
theorem sC {v : Value} {C : World → Prop} (hc : C (w.setCell ⟨b, o, none⟩ v)) (h : Blk w b cs t := by exact Go.Proofs.Ytboifenkbhfnfaa.V.blk)
    (hlt : o < cs.size := by first | with_unfolding_all exact Nat.le_of_ble_eq_true rfl | ((try simp only [Array.size_setIfInBounds]); omega)) (hv : v.oneCell' = true := by with_unfolding_all rfl) : stCell w ⟨b, o, none⟩ v C := stCell_b h hlt hv hc
theorem oneCell_of_has {cs : Array Value} (h1 : ∀ v ∈ cs.toList, v.oneCell' = true) : ∀ v ∈ cs.toList, v.oneCell' = true := h1
end
/-! ### big values (arrays, large structs) -/
section
variable {w : World} {b o n : Nat} {cur : Array Value} {te : TypeId}
theorem ldBig_b (h : Blk w b cur te) (hn : o + n ≤ cur.size) {C : Array Value → Prop} (hc : C (cur.extract o (o + n))) : ldBig w ⟨b, o, none⟩ n C := by
  refine ⟨_, ?_, fun j v hj => ?_, hc⟩
  · simp; omega
  · have e : (⟨b, o, none⟩ : Addr).add j = ⟨b, o + j, none⟩ := by have := aadd_mk b o j; simpa [aadd] using this
    rw [e, h.cell]
    have h2 : (cur.extract o (o + n))[j]? = some v := by rw [← Array.getElem?_toList]; exact hj
    rw [Array.getElem?_extract] at h2
    split at h2
    · exact h2
    · cases h2
theorem ldBig_w (h : Blk w b cur te) (hn : cur.size = n) {C : Array Value → Prop} (hc : C cur) : ldBig w ⟨b, 0, none⟩ n C :=
  ldBig_b h (by omega) (by rw [show cur.extract 0 (0 + n) = cur by rw [Nat.zero_add, ← hn]; simp]; exact hc)
theorem storeCells_big {P : Program} {g : Nat} {e : TypeId} : ∀ (vs : List Value) (off i : Nat) (cur : Array Value) (w : World), Blk w g cur e → off + i + vs.length ≤ cur.size → (∀ v ∈ vs, v.oneCell' = true) →
    ∃ w', (storeCells ⟨g, off, none⟩ vs i).run P w = .ok () w' ∧ Blk w' g (cur.toList.take (off + i) ++ vs ++ cur.toList.drop (off + i + vs.length)).toArray e ∧ Kp (One g) w w' ∧ w'.heap.size = w.heap.size
  | [], off, i, cur, w, h, _, _ => ⟨w, by simp [storeCells], h.to (by simp), Kp.refl _ _, rfl⟩
  | v :: vs, off, i, cur, w, h, hle, h1 => by
    have e : (⟨g, off, none⟩ : Addr).add i = ⟨g, off + i, none⟩ := by have := aadd_mk g off i; simpa [aadd] using this
    have hlt : off + i < cur.size := by simp only [List.length_cons] at hle; omega
    have h2 := h.set (off + i) v
    obtain ⟨w', hr, hb, hk, hs⟩ := storeCells_big (P := P) vs off (i + 1) _ _ h2 (by simp only [List.length_cons] at hle; simp; omega) (fun u hu => h1 u (by simp [hu]))
    refine ⟨w', ?_, hb.to ?_, Kp.trans (Kp.set (S := One g) (Kp.refl _ _) (.inl rfl) _) hk, by rw [hs, size_setCell]⟩
    · have hc : w.cell? ⟨g, off + i, none⟩ = some cur[off + i] := by rw [h.cell]; simp [hlt]
      simp [storeCells, e, run_store P w ⟨g, off + i, none⟩ v .plain (h1 v (by simp)), hc, h.frozen, hr]
    · have e1 : off + (i + 1) = off + i + 1 := by omega
      congr 1
      rw [Array.toList_setIfInBounds, e1]
      apply List.ext_getElem?
      intro j
      simp only [List.getElem?_append, List.getElem?_take, List.getElem?_set, List.getElem?_drop, List.length_append, List.length_take, List.length_set, List.length_cons, Array.length_toList, List.length_drop]
      have hm1 : min (off + i + 1) cur.size = off + i + 1 := by omega
      have hm2 : min (off + i) cur.size = off + i := by omega
      rw [hm1, hm2]
      by_cases ha : j < off + i
      · rw [if_pos (by omega), if_pos (by omega), if_pos (by omega), if_neg (by omega), if_pos (by omega), if_pos (by omega), if_pos (by omega)]
      · by_cases hb' : j = off + i
        · subst hb'
          rw [if_pos (by omega), if_pos (by omega), if_pos (by omega), if_pos rfl, if_pos (by omega), if_pos (by omega), if_neg (by omega)]
          simp
        · by_cases hc' : j < off + i + 1 + vs.length
          · rw [if_pos (by omega), if_neg (by omega), if_pos (by omega), if_neg (by omega)]
            rw [show j - (off + i) = (j - (off + i + 1)) + 1 by omega]
            simp
          · rw [if_neg (by omega), if_neg (by omega), if_neg (by omega)]
            congr 1; omega
theorem stBig_b {P : Program} {t : TypeId} (h : Blk w b cur te) {cs : Array Value} (hi : (P.info? t).isSome = true) (hn : sizeT P t = cs.size) (hle : o + cs.size ≤ cur.size) (h1 : ∀ v ∈ cs.toList, v.oneCell' = true) {C : World → Prop}
    (hc : ∀ w', Blk w' b (cur.toList.take o ++ cs.toList ++ cur.toList.drop (o + cs.size)).toArray te → Kp (One b) w w' → w'.heap.size = w.heap.size → C w') : stBig P t w ⟨b, o, none⟩ cs C := by
  obtain ⟨w', hr, hb, hk, hs⟩ := storeCells_big (P := P) cs.toList o 0 cur w h (by simpa using hle) h1
  refine ⟨w', ?_, hc w' (by simpa using hb) hk hs⟩
  simp [storeVar, sizeOf_run hi, hn, Value.cells, hr]
theorem stBig_w {P : Program} {t : TypeId} (h : Blk w b cur te) {cs : Array Value} (hi : (P.info? t).isSome = true) (hn : sizeT P t = cs.size) (hle : cs.size = cur.size) (h1 : ∀ v ∈ cs.toList, v.oneCell' = true) {C : World → Prop}
    (hc : ∀ w', Blk w' b cs te → Kp (One b) w w' → w'.heap.size = w.heap.size → C w') : stBig P t w ⟨b, 0, none⟩ cs C :=
  stBig_b h hi hn (by omega) h1 fun w' hb hk hs => hc w' (hb.to (by
    simp only [List.take_zero, List.nil_append, Nat.zero_add]
    rw [List.drop_of_length_le (by rw [Array.length_toList]; omega)]; simp)) hk hs
end
section
variable {w : World} {b n : Nat} {cur : Array Value} {te : TypeId}
theorem lG {C : Array Value → Prop} (hc : C cur) (h : Blk w b cur te := by exact Go.Proofs.Ytboifenkbhfnfaa.V.blk) (hn : cur.size = n := by with_reducible assumption) : ldBig w ⟨b, 0, none⟩ n C := ldBig_w h hn hc
theorem hB (h : Blk w b cur te := by exact Go.Proofs.Ytboifenkbhfnfaa.V.blk) : hasCells w ⟨b, 0, none⟩ cur := fun j v hj => by
  have e : (⟨b, 0, none⟩ : Addr).add j = ⟨b, j, none⟩ := by have := aadd_mk b 0 j; simpa [aadd] using this
  rw [e, h.cell]; simpa using hj
end
end Go.Proofs.Ytboifenkbhfnfaa.V
