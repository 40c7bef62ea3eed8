/- Rows whose block may bear the mark of a conversion (a frozen range beyond its cells): append; bytes of a string. -/
import Derived.Test.YtboifenkbhfnfaaVcK
import Derived.Test.YtboifenkbhfnfaaRow
import Derived.ArgAppend
import Derived.Lib.ConvBytes
set_option linter.all false
set_option maxRecDepth 100000
namespace Go.Proofs.Ytboifenkbhfnfaa.V
open Go
def FBlk (w : World) (b : Nat) (cs : Array Value) (t : TypeId) (fz : Nat × Nat) : Prop := w.heap[b]? = some (.cells cs t fz) ∧ (fz.2 ≤ fz.1 ∨ cs.size ≤ fz.1)
theorem Blk.toF {w : World} {b : Nat} {cs : Array Value} {t : TypeId} (h : Blk w b cs t) : FBlk w b cs t (0, 0) := ⟨h, .inl (Nat.le_refl _)⟩
section
variable {w w' : World} {b : Nat} {cs : Array Value} {t : TypeId} {fz : Nat × Nat}
theorem FBlk.lt (h : FBlk w b cs t fz) : b < w.heap.size := (Array.getElem?_eq_some_iff.1 h.1).1
theorem FBlk.cell (h : FBlk w b cs t fz) (o : Nat) : w.cell? ⟨b, o, none⟩ = cs[o]? := by simp [World.cell?, h.1]
theorem FBlk.frozen (h : FBlk w b cs t fz) {o : Nat} (ho : o < cs.size) : w.frozen? ⟨b, o, none⟩ = false := by
  obtain ⟨h1, h2⟩ := h
  simp only [World.frozen?, h1]
  rw [Bool.and_eq_false_iff]
  simp only [decide_eq_false_iff_not]
  omega
theorem FBlk.set (h : FBlk w b cs t fz) (o : Nat) (v : Value) : FBlk (w.setCell ⟨b, o, none⟩ v) b (cs.setIfInBounds o v) t fz := by
  refine ⟨?_, by simpa using h.2⟩
  simp [World.setCell, Array.getElem?_modify, h.1]
theorem FBlk.kp {S : Nat → Prop} (h : FBlk w b cs t fz) (k : Kp S w w') (hn : ¬ S b) : FBlk w' b cs t fz := ⟨(k.block b h.lt hn).trans h.1, h.2⟩
end
theorem storeCells_F {P : Program} {g : Nat} {e : TypeId} {fz : Nat × Nat} : ∀ (vs : List Value) (off i : Nat) (cur : Array Value) (w : World), FBlk w g cur e fz → off + i + vs.length ≤ cur.size → (∀ v ∈ vs, v.oneCell' = true) →
    ∃ w', (storeCells ⟨g, off, none⟩ vs i).run P w = .ok () w' ∧ FBlk w' g (cur.toList.take (off + i) ++ vs ++ cur.toList.drop (off + i + vs.length)).toArray e fz ∧ Kp (One g) w w' ∧ w'.heap.size = w.heap.size
  | [], off, i, cur, w, h, _, _ => ⟨w, by simp [storeCells], by simpa using h, Kp.refl _ _, rfl⟩
  | v :: vs, off, i, cur, w, h, hle, h1 => by
    have e : (⟨g, off, none⟩ : Addr).add i = ⟨g, off + i, none⟩ := by have := aadd_mk g off i; simpa [aadd] using this
    have hlt : off + i < cur.size := by simp only [List.length_cons] at hle; omega
    have h2 := h.set (off + i) v
    obtain ⟨w', hr, hb, hk, hs⟩ := storeCells_F (P := P) vs off (i + 1) _ _ h2 (by simp only [List.length_cons] at hle; simp; omega) (fun u hu => h1 u (by simp [hu]))
    have eq : (List.take (off + (i + 1)) (cur.setIfInBounds (off + i) v).toList ++ vs ++ List.drop (off + (i + 1) + vs.length) (cur.setIfInBounds (off + i) v).toList).toArray = (cur.toList.take (off + i) ++ v :: vs ++ cur.toList.drop (off + i + (v :: vs).length)).toArray := by
      have e1 : off + (i + 1) = off + i + 1 := by omega
      congr 1
      rw [Array.toList_setIfInBounds, e1]
      apply List.ext_getElem?
      intro j
      simp only [List.getElem?_append, List.getElem?_take, List.getElem?_set, List.getElem?_drop, List.length_append, List.length_take, List.length_set, List.length_cons, Array.length_toList, List.length_drop]
      have hm1 : min (off + i + 1) cur.size = off + i + 1 := by omega
      have hm2 : min (off + i) cur.size = off + i := by omega
      rw [hm1, hm2]
      by_cases ha : j < off + i
      · rw [if_pos (by omega), if_pos (by omega), if_pos (by omega), if_neg (by omega), if_pos (by omega), if_pos (by omega), if_pos (by omega)]
      · by_cases hb' : j = off + i
        · subst hb'
          rw [if_pos (by omega), if_pos (by omega), if_pos (by omega), if_pos rfl, if_pos (by omega), if_pos (by omega), if_neg (by omega)]
          simp
        · by_cases hc' : j < off + i + 1 + vs.length
          · rw [if_pos (by omega), if_neg (by omega), if_pos (by omega), if_neg (by omega)]
            rw [show j - (off + i) = (j - (off + i + 1)) + 1 by omega]
            simp
          · rw [if_neg (by omega), if_neg (by omega), if_neg (by omega)]
            congr 1; omega
    rw [eq] at hb
    refine ⟨w', ?_, hb, Kp.trans (Kp.set (S := One g) (Kp.refl _ _) (.inl rfl) _) hk, by rw [hs, size_setCell]⟩
    have hc : w.cell? ⟨g, off + i, none⟩ = some cur[off + i] := by rw [h.cell]; simp [hlt]
    simp [storeCells, e, run_store P w ⟨g, off + i, none⟩ v .plain (h1 v (by simp)), hc, h.frozen hlt, hr]
/-- as Row, of a block that may bear a mark -/
def RowF (w : World) (e : TypeId) (size : Nat) (p : Option Addr) (n c : Nat) (xs : List Value) : Prop :=
  (p = none ∧ n = 0 ∧ c = 0 ∧ xs = []) ∨ ∃ g cur fz, p = some ⟨g, 0, none⟩ ∧ FBlk w g cur e fz ∧ n ≤ c ∧ c ≤ maxLen ∧ cur.size = c * size ∧ cur.toList.take (n * size) = xs
section
variable {P : Program} {w w' : World} {e : TypeId} {size n c : Nat} {p : Option Addr} {xs : List Value}
theorem Row.toF (h : Row w e size p n c xs) : RowF w e size p n c xs := by
  rcases h.cases with ⟨rfl, rfl, rfl⟩ | ⟨g, cur, rfl, hb, h1, h2, h3, h4⟩
  · exact .inl ⟨rfl, rfl, rfl, List.eq_nil_of_length_eq_zero (by rw [h.len]; simp)⟩
  · exact .inr ⟨g, cur, (0, 0), rfl, hb.toF, h1, h2, h3, h4⟩
theorem RowF.len (h : RowF w e size p n c xs) : xs.length = n * size := by
  rcases h with ⟨_, rfl, _, rfl⟩ | ⟨g, cur, fz, rfl, hb, h1, h2, h3, h4⟩
  · simp
  · rw [← h4, List.length_take, Array.length_toList, h3]
    exact Nat.min_eq_left (Nat.mul_le_mul_right _ h1)
theorem RowF.lt (h : RowF w e size p n c xs) : ∀ k, blk? p = some k → k < w.heap.size := by
  intro k hk
  rcases h with ⟨rfl, _⟩ | ⟨g, cur, fz, rfl, hb, _⟩
  · cases hk
  · cases hk; exact hb.lt
theorem RowF.kp {S : Nat → Prop} (h : RowF w e size p n c xs) (k : Kp S w w') (hn : ∀ b, blk? p = some b → ¬ S b) : RowF w' e size p n c xs := by
  rcases h with h | ⟨g, cur, fz, rfl, hb, h1⟩
  · exact .inl h
  · exact .inr ⟨g, cur, fz, rfl, hb.kp k (hn g rfl), h1⟩
theorem RowF.cell {g : Nat} (h : RowF w e size (some ⟨g, 0, none⟩) n c xs) {i : Nat} {v : Value} (hv : xs[i]? = some v) : w.cell? ⟨g, i, none⟩ = some v := by
  rcases h with ⟨h, _⟩ | ⟨g', cur, fz, hg, hb, h1, h2, h3, h4⟩
  · cases h
  · cases hg
    rw [hb.cell, ← Array.getElem?_toList]
    rw [← h4, List.getElem?_take] at hv
    split at hv
    · exact hv
    · cases hv
theorem RowF.append (h : RowF w e size p n c xs) {st ty : TypeId} {i : TypeInfo} {z : Value} (ht : P.underlying st = some (.slice e)) (hi : P.info? e = some i) (hz : i.zero = some z)
    (hsize : i.size = size) (hzs : z.cells.size = size) (hsz : 0 < size) {a m mc : Nat} {cs : Array Value} {te : TypeId} (hb : Blk w a cs te) (hm : cs.size = m * size) (h1 : ∀ u ∈ cs.toList, u.oneCell' = true)
    (hbytes : (n + m) * i.bytes ≤ 140737488355328) (h63 : n + m ≤ 140737488355328) {C : Value → World → Prop}
    (hc : ∀ p' c' w', RowF w' e size p' (n + m) c' (xs ++ cs.toList) → Kp (fun k => blk? p = some k) w w' → (blk? p' = blk? p ∨ blk? p' = some w.heap.size) → C (.slice p' (n + m) c') w') :
    RunV P (Builtin.append_ #[st, st] ty #[.slice p n c, .slice (some ⟨a, 0, none⟩) m mc]) w C := by
  rcases h with ⟨rfl, rfl, rfl, rfl⟩ | ⟨g, cur, fz, rfl, hg, hnc, hcm, hcs, htk⟩
  · refine Row.append (Row.nil w e size) ht hi hz hsize hzs hsz hb hm h1 hbytes h63 ?_
    intro p' c' w' hr hk hat
    exact hc p' c' w' hr.toF hk hat
  · have hnews : ∀ j u, cs.toList[j]? = some u → w.cell? ((⟨a, 0, none⟩ : Addr).add j) = some u := fun j u hu => by
      rw [show (⟨a, 0, none⟩ : Addr).add j = ⟨a, j, none⟩ by have := aadd_mk a 0 j; simpa [aadd] using this, hb.cell]
      simpa using hu
    have hlen : xs.length = n * size := by rw [← htk, List.length_take, Array.length_toList, hcs]; exact Nat.min_eq_left (Nat.mul_le_mul_right _ hnc)
    by_cases hroom : n + m ≤ c
    · subst hsize
      have hfc := run_firstCells_some (P := P) w i.size m ⟨a, 0, none⟩ m mc cs.toList (by simpa using hm) hnews
      have hle : n * i.size + 0 + cs.toList.length ≤ cur.size := by
        rw [hcs, Array.length_toList, hm, Nat.add_zero, ← Nat.add_mul]; exact Nat.mul_le_mul_right _ hroom
      obtain ⟨w', hr, hb', hk, hs⟩ := storeCells_F (P := P) cs.toList (n * i.size) 0 cur w hg hle h1
      have eadd : (⟨g, 0, none⟩ : Addr).add (n * i.size) = ⟨g, n * i.size, none⟩ := by have := aadd_mk g 0 (n * i.size); simpa [aadd] using this
      refine ⟨.slice (some ⟨g, 0, none⟩) (n + m) c, w', ?_, hc _ _ w' (.inr ⟨g, _, fz, rfl, hb', hroom, hcm, ?_, ?_⟩) ?_ (.inl rfl)⟩
      · simp [Builtin.append_, run_underlying ht, sizeOf, typeInfo, hi, Builtin.lenOf, hroom, hfc, eadd, hr]
      · simp only [List.size_toArray, List.length_append, List.length_take, List.length_drop, Array.length_toList]
        simp only [Array.length_toList] at hle
        omega
      · simp only [Nat.add_zero]
        have e1 : (n + m) * i.size = (cur.toList.take (n * i.size) ++ cs.toList).length := by
          rw [List.length_append, htk, hlen, Array.length_toList, hm, Nat.add_mul]
        rw [e1, List.take_left, htk]
      · exact hk.mono (fun k _ e => by rw [e]; rfl)
    · obtain ⟨v', w', hr, ho, hgr⟩ := run_append_arg_grows (P := P) w st ty e i z size i.bytes ht hi hz hsize rfl hzs hsz ⟨g, 0, none⟩ n c xs hlen (fun j u hu => by
        rw [show (⟨g, 0, none⟩ : Addr).add j = ⟨g, j, none⟩ by have := aadd_mk g 0 j; simpa [aadd] using this, hg.cell, ← Array.getElem?_toList]
        rw [← htk, List.getElem?_take] at hu
        split at hu
        · exact hu
        · cases hu) ⟨a, 0, none⟩ m mc cs.toList (by simpa using hm) hnews (by omega) (by simp only [maxLen]; omega) hbytes
      refine ⟨v', w', hr, ?_⟩
      rcases ho.2 with ⟨_, h0⟩ | ⟨g', cap, cur', he, hbase, hg', hq1, hq2, hq3, hq4⟩
      · omega
      · subst he
        have hgs : g' = w.heap.size := by
          have hsz2 := hgr.size
          have h3 : g' < w'.heap.size := (Array.getElem?_eq_some_iff.1 hg').1
          have hr2 := run_append_grow (P := P) w st ty e i z ht hi hz ⟨g, 0, none⟩ n c xs (by rw [hlen, hsize]) (fun j u hu => by
            rw [show (⟨g, 0, none⟩ : Addr).add j = ⟨g, j, none⟩ by have := aadd_mk g 0 j; simpa [aadd] using this, hg.cell, ← Array.getElem?_toList]
            rw [← htk, List.getElem?_take] at hu
            split at hu
            · exact hu
            · cases hu) ⟨a, 0, none⟩ m mc cs.toList (by rw [hsize]; simpa using hm) hnews (by omega) (by omega) (growslice_fits (by omega) hbytes)
          rw [hr] at hr2
          cases hr2; rfl
        subst hgs
        exact hc _ _ w' (.inr ⟨w.heap.size, cur', (0, 0), rfl, Blk.toF hg', hq1, hq2, hq3, hq4⟩) ⟨hgr.os, hgr.tape, hgr.output, hgr.size, fun k hk hn => hgr.block k hk (fun e => by cases e)⟩ (.inr rfl)
/-- the bytes of a string, as a slice -/
theorem bytes_of {src dst : TypeId} (s : ByteArray) (hs : P.underlying src = some .string) (hd : P.underlying dst = some (.slice e)) (he : P.underlying e = some (.int .u8)) (hlen : s.size ≤ 140737488355328) {C : Value → World → Prop}
    (hc : ∀ c w', RowF w' e 1 (some ⟨w.heap.size, 0, none⟩) s.size c (s.data.toList.map fun b => Value.int .u8 (b.toNat : Int)) → Kp Nil w w' → C (.slice (some ⟨w.heap.size, 0, none⟩) s.size c) w') :
    RunV P (convert src dst (.string s)) w C := by
  have hr := Lib.run_convert_string_bytes (P := P) w src dst e s hs hd he
  refine ⟨_, _, hr, hc _ _ (.inr ⟨w.heap.size, Lib.bytesCells w e s, ((Lib.bytesCells w e s).size, (Lib.bytesCells w e s).size + 1), rfl, ⟨?_, .inr (Nat.le_refl _)⟩, grownCap_ge w s.size 0 e, grownCap_le_maxLen w s.size 0 e (by simp only [maxLen]; omega), ?_, ?_⟩) ?_⟩
  · unfold Lib.bytesWorld World.freeze
    rw [if_neg (by decide)]
    show ((w.heap.push _).modify w.heap.size _)[w.heap.size]? = _
    rw [Array.getElem?_modify, if_pos rfl, Array.getElem?_push, if_pos rfl]
    rfl
  · have := grownCap_ge w s.size 0 e
    simp [Lib.bytesCells]
    have h2 : s.data.size = s.size := rfl
    omega
  · have h2 : (s.data.toList.map fun b => Value.int .u8 (b.toNat : Int)).length = s.size := by rw [List.length_map, Array.length_toList]; rfl
    rw [Nat.mul_one]
    unfold Lib.bytesCells
    rw [Array.toList_append, Array.toList_map, List.take_append_of_le_length (Nat.le_of_eq h2.symm), List.take_of_length_le (Nat.le_of_eq h2)]
  · have hk : Kp Nil w (w.drew.alloc (.cells (Lib.bytesCells w e s) e)) := (Kp.refl Nil w).drew.alloc _
    refine ⟨hk.os, hk.tape, hk.output, ?_, fun b hb _ => ?_⟩
    · unfold Lib.bytesWorld World.freeze
      rw [if_neg (by decide)]
      simp [World.alloc, World.drew, -World.alloc_eq, -World.drew_eq]
    · unfold Lib.bytesWorld World.freeze
      rw [if_neg (by decide)]
      show ((w.heap.push _).modify w.heap.size _)[b]? = _
      rw [Array.getElem?_modify, if_neg (by omega), Array.getElem?_push, if_neg (by omega)]
end
end Go.Proofs.Ytboifenkbhfnfaa.V
