/- Slices that a structure owns: the kit's 'ownsRow' at base 0; append, delete, what stays. -/
import Derived.Test.YtboifenkbhfnfaaVcH
import Derived.Maps.AppendAt
set_option linter.all false
set_option maxRecDepth 100000
namespace Go.Proofs.Ytboifenkbhfnfaa.V
open Go
/-- the slice (p, n, c) holds the cells xs: n elements of 'size' cells of type e; it is the owner of its block -/
def Row (w : World) (e : TypeId) (size : Nat) (p : Option Addr) (n c : Nat) (xs : List Value) : Prop := w.ownsRow 0 e size (.slice p n c) n xs
def blk? (p : Option Addr) : Option Nat := p.map (·.block)
section
variable {P : Program} {w w' : World} {e : TypeId} {size n c : Nat} {p : Option Addr} {xs : List Value}
theorem ownBlock_slice (p : Option Addr) (n c : Nat) : (Value.slice p n c).ownBlock = blk? p := by cases p <;> rfl
theorem Row.nil (w : World) (e : TypeId) (size : Nat) : Row w e size none 0 0 [] := World.ownsRow_nil w 0 e size
theorem Row.len (h : Row w e size p n c xs) : xs.length = n * size := h.1
theorem Row.lt (h : Row w e size p n c xs) : ∀ k, blk? p = some k → k < w.heap.size := fun k hk => (World.ownsRow.lt h k (by rw [ownBlock_slice]; exact hk)).2
theorem Row.same (h : Row w e size p n c xs) (hs : ∀ k, blk? p = some k → w'.heap[k]? = w.heap[k]?) : Row w' e size p n c xs := by
  refine ⟨h.1, ?_⟩
  rcases h.2 with hn | ⟨g, cap, cur, he, hb, hgg, rest⟩
  · exact .inl hn
  · refine .inr ⟨g, cap, cur, he, hb, ?_, rest⟩
    cases he
    rw [hs g rfl]; exact hgg
/-- what a row's slice looks like -/
theorem Row.cases (h : Row w e size p n c xs) : (p = none ∧ n = 0 ∧ c = 0) ∨ ∃ g cur, p = some ⟨g, 0, none⟩ ∧ Blk w g cur e ∧ n ≤ c ∧ c ≤ maxLen ∧ cur.size = c * size ∧ cur.toList.take (n * size) = xs := by
  rcases h.2 with ⟨hn, h0⟩ | ⟨g, cap, cur, he, hb, hgg, h1, h2, h3, h4⟩
  · cases hn; exact .inl ⟨rfl, rfl, rfl⟩
  · cases he; exact .inr ⟨g, cur, rfl, hgg, h1, h2, h3, h4⟩
theorem Row.some (h : Row w e size p n c xs) (h0 : 0 < n) : ∃ g cur, p = some ⟨g, 0, none⟩ ∧ Blk w g cur e ∧ n ≤ c ∧ c ≤ maxLen ∧ cur.size = c * size ∧ cur.toList.take (n * size) = xs := by
  rcases h.cases with ⟨_, rfl, _⟩ | h
  · omega
  · exact h
theorem Row.of {g : Nat} {cur : Array Value} (hb : Blk w g cur e) (hn : n ≤ c) (hc : c ≤ maxLen) (hs : cur.size = c * size) (ht : cur.toList.take (n * size) = xs) : Row w e size (Option.some ⟨g, 0, none⟩) n c xs := by
  refine ⟨?_, .inr ⟨g, c, cur, rfl, Nat.zero_le _, hb, hn, hc, hs, ht⟩⟩
  rw [← ht, List.length_take, Array.length_toList, hs]
  exact Nat.min_eq_left (Nat.mul_le_mul_right _ hn)
theorem Row.cell {g : Nat} (h : Row w e size (Option.some ⟨g, 0, none⟩) n c xs) {i : Nat} {v : Value} (hv : xs[i]? = Option.some v) : w.cell? ⟨g, i, none⟩ = Option.some v := by
  have := World.ownsRow.cells (g := g) h rfl i v hv
  rwa [show (⟨g, 0, none⟩ : Addr).add i = ⟨g, i, none⟩ by have := aadd_mk g 0 i; simpa [aadd] using this] at this
theorem ldInt_r {g i : Nat} (h : Row w e size (Option.some ⟨g, 0, none⟩) n c xs) {k : IntKind} {x : Int} (hv : xs[i]? = Option.some (.int k x)) {C : Int → Prop} (hc : C x) : ldInt w ⟨g, i, none⟩ k C := ⟨x, h.cell hv, hc⟩
theorem ldStr_r {g i : Nat} (h : Row w e size (Option.some ⟨g, 0, none⟩) n c xs) {x : ByteArray} (hv : xs[i]? = Option.some (.string x)) {C : ByteArray → Prop} (hc : C x) : ldStr w ⟨g, i, none⟩ C := ⟨x, h.cell hv, hc⟩
theorem ldPtr_r {g i : Nat} (h : Row w e size (Option.some ⟨g, 0, none⟩) n c xs) {x : Option Addr} (hv : xs[i]? = Option.some (.pointer x)) {C : Option Addr → Prop} (hc : C x) : ldPtr w ⟨g, i, none⟩ C := ⟨x, h.cell hv, hc⟩
/-- append of cells that lie somewhere -/
theorem Row.append' (h : Row w e size p n c xs) {st ty : TypeId} {i : TypeInfo} {z : Value} (ht : P.underlying st = Option.some (.slice e)) (hi : P.info? e = Option.some i) (hz : i.zero = Option.some z)
    (hsize : i.size = size) (hzs : z.cells.size = size) (hsz : 0 < size) {a m mc : Nat} {news : List Value} (hb : ∀ j u, news[j]? = Option.some u → w.cell? ⟨a, j, none⟩ = Option.some u) (hm : news.length = m * size) (h1 : ∀ u ∈ news, u.oneCell' = true)
    (hbytes : (n + m) * i.bytes ≤ 140737488355328) (h63 : n + m ≤ 140737488355328) {C : Value → World → Prop}
    (hc : ∀ p' c' w', Row w' e size p' (n + m) c' (xs ++ news) → Kp (fun k => blk? p = Option.some k) w w' → (blk? p' = blk? p ∨ blk? p' = Option.some w.heap.size) → C (.slice p' (n + m) c') w') :
    RunV P (Builtin.append_ #[st, st] ty #[.slice p n c, .slice (Option.some ⟨a, 0, none⟩) m mc]) w C := by
  obtain ⟨v', w', hr, ho, hg, -, hat⟩ := run_append_own_at (P := P) w 0 st ty e i z size i.bytes ht hi hz hsize rfl hzs hsz (.slice p n c) n xs h ⟨a, 0, none⟩ m mc news hm
    (fun j u hu => by
      rw [show (⟨a, 0, none⟩ : Addr).add j = ⟨a, j, none⟩ by have := aadd_mk a 0 j; simpa [aadd] using this]
      exact hb j u hu) h1 (by simp only [maxLen]; omega) hbytes (Nat.zero_le _)
  refine ⟨v', w', hr, ?_⟩
  have key : ∃ p' c', v' = .slice p' (n + m) c' := by
    rcases ho.2 with ⟨h1, h2⟩ | ⟨g, cap, cur, he, _⟩
    · exact ⟨none, 0, by rw [h1, h2]⟩
    · exact ⟨_, _, he⟩
  obtain ⟨p', c', rfl⟩ := key
  rw [ownBlock_slice, ownBlock_slice] at hat
  rw [ownBlock_slice] at hg
  exact hc p' c' w' ho ⟨hg.os, hg.tape, hg.output, hg.size, fun k hk hn => hg.block k hk (fun e => hn e.symm)⟩ hat
/-- append of what lies in a block that is known -/
theorem Row.append (h : Row w e size p n c xs) {st ty : TypeId} {i : TypeInfo} {z : Value} (ht : P.underlying st = Option.some (.slice e)) (hi : P.info? e = Option.some i) (hz : i.zero = Option.some z)
    (hsize : i.size = size) (hzs : z.cells.size = size) (hsz : 0 < size) {a m mc : Nat} {cs : Array Value} {te : TypeId} (hb : Blk w a cs te) (hm : cs.size = m * size) (h1 : ∀ u ∈ cs.toList, u.oneCell' = true)
    (hbytes : (n + m) * i.bytes ≤ 140737488355328) (h63 : n + m ≤ 140737488355328) {C : Value → World → Prop}
    (hc : ∀ p' c' w', Row w' e size p' (n + m) c' (xs ++ cs.toList) → Kp (fun k => blk? p = Option.some k) w w' → (blk? p' = blk? p ∨ blk? p' = Option.some w.heap.size) → C (.slice p' (n + m) c') w') :
    RunV P (Builtin.append_ #[st, st] ty #[.slice p n c, .slice (Option.some ⟨a, 0, none⟩) m mc]) w C :=
  h.append' ht hi hz hsize hzs hsz (fun j u hu => by rw [hb.cell]; simpa using hu) (by simpa using hm) h1 hbytes h63 hc
/-- append of another row -/
theorem Row.appendRow (h : Row w e size p n c xs) {st ty : TypeId} {i : TypeInfo} {z : Value} (ht : P.underlying st = Option.some (.slice e)) (hi : P.info? e = Option.some i) (hz : i.zero = Option.some z)
    (hsize : i.size = size) (hzs : z.cells.size = size) (hsz : 0 < size) {q : Option Addr} {m mc : Nat} {ys : List Value} {te : TypeId} (hq : Row w te size q m mc ys) (h1 : ∀ u ∈ ys, u.oneCell' = true)
    (hbytes : (n + m) * i.bytes ≤ 140737488355328) (h63 : n + m ≤ 140737488355328) {C : Value → World → Prop}
    (hc : ∀ p' c' w', Row w' e size p' (n + m) c' (xs ++ ys) → Kp (fun k => blk? p = Option.some k) w w' → (blk? p' = blk? p ∨ blk? p' = Option.some w.heap.size) → C (.slice p' (n + m) c') w') :
    RunV P (Builtin.append_ #[st, st] ty #[.slice p n c, .slice q m mc]) w C := by
  rcases hq.cases with ⟨rfl, rfl, rfl⟩ | ⟨g, cur, rfl, hb, hmc, _, _, htk⟩
  · have hy : ys = [] := List.eq_nil_of_length_eq_zero (by rw [hq.len]; simp)
    subst hy
    have hcap : n ≤ c := by
      rcases h.cases with ⟨_, rfl, rfl⟩ | ⟨_, _, _, _, hnc, _⟩
      · exact Nat.le_refl _
      · exact hnc
    refine ⟨.slice p n c, w, ?_, hc p c w (by simpa using h) (Kp.refl _ _) (.inl rfl)⟩
    rcases h.cases with ⟨rfl, rfl, rfl⟩ | ⟨g, cur, rfl, _, hnc, _⟩
    · simp [Builtin.append_, run_underlying ht, sizeOf, typeInfo, hi, Builtin.lenOf, Builtin.firstCells, loadCells, loadCellsFrom]
    · simp [Builtin.append_, run_underlying ht, sizeOf, typeInfo, hi, Builtin.lenOf, Builtin.firstCells, loadCells, loadCellsFrom, storeCells, hnc]
  · exact h.append' ht hi hz hsize hzs hsz (fun j u hu => hq.cell hu) hq.len h1 hbytes h63 hc
/-- slices.Delete's two operations -/
theorem setRow_kp {w : World} {g : Nat} {cur cs : Array Value} {t : TypeId} (hb : Blk w g cur t) : Blk (w.setRow g cs) g cs t ∧ Kp (One g) w (w.setRow g cs) ∧ (w.setRow g cs).heap.size = w.heap.size :=
  ⟨setRow_heap w g cur cs t _ hb, ⟨rfl, rfl, rfl, by simp [World.setRow], fun i _ hi => setRow_other w g i cs hi⟩, by simp [World.setRow]⟩
theorem Row.delete (h : Row w e size p n c xs) {st ty : TypeId} {i : TypeInfo} {z : Value} (ht : P.underlying st = Option.some (.slice e)) (hi : P.info? e = Option.some i) (hz : ∀ W : World, (zeroValue e).run P W = .ok z W)
    (hsize : i.size = size) (hzs : z.cells.size = size) (hsz : 0 < size) {j : Nat} (hj : j < n) (h1 : ∀ u ∈ xs, u.oneCell' = true) (hz1 : ∀ u ∈ z.cells.toList, u.oneCell' = true) {C : Value → World → Prop}
    (hc : ∀ g w', p = Option.some ⟨g, 0, none⟩ → Row w' e size p (n - 1) c (xs.take (j * size) ++ xs.drop ((j + 1) * size)) → Kp (One g) w w' → w'.heap.size = w.heap.size → C (.slice p (n - 1) c) w') :
    ∃ g w1, p = Option.some ⟨g, 0, none⟩ ∧ n ≤ c ∧
      (∀ a : Addr, (j + 1 < n → a = ⟨g, (j + 1) * size, none⟩) → (Builtin.append_ #[st, st] ty #[.slice p j c, .slice (Option.some a) (n - (j + 1)) (c - (j + 1))]).run P w = .ok (.slice p (n - 1) c) w1) ∧
      ∀ ty', RunV P (Builtin.clear_ #[st] ty' #[.slice (slAdr p c (n - 1) size) 1 (c - (n - 1))]) w1 (fun _ w2 => C (.slice p (n - 1) c) w2) := by
  subst hsize
  obtain ⟨g, cur, rfl, hb, hnc, hcm, hcs, htk⟩ := h.some (by omega)
  have hlen : xs.length = n * i.size := h.len
  have hcurlen : cur.toList.length = c * i.size := by rw [Array.length_toList, hcs]
  have e1 : j * i.size + i.size ≤ n * i.size := by rw [← Nat.succ_mul]; exact Nat.mul_le_mul_right _ hj
  have e2 : n * i.size ≤ c * i.size := Nat.mul_le_mul_right _ hnc
  have e3 : (j + 1) * i.size = j * i.size + i.size := Nat.succ_mul ..
  have e4 : (n - (j + 1)) * i.size = n * i.size - (j * i.size + i.size) := by rw [Nat.sub_mul, e3]
  have e5 : (n - 1) * i.size = n * i.size - i.size := by rw [Nat.sub_mul, Nat.one_mul]
  have hdl : (xs.drop ((j + 1) * i.size)).length = (n - (j + 1)) * i.size := by rw [List.length_drop, hlen, e3, e4]
  have hrun := fun (a : Addr) (ha : j + 1 < n → a = ⟨g, (j + 1) * i.size, none⟩) => run_append_room (P := P) w st ty e i ht hi g j c cur hb a (n - (j + 1)) (c - (j + 1)) (xs.drop ((j + 1) * i.size)) hdl
    (fun q u hu => by
      rw [ha (by
        refine Classical.byContradiction fun hx => ?_
        rw [show n - (j + 1) = 0 by omega, Nat.zero_mul] at hdl
        rw [List.eq_nil_of_length_eq_zero hdl] at hu
        simp at hu)]
      rw [show (⟨g, (j + 1) * i.size, none⟩ : Addr).add q = ⟨g, (j + 1) * i.size + q, none⟩ by have := aadd_mk g ((j + 1) * i.size) q; simpa [aadd] using this]
      refine h.cell ?_
      rw [List.getElem?_drop] at hu; exact hu)
    (fun u hu => h1 u (List.mem_of_mem_drop hu)) (by omega) (by rw [hdl, e4, hcs]; omega)
  rw [show j + (n - (j + 1)) = n - 1 by omega] at hrun
  refine ⟨g, _, rfl, hnc, hrun, fun ty' => ?_⟩
  obtain ⟨hb1, hk1, hs1⟩ := setRow_kp (cs := (cur.toList.take (j * i.size) ++ xs.drop ((j + 1) * i.size) ++ cur.toList.drop (j * i.size + (xs.drop ((j + 1) * i.size)).length)).toArray) hb
  generalize hcs1 : (cur.toList.take (j * i.size) ++ xs.drop ((j + 1) * i.size) ++ cur.toList.drop (j * i.size + (xs.drop ((j + 1) * i.size)).length)).toArray = cs1 at hb1 hk1 hs1 hrun ⊢
  generalize w.setRow g cs1 = w1 at hb1 hk1 hs1 hrun ⊢
  have hcs1l : cs1.toList.length = c * i.size := by
    rw [← hcs1]
    simp only [List.length_append, List.length_take, List.length_drop, hcurlen, hdl]
    omega
  have hz' : (Builtin.zeroCells z.cells 1).toList = z.cells.toList := by
    simp only [Builtin.zeroCells, Nat.one_mul]
    refine List.ext_getElem (by simp) fun q q1 q2 => ?_
    have q3 : q < z.cells.size := by simpa using q2
    simp [Nat.mod_eq_of_lt q3, getElem!_pos z.cells q q3]
  have hst := run_storeCells_at P g ((n - 1) * i.size) e z.cells.toList 0 cs1 w1 hb1 (by rw [Array.length_toList, hzs, ← Array.length_toList, hcs1l, e5]; omega) hz1
  obtain ⟨hb2, hk2, hs2⟩ := setRow_kp (cs := (cs1.toList.take ((n - 1) * i.size + 0) ++ z.cells.toList ++ cs1.toList.drop ((n - 1) * i.size + 0 + z.cells.toList.length)).toArray) hb1
  have hadr : slAdr (Option.some ⟨g, 0, none⟩) c (n - 1) i.size = Option.some ⟨g, (n - 1) * i.size, none⟩ := by
    unfold slAdr
    rw [if_neg (by omega)]
    have := aadd_mk g 0 ((n - 1) * i.size)
    simpa [aadd] using this
  refine ⟨.tuple #[], _, by rw [hadr]; simp [Builtin.clear_, run_underlying ht, hz, hz', hst], hc g _ rfl (Row.of hb2 (by omega) hcm ?_ ?_) ⟨hk2.os.trans hk1.os, hk2.tape.trans hk1.tape, hk2.output.trans hk1.output, by omega, fun k hk hn => (hk2.block k (by omega) hn).trans (hk1.block k hk hn)⟩ (by omega)⟩
  · simp only [List.size_toArray, List.length_append, List.length_take, List.length_drop, hcs1l, Array.length_toList, hzs]
    omega
  · simp only [Nat.add_zero]
    rw [List.take_append_of_le_length (by simp only [List.length_append, List.length_take, hcs1l]; omega), List.take_append_of_le_length (by simp only [List.length_take, hcs1l]; omega), List.take_take, Nat.min_self, ← hcs1]
    simp only []
    rw [List.take_append_of_le_length (by simp only [List.length_append, List.length_take, hcurlen, hdl]; omega), List.take_of_length_le (by simp only [List.length_append, List.length_take, hcurlen, hdl]; omega)]
    congr 1
    rw [← htk, List.take_take, Nat.min_eq_left (by omega)]
end
end Go.Proofs.Ytboifenkbhfnfaa.V
