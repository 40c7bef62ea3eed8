/- decree: contracts: New, Chosen, Begun, Letters, Slot. -/
import Derived.Test.YtkjfhadafefnmaaDecJ
import Derived.Laws.MakeOwn
set_option linter.all false
namespace Go.Proofs.Ytkjfhadafefnmaa
open Go
set_option linter.unusedSimpArgs false
def nodesOf (n : Int) : Nat := (V.imin (V.imax n 1) 5).toNat
theorem nodesOf_eq (n : Int) : V.imin (V.imax n 1) 5 = (nodesOf n : Int) ∧ 1 ≤ nodesOf n ∧ nodesOf n ≤ 5 := by
  unfold nodesOf V.imin V.imax
  split <;> split <;> omega
def DecS.new (n : Nat) : DecS := ⟨List.replicate n ⟨0, 0, ⟨#[]⟩⟩, [], [], [], [], []⟩
theorem made_slots (n : Nat) : madeCells (Value.agg #[.int .i64 0, .int .i64 0, .string ⟨#[]⟩]).cells (n * 3) = ((DecS.new n).slots.flatMap SlotS.cells).toArray := by
  have hl : (DecS.new n).slots.length = n := by simp [DecS.new]
  refine Array.ext (by rw [size_madeCells, flat_size, hl]) fun i h1 h2 => ?_
  rw [size_madeCells] at h1
  have f := flat_get SlotS.cells 3 (fun _ => rfl) (DecS.new n).slots (i / 3) (i % 3) ⟨0, 0, ⟨#[]⟩⟩ (Nat.mod_lt _ (by decide)) (by simp only [DecS.new, List.getElem?_replicate]; rw [if_pos (by omega)])
  rw [show i / 3 * 3 + i % 3 = i by omega] at f
  have e : (madeCells (Value.agg #[.int .i64 0, .int .i64 0, .string ⟨#[]⟩]).cells (n * 3))[i]'(by rw [size_madeCells]; exact h1) = #[Value.int .i64 0, .int .i64 0, .string ⟨#[]⟩][i % 3]! := by simp [madeCells, Value.cells]
  rw [e]
  have f2 : ((DecS.new n).slots.flatMap SlotS.cells).toArray[i]? = (SlotS.cells ⟨0, 0, ⟨#[]⟩⟩)[i % 3]? := by simpa using f
  rw [Array.getElem?_eq_getElem h2] at f2
  obtain h | h | h : i % 3 = 0 ∨ i % 3 = 1 ∨ i % 3 = 2 := by omega
  all_goals (rw [h] at f2 ⊢; exact (Option.some.inj f2).symm)
theorem new_ok (n : Nat) (h1 : 1 ≤ n) (h5 : n ≤ 5) : (DecS.new n).Ok where
  n1 := by simpa [DecS.new] using h1
  n5 := by simpa [DecS.new] using h5
  letters := by simp [DecS.new]
  begun := by simp [DecS.new]
  chosen := by simp [DecS.new]
  fresh := by simp [DecS.new]
  pok := by simp [DecS.new]
  plen := by simp [DecS.new]
  tlen := by simp [DecS.new]
  let_ok := by simp [DecS.new]
  tok := by simp [DecS.new]
theorem new_spec (n : Int) (w : World) (R : Value → World → Prop)
    (hR : ∀ g d w', Rep g w' d (DecS.new (nodesOf n)) → V.Kp V.Nil w w' → (∀ k, k < w.heap.size → g.own k = .free) → R (ptrV d) w') :
    V.CallsR Try.prog 7 #[.int .i64 n] w R := by
  obtain ⟨e, n1, n5⟩ := nodesOf_eq n
  refine V.calls_of_fnVC Try.func7 ?_
  rw [vc_decree_New, e]
  refine ⟨_, _, run_makeSlice (P := Try.prog) w 38 slotT Try.t34 (.agg #[.int .i64 0, .int .i64 0, .string ⟨#[]⟩]) Try.underlying38 (by kernel_rfl) rfl .i64 .i64 _ _ (by omega) (Int.le_refl _) ?_ ?_ (by omega), ?_⟩
  · show nodesOf n * 3 ≤ _; omega
  · show 32 * (nodesOf n : Int) ≤ _; omega
  simp only [V.nptr_eq, V.vBool_mk, V.vInt_mk, V.vStr_mk, V.vPtr_mk, V.vMap_mk, V.vSlice_mk, V.bnot_eq, V.nilCk_mk, V.aadd_mk, V.size_alloc, V.size_drew, V.size_setCell, V.nmul_nat, V.and_assoc', V.true_and', V.ifB_t, V.ifB_f, V.isNil_some, V.isNil_none, Bool.not_true, Bool.not_false, Nat.zero_add, Nat.add_zero]
  have em := made_slots (nodesOf n)
  rw [show (nodesOf n : Int).toNat * Try.t34.size = nodesOf n * 3 from rfl, em]
  have hlen : (DecS.new (nodesOf n)).slots.length = nodesOf n := by simp [DecS.new]
  refine hR ⟨fun k => if k = w.heap.size then .slots else if k = w.heap.size + 1 then .props else if k = w.heap.size + 2 then .taken else if k = w.heap.size + 3 then .dec else .free, w.heap.size, w.heap.size + 1, w.heap.size + 2, none, 0, none, 0, none, 0, fun _ => 0⟩ _ _ ?_ ?_ ?_
  · refine ⟨fun k hk => ?_, ?_, ?_, ?_, ?_, ?_, ?_, ?_, ?_, ?_, ?_, ?_, ?_, ?_, ?_, ?_, ?_⟩
    · simp only [V.size_alloc, V.size_drew, V.size_setCell]
      simp only at hk
      split at hk
      · omega
      · split at hk
        · omega
        · split at hk
          · omega
          · split at hk
            · omega
            · exact absurd rfl hk
    · simp only [Gh.cells, hlen]
      exact V.Blk.new' (by simp only [V.size_alloc, V.size_drew, V.size_setCell])
    · simp only; rw [if_neg (by omega), if_neg (by omega), if_neg (by omega)]; simp
    · repeat (first | with_reducible assumption | ((with_reducible apply V.Blk.new'); first | with_reducible rfl | (simp only [V.size_alloc, V.size_drew, V.size_setCell]; done)) | with_reducible apply V.Blk.set | ((with_reducible apply V.Blk.set_ne); (case hne => (try simp only [ne_eq]); omega)) | with_reducible apply V.Blk.alloc | with_reducible apply V.Blk.drew)
    · simp
    · refine V.MapI.same (w := (w.alloc (.cells ((DecS.new (nodesOf n)).slots.flatMap SlotS.cells).toArray slotT)).alloc (.map #[] 0)) ?_ ?_
      · have := V.MapI.made Try.prog intT (w.alloc (.cells ((DecS.new (nodesOf n)).slots.flatMap SlotS.cells).toArray slotT))
        rw [V.size_alloc] at this
        exact this
      · rw [V.heap_alloc, if_neg (by simp only [V.size_alloc, V.size_drew, V.size_setCell]; omega), V.heap_alloc, if_neg (by simp only [V.size_alloc, V.size_drew, V.size_setCell]; omega)]
    · simp
    · intro p hp; cases hp
    · intro p hp; cases hp
    · exact V.Row.nil _ _ _
    · intro k hk; cases hk
    · exact V.Row.nil _ _ _
    · intro k hk; cases hk
    · exact V.Row.nil _ _ _
    · intro k hk; cases hk
    · refine V.MapI.same (w := ((w.alloc (.cells ((DecS.new (nodesOf n)).slots.flatMap SlotS.cells).toArray slotT)).alloc (.map #[] 0)).alloc (.map #[] 0)) ?_ ?_
      · have := V.MapI.made Try.prog intT ((w.alloc (.cells ((DecS.new (nodesOf n)).slots.flatMap SlotS.cells).toArray slotT)).alloc (.map #[] 0))
        rw [V.size_alloc, V.size_alloc] at this
        exact this
      · rw [V.heap_alloc, if_neg (by simp only [V.size_alloc, V.size_drew, V.size_setCell]; omega)]
    · simp
  · repeat (first | with_reducible assumption | with_reducible exact V.Kp.refl _ _ | ((with_reducible apply V.Kp.set); (case hp => first | exact .inl rfl | exact .inl (by assumption) | exact .inr (by (try simp only [V.size_alloc, V.size_drew, V.size_setCell]); omega))) | with_reducible apply V.Kp.alloc | with_reducible apply V.Kp.drew)
  · intro k hk
    simp only
    rw [if_neg (by omega), if_neg (by omega), if_neg (by omega), if_neg (by omega)]
theorem strs_one (l : List ByteArray) : ∀ u ∈ l.map strV, u.oneCell' = true := by
  intro u hu
  obtain ⟨x, _, rfl⟩ := List.mem_map.1 hu
  rfl
/-- a row of strings -/
abbrev StrRow (w : World) (p : Option Addr) (n c : Nat) (l : List ByteArray) : Prop := V.Row w strT 1 p n c (l.map strV)
theorem appStr {w : World} {p q : Option Addr} {n c m mc : Nat} {l k : List ByteArray} (h : StrRow w p n c l) (hq : StrRow w q m mc k) (hb : n + m ≤ 4000000) {C : Value → World → Prop}
    (hc : ∀ p' c' w', StrRow w' p' (n + m) c' (l ++ k) → V.Kp (fun k => V.blk? p = some k) w w' → (V.blk? p' = V.blk? p ∨ V.blk? p' = some w.heap.size) → C (.slice p' (n + m) c') w') :
    V.RunV Try.prog (Builtin.append_ #[strsT, strsT] strsT #[.slice p n c, .slice q m mc]) w C := by
  refine V.Row.appendRow h Try.underlying29 info_str (z := Try.t9.zero.getD .nilIface) rfl rfl rfl (by decide) hq (strs_one k) ?_ (by omega) ?_
  · show (n + m) * 16 ≤ _; omega
  · intro p' c' w' hr
    exact hc p' c' w' (by rw [StrRow, List.map_append]; exact hr)
theorem clone_spec {w : World} {p : Option Addr} {n c : Nat} {l : List ByteArray} (h : StrRow w p n c l) (hb : n ≤ 4000000) (R : Value → World → Prop)
    (hR : ∀ p' c' w', StrRow w' p' n c' l → V.Kp V.Nil w w' → (∀ k, V.blk? p' = some k → w.heap.size ≤ k) → R (.slice p' n c') w') :
    V.CallsR Try.prog 22 #[.slice p n c] w R := by
  refine V.calls_of_fnVC Try.func22 ?_
  rw [vc_slices_Clone]
  refine V.ifB_of (fun h1 => ?_) (fun h1 => ?_) <;> simp only [V.ilt_t, V.ilt_f, V.ile_t, V.ile_f, V.igt_t, V.igt_f, V.ige_t, V.ige_f, V.ieq_t, V.ieq_f, V.ine_t, V.ine_f, V.isNil_t, V.isNil_f, V.bnot_eq, Bool.not_eq_true', Bool.not_eq_false'] at h1
  · subst h1
    rcases h.cases with ⟨_, rfl, rfl⟩ | ⟨g, cur, hp, _⟩
    · exact hR none 0 w h (V.Kp.refl _ _) (fun k hk => by cases hk)
    · cases hp
  · simp only [V.nptr_eq, V.vBool_mk, V.vInt_mk, V.vStr_mk, V.vPtr_mk, V.vMap_mk, V.vSlice_mk, V.bnot_eq, V.nilCk_mk, V.aadd_mk, V.size_alloc, V.size_drew, V.size_setCell, V.nmul_nat, V.and_assoc', V.true_and', V.ifB_t, V.ifB_f, V.isNil_some, V.isNil_none, Bool.not_true, Bool.not_false, Nat.zero_add, Nat.add_zero]
    have h0 : StrRow (w.alloc (.cells #[] strT)) (some ⟨w.heap.size, 0, none⟩) 0 0 [] := V.Row.of (cur := #[]) (V.Blk.new w #[] strT) (Nat.le_refl _) (by decide) rfl rfl
    have h2 : StrRow (w.alloc (.cells #[] strT)) p n c l := h.same fun k hk => by rw [V.heap_alloc, if_neg (by have := h.lt k hk; omega)]
    refine appStr h0 h2 (by omega) ?_
    intro p' c' w' hr hk hat
    simp only [V.nptr_eq, V.vBool_mk, V.vInt_mk, V.vStr_mk, V.vPtr_mk, V.vMap_mk, V.vSlice_mk, V.bnot_eq, V.nilCk_mk, V.aadd_mk, V.size_alloc, V.size_drew, V.size_setCell, V.nmul_nat, V.and_assoc', V.true_and', V.ifB_t, V.ifB_f, V.isNil_some, V.isNil_none, Bool.not_true, Bool.not_false, Nat.zero_add, Nat.add_zero]
    refine hR p' c' w' (by rw [Nat.zero_add] at hr; exact hr) (V.Kp.then (V.Kp.alloc (V.Kp.refl _ _) _) hk fun i hi e => ?_) fun k hk2 => ?_
    · have e : w.heap.size = i := Option.some.inj e
      omega
    · rcases hat with e | e
      · rw [e] at hk2; cases hk2; exact Nat.le_refl _
      · rw [e] at hk2; cases hk2; simp only [V.size_alloc, V.size_drew, V.size_setCell]; omega
theorem chosen_spec {g : Gh} {w : World} {d : Nat} {S : DecS} (h : Rep g w d S) (ok : S.Ok) (R : Value → World → Prop)
    (hR : ∀ p' c' w', StrRow w' p' S.chosen.length c' S.chosen → V.Kp V.Nil w w' → (∀ k, V.blk? p' = some k → w.heap.size ≤ k) → R (.slice p' S.chosen.length c') w') :
    V.CallsR Try.prog 10 #[ptrV d] w R := by
  refine V.calls_of_fnVC Try.func10 ?_
  rw [vc_decree_Decree_Chosen]
  simp only [V.nptr_eq, V.vBool_mk, V.vInt_mk, V.vStr_mk, V.vPtr_mk, V.vMap_mk, V.vSlice_mk, V.bnot_eq, V.nilCk_mk, V.aadd_mk, V.size_alloc, V.size_drew, V.size_setCell, V.nmul_nat, V.and_assoc', V.true_and', V.ifB_t, V.ifB_f, V.isNil_some, V.isNil_none, Bool.not_true, Bool.not_false, Nat.zero_add, Nat.add_zero]
  have hd := h.dec
  repeat (first | ((with_reducible apply V.ldInt_b); (· repeat (first | with_reducible assumption | ((with_reducible apply V.Blk.new'); first | with_reducible rfl | (simp only [V.size_alloc, V.size_drew, V.size_setCell]; done)) | with_reducible apply V.Blk.set | ((with_reducible apply V.Blk.set_ne); (case hne => (try simp only [ne_eq]); omega)) | with_reducible apply V.Blk.alloc | with_reducible apply V.Blk.drew)); (· first | with_reducible assumption | rfl)) | ((with_reducible apply V.ldStr_b); (· repeat (first | with_reducible assumption | ((with_reducible apply V.Blk.new'); first | with_reducible rfl | (simp only [V.size_alloc, V.size_drew, V.size_setCell]; done)) | with_reducible apply V.Blk.set | ((with_reducible apply V.Blk.set_ne); (case hne => (try simp only [ne_eq]); omega)) | with_reducible apply V.Blk.alloc | with_reducible apply V.Blk.drew)); (· first | with_reducible assumption | rfl)) | ((with_reducible apply V.ldPtr_b); (· repeat (first | with_reducible assumption | ((with_reducible apply V.Blk.new'); first | with_reducible rfl | (simp only [V.size_alloc, V.size_drew, V.size_setCell]; done)) | with_reducible apply V.Blk.set | ((with_reducible apply V.Blk.set_ne); (case hne => (try simp only [ne_eq]); omega)) | with_reducible apply V.Blk.alloc | with_reducible apply V.Blk.drew)); (· first | with_reducible assumption | rfl)) | ((with_reducible apply V.ldSlice_b); (· repeat (first | with_reducible assumption | ((with_reducible apply V.Blk.new'); first | with_reducible rfl | (simp only [V.size_alloc, V.size_drew, V.size_setCell]; done)) | with_reducible apply V.Blk.set | ((with_reducible apply V.Blk.set_ne); (case hne => (try simp only [ne_eq]); omega)) | with_reducible apply V.Blk.alloc | with_reducible apply V.Blk.drew)); (· first | with_reducible assumption | rfl)) | ((with_reducible apply V.ldMap_b); (· repeat (first | with_reducible assumption | ((with_reducible apply V.Blk.new'); first | with_reducible rfl | (simp only [V.size_alloc, V.size_drew, V.size_setCell]; done)) | with_reducible apply V.Blk.set | ((with_reducible apply V.Blk.set_ne); (case hne => (try simp only [ne_eq]); omega)) | with_reducible apply V.Blk.alloc | with_reducible apply V.Blk.drew)); (· first | with_reducible assumption | rfl)) | ((with_reducible apply V.ldBool_b); (· repeat (first | with_reducible assumption | ((with_reducible apply V.Blk.new'); first | with_reducible rfl | (simp only [V.size_alloc, V.size_drew, V.size_setCell]; done)) | with_reducible apply V.Blk.set | ((with_reducible apply V.Blk.set_ne); (case hne => (try simp only [ne_eq]); omega)) | with_reducible apply V.Blk.alloc | with_reducible apply V.Blk.drew)); (· first | with_reducible assumption | rfl)) | ((with_reducible apply V.stCell_b); (· repeat (first | with_reducible assumption | ((with_reducible apply V.Blk.new'); first | with_reducible rfl | (simp only [V.size_alloc, V.size_drew, V.size_setCell]; done)) | with_reducible apply V.Blk.set | ((with_reducible apply V.Blk.set_ne); (case hne => (try simp only [ne_eq]); omega)) | with_reducible apply V.Blk.alloc | with_reducible apply V.Blk.drew)); (· first | exact Nat.le_of_ble_eq_true rfl | ((try simp only [Array.size_setIfInBounds]); omega)); (· rfl)) | ((with_reducible refine ⟨?_, ?_⟩); (· first | ((with_reducible apply V.hasCell_b); (· repeat (first | with_reducible assumption | ((with_reducible apply V.Blk.new'); first | with_reducible rfl | (simp only [V.size_alloc, V.size_drew, V.size_setCell]; done)) | with_reducible apply V.Blk.set | ((with_reducible apply V.Blk.set_ne); (case hne => (try simp only [ne_eq]); omega)) | with_reducible apply V.Blk.alloc | with_reducible apply V.Blk.drew)); (· first | with_reducible assumption | rfl)) | (simp only [V.inX, V.inR, V.inz, V.ige0, V.zi]; omega))) | simp only [V.nptr_eq, V.vBool_mk, V.vInt_mk, V.vStr_mk, V.vPtr_mk, V.vMap_mk, V.vSlice_mk, V.bnot_eq, V.nilCk_mk, V.aadd_mk, V.size_alloc, V.size_drew, V.size_setCell, V.nmul_nat, V.and_assoc', V.true_and', V.ifB_t, V.ifB_f, V.isNil_some, V.isNil_none, Bool.not_true, Bool.not_false, Nat.zero_add, Nat.add_zero])
  refine clone_spec h.chosen (by have := ok.chosen; omega) _ ?_
  intro p' c' w' hr hk hn
  simp only [V.nptr_eq, V.vBool_mk, V.vInt_mk, V.vStr_mk, V.vPtr_mk, V.vMap_mk, V.vSlice_mk, V.bnot_eq, V.nilCk_mk, V.aadd_mk, V.size_alloc, V.size_drew, V.size_setCell, V.nmul_nat, V.and_assoc', V.true_and', V.ifB_t, V.ifB_f, V.isNil_some, V.isNil_none, Bool.not_true, Bool.not_false, Nat.zero_add, Nat.add_zero]
  exact hR p' c' w' hr hk hn
theorem begun_spec {g : Gh} {w : World} {d : Nat} {S : DecS} (h : Rep g w d S) (ok : S.Ok) (R : Value → World → Prop)
    (hR : ∀ p' c' w', StrRow w' p' S.begun.length c' S.begun → V.Kp V.Nil w w' → (∀ k, V.blk? p' = some k → w.heap.size ≤ k) → R (.slice p' S.begun.length c') w') :
    V.CallsR Try.prog 11 #[ptrV d] w R := by
  refine V.calls_of_fnVC Try.func11 ?_
  rw [vc_decree_Decree_Begun]
  simp only [V.nptr_eq, V.vBool_mk, V.vInt_mk, V.vStr_mk, V.vPtr_mk, V.vMap_mk, V.vSlice_mk, V.bnot_eq, V.nilCk_mk, V.aadd_mk, V.size_alloc, V.size_drew, V.size_setCell, V.nmul_nat, V.and_assoc', V.true_and', V.ifB_t, V.ifB_f, V.isNil_some, V.isNil_none, Bool.not_true, Bool.not_false, Nat.zero_add, Nat.add_zero]
  have hd := h.dec
  repeat (first | ((with_reducible apply V.ldInt_b); (· repeat (first | with_reducible assumption | ((with_reducible apply V.Blk.new'); first | with_reducible rfl | (simp only [V.size_alloc, V.size_drew, V.size_setCell]; done)) | with_reducible apply V.Blk.set | ((with_reducible apply V.Blk.set_ne); (case hne => (try simp only [ne_eq]); omega)) | with_reducible apply V.Blk.alloc | with_reducible apply V.Blk.drew)); (· first | with_reducible assumption | rfl)) | ((with_reducible apply V.ldStr_b); (· repeat (first | with_reducible assumption | ((with_reducible apply V.Blk.new'); first | with_reducible rfl | (simp only [V.size_alloc, V.size_drew, V.size_setCell]; done)) | with_reducible apply V.Blk.set | ((with_reducible apply V.Blk.set_ne); (case hne => (try simp only [ne_eq]); omega)) | with_reducible apply V.Blk.alloc | with_reducible apply V.Blk.drew)); (· first | with_reducible assumption | rfl)) | ((with_reducible apply V.ldPtr_b); (· repeat (first | with_reducible assumption | ((with_reducible apply V.Blk.new'); first | with_reducible rfl | (simp only [V.size_alloc, V.size_drew, V.size_setCell]; done)) | with_reducible apply V.Blk.set | ((with_reducible apply V.Blk.set_ne); (case hne => (try simp only [ne_eq]); omega)) | with_reducible apply V.Blk.alloc | with_reducible apply V.Blk.drew)); (· first | with_reducible assumption | rfl)) | ((with_reducible apply V.ldSlice_b); (· repeat (first | with_reducible assumption | ((with_reducible apply V.Blk.new'); first | with_reducible rfl | (simp only [V.size_alloc, V.size_drew, V.size_setCell]; done)) | with_reducible apply V.Blk.set | ((with_reducible apply V.Blk.set_ne); (case hne => (try simp only [ne_eq]); omega)) | with_reducible apply V.Blk.alloc | with_reducible apply V.Blk.drew)); (· first | with_reducible assumption | rfl)) | ((with_reducible apply V.ldMap_b); (· repeat (first | with_reducible assumption | ((with_reducible apply V.Blk.new'); first | with_reducible rfl | (simp only [V.size_alloc, V.size_drew, V.size_setCell]; done)) | with_reducible apply V.Blk.set | ((with_reducible apply V.Blk.set_ne); (case hne => (try simp only [ne_eq]); omega)) | with_reducible apply V.Blk.alloc | with_reducible apply V.Blk.drew)); (· first | with_reducible assumption | rfl)) | ((with_reducible apply V.ldBool_b); (· repeat (first | with_reducible assumption | ((with_reducible apply V.Blk.new'); first | with_reducible rfl | (simp only [V.size_alloc, V.size_drew, V.size_setCell]; done)) | with_reducible apply V.Blk.set | ((with_reducible apply V.Blk.set_ne); (case hne => (try simp only [ne_eq]); omega)) | with_reducible apply V.Blk.alloc | with_reducible apply V.Blk.drew)); (· first | with_reducible assumption | rfl)) | ((with_reducible apply V.stCell_b); (· repeat (first | with_reducible assumption | ((with_reducible apply V.Blk.new'); first | with_reducible rfl | (simp only [V.size_alloc, V.size_drew, V.size_setCell]; done)) | with_reducible apply V.Blk.set | ((with_reducible apply V.Blk.set_ne); (case hne => (try simp only [ne_eq]); omega)) | with_reducible apply V.Blk.alloc | with_reducible apply V.Blk.drew)); (· first | exact Nat.le_of_ble_eq_true rfl | ((try simp only [Array.size_setIfInBounds]); omega)); (· rfl)) | ((with_reducible refine ⟨?_, ?_⟩); (· first | ((with_reducible apply V.hasCell_b); (· repeat (first | with_reducible assumption | ((with_reducible apply V.Blk.new'); first | with_reducible rfl | (simp only [V.size_alloc, V.size_drew, V.size_setCell]; done)) | with_reducible apply V.Blk.set | ((with_reducible apply V.Blk.set_ne); (case hne => (try simp only [ne_eq]); omega)) | with_reducible apply V.Blk.alloc | with_reducible apply V.Blk.drew)); (· first | with_reducible assumption | rfl)) | (simp only [V.inX, V.inR, V.inz, V.ige0, V.zi]; omega))) | simp only [V.nptr_eq, V.vBool_mk, V.vInt_mk, V.vStr_mk, V.vPtr_mk, V.vMap_mk, V.vSlice_mk, V.bnot_eq, V.nilCk_mk, V.aadd_mk, V.size_alloc, V.size_drew, V.size_setCell, V.nmul_nat, V.and_assoc', V.true_and', V.ifB_t, V.ifB_f, V.isNil_some, V.isNil_none, Bool.not_true, Bool.not_false, Nat.zero_add, Nat.add_zero])
  refine clone_spec h.begun (by have := ok.begun; omega) _ ?_
  intro p' c' w' hr hk hn
  simp only [V.nptr_eq, V.vBool_mk, V.vInt_mk, V.vStr_mk, V.vPtr_mk, V.vMap_mk, V.vSlice_mk, V.bnot_eq, V.nilCk_mk, V.aadd_mk, V.size_alloc, V.size_drew, V.size_setCell, V.nmul_nat, V.and_assoc', V.true_and', V.ifB_t, V.ifB_f, V.isNil_some, V.isNil_none, Bool.not_true, Bool.not_false, Nat.zero_add, Nat.add_zero]
  exact hR p' c' w' hr hk hn
theorem letters_spec {g : Gh} {w : World} {d : Nat} {S : DecS} (h : Rep g w d S) (R : Value → World → Prop) (hR : R (.int .i64 S.letters.length) w) :
    V.CallsR Try.prog 13 #[ptrV d] w R := by
  refine V.calls_of_fnVC Try.func13 ?_
  rw [vc_decree_Decree_Letters]
  simp only [V.nptr_eq, V.vBool_mk, V.vInt_mk, V.vStr_mk, V.vPtr_mk, V.vMap_mk, V.vSlice_mk, V.bnot_eq, V.nilCk_mk, V.aadd_mk, V.size_alloc, V.size_drew, V.size_setCell, V.nmul_nat, V.and_assoc', V.true_and', V.ifB_t, V.ifB_f, V.isNil_some, V.isNil_none, Bool.not_true, Bool.not_false, Nat.zero_add, Nat.add_zero]
  have hd := h.dec
  repeat (first | ((with_reducible apply V.ldInt_b); (· repeat (first | with_reducible assumption | ((with_reducible apply V.Blk.new'); first | with_reducible rfl | (simp only [V.size_alloc, V.size_drew, V.size_setCell]; done)) | with_reducible apply V.Blk.set | ((with_reducible apply V.Blk.set_ne); (case hne => (try simp only [ne_eq]); omega)) | with_reducible apply V.Blk.alloc | with_reducible apply V.Blk.drew)); (· first | with_reducible assumption | rfl)) | ((with_reducible apply V.ldStr_b); (· repeat (first | with_reducible assumption | ((with_reducible apply V.Blk.new'); first | with_reducible rfl | (simp only [V.size_alloc, V.size_drew, V.size_setCell]; done)) | with_reducible apply V.Blk.set | ((with_reducible apply V.Blk.set_ne); (case hne => (try simp only [ne_eq]); omega)) | with_reducible apply V.Blk.alloc | with_reducible apply V.Blk.drew)); (· first | with_reducible assumption | rfl)) | ((with_reducible apply V.ldPtr_b); (· repeat (first | with_reducible assumption | ((with_reducible apply V.Blk.new'); first | with_reducible rfl | (simp only [V.size_alloc, V.size_drew, V.size_setCell]; done)) | with_reducible apply V.Blk.set | ((with_reducible apply V.Blk.set_ne); (case hne => (try simp only [ne_eq]); omega)) | with_reducible apply V.Blk.alloc | with_reducible apply V.Blk.drew)); (· first | with_reducible assumption | rfl)) | ((with_reducible apply V.ldSlice_b); (· repeat (first | with_reducible assumption | ((with_reducible apply V.Blk.new'); first | with_reducible rfl | (simp only [V.size_alloc, V.size_drew, V.size_setCell]; done)) | with_reducible apply V.Blk.set | ((with_reducible apply V.Blk.set_ne); (case hne => (try simp only [ne_eq]); omega)) | with_reducible apply V.Blk.alloc | with_reducible apply V.Blk.drew)); (· first | with_reducible assumption | rfl)) | ((with_reducible apply V.ldMap_b); (· repeat (first | with_reducible assumption | ((with_reducible apply V.Blk.new'); first | with_reducible rfl | (simp only [V.size_alloc, V.size_drew, V.size_setCell]; done)) | with_reducible apply V.Blk.set | ((with_reducible apply V.Blk.set_ne); (case hne => (try simp only [ne_eq]); omega)) | with_reducible apply V.Blk.alloc | with_reducible apply V.Blk.drew)); (· first | with_reducible assumption | rfl)) | ((with_reducible apply V.ldBool_b); (· repeat (first | with_reducible assumption | ((with_reducible apply V.Blk.new'); first | with_reducible rfl | (simp only [V.size_alloc, V.size_drew, V.size_setCell]; done)) | with_reducible apply V.Blk.set | ((with_reducible apply V.Blk.set_ne); (case hne => (try simp only [ne_eq]); omega)) | with_reducible apply V.Blk.alloc | with_reducible apply V.Blk.drew)); (· first | with_reducible assumption | rfl)) | ((with_reducible apply V.stCell_b); (· repeat (first | with_reducible assumption | ((with_reducible apply V.Blk.new'); first | with_reducible rfl | (simp only [V.size_alloc, V.size_drew, V.size_setCell]; done)) | with_reducible apply V.Blk.set | ((with_reducible apply V.Blk.set_ne); (case hne => (try simp only [ne_eq]); omega)) | with_reducible apply V.Blk.alloc | with_reducible apply V.Blk.drew)); (· first | exact Nat.le_of_ble_eq_true rfl | ((try simp only [Array.size_setIfInBounds]); omega)); (· rfl)) | ((with_reducible refine ⟨?_, ?_⟩); (· first | ((with_reducible apply V.hasCell_b); (· repeat (first | with_reducible assumption | ((with_reducible apply V.Blk.new'); first | with_reducible rfl | (simp only [V.size_alloc, V.size_drew, V.size_setCell]; done)) | with_reducible apply V.Blk.set | ((with_reducible apply V.Blk.set_ne); (case hne => (try simp only [ne_eq]); omega)) | with_reducible apply V.Blk.alloc | with_reducible apply V.Blk.drew)); (· first | with_reducible assumption | rfl)) | (simp only [V.inX, V.inR, V.inz, V.ige0, V.zi]; omega))) | simp only [V.nptr_eq, V.vBool_mk, V.vInt_mk, V.vStr_mk, V.vPtr_mk, V.vMap_mk, V.vSlice_mk, V.bnot_eq, V.nilCk_mk, V.aadd_mk, V.size_alloc, V.size_drew, V.size_setCell, V.nmul_nat, V.and_assoc', V.true_and', V.ifB_t, V.ifB_f, V.isNil_some, V.isNil_none, Bool.not_true, Bool.not_false, Nat.zero_add, Nat.add_zero])
  exact hR
theorem slotAt_spec {g : Gh} {w : World} {d : Nat} {S : DecS} (h : Rep g w d S) {i : Nat} (hi : i < S.slots.length) {s : SlotS} (hs : S.slots[i]? = some s) (R : Value → World → Prop) (hR : ∀ w', V.Kp V.Nil w w' → R (slotV s.pr s.ba s.va) w') :
    V.CallsR Try.prog 12 #[ptrV d, .int .i64 i] w R := by
  refine V.calls_of_fnVC Try.func12 ?_
  rw [vc_decree_Decree_Slot]
  simp only [V.nptr_eq, V.vBool_mk, V.vInt_mk, V.vStr_mk, V.vPtr_mk, V.vMap_mk, V.vSlice_mk, V.bnot_eq, V.nilCk_mk, V.aadd_mk, V.size_alloc, V.size_drew, V.size_setCell, V.nmul_nat, V.and_assoc', V.true_and', V.ifB_t, V.ifB_f, V.isNil_some, V.isNil_none, Bool.not_true, Bool.not_false, Nat.zero_add, Nat.add_zero]
  have h1 := h.alloc (.cells #[.int .i64 0, .int .i64 0, .string ⟨#[]⟩] slotT)
  have hd := h1.dec
  have hb := h1.slots
  obtain ⟨s0, s1, s2⟩ := slot_get hs
  have hbl := h.slots.lt
  refine V.ifB_of (fun h2 => ?_) (fun h2 => ?_) <;> simp only [V.ilt_t, V.ilt_f, V.ile_t, V.ile_f, V.igt_t, V.igt_f, V.ige_t, V.ige_f, V.ieq_t, V.ieq_f, V.ine_t, V.ine_f, V.isNil_t, V.isNil_f, V.bnot_eq, Bool.not_eq_true', Bool.not_eq_false'] at h2
  · omega
  repeat (first | ((with_reducible apply V.ldInt_b); (· repeat (first | with_reducible assumption | ((with_reducible apply V.Blk.new'); first | with_reducible rfl | (simp only [V.size_alloc, V.size_drew, V.size_setCell]; done)) | with_reducible apply V.Blk.set | ((with_reducible apply V.Blk.set_ne); (case hne => (try simp only [ne_eq]); omega)) | with_reducible apply V.Blk.alloc | with_reducible apply V.Blk.drew)); (· first | with_reducible assumption | rfl)) | ((with_reducible apply V.ldStr_b); (· repeat (first | with_reducible assumption | ((with_reducible apply V.Blk.new'); first | with_reducible rfl | (simp only [V.size_alloc, V.size_drew, V.size_setCell]; done)) | with_reducible apply V.Blk.set | ((with_reducible apply V.Blk.set_ne); (case hne => (try simp only [ne_eq]); omega)) | with_reducible apply V.Blk.alloc | with_reducible apply V.Blk.drew)); (· first | with_reducible assumption | rfl)) | ((with_reducible apply V.ldPtr_b); (· repeat (first | with_reducible assumption | ((with_reducible apply V.Blk.new'); first | with_reducible rfl | (simp only [V.size_alloc, V.size_drew, V.size_setCell]; done)) | with_reducible apply V.Blk.set | ((with_reducible apply V.Blk.set_ne); (case hne => (try simp only [ne_eq]); omega)) | with_reducible apply V.Blk.alloc | with_reducible apply V.Blk.drew)); (· first | with_reducible assumption | rfl)) | ((with_reducible apply V.ldSlice_b); (· repeat (first | with_reducible assumption | ((with_reducible apply V.Blk.new'); first | with_reducible rfl | (simp only [V.size_alloc, V.size_drew, V.size_setCell]; done)) | with_reducible apply V.Blk.set | ((with_reducible apply V.Blk.set_ne); (case hne => (try simp only [ne_eq]); omega)) | with_reducible apply V.Blk.alloc | with_reducible apply V.Blk.drew)); (· first | with_reducible assumption | rfl)) | ((with_reducible apply V.ldMap_b); (· repeat (first | with_reducible assumption | ((with_reducible apply V.Blk.new'); first | with_reducible rfl | (simp only [V.size_alloc, V.size_drew, V.size_setCell]; done)) | with_reducible apply V.Blk.set | ((with_reducible apply V.Blk.set_ne); (case hne => (try simp only [ne_eq]); omega)) | with_reducible apply V.Blk.alloc | with_reducible apply V.Blk.drew)); (· first | with_reducible assumption | rfl)) | ((with_reducible apply V.ldBool_b); (· repeat (first | with_reducible assumption | ((with_reducible apply V.Blk.new'); first | with_reducible rfl | (simp only [V.size_alloc, V.size_drew, V.size_setCell]; done)) | with_reducible apply V.Blk.set | ((with_reducible apply V.Blk.set_ne); (case hne => (try simp only [ne_eq]); omega)) | with_reducible apply V.Blk.alloc | with_reducible apply V.Blk.drew)); (· first | with_reducible assumption | rfl)) | ((with_reducible apply V.stCell_b); (· repeat (first | with_reducible assumption | ((with_reducible apply V.Blk.new'); first | with_reducible rfl | (simp only [V.size_alloc, V.size_drew, V.size_setCell]; done)) | with_reducible apply V.Blk.set | ((with_reducible apply V.Blk.set_ne); (case hne => (try simp only [ne_eq]); omega)) | with_reducible apply V.Blk.alloc | with_reducible apply V.Blk.drew)); (· first | exact Nat.le_of_ble_eq_true rfl | ((try simp only [Array.size_setIfInBounds]); omega)); (· rfl)) | ((with_reducible refine ⟨?_, ?_⟩); (· first | ((with_reducible apply V.hasCell_b); (· repeat (first | with_reducible assumption | ((with_reducible apply V.Blk.new'); first | with_reducible rfl | (simp only [V.size_alloc, V.size_drew, V.size_setCell]; done)) | with_reducible apply V.Blk.set | ((with_reducible apply V.Blk.set_ne); (case hne => (try simp only [ne_eq]); omega)) | with_reducible apply V.Blk.alloc | with_reducible apply V.Blk.drew)); (· first | with_reducible assumption | rfl)) | (simp only [V.inX, V.inR, V.inz, V.ige0, V.zi]; omega))) | simp only [V.nptr_eq, V.vBool_mk, V.vInt_mk, V.vStr_mk, V.vPtr_mk, V.vMap_mk, V.vSlice_mk, V.bnot_eq, V.nilCk_mk, V.aadd_mk, V.size_alloc, V.size_drew, V.size_setCell, V.nmul_nat, V.and_assoc', V.true_and', V.ifB_t, V.ifB_f, V.isNil_some, V.isNil_none, Bool.not_true, Bool.not_false, Nat.zero_add, Nat.add_zero])
  refine V.ifB_of (fun h3 => ?_) (fun h3 => ?_) <;> simp only [V.ilt_t, V.ilt_f, V.ile_t, V.ile_f, V.igt_t, V.igt_f, V.ige_t, V.ige_f, V.ieq_t, V.ieq_f, V.ine_t, V.ine_f, V.isNil_t, V.isNil_f, V.bnot_eq, Bool.not_eq_true', Bool.not_eq_false', V.zi] at h3
  · omega
  repeat (first | ((with_reducible apply V.ldInt_b); (· repeat (first | with_reducible assumption | ((with_reducible apply V.Blk.new'); first | with_reducible rfl | (simp only [V.size_alloc, V.size_drew, V.size_setCell]; done)) | with_reducible apply V.Blk.set | ((with_reducible apply V.Blk.set_ne); (case hne => (try simp only [ne_eq]); omega)) | with_reducible apply V.Blk.alloc | with_reducible apply V.Blk.drew)); (· first | with_reducible assumption | rfl)) | ((with_reducible apply V.ldStr_b); (· repeat (first | with_reducible assumption | ((with_reducible apply V.Blk.new'); first | with_reducible rfl | (simp only [V.size_alloc, V.size_drew, V.size_setCell]; done)) | with_reducible apply V.Blk.set | ((with_reducible apply V.Blk.set_ne); (case hne => (try simp only [ne_eq]); omega)) | with_reducible apply V.Blk.alloc | with_reducible apply V.Blk.drew)); (· first | with_reducible assumption | rfl)) | ((with_reducible apply V.ldPtr_b); (· repeat (first | with_reducible assumption | ((with_reducible apply V.Blk.new'); first | with_reducible rfl | (simp only [V.size_alloc, V.size_drew, V.size_setCell]; done)) | with_reducible apply V.Blk.set | ((with_reducible apply V.Blk.set_ne); (case hne => (try simp only [ne_eq]); omega)) | with_reducible apply V.Blk.alloc | with_reducible apply V.Blk.drew)); (· first | with_reducible assumption | rfl)) | ((with_reducible apply V.ldSlice_b); (· repeat (first | with_reducible assumption | ((with_reducible apply V.Blk.new'); first | with_reducible rfl | (simp only [V.size_alloc, V.size_drew, V.size_setCell]; done)) | with_reducible apply V.Blk.set | ((with_reducible apply V.Blk.set_ne); (case hne => (try simp only [ne_eq]); omega)) | with_reducible apply V.Blk.alloc | with_reducible apply V.Blk.drew)); (· first | with_reducible assumption | rfl)) | ((with_reducible apply V.ldMap_b); (· repeat (first | with_reducible assumption | ((with_reducible apply V.Blk.new'); first | with_reducible rfl | (simp only [V.size_alloc, V.size_drew, V.size_setCell]; done)) | with_reducible apply V.Blk.set | ((with_reducible apply V.Blk.set_ne); (case hne => (try simp only [ne_eq]); omega)) | with_reducible apply V.Blk.alloc | with_reducible apply V.Blk.drew)); (· first | with_reducible assumption | rfl)) | ((with_reducible apply V.ldBool_b); (· repeat (first | with_reducible assumption | ((with_reducible apply V.Blk.new'); first | with_reducible rfl | (simp only [V.size_alloc, V.size_drew, V.size_setCell]; done)) | with_reducible apply V.Blk.set | ((with_reducible apply V.Blk.set_ne); (case hne => (try simp only [ne_eq]); omega)) | with_reducible apply V.Blk.alloc | with_reducible apply V.Blk.drew)); (· first | with_reducible assumption | rfl)) | ((with_reducible apply V.stCell_b); (· repeat (first | with_reducible assumption | ((with_reducible apply V.Blk.new'); first | with_reducible rfl | (simp only [V.size_alloc, V.size_drew, V.size_setCell]; done)) | with_reducible apply V.Blk.set | ((with_reducible apply V.Blk.set_ne); (case hne => (try simp only [ne_eq]); omega)) | with_reducible apply V.Blk.alloc | with_reducible apply V.Blk.drew)); (· first | exact Nat.le_of_ble_eq_true rfl | ((try simp only [Array.size_setIfInBounds]); omega)); (· rfl)) | ((with_reducible refine ⟨?_, ?_⟩); (· first | ((with_reducible apply V.hasCell_b); (· repeat (first | with_reducible assumption | ((with_reducible apply V.Blk.new'); first | with_reducible rfl | (simp only [V.size_alloc, V.size_drew, V.size_setCell]; done)) | with_reducible apply V.Blk.set | ((with_reducible apply V.Blk.set_ne); (case hne => (try simp only [ne_eq]); omega)) | with_reducible apply V.Blk.alloc | with_reducible apply V.Blk.drew)); (· first | with_reducible assumption | rfl)) | (simp only [V.inX, V.inR, V.inz, V.ige0, V.zi]; omega))) | simp only [V.nptr_eq, V.vBool_mk, V.vInt_mk, V.vStr_mk, V.vPtr_mk, V.vMap_mk, V.vSlice_mk, V.bnot_eq, V.nilCk_mk, V.aadd_mk, V.size_alloc, V.size_drew, V.size_setCell, V.nmul_nat, V.and_assoc', V.true_and', V.ifB_t, V.ifB_f, V.isNil_some, V.isNil_none, Bool.not_true, Bool.not_false, Nat.zero_add, Nat.add_zero])
  apply hR
  repeat (first | with_reducible assumption | with_reducible exact V.Kp.refl _ _ | ((with_reducible apply V.Kp.set); (case hp => first | exact .inl rfl | exact .inl (by assumption) | exact .inr (by (try simp only [V.size_alloc, V.size_drew, V.size_setCell]); omega))) | with_reducible apply V.Kp.alloc | with_reducible apply V.Kp.drew)
end Go.Proofs.Ytkjfhadafefnmaa
