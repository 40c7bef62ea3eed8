/- ranges.Add. -/
import Derived.Test.YtboifenkbhfnfaaRanD
set_option linter.all false
set_option maxRecDepth 100000
namespace Go.Proofs.Ytboifenkbhfnfaa
open Go
theorem slAdr_zero (p : Option Addr) (c : Nat) : V.slAdr p c 0 1 = p := by
  unfold V.slAdr
  split
  · rfl
  · cases p with
    | none => rfl
    | some a => show some (a.add 0) = some a; unfold Addr.add; simp
theorem SRow.init {w : World} {p : Option Addr} {n c : Nat} {xs : List ByteArray} (h : SRow w p n c xs) (h0 : 0 < n) : SRow w p (n - 1) c xs.dropLast := by
  obtain ⟨g, cur, rfl, hb, h1, h2, h3, h4⟩ := h.some h0
  have hl := h.length
  refine V.Row.of hb (by omega) h2 h3 ?_
  rw [Nat.mul_one] at h4 ⊢
  have : cur.toList.take (n - 1) = (cur.toList.take n).take (n - 1) := by rw [List.take_take]; congr 1; omega
  rw [this, h4, List.dropLast_eq_take, List.map_take, ← hl]
theorem iand_ok : ∀ m : Fin 65, ∀ j : Fin 8, V.iand .i64 ((m.val : Nat) : Int) ((2 ^ j.val : Nat) : Int) = ((m.val &&& 2 ^ j.val : Nat) : Int) := by decide +kernel
theorem ishl_ok : ∀ j : Fin 8, V.ishl .i64 ((2 ^ j.val : Nat) : Int) 1 = ((2 ^ (j.val + 1) : Nat) : Int) := by decide +kernel
set_option maxHeartbeats 1000000 in
theorem grow_spec (xs : List ByteArray) (x0 : ByteArray) (hB : ∀ x ∈ xs, x.size ≤ 1000000) (hx0 : x0.size ≤ 1000000) (m : Nat) (hm : m ≤ 64) (p : Option Addr) (n c : Nat) (w : World) (hn : n = xs.length) (hl : xs.length = (Mk.pows m).length) (hs : StrAt w p xs) (C : Value → World → Prop)
    (hc : ∀ p' n' c' w' L, SRow w' p' n' c' L → (∀ x ∈ L, x.size ≤ 1000000) → L.length ≤ 1000000 → Mk.foldR L = Mk.foldR (xs ++ [x0]) → New w.heap.size p' → V.Kp V.Nil w w' → C (rangeV (m + 1) p' n' c') w') :
    V.CallsR Try.prog 39 #[.agg tblC, .agg #[.int .i64 (m : Int), .slice p n c], .int .i64 1, .string x0] w C := by
  refine V.calls_of_fnVC (args := [_, _, _, _]) Try.func39 ?_
  rw [vc_ranges_grow]
  have ts := tbl_size
  have hpl := Mk.pows_le m
  simp only [V.nptr_eq, V.vBool_mk, V.vInt_mk, V.vStr_mk, V.vPtr_mk, V.vMap_mk, V.vSlice_mk, V.bnot_eq, V.nilCk_mk, V.aadd_mk, V.size_alloc, V.size_drew, V.size_setCell, V.nmul_eq, V.inat_nat, V.inat_lit, Nat.mul_one, Nat.reduceMul, Nat.reduceAdd, V.and_assoc', V.true_and', V.ifB_t, V.ifB_f, V.isNil_some, V.isNil_none, Bool.not_true, Bool.not_false, Nat.zero_add, Nat.add_zero]
  repeat (first | with_reducible refine V.lI ?_ | with_reducible refine V.lS ?_ | with_reducible refine V.lP ?_ | with_reducible refine V.lL ?_ | with_reducible refine V.lM ?_ | with_reducible refine V.lB ?_ | with_reducible refine V.sC ?_ | with_reducible refine V.lG ?_ | ((with_reducible refine And.intro ?_ ?_); (· first | with_reducible exact V.hC | with_reducible exact V.hB | (simp only [V.inX, V.inR, V.inz, V.ige0, V.zi]; omega))) | simp only [V.nptr_eq, V.vBool_mk, V.vInt_mk, V.vStr_mk, V.vPtr_mk, V.vMap_mk, V.vSlice_mk, V.bnot_eq, V.nilCk_mk, V.aadd_mk, V.size_alloc, V.size_drew, V.size_setCell, V.nmul_eq, V.inat_nat, V.inat_lit, Nat.mul_one, Nat.reduceMul, Nat.reduceAdd, V.and_assoc', V.true_and', V.ifB_t, V.ifB_f, V.isNil_some, V.isNil_none, Bool.not_true, Bool.not_false, Nat.zero_add, Nat.add_zero])
  refine named fun W hW => ?_
  have c0 : V.Blk W w.heap.size tblC 29 := by rw [hW]; exact V.blk
  have c1 : V.Blk W (w.heap.size + 1) #[.int .i64 (m : Int), .slice p n c] 33 := by rw [hW]; exact V.blk
  have c2 : V.Blk W (w.heap.size + 1 + 1) #[.int .i64 0, .slice none 0 0] 33 := by rw [hW]; exact V.bto
  have ck : V.Kp V.Nil w W := by rw [hW]; exact V.kp
  have cz : W.heap.size = w.heap.size + 3 := by rw [hW]; simp only [V.size_alloc, V.size_drew, V.size_setCell]
  clear hW
  refine clone_spec xs p n c hn (by omega) W (hs.keep ck) _ ?_
  intro p1 c1' w1 hr1 hp1 k1
  simp only [V.nptr_eq, V.vBool_mk, V.vInt_mk, V.vStr_mk, V.vPtr_mk, V.vMap_mk, V.vSlice_mk, V.bnot_eq, V.nilCk_mk, V.aadd_mk, V.size_alloc, V.size_drew, V.size_setCell, V.nmul_eq, V.inat_nat, V.inat_lit, Nat.mul_one, Nat.reduceMul, Nat.reduceAdd, V.and_assoc', V.true_and', V.ifB_t, V.ifB_f, V.isNil_some, V.isNil_none, Bool.not_true, Bool.not_false, Nat.zero_add, Nat.add_zero]
  refine ⟨fun x q k d y => ⟨fun w' => ∃ (j : Nat) (L : List ByteArray), y = ((2 ^ j : Nat) : Int) ∧ j ≤ 7 ∧ SRow w' q k d L ∧ (∀ z ∈ L, z.size ≤ 1000000) ∧ x.size ≤ 1000000 ∧ k = (Mk.pows (m / 2 ^ j)).length ∧ Mk.foldR (L ++ [x]) = Mk.foldR (xs ++ [x0]) ∧ New (w.heap.size + 3) q ∧ V.Blk w' w.heap.size tblC 29 ∧ V.Blk w' (w.heap.size + 1) #[.int .i64 (m : Int), .slice p n c] 33 ∧ V.Blk w' (w.heap.size + 1 + 1) #[.int .i64 0, .slice none 0 0] 33 ∧ V.Kp V.Nil w w', fun _ => k⟩,
    ⟨0, xs, rfl, by omega, hr1, hB, hx0, by rw [Nat.pow_zero, Nat.div_one]; omega, rfl, by rw [← cz]; exact hp1, V.Kp.blk k1 c0 (fun e => e), V.Kp.blk k1 c1 (fun e => e), V.Kp.blk k1 c2 (fun e => e), V.Kp.trans ck k1⟩, ?_⟩
  rintro _ x q k d _ w2 ⟨j, L, rfl, hj, hr, hL, hx, hk, hf, hqn, b0, b1, b2, kp⟩
  refine V.lI ?_ b1 rfl
  have ha := iand_ok ⟨m, by omega⟩ ⟨j, by omega⟩
  simp only at ha
  rw [ha]
  have hkl := hr.length
  have hkb := Mk.pows_le (m / 2 ^ j)
  have hkd := Nat.div_le_self m (2 ^ j)
  refine V.ifB_of (fun hq => ?_) (fun hq => ?_) <;> simp only [V.ilt_t, V.ilt_f, V.ile_t, V.ile_f, V.igt_t, V.igt_f, V.ige_t, V.ige_f, V.ieq_t, V.ieq_f, V.ine_t, V.ine_f, V.isNil_t, V.isNil_f, V.bnot_eq, Bool.not_eq_true', Bool.not_eq_false', V.seq_t, V.seq_f] at hq
  · have hne : m &&& 2 ^ j ≠ 0 := by omega
    have hj7 : j < 7 := by
      rcases Nat.lt_or_ge j 7 with h | h
      · exact h
      · obtain rfl : j = 7 := by omega
        exact absurd (Mk.ones_end ⟨m, by omega⟩) hne
    have hst := Mk.ones_step ⟨m, by omega⟩ ⟨j, by omega⟩ hne
    simp only at hst
    have hk0 : 0 < k := by omega
    repeat (first | with_reducible refine V.lI ?_ | with_reducible refine V.lS ?_ | with_reducible refine V.lP ?_ | with_reducible refine V.lL ?_ | with_reducible refine V.lM ?_ | with_reducible refine V.lB ?_ | with_reducible refine V.sC ?_ | with_reducible refine V.lG ?_ | ((with_reducible refine And.intro ?_ ?_); (· first | with_reducible exact V.hC | with_reducible exact V.hB | (simp only [V.inX, V.inR, V.inz, V.ige0, V.zi]; omega))) | simp only [V.nptr_eq, V.vBool_mk, V.vInt_mk, V.vStr_mk, V.vPtr_mk, V.vMap_mk, V.vSlice_mk, V.bnot_eq, V.nilCk_mk, V.aadd_mk, V.size_alloc, V.size_drew, V.size_setCell, V.nmul_eq, V.inat_nat, V.inat_lit, Nat.mul_one, Nat.reduceMul, Nat.reduceAdd, V.and_assoc', V.true_and', V.ifB_t, V.ifB_f, V.isNil_some, V.isNil_none, Bool.not_true, Bool.not_false, Nat.zero_add, Nat.add_zero])
    have e1 : V.isub .i64 (V.zi k) 1 = ((k - 1 : Nat) : Int) := by unfold V.zi; rw [V.isub_i64 (by omega) (by omega)]; omega
    rw [e1]
    have hlt : k - 1 < L.length := by omega
    refine (hr.at.keep (V.Kp.drew (V.Kp.refl _ _))).loadA hkl (List.getElem?_eq_getElem hlt) (fun _ _ _ => ?_)
    have hla := hL _ (List.getElem_mem hlt)
    refine rpair_spec _ _ (by omega) (by omega) _ _ ?_
    intro w3 k3'
    have k3 : V.Kp V.Nil w2 w3 := V.Kp.trans (V.Kp.drew (V.Kp.refl _ _)) k3'
    simp only [V.nptr_eq, V.vBool_mk, V.vInt_mk, V.vStr_mk, V.vPtr_mk, V.vMap_mk, V.vSlice_mk, V.bnot_eq, V.nilCk_mk, V.aadd_mk, V.size_alloc, V.size_drew, V.size_setCell, V.nmul_eq, V.inat_nat, V.inat_lit, Nat.mul_one, Nat.reduceMul, Nat.reduceAdd, V.and_assoc', V.true_and', V.ifB_t, V.ifB_f, V.isNil_some, V.isNil_none, Bool.not_true, Bool.not_false, Nat.zero_add, Nat.add_zero]
    refine And.intro ?_ (And.intro (by unfold V.ige0; omega) ?_)
    · have := hr.le
      unfold V.inR; omega
    have es := ishl_ok ⟨j, by omega⟩
    simp only at es
    rw [es, slAdr_zero]
    have hLd : L = L.dropLast ++ [L[k - 1]] := by
      have h1 : L ≠ [] := by intro e; rw [e] at hlt; simp at hlt
      have h2 := List.dropLast_concat_getLast h1
      rw [List.getLast_eq_getElem] at h2
      have h3 : L[L.length - 1] = L[k - 1] := by congr 1; omega
      rw [← h3]; exact h2.symm
    refine ⟨⟨j + 1, L.dropLast, rfl, by omega, ?_, fun z hz => hL z (List.dropLast_subset _ hz), ?_, ?_, ?_, hqn, V.Kp.blk k3 b0 (fun e => e), V.Kp.blk k3 b1 (fun e => e), V.Kp.blk k3 b2 (fun e => e), V.Kp.trans kp k3⟩, ?_⟩
    · exact (hr.init hk0).keep k3
    · rw [Mk.node_size]; omega
    · show k - 1 = _; omega
    · rw [← hf]
      conv => rhs; rw [hLd]
      rw [List.append_assoc]
      exact (Mk.foldR_pair _ _ _).symm
    · show k - 1 < k; omega
  · refine V.lI ?_ b1.drew rfl
    have b1d : V.Blk w2.drew (w.heap.size + 1) #[.int .i64 (m : Int), .slice p n c] 33 := b1
    refine And.intro (V.hC (b1d.alloc _) rfl) ?_
    have hrd : SRow w2.drew q k d L := hr.keep (V.Kp.drew (V.Kp.refl _ _))
    refine app_str hrd (by omega) x rfl ?_
    intro q3 d3 w3 hr3 k3 at3
    have zk := k3.size
    have hq3 : New (w.heap.size + 3) q3 := fun b hb => by
      rcases at3 b hb with e | e
      · exact hqn b e
      · have := b2.lt; have e : w2.heap.size ≤ b := e; omega
    have k3' : V.Kp (fun b => V.blk? q = some b) w2 w3 := V.Kp.trans (V.Kp.drew (V.Kp.refl _ _)) k3
    have d1 := V.Kp.blk k3' b1 (fun e => by have := hqn _ e; omega)
    have d2 := V.Kp.blk k3' b2 (fun e => by have := hqn _ e; omega)
    have em : V.iadd .i64 (m : Int) 1 = ((m + 1 : Nat) : Int) := by rw [V.iadd_i64 (by omega) (by omega)]; omega
    have kk : V.Kp (V.One (w.heap.size + 1 + 1)) w3 ((w3.setCell ⟨w.heap.size + 1 + 1, 0, none⟩ (.int .i64 ((m + 1 : Nat) : Int))).setCell ⟨w.heap.size + 1 + 1, 1, none⟩ (.slice q3 (k + 1) d3)) :=
      V.Kp.set (S := V.One (w.heap.size + 1 + 1)) (V.Kp.set (S := V.One (w.heap.size + 1 + 1)) (V.Kp.refl _ _) (.inl rfl) _) (.inl rfl) _
    simp only [V.nptr_eq, V.vBool_mk, V.vInt_mk, V.vStr_mk, V.vPtr_mk, V.vMap_mk, V.vSlice_mk, V.bnot_eq, V.nilCk_mk, V.aadd_mk, V.size_alloc, V.size_drew, V.size_setCell, V.nmul_eq, V.inat_nat, V.inat_lit, Nat.mul_one, Nat.reduceMul, Nat.reduceAdd, V.and_assoc', V.true_and', V.ifB_t, V.ifB_f, V.isNil_some, V.isNil_none, Bool.not_true, Bool.not_false, Nat.zero_add, Nat.add_zero]
    rw [em]
    refine And.intro (V.hC d1 rfl) ?_
    repeat (first | with_reducible refine V.lI ?_ | with_reducible refine V.lS ?_ | with_reducible refine V.lP ?_ | with_reducible refine V.lL ?_ | with_reducible refine V.lM ?_ | with_reducible refine V.lB ?_ | with_reducible refine V.sC ?_ | with_reducible refine V.lG ?_ | ((with_reducible refine And.intro ?_ ?_); (· first | with_reducible exact V.hC | with_reducible exact V.hB | (simp only [V.inX, V.inR, V.inz, V.ige0, V.zi]; omega))) | simp only [V.nptr_eq, V.vBool_mk, V.vInt_mk, V.vStr_mk, V.vPtr_mk, V.vMap_mk, V.vSlice_mk, V.bnot_eq, V.nilCk_mk, V.aadd_mk, V.size_alloc, V.size_drew, V.size_setCell, V.nmul_eq, V.inat_nat, V.inat_lit, Nat.mul_one, Nat.reduceMul, Nat.reduceAdd, V.and_assoc', V.true_and', V.ifB_t, V.ifB_f, V.isNil_some, V.isNil_none, Bool.not_true, Bool.not_false, Nat.zero_add, Nat.add_zero])
    refine hc q3 (k + 1) d3 _ (L ++ [x]) (hr3.kp kk (fun b hb e => by have := hq3 b hb; have e : b = _ := e; omega)) ?_ ?_ hf (hq3.le (by omega)) ?_
    · intro z hz
      rcases List.mem_append.1 hz with h | h
      · exact hL z h
      · have : z = x := by simpa using h
        rw [this]; exact hx
    · rw [List.length_append, List.length_singleton]; omega
    · refine V.Kp.then (V.Kp.then kp k3' (fun i hi e => by have := hqn i e; omega)) kk (fun i hi e => by have e : i = _ := e; omega)
theorem add_spec (xs : List ByteArray) (x0 : ByteArray) (hB : ∀ x ∈ xs, x.size ≤ 1000000) (hx0 : x0.size ≤ 1000000) (m : Nat) (hm : m ≤ 64) (p : Option Addr) (n c : Nat) (w : World) (hn : n = xs.length) (hl : xs.length = (Mk.pows m).length) (hs : StrAt w p xs) (C : Value → World → Prop)
    (hc : ∀ p' n' c' w' L, SRow w' p' n' c' L → (∀ x ∈ L, x.size ≤ 1000000) → L.length ≤ 1000000 → Mk.foldR L = Mk.foldR (xs ++ [x0]) → New w.heap.size p' → V.Kp V.Nil w w' → C (rangeV (m + 1) p' n' c') w') :
    V.CallsR Try.prog 14 #[.agg tblC, rangeV m p n c, .string x0] w C := by
  refine V.calls_of_fnVC (args := [_, _, _]) Try.func14 ?_
  unfold rangeV
  rw [vc_ranges_Add]
  have ts := tbl_size
  simp only [V.nptr_eq, V.vBool_mk, V.vInt_mk, V.vStr_mk, V.vPtr_mk, V.vMap_mk, V.vSlice_mk, V.bnot_eq, V.nilCk_mk, V.aadd_mk, V.size_alloc, V.size_drew, V.size_setCell, V.nmul_eq, V.inat_nat, V.inat_lit, Nat.mul_one, Nat.reduceMul, Nat.reduceAdd, V.and_assoc', V.true_and', V.ifB_t, V.ifB_f, V.isNil_some, V.isNil_none, Bool.not_true, Bool.not_false, Nat.zero_add, Nat.add_zero]
  repeat (first | with_reducible refine V.lI ?_ | with_reducible refine V.lS ?_ | with_reducible refine V.lP ?_ | with_reducible refine V.lL ?_ | with_reducible refine V.lM ?_ | with_reducible refine V.lB ?_ | with_reducible refine V.sC ?_ | with_reducible refine V.lG ?_ | ((with_reducible refine And.intro ?_ ?_); (· first | with_reducible exact V.hC | with_reducible exact V.hB | (simp only [V.inX, V.inR, V.inz, V.ige0, V.zi]; omega))) | simp only [V.nptr_eq, V.vBool_mk, V.vInt_mk, V.vStr_mk, V.vPtr_mk, V.vMap_mk, V.vSlice_mk, V.bnot_eq, V.nilCk_mk, V.aadd_mk, V.size_alloc, V.size_drew, V.size_setCell, V.nmul_eq, V.inat_nat, V.inat_lit, Nat.mul_one, Nat.reduceMul, Nat.reduceAdd, V.and_assoc', V.true_and', V.ifB_t, V.ifB_f, V.isNil_some, V.isNil_none, Bool.not_true, Bool.not_false, Nat.zero_add, Nat.add_zero])
  refine named fun W hW => ?_
  have c2 : V.Blk W (w.heap.size + 1 + 1) #[.int .i64 0, .slice none 0 0] 33 := by rw [hW]; exact V.bto
  have ck : V.Kp V.Nil w W := by rw [hW]; exact V.kp
  have cz : W.heap.size = w.heap.size + 3 := by rw [hW]; simp only [V.size_alloc, V.size_drew, V.size_setCell]
  clear hW
  refine grow_spec xs x0 hB hx0 m hm p n c W hn hl (hs.keep ck) _ ?_
  intro p1 n1 c1 w1 L h1 h2 h3 h4 h5 k1
  have d2 := V.Kp.blk k1 c2 (fun e => e)
  refine ⟨_, _, _, _, rfl, ?_⟩
  have kk : V.Kp (V.One (w.heap.size + 1 + 1)) w1 ((w1.setCell ⟨w.heap.size + 1 + 1, 0, none⟩ (.int .i64 ((m + 1 : Nat) : Int))).setCell ⟨w.heap.size + 1 + 1, 1, none⟩ (.slice p1 n1 c1)) :=
      V.Kp.set (S := V.One (w.heap.size + 1 + 1)) (V.Kp.set (S := V.One (w.heap.size + 1 + 1)) (V.Kp.refl _ _) (.inl rfl) _) (.inl rfl) _
  (try simp only [V.nptr_eq, V.vBool_mk, V.vInt_mk, V.vStr_mk, V.vPtr_mk, V.vMap_mk, V.vSlice_mk, V.bnot_eq, V.nilCk_mk, V.aadd_mk, V.size_alloc, V.size_drew, V.size_setCell, V.nmul_eq, V.inat_nat, V.inat_lit, Nat.mul_one, Nat.reduceMul, Nat.reduceAdd, V.and_assoc', V.true_and', V.ifB_t, V.ifB_f, V.isNil_some, V.isNil_none, Bool.not_true, Bool.not_false, Nat.zero_add, Nat.add_zero])
  repeat (first | with_reducible refine V.lI ?_ | with_reducible refine V.lS ?_ | with_reducible refine V.lP ?_ | with_reducible refine V.lL ?_ | with_reducible refine V.lM ?_ | with_reducible refine V.lB ?_ | with_reducible refine V.sC ?_ | with_reducible refine V.lG ?_ | ((with_reducible refine And.intro ?_ ?_); (· first | with_reducible exact V.hC | with_reducible exact V.hB | (simp only [V.inX, V.inR, V.inz, V.ige0, V.zi]; omega))) | simp only [V.nptr_eq, V.vBool_mk, V.vInt_mk, V.vStr_mk, V.vPtr_mk, V.vMap_mk, V.vSlice_mk, V.bnot_eq, V.nilCk_mk, V.aadd_mk, V.size_alloc, V.size_drew, V.size_setCell, V.nmul_eq, V.inat_nat, V.inat_lit, Nat.mul_one, Nat.reduceMul, Nat.reduceAdd, V.and_assoc', V.true_and', V.ifB_t, V.ifB_f, V.isNil_some, V.isNil_none, Bool.not_true, Bool.not_false, Nat.zero_add, Nat.add_zero])
  refine hc p1 n1 c1 _ L (h1.kp kk (fun b hb e => by have := h5 b hb; have e : b = _ := e; omega)) h2 h3 h4 (h5.le (by omega)) ?_
  exact V.Kp.then (V.Kp.trans ck k1) kk (fun i hi e => by have e : i = _ := e; omega)
end Go.Proofs.Ytboifenkbhfnfaa
