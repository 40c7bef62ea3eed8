/- slices.Backward; ranges.Root. -/
import Derived.Test.YtboifenkbhfnfaaRanC
set_option linter.all false
set_option maxRecDepth 100000
namespace Go.Proofs.Ytboifenkbhfnfaa
open Go
def bItems (xs : List ByteArray) : List (List Value) := (List.range xs.length).map fun j => [Value.int .i64 ((xs.length - 1 - j : Nat) : Int), Value.string (xs.getD (xs.length - 1 - j) ⟨#[]⟩)]
theorem backward_spec (p : Option Addr) (n c : Nat) (w : World) (C : Value → World → Prop) (hc : C (.func (.func 73) #[] #[.pointer (some ⟨w.heap.size, 0, none⟩)]) (w.alloc (.cells #[.slice p n c] 22))) :
    V.CallsR Try.prog 42 #[.slice p n c] w C := by
  refine V.calls_of_fnVC (args := [_]) Try.func42 ?_
  rw [vc_slices_Backward_string]
  exact hc
theorem backward_seq (xs : List ByteArray) (hlen : xs.length ≤ 1000000) (p : Option Addr) (n c : Nat) (hn : n = xs.length) (w : World) (b : Nat) (hb : V.Blk w b #[.slice p n c] 22) (hs : StrAt w p xs) :
    Seq 73 [.pointer (some ⟨b, 0, none⟩)] V.Nil (fun i => i = b ∨ V.blk? p = some i) (bItems xs) w := by
  intro v w0 I St C hk h0 hI hr hend hst
  subst hn
  refine V.calls_of_fnVC (args := [_, _]) Try.func73 ?_
  rw [vc_slices_Backward_1_string]
  simp only [V.nptr_eq, V.vBool_mk, V.vInt_mk, V.vStr_mk, V.vPtr_mk, V.vMap_mk, V.vSlice_mk, V.bnot_eq, V.nilCk_mk, V.aadd_mk, V.size_alloc, V.size_drew, V.size_setCell, V.nmul_eq, V.inat_nat, V.inat_lit, Nat.mul_one, Nat.reduceMul, Nat.reduceAdd, V.and_assoc', V.true_and', V.ifB_t, V.ifB_f, V.isNil_some, V.isNil_none, Bool.not_true, Bool.not_false, Nat.zero_add, Nat.add_zero]
  refine V.lL ?_ (V.Kp.blk hk hb (fun e => e)) rfl
  refine ⟨fun x => ⟨fun w' => ∃ k : Nat, I k w' ∧ V.Blk w' b #[.slice p xs.length c] 22 ∧ StrAt w' p xs ∧ k ≤ xs.length ∧ x = ((xs.length : Int) - 1 - k), fun _ => (x + 1).toNat⟩, ⟨0, h0, V.Kp.blk hk hb (fun e => e), hs.keep hk, by omega, by rw [V.isub_i64 (by unfold V.zi; omega) (by unfold V.zi; omega)]; unfold V.zi; omega⟩, ?_⟩
  rintro _ x w1 ⟨k, hi, hb1, hs1, hk2, rfl⟩
  refine V.ifB_of (fun hq => ?_) (fun hq => ?_) <;> simp only [V.ilt_t, V.ilt_f, V.ile_t, V.ile_f, V.igt_t, V.igt_f, V.ige_t, V.ige_f, V.ieq_t, V.ieq_f, V.ine_t, V.ine_f, V.isNil_t, V.isNil_f, V.bnot_eq, Bool.not_eq_true', Bool.not_eq_false', V.seq_t, V.seq_f] at hq
  · (try simp only [V.nptr_eq, V.vBool_mk, V.vInt_mk, V.vStr_mk, V.vPtr_mk, V.vMap_mk, V.vSlice_mk, V.bnot_eq, V.nilCk_mk, V.aadd_mk, V.size_alloc, V.size_drew, V.size_setCell, V.nmul_eq, V.inat_nat, V.inat_lit, Nat.mul_one, Nat.reduceMul, Nat.reduceAdd, V.and_assoc', V.true_and', V.ifB_t, V.ifB_f, V.isNil_some, V.isNil_none, Bool.not_true, Bool.not_false, Nat.zero_add, Nat.add_zero])
    refine V.lL ?_ hb1 rfl
    obtain ⟨j, hj⟩ : ∃ j, j = xs.length - 1 - k := ⟨_, rfl⟩
    have ej : ((xs.length : Int) - 1 - k) = (j : Int) := by omega
    rw [ej]
    have hlt : j < xs.length := by omega
    refine hs1.loadA rfl (List.getElem?_eq_getElem hlt) (fun _ _ _ => ?_)
    refine callV_mono' (hr k [Value.int .i64 (j : Int), Value.string xs[j]] w1 ?_ hi) ?_
    · rw [bItems, List.getElem?_map, List.getElem?_range (by omega)]
      simp [← hj, hlt]
    rintro r w2 ⟨hsame, hsz, ho⟩
    have hb2 : V.Blk w2 b #[.slice p xs.length c] 22 := (hsame b (.inl rfl)).trans hb1
    have hs2 : StrAt w2 p xs := by
      rcases hs1 with h | ⟨b', o, rfl, hb', hc'⟩
      · exact .inl h
      · refine .inr ⟨b', o, rfl, by omega, fun i x hx => ?_⟩
        rw [← hc' i x hx]
        exact World.cell?_of_block (hsame b' (.inr rfl))
    rcases ho with ⟨rfl, hi2⟩ | ⟨rfl, hst2⟩
    · simp only [V.nptr_eq, V.vBool_mk, V.vInt_mk, V.vStr_mk, V.vPtr_mk, V.vMap_mk, V.vSlice_mk, V.bnot_eq, V.nilCk_mk, V.aadd_mk, V.size_alloc, V.size_drew, V.size_setCell, V.nmul_eq, V.inat_nat, V.inat_lit, Nat.mul_one, Nat.reduceMul, Nat.reduceAdd, V.and_assoc', V.true_and', V.ifB_t, V.ifB_f, V.isNil_some, V.isNil_none, Bool.not_true, Bool.not_false, Nat.zero_add, Nat.add_zero]
      have e1 : V.isub .i64 (j : Int) 1 = (xs.length : Int) - 1 - ((k + 1 : Nat) : Int) := by rw [V.isub_i64 (by omega) (by omega)]; omega
      rw [e1]
      refine ⟨⟨k + 1, hi2, hb2, hs2, by omega, rfl⟩, ?_⟩
      show ((xs.length : Int) - 1 - ((k + 1 : Nat) : Int) + 1).toNat < ((j : Int) + 1).toNat
      omega
    · simp only [V.nptr_eq, V.vBool_mk, V.vInt_mk, V.vStr_mk, V.vPtr_mk, V.vMap_mk, V.vSlice_mk, V.bnot_eq, V.nilCk_mk, V.aadd_mk, V.size_alloc, V.size_drew, V.size_setCell, V.nmul_eq, V.inat_nat, V.inat_lit, Nat.mul_one, Nat.reduceMul, Nat.reduceAdd, V.and_assoc', V.true_and', V.ifB_t, V.ifB_f, V.isNil_some, V.isNil_none, Bool.not_true, Bool.not_false, Nat.zero_add, Nat.add_zero]
      exact hst _ hst2
  · have : k = xs.length := by omega
    subst this
    refine hend _ ?_
    rw [bItems, List.length_map, List.length_range]
    exact hi
theorem getLast_foldR {xs : List ByteArray} {k : Nat} (hk : k + 1 < xs.length) : Mk.foldR (xs.drop (xs.length - 1 - (k + 1))) = Mk.node (xs.getD (xs.length - 1 - 1 - k) ⟨#[]⟩) (Mk.foldR (xs.drop (xs.length - 1 - k))) := by
  have e : xs.length - 1 - (k + 1) = xs.length - 1 - 1 - k := by omega
  rw [e, List.drop_eq_getElem_cons (by omega), Mk.foldR_cons _ (by rw [ne_eq, List.drop_eq_nil_iff]; omega)]
  have e2 : xs.length - 1 - 1 - k + 1 = xs.length - 1 - k := by omega
  rw [e2]
  congr 1
  rw [List.getD_eq_getElem?_getD, List.getElem?_eq_getElem (by omega)]; rfl
theorem root_spec (xs : List ByteArray) (hlen : xs.length ≤ 1000000) (hB : ∀ x ∈ xs, x.size ≤ 1000000) (m : Int) (p : Option Addr) (n c : Nat) (w : World) (hn : n = xs.length) (hnc : n ≤ c) (hs : StrAt w p xs) (C : Value → World → Prop)
    (hc : ∀ w', V.Kp V.Nil w w' → C (.string (Mk.foldR xs)) w') :
    V.CallsR Try.prog 16 #[.agg tblC, .agg #[.int .i64 m, .slice p n c]] w C := by
  refine V.calls_of_fnVC (args := [_, _]) Try.func16 ?_
  rw [vc_ranges_Root]
  have ts := tbl_size
  simp only [V.nptr_eq, V.vBool_mk, V.vInt_mk, V.vStr_mk, V.vPtr_mk, V.vMap_mk, V.vSlice_mk, V.bnot_eq, V.nilCk_mk, V.aadd_mk, V.size_alloc, V.size_drew, V.size_setCell, V.nmul_eq, V.inat_nat, V.inat_lit, Nat.mul_one, Nat.reduceMul, Nat.reduceAdd, V.and_assoc', V.true_and', V.ifB_t, V.ifB_f, V.isNil_some, V.isNil_none, Bool.not_true, Bool.not_false, Nat.zero_add, Nat.add_zero]
  repeat (first | with_reducible refine V.lI ?_ | with_reducible refine V.lS ?_ | with_reducible refine V.lP ?_ | with_reducible refine V.lL ?_ | with_reducible refine V.lM ?_ | with_reducible refine V.lB ?_ | with_reducible refine V.sC ?_ | with_reducible refine V.lG ?_ | ((with_reducible refine And.intro ?_ ?_); (· first | with_reducible exact V.hC | with_reducible exact V.hB | (simp only [V.inX, V.inR, V.inz, V.ige0, V.zi]; omega))) | simp only [V.nptr_eq, V.vBool_mk, V.vInt_mk, V.vStr_mk, V.vPtr_mk, V.vMap_mk, V.vSlice_mk, V.bnot_eq, V.nilCk_mk, V.aadd_mk, V.size_alloc, V.size_drew, V.size_setCell, V.nmul_eq, V.inat_nat, V.inat_lit, Nat.mul_one, Nat.reduceMul, Nat.reduceAdd, V.and_assoc', V.true_and', V.ifB_t, V.ifB_f, V.isNil_some, V.isNil_none, Bool.not_true, Bool.not_false, Nat.zero_add, Nat.add_zero])
  refine V.ifB_of (fun hq => ?_) (fun hq => ?_) <;> simp only [V.ilt_t, V.ilt_f, V.ile_t, V.ile_f, V.igt_t, V.igt_f, V.ige_t, V.ige_f, V.ieq_t, V.ieq_f, V.ine_t, V.ine_f, V.isNil_t, V.isNil_f, V.bnot_eq, Bool.not_eq_true', Bool.not_eq_false', V.seq_t, V.seq_f, V.zi] at hq
  · have : xs = [] := List.eq_nil_of_length_eq_zero (by omega)
    subst this
    repeat (first | with_reducible refine V.lI ?_ | with_reducible refine V.lS ?_ | with_reducible refine V.lP ?_ | with_reducible refine V.lL ?_ | with_reducible refine V.lM ?_ | with_reducible refine V.lB ?_ | with_reducible refine V.sC ?_ | with_reducible refine V.lG ?_ | ((with_reducible refine And.intro ?_ ?_); (· first | with_reducible exact V.hC | with_reducible exact V.hB | (simp only [V.inX, V.inR, V.inz, V.ige0, V.zi]; omega))) | simp only [V.nptr_eq, V.vBool_mk, V.vInt_mk, V.vStr_mk, V.vPtr_mk, V.vMap_mk, V.vSlice_mk, V.bnot_eq, V.nilCk_mk, V.aadd_mk, V.size_alloc, V.size_drew, V.size_setCell, V.nmul_eq, V.inat_nat, V.inat_lit, Nat.mul_one, Nat.reduceMul, Nat.reduceAdd, V.and_assoc', V.true_and', V.ifB_t, V.ifB_f, V.isNil_some, V.isNil_none, Bool.not_true, Bool.not_false, Nat.zero_add, Nat.add_zero])
    refine sum_spec _ (by decide) _ _ ?_
    intro w1 k1
    simp only [V.nptr_eq, V.vBool_mk, V.vInt_mk, V.vStr_mk, V.vPtr_mk, V.vMap_mk, V.vSlice_mk, V.bnot_eq, V.nilCk_mk, V.aadd_mk, V.size_alloc, V.size_drew, V.size_setCell, V.nmul_eq, V.inat_nat, V.inat_lit, Nat.mul_one, Nat.reduceMul, Nat.reduceAdd, V.and_assoc', V.true_and', V.ifB_t, V.ifB_f, V.isNil_some, V.isNil_none, Bool.not_true, Bool.not_false, Nat.zero_add, Nat.add_zero]
    exact hc w1 (V.Kp.trans V.kp k1)
  subst hn
  have hpos : 0 < xs.length := by omega
  repeat (first | with_reducible refine V.lI ?_ | with_reducible refine V.lS ?_ | with_reducible refine V.lP ?_ | with_reducible refine V.lL ?_ | with_reducible refine V.lM ?_ | with_reducible refine V.lB ?_ | with_reducible refine V.sC ?_ | with_reducible refine V.lG ?_ | ((with_reducible refine And.intro ?_ ?_); (· first | with_reducible exact V.hC | with_reducible exact V.hB | (simp only [V.inX, V.inR, V.inz, V.ige0, V.zi]; omega))) | simp only [V.nptr_eq, V.vBool_mk, V.vInt_mk, V.vStr_mk, V.vPtr_mk, V.vMap_mk, V.vSlice_mk, V.bnot_eq, V.nilCk_mk, V.aadd_mk, V.size_alloc, V.size_drew, V.size_setCell, V.nmul_eq, V.inat_nat, V.inat_lit, Nat.mul_one, Nat.reduceMul, Nat.reduceAdd, V.and_assoc', V.true_and', V.ifB_t, V.ifB_f, V.isNil_some, V.isNil_none, Bool.not_true, Bool.not_false, Nat.zero_add, Nat.add_zero])
  have e1 : V.isub .i64 (V.zi xs.length) 1 = ((xs.length - 1 : Nat) : Int) := by unfold V.zi; rw [V.isub_i64 (by omega) (by omega)]; omega
  rw [e1]
  have hs1 := hs.keep (V.Kp.alloc (V.Kp.alloc (V.Kp.refl V.Nil w) (.cells tblC 29)) (.cells #[.int .i64 m, .slice p xs.length c] 33))
  have hxl : xs.length - 1 < xs.length := by omega
  refine hs1.loadA rfl (List.getElem?_eq_getElem hxl) (fun pb po hp => ?_)
  repeat (first | with_reducible refine V.lI ?_ | with_reducible refine V.lS ?_ | with_reducible refine V.lP ?_ | with_reducible refine V.lL ?_ | with_reducible refine V.lM ?_ | with_reducible refine V.lB ?_ | with_reducible refine V.sC ?_ | with_reducible refine V.lG ?_ | ((with_reducible refine And.intro ?_ ?_); (· first | with_reducible exact V.hC | with_reducible exact V.hB | (simp only [V.inX, V.inR, V.inz, V.ige0, V.zi]; omega))) | simp only [V.nptr_eq, V.vBool_mk, V.vInt_mk, V.vStr_mk, V.vPtr_mk, V.vMap_mk, V.vSlice_mk, V.bnot_eq, V.nilCk_mk, V.aadd_mk, V.size_alloc, V.size_drew, V.size_setCell, V.nmul_eq, V.inat_nat, V.inat_lit, Nat.mul_one, Nat.reduceMul, Nat.reduceAdd, V.and_assoc', V.true_and', V.ifB_t, V.ifB_f, V.isNil_some, V.isNil_none, Bool.not_true, Bool.not_false, Nat.zero_add, Nat.add_zero])
  rw [e1]
  refine And.intro (by unfold V.inR; omega) ?_
  refine named fun W hW => ?_
  have c0 : V.Blk W w.heap.size tblC 29 := by rw [hW]; exact V.blk
  have c2 : V.Blk W (w.heap.size + 1 + 1) #[.string xs[xs.length - 1]] 9 := by rw [hW]; exact V.bto
  have ck : V.Kp V.Nil w W := by rw [hW]; exact V.kp
  have cz : W.heap.size = w.heap.size + 3 := by rw [hW]; simp only [V.size_alloc, V.size_drew, V.size_setCell]
  clear hW
  have hsl : StrAt W (V.slAdr p c 0 1) xs.dropLast := by
    have := ((hs.keep ck).take (xs.length - 1)).drop (c := c) (by rw [List.length_take]; omega) 0
    rw [List.drop_zero] at this
    rw [List.dropLast_eq_take]; exact this
  refine backward_spec _ _ _ _ _ ?_
  rw [show V.nsub (V.inat ((xs.length - 1 : Nat) : Int)) 0 = xs.length - 1 from rfl]
  obtain ⟨W', hW'⟩ : ∃ W', W' = W.alloc (.cells #[.slice (V.slAdr p c 0 1) (xs.length - 1) (V.nsub c 0)] 22) := ⟨_, rfl⟩
  have k1 : V.Kp V.Nil W W' := by rw [hW']; exact V.kp
  have c3 : V.Blk W' W.heap.size #[.slice (V.slAdr p c 0 1) (xs.length - 1) (V.nsub c 0)] 22 := by rw [hW']; exact V.blk
  have cz' : W'.heap.size = w.heap.size + 4 := by rw [hW']; simp only [V.size_alloc, cz]
  rw [← hW'] at *
  clear hW'
  have hdl : xs.dropLast.length = xs.length - 1 := List.length_dropLast
  have hpb : ∀ b, V.blk? p = some b → b < w.heap.size := by
    intro b hb
    rcases hs with h | ⟨b', o, h, hb', _⟩
    · rw [h] at hpos; simp at hpos
    · rw [h] at hb; cases hb; exact hb'
  refine rf_seq (O := V.Nil) (R := fun i => i = W.heap.size ∨ V.blk? (V.slAdr p c 0 1) = some i) (backward_seq xs.dropLast (by omega) _ _ _ hdl.symm W' _ c3 (hsl.keep k1)) (by kernel_rfl) (w.heap.size + 4) cz' (fun b hb => hb.elim)
    (fun b hb => by
      rcases hb with e | e
      · omega
      · rw [slAdr_blk] at e
        have := hpb b e; omega)
    (fun k w' => V.Blk w' w.heap.size tblC 29 ∧ V.Blk w' (w.heap.size + 1 + 1) #[.string (Mk.foldR (xs.drop (xs.length - 1 - k)))] 9 ∧ V.Kp V.Nil w w') (fun _ _ => False) ?_ ?_ (fun _ _ _ h => h.elim) ?_ ?_ (fun _ _ h => h.elim)
  · refine ⟨V.Kp.blk k1 c0 (fun e => e), ?_, V.Kp.trans ck k1⟩
    have e : Mk.foldR (xs.drop (xs.length - 1 - 0)) = xs[xs.length - 1] := by
      rw [Nat.sub_zero, List.drop_eq_getElem_cons hxl, List.drop_of_length_le (by omega)]; rfl
    rw [e]
    exact V.Kp.blk k1 c2 (fun e => e)
  · rintro k w1 w2 ⟨h0, h2, h3⟩ hk
    refine ⟨V.Kp.blk hk h0 ?_, V.Kp.blk hk h2 ?_, V.Kp.then h3 hk ?_⟩
    · rintro (e | e | e)
      · exact e
      · omega
      · omega
    · rintro (e | e | e)
      · exact e
      · omega
      · omega
    · rintro i hi (e | e | e)
      · exact e
      · omega
      · omega
  · rintro fn rec hrec k x w1 hx ⟨h0, h2, h3⟩ hl hd hsz Cq hgo -
    have hk : k < xs.length - 1 := by
      have := (List.getElem?_eq_some_iff.1 hx).1
      rw [bItems, List.length_map, List.length_range, hdl] at this
      exact this
    rw [bItems, List.getElem?_map, List.getElem?_range (by omega), hdl] at hx
    cases hx
    refine yield2 30 31 hrec hl (by kernel_rfl) (by simp only [List.setIfInBounds_toArray, List.set_cons_succ, List.set_cons_zero]; rfl) ?_
    rw [rb_ranges_Root_0]
    refine And.intro hl ?_
    have d0 := h0.putO (r := w.heap.size + 4 + 1) (by omega) (.loop (rec .busy none))
    have d2 := h2.putO (r := w.heap.size + 4 + 1) (by omega) (.loop (rec .busy none))
    have dl := hl.put (rec .busy none)
    have dk : V.Kp (V.One (w.heap.size + 4 + 1)) w1 (V.putO w1 (w.heap.size + 4 + 1) (.loop (rec .busy none))) := V.Kp.putO (S := V.One _) (V.Kp.refl _ _) (.inl rfl) _
    generalize V.putO w1 (w.heap.size + 4 + 1) (.loop (rec .busy none)) = w2 at *
    repeat (first | with_reducible refine V.lI ?_ | with_reducible refine V.lS ?_ | with_reducible refine V.lP ?_ | with_reducible refine V.lL ?_ | with_reducible refine V.lM ?_ | with_reducible refine V.lB ?_ | with_reducible refine V.sC ?_ | with_reducible refine V.lG ?_ | ((with_reducible refine And.intro ?_ ?_); (· first | with_reducible exact V.hC | with_reducible exact V.hB | (simp only [V.inX, V.inR, V.inz, V.ige0, V.zi]; omega))) | simp only [V.nptr_eq, V.vBool_mk, V.vInt_mk, V.vStr_mk, V.vPtr_mk, V.vMap_mk, V.vSlice_mk, V.bnot_eq, V.nilCk_mk, V.aadd_mk, V.size_alloc, V.size_drew, V.size_setCell, V.nmul_eq, V.inat_nat, V.inat_lit, Nat.mul_one, Nat.reduceMul, Nat.reduceAdd, V.and_assoc', V.true_and', V.ifB_t, V.ifB_f, V.isNil_some, V.isNil_none, Bool.not_true, Bool.not_false, Nat.zero_add, Nat.add_zero])
    have hx2 : (xs.getD (xs.length - 1 - 1 - k) ⟨#[]⟩).size ≤ 1000000 := by
      rw [List.getD_eq_getElem?_getD, List.getElem?_eq_getElem (by omega)]
      exact hB _ (List.getElem_mem _)
    have hx3 : xs.dropLast.getD (xs.length - 1 - 1 - k) ⟨#[]⟩ = xs.getD (xs.length - 1 - 1 - k) ⟨#[]⟩ := by
      rw [List.getD_eq_getElem?_getD, List.getD_eq_getElem?_getD, List.dropLast_eq_take, List.getElem?_take, if_pos (by omega)]
    rw [hx3]
    have hf : (Mk.foldR (xs.drop (xs.length - 1 - k))).size ≤ 1000000 := Mk.foldR_size (by omega) _ (fun x hx => hB x (List.mem_of_mem_drop hx))
    refine rpair_spec _ _ (by omega) (by omega) _ _ ?_
    intro w3 k3
    rw [← getLast_foldR (by omega)]
    have e2 := V.Kp.blk k3 d2 (fun e => e)
    have el := V.Kp.lblk k3 dl (fun e => e)
    simp only [V.nptr_eq, V.vBool_mk, V.vInt_mk, V.vStr_mk, V.vPtr_mk, V.vMap_mk, V.vSlice_mk, V.bnot_eq, V.nilCk_mk, V.aadd_mk, V.size_alloc, V.size_drew, V.size_setCell, V.nmul_eq, V.inat_nat, V.inat_lit, Nat.mul_one, Nat.reduceMul, Nat.reduceAdd, V.and_assoc', V.true_and', V.ifB_t, V.ifB_f, V.isNil_some, V.isNil_none, Bool.not_true, Bool.not_false, Nat.zero_add, Nat.add_zero]
    refine V.sC ?_ e2 (by show 0 < 1; omega)
    refine And.intro (el.set _ _) ?_
    have kt : V.Kp (fun b => b = w.heap.size + 1 + 1 ∨ b = w.heap.size + 4 + 1) w1 (V.putO (w3.setCell ⟨w.heap.size + 1 + 1, 0, none⟩ (.string (Mk.foldR (xs.drop (xs.length - 1 - (k + 1)))))) (w.heap.size + 4 + 1) (.loop (rec .ready none))) :=
      V.Kp.putO (V.Kp.set (V.Kp.trans (dk.mono fun _ _ e => .inr e) (k3.mono fun _ _ e => e.elim)) (.inl (.inl rfl)) _) (.inl (.inr rfl)) _
    refine hgo _ _ kt ?_ ⟨?_, ?_, ?_⟩ ((el.set _ _).put _)
    · intro b hb
      refine ⟨?_, by omega⟩
      rintro (e | e)
      · omega
      · rw [slAdr_blk] at e
        have := hpb b e; omega
    · exact V.Kp.blk kt h0 (by omega)
    · exact (e2.set 0 _).putO (by omega) _
    · exact V.Kp.then h3 kt (fun i hi e => by omega)
  · rintro w' ⟨h0, h2, h3⟩ hd hsz
    rw [bItems, List.length_map, List.length_range, hdl, Nat.sub_self, List.drop_zero] at h2
    show V.ldStr _ _ _
    refine V.lS ?_ h2 rfl
    rw [V.finD_one]
    refine And.intro hd ?_
    exact hc _ (V.Kp.putO h3 (.inr (by omega)) _)
end Go.Proofs.Ytboifenkbhfnfaa
