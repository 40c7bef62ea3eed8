/- slices.Collect of numbers; Stretches. -/
import Derived.Test.YtboifenkbhfnfaaRan
set_option linter.all false
set_option maxRecDepth 100000
namespace Go.Proofs.Ytboifenkbhfnfaa
open Go
theorem appendSeq_spec {n : FuncId} {captured : Array Value} {O R : Nat → Prop} (xs : List Nat) (hlen : xs.length ≤ 1000) (w : World)
    (hs : Seq n captured.toList O R (xs.map fun (x : Nat) => [Value.int .i64 (x : Int)]) w) (hn : V.callable Try.prog n = true) (hO : ∀ b, O b → b < w.heap.size) (hR : ∀ b, R b → b < w.heap.size)
    (C : Value → World → Prop) (hc : ∀ p c w', IRow w' p xs.length c xs → New w.heap.size p → V.Kp O w w' → C (.slice p xs.length c) w') :
    V.CallsR Try.prog 90 #[.slice none 0 0, .func (.func n) #[] captured] w C := by
  refine V.calls_of_fnVC (args := [_, _]) Try.func90 ?_
  rw [vc_slices_AppendSeq_int]
  have hz : (w.alloc (.cells #[.slice none 0 0] 75)).heap.size = w.heap.size + 1 := V.size_alloc _ _
  have hs' : Seq n captured.toList O R (xs.map fun (x : Nat) => [Value.int .i64 (x : Int)]) (w.alloc (.cells #[.slice none 0 0] 75)) := fun v w0 I St C hk => hs v w0 I St C (V.Kp.trans (V.Kp.alloc (V.Kp.refl _ _) _) hk)
  refine rf_seq (O := O) (R := R) hs' hn (w.heap.size + 1) hz (fun b hb => by have := hO b hb; omega) (fun b hb => by have := hR b hb; omega)
    (fun k w' => ∃ p c, V.Blk w' w.heap.size #[.slice p k c] 75 ∧ IRow w' p k c (xs.take k) ∧ New (w.heap.size + 3) p ∧ V.Kp O w w') (fun _ _ => False) ?_ ?_ (fun _ _ _ h => h.elim) ?_ ?_ (fun _ _ h => h.elim)
  · exact ⟨none, 0, V.Blk.new _ _ _, V.Row.nil _ _ _, New.none _, V.Kp.alloc (V.Kp.refl _ _) _⟩
  · rintro k w1 w2 ⟨p, c, h1, h2, h3, h4⟩ hk
    refine ⟨p, c, V.Kp.blk hk h1 ?_, h2.kp hk ?_, h3, V.Kp.then h4 hk ?_⟩
    · rintro (h | h | h)
      · have := hO _ h; omega
      · omega
      · omega
    · intro b hb
      have := h3 b hb
      rintro (h | h | h)
      · have := hO _ h; omega
      · omega
      · omega
    · rintro i hi (h | h | h)
      · exact h
      · omega
      · omega
  · rintro fn rec hrec k x w1 hx ⟨p, c, h1, h2, h3, h4⟩ hl hd hsz Cq hgo _
    rw [List.getElem?_map] at hx
    obtain ⟨y, hy, rfl⟩ : ∃ y, xs[k]? = some y ∧ x = [Value.int .i64 (y : Int)] := by
      cases h : xs[k]? with
      | none => rw [h] at hx; cases hx
      | some y => rw [h] at hx; cases hx; exact ⟨y, rfl, rfl⟩
    have hk : k < xs.length := (List.getElem?_eq_some_iff.1 hy).1
    (try simp only [V.nptr_eq, V.vBool_mk, V.vInt_mk, V.vStr_mk, V.vPtr_mk, V.vMap_mk, V.vSlice_mk, V.bnot_eq, V.nilCk_mk, V.aadd_mk, V.size_alloc, V.size_drew, V.size_setCell, V.nmul_eq, V.inat_nat, V.inat_lit, Nat.mul_one, Nat.reduceMul, Nat.reduceAdd, V.and_assoc', V.true_and', V.ifB_t, V.ifB_f, V.isNil_some, V.isNil_none, Bool.not_true, Bool.not_false, Nat.zero_add, Nat.add_zero])
    refine yield_rec #[.slice none 0 0, .func (.func n) #[] captured, .pointer (some ⟨w.heap.size, 0, none⟩), undef, .slice none 0 0, undef, .func (.func n) #[] captured, .int .i64 (y : Int), undef, undef, undef, undef, undef] hrec hl (by kernel_rfl) (by kernel_rfl) ?_
    intro hl
    rw [rb_slices_AppendSeq_int_0]
    refine And.intro hl ?_
    have g1 := h1.putO (r := w.heap.size + 1 + 1) (by omega) (.loop (rec .busy none))
    have gl := hl.put (rec .busy none)
    have gk : V.Kp (V.One (w.heap.size + 1 + 1)) w1 (V.putO w1 (w.heap.size + 1 + 1) (.loop (rec .busy none))) := V.Kp.putO (S := V.One _) (V.Kp.refl _ _) (.inl rfl) _
    have g2 := h2.kp gk (fun b hb e => by have := h3 b hb; have e : b = _ := e; omega)
    have gz := V.size_putO w1 (w.heap.size + 1 + 1) (.loop (rec .busy none))
    generalize V.putO w1 (w.heap.size + 1 + 1) (.loop (rec .busy none)) = w2 at *
    (try simp only [V.nptr_eq, V.vBool_mk, V.vInt_mk, V.vStr_mk, V.vPtr_mk, V.vMap_mk, V.vSlice_mk, V.bnot_eq, V.nilCk_mk, V.aadd_mk, V.size_alloc, V.size_drew, V.size_setCell, V.nmul_eq, V.inat_nat, V.inat_lit, Nat.mul_one, Nat.reduceMul, Nat.reduceAdd, V.and_assoc', V.true_and', V.ifB_t, V.ifB_f, V.isNil_some, V.isNil_none, Bool.not_true, Bool.not_false, Nat.zero_add, Nat.add_zero])
    refine V.lL ?_ g1 rfl
    refine app_int g2 (by omega) y rfl ?_
    intro p3 c3 w3 g3 k3 at3
    have i1 := V.Kp.blk k3 g1 (fun e => by have := h3 _ e; omega)
    have il := V.Kp.lblk k3 gl (fun e => by have := h3 _ e; omega)
    have n3 : New (w.heap.size + 3) p3 := fun b hb => by
      rcases at3 b hb with e | e
      · exact h3 b e
      · omega
    (try simp only [V.nptr_eq, V.vBool_mk, V.vInt_mk, V.vStr_mk, V.vPtr_mk, V.vMap_mk, V.vSlice_mk, V.bnot_eq, V.nilCk_mk, V.aadd_mk, V.size_alloc, V.size_drew, V.size_setCell, V.nmul_eq, V.inat_nat, V.inat_lit, Nat.mul_one, Nat.reduceMul, Nat.reduceAdd, V.and_assoc', V.true_and', V.ifB_t, V.ifB_f, V.isNil_some, V.isNil_none, Bool.not_true, Bool.not_false, Nat.zero_add, Nat.add_zero])
    refine V.sC ?_ i1 (by show 0 < 1; omega)
    have hk2 : V.Kp (fun b => b = w.heap.size + 1 + 1 ∨ V.blk? p = some b ∨ b = w.heap.size) w1 (V.putO (w3.setCell ⟨w.heap.size, 0, none⟩ (.slice p3 (k + 1) c3)) (w.heap.size + 1 + 1) (.loop (rec .ready none))) := by
      refine V.Kp.putO (V.Kp.set (V.Kp.trans (gk.mono fun _ _ h => .inl h) (k3.mono fun _ _ h => .inr (.inl h))) (.inl (.inr (.inr rfl))) _) (.inl (.inl rfl)) _
    refine And.intro (il.set _ _) (hgo _ _ hk2 ?_ ⟨p3, c3, ?_, ?_, n3, ?_⟩ ((il.set _ _).put _))
    · rintro b (e | e | e)
      · exact ⟨fun h => by have := hR b h; omega, by omega⟩
      · have := h3 b e
        exact ⟨fun h => by have := hR b h; omega, by omega⟩
      · exact ⟨fun h => by have := hR b h; omega, by omega⟩
    · exact (i1.set 0 _).putO (by omega) _
    · have e : (xs.take (k + 1)) = xs.take k ++ [y] := by
        rw [List.take_succ_eq_append_getElem hk]
        rw [List.getElem?_eq_getElem hk] at hy
        cases hy; rfl
      rw [e]
      have hkk : V.Kp (fun b => b = w.heap.size ∨ b = w.heap.size + 1 + 1) w3 (V.putO (w3.setCell ⟨w.heap.size, 0, none⟩ (.slice p3 (k + 1) c3)) (w.heap.size + 1 + 1) (.loop (rec .ready none))) := V.Kp.putO (V.Kp.set (V.Kp.refl _ _) (.inl (.inl rfl)) _) (.inl (.inr rfl)) _
      refine g3.kp hkk ?_
      intro b hb
      have := n3 b hb
      omega
    · refine V.Kp.then h4 hk2 ?_
      rintro i hi (e | e | e)
      · omega
      · have := h3 i e; omega
      · omega
  · rintro w' ⟨p, c, h1, h2, h3, h4⟩ hd hsz
    rw [List.length_map] at *
    show V.nilCk _ _
    (try simp only [V.nptr_eq, V.vBool_mk, V.vInt_mk, V.vStr_mk, V.vPtr_mk, V.vMap_mk, V.vSlice_mk, V.bnot_eq, V.nilCk_mk, V.aadd_mk, V.size_alloc, V.size_drew, V.size_setCell, V.nmul_eq, V.inat_nat, V.inat_lit, Nat.mul_one, Nat.reduceMul, Nat.reduceAdd, V.and_assoc', V.true_and', V.ifB_t, V.ifB_f, V.isNil_some, V.isNil_none, Bool.not_true, Bool.not_false, Nat.zero_add, Nat.add_zero])
    refine V.lL ?_ h1 rfl
    rw [V.finD_one]
    refine And.intro hd ?_
    have hkk : V.Kp (V.One (w.heap.size + 1)) w' (V.putO w' (w.heap.size + 1) (.deferred none)) := V.Kp.putO (S := V.One _) (V.Kp.refl _ _) (.inl rfl) _
    refine hc p c _ ?_ (h3.le (by omega)) ?_
    · rw [List.take_of_length_le (by omega)] at h2
      refine h2.kp hkk ?_
      intro b hb e
      have := h3 b hb
      have e : b = _ := e
      omega
    · exact V.Kp.then h4 hkk (fun i hi e => by have e : i = _ := e; omega)
theorem stretches_spec (n : Nat) (hn : n < 256) (w : World) (C : Value → World → Prop) (hc : ∀ p c w', IRow w' p (Mk.pows n).length c (Mk.pows n) → New w.heap.size p → V.Kp V.Nil w w' → C (.slice p (Mk.pows n).length c) w') :
    V.CallsR Try.prog 35 #[.int .i64 (n : Int)] w C := by
  refine V.calls_of_fnVC (args := [_]) Try.func35 ?_
  rw [vc_ranges_Stretches]
  refine powers_spec _ _ _ ?_
  refine V.calls_of_fnVC (args := [_]) Try.func62 ?_
  rw [vc_slices_Collect_int]
  have hz : (w.alloc (.cells #[.int .i64 (n : Int)] 3)).heap.size = w.heap.size + 1 := V.size_alloc _ _
  refine appendSeq_spec (O := V.One w.heap.size) (R := V.One w.heap.size) (Mk.pows n) (by have := Mk.pows_le n; omega) _ (powers_seq n hn _ _ (V.Blk.new _ _ _)) (by kernel_rfl) (fun b hb => by have hb : b = _ := hb; omega) (fun b hb => by have hb : b = _ := hb; omega) _ ?_
  intro p c w' hr hp hk
  simp only [V.nptr_eq, V.vBool_mk, V.vInt_mk, V.vStr_mk, V.vPtr_mk, V.vMap_mk, V.vSlice_mk, V.bnot_eq, V.nilCk_mk, V.aadd_mk, V.size_alloc, V.size_drew, V.size_setCell, V.nmul_eq, V.inat_nat, V.inat_lit, Nat.mul_one, Nat.reduceMul, Nat.reduceAdd, V.and_assoc', V.true_and', V.ifB_t, V.ifB_f, V.isNil_some, V.isNil_none, Bool.not_true, Bool.not_false, Nat.zero_add, Nat.add_zero]
  refine hc p c w' hr (hp.le (by omega)) ?_
  exact V.Kp.then (V.Kp.alloc (V.Kp.refl _ _) _) hk (fun i hi e => by have e : i = _ := e; omega)
end Go.Proofs.Ytboifenkbhfnfaa
