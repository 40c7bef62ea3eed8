/- tile.Count, tile.Width, and the reference's. -/
import Derived.Test.YtboifenkbhfnfaaVTile
import Derived.Test.YtboifenkbhfnfaaRan
import Derived.Test.YtboifenkbhfnfaaTileP
set_option linter.all false
set_option maxRecDepth 100000
namespace Go.Proofs.Ytboifenkbhfnfaa
open Go
def lItems (n : Nat) : List (List Value) := (List.range (Tl.ll n)).map fun (k : Nat) => [Value.int .i64 (k : Int), Value.int .i64 ((n / 4 ^ k : Nat) : Int)]
theorem levels_spec (n : Int) (w : World) (C : Value → World → Prop) (hc : C (.func (.func 112) #[] #[.pointer (some ⟨w.heap.size, 0, none⟩)]) (w.alloc (.cells #[.int .i64 n] 3))) :
    V.CallsR Try.prog 97 #[.int .i64 n] w C := by
  refine V.calls_of_fnVC (args := [_]) Try.func97 ?_
  rw [vc_tile_levels]
  exact hc
theorem in_spec (n : Int) (w : World) (C : Value → World → Prop) (hc : C (.bool (decide (0 ≤ n ∧ n ≤ 64))) w) :
    V.CallsR Try.prog 96 #[.int .i64 n] w C := by
  refine V.calls_of_fnVC (args := [_]) Try.func96 ?_
  rw [vc_tile_in]
  refine V.ifB_of (fun hq => ?_) (fun hq => ?_) <;> simp only [V.ilt_t, V.ilt_f, V.ile_t, V.ile_f, V.igt_t, V.igt_f, V.ige_t, V.ige_f, V.ieq_t, V.ieq_f, V.ine_t, V.ine_f, V.isNil_t, V.isNil_f, V.bnot_eq, Bool.not_eq_true', Bool.not_eq_false', V.seq_t, V.seq_f] at hq
  · have e : V.ile n 64 = decide (0 ≤ n ∧ n ≤ 64) := by
      unfold V.ile
      rw [Bool.eq_iff_iff, decide_eq_true_eq, decide_eq_true_eq]; omega
    rw [e]; exact hc
  · rw [decide_eq_false (by omega)] at hc
    exact hc
theorem levels_seq (n : Nat) (hn : n ≤ 64) (w : World) (b : Nat) (hb : V.Blk w b #[.int .i64 (n : Int)] 3) :
    Seq 112 [.pointer (some ⟨b, 0, none⟩)] (V.One b) (V.One b) (lItems n) w := by
  intro v w0 I St C hk h0 hI hr hend hst
  refine V.calls_of_fnVC (args := [_, _]) Try.func112 ?_
  rw [vc_tile_levels_1]
  refine ⟨fun x => ⟨fun w' => ∃ k : Nat, I k w' ∧ V.Blk w' b #[.int .i64 ((n / 4 ^ k : Nat) : Int)] 3 ∧ x = (k : Int) ∧ k ≤ Tl.ll n ∧ k ≤ 100, fun w' => cellN w' b⟩, ⟨0, h0, by rw [Nat.pow_zero, Nat.div_one]; exact V.Kp.blk hk hb (fun e => e), rfl, by omega, by omega⟩, ?_⟩
  rintro _ x w1 ⟨k, hi, hb1, rfl, hk2, hk3⟩
  have hd := Nat.div_le_self n (4 ^ k)
  obtain ⟨m, hm⟩ : ∃ m, m = n / 4 ^ k := ⟨_, rfl⟩
  rw [← hm] at hb1 hd
  (try simp only [V.nptr_eq, V.vBool_mk, V.vInt_mk, V.vStr_mk, V.vPtr_mk, V.vMap_mk, V.vSlice_mk, V.bnot_eq, V.nilCk_mk, V.aadd_mk, V.size_alloc, V.size_drew, V.size_setCell, V.nmul_eq, V.inat_nat, V.inat_lit, Nat.mul_one, Nat.reduceMul, Nat.reduceAdd, V.and_assoc', V.true_and', V.ifB_t, V.ifB_f, V.isNil_some, V.isNil_none, Bool.not_true, Bool.not_false, Nat.zero_add, Nat.add_zero])
  refine V.lI ?_ hb1 rfl
  refine V.ifB_of (fun hq => ?_) (fun hq => ?_) <;> simp only [V.ilt_t, V.ilt_f, V.ile_t, V.ile_f, V.igt_t, V.igt_f, V.ige_t, V.ige_f, V.ieq_t, V.ieq_f, V.ine_t, V.ine_f, V.isNil_t, V.isNil_f, V.bnot_eq, Bool.not_eq_true', Bool.not_eq_false', V.seq_t, V.seq_f] at hq
  · have hlt : k < Tl.ll n := (Tl.lt_ll _ _).2 (by omega)
    refine V.lI ?_ hb1 rfl
    refine callV_mono' (hr k _ w1 (by rw [lItems, List.getElem?_map, List.getElem?_range hlt, Option.map_some, ← hm]) hi) ?_
    rintro r w2 ⟨hsame, hsz, ho⟩
    have hb2 : V.Blk w2 b #[.int .i64 (m : Int)] 3 := (hsame b rfl).trans hb1
    rcases ho with ⟨rfl, hi2⟩ | ⟨rfl, hs2⟩
    · (try simp only [V.nptr_eq, V.vBool_mk, V.vInt_mk, V.vStr_mk, V.vPtr_mk, V.vMap_mk, V.vSlice_mk, V.bnot_eq, V.nilCk_mk, V.aadd_mk, V.size_alloc, V.size_drew, V.size_setCell, V.nmul_eq, V.inat_nat, V.inat_lit, Nat.mul_one, Nat.reduceMul, Nat.reduceAdd, V.and_assoc', V.true_and', V.ifB_t, V.ifB_f, V.isNil_some, V.isNil_none, Bool.not_true, Bool.not_false, Nat.zero_add, Nat.add_zero])
      refine V.lI ?_ hb2 rfl
      refine And.intro (by unfold V.inz; omega) ?_
      have es : V.iquo .i64 (m : Int) 4 = ((n / 4 ^ (k + 1) : Nat) : Int) := by
        unfold V.iquo
        rw [show (4 : Int) = ((4 : Nat) : Int) from rfl, IntWalk.up_tdiv rfl rfl, hm, Nat.div_div_eq_div_mul, ← Nat.pow_succ]
        have := Nat.div_le_self n (4 ^ (k + 1))
        exact (fun (z : Nat) (hz : z ≤ n) => V.wrap_i64 (x := (z : Int)) (by omega) (by omega)) _ this
      have ek : V.iadd .i64 (k : Int) 1 = ((k + 1 : Nat) : Int) := by rw [V.iadd_i64 (by omega) (by omega)]; omega
      rw [es, ek]
      refine V.sC ?_ hb2 (by show 0 < 1; omega)
      have hb3 : V.Blk (w2.setCell ⟨b, 0, none⟩ (.int .i64 ((n / 4 ^ (k + 1) : Nat) : Int))) b #[.int .i64 ((n / 4 ^ (k + 1) : Nat) : Int)] 3 := hb2.set 0 _
      have hk4 : k ≤ 3 := by
        rcases Nat.lt_or_ge k 4 with h | h
        · omega
        · exfalso
          have : 4 ^ 4 ≤ 4 ^ k := Nat.pow_le_pow_right (by omega) h
          have : n / 4 ^ k = 0 := Nat.div_eq_of_lt (by omega)
          omega
      refine ⟨⟨k + 1, hI _ _ _ hi2 (V.Kp.set (S := V.One b) (V.Kp.refl _ _) (.inl rfl) _), hb3, rfl, by omega, by omega⟩, ?_⟩
      show cellN _ b < cellN _ b
      rw [cellN_of hb1, cellN_of hb3, Int.toNat_natCast, Int.toNat_natCast, Nat.pow_succ, ← Nat.div_div_eq_div_mul, ← hm]
      omega
    · (try simp only [V.nptr_eq, V.vBool_mk, V.vInt_mk, V.vStr_mk, V.vPtr_mk, V.vMap_mk, V.vSlice_mk, V.bnot_eq, V.nilCk_mk, V.aadd_mk, V.size_alloc, V.size_drew, V.size_setCell, V.nmul_eq, V.inat_nat, V.inat_lit, Nat.mul_one, Nat.reduceMul, Nat.reduceAdd, V.and_assoc', V.true_and', V.ifB_t, V.ifB_f, V.isNil_some, V.isNil_none, Bool.not_true, Bool.not_false, Nat.zero_add, Nat.add_zero])
      exact hst _ hs2
  · have : k = Tl.ll n := by
      rcases Nat.lt_or_ge k (Tl.ll n) with h | h
      · have := (Tl.lt_ll _ _).1 h; omega
      · omega
    subst this
    refine hend _ ?_
    rw [lItems, List.length_map, List.length_range]
    exact hi
theorem count_spec (n : Nat) (hn : n ≤ 64) (lv : Int) (w : World) (C : Value → World → Prop) (hc : ∀ w', V.Kp V.Nil w w' → C (.int .i64 (Tl.cnt n lv : Int)) w') :
    V.CallsR Try.prog 74 #[.int .i64 (n : Int), .int .i64 lv] w C := by
  refine V.calls_of_fnVC (args := [_, _]) Try.func74 ?_
  rw [vc_tile_Count]
  refine in_spec _ _ _ ?_
  rw [decide_eq_true (by omega)]
  simp only [V.nptr_eq, V.vBool_mk, V.vInt_mk, V.vStr_mk, V.vPtr_mk, V.vMap_mk, V.vSlice_mk, V.bnot_eq, V.nilCk_mk, V.aadd_mk, V.size_alloc, V.size_drew, V.size_setCell, V.nmul_eq, V.inat_nat, V.inat_lit, Nat.mul_one, Nat.reduceMul, Nat.reduceAdd, V.and_assoc', V.true_and', V.ifB_t, V.ifB_f, V.isNil_some, V.isNil_none, Bool.not_true, Bool.not_false, Nat.zero_add, Nat.add_zero]
  refine named fun W hW => ?_
  have c0 : V.Blk W w.heap.size #[.int .i64 lv] 3 := by rw [hW]; exact V.blk
  have c1 : V.Blk W (w.heap.size + 1) #[.int .i64 0] 3 := by rw [hW]; exact V.blk
  have ck : V.Kp V.Nil w W := by rw [hW]; exact V.kp
  have cz : W.heap.size = w.heap.size + 2 := by rw [hW]; simp only [V.size_alloc, V.size_drew, V.size_setCell]
  clear hW
  refine levels_spec _ _ _ ?_
  obtain ⟨W', hW'⟩ : ∃ W', W' = W.alloc (.cells #[.int .i64 (n : Int)] 3) := ⟨_, rfl⟩
  have k1 : V.Kp V.Nil W W' := by rw [hW']; exact V.kp
  have c2 : V.Blk W' W.heap.size #[.int .i64 (n : Int)] 3 := by rw [hW']; exact V.blk
  have cz' : W'.heap.size = w.heap.size + 3 := by rw [hW']; simp only [V.size_alloc, cz]
  rw [← hW'] at *
  clear hW'
  refine rf_seq (O := V.One W.heap.size) (R := V.One W.heap.size) (levels_seq n hn _ _ c2) (by kernel_rfl) (w.heap.size + 3) cz' (fun b hb => by have hb : b = _ := hb; omega) (fun b hb => by have hb : b = _ := hb; omega)
    (fun k w' => V.Blk w' w.heap.size #[.int .i64 lv] 3 ∧ V.Blk w' (w.heap.size + 1) #[.int .i64 0] 3 ∧ (∀ j : Nat, j < k → (j : Int) ≠ lv) ∧ V.Kp V.Nil w w')
    (fun pe w' => pe = some .ret ∧ V.Blk w' (w.heap.size + 1) #[.int .i64 (Tl.cnt n lv : Int)] 3 ∧ V.Kp V.Nil w w') ?_ ?_ ?_ ?_ ?_ ?_
  · exact ⟨V.Kp.blk k1 c0 (fun e => e), V.Kp.blk k1 c1 (fun e => e), fun j hj => by omega, V.Kp.trans ck k1⟩
  · rintro k w1 w2 ⟨h0, h1, h2, h3⟩ hk
    refine ⟨V.Kp.blk hk h0 ?_, V.Kp.blk hk h1 ?_, h2, V.Kp.then h3 hk ?_⟩
    · rintro (e | e | e)
      · have e : _ = _ := e
        omega
      · omega
      · omega
    · rintro (e | e | e)
      · have e : _ = _ := e
        omega
      · omega
      · omega
    · rintro i hi (e | e | e)
      · have e : i = _ := e
        omega
      · omega
      · omega
  · rintro pe w1 w2 ⟨h0, h1, h2⟩ hk
    exact ⟨h0, V.Kp.blk hk h1 (fun e => by have e : _ = _ := e; omega), V.Kp.then h2 hk (fun i hi e => by have e : i = _ := e; omega)⟩
  · rintro fn rec hrec k x w1 hx ⟨h0, h1, h2, h3⟩ hl hd hsz Cq hgo hstop
    have hk : k < Tl.ll n := by
      have := (List.getElem?_eq_some_iff.1 hx).1
      rw [lItems, List.length_map, List.length_range] at this
      exact this
    rw [lItems, List.getElem?_map, List.getElem?_range hk] at hx
    cases hx
    refine yield2 11 12 hrec hl (by kernel_rfl) (by simp only [List.setIfInBounds_toArray, List.set_cons_succ, List.set_cons_zero]; rfl) ?_
    rw [rb_tile_Count_0]
    refine And.intro hl ?_
    have d0 := h0.putO (r := w.heap.size + 3 + 1) (by omega) (.loop (rec .busy none))
    have d1 := h1.putO (r := w.heap.size + 3 + 1) (by omega) (.loop (rec .busy none))
    have dl := hl.put (rec .busy none)
    have dk : V.Kp (V.One (w.heap.size + 3 + 1)) w1 (V.putO w1 (w.heap.size + 3 + 1) (.loop (rec .busy none))) := V.Kp.putO (S := V.One _) (V.Kp.refl _ _) (.inl rfl) _
    generalize V.putO w1 (w.heap.size + 3 + 1) (.loop (rec .busy none)) = w2 at *
    (try simp only [V.nptr_eq, V.vBool_mk, V.vInt_mk, V.vStr_mk, V.vPtr_mk, V.vMap_mk, V.vSlice_mk, V.bnot_eq, V.nilCk_mk, V.aadd_mk, V.size_alloc, V.size_drew, V.size_setCell, V.nmul_eq, V.inat_nat, V.inat_lit, Nat.mul_one, Nat.reduceMul, Nat.reduceAdd, V.and_assoc', V.true_and', V.ifB_t, V.ifB_f, V.isNil_some, V.isNil_none, Bool.not_true, Bool.not_false, Nat.zero_add, Nat.add_zero])
    refine V.lI ?_ d0 rfl
    refine V.ifB_of (fun hq => ?_) (fun hq => ?_) <;> simp only [V.ilt_t, V.ilt_f, V.ile_t, V.ile_f, V.igt_t, V.igt_f, V.ige_t, V.ige_f, V.ieq_t, V.ieq_f, V.ine_t, V.ine_f, V.isNil_t, V.isNil_f, V.bnot_eq, Bool.not_eq_true', Bool.not_eq_false', V.seq_t, V.seq_f] at hq
    · refine V.sC ?_ d1 (by show 0 < 1; omega)
      have kt : V.Kp (fun b => b = w.heap.size + 1 ∨ b = w.heap.size + 3 + 1) w1 (V.putO (w2.setCell ⟨w.heap.size + 1, 0, none⟩ (.int .i64 ((n / 4 ^ k : Nat) : Int))) (w.heap.size + 3 + 1) (.loop (rec .done (some .ret)))) :=
        V.Kp.putO (V.Kp.set (dk.mono fun _ _ e => .inr e) (.inl (.inl rfl)) _) (.inl (.inr rfl)) _
      refine And.intro (dl.set _ _) (hstop _ _ _ kt ?_ ⟨rfl, ?_, V.Kp.then h3 kt (fun i hi e => by omega)⟩ ((dl.set _ _).put _))
      · intro b hb
        exact ⟨fun e => by have e : b = _ := e; omega, by omega⟩
      · have e : Tl.cnt n lv = n / 4 ^ k := by rw [← hq]; exact Tl.cnt_nat n k
        rw [e]
        exact (d1.set 0 _).putO (by omega) _
    · have kt : V.Kp (V.One (w.heap.size + 3 + 1)) w1 (V.putO w2 (w.heap.size + 3 + 1) (.loop (rec .ready none))) := V.Kp.putO (S := V.One _) dk (.inl rfl) _
      refine And.intro dl (hgo _ _ kt ?_ ⟨d0.putO (by omega) _, d1.putO (by omega) _, ?_, V.Kp.then h3 kt (fun i hi e => by have e : i = _ := e; omega)⟩ (dl.put _))
      · intro b hb
        have hb : b = _ := hb
        exact ⟨fun e => by have e : b = _ := e; omega, by omega⟩
      · intro j hj
        rcases Nat.lt_succ_iff_lt_or_eq.1 hj with h | rfl
        · exact h2 j h
        · exact hq
  · rintro w' ⟨h0, h1, h2, h3⟩ hd hsz
    rw [lItems, List.length_map, List.length_range] at h2
    simp only [V.rfK]
    refine V.sC ?_ h1 (by show 0 < 1; omega)
    rw [V.finD_one]
    refine And.intro (hd.set _ _) ?_
    refine V.lI ?_ ((h1.set 0 _).putO (by omega) _) rfl
    rw [Tl.cnt_none h2] at hc
    exact hc _ (V.Kp.putO (V.Kp.set h3 (.inr (by omega)) _) (.inr (by omega)) _)
  · rintro pe w' ⟨rfl, h1, h2⟩ hd hsz
    simp only [V.rfK]
    rw [V.finD_one]
    refine And.intro hd ?_
    refine V.lI ?_ (h1.putO (by omega) _) rfl
    exact hc _ (V.Kp.putO h2 (.inr (by omega)) _)
theorem width_spec (n : Nat) (hn : n ≤ 64) (lv ix : Int) (w : World) (C : Value → World → Prop) (hc : ∀ w', V.Kp V.Nil w w' → C (.int .i64 (Tl.wd n lv ix : Int)) w') :
    V.CallsR Try.prog 46 #[.int .i64 (n : Int), .agg #[.int .i64 lv, .int .i64 ix]] w C := by
  refine V.calls_of_fnVC (args := [_, _]) Try.func46 ?_
  rw [vc_tile_Width]
  simp only [V.nptr_eq, V.vBool_mk, V.vInt_mk, V.vStr_mk, V.vPtr_mk, V.vMap_mk, V.vSlice_mk, V.bnot_eq, V.nilCk_mk, V.aadd_mk, V.size_alloc, V.size_drew, V.size_setCell, V.nmul_eq, V.inat_nat, V.inat_lit, Nat.mul_one, Nat.reduceMul, Nat.reduceAdd, V.and_assoc', V.true_and', V.ifB_t, V.ifB_f, V.isNil_some, V.isNil_none, Bool.not_true, Bool.not_false, Nat.zero_add, Nat.add_zero]
  repeat (first | with_reducible refine V.lI ?_ | with_reducible refine V.lS ?_ | with_reducible refine V.lP ?_ | with_reducible refine V.lL ?_ | with_reducible refine V.lM ?_ | with_reducible refine V.lB ?_ | with_reducible refine V.sC ?_ | with_reducible refine V.lG ?_ | ((with_reducible refine And.intro ?_ ?_); (· first | with_reducible exact V.hC | with_reducible exact V.hB | (simp only [V.inX, V.inR, V.inz, V.ige0, V.zi]; omega))) | simp only [V.nptr_eq, V.vBool_mk, V.vInt_mk, V.vStr_mk, V.vPtr_mk, V.vMap_mk, V.vSlice_mk, V.bnot_eq, V.nilCk_mk, V.aadd_mk, V.size_alloc, V.size_drew, V.size_setCell, V.nmul_eq, V.inat_nat, V.inat_lit, Nat.mul_one, Nat.reduceMul, Nat.reduceAdd, V.and_assoc', V.true_and', V.ifB_t, V.ifB_f, V.isNil_some, V.isNil_none, Bool.not_true, Bool.not_false, Nat.zero_add, Nat.add_zero])
  refine V.ifB_of (fun hq => ?_) (fun hq => ?_) <;> simp only [V.ilt_t, V.ilt_f, V.ile_t, V.ile_f, V.igt_t, V.igt_f, V.ige_t, V.ige_f, V.ieq_t, V.ieq_f, V.ine_t, V.ine_f, V.isNil_t, V.isNil_f, V.bnot_eq, Bool.not_eq_true', Bool.not_eq_false', V.seq_t, V.seq_f] at hq
  · have := hc (w.alloc (.cells #[.int .i64 lv, .int .i64 ix] 40)) V.kp
    rw [show Tl.wd n lv ix = 0 by unfold Tl.wd; rw [if_pos hq]] at this
    exact this
  repeat (first | with_reducible refine V.lI ?_ | with_reducible refine V.lS ?_ | with_reducible refine V.lP ?_ | with_reducible refine V.lL ?_ | with_reducible refine V.lM ?_ | with_reducible refine V.lB ?_ | with_reducible refine V.sC ?_ | with_reducible refine V.lG ?_ | ((with_reducible refine And.intro ?_ ?_); (· first | with_reducible exact V.hC | with_reducible exact V.hB | (simp only [V.inX, V.inR, V.inz, V.ige0, V.zi]; omega))) | simp only [V.nptr_eq, V.vBool_mk, V.vInt_mk, V.vStr_mk, V.vPtr_mk, V.vMap_mk, V.vSlice_mk, V.bnot_eq, V.nilCk_mk, V.aadd_mk, V.size_alloc, V.size_drew, V.size_setCell, V.nmul_eq, V.inat_nat, V.inat_lit, Nat.mul_one, Nat.reduceMul, Nat.reduceAdd, V.and_assoc', V.true_and', V.ifB_t, V.ifB_f, V.isNil_some, V.isNil_none, Bool.not_true, Bool.not_false, Nat.zero_add, Nat.add_zero])
  have hcl := Tl.cnt_le n lv
  refine V.ifB_of (fun hq2 => ?_) (fun hq2 => ?_) <;> simp only [V.ilt_t, V.ilt_f, V.ile_t, V.ile_f, V.igt_t, V.igt_f, V.ige_t, V.ige_f, V.ieq_t, V.ieq_f, V.ine_t, V.ine_f, V.isNil_t, V.isNil_f, V.bnot_eq, Bool.not_eq_true', Bool.not_eq_false', V.seq_t, V.seq_f] at hq2
  · have := hc (w.alloc (.cells #[.int .i64 lv, .int .i64 ix] 40)) V.kp
    rw [show Tl.wd n lv ix = 0 by unfold Tl.wd; rw [if_neg (by omega)]; omega] at this
    exact this
  repeat (first | with_reducible refine V.lI ?_ | with_reducible refine V.lS ?_ | with_reducible refine V.lP ?_ | with_reducible refine V.lL ?_ | with_reducible refine V.lM ?_ | with_reducible refine V.lB ?_ | with_reducible refine V.sC ?_ | with_reducible refine V.lG ?_ | ((with_reducible refine And.intro ?_ ?_); (· first | with_reducible exact V.hC | with_reducible exact V.hB | (simp only [V.inX, V.inR, V.inz, V.ige0, V.zi]; omega))) | simp only [V.nptr_eq, V.vBool_mk, V.vInt_mk, V.vStr_mk, V.vPtr_mk, V.vMap_mk, V.vSlice_mk, V.bnot_eq, V.nilCk_mk, V.aadd_mk, V.size_alloc, V.size_drew, V.size_setCell, V.nmul_eq, V.inat_nat, V.inat_lit, Nat.mul_one, Nat.reduceMul, Nat.reduceAdd, V.and_assoc', V.true_and', V.ifB_t, V.ifB_f, V.isNil_some, V.isNil_none, Bool.not_true, Bool.not_false, Nat.zero_add, Nat.add_zero])
  refine count_spec n hn lv _ _ ?_
  intro w1 k1
  have b1 : V.Blk w1 w.heap.size #[.int .i64 lv, .int .i64 ix] 40 := V.Kp.blk k1 V.blk (fun e => e)
  simp only [V.nptr_eq, V.vBool_mk, V.vInt_mk, V.vStr_mk, V.vPtr_mk, V.vMap_mk, V.vSlice_mk, V.bnot_eq, V.nilCk_mk, V.aadd_mk, V.size_alloc, V.size_drew, V.size_setCell, V.nmul_eq, V.inat_nat, V.inat_lit, Nat.mul_one, Nat.reduceMul, Nat.reduceAdd, V.and_assoc', V.true_and', V.ifB_t, V.ifB_f, V.isNil_some, V.isNil_none, Bool.not_true, Bool.not_false, Nat.zero_add, Nat.add_zero]
  refine And.intro (V.hC b1 rfl) ?_
  have e : V.imin (V.imax (V.isub .i64 (Tl.cnt n lv : Int) (V.imul .i64 ix 4)) 0) 4 = (Tl.wd n lv ix : Int) := by
    rw [V.imul_i64 (by omega) (by omega), V.isub_i64 (by omega) (by omega)]
    unfold V.imin V.imax Tl.wd
    rw [if_neg (show ¬ ix < 0 by omega)]
    split <;> split <;> omega
  rw [e]
  exact hc w1 (V.Kp.trans V.kp k1)
end Go.Proofs.Ytboifenkbhfnfaa
