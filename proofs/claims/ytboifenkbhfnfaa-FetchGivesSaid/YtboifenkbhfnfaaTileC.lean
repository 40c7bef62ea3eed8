/- tile.level, tile.Cut. -/
import Derived.Test.YtboifenkbhfnfaaTileB
set_option linter.all false
set_option maxRecDepth 100000
namespace Go.Proofs.Ytboifenkbhfnfaa
open Go
theorem slAdr_z (p : Option Addr) (c : Nat) : V.slAdr p c 0 1 = p := by
  unfold V.slAdr
  split
  · rfl
  · cases p with
    | none => rfl
    | some a => show some (a.add 0) = some a; unfold Addr.add; simp
theorem finD_all : ∀ (Ds : List Nat) (w : World) (C : World → Prop), Ds.Nodup → (∀ D ∈ Ds, V.DBlk w D) → (∀ w', V.Kp (fun b => b ∈ Ds) w w' → C w') → V.finD (Ds.map V.col) w C
  | [], w, C, _, _, hc => hc w (V.Kp.refl _ _)
  | D :: r, w, C, hn, hd, hc => by
    have hn' := List.nodup_cons.1 hn
    refine And.intro (hd D (by simp)) ?_
    refine finD_all r _ C hn'.2 (fun D' hD' => (hd D' (by simp [hD'])).putO (fun e => hn'.1 (by rw [← show D' = D from e]; exact hD')) _) ?_
    intro w' k
    refine hc w' ?_
    have k0 : V.Kp (fun b => b ∈ D :: r) w (V.putO w D (.deferred none)) := V.Kp.putO (V.Kp.refl _ _) (.inl (by simp)) _
    exact V.Kp.trans k0 (k.mono fun i _ hi => by simp [hi])
theorem StrAt.sub2 {w : World} {p : Option Addr} {xs : List ByteArray} (h : StrAt w p xs) {c l : Nat} (hc : c ≠ l) (n : Nat) : StrAt w (V.slAdr p c l 1) ((xs.drop l).take n) := by
  refine StrAt.take ?_ n
  rcases h with h | ⟨b, o, rfl, hb, hcell⟩
  · left; rw [h]; simp
  · right
    unfold V.slAdr
    rw [if_neg hc]
    refine ⟨b, o + l, ?_, hb, fun i x hx => ?_⟩
    · have := V.aadd_mk b o (l * 1)
      simpa [V.aadd] using this
    · rw [List.getElem?_drop] at hx
      rw [Nat.add_assoc]; exact hcell _ _ hx
theorem up_take_succ {xs : List ByteArray} {k : Nat} (h : k < xs.length / 4) : (Tl.up xs).take (k + 1) = (Tl.up xs).take k ++ [Mk.root ((xs.drop (4 * k)).take 4)] := by
  have hk : k < (Tl.up xs).length := by rw [Tl.up_len]; exact h
  rw [List.take_succ_eq_append_getElem hk]
  have := Tl.up_get h
  rw [List.getElem?_eq_getElem hk] at this
  rw [Option.some.inj this]
/-- what holds between two rounds of level's inner loop -/
structure LvI (w w1 : World) (Ds : List Nat) (xs : List ByteArray) (p : Option Addr) (k : Nat) (w' : World) : Prop where
  b0 : V.Blk w' w.heap.size tblC 29
  st : StrAt w' p xs
  ds : ∀ D ∈ Ds, V.DBlk w' D
  up : ∃ q d, V.Blk w' w1.heap.size #[.slice q (min k (xs.length / 4)) d] 22 ∧ SRow w' q (min k (xs.length / 4)) d ((Tl.up xs).take k) ∧ New (w1.heap.size + 5) q
  kp : V.Kp V.Nil w w'
theorem LvI.mono {w w1 wa wb : World} {Ds : List Nat} {xs : List ByteArray} {p : Option Addr} {k : Nat} (h : LvI w w1 Ds xs p k wa) {S : Nat → Prop} (hk : V.Kp S wa wb) (hp : ∀ b, V.blk? p = some b → b < w1.heap.size) (hD : ∀ D ∈ Ds, D < w1.heap.size) (h0 : w.heap.size < w1.heap.size) (hS : ∀ b, S b → w1.heap.size + 1 ≤ b ∧ b < w1.heap.size + 5) : LvI w w1 Ds xs p k wb where
  b0 := V.Kp.blk hk h.b0 (fun e => by have := hS _ e; omega)
  st := h.st.kp hk (fun b hb e => by have := hS _ e; have := hp b hb; omega)
  ds := fun D hd => V.Kp.dblk hk (h.ds D hd) (fun e => by have := hS _ e; have := hD D hd; omega)
  up := by
    obtain ⟨q, d, h1, h2, h3⟩ := h.up
    exact ⟨q, d, V.Kp.blk hk h1 (fun e => by have := hS _ e; omega), h2.kp hk (fun b hb e => by have := hS _ e; have := h3 b hb; omega), h3⟩
  kp := V.Kp.then h.kp hk (fun i hi e => by have := hS _ e; omega)
set_option maxHeartbeats 1000000 in
theorem level_spec (xs : List ByteArray) (hlen : xs.length ≤ 1000) (hB : ∀ x ∈ xs, x.size = 32) (k : Nat) (hk : k ≤ 3) (p : Option Addr) (n c : Nat) (w : World) (hn : n = xs.length) (hnc : n ≤ c) (hpw : ∀ b, V.blk? p = some b → b < w.heap.size) (hs : StrAt w p xs) (C : Value → World → Prop)
    (hc : ∀ p' n' c' w', n' = (Tl.lv k xs).length → n' ≤ c' → StrAt w' p' (Tl.lv k xs) → V.Kp V.Nil w w' → C (.slice p' n' c') w') :
    V.CallsR Try.prog 75 #[.agg tblC, .slice p n c, .int .i64 (k : Int)] w C := by
  refine V.calls_of_fnVC (args := [_, _, _]) Try.func75 ?_
  rw [vc_tile_level]
  have ts := tbl_size
  refine ⟨fun q m d x Ds => ⟨fun w' => ∃ (j : Nat) (ys : List ByteArray), x = (j : Int) ∧ j ≤ 3 ∧ Tl.lv j ys = Tl.lv k xs ∧ (∀ y ∈ ys, y.size = 32) ∧ ys.length ≤ 1000 ∧ m = ys.length ∧ m ≤ d ∧ StrAt w' q ys ∧ (∀ b, V.blk? q = some b → b < w'.heap.size ∧ b ∉ Ds) ∧ Ds.Nodup ∧ (∀ D ∈ Ds, V.DBlk w' D ∧ w.heap.size < D) ∧ V.Blk w' w.heap.size tblC 29 ∧ V.Kp V.Nil w w', fun _ => x.toNat⟩, [], rfl,
    ⟨k, xs, rfl, hk, rfl, hB, hlen, hn, hnc, hs.keep (V.Kp.alloc (V.Kp.refl _ _) _), (fun b hb => ⟨by rw [V.size_alloc]; have := hpw b hb; omega, by simp⟩), List.nodup_nil, (fun D hD => by cases hD), V.Blk.new _ _ _, V.Kp.alloc (V.Kp.refl _ _) _⟩, ?_⟩
  rintro jf Ds q m d _ w1 ⟨j, ys, rfl, hj, hlv, hyB, hyl, hm, hmd, hst, hqw', hnd, hD, b0, kp⟩
  have z01 : w.heap.size < w1.heap.size := b0.lt
  have hqw := fun b hb => (hqw' b hb).1
  have hDl : ∀ D ∈ Ds, D < w1.heap.size := fun D h => (hD D h).1.lt
  refine V.ifB_of (fun hq => ?_) (fun hq => ?_) <;> simp only [V.ilt_t, V.ilt_f, V.ile_t, V.ile_f, V.igt_t, V.igt_f, V.ige_t, V.ige_f, V.ieq_t, V.ieq_f, V.ine_t, V.ine_f, V.isNil_t, V.isNil_f, V.bnot_eq, Bool.not_eq_true', Bool.not_eq_false', V.seq_t, V.seq_f] at hq
  · have cu : V.Blk (w1.alloc (.cells #[.slice none 0 0] 22)) w1.heap.size #[.slice none 0 0] 22 := V.blk
    have ku : V.Kp V.Nil w1 (w1.alloc (.cells #[.slice none 0 0] 22)) := V.kp
    refine chunk_spec q m d _ _ ?_
    obtain ⟨W, hW⟩ : ∃ W, W = ((w1.alloc (.cells #[.slice none 0 0] 22)).alloc (.cells #[.slice q m d] 22)).alloc (.cells #[.int .i64 4] 3) := ⟨_, rfl⟩
    rw [← hW]
    have c1 : V.Blk W (w1.heap.size + 1) #[.slice q m d] 22 := by rw [hW]; exact V.blk
    have c2 : V.Blk W (w1.heap.size + 2) #[.int .i64 4] 3 := by rw [hW]; exact V.blk
    have cu2 : V.Blk W w1.heap.size #[.slice none 0 0] 22 := by rw [hW]; exact V.blk
    have kW : V.Kp V.Nil w1 W := by rw [hW]; exact V.kp
    have cz : W.heap.size = w1.heap.size + 3 := by rw [hW]; simp only [V.size_alloc]
    clear hW cu ku
    have e1 : V.isub .i64 (j : Int) 1 = ((j - 1 : Nat) : Int) := by rw [V.isub_i64 (by omega) (by omega)]; omega
    have hlv2 : Tl.lv (j - 1) (Tl.up ys) = Tl.lv k xs := by
      rw [← hlv]
      obtain ⟨i, rfl⟩ : ∃ i, j = i + 1 := ⟨j - 1, by omega⟩
      rfl
    (try simp only [V.nptr_eq, V.vBool_mk, V.vInt_mk, V.vStr_mk, V.vPtr_mk, V.vMap_mk, V.vSlice_mk, V.bnot_eq, V.nilCk_mk, V.aadd_mk, V.size_alloc, V.size_drew, V.size_setCell, V.nmul_eq, V.inat_nat, V.inat_lit, Nat.mul_one, Nat.reduceMul, Nat.reduceAdd, V.and_assoc', V.true_and', V.ifB_t, V.ifB_f, V.isNil_some, V.isNil_none, Bool.not_true, Bool.not_false, Nat.zero_add, Nat.add_zero])
    refine rf_seq (O := V.Nil) (R := fun i => i = w1.heap.size + 1 ∨ i = w1.heap.size + 2) (chunk_seq q m d (by omega) hmd W _ _ c1 c2) (by kernel_rfl) (w1.heap.size + 3) cz (fun b hb => hb.elim) (fun b hb => by omega)
      (fun i w' => LvI w w1 Ds ys q i w') (fun _ _ => False) ?_ ?_ (fun _ _ _ h => h.elim) ?_ ?_ (fun _ _ h => h.elim)
    · refine ⟨V.Kp.blk kW b0 (fun e => e), hst.keep kW, fun D h => V.Kp.dblk kW (hD D h).1 (fun e => e), ⟨none, 0, ?_, ?_, New.none _⟩, V.Kp.trans kp kW⟩
      · rw [Nat.zero_min]; exact cu2
      · rw [Nat.zero_min]; exact SRow.nil _
    · intro i wa wb h hk'
      refine h.mono hk' hqw hDl z01 ?_
      rintro b (e | e | e)
      · exact e.elim
      · omega
      · omega
    · rintro fn rec hrec i x wa hx hI hl hd hsz Cq hgo -
      have hi : i < (m + 3) / 4 := by
        have := (List.getElem?_eq_some_iff.1 hx).1
        rw [cItems, List.length_map, List.length_range] at this
        exact this
      rw [cItems, List.getElem?_map, List.getElem?_range hi] at hx
      cases hx
      obtain ⟨a0, ast, ads, ⟨r, d2, ab, ar, an⟩, akp⟩ := hI
      refine yield1 15 hrec hl (by kernel_rfl) (by simp only [List.setIfInBounds_toArray, List.set_cons_succ, List.set_cons_zero]; rfl) ?_
      rw [rb_tile_level_0]
      refine And.intro hl ?_
      have d0 := a0.putO (r := w1.heap.size + 3 + 1) (by omega) (.loop (rec .busy none))
      have db := ab.putO (r := w1.heap.size + 3 + 1) (by omega) (.loop (rec .busy none))
      have dl := hl.put (rec .busy none)
      have dk : V.Kp (V.One (w1.heap.size + 3 + 1)) wa (V.putO wa (w1.heap.size + 3 + 1) (.loop (rec .busy none))) := V.Kp.putO (S := V.One _) (V.Kp.refl _ _) (.inl rfl) _
      have dst := ast.kp dk (fun b hb e => by have := hqw b hb; have e : b = _ := e; omega)
      have dr := ar.kp dk (fun b hb e => by have := an b hb; have e : b = _ := e; omega)
      have dz := V.size_putO wa (w1.heap.size + 3 + 1) (.loop (rec .busy none))
      generalize V.putO wa (w1.heap.size + 3 + 1) (.loop (rec .busy none)) = w2 at *
      refine V.ifB_of (fun hq2 => ?_) (fun hq2 => ?_) <;> simp only [V.ilt_t, V.ilt_f, V.ile_t, V.ile_f, V.igt_t, V.igt_f, V.ige_t, V.ige_f, V.ieq_t, V.ieq_f, V.ine_t, V.ine_f, V.isNil_t, V.isNil_f, V.bnot_eq, Bool.not_eq_true', Bool.not_eq_false', V.seq_t, V.seq_f, V.zi] at hq2
      · have hi4 : i < ys.length / 4 := by omega
        have hmi : min i (ys.length / 4) = i := by omega
        have hmi1 : min (i + 1) (ys.length / 4) = i + 1 := by omega
        rw [hmi] at db dr
        have e4 : min (4 * i + 4) m = 4 * i + 4 := by omega
        rw [e4]
        (try simp only [V.nptr_eq, V.vBool_mk, V.vInt_mk, V.vStr_mk, V.vPtr_mk, V.vMap_mk, V.vSlice_mk, V.bnot_eq, V.nilCk_mk, V.aadd_mk, V.size_alloc, V.size_drew, V.size_setCell, V.nmul_eq, V.inat_nat, V.inat_lit, Nat.mul_one, Nat.reduceMul, Nat.reduceAdd, V.and_assoc', V.true_and', V.ifB_t, V.ifB_f, V.isNil_some, V.isNil_none, Bool.not_true, Bool.not_false, Nat.zero_add, Nat.add_zero])
        refine V.lL ?_ db.drew rfl
        repeat (first | with_reducible refine V.lI ?_ | with_reducible refine V.lS ?_ | with_reducible refine V.lP ?_ | with_reducible refine V.lL ?_ | with_reducible refine V.lM ?_ | with_reducible refine V.lB ?_ | with_reducible refine V.sC ?_ | with_reducible refine V.lG ?_ | ((with_reducible refine And.intro ?_ ?_); (· first | with_reducible exact V.hC | with_reducible exact V.hB | (simp only [V.inX, V.inR, V.inz, V.ige0, V.zi]; omega))) | simp only [V.nptr_eq, V.vBool_mk, V.vInt_mk, V.vStr_mk, V.vPtr_mk, V.vMap_mk, V.vSlice_mk, V.bnot_eq, V.nilCk_mk, V.aadd_mk, V.size_alloc, V.size_drew, V.size_setCell, V.nmul_eq, V.inat_nat, V.inat_lit, Nat.mul_one, Nat.reduceMul, Nat.reduceAdd, V.and_assoc', V.true_and', V.ifB_t, V.ifB_f, V.isNil_some, V.isNil_none, Bool.not_true, Bool.not_false, Nat.zero_add, Nat.add_zero])
        refine mroot_spec 4 ((ys.drop (4 * i)).take 4) (by rw [List.length_take, List.length_drop]; omega) (by omega) (fun x hx => by have := hyB x (List.mem_of_mem_drop (List.mem_of_mem_take hx)); omega) _ _ _ _ (by rw [List.length_take, List.length_drop]; omega) (by omega) ((dst.keep (V.Kp.drew (V.Kp.refl _ _))).sub2 (by omega) 4) _ ?_
        intro w3 k3
        have k3' : V.Kp V.Nil w2 w3 := V.Kp.trans (V.Kp.drew (V.Kp.refl _ _)) k3
        have f0 := V.Kp.blk k3' d0 (fun e => e)
        have fb := V.Kp.blk k3' db (fun e => e)
        have fl := V.Kp.lblk k3' dl (fun e => e)
        have z3 := k3'.size
        (try simp only [V.nptr_eq, V.vBool_mk, V.vInt_mk, V.vStr_mk, V.vPtr_mk, V.vMap_mk, V.vSlice_mk, V.bnot_eq, V.nilCk_mk, V.aadd_mk, V.size_alloc, V.size_drew, V.size_setCell, V.nmul_eq, V.inat_nat, V.inat_lit, Nat.mul_one, Nat.reduceMul, Nat.reduceAdd, V.and_assoc', V.true_and', V.ifB_t, V.ifB_f, V.isNil_some, V.isNil_none, Bool.not_true, Bool.not_false, Nat.zero_add, Nat.add_zero])
        refine And.intro (V.hC fb rfl) (And.intro (V.hC (fb.alloc _) rfl) ?_)
        refine app_str (dr.keep k3') (by omega) _ rfl ?_
        intro r4 d4 w4 h4 k4 at4
        rw [← up_take_succ hi4] at h4
        have gb := V.Kp.blk k4 fb (fun e => by have := an _ e; omega)
        have gl := V.Kp.lblk k4 fl (fun e => by have := an _ e; omega)
        have n4 : New (w1.heap.size + 5) r4 := fun b hb => by
          rcases at4 b hb with e | e
          · exact an b e
          · omega
        (try simp only [V.nptr_eq, V.vBool_mk, V.vInt_mk, V.vStr_mk, V.vPtr_mk, V.vMap_mk, V.vSlice_mk, V.bnot_eq, V.nilCk_mk, V.aadd_mk, V.size_alloc, V.size_drew, V.size_setCell, V.nmul_eq, V.inat_nat, V.inat_lit, Nat.mul_one, Nat.reduceMul, Nat.reduceAdd, V.and_assoc', V.true_and', V.ifB_t, V.ifB_f, V.isNil_some, V.isNil_none, Bool.not_true, Bool.not_false, Nat.zero_add, Nat.add_zero])
        refine V.sC ?_ gb (by show 0 < 1; omega)
        refine And.intro (gl.set _ _) ?_
        have kk : V.Kp (fun b => b = w1.heap.size ∨ b = w1.heap.size + 3 + 1) w4 (V.putO (w4.setCell ⟨w1.heap.size, 0, none⟩ (.slice r4 (i + 1) d4)) (w1.heap.size + 3 + 1) (.loop (rec .ready none))) := V.Kp.putO (V.Kp.set (V.Kp.refl _ _) (.inl (.inl rfl)) _) (.inl (.inr rfl)) _
        have kt : V.Kp (fun b => b = w1.heap.size ∨ b = w1.heap.size + 3 + 1 ∨ V.blk? r = some b) wa (V.putO (w4.setCell ⟨w1.heap.size, 0, none⟩ (.slice r4 (i + 1) d4)) (w1.heap.size + 3 + 1) (.loop (rec .ready none))) := by
          refine V.Kp.trans (V.Kp.trans (V.Kp.trans (dk.mono ?_) (k3'.mono (fun _ _ e => e.elim))) (k4.mono (fun _ _ e => .inr (.inr e)))) (kk.mono ?_)
          · exact fun b _ e => .inr (.inl e)
          · rintro b _ (e | e)
            · exact .inl e
            · exact .inr (.inl e)
        refine hgo _ _ kt ?_ ⟨?_, ?_, ?_, ⟨r4, d4, ?_, ?_, n4⟩, ?_⟩ ((gl.set _ _).put _)
        · rintro b (e | e | e)
          · omega
          · omega
          · have := an b e; omega
        · exact V.Kp.blk kt a0 (by
            rintro (e | e | e)
            · omega
            · omega
            · have := an _ e; omega)
        · refine ast.kp kt (fun b hb => ?_)
          have := hqw b hb
          rintro (e | e | e)
          · omega
          · omega
          · have := an _ e; omega
        · intro D h
          have := hDl D h
          refine V.Kp.dblk kt (ads D h) ?_
          rintro (e | e | e)
          · omega
          · omega
          · have := an _ e; omega
        · rw [hmi1]
          exact (gb.set 0 _).putO (by omega) _
        · rw [hmi1]
          exact h4.kp kk (fun b hb e => by have := n4 b hb; omega)
        · refine V.Kp.then akp kt ?_
          rintro b hb (e | e | e)
          · omega
          · omega
          · have := an _ e; omega
      · have hi4 : ys.length / 4 ≤ i := by omega
        have kt : V.Kp (V.One (w1.heap.size + 3 + 1)) wa (V.putO w2 (w1.heap.size + 3 + 1) (.loop (rec .ready none))) := V.Kp.putO (S := V.One _) dk (.inl rfl) _
        refine And.intro dl (hgo _ _ kt ?_ ?_ (dl.put _))
        · intro b hb
          have hb : b = _ := hb
          omega
        · have hI' : LvI w w1 Ds ys q (i + 1) wa := by
            refine ⟨a0, ast, ads, ⟨r, d2, ?_, ?_, an⟩, akp⟩
            · rw [show min (i + 1) (ys.length / 4) = min i (ys.length / 4) by omega]; exact ab
            · rw [show min (i + 1) (ys.length / 4) = min i (ys.length / 4) by omega, List.take_of_length_le (by rw [Tl.up_len]; omega)]
              rw [List.take_of_length_le (by rw [Tl.up_len]; omega)] at ar
              exact ar
          refine hI'.mono kt hqw hDl z01 ?_
          intro b hb
          have hb : b = _ := hb
          omega
    · rintro w' ⟨a0, ast, ads, ⟨r, d2, ab, ar, an⟩, akp⟩ hd hsz
      rw [cItems, List.length_map, List.length_range] at ab ar
      have hmi : min ((m + 3) / 4) (ys.length / 4) = ys.length / 4 := by omega
      rw [hmi] at ab ar
      rw [List.take_of_length_le (by rw [Tl.up_len]; omega)] at ar
      simp only [V.rfK]
      refine V.lL ?_ ab rfl
      refine ⟨(w1.heap.size + 3) :: Ds, rfl, ?_, ?_⟩
      · refine ⟨j - 1, Tl.up ys, e1, by omega, hlv2, Tl.up_32 hyB, by rw [Tl.up_len]; omega, (Tl.up_len ys).symm, ar.le, ar.at, fun b hb => ?_, ?_, ?_, a0, akp⟩
        · refine ⟨ar.lt b hb, fun h => ?_⟩
          have := an b hb
          rcases List.mem_cons.1 h with h | h
          · omega
          · have := hDl _ h; omega
        · refine List.nodup_cons.2 ⟨fun h => ?_, hnd⟩
          have := hDl _ h; omega
        · intro D h
          rcases List.mem_cons.1 h with rfl | h
          · exact ⟨hd, by omega⟩
          · exact ⟨ads D h, (hD D h).2⟩
      · show (V.isub .i64 (j : Int) 1).toNat < (j : Int).toNat
        rw [e1]; omega
  · obtain rfl : j = 0 := by omega
    refine finD_all Ds w1 _ hnd (fun D h => (hD D h).1) ?_
    intro w2 k2
    have e0 : ys = Tl.lv k xs := by rw [← hlv]; rfl
    rw [e0] at hst hm
    refine hc q m d w2 hm hmd (hst.kp k2 ?_) (V.Kp.then kp k2 (fun i hi e => by have := (hD i e).2; omega))
    exact fun b hb e => (hqw' b hb).2 e
end Go.Proofs.Ytboifenkbhfnfaa
