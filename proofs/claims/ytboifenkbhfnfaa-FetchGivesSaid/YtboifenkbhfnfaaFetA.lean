/- fetch.Give and the reference's; fetch.New. -/
import Derived.Test.YtboifenkbhfnfaaVFetch
import Derived.Test.YtboifenkbhfnfaaTileD
set_option linter.all false
set_option maxRecDepth 100000
namespace Go.Proofs.Ytboifenkbhfnfaa
open Go
/-- are two lists the same? -/
theorem same21_spec (xs ys : List ByteArray) (p q : Option Addr) (n c m d : Nat) (w : World) (hn : n = xs.length) (hm : m = ys.length) (hn2 : n ≤ 1000000000) (hs : StrAt w p xs) (ht : StrAt w q ys) (C : Value → World → Prop) (hC : ∀ w', V.Kp V.Nil w w' → C (.bool (decide (xs = ys))) w') :
    V.CallsR Try.prog 21 #[.slice p n c, .slice q m d] w C := by
  refine V.calls_of_fnVC (args := [_, _]) Try.func21 ?_
  rw [vc_annalistref21_Same]
  refine V.ifB_of (fun hc => ?_) (fun hc => ?_) <;> simp only [V.ilt_t, V.ilt_f, V.ile_t, V.ile_f, V.igt_t, V.igt_f, V.ige_t, V.ige_f, V.ieq_t, V.ieq_f, V.ine_t, V.ine_f, V.isNil_t, V.isNil_f, V.bnot_eq, Bool.not_eq_true', Bool.not_eq_false', V.seq_t, V.seq_f, V.zi] at hc
  · have : ¬ xs = ys := fun e => hc (by rw [hn, hm, e])
    have := hC w V.kp
    rwa [decide_eq_false ‹_›] at this
  have hl : xs.length = ys.length := by omega
  refine ⟨fun i => ⟨fun w' => ∃ k : Nat, i = k ∧ k ≤ n ∧ xs.take k = ys.take k ∧ V.Kp V.Nil w w', fun _ => n - i.toNat⟩, ⟨0, rfl, by omega, rfl, V.kp⟩, ?_⟩
  rintro _ i w1 ⟨k, rfl, hk, he, kp⟩
  refine V.ifB_of (fun hc2 => ?_) (fun hc2 => ?_) <;> simp only [V.ilt_t, V.ilt_f, V.ile_t, V.ile_f, V.igt_t, V.igt_f, V.ige_t, V.ige_f, V.ieq_t, V.ieq_f, V.ine_t, V.ine_f, V.isNil_t, V.isNil_f, V.bnot_eq, Bool.not_eq_true', Bool.not_eq_false', V.seq_t, V.seq_f, V.zi] at hc2
  · have h1 : k < xs.length := by omega
    have h2 : k < ys.length := by omega
    refine (hs.keep kp.drew).load hn (List.getElem?_eq_getElem h1) ?_
    refine (ht.keep kp.drew).load hm (List.getElem?_eq_getElem h2) ?_
    have e5 : V.iadd .i64 (k : Int) 1 = ((k + 1 : Nat) : Int) := by rw [V.iadd_i64 (by omega) (by omega)]; omega
    rw [e5]
    refine V.ifB_of (fun hc3 => ?_) (fun hc3 => ?_) <;> simp only [V.bnot_eq, Bool.not_eq_true', Bool.not_eq_false', V.seq_t, V.seq_f] at hc3
    · have : ¬ xs = ys := fun e => by subst e; exact hc3 rfl
      have := hC w1.drew kp.drew
      rwa [decide_eq_false ‹_›] at this
    · refine ⟨⟨k + 1, rfl, by omega, ?_, kp.drew⟩, by show n - ((k + 1 : Nat) : Int).toNat < n - (k : Int).toNat; rw [Int.toNat_natCast, Int.toNat_natCast]; omega⟩
      rw [List.take_succ_eq_append_getElem h1, List.take_succ_eq_append_getElem h2, he, hc3]
  · obtain rfl : k = n := by omega
    have e : xs = ys := by rwa [List.take_of_length_le (by omega), List.take_of_length_le (by omega)] at he
    have := hC w1 kp
    rwa [decide_eq_true e] at this
def giveL (xs : List ByteArray) (b : Bool) (lv ix : Int) : List ByteArray := if b then (xs.drop (4 * ix.toNat)).take (Tl.wd xs.length lv ix) else cutL (Mk.leaves xs) lv ix
theorem leaves_len (xs : List ByteArray) : (Mk.leaves xs).length = xs.length := by simp [Mk.leaves]
theorem leaves_32 {xs : List ByteArray} : ∀ x ∈ Mk.leaves xs, x.size = 32 := by
  intro x hx
  obtain ⟨y, _, rfl⟩ := List.mem_map.1 hx
  exact Mk.leaf_size y
set_option maxHeartbeats 1000000 in
/-- what the reference gives -/
theorem rgive_spec (xs : List ByteArray) (hlen : xs.length ≤ 64) (hB : ∀ x ∈ xs, x.size ≤ 1000) (b : Bool) (lv ix : Int) (hb : b = true → lv = 0) (hw : Tl.wd xs.length lv ix ≠ 0) (p : Option Addr) (n c : Nat) (w : World) (hn : n = xs.length) (hnc : n ≤ c) (hs : StrAt w p xs) (C : Value → World → Prop)
    (hc : ∀ p' m c' w', m = (giveL xs b lv ix).length → m ≤ c' → StrAt w' p' (giveL xs b lv ix) → V.Kp V.Nil w w' → C (.slice p' m c') w') :
    V.CallsR Try.prog 22 #[.slice p n c, .agg #[.bool b, .int .i64 lv, .int .i64 ix]] w C := by
  subst hn
  refine V.calls_of_fnVC (args := [_, _]) Try.func22 ?_
  rw [vc_annalistref21_Give]
  simp only [V.nptr_eq, V.vBool_mk, V.vInt_mk, V.vStr_mk, V.vPtr_mk, V.vMap_mk, V.vSlice_mk, V.bnot_eq, V.nilCk_mk, V.aadd_mk, V.size_alloc, V.size_drew, V.size_setCell, V.nmul_eq, V.inat_nat, V.inat_lit, Nat.mul_one, Nat.reduceMul, Nat.reduceAdd, V.and_assoc', V.true_and', V.ifB_t, V.ifB_f, V.isNil_some, V.isNil_none, Bool.not_true, Bool.not_false, Nat.zero_add, Nat.add_zero]
  repeat (first | with_reducible refine V.lI ?_ | with_reducible refine V.lS ?_ | with_reducible refine V.lP ?_ | with_reducible refine V.lL ?_ | with_reducible refine V.lM ?_ | with_reducible refine V.lB ?_ | with_reducible refine V.sC ?_ | with_reducible refine V.lG ?_ | ((with_reducible refine And.intro ?_ ?_); (· first | with_reducible exact V.hC | with_reducible exact V.hB | (simp only [V.inX, V.inR, V.inz, V.ige0, V.zi]; omega))) | simp only [V.nptr_eq, V.vBool_mk, V.vInt_mk, V.vStr_mk, V.vPtr_mk, V.vMap_mk, V.vSlice_mk, V.bnot_eq, V.nilCk_mk, V.aadd_mk, V.size_alloc, V.size_drew, V.size_setCell, V.nmul_eq, V.inat_nat, V.inat_lit, Nat.mul_one, Nat.reduceMul, Nat.reduceAdd, V.and_assoc', V.true_and', V.ifB_t, V.ifB_f, V.isNil_some, V.isNil_none, Bool.not_true, Bool.not_false, Nat.zero_add, Nat.add_zero])
  rw [show V.zi xs.length = (xs.length : Int) from rfl]
  refine rwidth_spec xs.length hlen lv ix _ _ ?_
  obtain ⟨h1, h2, h3, h4⟩ := wd_ok hlen hw
  have h5 := Nat.div_le_self xs.length (4 ^ lv.toNat)
  have hw4 := Tl.wd_le xs.length lv ix
  (try simp only [V.nptr_eq, V.vBool_mk, V.vInt_mk, V.vStr_mk, V.vPtr_mk, V.vMap_mk, V.vSlice_mk, V.bnot_eq, V.nilCk_mk, V.aadd_mk, V.size_alloc, V.size_drew, V.size_setCell, V.nmul_eq, V.inat_nat, V.inat_lit, Nat.mul_one, Nat.reduceMul, Nat.reduceAdd, V.and_assoc', V.true_and', V.ifB_t, V.ifB_f, V.isNil_some, V.isNil_none, Bool.not_true, Bool.not_false, Nat.zero_add, Nat.add_zero])
  repeat (first | with_reducible refine V.lI ?_ | with_reducible refine V.lS ?_ | with_reducible refine V.lP ?_ | with_reducible refine V.lL ?_ | with_reducible refine V.lM ?_ | with_reducible refine V.lB ?_ | with_reducible refine V.sC ?_ | with_reducible refine V.lG ?_ | ((with_reducible refine And.intro ?_ ?_); (· first | with_reducible exact V.hC | with_reducible exact V.hB | (simp only [V.inX, V.inR, V.inz, V.ige0, V.zi]; omega))) | simp only [V.nptr_eq, V.vBool_mk, V.vInt_mk, V.vStr_mk, V.vPtr_mk, V.vMap_mk, V.vSlice_mk, V.bnot_eq, V.nilCk_mk, V.aadd_mk, V.size_alloc, V.size_drew, V.size_setCell, V.nmul_eq, V.inat_nat, V.inat_lit, Nat.mul_one, Nat.reduceMul, Nat.reduceAdd, V.and_assoc', V.true_and', V.ifB_t, V.ifB_f, V.isNil_some, V.isNil_none, Bool.not_true, Bool.not_false, Nat.zero_add, Nat.add_zero])
  cases b with
  | true =>
    have hb0 := hb rfl
    subst hb0
    rw [V.ifB_t]
    refine V.lI ?_
    refine V.lI ?_
    obtain ⟨i, rfl⟩ : ∃ i : Nat, ix = (i : Int) := ⟨ix.toNat, by omega⟩
    have e1 : V.imul .i64 4 (i : Int) = ((4 * i : Nat) : Int) := by rw [V.imul_i64 (by omega) (by omega)]; omega
    have e2 : V.iadd .i64 ((4 * i : Nat) : Int) (Tl.wd xs.length 0 (i : Int) : Int) = ((4 * i + Tl.wd xs.length 0 (i : Int) : Nat) : Int) := by rw [V.iadd_i64 (by omega) (by omega)]; omega
    rw [e1, e2]
    simp only [Int.toNat_natCast, Int.toNat_zero, Nat.pow_zero, Nat.div_one] at h4
    refine And.intro (by unfold V.inR; omega) (And.intro (by unfold V.inR; (try rw [V.inat_nat]); omega) ?_)
    (try simp only [V.inat_nat])
    have e3 : giveL xs true 0 (i : Int) = (xs.drop (4 * i)).take (Tl.wd xs.length 0 (i : Int)) := rfl
    refine hc _ _ _ _ (by rw [e3, List.length_take, List.length_drop]; unfold V.nsub; omega) (by unfold V.nsub; omega) ?_ V.kp
    rw [e3]
    exact (hs.keep V.kp).sub (by omega) _ _
  | false =>
    rw [V.ifB_f]
    refine leaves_spec xs (by omega) (fun x hx => by have := hB x hx; omega) p _ c _ rfl (hs.keep V.kp) _ ?_
    intro pl cl w1 hl hpl k1
    have b1 : V.Blk w1 w.heap.size #[.bool false, .int .i64 lv, .int .i64 ix] 42 := V.Kp.blk k1 V.blk (fun e => e)
    have kw1 : V.Kp V.Nil w w1 := V.Kp.trans V.kp k1
    (try simp only [V.nptr_eq, V.vBool_mk, V.vInt_mk, V.vStr_mk, V.vPtr_mk, V.vMap_mk, V.vSlice_mk, V.bnot_eq, V.nilCk_mk, V.aadd_mk, V.size_alloc, V.size_drew, V.size_setCell, V.nmul_eq, V.inat_nat, V.inat_lit, Nat.mul_one, Nat.reduceMul, Nat.reduceAdd, V.and_assoc', V.true_and', V.ifB_t, V.ifB_f, V.isNil_some, V.isNil_none, Bool.not_true, Bool.not_false, Nat.zero_add, Nat.add_zero])
    have e3 : giveL xs false lv ix = cutL (Mk.leaves xs) lv ix := rfl
    rw [e3, cutL_hs (by rw [leaves_len]; exact hlen) (by rw [leaves_len]; exact hw), leaves_len] at hc
    obtain ⟨k, rfl⟩ : ∃ k : Nat, lv = (k : Int) := ⟨lv.toNat, by omega⟩
    obtain ⟨i, rfl⟩ : ∃ i : Nat, ix = (i : Int) := ⟨ix.toNat, by omega⟩
    simp only [Int.toNat_natCast] at hc h4 h5
    obtain ⟨m, hm⟩ : ∃ m, m = Tl.wd xs.length (k : Int) (i : Int) := ⟨_, rfl⟩
    rw [← hm] at hc h4 hw4 ⊢
    refine ⟨fun q r d x => ⟨fun w' => ∃ j : Nat, x = (j : Int) ∧ r = j ∧ j ≤ m ∧ SRow w' q j d ((List.range j).map fun j => Tl.hs (Mk.leaves xs) k (4 * i + j)) ∧ New w1.heap.size q ∧ V.Kp V.Nil w1 w', fun _ => m - x.toNat⟩, ⟨0, rfl, rfl, by omega, SRow.nil _, New.none _, V.Kp.refl _ _⟩, ?_⟩
    rintro _ q r d _ w2 ⟨j, rfl, rfl, hj, hr, hq, k2⟩
    have b2 := V.Kp.blk k2 b1 (fun e => e)
    refine V.ifB_of (fun hc2 => ?_) (fun hc2 => ?_) <;> simp only [V.ilt_t, V.ilt_f, V.ile_t, V.ile_f, V.igt_t, V.igt_f, V.ige_t, V.ige_f, V.ieq_t, V.ieq_f, V.ine_t, V.ine_f, V.isNil_t, V.isNil_f, V.bnot_eq, Bool.not_eq_true', Bool.not_eq_false', V.seq_t, V.seq_f] at hc2
    · refine V.lI ?_ b2 rfl
      refine V.lI ?_ b2 rfl
      have e1 : V.imul .i64 4 (i : Int) = ((4 * i : Nat) : Int) := by rw [V.imul_i64 (by omega) (by omega)]; omega
      have e2 : V.iadd .i64 ((4 * i : Nat) : Int) (r : Int) = ((4 * i + r : Nat) : Int) := by rw [V.iadd_i64 (by omega) (by omega)]; omega
      rw [e1, e2]
      refine hash_spec (Mk.leaves xs) (by rw [leaves_len]; exact hlen) (fun x hx => by have := leaves_32 x hx; omega) k (4 * i + r) (by omega) ?_ _ _ _ _ (leaves_len xs).symm hl.le (hl.at.keep k2) _ ?_
      · rw [leaves_len]
        have : (4 * i + r + 1) * 4 ^ k ≤ (xs.length / 4 ^ k) * 4 ^ k := Nat.mul_le_mul_right _ (by omega)
        have := Nat.div_mul_le_self xs.length (4 ^ k)
        omega
      intro w3 k3
      (try simp only [V.nptr_eq, V.vBool_mk, V.vInt_mk, V.vStr_mk, V.vPtr_mk, V.vMap_mk, V.vSlice_mk, V.bnot_eq, V.nilCk_mk, V.aadd_mk, V.size_alloc, V.size_drew, V.size_setCell, V.nmul_eq, V.inat_nat, V.inat_lit, Nat.mul_one, Nat.reduceMul, Nat.reduceAdd, V.and_assoc', V.true_and', V.ifB_t, V.ifB_f, V.isNil_some, V.isNil_none, Bool.not_true, Bool.not_false, Nat.zero_add, Nat.add_zero])
      refine app_str (hr.keep k3) (by omega) _ rfl ?_
      intro p4 c4 w4 h4' k4 at4
      (try simp only [V.nptr_eq, V.vBool_mk, V.vInt_mk, V.vStr_mk, V.vPtr_mk, V.vMap_mk, V.vSlice_mk, V.bnot_eq, V.nilCk_mk, V.aadd_mk, V.size_alloc, V.size_drew, V.size_setCell, V.nmul_eq, V.inat_nat, V.inat_lit, Nat.mul_one, Nat.reduceMul, Nat.reduceAdd, V.and_assoc', V.true_and', V.ifB_t, V.ifB_f, V.isNil_some, V.isNil_none, Bool.not_true, Bool.not_false, Nat.zero_add, Nat.add_zero])
      have e5 : V.iadd .i64 (r : Int) 1 = ((r + 1 : Nat) : Int) := by rw [V.iadd_i64 (by omega) (by omega)]; omega
      rw [e5]
      refine ⟨⟨r + 1, rfl, rfl, by omega, ?_, app_new (V.Kp.trans k2 k3) hq at4, kp_new (V.Kp.trans k2 k3) k4 hq⟩, ?_⟩
      · rw [List.range_succ, List.map_append]; exact h4'
      · show m - ((r + 1 : Nat) : Int).toNat < m - (r : Int).toNat
        omega
    · obtain rfl : r = m := by omega
      exact hc q r d w2 (by rw [List.length_map, List.length_range]) hr.le hr.at (V.Kp.trans kw1 k2)
set_option maxHeartbeats 1000000 in
/-- what a log gives -/
theorem give_spec (xs : List ByteArray) (hlen : xs.length ≤ 1000) (hB : ∀ x ∈ xs, x.size ≤ 1000) (size : Int) (b : Bool) (lv ix : Int) (p : Option Addr) (n c : Nat) (w : World) (hn : n = xs.length) (hnc : n ≤ c) (hs : StrAt w p xs) (C : Value → World → Prop)
    (hc0 : ¬ (0 ≤ size ∧ size ≤ 64 ∧ size ≤ xs.length ∧ (b = true → lv = 0) ∧ Tl.wd size.toNat lv ix ≠ 0) → ∀ w', V.Kp V.Nil w w' → C (.tuple #[.slice none 0 0, .int .i64 5]) w')
    (hc1 : (0 ≤ size ∧ size ≤ 64 ∧ size ≤ xs.length ∧ (b = true → lv = 0) ∧ Tl.wd size.toNat lv ix ≠ 0) → ∀ p' m c' w', m = (giveL (xs.take size.toNat) b lv ix).length → m ≤ c' → StrAt w' p' (giveL (xs.take size.toNat) b lv ix) → V.Kp V.Nil w w' → C (.tuple #[.slice p' m c', .int .i64 0]) w') :
    V.CallsR Try.prog 19 #[.agg tblC, .slice p n c, .int .i64 size, .agg #[.bool b, .int .i64 lv, .int .i64 ix]] w C := by
  subst hn
  refine V.calls_of_fnVC (args := [_, _, _, _]) Try.func19 ?_
  rw [vc_fetch_Give]
  have ts := tbl_size
  refine V.ifB_of (fun hq => ?_) (fun hq => ?_) <;> simp only [V.ilt_t, V.ilt_f, V.ile_t, V.ile_f, V.igt_t, V.igt_f, V.ige_t, V.ige_f, V.ieq_t, V.ieq_f, V.ine_t, V.ine_f, V.isNil_t, V.isNil_f, V.bnot_eq, Bool.not_eq_true', Bool.not_eq_false', V.seq_t, V.seq_f, V.zi] at hq
  · exact hc0 (by omega) _ V.kp
  refine V.ifB_of (fun hq => ?_) (fun hq => ?_) <;> simp only [V.ilt_t, V.ilt_f, V.ile_t, V.ile_f, V.igt_t, V.igt_f, V.ige_t, V.ige_f, V.ieq_t, V.ieq_f, V.ine_t, V.ine_f, V.isNil_t, V.isNil_f, V.bnot_eq, Bool.not_eq_true', Bool.not_eq_false', V.seq_t, V.seq_f, V.zi] at hq
  · exact hc0 (by omega) _ V.kp
  refine V.ifB_of (fun hq => ?_) (fun hq => ?_) <;> simp only [V.ilt_t, V.ilt_f, V.ile_t, V.ile_f, V.igt_t, V.igt_f, V.ige_t, V.ige_f, V.ieq_t, V.ieq_f, V.ine_t, V.ine_f, V.isNil_t, V.isNil_f, V.bnot_eq, Bool.not_eq_true', Bool.not_eq_false', V.seq_t, V.seq_f, V.zi] at hq
  · exact hc0 (by omega) _ V.kp
  obtain ⟨sz, rfl⟩ : ∃ sz : Nat, size = (sz : Int) := ⟨size.toNat, by omega⟩
  simp only [Int.toNat_natCast] at hc0 hc1
  obtain ⟨xs', hxs⟩ : ∃ xs', xs' = xs.take sz := ⟨_, rfl⟩
  rw [← hxs] at hc1
  have hlx : xs'.length = sz := by rw [hxs, List.length_take]; omega
  have hlen' : xs'.length ≤ 64 := by omega
  have hB' : ∀ x ∈ xs', x.size ≤ 1000 := fun x hx => hB x (by rw [hxs] at hx; exact List.mem_of_mem_take hx)
  have hs' : StrAt w p xs' := by rw [hxs]; exact hs.take sz
  rw [← hlx] at hc1 ⊢
  simp only [V.nptr_eq, V.vBool_mk, V.vInt_mk, V.vStr_mk, V.vPtr_mk, V.vMap_mk, V.vSlice_mk, V.bnot_eq, V.nilCk_mk, V.aadd_mk, V.size_alloc, V.size_drew, V.size_setCell, V.nmul_eq, V.inat_nat, V.inat_lit, Nat.mul_one, Nat.reduceMul, Nat.reduceAdd, V.and_assoc', V.true_and', V.ifB_t, V.ifB_f, V.isNil_some, V.isNil_none, Bool.not_true, Bool.not_false, Nat.zero_add, Nat.add_zero]
  refine V.lB ?_
  refine V.ifB_of (fun hb => ?_) (fun hb => ?_)
  · refine V.lI ?_
    refine V.ifB_of (fun hq => ?_) (fun hq => ?_) <;> simp only [V.ilt_t, V.ilt_f, V.ile_t, V.ile_f, V.igt_t, V.igt_f, V.ige_t, V.ige_f, V.ieq_t, V.ieq_f, V.ine_t, V.ine_f, V.isNil_t, V.isNil_f, V.bnot_eq, Bool.not_eq_true', Bool.not_eq_false', V.seq_t, V.seq_f, V.zi] at hq
    · exact hc0 (fun h => hq (h.2.2.2.1 hb)) _ V.kp
    have hlv0 : lv = 0 := hq
    clear hq
    repeat (first | with_reducible refine V.lI ?_ | with_reducible refine V.lS ?_ | with_reducible refine V.lP ?_ | with_reducible refine V.lL ?_ | with_reducible refine V.lM ?_ | with_reducible refine V.lB ?_ | with_reducible refine V.sC ?_ | with_reducible refine V.lG ?_ | ((with_reducible refine And.intro ?_ ?_); (· first | with_reducible exact V.hC | with_reducible exact V.hB | (simp only [V.inX, V.inR, V.inz, V.ige0, V.zi]; omega))) | simp only [V.nptr_eq, V.vBool_mk, V.vInt_mk, V.vStr_mk, V.vPtr_mk, V.vMap_mk, V.vSlice_mk, V.bnot_eq, V.nilCk_mk, V.aadd_mk, V.size_alloc, V.size_drew, V.size_setCell, V.nmul_eq, V.inat_nat, V.inat_lit, Nat.mul_one, Nat.reduceMul, Nat.reduceAdd, V.and_assoc', V.true_and', V.ifB_t, V.ifB_f, V.isNil_some, V.isNil_none, Bool.not_true, Bool.not_false, Nat.zero_add, Nat.add_zero])
    refine width_spec xs'.length hlen' lv ix _ _ ?_
    intro w1 k1
    have b0 : V.Blk w1 w.heap.size tblC 29 := V.Kp.blk k1 V.blk (fun e => e)
    have b1 : V.Blk w1 (w.heap.size + 1) #[.bool b, .int .i64 lv, .int .i64 ix] 42 := V.Kp.blk k1 V.blk (fun e => e)
    have kw1 : V.Kp V.Nil w w1 := V.Kp.trans V.kp k1
    have z1 := k1.size
    (try simp only [V.size_alloc] at z1)
    (try simp only [V.nptr_eq, V.vBool_mk, V.vInt_mk, V.vStr_mk, V.vPtr_mk, V.vMap_mk, V.vSlice_mk, V.bnot_eq, V.nilCk_mk, V.aadd_mk, V.size_alloc, V.size_drew, V.size_setCell, V.nmul_eq, V.inat_nat, V.inat_lit, Nat.mul_one, Nat.reduceMul, Nat.reduceAdd, V.and_assoc', V.true_and', V.ifB_t, V.ifB_f, V.isNil_some, V.isNil_none, Bool.not_true, Bool.not_false, Nat.zero_add, Nat.add_zero])
    refine V.ifB_of (fun hq => ?_) (fun hq => ?_) <;> simp only [V.ilt_t, V.ilt_f, V.ile_t, V.ile_f, V.igt_t, V.igt_f, V.ige_t, V.ige_f, V.ieq_t, V.ieq_f, V.ine_t, V.ine_f, V.isNil_t, V.isNil_f, V.bnot_eq, Bool.not_eq_true', Bool.not_eq_false', V.seq_t, V.seq_f] at hq
    · exact hc0 (fun h => h.2.2.2.2 (by rw [← hlx]; omega)) w1 kw1
    have hne : Tl.wd xs'.length lv ix ≠ 0 := by omega
    have hwd4 := Tl.wd_le xs'.length lv ix
    obtain ⟨h1, h2, h3, h4⟩ := wd_ok hlen' hne
    have h5 := Nat.div_le_self xs'.length (4 ^ lv.toNat)
    refine V.lB ?_ b1 rfl
    subst hlv0
    subst hb
    rw [V.ifB_t]
    refine V.lI ?_ b1 rfl
    obtain ⟨i, rfl⟩ : ∃ i : Nat, ix = (i : Int) := ⟨ix.toNat, by omega⟩
    have e1 : V.imul .i64 (i : Int) 4 = ((4 * i : Nat) : Int) := by rw [V.imul_i64 (by omega) (by omega)]; omega
    have e2 : V.iadd .i64 ((4 * i : Nat) : Int) (Tl.wd xs'.length 0 (i : Int) : Int) = ((4 * i + Tl.wd xs'.length 0 (i : Int) : Nat) : Int) := by rw [V.iadd_i64 (by omega) (by omega)]; omega
    rw [e1, e2]
    simp only [Int.toNat_natCast, Int.toNat_zero, Nat.pow_zero, Nat.div_one] at h4
    refine And.intro (by unfold V.inR; omega) (And.intro (by unfold V.inR; (try rw [V.inat_nat]); omega) ?_)
    (try simp only [V.inat_nat])
    have e3 : giveL xs' true 0 (i : Int) = (xs'.drop (4 * i)).take (Tl.wd xs'.length 0 (i : Int)) := rfl
    have e4 : (giveL xs' true 0 (i : Int)).length = Tl.wd xs'.length 0 (i : Int) := by rw [e3, List.length_take, List.length_drop]; omega
    have e6 : V.nsub (4 * i + Tl.wd xs'.length 0 (i : Int)) (4 * i) = (giveL xs' true 0 (i : Int)).length := by rw [e4]; unfold V.nsub; omega
    rw [e6]
    refine clone_spec (giveL xs' true 0 (i : Int)) _ _ _ rfl (by omega) w1 ?_ _ ?_
    · rw [e3]
      exact (hs'.keep kw1).sub (by omega) _ _
    intro p3 c3 w3 hr3 hp3 k3
    (try simp only [V.nptr_eq, V.vBool_mk, V.vInt_mk, V.vStr_mk, V.vPtr_mk, V.vMap_mk, V.vSlice_mk, V.bnot_eq, V.nilCk_mk, V.aadd_mk, V.size_alloc, V.size_drew, V.size_setCell, V.nmul_eq, V.inat_nat, V.inat_lit, Nat.mul_one, Nat.reduceMul, Nat.reduceAdd, V.and_assoc', V.true_and', V.ifB_t, V.ifB_f, V.isNil_some, V.isNil_none, Bool.not_true, Bool.not_false, Nat.zero_add, Nat.add_zero])
    exact hc1 ⟨by omega, by omega, by omega, fun _ => rfl, hne⟩ p3 _ c3 w3 rfl hr3.le hr3.at (V.Kp.trans kw1 k3)
  · repeat (first | with_reducible refine V.lI ?_ | with_reducible refine V.lS ?_ | with_reducible refine V.lP ?_ | with_reducible refine V.lL ?_ | with_reducible refine V.lM ?_ | with_reducible refine V.lB ?_ | with_reducible refine V.sC ?_ | with_reducible refine V.lG ?_ | ((with_reducible refine And.intro ?_ ?_); (· first | with_reducible exact V.hC | with_reducible exact V.hB | (simp only [V.inX, V.inR, V.inz, V.ige0, V.zi]; omega))) | simp only [V.nptr_eq, V.vBool_mk, V.vInt_mk, V.vStr_mk, V.vPtr_mk, V.vMap_mk, V.vSlice_mk, V.bnot_eq, V.nilCk_mk, V.aadd_mk, V.size_alloc, V.size_drew, V.size_setCell, V.nmul_eq, V.inat_nat, V.inat_lit, Nat.mul_one, Nat.reduceMul, Nat.reduceAdd, V.and_assoc', V.true_and', V.ifB_t, V.ifB_f, V.isNil_some, V.isNil_none, Bool.not_true, Bool.not_false, Nat.zero_add, Nat.add_zero])
    refine width_spec xs'.length hlen' lv ix _ _ ?_
    intro w1 k1
    have b0 : V.Blk w1 w.heap.size tblC 29 := V.Kp.blk k1 V.blk (fun e => e)
    have b1 : V.Blk w1 (w.heap.size + 1) #[.bool b, .int .i64 lv, .int .i64 ix] 42 := V.Kp.blk k1 V.blk (fun e => e)
    have kw1 : V.Kp V.Nil w w1 := V.Kp.trans V.kp k1
    have z1 := k1.size
    (try simp only [V.size_alloc] at z1)
    (try simp only [V.nptr_eq, V.vBool_mk, V.vInt_mk, V.vStr_mk, V.vPtr_mk, V.vMap_mk, V.vSlice_mk, V.bnot_eq, V.nilCk_mk, V.aadd_mk, V.size_alloc, V.size_drew, V.size_setCell, V.nmul_eq, V.inat_nat, V.inat_lit, Nat.mul_one, Nat.reduceMul, Nat.reduceAdd, V.and_assoc', V.true_and', V.ifB_t, V.ifB_f, V.isNil_some, V.isNil_none, Bool.not_true, Bool.not_false, Nat.zero_add, Nat.add_zero])
    refine V.ifB_of (fun hq => ?_) (fun hq => ?_) <;> simp only [V.ilt_t, V.ilt_f, V.ile_t, V.ile_f, V.igt_t, V.igt_f, V.ige_t, V.ige_f, V.ieq_t, V.ieq_f, V.ine_t, V.ine_f, V.isNil_t, V.isNil_f, V.bnot_eq, Bool.not_eq_true', Bool.not_eq_false', V.seq_t, V.seq_f] at hq
    · exact hc0 (fun h => h.2.2.2.2 (by rw [← hlx]; omega)) w1 kw1
    have hne : Tl.wd xs'.length lv ix ≠ 0 := by omega
    have hwd4 := Tl.wd_le xs'.length lv ix
    obtain ⟨h1, h2, h3, h4⟩ := wd_ok hlen' hne
    have h5 := Nat.div_le_self xs'.length (4 ^ lv.toNat)
    refine V.lB ?_ b1 rfl
    subst hb
    rw [V.ifB_f]
    refine And.intro (by unfold V.inR; omega) ?_
    have en : V.nsub xs'.length 0 = xs'.length := rfl
    rw [en, slAdr_z]
    refine ⟨fun q r d x => ⟨fun w' => ∃ j : Nat, x = (j : Int) ∧ r = j ∧ j ≤ xs'.length ∧ SRow w' q j d ((Mk.leaves xs').take j) ∧ New w1.heap.size q ∧ V.Kp V.Nil w1 w', fun _ => xs'.length - x.toNat⟩, ⟨0, rfl, rfl, by omega, SRow.nil _, New.none _, V.Kp.refl _ _⟩, ?_⟩
    rintro _ q r d _ w2 ⟨j, rfl, rfl, hj, hr, hq5, k2⟩
    have d0 := V.Kp.blk k2 b0 (fun e => e)
    have d1 := V.Kp.blk k2 b1 (fun e => e)
    refine V.ifB_of (fun hc2 => ?_) (fun hc2 => ?_) <;> simp only [V.ilt_t, V.ilt_f, V.ile_t, V.ile_f, V.igt_t, V.igt_f, V.ige_t, V.ige_f, V.ieq_t, V.ieq_f, V.ine_t, V.ine_f, V.isNil_t, V.isNil_f, V.bnot_eq, Bool.not_eq_true', Bool.not_eq_false', V.seq_t, V.seq_f, V.zi] at hc2
    · have hlt : r < xs'.length := by omega
      refine ((hs'.keep kw1).keep k2).loadA rfl (List.getElem?_eq_getElem hlt) (fun _ _ _ => ?_)
      refine V.lG ?_ d0
      have hx := hB' xs'[r] (List.getElem_mem hlt)
      refine leaf_spec _ (by omega) _ _ ?_
      intro w3 k3
      (try simp only [V.nptr_eq, V.vBool_mk, V.vInt_mk, V.vStr_mk, V.vPtr_mk, V.vMap_mk, V.vSlice_mk, V.bnot_eq, V.nilCk_mk, V.aadd_mk, V.size_alloc, V.size_drew, V.size_setCell, V.nmul_eq, V.inat_nat, V.inat_lit, Nat.mul_one, Nat.reduceMul, Nat.reduceAdd, V.and_assoc', V.true_and', V.ifB_t, V.ifB_f, V.isNil_some, V.isNil_none, Bool.not_true, Bool.not_false, Nat.zero_add, Nat.add_zero])
      refine app_str (hr.keep k3) (by omega) _ rfl ?_
      intro p4 c4 w4 h4' k4 at4
      (try simp only [V.nptr_eq, V.vBool_mk, V.vInt_mk, V.vStr_mk, V.vPtr_mk, V.vMap_mk, V.vSlice_mk, V.bnot_eq, V.nilCk_mk, V.aadd_mk, V.size_alloc, V.size_drew, V.size_setCell, V.nmul_eq, V.inat_nat, V.inat_lit, Nat.mul_one, Nat.reduceMul, Nat.reduceAdd, V.and_assoc', V.true_and', V.ifB_t, V.ifB_f, V.isNil_some, V.isNil_none, Bool.not_true, Bool.not_false, Nat.zero_add, Nat.add_zero])
      have e5 : V.iadd .i64 (r : Int) 1 = ((r + 1 : Nat) : Int) := by rw [V.iadd_i64 (by omega) (by omega)]; omega
      rw [e5]
      refine ⟨⟨r + 1, rfl, rfl, by omega, ?_, app_new (V.Kp.trans k2 k3) hq5 at4, kp_new (V.Kp.trans k2 k3) k4 hq5⟩, ?_⟩
      · have e : (Mk.leaves xs').take (r + 1) = (Mk.leaves xs').take r ++ [Mk.leaf xs'[r]] := by
          rw [List.take_succ_eq_append_getElem (by rw [leaves_len]; exact hlt)]
          congr 2
          simp [Mk.leaves]
        rw [e]; exact h4'
      · show xs'.length - ((r + 1 : Nat) : Int).toNat < xs'.length - (r : Int).toNat
        omega
    · obtain rfl : r = xs'.length := by omega
      rw [List.take_of_length_le (by rw [leaves_len]; omega)] at hr
      refine V.lG ?_ d0
      refine V.lI ?_ d1 rfl
      refine V.lI ?_ d1 rfl
      refine cut_spec (Mk.leaves xs') (by rw [leaves_len]; exact hlen') leaves_32 lv ix q _ d w2 (leaves_len xs').symm hr.le (fun b hb => hr.lt b hb) hr.at _ (fun h => absurd h (by rw [leaves_len]; exact hne)) ?_
      intro _ p5 c5 w5 hr5 hp5 k5
      refine ⟨_, _, _, _, _, _, rfl, ?_⟩
      have e3 : giveL xs' false lv ix = cutL (Mk.leaves xs') lv ix := rfl
      (try simp only [V.nptr_eq, V.vBool_mk, V.vInt_mk, V.vStr_mk, V.vPtr_mk, V.vMap_mk, V.vSlice_mk, V.bnot_eq, V.nilCk_mk, V.aadd_mk, V.size_alloc, V.size_drew, V.size_setCell, V.nmul_eq, V.inat_nat, V.inat_lit, Nat.mul_one, Nat.reduceMul, Nat.reduceAdd, V.and_assoc', V.true_and', V.ifB_t, V.ifB_f, V.isNil_some, V.isNil_none, Bool.not_true, Bool.not_false, Nat.zero_add, Nat.add_zero])
      repeat (first | with_reducible refine V.lI ?_ | with_reducible refine V.lS ?_ | with_reducible refine V.lP ?_ | with_reducible refine V.lL ?_ | with_reducible refine V.lM ?_ | with_reducible refine V.lB ?_ | with_reducible refine V.sC ?_ | with_reducible refine V.lG ?_ | ((with_reducible refine And.intro ?_ ?_); (· first | with_reducible exact V.hC | with_reducible exact V.hB | (simp only [V.inX, V.inR, V.inz, V.ige0, V.zi]; omega))) | simp only [V.nptr_eq, V.vBool_mk, V.vInt_mk, V.vStr_mk, V.vPtr_mk, V.vMap_mk, V.vSlice_mk, V.bnot_eq, V.nilCk_mk, V.aadd_mk, V.size_alloc, V.size_drew, V.size_setCell, V.nmul_eq, V.inat_nat, V.inat_lit, Nat.mul_one, Nat.reduceMul, Nat.reduceAdd, V.and_assoc', V.true_and', V.ifB_t, V.ifB_f, V.isNil_some, V.isNil_none, Bool.not_true, Bool.not_false, Nat.zero_add, Nat.add_zero])
      refine hc1 ⟨by omega, by omega, by omega, (fun h => by cases h), hne⟩ p5 _ c5 _ rfl hr5.le ?_ ?_
      · rw [e3]
        exact hr5.at.keep V.kp
      · exact V.Kp.trans (V.Kp.trans (V.Kp.trans kw1 k2) k5) V.kp
end Go.Proofs.Ytboifenkbhfnfaa
