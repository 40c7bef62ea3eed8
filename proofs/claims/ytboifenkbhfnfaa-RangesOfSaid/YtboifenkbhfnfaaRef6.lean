/- the reference's stretches and ranges; ranges.Right. -/
import Derived.Test.YtboifenkbhfnfaaRanD
set_option linter.all false
set_option maxRecDepth 100000
namespace Go.Proofs.Ytboifenkbhfnfaa
open Go
theorem sizes_spec (n : Nat) (hn : n ≤ 1000000) (w : World) (C : Value → World → Prop) (hc : ∀ p c w', IRow w' p (Mk.pows n).length c (Mk.pows n) → New w.heap.size p → V.Kp V.Nil w w' → C (.slice p (Mk.pows n).length c) w') :
    V.CallsR Try.prog 52 #[.int .i64 (n : Int)] w C := by
  refine V.calls_of_fnVC (args := [_]) Try.func52 ?_
  rw [vc_annalistref06_Sizes]
  have hpl := Mk.pows_le n
  refine ⟨fun q r d x y => ⟨fun w' => ∃ (rem : Nat) (outs : List Nat), x = (rem : Int) ∧ rem ≤ n ∧ outs ++ Mk.pows rem = Mk.pows n ∧ ((∃ j : Nat, j ≤ 40 ∧ y = ((2 ^ j : Nat) : Int) ∧ rem < 2 * 2 ^ j) ∨ (y = 0 ∧ rem = 0)) ∧ r = outs.length ∧ IRow w' q r d outs ∧ New w.heap.size q ∧ V.Kp V.Nil w w', fun _ => y.toNat⟩,
    ⟨n, [], rfl, by omega, rfl, .inl ⟨40, by omega, rfl, by omega⟩, rfl, V.Row.nil _ _ _, New.none _, V.Kp.refl _ _⟩, ?_⟩
  rintro _ q r d _ y w1 ⟨rem, outs, rfl, hrn, ho, hy, rfl, hr, hq, kp⟩
  have hol : outs.length ≤ (Mk.pows n).length := by rw [← ho, List.length_append]; omega
  rcases hy with ⟨j, hj, rfl, hlt⟩ | ⟨rfl, rfl⟩
  · have hp := Nat.two_pow_pos j
    have hp40 : 2 ^ j ≤ 2 ^ 40 := Nat.pow_le_pow_right (by omega) hj
    have eh : ∀ rem' : Nat, rem' < 2 ^ j → ((∃ j' : Nat, j' ≤ 40 ∧ V.iquo .i64 ((2 ^ j : Nat) : Int) 2 = ((2 ^ j' : Nat) : Int) ∧ rem' < 2 * 2 ^ j') ∨ (V.iquo .i64 ((2 ^ j : Nat) : Int) 2 = 0 ∧ rem' = 0)) ∧ (V.iquo .i64 ((2 ^ j : Nat) : Int) 2).toNat < 2 ^ j := by
      intro rem' hrem
      have e : V.iquo .i64 ((2 ^ j : Nat) : Int) 2 = ((2 ^ j / 2 : Nat) : Int) := by
        unfold V.iquo
        rw [show (2 : Int) = ((2 : Nat) : Int) from rfl, IntWalk.up_tdiv rfl rfl]
        exact (fun (z : Nat) (hz : z ≤ 2 ^ 40) => V.wrap_i64 (x := ((z / 2 : Nat) : Int)) (by omega) (by omega)) _ hp40
      rw [e]
      cases j with
      | zero => exact ⟨.inr ⟨rfl, by omega⟩, by decide⟩
      | succ i =>
        have e2 : 2 ^ (i + 1) = 2 * 2 ^ i := by rw [Nat.pow_succ]; omega
        have e3 : 2 ^ (i + 1) / 2 = 2 ^ i := by omega
        rw [e3]
        exact ⟨.inl ⟨i, by omega, rfl, by omega⟩, by omega⟩
    have hz2 : V.inz 2 := by unfold V.inz; omega
    have hm : ((2 ^ j : Nat) : Int).toNat = 2 ^ j := Int.toNat_natCast _
    refine V.ifB_of (fun hq2 => ?_) (fun hq2 => ?_) <;> simp only [V.ilt_t, V.ilt_f, V.ile_t, V.ile_f, V.igt_t, V.igt_f, V.ige_t, V.ige_f, V.ieq_t, V.ieq_f, V.ine_t, V.ine_f, V.isNil_t, V.isNil_f, V.bnot_eq, Bool.not_eq_true', Bool.not_eq_false', V.seq_t, V.seq_f] at hq2
    · refine V.ifB_of (fun hq3 => ?_) (fun hq3 => ?_) <;> simp only [V.ilt_t, V.ilt_f, V.ile_t, V.ile_f, V.igt_t, V.igt_f, V.ige_t, V.ige_f, V.ieq_t, V.ieq_f, V.ine_t, V.ine_f, V.isNil_t, V.isNil_f, V.bnot_eq, Bool.not_eq_true', Bool.not_eq_false', V.seq_t, V.seq_f] at hq3
      · refine app_int hr (by omega) (2 ^ j) rfl ?_
        intro p3 c3 w3 h3 k3 at3
        rw [V.vSlice_mk]
        have es : V.isub .i64 (rem : Int) ((2 ^ j : Nat) : Int) = ((rem - 2 ^ j : Nat) : Int) := by rw [V.isub_i64 (by omega) (by omega)]; omega
        obtain ⟨g1, g2⟩ := eh (rem - 2 ^ j) (by omega)
        have hpw : Mk.pw rem = 2 ^ j := Mk.pw_uniq (by omega) (by omega)
        refine And.intro hz2 ⟨⟨rem - 2 ^ j, outs ++ [2 ^ j], es, Nat.le_trans (Nat.sub_le _ _) hrn, ?_, g1, by simp, h3, app_new kp hq at3, kp_new kp k3 hq⟩, ?_⟩
        · rw [← ho, Mk.pows_pos (n := rem) (by omega), hpw, List.append_assoc]; rfl
        · show (V.iquo .i64 ((2 ^ j : Nat) : Int) 2).toNat < ((2 ^ j : Nat) : Int).toNat
          rw [hm]; exact g2
      · obtain ⟨g1, g2⟩ := eh rem (by omega)
        refine And.intro hz2 ⟨⟨rem, outs, rfl, hrn, ho, g1, rfl, hr, hq, kp⟩, ?_⟩
        show (V.iquo .i64 ((2 ^ j : Nat) : Int) 2).toNat < ((2 ^ j : Nat) : Int).toNat
        rw [hm]; exact g2
    · omega
  · rw [Mk.pows_zero, List.append_nil] at ho
    subst ho
    refine V.ifB_of (fun hq2 => ?_) (fun hq2 => ?_) <;> simp only [V.ilt_t, V.ilt_f, V.ile_t, V.ile_f, V.igt_t, V.igt_f, V.ige_t, V.ige_f, V.ieq_t, V.ieq_f, V.ine_t, V.ine_f, V.isNil_t, V.isNil_f, V.bnot_eq, Bool.not_eq_true', Bool.not_eq_false', V.seq_t, V.seq_f] at hq2
    · omega
    · exact hc q d w1 hr hq kp
theorem rof_spec (xs : List ByteArray) (hlen : xs.length ≤ 64) (hB : ∀ x ∈ xs, x.size ≤ 1000000) (p : Option Addr) (n c : Nat) (w : World) (hn : n = xs.length) (hnc : n ≤ c) (hs : StrAt w p xs) (C : Value → World → Prop)
    (hc : ∀ p' c' w', SRow w' p' (Mk.ofR xs).length c' (Mk.ofR xs) → New w.heap.size p' → V.Kp V.Nil w w' → C (.slice p' (Mk.ofR xs).length c') w') :
    V.CallsR Try.prog 24 #[.slice p n c] w C := by
  subst hn
  refine V.calls_of_fnVC (args := [_]) Try.func24 ?_
  rw [vc_annalistref06_Of, show V.zi xs.length = (xs.length : Int) from rfl]
  refine sizes_spec xs.length (by omega) w _ ?_
  intro ps cs w1 hps hpsn k1
  rw [V.vSlice_mk]
  have hlo := Mk.ofR_length _ xs rfl
  have hpl := Mk.pows_le xs.length
  refine ⟨fun q r d x y => ⟨fun w' => ∃ k : Nat, y = (k : Int) ∧ r = k ∧ k ≤ (Mk.pows xs.length).length ∧ x = ((((Mk.pows xs.length).take k).sum : Nat) : Int) ∧ SRow w' q k d ((Mk.ofR xs).take k) ∧ New w1.heap.size q ∧ V.Kp V.Nil w1 w', fun _ => (Mk.pows xs.length).length - y.toNat⟩,
    ⟨0, rfl, rfl, by omega, rfl, SRow.nil _, New.none _, V.Kp.refl _ _⟩, ?_⟩
  rintro _ q r d _ _ w2 ⟨k, rfl, rfl, hk, rfl, hr, hq, k2⟩
  refine V.ifB_of (fun hq2 => ?_) (fun hq2 => ?_) <;> simp only [V.ilt_t, V.ilt_f, V.ile_t, V.ile_f, V.igt_t, V.igt_f, V.ige_t, V.ige_f, V.ieq_t, V.ieq_f, V.ine_t, V.ine_f, V.isNil_t, V.isNil_f, V.bnot_eq, Bool.not_eq_true', Bool.not_eq_false', V.seq_t, V.seq_f, V.zi] at hq2
  · have hlt : r < (Mk.pows xs.length).length := by omega
    have hy := List.getElem?_eq_getElem hlt
    obtain ⟨y, hyy⟩ : ∃ y, y = (Mk.pows xs.length)[r] := ⟨_, rfl⟩
    rw [← hyy] at hy
    obtain ⟨f1, f2, f3⟩ := Mk.ofR_next hy
    obtain ⟨a, ha⟩ : ∃ a, a = ((Mk.pows xs.length).take r).sum := ⟨_, rfl⟩
    rw [← ha] at f1 f2 f3 ⊢
    refine (hps.keep k2).load hy ?_
    have ea : V.iadd .i64 (a : Int) (y : Int) = ((a + y : Nat) : Int) := by rw [V.iadd_i64 (by omega) (by omega)]; omega
    rw [ea]
    refine And.intro (by unfold V.inR; omega) (And.intro (by unfold V.inR; rw [V.inat_nat]; omega) ?_)
    rw [V.inat_nat, V.inat_nat]
    refine rroot_spec y ((xs.drop a).take y) (by rw [List.length_take, List.length_drop]; omega) (by omega) (fun x hx => hB x (List.mem_of_mem_drop (List.mem_of_mem_take hx))) _ _ _ _ (by unfold V.nsub; rw [List.length_take, List.length_drop]; omega) (by unfold V.nsub; omega) (((hs.keep k1).keep k2).sub (by omega) a y) _ ?_
    intro w3 k3
    rw [V.vStr_mk]
    refine app_str (hr.keep k3) (by omega) _ rfl ?_
    intro p4 c4 w4 h4 k4 at4
    rw [← f1] at h4
    rw [V.vSlice_mk]
    have kp4 : V.Kp V.Nil w1 w4 := kp_new (V.Kp.trans k2 k3) k4 hq
    refine (hps.keep kp4).load hy ?_
    rw [ea]
    have e5 : V.iadd .i64 (r : Int) 1 = ((r + 1 : Nat) : Int) := by rw [V.iadd_i64 (by omega) (by omega)]; omega
    rw [e5]
    refine ⟨⟨r + 1, rfl, rfl, by omega, by rw [f2], h4, app_new (V.Kp.trans k2 k3) hq at4, kp4⟩, ?_⟩
    show (Mk.pows xs.length).length - ((r + 1 : Nat) : Int).toNat < (Mk.pows xs.length).length - (r : Int).toNat
    omega
  · obtain rfl : r = (Mk.pows xs.length).length := by omega
    rw [← hlo, List.take_length] at hr
    rw [← hlo]
    exact hc q d w2 hr (hq.le k1.size) (V.Kp.trans k1 k2)
theorem indexNone_spec (xs : List ByteArray) (hlen : xs.length ≤ 1000000) (p : Option Addr) (n c : Nat) (w : World) (hn : n = xs.length) (hs : StrAt w p xs) (g : FuncId)
    (hg : ∀ x ∈ xs, ∀ w' (C : Value → World → Prop), C (.bool false) w' → V.callV Try.prog (.func (.func g) #[] #[]) [.string x] w' C) (C : Value → World → Prop) (hc : ∀ w', V.Kp V.Nil w w' → C (.bool false) w') :
    V.CallsR Try.prog 54 #[.slice p n c, .func (.func g) #[] #[]] w C := by
  subst hn
  refine V.calls_of_fnVC (args := [_, _]) Try.func54 ?_
  rw [vc_slices_ContainsFunc_string]
  refine V.calls_of_fnVC (args := [_, _]) Try.func79 ?_
  rw [vc_slices_IndexFunc_string]
  refine ⟨fun x => ⟨fun w' => ∃ k : Nat, x = (k : Int) ∧ k ≤ xs.length ∧ w' = w, fun _ => xs.length - x.toNat⟩, ⟨0, rfl, by omega, rfl⟩, ?_⟩
  rintro _ _ w1 ⟨k, rfl, hk, rfl⟩
  refine V.ifB_of (fun hq => ?_) (fun hq => ?_) <;> simp only [V.ilt_t, V.ilt_f, V.ile_t, V.ile_f, V.igt_t, V.igt_f, V.ige_t, V.ige_f, V.ieq_t, V.ieq_f, V.ine_t, V.ine_f, V.isNil_t, V.isNil_f, V.bnot_eq, Bool.not_eq_true', Bool.not_eq_false', V.seq_t, V.seq_f, V.zi] at hq
  · have hlt : k < xs.length := by omega
    refine hs.load rfl (List.getElem?_eq_getElem hlt) ?_
    refine hg _ (List.getElem_mem hlt) _ _ ?_
    rw [V.vBool_mk, V.ifB_f]
    have e5 : V.iadd .i64 (k : Int) 1 = ((k + 1 : Nat) : Int) := by rw [V.iadd_i64 (by omega) (by omega)]; omega
    rw [e5]
    refine ⟨⟨k + 1, rfl, by omega, rfl⟩, ?_⟩
    show xs.length - ((k + 1 : Nat) : Int).toNat < xs.length - (k : Int).toNat
    omega
  · rw [V.vInt_mk]
    exact hc w1 (V.Kp.refl _ _)
theorem rright_spec (n : Nat) (hn : n ≤ 64) (xs : List ByteArray) (hlen : xs.length = (Mk.pows n).length) (hB : ∀ x ∈ xs, x.size = 32) (p : Option Addr) (m c : Nat) (w : World) (hm : m = xs.length) (hs : StrAt w p xs) (C : Value → World → Prop) (hc : ∀ w', V.Kp V.Nil w w' → C (.bool true) w') :
    V.CallsR Try.prog 25 #[.agg #[.int .i64 (n : Int), .slice p m c]] w C := by
  subst hm
  have hpl := Mk.pows_le n
  refine V.calls_of_fnVC (args := [_]) Try.func25 ?_
  rw [vc_ranges_Right]
  simp only [V.nptr_eq, V.vBool_mk, V.vInt_mk, V.vStr_mk, V.vPtr_mk, V.vMap_mk, V.vSlice_mk, V.bnot_eq, V.nilCk_mk, V.aadd_mk, V.size_alloc, V.size_drew, V.size_setCell, V.nmul_eq, V.inat_nat, V.inat_lit, Nat.mul_one, Nat.reduceMul, Nat.reduceAdd, V.and_assoc', V.true_and', V.ifB_t, V.ifB_f, V.isNil_some, V.isNil_none, Bool.not_true, Bool.not_false, Nat.zero_add, Nat.add_zero]
  refine V.lI ?_
  refine V.ifB_of (fun hq => ?_) (fun hq => ?_) <;> simp only [V.ilt_t, V.ilt_f, V.ile_t, V.ile_f, V.igt_t, V.igt_f, V.ige_t, V.ige_f, V.ieq_t, V.ieq_f, V.ine_t, V.ine_f, V.isNil_t, V.isNil_f, V.bnot_eq, Bool.not_eq_true', Bool.not_eq_false', V.seq_t, V.seq_f] at hq
  rotate_left
  · omega
  refine V.lI ?_
  refine V.ifB_of (fun hq => ?_) (fun hq => ?_) <;> simp only [V.ilt_t, V.ilt_f, V.ile_t, V.ile_f, V.igt_t, V.igt_f, V.ige_t, V.ige_f, V.ieq_t, V.ieq_f, V.ine_t, V.ine_f, V.isNil_t, V.isNil_f, V.bnot_eq, Bool.not_eq_true', Bool.not_eq_false', V.seq_t, V.seq_f] at hq
  rotate_left
  · omega
  refine V.lL ?_
  refine V.lI ?_
  have ec : V.iconv .u64 (n : Int) = (n : Int) := by unfold V.iconv; rw [V.wrap_u64 (by omega) (by omega)]
  rw [ec]
  refine ones_spec n (by omega) _ _ ?_
  (try simp only [V.nptr_eq, V.vBool_mk, V.vInt_mk, V.vStr_mk, V.vPtr_mk, V.vMap_mk, V.vSlice_mk, V.bnot_eq, V.nilCk_mk, V.aadd_mk, V.size_alloc, V.size_drew, V.size_setCell, V.nmul_eq, V.inat_nat, V.inat_lit, Nat.mul_one, Nat.reduceMul, Nat.reduceAdd, V.and_assoc', V.true_and', V.ifB_t, V.ifB_f, V.isNil_some, V.isNil_none, Bool.not_true, Bool.not_false, Nat.zero_add, Nat.add_zero])
  refine And.intro V.hC ?_
  refine V.ifB_of (fun hq => ?_) (fun hq => ?_) <;> simp only [V.ilt_t, V.ilt_f, V.ile_t, V.ile_f, V.igt_t, V.igt_f, V.ige_t, V.ige_f, V.ieq_t, V.ieq_f, V.ine_t, V.ine_f, V.isNil_t, V.isNil_f, V.bnot_eq, Bool.not_eq_true', Bool.not_eq_false', V.seq_t, V.seq_f, V.zi] at hq
  rotate_left
  · omega
  refine V.lL ?_
  refine indexNone_spec xs (by omega) p _ c _ rfl (hs.keep V.kp) 55 ?_ _ ?_
  · intro x hx w' C' hC'
    refine callV_fn (by kernel_rfl) ?_
    refine V.calls_of_fnVC (args := [_]) Try.func55 ?_
    rw [vc_ranges_Right_1]
    have := hB x hx
    have e : V.ine (V.zi (V.ssize x)) 32 = false := by simp [V.ine, V.zi, V.ssize, this]
    rw [e]; exact hC'
  · intro w1 k1
    rw [V.vBool_mk]
    exact hc w1 (V.Kp.trans V.kp k1)
end Go.Proofs.Ytboifenkbhfnfaa
