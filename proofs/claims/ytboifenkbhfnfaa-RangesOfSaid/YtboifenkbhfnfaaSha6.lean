/- sha: contracts: greatest, square, cube: the table's numbers. -/
import Derived.Test.YtboifenkbhfnfaaSha5
set_option linter.all false
set_option maxRecDepth 100000
namespace Go.Proofs.Ytboifenkbhfnfaa
open Go
theorem mul64_spec (x y : Nat) (hx : x < 18446744073709551616) (hy : y < 18446744073709551616) (w : World) (C : Value → World → Prop)
    (hc : C (.tuple #[.int .u64 ((x * y / 18446744073709551616 : Nat) : Int), .int .u64 ((x * y % 18446744073709551616 : Nat) : Int)]) w) :
    V.CallsR Try.prog 66 #[.int .u64 (x : Int), .int .u64 (y : Int)] w C := by
  have h := Any.bits_Mul64 (P := Try.prog) (ρ := Try.laysRepeat_ren) { Try.laysRepeat with } x y hx hy w
  rw [show Try.laysRepeat_ren.f 264 = 66 by kernel_rfl] at h
  refine Calls.mono h ?_
  rintro e w' ⟨rfl, rfl⟩
  exact ⟨_, rfl, hc⟩
/-- the greatest number below 2^36 that is so -/
def gr (f : Nat → Bool) : Nat → Nat → Nat
  | 0, x => x
  | k + 1, x => gr f k (if f (x ||| 2 ^ k) then x ||| 2 ^ k else x)
theorem gr_lt (f : Nat → Bool) : ∀ (k x : Nat), k ≤ 36 → x < 2 ^ 36 → gr f k x < 2 ^ 36
  | 0, _, _, h => h
  | k + 1, x, hk, h => by
    have h2 : x ||| 2 ^ k < 2 ^ 36 := Nat.or_lt_two_pow h (Nat.pow_lt_pow_right (by omega) (by omega))
    unfold gr
    split
    · exact gr_lt f k _ (by omega) h2
    · exact gr_lt f k _ (by omega) h
theorem gr_zero (f : Nat → Bool) (x : Nat) : gr f 0 x = x := rfl
theorem gr_succ (f : Nat → Bool) (k x : Nat) : gr f (k + 1) x = gr f k (if f (x ||| 2 ^ k) then x ||| 2 ^ k else x) := rfl
attribute [irreducible] gr
theorem ior64_nat (x y : Nat) (hx : x < 18446744073709551616) (hy : y < 18446744073709551616) : V.ior .u64 (x : Int) (y : Int) = ((x ||| y : Nat) : Int) := by
  have e : ∀ z : Nat, z < 18446744073709551616 → (z : Int) = V.bI (BitVec.ofNat 64 z) := fun z hz => by
    unfold V.bI; rw [BitVec.toNat_ofNat, Nat.mod_eq_of_lt hz]
  have h2 : x ||| y < 2 ^ 64 := Nat.or_lt_two_pow (by omega) (by omega)
  rw [e x hx, e y hy, V.ior64]
  unfold V.bI
  rw [BitVec.toNat_or, BitVec.toNat_ofNat, BitVec.toNat_ofNat, Nat.mod_eq_of_lt hx, Nat.mod_eq_of_lt hy]
theorem callV_mono {F : Value} {args : List Value} {w : World} {A B : Value → World → Prop} (h : V.callV Try.prog F args w A) (hab : ∀ v w, A v w → B v w) : V.callV Try.prog F args w B := by
  unfold V.callV at h ⊢
  split at h
  · have h1 := (V.onlyIf_of h).1
    have h2 := (V.onlyIf_of h).2
    show V.onlyIf (V.callable Try.prog _) _
    rw [h1]
    exact V.CallsR.mono h2 hab
  · obtain ⟨r, h1, h2, h3⟩ := h
    exact ⟨r, h1, h2, RoundIn.mono h3 fun e w ⟨v, e1, h4⟩ => ⟨v, e1, hab _ _ h4⟩⟩
  · exact h.elim
theorem greatest_spec (fv : Value) (f : Nat → Bool) (I : World → Prop) (w : World) (h0 : I w)
    (hI : ∀ (x : Nat) (w' : World), x < 68719476736 → I w' → V.callV Try.prog fv [.int .u64 (x : Int)] w' (fun v w'' => v = .bool (f x) ∧ I w''))
    (C : Value → World → Prop) (hc : ∀ w', I w' → C (.int .u64 ((gr f 36 0 : Nat) : Int)) w') :
    V.CallsR Try.prog 64 #[fv] w C := by
  refine V.calls_of_fnVC (args := [_]) Try.func64 ?_
  rw [vc_sha_greatest]
  refine ⟨fun x b => ⟨fun w' => ∃ (k m : Nat), k ≤ 36 ∧ b = ((2 ^ k / 2 : Nat) : Int) ∧ x = (m : Int) ∧ m < 68719476736 ∧ gr f k m = gr f 36 0 ∧ I w', fun _ => b.toNat⟩, ⟨36, 0, by omega, by decide, rfl, by decide, rfl, h0⟩, ?_⟩
  rintro _ x b w1 ⟨k, m, hk, rfl, rfl, hm, hg, hi⟩
  cases k with
  | zero =>
    rw [show V.igt ((2 ^ 0 / 2 : Nat) : Int) 0 = false by decide, V.ifB_f]
    have := hc w1 hi
    rw [← hg, gr_zero] at this
    exact this
  | succ k =>
    have hp : 2 ^ (k + 1) / 2 = 2 ^ k := by rw [Nat.pow_succ]; omega
    have hpos : 0 < 2 ^ k := Nat.two_pow_pos k
    have hlt : 2 ^ k < 68719476736 := Nat.pow_lt_pow_right (m := k) (n := 36) (by omega) (by omega)
    rw [hp]
    have e0 : V.igt ((2 ^ k : Nat) : Int) 0 = true := by rw [V.igt_t]; exact_mod_cast hpos
    rw [e0, V.ifB_t, ior64_nat m _ (by omega) (by omega)]
    have h2 : m ||| 2 ^ k < 68719476736 := Nat.or_lt_two_pow (n := 36) hm hlt
    refine callV_mono (hI _ w1 h2 hi) ?_
    rintro v w2 ⟨rfl, hi2⟩
    rw [V.vBool_mk]
    have es : V.ishr .u64 ((2 ^ k : Nat) : Int) 1 = ((2 ^ k / 2 : Nat) : Int) := by
      unfold V.ishr
      rw [show min (1 : Int).toNat IntKind.u64.bits = 1 by decide, Int.fdiv_eq_ediv_of_nonneg _ (by decide)]
      omega
    rw [es]
    have hg' := hg
    rw [gr_succ] at hg'
    refine V.ifB_of (fun hq => ?_) (fun hq => ?_)
    · refine And.intro (by unfold V.ige0; omega) ⟨⟨k, _, by omega, rfl, rfl, h2, ?_, hi2⟩, ?_⟩
      · rw [if_pos hq] at hg'; exact hg'
      · show ((2 ^ k / 2 : Nat) : Int).toNat < ((2 ^ k : Nat) : Int).toNat
        rw [Int.toNat_natCast, Int.toNat_natCast]; omega
    · refine And.intro (by unfold V.ige0; omega) ⟨⟨k, _, by omega, rfl, rfl, hm, ?_, hi2⟩, ?_⟩
      · rw [if_neg (by rw [hq]; simp)] at hg'; exact hg'
      · show ((2 ^ k / 2 : Nat) : Int).toNat < ((2 ^ k : Nat) : Int).toNat
        rw [Int.toNat_natCast, Int.toNat_natCast]; omega
def sqT (p x : Nat) : Bool := decide (x * x / 18446744073709551616 < p) || (decide (x * x / 18446744073709551616 = p) && decide (x * x % 18446744073709551616 = 0))
def cbT (p x : Nat) : Bool :=
  let l := x * x % 18446744073709551616
  let hi := l * x / 18446744073709551616 + x * x / 18446744073709551616 * x
  decide (hi < p * 4294967296) || (decide (hi = p * 4294967296) && decide (l * x % 18446744073709551616 = 0))
theorem square_1_spec (p x : Nat) (hp : p < 1000) (hx : x < 68719476736) (w : World) (b : Nat) (t : TypeId) (hb : V.Blk w b #[.int .u64 (p : Int)] t) (C : Value → World → Prop) (hc : C (.bool (sqT p x)) w) :
    V.CallsR Try.prog 67 #[.int .u64 (x : Int), .pointer (some ⟨b, 0, none⟩)] w C := by
  refine V.calls_of_fnVC (args := [_, _]) Try.func67 ?_
  rw [vc_sha_square_1]
  refine mul64_spec x x (by omega) (by omega) _ _ ?_
  refine ⟨_, _, rfl, ?_⟩
  repeat (first | with_reducible refine V.lI ?_ | with_reducible refine V.lS ?_ | with_reducible refine V.lP ?_ | with_reducible refine V.lL ?_ | with_reducible refine V.lM ?_ | with_reducible refine V.lB ?_ | with_reducible refine V.sC ?_ | with_reducible refine V.lG ?_ | ((with_reducible refine And.intro ?_ ?_); (· first | with_reducible exact V.hC | with_reducible exact V.hB | (simp only [V.inX, V.inR, V.inz, V.ige0, V.zi]; omega))) | simp only [V.nptr_eq, V.vBool_mk, V.vInt_mk, V.vStr_mk, V.vPtr_mk, V.vMap_mk, V.vSlice_mk, V.bnot_eq, V.nilCk_mk, V.aadd_mk, V.size_alloc, V.size_drew, V.size_setCell, V.nmul_eq, V.inat_nat, V.inat_lit, Nat.mul_one, Nat.reduceMul, Nat.reduceAdd, V.and_assoc', V.true_and', V.ifB_t, V.ifB_f, V.isNil_some, V.isNil_none, Bool.not_true, Bool.not_false, Nat.zero_add, Nat.add_zero])
  unfold sqT at hc
  generalize x * x / 18446744073709551616 = hi at *
  generalize x * x % 18446744073709551616 = lo at *
  refine V.ifB_of (fun hq => ?_) (fun hq => ?_) <;> simp only [V.ilt_t, V.ilt_f, V.ile_t, V.ile_f, V.igt_t, V.igt_f, V.ige_t, V.ige_f, V.ieq_t, V.ieq_f, V.ine_t, V.ine_f, V.isNil_t, V.isNil_f, V.bnot_eq, Bool.not_eq_true', Bool.not_eq_false', V.seq_t, V.seq_f] at hq
  · have : hi < p := by omega
    simpa [this] using hc
  repeat (first | with_reducible refine V.lI ?_ | with_reducible refine V.lS ?_ | with_reducible refine V.lP ?_ | with_reducible refine V.lL ?_ | with_reducible refine V.lM ?_ | with_reducible refine V.lB ?_ | with_reducible refine V.sC ?_ | with_reducible refine V.lG ?_ | ((with_reducible refine And.intro ?_ ?_); (· first | with_reducible exact V.hC | with_reducible exact V.hB | (simp only [V.inX, V.inR, V.inz, V.ige0, V.zi]; omega))) | simp only [V.nptr_eq, V.vBool_mk, V.vInt_mk, V.vStr_mk, V.vPtr_mk, V.vMap_mk, V.vSlice_mk, V.bnot_eq, V.nilCk_mk, V.aadd_mk, V.size_alloc, V.size_drew, V.size_setCell, V.nmul_eq, V.inat_nat, V.inat_lit, Nat.mul_one, Nat.reduceMul, Nat.reduceAdd, V.and_assoc', V.true_and', V.ifB_t, V.ifB_f, V.isNil_some, V.isNil_none, Bool.not_true, Bool.not_false, Nat.zero_add, Nat.add_zero])
  refine V.ifB_of (fun hq2 => ?_) (fun hq2 => ?_) <;> simp only [V.ilt_t, V.ilt_f, V.ile_t, V.ile_f, V.igt_t, V.igt_f, V.ige_t, V.ige_f, V.ieq_t, V.ieq_f, V.ine_t, V.ine_f, V.isNil_t, V.isNil_f, V.bnot_eq, Bool.not_eq_true', Bool.not_eq_false', V.seq_t, V.seq_f] at hq2
  · have e : hi = p := by omega
    have e2 : V.ieq (lo : Int) 0 = decide (lo = 0) := by unfold V.ieq; rw [Bool.eq_iff_iff]; simp
    rw [e2]
    simpa [e] using hc
  · have e : ¬ hi = p := by omega
    have e3 : ¬ hi < p := by omega
    simpa [e, e3] using hc
theorem cube_1_spec (p x : Nat) (hp : p < 1000) (hx : x < 68719476736) (w : World) (b : Nat) (t : TypeId) (hb : V.Blk w b #[.int .u64 (p : Int)] t) (C : Value → World → Prop) (hc : C (.bool (cbT p x)) w) :
    V.CallsR Try.prog 65 #[.int .u64 (x : Int), .pointer (some ⟨b, 0, none⟩)] w C := by
  refine V.calls_of_fnVC (args := [_, _]) Try.func65 ?_
  rw [vc_sha_cube_1]
  refine mul64_spec x x (by omega) (by omega) _ _ ?_
  refine ⟨_, _, rfl, ?_⟩
  have hxx : x * x < 68719476736 * 68719476736 := Nat.mul_lt_mul'' hx hx
  obtain ⟨l, hl⟩ : ∃ l, l = x * x % 18446744073709551616 := ⟨_, rfl⟩
  have hl2 : l < 18446744073709551616 := by omega
  rw [← hl]
  refine mul64_spec l x (by omega) (by omega) _ _ ?_
  refine ⟨_, _, rfl, ?_⟩
  have hlx : l * x < 18446744073709551616 * 68719476736 := Nat.mul_lt_mul'' (by omega) hx
  obtain ⟨hh, hhh⟩ : ∃ hh, hh = x * x / 18446744073709551616 := ⟨_, rfl⟩
  have hh2 : hh < 256 := by omega
  have hhx : hh * x < 256 * 68719476736 := Nat.mul_lt_mul'' (by omega) hx
  rw [← hhh]
  obtain ⟨h1, hh1⟩ : ∃ h1, h1 = l * x / 18446744073709551616 := ⟨_, rfl⟩
  obtain ⟨l1, hl1⟩ : ∃ l1, l1 = l * x % 18446744073709551616 := ⟨_, rfl⟩
  have h1b : h1 < 68719476736 := by omega
  rw [← hh1, ← hl1]
  have e1 : V.iadd .u64 (h1 : Int) (V.imul .u64 (hh : Int) (x : Int)) = ((h1 + hh * x : Nat) : Int) := by
    unfold V.iadd V.imul
    rw [← Int.natCast_mul, V.wrap_u64 (x := ((hh * x : Nat) : Int)) (by omega) (by omega), V.wrap_u64 (by omega) (by omega)]
    omega
  have e2 : V.ishl .u64 (p : Int) 32 = ((p * 4294967296 : Nat) : Int) := by
    unfold V.ishl
    rw [show min (32 : Int).toNat IntKind.u64.bits = 32 by decide, V.wrap_u64 (by omega) (by omega)]
    omega
  rw [e1]
  repeat (first | with_reducible refine V.lI ?_ | with_reducible refine V.lS ?_ | with_reducible refine V.lP ?_ | with_reducible refine V.lL ?_ | with_reducible refine V.lM ?_ | with_reducible refine V.lB ?_ | with_reducible refine V.sC ?_ | with_reducible refine V.lG ?_ | ((with_reducible refine And.intro ?_ ?_); (· first | with_reducible exact V.hC | with_reducible exact V.hB | (simp only [V.inX, V.inR, V.inz, V.ige0, V.zi]; omega))) | simp only [V.nptr_eq, V.vBool_mk, V.vInt_mk, V.vStr_mk, V.vPtr_mk, V.vMap_mk, V.vSlice_mk, V.bnot_eq, V.nilCk_mk, V.aadd_mk, V.size_alloc, V.size_drew, V.size_setCell, V.nmul_eq, V.inat_nat, V.inat_lit, Nat.mul_one, Nat.reduceMul, Nat.reduceAdd, V.and_assoc', V.true_and', V.ifB_t, V.ifB_f, V.isNil_some, V.isNil_none, Bool.not_true, Bool.not_false, Nat.zero_add, Nat.add_zero])
  have hc' : C (.bool (decide (h1 + hh * x < p * 4294967296) || (decide (h1 + hh * x = p * 4294967296) && decide (l1 = 0)))) w := by
    rw [hh1, hl1, hhh, hl]; exact hc
  obtain ⟨hi, hhi⟩ : ∃ hi, hi = h1 + hh * x := ⟨_, rfl⟩
  obtain ⟨q, hqq⟩ : ∃ q, q = p * 4294967296 := ⟨_, rfl⟩
  rw [← hhi, ← hqq] at hc'
  rw [← hqq] at e2
  rw [← hhi, e2]
  refine V.ifB_of (fun hq => ?_) (fun hq => ?_) <;> simp only [V.ilt_t, V.ilt_f, V.ile_t, V.ile_f, V.igt_t, V.igt_f, V.ige_t, V.ige_f, V.ieq_t, V.ieq_f, V.ine_t, V.ine_f, V.isNil_t, V.isNil_f, V.bnot_eq, Bool.not_eq_true', Bool.not_eq_false', V.seq_t, V.seq_f] at hq
  · have : hi < q := by omega
    simpa [this] using hc'
  repeat (first | with_reducible refine V.lI ?_ | with_reducible refine V.lS ?_ | with_reducible refine V.lP ?_ | with_reducible refine V.lL ?_ | with_reducible refine V.lM ?_ | with_reducible refine V.lB ?_ | with_reducible refine V.sC ?_ | with_reducible refine V.lG ?_ | ((with_reducible refine And.intro ?_ ?_); (· first | with_reducible exact V.hC | with_reducible exact V.hB | (simp only [V.inX, V.inR, V.inz, V.ige0, V.zi]; omega))) | simp only [V.nptr_eq, V.vBool_mk, V.vInt_mk, V.vStr_mk, V.vPtr_mk, V.vMap_mk, V.vSlice_mk, V.bnot_eq, V.nilCk_mk, V.aadd_mk, V.size_alloc, V.size_drew, V.size_setCell, V.nmul_eq, V.inat_nat, V.inat_lit, Nat.mul_one, Nat.reduceMul, Nat.reduceAdd, V.and_assoc', V.true_and', V.ifB_t, V.ifB_f, V.isNil_some, V.isNil_none, Bool.not_true, Bool.not_false, Nat.zero_add, Nat.add_zero])
  rw [e2]
  refine V.ifB_of (fun hq2 => ?_) (fun hq2 => ?_) <;> simp only [V.ilt_t, V.ilt_f, V.ile_t, V.ile_f, V.igt_t, V.igt_f, V.ige_t, V.ige_f, V.ieq_t, V.ieq_f, V.ine_t, V.ine_f, V.isNil_t, V.isNil_f, V.bnot_eq, Bool.not_eq_true', Bool.not_eq_false', V.seq_t, V.seq_f] at hq2
  · have e : hi = q := by omega
    have e4 : V.ieq (l1 : Int) 0 = decide (l1 = 0) := by unfold V.ieq; rw [Bool.eq_iff_iff]; simp
    rw [e4]
    simpa [e] using hc'
  · have e : ¬ hi = q := by omega
    have e3 : ¬ hi < q := by omega
    simpa [e, e3] using hc'
theorem callV_fn {n : FuncId} {cap : Array Value} {args : List Value} {w : World} {C : Value → World → Prop} (hn : V.callable Try.prog n = true) (h : V.CallsR Try.prog n (args ++ cap.toList).toArray w C) : V.callV Try.prog (.func (.func n) #[] cap) args w C := by
  unfold V.callV
  show V.onlyIf (V.callable Try.prog n) _
  rw [hn]
  exact h
theorem square_spec (p : Nat) (hp : p < 1000) (w : World) (C : Value → World → Prop) (hc : ∀ w', V.Kp V.Nil w w' → C (.int .u32 (V.bI (BitVec.ofNat 32 (gr (sqT p) 36 0)))) w') :
    V.CallsR Try.prog 38 #[.int .u64 (p : Int)] w C := by
  refine V.calls_of_fnVC (args := [_]) Try.func38 ?_
  rw [vc_sha_square]
  refine greatest_spec _ (sqT p) (fun w' => V.Blk w' w.heap.size #[.int .u64 (p : Int)] 80 ∧ V.Kp V.Nil w w') _ ⟨V.blk, V.kp⟩ ?_ _ ?_
  · intro x w1 hx hI
    have h1 := hI.1
    have k1 := hI.2
    refine callV_fn (by kernel_rfl) ?_
    exact square_1_spec p x hp hx w1 w.heap.size _ h1 _ ⟨rfl, h1, k1⟩
  · rintro w1 ⟨h1, k1⟩
    simp only [V.nptr_eq, V.vBool_mk, V.vInt_mk, V.vStr_mk, V.vPtr_mk, V.vMap_mk, V.vSlice_mk, V.bnot_eq, V.nilCk_mk, V.aadd_mk, V.size_alloc, V.size_drew, V.size_setCell, V.nmul_eq, V.inat_nat, V.inat_lit, Nat.mul_one, Nat.reduceMul, Nat.reduceAdd, V.and_assoc', V.true_and', V.ifB_t, V.ifB_f, V.isNil_some, V.isNil_none, Bool.not_true, Bool.not_false, Nat.zero_add, Nat.add_zero]
    unfold V.iconv
    rw [V.wrap32_bI]
    exact hc w1 k1
theorem cube_spec (p : Nat) (hp : p < 1000) (w : World) (C : Value → World → Prop) (hc : ∀ w', V.Kp V.Nil w w' → C (.int .u32 (V.bI (BitVec.ofNat 32 (gr (cbT p) 36 0)))) w') :
    V.CallsR Try.prog 37 #[.int .u64 (p : Int)] w C := by
  refine V.calls_of_fnVC (args := [_]) Try.func37 ?_
  rw [vc_sha_cube]
  refine greatest_spec _ (cbT p) (fun w' => V.Blk w' w.heap.size #[.int .u64 (p : Int)] 80 ∧ V.Kp V.Nil w w') _ ⟨V.blk, V.kp⟩ ?_ _ ?_
  · intro x w1 hx hI
    have h1 := hI.1
    have k1 := hI.2
    refine callV_fn (by kernel_rfl) ?_
    exact cube_1_spec p x hp hx w1 w.heap.size _ h1 _ ⟨rfl, h1, k1⟩
  · rintro w1 ⟨h1, k1⟩
    simp only [V.nptr_eq, V.vBool_mk, V.vInt_mk, V.vStr_mk, V.vPtr_mk, V.vMap_mk, V.vSlice_mk, V.bnot_eq, V.nilCk_mk, V.aadd_mk, V.size_alloc, V.size_drew, V.size_setCell, V.nmul_eq, V.inat_nat, V.inat_lit, Nat.mul_one, Nat.reduceMul, Nat.reduceAdd, V.and_assoc', V.true_and', V.ifB_t, V.ifB_f, V.isNil_some, V.isNil_none, Bool.not_true, Bool.not_false, Nat.zero_add, Nat.add_zero]
    unfold V.iconv
    rw [V.wrap32_bI]
    exact hc w1 k1
end Go.Proofs.Ytboifenkbhfnfaa
