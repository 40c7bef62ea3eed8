/- the reference's SHA-256: contract: Sum: the same digest. -/
import Derived.Test.YtboifenkbhfnfaaRefS2
import Derived.Test.YtboifenkbhfnfaaSha5
import Derived.Test.YtboifenkbhfnfaaByR
set_option linter.all false
set_option maxRecDepth 100000
namespace Go.Proofs.Ytboifenkbhfnfaa
open Go
def byL (l : List UInt8) : List Value := l.map fun b => .int .u8 (b.toNat : Int)
theorem byL_app (l m : List UInt8) : byL (l ++ m) = byL l ++ byL m := by simp [byL]
theorem byL_len (l : List UInt8) : (byL l).length = l.length := by simp [byL]
abbrev BRow (w : World) (p : Option Addr) (n c : Nat) (l : List UInt8) : Prop := V.RowF w 5 1 p n c (byL l)
theorem app_byte {w : World} {p : Option Addr} {n c : Nat} {l : List UInt8} (h : BRow w p n c l) (hn : n ≤ 140737488355000) (x : UInt8) {a : Nat} (ha : a = w.heap.size) {C : Value → World → Prop}
    (hc : ∀ p' c' w', BRow w' p' (n + 1) c' (l ++ [x]) → V.Kp (fun k => V.blk? p = some k) w w' → (∀ k, V.blk? p' = some k → V.blk? p = some k ∨ w.heap.size ≤ k) → C (.slice p' (n + 1) c') w') :
    V.RunV Try.prog (Builtin.append_ #[113, 113] 113 #[.slice p n c, .slice (some ⟨a, 0, none⟩) 1 1]) (w.alloc (.cells #[.int .u8 (x.toNat : Int)] 5)) C := by
  subst ha
  have hk0 : V.Kp V.Nil w (w.alloc (.cells #[.int .u8 (x.toNat : Int)] 5)) := V.Kp.alloc (V.Kp.refl _ _) _
  have h2 := h.kp hk0 (fun _ _ e => e)
  refine V.RowF.append h2 Try.underlying113 (by kernel_rfl : Try.prog.info? 5 = some Try.t5) (z := .int .u8 0) rfl rfl rfl (by decide) (V.Blk.new w _ _) rfl (by intro u hu; simp at hu; subst hu; rfl) (by show (n + 1) * 1 ≤ _; omega) (by omega) ?_
  intro p' c' w' hr hk hat
  refine hc p' c' w' (by rw [BRow, byL_app]; exact hr) (V.Kp.trans (hk0.mono (fun _ _ e => e.elim)) hk) ?_
  intro k hk'
  rcases hat with e | e
  · exact .inl (by rw [← e]; exact hk')
  · rw [hk'] at e; cases e; right; rw [V.size_alloc]; omega
theorem vcK (w : World) (R : Value → World → Prop) : V.fnVC Try.prog Try.f80 [] w R = V.nilCk (some (V.nptr w)) (fun a1 => V.stBig Try.prog 130 (World.alloc w (Obj.cells (u64C (List.replicate 64 0)) 130 (0, 0))) a1 (u64C Sha.K) (fun w2 => V.nilCk (some (V.nptr w)) (fun a3 => V.ldBig w2 a3 64 (fun x4 => R (.agg x4) w2)))) := by kernel_rfl
theorem K_spec (w : World) (C : Value → World → Prop) (hc : ∀ w', V.Kp V.Nil w w' → C (.agg (u64C Sha.K)) w') : V.CallsR Try.prog 80 #[] w C := by
  refine V.calls_of_fnVC (args := []) Try.func80 ?_
  rw [vcK]
  simp only [V.nptr_eq, V.vBool_mk, V.vInt_mk, V.vStr_mk, V.vPtr_mk, V.vMap_mk, V.vSlice_mk, V.bnot_eq, V.nilCk_mk, V.aadd_mk, V.size_alloc, V.size_drew, V.size_setCell, V.nmul_eq, V.inat_nat, V.inat_lit, Nat.mul_one, Nat.reduceMul, Nat.reduceAdd, V.and_assoc', V.true_and', V.ifB_t, V.ifB_f, V.isNil_some, V.isNil_none, Bool.not_true, Bool.not_false, Nat.zero_add, Nat.add_zero]
  refine V.stBig_w (cs := u64C Sha.K) (cur := u64C (List.replicate 64 0)) (V.Blk.new w _ _) (by kernel_rfl) (by kernel_rfl) rfl (u64C_one _) ?_
  intro w1 h1 k1 _
  refine V.ldBig_w h1 rfl ?_
  exact hc w1 (V.Kp.then (V.kp (w := w)) k1 (fun i hi e => by have e : i = w.heap.size := e; omega))
theorem vcH (w : World) (R : Value → World → Prop) : V.fnVC Try.prog Try.f81 [] w R = V.nilCk (some (V.nptr w)) (fun a1 => V.stBig Try.prog 132 (World.alloc w (Obj.cells (u64C (List.replicate 8 0)) 132 (0, 0))) a1 (u64C Sha.H0) (fun w2 => V.nilCk (some (V.nptr w)) (fun a3 => V.ldBig w2 a3 8 (fun x4 => R (.agg x4) w2)))) := by kernel_rfl
theorem H_spec (w : World) (C : Value → World → Prop) (hc : ∀ w', V.Kp V.Nil w w' → C (.agg (u64C Sha.H0)) w') : V.CallsR Try.prog 81 #[] w C := by
  refine V.calls_of_fnVC (args := []) Try.func81 ?_
  rw [vcH]
  simp only [V.nptr_eq, V.vBool_mk, V.vInt_mk, V.vStr_mk, V.vPtr_mk, V.vMap_mk, V.vSlice_mk, V.bnot_eq, V.nilCk_mk, V.aadd_mk, V.size_alloc, V.size_drew, V.size_setCell, V.nmul_eq, V.inat_nat, V.inat_lit, Nat.mul_one, Nat.reduceMul, Nat.reduceAdd, V.and_assoc', V.true_and', V.ifB_t, V.ifB_f, V.isNil_some, V.isNil_none, Bool.not_true, Bool.not_false, Nat.zero_add, Nat.add_zero]
  refine V.stBig_w (cs := u64C Sha.H0) (cur := u64C (List.replicate 8 0)) (V.Blk.new w _ _) (by kernel_rfl) (by kernel_rfl) rfl (u64C_one _) ?_
  intro w1 h1 k1 _
  refine V.ldBig_w h1 rfl ?_
  exact hc w1 (V.Kp.then (V.kp (w := w)) k1 (fun i hi e => by have e : i = w.heap.size := e; omega))
theorem out_bytes (x : Nat) (hx : x < 4294967296) : #[Value.int .u8 (V.iconv .u8 (V.iquo .u64 (x : Int) 16777216)), .int .u8 (V.iconv .u8 (V.irem (V.iquo .u64 (x : Int) 65536) 256)), .int .u8 (V.iconv .u8 (V.irem (V.iquo .u64 (x : Int) 256) 256)), .int .u8 (V.iconv .u8 (V.irem (x : Int) 256))] = byC (Sha.numB x 4) := by
  have q : ∀ d : Nat, 0 < d → V.iquo .u64 (x : Int) (d : Int) = ((x / d : Nat) : Int) := fun d hd => by
    unfold V.iquo
    rw [IntWalk.up_tdiv rfl rfl]
    have := Nat.div_le_self x d
    exact V.wrap_u64 (Int.natCast_nonneg _) (Int.le_trans (Int.ofNat_le.2 this) (by omega))
  have c8 : ∀ y : Nat, V.iconv .u8 (y : Int) = ((UInt8.ofNat y).toNat : Int) := fun y => by
    unfold V.iconv; rw [IntKind.wrap_u8, UInt8.toNat_ofNat']; omega
  have m8 : ∀ y : Nat, UInt8.ofNat (y % 256) = UInt8.ofNat y := fun y => by
    apply UInt8.toNat_inj.1; rw [UInt8.toNat_ofNat', UInt8.toNat_ofNat']; omega
  rw [show (16777216 : Int) = ((16777216 : Nat) : Int) from rfl, show (65536 : Int) = ((65536 : Nat) : Int) from rfl, show (256 : Int) = ((256 : Nat) : Int) from rfl, q _ (by omega), q _ (by omega), q _ (by omega), irem64n, irem64n, irem64n, c8, c8, c8, c8, m8, m8, m8]
  unfold byC Sha.numB
  simp [List.range, List.range.loop]
theorem to_string2 {w : World} {b n : Nat} {l : List UInt8} {t : TypeId} (h : V.Blk w b (byC l) t) (hn : n = l.length) {c : Nat} {C : Value → Prop} (hc : C (.string ⟨l.toArray⟩)) :
    V.RunR Try.prog (convert 113 9 (.slice (some ⟨b, 0, none⟩) n c)) w C := by subst hn; exact to_string h c hc
set_option maxHeartbeats 2000000 in
/-- the reference's digest -/
theorem rsum_spec (b : ByteArray) (hb : b.size < 100000000000000) (w : World) (C : Value → World → Prop) (hc : ∀ w', V.Kp V.Nil w w' → C (.string (Sha.sum b)) w') :
    V.CallsR Try.prog 57 #[.string b] w C := by
  refine V.calls_of_fnVC (args := [_]) Try.func57 ?_
  rw [vc_annalistref01_Sum]
  have bl := ls_len b
  obtain ⟨n, hn⟩ : ∃ n, n = b.size := ⟨_, rfl⟩
  rw [← hn] at bl hb
  have zl : Sha.zeros n < 64 := by unfold Sha.zeros; omega
  refine V.bytes_of b Try.underlying9 Try.underlying113 Try.underlying5 (by omega) ?_
  intro c w1 h1 k1
  rw [← hn] at h1 ⊢
  simp only [V.nptr_eq, V.vBool_mk, V.vInt_mk, V.vStr_mk, V.vPtr_mk, V.vMap_mk, V.vSlice_mk, V.bnot_eq, V.nilCk_mk, V.aadd_mk, V.size_alloc, V.size_drew, V.size_setCell, V.nmul_eq, V.inat_nat, V.inat_lit, Nat.mul_one, Nat.reduceMul, Nat.reduceAdd, V.and_assoc', V.true_and', V.ifB_t, V.ifB_f, V.isNil_some, V.isNil_none, Bool.not_true, Bool.not_false, Nat.zero_add, Nat.add_zero]
  have h1' : BRow w1 (some ⟨w.heap.size, 0, none⟩) n c (ls b) := h1
  refine app_byte h1' (by omega) 128 rfl ?_
  intro p2 c2 w2 h2 k2 at2
  have kp2 : V.Kp V.Nil w w2 := V.Kp.then k1 k2 (fun i hi e => by have e : some w.heap.size = some i := e; cases e; omega)
  have pb2 : ∀ k, V.blk? p2 = some k → w.heap.size ≤ k := fun k hk => (at2 k hk).elim (fun e => by cases e; exact Nat.le_refl _) (fun e => Nat.le_trans k1.size e)
  simp only [V.nptr_eq, V.vBool_mk, V.vInt_mk, V.vStr_mk, V.vPtr_mk, V.vMap_mk, V.vSlice_mk, V.bnot_eq, V.nilCk_mk, V.aadd_mk, V.size_alloc, V.size_drew, V.size_setCell, V.nmul_eq, V.inat_nat, V.inat_lit, Nat.mul_one, Nat.reduceMul, Nat.reduceAdd, V.and_assoc', V.true_and', V.ifB_t, V.ifB_f, V.isNil_some, V.isNil_none, Bool.not_true, Bool.not_false, Nat.zero_add, Nat.add_zero]
  refine ⟨fun p m c => ⟨fun w' => ∃ k, k ≤ Sha.zeros n ∧ m = n + 1 + k ∧ BRow w' p m c (ls b ++ [128] ++ List.replicate k 0) ∧ (∀ j, V.blk? p = some j → w.heap.size ≤ j) ∧ V.Kp V.Nil w w', fun _ => n + 100 - m⟩, ⟨0, by omega, rfl, by simpa using h2, pb2, kp2⟩, ?_⟩
  clear h1 h1' h2 k1 k2 at2 kp2 pb2
  rintro _ p m c3 w3 ⟨k, hk, rfl, h3, pb3, kp3⟩
  refine And.intro (by unfold V.inz; omega) ?_
  have e1 : V.irem (V.zi (n + 1 + k)) 64 = (((n + 1 + k) % 64 : Nat) : Int) := irem64n _ 64
  rw [e1]
  refine V.ifB_of (fun hq => ?_) (fun hq => ?_) <;> simp only [V.ilt_t, V.ilt_f, V.ile_t, V.ile_f, V.igt_t, V.igt_f, V.ige_t, V.ige_f, V.ieq_t, V.ieq_f, V.ine_t, V.ine_f, V.isNil_t, V.isNil_f, V.bnot_eq, Bool.not_eq_true', Bool.not_eq_false', V.seq_t, V.seq_f] at hq
  · have hk2 : k < Sha.zeros n := by unfold Sha.zeros at *; omega
    simp only [V.nptr_eq, V.vBool_mk, V.vInt_mk, V.vStr_mk, V.vPtr_mk, V.vMap_mk, V.vSlice_mk, V.bnot_eq, V.nilCk_mk, V.aadd_mk, V.size_alloc, V.size_drew, V.size_setCell, V.nmul_eq, V.inat_nat, V.inat_lit, Nat.mul_one, Nat.reduceMul, Nat.reduceAdd, V.and_assoc', V.true_and', V.ifB_t, V.ifB_f, V.isNil_some, V.isNil_none, Bool.not_true, Bool.not_false, Nat.zero_add, Nat.add_zero]
    refine app_byte h3 (by omega) 0 rfl ?_
    intro p4 c4 w4 h4 k4 at4
    simp only [V.nptr_eq, V.vBool_mk, V.vInt_mk, V.vStr_mk, V.vPtr_mk, V.vMap_mk, V.vSlice_mk, V.bnot_eq, V.nilCk_mk, V.aadd_mk, V.size_alloc, V.size_drew, V.size_setCell, V.nmul_eq, V.inat_nat, V.inat_lit, Nat.mul_one, Nat.reduceMul, Nat.reduceAdd, V.and_assoc', V.true_and', V.ifB_t, V.ifB_f, V.isNil_some, V.isNil_none, Bool.not_true, Bool.not_false, Nat.zero_add, Nat.add_zero]
    refine ⟨⟨k + 1, hk2, rfl, ?_, fun j hj => (at4 j hj).elim (pb3 j) (fun e => Nat.le_trans kp3.size e), V.Kp.then kp3 k4 (fun i hi e => by have := pb3 i e; omega)⟩, by show n + 100 - (n + 1 + k + 1) < n + 100 - (n + 1 + k); omega⟩
    rw [List.replicate_succ', ← List.append_assoc]; exact h4
  obtain rfl : k = Sha.zeros n := by unfold Sha.zeros at *; omega
  obtain ⟨l0, hl0⟩ : ∃ l0, l0 = ls b ++ [128] ++ List.replicate (Sha.zeros n) 0 := ⟨_, rfl⟩
  have ll0 : l0.length = n + 1 + Sha.zeros n := by rw [hl0]; simp [bl]; omega
  rw [← hl0] at h3
  refine ⟨fun p m c i => ⟨fun w' => ∃ k : Nat, i = k ∧ k ≤ 8 ∧ m = l0.length + k ∧ BRow w' p m c (l0 ++ (Sha.numB (8 * n) 8).take k) ∧ (∀ j, V.blk? p = some j → w.heap.size ≤ j) ∧ V.Kp V.Nil w w', fun _ => 8 - i.toNat⟩, ⟨0, rfl, by omega, by omega, by simpa using h3, pb3, kp3⟩, ?_⟩
  clear h3 pb3 kp3 hq e1
  rintro _ p4 m4 c4 i4 w4 ⟨k, rfl, hk, rfl, h4, pb4, kp4⟩
  refine V.ifB_of (fun hq => ?_) (fun hq => ?_) <;> simp only [V.ilt_t, V.ilt_f, V.ile_t, V.ile_f, V.igt_t, V.igt_f, V.ige_t, V.ige_f, V.ieq_t, V.ieq_f, V.ine_t, V.ine_f, V.isNil_t, V.isNil_f, V.bnot_eq, Bool.not_eq_true', Bool.not_eq_false', V.seq_t, V.seq_f, V.zi] at hq
  · have e2 : V.imul .u64 (V.iconv .u64 (V.zi (V.ssize b))) 8 = ((8 * n : Nat) : Int) := by
      unfold V.imul V.iconv V.zi V.ssize
      rw [← hn, V.wrap_u64 (x := (n : Int)) (by omega) (by omega), V.wrap_u64 (by omega) (by omega)]; omega
    rw [e2]
    have e5 : V.iadd .i64 (k : Int) 1 = ((k + 1 : Nat) : Int) := by rw [V.iadd_i64 (by omega) (by omega)]; omega
    rw [e5]
    refine ⟨fun x j => ⟨fun w' => w' = w4 ∧ ∃ m : Nat, j = ((k + m : Nat) : Int) ∧ k + m ≤ 7 ∧ x = ((8 * n / 256 ^ m : Nat) : Int), fun _ => 8 - j.toNat⟩, ⟨rfl, 0, by omega, by omega, by simp⟩, ?_⟩
    rintro _ x j w5 ⟨rfl, m, rfl, hm, rfl⟩
    refine V.ifB_of (fun hq2 => ?_) (fun hq2 => ?_) <;> simp only [V.ilt_t, V.ilt_f, V.ile_t, V.ile_f, V.igt_t, V.igt_f, V.ige_t, V.ige_f, V.ieq_t, V.ieq_f, V.ine_t, V.ine_f, V.isNil_t, V.isNil_f, V.bnot_eq, Bool.not_eq_true', Bool.not_eq_false', V.seq_t, V.seq_f, V.zi] at hq2
    · refine And.intro (by unfold V.inz; omega) ?_
      have e6 : V.iadd .i64 ((k + m : Nat) : Int) 1 = ((k + (m + 1) : Nat) : Int) := by rw [V.iadd_i64 (by omega) (by omega)]; omega
      have e7 : V.iquo .u64 ((8 * n / 256 ^ m : Nat) : Int) 256 = ((8 * n / 256 ^ (m + 1) : Nat) : Int) := by
        unfold V.iquo
        rw [show (256 : Int) = ((256 : Nat) : Int) from rfl, IntWalk.up_tdiv rfl rfl, Nat.div_div_eq_div_mul, ← Nat.pow_succ]
        have := Nat.div_le_self (8 * n) (256 ^ (m + 1))
        exact V.wrap_u64 (Int.natCast_nonneg _) (Int.le_trans (Int.ofNat_le.2 this) (by omega))
      rw [e6, e7]
      exact ⟨⟨rfl, m + 1, rfl, by omega, rfl⟩, by show 8 - ((k + (m + 1) : Nat) : Int).toNat < 8 - ((k + m : Nat) : Int).toNat; omega⟩
    · obtain rfl : m = 7 - k := by omega
      refine And.intro (by unfold V.inz; omega) ?_
      have e8 : V.iconv .u8 (V.irem ((8 * n / 256 ^ (7 - k) : Nat) : Int) 256) = ((UInt8.ofNat (8 * n / 256 ^ (7 - k))).toNat : Int) := by
        rw [show (256 : Int) = ((256 : Nat) : Int) from rfl, irem64n]
        unfold V.iconv
        rw [IntKind.wrap_u8, UInt8.toNat_ofNat']; omega
      rw [e8]
      simp only [V.nptr_eq, V.vBool_mk, V.vInt_mk, V.vStr_mk, V.vPtr_mk, V.vMap_mk, V.vSlice_mk, V.bnot_eq, V.nilCk_mk, V.aadd_mk, V.size_alloc, V.size_drew, V.size_setCell, V.nmul_eq, V.inat_nat, V.inat_lit, Nat.mul_one, Nat.reduceMul, Nat.reduceAdd, V.and_assoc', V.true_and', V.ifB_t, V.ifB_f, V.isNil_some, V.isNil_none, Bool.not_true, Bool.not_false, Nat.zero_add, Nat.add_zero]
      refine app_byte h4 (by omega) _ rfl ?_
      intro p6 c6 w6 h6 k6 at6
      simp only [V.nptr_eq, V.vBool_mk, V.vInt_mk, V.vStr_mk, V.vPtr_mk, V.vMap_mk, V.vSlice_mk, V.bnot_eq, V.nilCk_mk, V.aadd_mk, V.size_alloc, V.size_drew, V.size_setCell, V.nmul_eq, V.inat_nat, V.inat_lit, Nat.mul_one, Nat.reduceMul, Nat.reduceAdd, V.and_assoc', V.true_and', V.ifB_t, V.ifB_f, V.isNil_some, V.isNil_none, Bool.not_true, Bool.not_false, Nat.zero_add, Nat.add_zero]
      refine ⟨⟨k + 1, rfl, by omega, rfl, ?_, fun j hj => (at6 j hj).elim (pb4 j) (fun e => Nat.le_trans kp4.size e), V.Kp.then kp4 k6 (fun i hi e => by have := pb4 i e; omega)⟩, by show 8 - ((k + 1 : Nat) : Int).toNat < 8 - (k : Int).toNat; omega⟩
      have en : (Sha.numB (8 * n) 8).take (k + 1) = (Sha.numB (8 * n) 8).take k ++ [UInt8.ofNat (8 * n / 256 ^ (7 - k))] := by
        rw [List.take_succ_eq_append_getElem (by rw [Sha.numB_len]; omega)]
        congr 2
        simp only [Sha.numB, List.getElem_map, List.getElem_range]
      rw [en, ← List.append_assoc]; exact h6
  obtain rfl : k = 8 := by omega
  obtain ⟨l, hl⟩ : ∃ l, l = Sha.padded (ls b) := ⟨_, rfl⟩
  have el : l0 ++ (Sha.numB (8 * n) 8).take 8 = l := by
    rw [List.take_of_length_le (by rw [Sha.numB_len]; omega), hl, hl0, Sha.padded, bl, Nat.mod_eq_of_lt (by omega)]
  have ll : l.length = l0.length + 8 := by rw [← el, List.length_append, List.length_take, Sha.numB_len]; omega
  have lm : l.length % 64 = 0 := by rw [hl]; exact Sha.padded_mod _
  rw [el, ← ll] at h4
  rw [← ll]
  clear hq
  refine K_spec _ _ ?_
  intro w5 k5
  rw [V.vArr_mk (by rw [u64C_size]; rfl)]
  have h5 := h4.kp k5 (fun _ _ e => e)
  have kp5 := V.Kp.trans kp4 k5
  obtain ⟨kb, hkb⟩ : ∃ kb, kb = w5.heap.size := ⟨_, rfl⟩
  rw [← hkb, zero64_64]
  refine V.stBig_w (cs := u64C Sha.K) (cur := u64C (List.replicate 64 0)) (V.Blk.new' hkb) (by kernel_rfl) (by kernel_rfl) rfl (u64C_one _) ?_
  intro w6 b6 k6 z6
  rw [V.size_alloc, ← hkb] at z6
  have kw6 : V.Kp V.Nil w5 w6 := V.Kp.then (V.kp (w := w5)) k6 (fun i hi e => by have e : i = kb := e; omega)
  refine H_spec _ _ ?_
  intro w7 k7
  rw [V.vArr_mk (by rw [u64C_size]; rfl)]
  have b7 := V.Kp.blk k7 b6 (fun e => e)
  have z7 := k7.size
  obtain ⟨vb, hvb⟩ : ∃ vb, vb = w7.heap.size := ⟨_, rfl⟩
  rw [← hvb]
  refine V.stBig_w (cs := u64C Sha.H0) (cur := u64C (List.replicate 8 0)) (V.Blk.new' hvb) (by kernel_rfl) (by kernel_rfl) rfl (u64C_one _) ?_
  intro w8 b8 k8 z8
  rw [V.size_alloc, ← hvb] at z8
  have kw8 : V.Kp V.Nil w5 w8 := V.Kp.trans kw6 (V.Kp.then (V.Kp.alloc k7 _) k8 (fun i hi e => by have e : i = vb := e; omega))
  have bk8 : V.Blk w8 kb (u64C Sha.K) 130 := V.Kp.blk k8 (b7.alloc _) (fun e => by have e : kb = vb := e; omega)
  have h8 := h5.kp kw8 (fun _ _ e => e)
  have kp8 := V.Kp.trans kp5 kw8
  have hvw : w.heap.size ≤ vb := by have := kp5.size; omega
  have p4lt : ∀ j, V.blk? p4 = some j → j < kb := fun j hj => by rw [hkb]; exact h5.lt j hj
  clear h4 h5 k5 k6 k7 k8 b6 b7 kw6 kw8 kp4 kp5
  have lpos : 64 ≤ l.length := by omega
  refine ⟨fun i => ⟨fun w' => ∃ q : Nat, i = ((64 * q : Nat) : Int) ∧ 64 * q ≤ l.length ∧ V.Blk w' kb (u64C Sha.K) 130 ∧ V.Blk w' vb (u64C (Sha.runB q Sha.H0 l)) 132 ∧ BRow w' p4 l.length c4 l ∧ V.Kp V.Nil w w', fun _ => l.length - i.toNat⟩, ⟨0, rfl, by omega, bk8, b8, h8, kp8⟩, ?_⟩
  rintro _ i w9 ⟨q, rfl, hq, bk9, b9, h9, kp9⟩
  have rl : (Sha.runB q Sha.H0 l).length = 8 := Sha.runB_len _ _ _ rfl
  refine V.ifB_of (fun hq2 => ?_) (fun hq2 => ?_) <;> simp only [V.ilt_t, V.ilt_f, V.ile_t, V.ile_f, V.igt_t, V.igt_f, V.ige_t, V.ige_f, V.ieq_t, V.ieq_f, V.ine_t, V.ine_f, V.isNil_t, V.isNil_f, V.bnot_eq, Bool.not_eq_true', Bool.not_eq_false', V.seq_t, V.seq_f, V.zi] at hq2
  · have hq3 : 64 * q + 64 ≤ l.length := by omega
    have ea : V.iadd .i64 ((64 * q : Nat) : Int) 64 = ((64 * (q + 1) : Nat) : Int) := by rw [V.iadd_i64 (by omega) (by omega)]; omega
    rw [ea]
    refine V.ldBig_w bk9.drew (by rw [u64C_size]; rfl) ?_
    refine V.ldBig_w b9.drew (by rw [u64C_size, rl]) ?_
    obtain ⟨g, cur, fz, rfl, hgf, hnc, hcm, hcs, htk⟩ : ∃ g cur fz, p4 = some ⟨g, 0, none⟩ ∧ V.FBlk w9 g cur 5 fz ∧ l.length ≤ c4 ∧ c4 ≤ maxLen ∧ cur.size = c4 * 1 ∧ cur.toList.take (l.length * 1) = byL l := by
      rcases h9 with ⟨_, h0, _⟩ | h9
      · omega
      · exact h9
    refine And.intro (by unfold V.inR; omega) (And.intro (by unfold V.inR V.inat; omega) ?_)
    have esl : V.slAdr (some ⟨g, 0, none⟩) c4 (64 * q) 1 = some ⟨g, 64 * q, none⟩ := by
      unfold V.slAdr
      rw [if_neg (by omega)]
      have := V.aadd_mk g 0 (64 * q * 1)
      simpa [V.aadd] using this
    have en : V.nsub (64 * (q + 1)) (64 * q) = 64 := by unfold V.nsub; omega
    simp only [V.inat_nat, en, esl]
    refine block_spec (Sha.runB q Sha.H0 l) rl ((l.drop (64 * q)).take 64) g (64 * q) _ _ (by rw [V.size_drew]; exact hgf.lt) (fun j hj => ?_) _ ?_
    · have hj2 : 64 * q + j < l.length := by omega
      have hv : (byL l)[64 * q + j]? = some (.int .u8 ((l[64 * q + j]).toNat : Int)) := by simp [byL, hj2]
      have e1 : ((l.drop (64 * q)).take 64).getD j 0 = l[64 * q + j] := by
        rw [List.getD_eq_getElem?_getD, List.getElem?_take, if_pos hj, List.getElem?_drop, List.getElem?_eq_getElem hj2]; rfl
      rw [e1]
      exact h9.cell hv
    intro w10 k10
    rw [V.vArr_mk (by rw [u64C_size, Sha.comp_len])]
    have c9 := V.Kp.blk k10 b9.drew (fun e => e)
    refine V.stBig_w (cs := u64C (Sha.comp (Sha.runB q Sha.H0 l) ((l.drop (64 * q)).take 64))) c9 (by kernel_rfl) (by rw [u64C_size, Sha.comp_len]; kernel_rfl) (by rw [u64C_size, u64C_size, rl, Sha.comp_len]) (u64C_one _) ?_
    intro w11 b11 k11 _
    have kq : V.Kp (V.One vb) w9 w11 := V.Kp.trans ((V.Kp.refl _ w9).drew) (V.Kp.trans (k10.mono (fun _ _ e => e.elim)) k11)
    refine ⟨⟨q + 1, rfl, by omega, V.Kp.blk kq bk9 (fun e => by have e : kb = vb := e; omega), b11.to ?_, h9.kp kq (fun j hj e => by have := p4lt j hj; have e : j = vb := e; omega), V.Kp.then kp9 kq (fun i hi e => by have e : i = vb := e; omega)⟩, by show l.length - ((64 * (q + 1) : Nat) : Int).toNat < l.length - ((64 * q : Nat) : Int).toNat; rw [Int.toNat_natCast, Int.toNat_natCast]; omega⟩
    rw [Sha.runB_add q 1]
    rfl
  obtain rfl : q = l.length / 64 := by omega
  obtain ⟨o, ho⟩ : ∃ o, o = Sha.runB (l.length / 64) Sha.H0 l := ⟨_, rfl⟩
  rw [← ho] at b9 rl
  have dg : Sha.digest (ls b) = Sha.outB o := by rw [ho, hl]; rfl
  have ob : ∀ k, k < 8 → Sha.outB (o.take (k + 1)) = Sha.outB (o.take k) ++ Sha.numB (Sha.g o k).toNat 4 := fun k hk => by
    unfold Sha.outB
    rw [List.take_succ_eq_append_getElem (by omega), List.flatMap_append]
    simp [Sha.g, show k < o.length by omega]
  refine ⟨fun s i => ⟨fun w' => ∃ k : Nat, i = k ∧ k ≤ 8 ∧ ls s = Sha.outB (o.take k) ∧ V.Blk w' vb (u64C o) 132 ∧ V.Kp V.Nil w w', fun _ => 8 - i.toNat⟩, ⟨0, rfl, by omega, rfl, b9, kp9⟩, ?_⟩
  clear b9 kp9 bk9 h9 hq2
  rintro _ s i w9 ⟨k, rfl, hk, hs, b9, kp9⟩
  have sl : s.size = 4 * k := by
    rw [← ls_len, hs]; unfold Sha.outB
    rw [List.length_flatMap, List.map_congr_left (g := fun _ => 4) (fun x _ => Sha.numB_len _ _), List.map_const', List.sum_replicate_nat, List.length_take]
    omega
  refine V.ifB_of (fun hq2 => ?_) (fun hq2 => ?_) <;> simp only [V.ilt_t, V.ilt_f, V.ile_t, V.ile_f, V.igt_t, V.igt_f, V.ige_t, V.ige_f, V.ieq_t, V.ieq_f, V.ine_t, V.ine_f, V.isNil_t, V.isNil_f, V.bnot_eq, Bool.not_eq_true', Bool.not_eq_false', V.seq_t, V.seq_f, V.zi] at hq2
  · have hk8 : k < 8 := by omega
    have e5 : V.iadd .i64 (k : Int) 1 = ((k + 1 : Nat) : Int) := by rw [V.iadd_i64 (by omega) (by omega)]; omega
    rw [e5]
    have gk : (u64C o)[k]? = some (.int .u64 (V.bI (Sha.g o k))) := u64C_get (by omega)
    repeat (first | with_reducible refine V.lI ?_ | with_reducible refine V.lS ?_ | with_reducible refine V.lP ?_ | with_reducible refine V.lL ?_ | with_reducible refine V.lM ?_ | with_reducible refine V.lB ?_ | with_reducible refine V.sC ?_ | with_reducible refine V.lG ?_ | ((with_reducible refine And.intro ?_ ?_); (· first | with_reducible exact V.hC | with_reducible exact V.hB | (simp only [V.inX, V.inR, V.inz, V.ige0, V.zi]; omega))) | simp only [V.nptr_eq, V.vBool_mk, V.vInt_mk, V.vStr_mk, V.vPtr_mk, V.vMap_mk, V.vSlice_mk, V.bnot_eq, V.nilCk_mk, V.aadd_mk, V.size_alloc, V.size_drew, V.size_setCell, V.nmul_eq, V.inat_nat, V.inat_lit, Nat.mul_one, Nat.reduceMul, Nat.reduceAdd, V.and_assoc', V.true_and', V.ifB_t, V.ifB_f, V.isNil_some, V.isNil_none, Bool.not_true, Bool.not_false, Nat.zero_add, Nat.add_zero])
    rw [bI_nat, out_bytes _ (Sha.g o k).isLt]
    refine to_string2 (V.Blk.new w9.drew (byC (Sha.numB (Sha.g o k).toNat 4)) 5) (Sha.numB_len _ _).symm ?_
    · simp only [V.nptr_eq, V.vBool_mk, V.vInt_mk, V.vStr_mk, V.vPtr_mk, V.vMap_mk, V.vSlice_mk, V.bnot_eq, V.nilCk_mk, V.aadd_mk, V.size_alloc, V.size_drew, V.size_setCell, V.nmul_eq, V.inat_nat, V.inat_lit, Nat.mul_one, Nat.reduceMul, Nat.reduceAdd, V.and_assoc', V.true_and', V.ifB_t, V.ifB_f, V.isNil_some, V.isNil_none, Bool.not_true, Bool.not_false, Nat.zero_add, Nat.add_zero]
      refine And.intro ?_ ⟨⟨k + 1, rfl, by omega, ?_, V.blk, V.kp⟩, by show 8 - ((k + 1 : Nat) : Int).toNat < 8 - (k : Int).toNat; omega⟩
      · unfold V.sfits; rw [sl, ← ls_len, ls_mk, Sha.numB_len]; omega
      · rw [ls_cat, hs, ls_mk, ob k hk8]
  · obtain rfl : k = 8 := by omega
    rw [List.take_of_length_le (by omega), ← dg] at hs
    have := hc w9 kp9
    unfold Sha.sum at this
    rw [show (ByteArray.mk (Sha.digest b.data.toList).toArray) = s from ls_inj (by rw [hs]; rfl)] at this
    exact this
end Go.Proofs.Ytboifenkbhfnfaa
