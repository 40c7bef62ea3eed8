/- sha: contract: Make: the table is the standard's. -/
import Derived.Test.YtboifenkbhfnfaaSha6
import Derived.Test.YtboifenkbhfnfaaRow
set_option linter.all false
set_option maxRecDepth 100000
namespace Go.Proofs.Ytboifenkbhfnfaa
open Go
/-- the first 65 primes -/
def PR : List Nat := [2, 3, 5, 7, 11, 13, 17, 19, 23, 29, 31, 37, 41, 43, 47, 53, 59, 61, 67, 71, 73, 79, 83, 89, 97, 101, 103, 107, 109, 113, 127, 131, 137, 139, 149, 151, 157, 163, 167, 173, 179, 181, 191, 193, 197, 199, 211, 223, 227, 229, 233, 239, 241, 251, 257, 263, 269, 271, 277, 281, 283, 293, 307, 311, 313]
def pr (k : Nat) : Nat := PR.getD k 0
theorem pr_cube : ∀ k : Fin 64, BitVec.ofNat 32 (gr (cbT (pr k.val)) 36 0) = Sha.g Sha.K k.val := by decide +kernel
theorem pr_square : ∀ k : Fin 8, BitVec.ofNat 32 (gr (sqT (pr k.val)) 36 0) = Sha.g Sha.H0 k.val := by decide +kernel
/-- none of the primes ahead divides a prime -/
theorem pr_no : ∀ k : Fin 65, ∀ j : Fin 65, j.val < k.val → pr k.val % pr j.val ≠ 0 := by decide +kernel
/-- between two primes each number is divided by one ahead -/
theorem pr_yes : ∀ k : Fin 65, ∀ n : Fin 314, (k.val = 0 ∨ pr (k.val - 1) < n.val) → 2 ≤ n.val → n.val < pr k.val → ∃ j : Fin 65, j.val < k.val ∧ n.val % pr j.val = 0 := by decide +kernel
theorem pr_pos : ∀ k : Fin 65, 2 ≤ pr k.val ∧ pr k.val ≤ 313 := by decide +kernel
theorem pr_lt : ∀ k : Fin 64, pr k.val < pr (k.val + 1) := by decide +kernel
def tab (k : Nat) : List Sha.W := (Sha.K.take k ++ List.replicate (64 - k) 0) ++ (Sha.H0.take (min k 8) ++ List.replicate (8 - min k 8) 0)
theorem tab_len (k : Nat) (h : k ≤ 64) : (tab k).length = 72 := by
  have h1 : Sha.K.length = 64 := rfl
  have h2 : Sha.H0.length = 8 := rfl
  simp only [tab, List.length_append, List.length_take, List.length_replicate, h1, h2]; omega
theorem set_tab (k : Nat) (h : k < 64) : ∀ l : List Sha.W, ((Sha.K.take k ++ List.replicate (64 - k) 0) ++ l).set k (Sha.g Sha.K k) = (Sha.K.take (k + 1) ++ List.replicate (64 - (k + 1)) 0) ++ l := by
  intro l
  have h1 : Sha.K.length = 64 := rfl
  rw [List.set_append_left _ _ (by simp [h1]; omega), set_take_rep Sha.K 0 _ 64 k h1 (by unfold Sha.g; simp [h1, h])]
theorem set_tab2 (k : Nat) (h : k < 8) (l : List Sha.W) (hl : l.length = 64) : (l ++ (Sha.H0.take k ++ List.replicate (8 - k) 0)).set (64 + k) (Sha.g Sha.H0 k) = l ++ (Sha.H0.take (k + 1) ++ List.replicate (8 - (k + 1)) 0) := by
  have h1 : Sha.H0.length = 8 := rfl
  rw [List.set_append_right _ _ (by omega), hl, Nat.add_sub_cancel_left, set_take_rep Sha.H0 0 _ 8 k h1 (by unfold Sha.g; simp [h1, h])]
theorem tab_0 : V.zcells Try.prog 29 = u32C (tab 0) := by kernel_rfl
theorem tab_64 : u32C (tab 64) = tblC := by kernel_rfl
def u64v (n : Nat) : Value := .int .u64 (n : Int)
def mkT (s : Nat) (v : Value) : Array Value := #[.pointer (some ⟨s, 0, none⟩), .pointer (some ⟨s + 1, 0, none⟩), .pointer (some ⟨s + 1 + 1, 0, none⟩), undef, .func (.func 63) #[] #[], v, undef, undef, undef, undef, undef, undef, undef, undef, undef, undef, undef, undef, undef, undef, undef, undef, undef]
/-- what holds between two rounds: k primes were found -/
structure MkI (w : World) (s k : Nat) (rec : LoopState → Option Code → Loop) (w' : World) : Prop where
  b0 : V.Blk w' s (u32C (tab 0)) 29
  b1 : V.Blk w' (s + 1) (u32C (tab k)) 29
  b2 : V.Blk w' (s + 1 + 1) #[.int .i64 (k : Int)] 3
  bl : V.LBlk w' (s + 4) (rec .ready none)
  bd : V.DBlk w' (s + 3)
  kp : V.Kp V.Nil w w'
theorem MkI.mono {w : World} {s k : Nat} {rec : LoopState → Option Code → Loop} {w1 w2 : World} (h : MkI w s k rec w1) (hs : w.heap.size = s) {S : Nat → Prop} (hk : V.Kp S w1 w2) (hn : ∀ b, S b → s + 5 ≤ b) : MkI w s k rec w2 where
  b0 := V.Kp.blk hk h.b0 (fun e => by have := hn _ e; omega)
  b1 := V.Kp.blk hk h.b1 (fun e => by have := hn _ e; omega)
  b2 := V.Kp.blk hk h.b2 (fun e => by have := hn _ e; omega)
  bl := V.Kp.lblk hk h.bl (fun e => by have := hn _ e; omega)
  bd := V.Kp.dblk hk h.bd (fun e => by have := hn _ e; omega)
  kp := V.Kp.then h.kp hk (fun i hi e => by have := hn _ e; omega)
set_option maxHeartbeats 2000000 in
/-- one round: the k-th prime comes -/
theorem make_round (w : World) (s k : Nat) (hs : w.heap.size = s) (hk : k ≤ 64) (fn : FuncId) (w' : World) (hI : MkI w s k (V.rfRec fn (mkT s undef) (V.rfP Try.f12 0) (V.rfA Try.f12 0) (V.rfB Try.f12 0) (s + 3)) w') (C : Value → World → Prop)
    (hgo : ∀ w'', k < 64 → MkI w s (k + 1) (V.rfRec fn (mkT s undef) (V.rfP Try.f12 0) (V.rfA Try.f12 0) (V.rfB Try.f12 0) (s + 3)) w'' → V.Kp (fun b => b ≤ s + 4) w' w'' → C (.bool true) w'')
    (hst : ∀ w'', k = 64 → V.LBlk w'' (s + 4) (V.rfRec fn (mkT s undef) (V.rfP Try.f12 0) (V.rfA Try.f12 0) (V.rfB Try.f12 0) (s + 3) .done (some (.exit 0))) → V.Kp (V.One (s + 4)) w' w'' → C (.bool false) w'') :
    V.callV Try.prog (.func (.yield (s + 4)) #[] #[]) [.int .u64 (pr k : Int)] w' C := by
  obtain ⟨rec, hrec⟩ : ∃ rec, rec = V.rfRec fn (mkT s undef) (V.rfP Try.f12 0) (V.rfA Try.f12 0) (V.rfB Try.f12 0) (s + 3) := ⟨_, rfl⟩
  obtain ⟨b0, b1, b2, bl, bd, kp⟩ := hI
  refine V.callV_yield (tmps' := mkT s (.int .u64 (pr k : Int))) bl (by kernel_rfl) (by kernel_rfl) ?_
  rw [← hrec] at bl hgo hst ⊢
  unfold mkT
  rw [rb_sha_Make_0]
  refine And.intro bl ?_
  have p1 := (pr_pos ⟨k, by omega⟩).1
  have p2 := (pr_pos ⟨k, by omega⟩).2
  simp only at p1 p2
  have bl1 := bl.put (rec .busy none)
  have c0 := b0.putO (r := s + 4) (by omega) (.loop (rec .busy none))
  have c1 := b1.putO (r := s + 4) (by omega) (.loop (rec .busy none))
  have c2 := b2.putO (r := s + 4) (by omega) (.loop (rec .busy none))
  have cd := bd.putO (c := s + 4) (by omega) (.loop (rec .busy none))
  have ck := V.Kp.putO kp (c := s + 4) (.inr (by omega)) (.loop (rec .busy none))
  have cw := V.Kp.putO (V.Kp.refl (fun b => b ≤ s + 4) w') (c := s + 4) (.inl (Nat.le_refl _)) (.loop (rec .busy none))
  have cw2 := V.Kp.putO (V.Kp.refl (V.One (s + 4)) w') (c := s + 4) (.inl rfl) (.loop (rec .busy none))
  generalize V.putO w' (s + 4) (.loop (rec .busy none)) = w1 at *
  clear b0 b1 b2 bl bd kp
  repeat (first | with_reducible refine V.lI ?_ | with_reducible refine V.lS ?_ | with_reducible refine V.lP ?_ | with_reducible refine V.lL ?_ | with_reducible refine V.lM ?_ | with_reducible refine V.lB ?_ | with_reducible refine V.sC ?_ | with_reducible refine V.lG ?_ | ((with_reducible refine And.intro ?_ ?_); (· first | with_reducible exact V.hC | with_reducible exact V.hB | (simp only [V.inX, V.inR, V.inz, V.ige0, V.zi]; omega))) | simp only [V.nptr_eq, V.vBool_mk, V.vInt_mk, V.vStr_mk, V.vPtr_mk, V.vMap_mk, V.vSlice_mk, V.bnot_eq, V.nilCk_mk, V.aadd_mk, V.size_alloc, V.size_drew, V.size_setCell, V.nmul_eq, V.inat_nat, V.inat_lit, Nat.mul_one, Nat.reduceMul, Nat.reduceAdd, V.and_assoc', V.true_and', V.ifB_t, V.ifB_f, V.isNil_some, V.isNil_none, Bool.not_true, Bool.not_false, Nat.zero_add, Nat.add_zero])
  refine V.ifB_of (fun hq => ?_) (fun hq => ?_) <;> simp only [V.ilt_t, V.ilt_f, V.ile_t, V.ile_f, V.igt_t, V.igt_f, V.ige_t, V.ige_f, V.ieq_t, V.ieq_f, V.ine_t, V.ine_f, V.isNil_t, V.isNil_f, V.bnot_eq, Bool.not_eq_true', Bool.not_eq_false', V.seq_t, V.seq_f] at hq
  · refine And.intro bl1 (hst _ (by omega) (bl1.put _) ?_)
    exact V.Kp.putO cw2 (.inl rfl) _
  have hk64 : k < 64 := by omega
  repeat (first | with_reducible refine V.lI ?_ | with_reducible refine V.lS ?_ | with_reducible refine V.lP ?_ | with_reducible refine V.lL ?_ | with_reducible refine V.lM ?_ | with_reducible refine V.lB ?_ | with_reducible refine V.sC ?_ | with_reducible refine V.lG ?_ | ((with_reducible refine And.intro ?_ ?_); (· first | with_reducible exact V.hC | with_reducible exact V.hB | (simp only [V.inX, V.inR, V.inz, V.ige0, V.zi]; omega))) | simp only [V.nptr_eq, V.vBool_mk, V.vInt_mk, V.vStr_mk, V.vPtr_mk, V.vMap_mk, V.vSlice_mk, V.bnot_eq, V.nilCk_mk, V.aadd_mk, V.size_alloc, V.size_drew, V.size_setCell, V.nmul_eq, V.inat_nat, V.inat_lit, Nat.mul_one, Nat.reduceMul, Nat.reduceAdd, V.and_assoc', V.true_and', V.ifB_t, V.ifB_f, V.isNil_some, V.isNil_none, Bool.not_true, Bool.not_false, Nat.zero_add, Nat.add_zero])
  refine cube_spec (pr k) (by omega) _ _ ?_
  intro w2 k2
  rw [pr_cube ⟨k, hk64⟩]
  have d0 := V.Kp.blk k2 c0.drew (fun e => e)
  have d1 := V.Kp.blk k2 c1.drew (fun e => e)
  have d2 := V.Kp.blk k2 c2.drew (fun e => e)
  have dl := V.Kp.lblk k2 bl1.drew (fun e => e)
  have dd := V.Kp.dblk k2 cd.drew (fun e => e)
  have dk : V.Kp V.Nil w w2 := V.Kp.trans ck.drew k2
  have dw : V.Kp (fun b => b ≤ s + 4) w' w2 := V.Kp.then cw.drew k2 (fun _ _ e => e.elim)
  have tl := tab_len k (by omega)
  have e5 : V.iadd .i64 (k : Int) 1 = ((k + 1 : Nat) : Int) := by rw [V.iadd_i64 (by omega) (by omega)]; omega
  simp only
  repeat (first | with_reducible refine V.lI ?_ | with_reducible refine V.lS ?_ | with_reducible refine V.lP ?_ | with_reducible refine V.lL ?_ | with_reducible refine V.lM ?_ | with_reducible refine V.lB ?_ | with_reducible refine V.sC ?_ | with_reducible refine V.lG ?_ | ((with_reducible refine And.intro ?_ ?_); (· first | with_reducible exact V.hC | with_reducible exact V.hB | (simp only [V.inX, V.inR, V.inz, V.ige0, V.zi]; omega))) | simp only [V.nptr_eq, V.vBool_mk, V.vInt_mk, V.vStr_mk, V.vPtr_mk, V.vMap_mk, V.vSlice_mk, V.bnot_eq, V.nilCk_mk, V.aadd_mk, V.size_alloc, V.size_drew, V.size_setCell, V.nmul_eq, V.inat_nat, V.inat_lit, Nat.mul_one, Nat.reduceMul, Nat.reduceAdd, V.and_assoc', V.true_and', V.ifB_t, V.ifB_f, V.isNil_some, V.isNil_none, Bool.not_true, Bool.not_false, Nat.zero_add, Nat.add_zero])
  refine V.sC (cs := u32C (tab k)) ?_ V.blk (by rw [u32C_size]; omega)
  have f1 := d1.set k (.int .u32 (V.bI (Sha.g Sha.K k)))
  rw [u32C_set, tab, set_tab k hk64] at f1
  have f0 := d0.set_ne (c := s + 1) (o := k) (by omega) (.int .u32 (V.bI (Sha.g Sha.K k)))
  have f2 := d2.set_ne (c := s + 1) (o := k) (by omega) (.int .u32 (V.bI (Sha.g Sha.K k)))
  have fl := dl.set ⟨s + 1, k, none⟩ (.int .u32 (V.bI (Sha.g Sha.K k)))
  have fd := dd.set ⟨s + 1, k, none⟩ (.int .u32 (V.bI (Sha.g Sha.K k)))
  have fk := V.Kp.set dk (c := s + 1) (o := k) (.inr (by omega)) (.int .u32 (V.bI (Sha.g Sha.K k)))
  have fw := V.Kp.set dw (c := s + 1) (o := k) (.inl (by omega)) (.int .u32 (V.bI (Sha.g Sha.K k)))
  have fz : w2.heap.size = (w2.setCell ⟨s + 1, k, none⟩ (.int .u32 (V.bI (Sha.g Sha.K k)))).heap.size := by rw [V.size_setCell]
  generalize w2.setCell ⟨s + 1, k, none⟩ (.int .u32 (V.bI (Sha.g Sha.K k))) = w3 at *
  repeat (first | with_reducible refine V.lI ?_ | with_reducible refine V.lS ?_ | with_reducible refine V.lP ?_ | with_reducible refine V.lL ?_ | with_reducible refine V.lM ?_ | with_reducible refine V.lB ?_ | with_reducible refine V.sC ?_ | with_reducible refine V.lG ?_ | ((with_reducible refine And.intro ?_ ?_); (· first | with_reducible exact V.hC | with_reducible exact V.hB | (simp only [V.inX, V.inR, V.inz, V.ige0, V.zi]; omega))) | simp only [V.nptr_eq, V.vBool_mk, V.vInt_mk, V.vStr_mk, V.vPtr_mk, V.vMap_mk, V.vSlice_mk, V.bnot_eq, V.nilCk_mk, V.aadd_mk, V.size_alloc, V.size_drew, V.size_setCell, V.nmul_eq, V.inat_nat, V.inat_lit, Nat.mul_one, Nat.reduceMul, Nat.reduceAdd, V.and_assoc', V.true_and', V.ifB_t, V.ifB_f, V.isNil_some, V.isNil_none, Bool.not_true, Bool.not_false, Nat.zero_add, Nat.add_zero])
  refine V.ifB_of (fun hq2 => ?_) (fun hq2 => ?_) <;> simp only [V.ilt_t, V.ilt_f, V.ile_t, V.ile_f, V.igt_t, V.igt_f, V.ige_t, V.ige_f, V.ieq_t, V.ieq_f, V.ine_t, V.ine_f, V.isNil_t, V.isNil_f, V.bnot_eq, Bool.not_eq_true', Bool.not_eq_false', V.seq_t, V.seq_f] at hq2
  · have hk8 : k < 8 := by omega
    repeat (first | with_reducible refine V.lI ?_ | with_reducible refine V.lS ?_ | with_reducible refine V.lP ?_ | with_reducible refine V.lL ?_ | with_reducible refine V.lM ?_ | with_reducible refine V.lB ?_ | with_reducible refine V.sC ?_ | with_reducible refine V.lG ?_ | ((with_reducible refine And.intro ?_ ?_); (· first | with_reducible exact V.hC | with_reducible exact V.hB | (simp only [V.inX, V.inR, V.inz, V.ige0, V.zi]; omega))) | simp only [V.nptr_eq, V.vBool_mk, V.vInt_mk, V.vStr_mk, V.vPtr_mk, V.vMap_mk, V.vSlice_mk, V.bnot_eq, V.nilCk_mk, V.aadd_mk, V.size_alloc, V.size_drew, V.size_setCell, V.nmul_eq, V.inat_nat, V.inat_lit, Nat.mul_one, Nat.reduceMul, Nat.reduceAdd, V.and_assoc', V.true_and', V.ifB_t, V.ifB_f, V.isNil_some, V.isNil_none, Bool.not_true, Bool.not_false, Nat.zero_add, Nat.add_zero])
    refine square_spec (pr k) (by omega) _ _ ?_
    intro w4 k4
    rw [pr_square ⟨k, hk8⟩]
    have g0 := V.Kp.blk k4 f0.drew (fun e => e)
    have g1 := V.Kp.blk k4 f1.drew (fun e => e)
    have g2 := V.Kp.blk k4 f2.drew (fun e => e)
    have gl := V.Kp.lblk k4 fl.drew (fun e => e)
    have gd := V.Kp.dblk k4 fd.drew (fun e => e)
    have gk : V.Kp V.Nil w w4 := V.Kp.trans fk.drew k4
    have gw : V.Kp (fun b => b ≤ s + 4) w' w4 := V.Kp.then fw.drew k4 (fun _ _ e => e.elim)
    have hl64 : (Sha.K.take (k + 1) ++ List.replicate (64 - (k + 1)) 0 : List Sha.W).length = 64 := by
      have h1 : Sha.K.length = 64 := rfl
      simp [h1]; omega
    simp only
    repeat (first | with_reducible refine V.lI ?_ | with_reducible refine V.lS ?_ | with_reducible refine V.lP ?_ | with_reducible refine V.lL ?_ | with_reducible refine V.lM ?_ | with_reducible refine V.lB ?_ | with_reducible refine V.sC ?_ | with_reducible refine V.lG ?_ | ((with_reducible refine And.intro ?_ ?_); (· first | with_reducible exact V.hC | with_reducible exact V.hB | (simp only [V.inX, V.inR, V.inz, V.ige0, V.zi]; omega))) | simp only [V.nptr_eq, V.vBool_mk, V.vInt_mk, V.vStr_mk, V.vPtr_mk, V.vMap_mk, V.vSlice_mk, V.bnot_eq, V.nilCk_mk, V.aadd_mk, V.size_alloc, V.size_drew, V.size_setCell, V.nmul_eq, V.inat_nat, V.inat_lit, Nat.mul_one, Nat.reduceMul, Nat.reduceAdd, V.and_assoc', V.true_and', V.ifB_t, V.ifB_f, V.isNil_some, V.isNil_none, Bool.not_true, Bool.not_false, Nat.zero_add, Nat.add_zero])
    refine V.sC (cs := _) ?_ g1 (by rw [u32C_size, List.length_append, hl64, List.length_append, List.length_take, List.length_replicate, show Sha.H0.length = 8 from rfl]; omega)
    have i1 := g1.set (64 + k) (.int .u32 (V.bI (Sha.g Sha.H0 k)))
    rw [u32C_set, Nat.min_eq_left (by omega), set_tab2 k hk8 _ hl64] at i1
    refine V.lI ?_ (g2.set_ne (by omega) _) rfl
    rw [e5]
    refine V.sC ?_ (g2.set_ne (by omega) _)
    refine And.intro ((gl.set _ _).set _ _) (hgo _ hk64 ⟨?_, ?_, ?_, ?_, ?_, ?_⟩ ?_)
    · exact ((g0.set_ne (by omega) _).set_ne (by omega) _).putO (by omega) _
    · refine V.Blk.to ((i1.set_ne (by omega) _).putO (by omega) _) ?_
      rw [tab, Nat.min_eq_left (by omega)]
    · exact ((g2.set_ne (by omega) _).set 0 _).putO (by omega) _
    · exact ((gl.set _ _).set _ _).put _
    · exact ((gd.set _ _).set _ _).putO (by omega) _
    · exact V.Kp.putO (V.Kp.set (V.Kp.set gk (.inr (by omega)) _) (.inr (by omega)) _) (.inr (by omega)) _
    · exact V.Kp.putO (V.Kp.set (V.Kp.set gw (.inl (by omega)) _) (.inl (by omega)) _) (.inl (by omega)) _
  · repeat (first | with_reducible refine V.lI ?_ | with_reducible refine V.lS ?_ | with_reducible refine V.lP ?_ | with_reducible refine V.lL ?_ | with_reducible refine V.lM ?_ | with_reducible refine V.lB ?_ | with_reducible refine V.sC ?_ | with_reducible refine V.lG ?_ | ((with_reducible refine And.intro ?_ ?_); (· first | with_reducible exact V.hC | with_reducible exact V.hB | (simp only [V.inX, V.inR, V.inz, V.ige0, V.zi]; omega))) | simp only [V.nptr_eq, V.vBool_mk, V.vInt_mk, V.vStr_mk, V.vPtr_mk, V.vMap_mk, V.vSlice_mk, V.bnot_eq, V.nilCk_mk, V.aadd_mk, V.size_alloc, V.size_drew, V.size_setCell, V.nmul_eq, V.inat_nat, V.inat_lit, Nat.mul_one, Nat.reduceMul, Nat.reduceAdd, V.and_assoc', V.true_and', V.ifB_t, V.ifB_f, V.isNil_some, V.isNil_none, Bool.not_true, Bool.not_false, Nat.zero_add, Nat.add_zero])
    rw [e5]
    refine And.intro (fl.set _ _) (hgo _ hk64 ⟨?_, ?_, ?_, ?_, ?_, ?_⟩ ?_)
    · exact (f0.set_ne (by omega) _).putO (by omega) _
    · refine V.Blk.to ((f1.set_ne (by omega) _).putO (by omega) _) ?_
      rw [tab, Nat.min_eq_right (by omega), Nat.min_eq_right (by omega)]
    · exact (f2.set 0 _).putO (by omega) _
    · exact (fl.set _ _).put _
    · exact (fd.set _ _).putO (by omega) _
    · exact V.Kp.putO (V.Kp.set fk (.inr (by omega)) _) (.inr (by omega)) _
    · exact V.Kp.putO (V.Kp.set fw (.inl (by omega)) _) (.inl (by omega)) _
set_option maxHeartbeats 1000000 in
/-- the primes come one by one -/
theorem make_primes (w : World) (s : Nat) (hs : w.heap.size = s) (fn : FuncId) (w0 : World) (hI : MkI w s 0 (V.rfRec fn (mkT s undef) (V.rfP Try.f12 0) (V.rfA Try.f12 0) (V.rfB Try.f12 0) (s + 3)) w0) (C : Value → World → Prop)
    (hc : ∀ w', V.Blk w' s (u32C (tab 0)) 29 → V.Blk w' (s + 1) (u32C (tab 64)) 29 → V.DBlk w' (s + 3) → V.Kp V.Nil w w' → V.LBlk w' (s + 4) (V.rfRec fn (mkT s undef) (V.rfP Try.f12 0) (V.rfA Try.f12 0) (V.rfB Try.f12 0) (s + 3) .done (some (.exit 0))) → C (.tuple #[]) w') :
    V.CallsR Try.prog 63 #[.func (.yield (s + 4)) #[] #[]] w0 C := by
  obtain ⟨rec, hrec⟩ : ∃ rec, rec = V.rfRec fn (mkT s undef) (V.rfP Try.f12 0) (V.rfA Try.f12 0) (V.rfB Try.f12 0) (s + 3) := ⟨_, rfl⟩
  refine V.calls_of_fnVC (args := [_]) Try.func63 ?_
  rw [vc_sha_primes_1]
  rw [← hrec] at hI
  refine ⟨fun p n c x => ⟨fun w' => ∃ k m : Nat, k ≤ 64 ∧ x = (m : Int) ∧ n = k ∧ (k = 0 ∨ pr (k - 1) < m) ∧ 2 ≤ m ∧ m ≤ pr k ∧ V.Row w' 80 1 p n c ((PR.take k).map u64v) ∧ (∀ b, V.blk? p = some b → s + 5 ≤ b) ∧ MkI w s k rec w', fun _ => 400 - x.toNat⟩,
    ⟨0, 2, by omega, rfl, rfl, .inl rfl, by omega, by decide, V.Row.nil _ _ _, (by intro b e; cases e), hI⟩, ?_⟩
  rintro _ p k c x w1 ⟨k', m, hk, rfl, hnk, hlo, h2, hhi, hr, hp, hI1⟩
  subst hnk
  have p1 := (pr_pos ⟨k, by omega⟩).1
  have p2 := (pr_pos ⟨k, by omega⟩).2
  simp only at p1 p2
  refine ⟨fun i => ⟨fun w' => w' = w1 ∧ ∃ j : Nat, i = j ∧ j ≤ k ∧ ∀ j', j' < j → m % pr j' ≠ 0, fun _ => k - i.toNat⟩, ⟨rfl, 0, rfl, by omega, by omega⟩, ?_⟩
  rintro _ i w2 ⟨rfl, j, rfl, hj, hnd⟩
  have en : V.iadd .u64 (m : Int) 1 = ((m + 1 : Nat) : Int) := by unfold V.iadd; rw [V.wrap_u64 (by omega) (by omega)]; omega
  have ei : V.iadd .i64 (j : Int) 1 = ((j + 1 : Nat) : Int) := by rw [V.iadd_i64 (by omega) (by omega)]; omega
  rw [en, ei]
  refine V.ifB_of (fun hq => ?_) (fun hq => ?_) <;> simp only [V.ilt_t, V.ilt_f, V.ile_t, V.ile_f, V.igt_t, V.igt_f, V.ige_t, V.ige_f, V.ieq_t, V.ieq_f, V.ine_t, V.ine_f, V.isNil_t, V.isNil_f, V.bnot_eq, Bool.not_eq_true', Bool.not_eq_false', V.seq_t, V.seq_f, V.zi] at hq
  · have hjk : j < k := by omega
    obtain ⟨g, cur, rfl, hb, _, _, _, htk⟩ := hr.some (by omega)
    have q1 := (pr_pos ⟨j, by omega⟩).1
    simp only at q1
    refine And.intro (by simp only [V.inX]; omega) ?_
    simp only [V.nptr_eq, V.vBool_mk, V.vInt_mk, V.vStr_mk, V.vPtr_mk, V.vMap_mk, V.vSlice_mk, V.bnot_eq, V.nilCk_mk, V.aadd_mk, V.size_alloc, V.size_drew, V.size_setCell, V.nmul_eq, V.inat_nat, V.inat_lit, Nat.mul_one, Nat.reduceMul, Nat.reduceAdd, V.and_assoc', V.true_and', V.ifB_t, V.ifB_f, V.isNil_some, V.isNil_none, Bool.not_true, Bool.not_false, Nat.zero_add, Nat.add_zero]
    refine V.ldInt_r (x := (pr j : Int)) hr ?_ ?_
    · rw [List.getElem?_map, List.getElem?_take, if_pos hjk]
      have : PR.length = 65 := rfl
      rw [List.getElem?_eq_getElem (by omega)]
      simp [u64v, pr, show j < PR.length by omega]
    refine And.intro (by unfold V.inz; omega) ?_
    have er : V.irem (m : Int) (pr j : Int) = ((m % pr j : Nat) : Int) := by
      unfold V.irem; rw [Int.tmod_eq_emod_of_nonneg (by omega)]; rfl
    rw [er]
    refine V.ifB_of (fun hq2 => ?_) (fun hq2 => ?_) <;> simp only [V.ilt_t, V.ilt_f, V.ile_t, V.ile_f, V.igt_t, V.igt_f, V.ige_t, V.ige_f, V.ieq_t, V.ieq_f, V.ine_t, V.ine_f, V.isNil_t, V.isNil_f, V.bnot_eq, Bool.not_eq_true', Bool.not_eq_false', V.seq_t, V.seq_f] at hq2
    · have hne : m ≠ pr k := fun e => pr_no ⟨k, by omega⟩ ⟨j, by omega⟩ hjk (by simp only; rw [← e]; omega)
      refine ⟨⟨k, m + 1, hk, rfl, rfl, by omega, by omega, by omega, hr, hp, hI1⟩, ?_⟩
      show 400 - ((m + 1 : Nat) : Int).toNat < 400 - (m : Int).toNat
      rw [Int.toNat_natCast, Int.toNat_natCast]; omega
    · refine ⟨⟨j + 1, rfl, hjk, fun j' hj' => ?_⟩, ?_⟩
      · rcases Nat.lt_succ_iff_lt_or_eq.1 hj' with h | rfl
        · exact hnd j' h
        · omega
      · show k - ((j + 1 : Nat) : Int).toNat < k - (j : Int).toNat
        rw [Int.toNat_natCast, Int.toNat_natCast]; omega
  · obtain rfl : j = k := by omega
    have hm : m = pr j := by
      rcases Nat.lt_or_ge m (pr j) with h | h
      · obtain ⟨a, ha, hb⟩ := pr_yes ⟨j, by omega⟩ ⟨m, by omega⟩ hlo h2 h
        exact absurd hb (hnd _ ha)
      · omega
    have hzs := hI1.b2.lt
    have hz4 := hI1.bl.lt
    have hk0 : V.Kp V.Nil w2 (w2.alloc (.cells #[.int .u64 (m : Int)] 80)) := V.Kp.alloc (V.Kp.refl _ _) _
    have hr2 : V.Row (w2.alloc (.cells #[.int .u64 (m : Int)] 80)) 80 1 p j c ((PR.take j).map u64v) := hr.same (fun b hb => hk0.block b (hr.lt b hb) (fun e => e))
    refine V.Row.append hr2 Try.underlying116 (by kernel_rfl : Try.prog.info? 80 = some Try.t80) (z := .int .u64 0) rfl rfl rfl (by decide) (V.Blk.new w2 _ _) rfl (by intro u hu; simp at hu; subst hu; rfl) (by show (j + 1) * 8 ≤ _; omega) (by omega) ?_
    intro p' c' w3 hr3 k3 hat
    have hI3 : MkI w s j rec w3 := (hI1.mono hs hk0 (fun _ e => e.elim)).mono hs k3 (fun b e => hp b e)
    have hp3 : ∀ b, V.blk? p' = some b → s + 5 ≤ b := fun b hb => by
      rcases hat with h | h
      · exact hp b (by rw [← h]; exact hb)
      · rw [hb] at h; cases h; rw [V.size_alloc]; omega
    simp only [V.nptr_eq, V.vBool_mk, V.vInt_mk, V.vStr_mk, V.vPtr_mk, V.vMap_mk, V.vSlice_mk, V.bnot_eq, V.nilCk_mk, V.aadd_mk, V.size_alloc, V.size_drew, V.size_setCell, V.nmul_eq, V.inat_nat, V.inat_lit, Nat.mul_one, Nat.reduceMul, Nat.reduceAdd, V.and_assoc', V.true_and', V.ifB_t, V.ifB_f, V.isNil_some, V.isNil_none, Bool.not_true, Bool.not_false, Nat.zero_add, Nat.add_zero]
    rw [hrec] at hI3
    rw [hm]
    refine make_round w s j hs hk fn w3 hI3 _ ?_ ?_
    · intro w4 hj4 hI4 k4
      rw [← hrec] at hI4
      simp only [V.nptr_eq, V.vBool_mk, V.vInt_mk, V.vStr_mk, V.vPtr_mk, V.vMap_mk, V.vSlice_mk, V.bnot_eq, V.nilCk_mk, V.aadd_mk, V.size_alloc, V.size_drew, V.size_setCell, V.nmul_eq, V.inat_nat, V.inat_lit, Nat.mul_one, Nat.reduceMul, Nat.reduceAdd, V.and_assoc', V.true_and', V.ifB_t, V.ifB_f, V.isNil_some, V.isNil_none, Bool.not_true, Bool.not_false, Nat.zero_add, Nat.add_zero]
      have en' : V.iadd .u64 (pr j : Int) 1 = ((m + 1 : Nat) : Int) := by rw [← hm]; exact en
      have plt := pr_lt ⟨j, hj4⟩
      simp only at plt
      refine ⟨⟨j + 1, m + 1, by omega, by rw [← hm], rfl, .inr (by rw [Nat.add_sub_cancel, ← hm]; omega), by omega, by omega, ?_, hp3, hI4⟩, ?_⟩
      · have e : (PR.take j).map u64v ++ #[Value.int .u64 (m : Int)].toList = (PR.take (j + 1)).map u64v := by
          have hl : PR.length = 65 := rfl
          rw [List.take_succ_eq_append_getElem (by omega), List.map_append, hm]
          simp [u64v, pr, show j < PR.length by omega]
        rw [e] at hr3
        exact hr3.same (fun b hb => k4.block b (hr3.lt b hb) (fun h => by have := hp3 b hb; have h : b ≤ s + 4 := h; omega))
      · rw [← hm]
        show 400 - ((m + 1 : Nat) : Int).toNat < 400 - (m : Int).toNat
        rw [Int.toNat_natCast, Int.toNat_natCast]; omega
    · intro w4 hj4 hl4 k4
      simp only [V.nptr_eq, V.vBool_mk, V.vInt_mk, V.vStr_mk, V.vPtr_mk, V.vMap_mk, V.vSlice_mk, V.bnot_eq, V.nilCk_mk, V.aadd_mk, V.size_alloc, V.size_drew, V.size_setCell, V.nmul_eq, V.inat_nat, V.inat_lit, Nat.mul_one, Nat.reduceMul, Nat.reduceAdd, V.and_assoc', V.true_and', V.ifB_t, V.ifB_f, V.isNil_some, V.isNil_none, Bool.not_true, Bool.not_false, Nat.zero_add, Nat.add_zero]
      subst hj4
      refine hc w4 (V.Kp.blk k4 hI3.b0 (fun e => by have e : s = s + 4 := e; omega)) (V.Kp.blk k4 hI3.b1 (fun e => by have e : s + 1 = s + 4 := e; omega)) (V.Kp.dblk k4 hI3.bd (fun e => by have e : s + 3 = s + 4 := e; omega)) ?_ hl4
      exact V.Kp.then hI3.kp k4 (fun i hi e => by have e : i = s + 4 := e; omega)
theorem make_spec (w : World) (C : Value → World → Prop) (hc : ∀ w', V.Kp V.Nil w w' → C (.agg tblC) w') :
    V.CallsR Try.prog 12 #[] w C := by
  refine V.calls_of_fnVC (args := []) Try.func12 ?_
  rw [vc_sha_Make, tab_0]
  simp only [V.nptr_eq, V.vBool_mk, V.vInt_mk, V.vStr_mk, V.vPtr_mk, V.vMap_mk, V.vSlice_mk, V.bnot_eq, V.nilCk_mk, V.aadd_mk, V.size_alloc, V.size_drew, V.size_setCell, V.nmul_eq, V.inat_nat, V.inat_lit, Nat.mul_one, Nat.reduceMul, Nat.reduceAdd, V.and_assoc', V.true_and', V.ifB_t, V.ifB_f, V.isNil_some, V.isNil_none, Bool.not_true, Bool.not_false, Nat.zero_add, Nat.add_zero]
  refine V.sC (w := ((w.alloc _).alloc _).alloc _) ?_ V.blk
  refine V.calls_of_fnVC (args := []) Try.func36 ?_
  rw [vc_sha_primes]
  refine V.rfVC_fn (by kernel_rfl) ?_
  intro fn
  obtain ⟨w0, hw0⟩ : ∃ w0, w0 = (((w.alloc (.cells (u32C (tab 0)) 29)).alloc (.cells (u32C (tab 0)) 29)).alloc (.cells #[.int .i64 0] 3)).setCell ⟨w.heap.size + 1 + 1, 0, none⟩ (.int .i64 0) := ⟨_, rfl⟩
  have z0 : w0.heap.size = w.heap.size + 3 := by rw [hw0]; simp only [V.size_alloc, V.size_drew, V.size_setCell]
  have b0 : V.Blk w0 w.heap.size (u32C (tab 0)) 29 := by rw [hw0]; exact V.blk
  have b1 : V.Blk w0 (w.heap.size + 1) (u32C (tab 0)) 29 := by rw [hw0]; exact V.blk
  have b2 : V.Blk w0 (w.heap.size + 1 + 1) #[.int .i64 ((0 : Nat) : Int)] 3 := by rw [hw0]; exact V.bto
  have k0 : V.Kp V.Nil w w0 := by rw [hw0]; exact V.kp
  rw [← hw0, z0]
  refine make_primes w w.heap.size rfl fn _ ⟨b0.rfW _ _ _ _ _, b1.rfW _ _ _ _ _, b2.rfW _ _ _ _ _, ?_, ?_, k0.rfW _ _ _ _ _⟩ _ ?_
  · have := V.LBlk.rfW fn (mkT w.heap.size undef) (V.rfP Try.f12 0) (V.rfA Try.f12 0) (V.rfB Try.f12 0) w0
    rw [z0] at this
    exact this
  · have := V.DBlk.rfW fn (mkT w.heap.size undef) (V.rfP Try.f12 0) (V.rfA Try.f12 0) (V.rfB Try.f12 0) w0
    rw [z0] at this
    exact this
  intro w1 c0 c1 cd ck cl
  refine ⟨.done, some (.exit 0), cl, (by intro e; cases e), ?_⟩
  have d0 := c0.putO (r := w.heap.size + 3 + 1) (by omega) (.loop (V.rfRec fn (mkT w.heap.size undef) (V.rfP Try.f12 0) (V.rfA Try.f12 0) (V.rfB Try.f12 0) (w.heap.size + 3) .exhausted (some (.exit 0))))
  have d1 := c1.putO (r := w.heap.size + 3 + 1) (by omega) (.loop (V.rfRec fn (mkT w.heap.size undef) (V.rfP Try.f12 0) (V.rfA Try.f12 0) (V.rfB Try.f12 0) (w.heap.size + 3) .exhausted (some (.exit 0))))
  have dd := cd.putO (c := w.heap.size + 3 + 1) (by omega) (.loop (V.rfRec fn (mkT w.heap.size undef) (V.rfP Try.f12 0) (V.rfA Try.f12 0) (V.rfB Try.f12 0) (w.heap.size + 3) .exhausted (some (.exit 0))))
  have dk := V.Kp.putO ck (c := w.heap.size + 3 + 1) (.inr (by omega)) (.loop (V.rfRec fn (mkT w.heap.size undef) (V.rfP Try.f12 0) (V.rfA Try.f12 0) (V.rfB Try.f12 0) (w.heap.size + 3) .exhausted (some (.exit 0))))
  rw [tab_64] at d1
  have ts : tblC.size = 72 := by rw [← Array.length_toList, tblC_len]
  refine V.ldBig_w d1 ts ?_
  refine V.stBig_w (cs := tblC) d0 (by kernel_rfl) (by rw [ts]; kernel_rfl) (by rw [ts, u32C_size, tab_len 0 (by omega)]) (u32C_one _) ?_
  intro w3 h3 k3 _
  rw [V.finD_one]
  refine And.intro (V.Kp.dblk k3 dd (fun e => by have e : w.heap.size + 3 = w.heap.size := e; omega)) ?_
  refine V.ldBig_w (h3.putO (by omega) _) ts ?_
  refine hc _ (V.Kp.putO (V.Kp.then dk k3 (fun i hi e => by have e : i = _ := e; omega)) (.inr (by omega)) _)
end Go.Proofs.Ytboifenkbhfnfaa
