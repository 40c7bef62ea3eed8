/- decree: contract: Been. -/
import Derived.Test.YtkjfhadafefnmaaDecL
set_option linter.all false
namespace Go.Proofs.Ytkjfhadafefnmaa
open Go
set_option linter.unusedSimpArgs false
def isIn (n : Nat) (e : Int × HeldS) : Bool := enough e.2.who n
def DecS.been (S : DecS) : List ByteArray := (S.taken.filter (isIn S.slots.length)).map (·.2.val)
def DecS.beenTo (S : DecS) (k : Nat) : List ByteArray := ((S.taken.take k).filter (isIn S.slots.length)).map (·.2.val)
theorem beenTo_succ (S : DecS) {k : Nat} {e : Int × HeldS} (he : S.taken[k]? = some e) : S.beenTo (k + 1) = S.beenTo k ++ if isIn S.slots.length e then [e.2.val] else [] := by
  unfold DecS.beenTo
  rw [List.take_add_one, he, List.filter_append, List.map_append]
  congr 1
  simp only [Option.toList_some, List.filter_cons, List.filter_nil]
  split <;> rfl
theorem beenTo_len (S : DecS) (k : Nat) : (S.beenTo k).length ≤ k := by
  unfold DecS.beenTo
  rw [List.length_map]
  exact Nat.le_trans (List.length_filter_le _ _) (by rw [List.length_take]; omega)
structure DecS.TOk (S : DecS) : Prop where
  rise : S.taken.Pairwise fun a b => a.1 < b.1
  range : ∀ e ∈ S.taken, 0 ≤ e.1 ∧ e.1 ≤ 2147483647
theorem find_rise {ν : Type} : ∀ {l : List (Int × ν)}, l.Pairwise (fun a b => a.1 < b.1) → ∀ {k : Nat} {e : Int × ν}, l[k]? = some e → l.find? (fun p => p.1 == e.1) = some e
  | [], _, _, _, h => by simp at h
  | y :: r, hp, 0, e, h => by
    simp only [List.getElem?_cons_zero, Option.some.injEq] at h
    subst h
    simp
  | y :: r, hp, k + 1, e, h => by
    obtain ⟨h1, h2⟩ := List.pairwise_cons.1 hp
    have h3 : r[k]? = some e := by simpa using h
    have h4 := h1 e (List.mem_of_getElem? h3)
    rw [List.find?_cons_of_neg (by simp; omega)]
    exact find_rise h2 h3
theorem held_at {S : DecS} (tk : S.TOk) {k : Nat} {e : Int × HeldS} (he : S.taken[k]? = some e) : S.held e.1 = e.2 := by
  unfold DecS.held V.alook
  rw [find_rise tk.rise he]; rfl
theorem keys_sorted {S : DecS} (tk : S.TOk) {ss : List Int} (hp : ss.Perm (S.taken.map (·.1))) : ss.mergeSort (fun x y => decide (x ≤ y)) = S.taken.map (·.1) := by
  have h1 : (S.taken.map (·.1)).Pairwise (fun a b => decide (a ≤ b) = true) := by
    rw [List.pairwise_map]
    exact tk.rise.imp fun h => by simp; omega
  have h2 := List.pairwise_mergeSort (le := fun x y : Int => decide (x ≤ y)) (fun a b c => by simp; omega) (fun a b => by simp; omega) ss
  have h3 := (List.mergeSort_perm ss (fun x y => decide (x ≤ y))).trans hp
  exact List.Perm.eq_of_pairwise (le := fun a b : Int => decide (a ≤ b) = true) (fun a b _ _ h4 h5 => by simp at h4 h5; omega) h2 h1 h3
theorem been_spec {g : Gh} {w : World} {d : Nat} {S : DecS} (h : Rep g w d S) (ok : S.Ok) (tk : S.TOk) (R : Value → World → Prop)
    (hR : ∀ p' c' w', StrRow w' p' S.been.length c' S.been → V.Kp V.Nil w w' → (∀ k, V.blk? p' = some k → w.heap.size ≤ k) → R (.slice p' S.been.length c') w') :
    V.CallsR Try.prog 9 #[ptrV d] w R := by
  refine V.calls_of_fnVC Try.func9 ?_
  rw [vc_decree_Decree_Been]
  simp only [V.nptr_eq, V.vBool_mk, V.vInt_mk, V.vStr_mk, V.vPtr_mk, V.vMap_mk, V.vSlice_mk, V.bnot_eq, V.nilCk_mk, V.aadd_mk, V.size_alloc, V.size_drew, V.size_setCell, V.nmul_nat, V.and_assoc', V.true_and', V.ifB_t, V.ifB_f, V.isNil_some, V.isNil_none, Bool.not_true, Bool.not_false, Nat.zero_add, Nat.add_zero]
  have hd := h.dec
  have tl := ok.tlen
  repeat (first | ((with_reducible apply V.ldInt_b); (· repeat (first | with_reducible assumption | ((with_reducible apply V.Blk.new'); first | with_reducible rfl | (simp only [V.size_alloc, V.size_drew, V.size_setCell]; done)) | with_reducible apply V.Blk.set | ((with_reducible apply V.Blk.set_ne); (case hne => (try simp only [ne_eq]); omega)) | with_reducible apply V.Blk.alloc | with_reducible apply V.Blk.drew)); (· first | with_reducible assumption | rfl)) | ((with_reducible apply V.ldStr_b); (· repeat (first | with_reducible assumption | ((with_reducible apply V.Blk.new'); first | with_reducible rfl | (simp only [V.size_alloc, V.size_drew, V.size_setCell]; done)) | with_reducible apply V.Blk.set | ((with_reducible apply V.Blk.set_ne); (case hne => (try simp only [ne_eq]); omega)) | with_reducible apply V.Blk.alloc | with_reducible apply V.Blk.drew)); (· first | with_reducible assumption | rfl)) | ((with_reducible apply V.ldPtr_b); (· repeat (first | with_reducible assumption | ((with_reducible apply V.Blk.new'); first | with_reducible rfl | (simp only [V.size_alloc, V.size_drew, V.size_setCell]; done)) | with_reducible apply V.Blk.set | ((with_reducible apply V.Blk.set_ne); (case hne => (try simp only [ne_eq]); omega)) | with_reducible apply V.Blk.alloc | with_reducible apply V.Blk.drew)); (· first | with_reducible assumption | rfl)) | ((with_reducible apply V.ldSlice_b); (· repeat (first | with_reducible assumption | ((with_reducible apply V.Blk.new'); first | with_reducible rfl | (simp only [V.size_alloc, V.size_drew, V.size_setCell]; done)) | with_reducible apply V.Blk.set | ((with_reducible apply V.Blk.set_ne); (case hne => (try simp only [ne_eq]); omega)) | with_reducible apply V.Blk.alloc | with_reducible apply V.Blk.drew)); (· first | with_reducible assumption | rfl)) | ((with_reducible apply V.ldMap_b); (· repeat (first | with_reducible assumption | ((with_reducible apply V.Blk.new'); first | with_reducible rfl | (simp only [V.size_alloc, V.size_drew, V.size_setCell]; done)) | with_reducible apply V.Blk.set | ((with_reducible apply V.Blk.set_ne); (case hne => (try simp only [ne_eq]); omega)) | with_reducible apply V.Blk.alloc | with_reducible apply V.Blk.drew)); (· first | with_reducible assumption | rfl)) | ((with_reducible apply V.ldBool_b); (· repeat (first | with_reducible assumption | ((with_reducible apply V.Blk.new'); first | with_reducible rfl | (simp only [V.size_alloc, V.size_drew, V.size_setCell]; done)) | with_reducible apply V.Blk.set | ((with_reducible apply V.Blk.set_ne); (case hne => (try simp only [ne_eq]); omega)) | with_reducible apply V.Blk.alloc | with_reducible apply V.Blk.drew)); (· first | with_reducible assumption | rfl)) | ((with_reducible apply V.stCell_b); (· repeat (first | with_reducible assumption | ((with_reducible apply V.Blk.new'); first | with_reducible rfl | (simp only [V.size_alloc, V.size_drew, V.size_setCell]; done)) | with_reducible apply V.Blk.set | ((with_reducible apply V.Blk.set_ne); (case hne => (try simp only [ne_eq]); omega)) | with_reducible apply V.Blk.alloc | with_reducible apply V.Blk.drew)); (· first | exact Nat.le_of_ble_eq_true rfl | ((try simp only [Array.size_setIfInBounds]); omega)); (· rfl)) | ((with_reducible refine ⟨?_, ?_⟩); (· first | ((with_reducible apply V.hasCell_b); (· repeat (first | with_reducible assumption | ((with_reducible apply V.Blk.new'); first | with_reducible rfl | (simp only [V.size_alloc, V.size_drew, V.size_setCell]; done)) | with_reducible apply V.Blk.set | ((with_reducible apply V.Blk.set_ne); (case hne => (try simp only [ne_eq]); omega)) | with_reducible apply V.Blk.alloc | with_reducible apply V.Blk.drew)); (· first | with_reducible assumption | rfl)) | (simp only [V.inX, V.inR, V.inz, V.ige0, V.zi]; omega))) | simp only [V.nptr_eq, V.vBool_mk, V.vInt_mk, V.vStr_mk, V.vPtr_mk, V.vMap_mk, V.vSlice_mk, V.bnot_eq, V.nilCk_mk, V.aadd_mk, V.size_alloc, V.size_drew, V.size_setCell, V.nmul_nat, V.and_assoc', V.true_and', V.ifB_t, V.ifB_f, V.isNil_some, V.isNil_none, Bool.not_true, Bool.not_false, Nat.zero_add, Nat.add_zero])
  refine keysFn_spec _ _ _ ?_
  refine sortedKeys_spec h.taken (by rw [List.length_map]; omega) _ ?_
  intro p c ss w1 hperm hrow k1 hp1
  rw [List.map_map] at hperm
  have hsort := keys_sorted tk hperm
  rw [hsort] at hrow
  have hlen : ss.length = S.taken.length := by simpa using hperm.length_eq
  rw [hlen] at hrow ⊢
  simp only [V.nptr_eq, V.vBool_mk, V.vInt_mk, V.vStr_mk, V.vPtr_mk, V.vMap_mk, V.vSlice_mk, V.bnot_eq, V.nilCk_mk, V.aadd_mk, V.size_alloc, V.size_drew, V.size_setCell, V.nmul_nat, V.and_assoc', V.true_and', V.ifB_t, V.ifB_f, V.isNil_some, V.isNil_none, Bool.not_true, Bool.not_false, Nat.zero_add, Nat.add_zero]
  have h1 : Rep g w1 d S := h.kp k1 (fun _ e => e.elim)
  have hfree : ∀ k, w.heap.size ≤ k → g.own k = .free := fun k hk => h.fresh hk
  have zz := k1.size
  refine ⟨fun q n c' i => ⟨fun W => ∃ k : Nat, i = k ∧ k ≤ S.taken.length ∧ n = (S.beenTo k).length ∧ StrRow W q n c' (S.beenTo k) ∧ V.Kp V.Nil w W ∧ Rep g W d S ∧
    V.Row W intT 1 p S.taken.length c ((S.taken.map (·.1)).map (Value.int .i64)) ∧ (∀ b, V.blk? q = some b → w.heap.size ≤ b ∧ V.blk? p ≠ some b), fun _ => S.taken.length - i.toNat⟩, ?_, ?_⟩
  · exact ⟨0, rfl, Nat.zero_le _, rfl, V.Row.nil _ _ _, k1, h1, hrow, fun b hb => by cases hb⟩
  rintro _ q n c' i W ⟨k, rfl, hk, rfl, hq, kW, hW, hpW, hqb⟩
  refine V.ifB_of (fun h2 => ?_) (fun h2 => ?_) <;> simp only [V.ilt_t, V.ilt_f, V.ile_t, V.ile_f, V.igt_t, V.igt_f, V.ige_t, V.ige_f, V.ieq_t, V.ieq_f, V.ine_t, V.ine_f, V.isNil_t, V.isNil_f, V.bnot_eq, Bool.not_eq_true', Bool.not_eq_false', V.zi] at h2
  · have hk' : k < S.taken.length := by omega
    obtain ⟨e, he⟩ : ∃ e, S.taken[k]? = some e := ⟨_, List.getElem?_eq_getElem hk'⟩
    obtain ⟨gp, cur, rfl, hcur, _, _, _, htk⟩ := hpW.some (by omega)
    have hcell : cur[k * 1]? = some (.int .i64 e.1) := by
      have h3 : ((S.taken.map (·.1)).map (Value.int .i64))[k]? = some (.int .i64 e.1) := by simp [he]
      rw [← htk, List.getElem?_take] at h3
      split at h3
      · simpa using h3
      · cases h3
    obtain ⟨r1, r2⟩ := tk.range e (List.mem_of_getElem? he)
    have hd2 := hW.drew.dec
    repeat (first | ((with_reducible apply V.ldInt_b); (· repeat (first | with_reducible assumption | ((with_reducible apply V.Blk.new'); first | with_reducible rfl | (simp only [V.size_alloc, V.size_drew, V.size_setCell]; done)) | with_reducible apply V.Blk.set | ((with_reducible apply V.Blk.set_ne); (case hne => (try simp only [ne_eq]); omega)) | with_reducible apply V.Blk.alloc | with_reducible apply V.Blk.drew)); (· first | with_reducible assumption | rfl)) | ((with_reducible apply V.ldStr_b); (· repeat (first | with_reducible assumption | ((with_reducible apply V.Blk.new'); first | with_reducible rfl | (simp only [V.size_alloc, V.size_drew, V.size_setCell]; done)) | with_reducible apply V.Blk.set | ((with_reducible apply V.Blk.set_ne); (case hne => (try simp only [ne_eq]); omega)) | with_reducible apply V.Blk.alloc | with_reducible apply V.Blk.drew)); (· first | with_reducible assumption | rfl)) | ((with_reducible apply V.ldPtr_b); (· repeat (first | with_reducible assumption | ((with_reducible apply V.Blk.new'); first | with_reducible rfl | (simp only [V.size_alloc, V.size_drew, V.size_setCell]; done)) | with_reducible apply V.Blk.set | ((with_reducible apply V.Blk.set_ne); (case hne => (try simp only [ne_eq]); omega)) | with_reducible apply V.Blk.alloc | with_reducible apply V.Blk.drew)); (· first | with_reducible assumption | rfl)) | ((with_reducible apply V.ldSlice_b); (· repeat (first | with_reducible assumption | ((with_reducible apply V.Blk.new'); first | with_reducible rfl | (simp only [V.size_alloc, V.size_drew, V.size_setCell]; done)) | with_reducible apply V.Blk.set | ((with_reducible apply V.Blk.set_ne); (case hne => (try simp only [ne_eq]); omega)) | with_reducible apply V.Blk.alloc | with_reducible apply V.Blk.drew)); (· first | with_reducible assumption | rfl)) | ((with_reducible apply V.ldMap_b); (· repeat (first | with_reducible assumption | ((with_reducible apply V.Blk.new'); first | with_reducible rfl | (simp only [V.size_alloc, V.size_drew, V.size_setCell]; done)) | with_reducible apply V.Blk.set | ((with_reducible apply V.Blk.set_ne); (case hne => (try simp only [ne_eq]); omega)) | with_reducible apply V.Blk.alloc | with_reducible apply V.Blk.drew)); (· first | with_reducible assumption | rfl)) | ((with_reducible apply V.ldBool_b); (· repeat (first | with_reducible assumption | ((with_reducible apply V.Blk.new'); first | with_reducible rfl | (simp only [V.size_alloc, V.size_drew, V.size_setCell]; done)) | with_reducible apply V.Blk.set | ((with_reducible apply V.Blk.set_ne); (case hne => (try simp only [ne_eq]); omega)) | with_reducible apply V.Blk.alloc | with_reducible apply V.Blk.drew)); (· first | with_reducible assumption | rfl)) | ((with_reducible apply V.stCell_b); (· repeat (first | with_reducible assumption | ((with_reducible apply V.Blk.new'); first | with_reducible rfl | (simp only [V.size_alloc, V.size_drew, V.size_setCell]; done)) | with_reducible apply V.Blk.set | ((with_reducible apply V.Blk.set_ne); (case hne => (try simp only [ne_eq]); omega)) | with_reducible apply V.Blk.alloc | with_reducible apply V.Blk.drew)); (· first | exact Nat.le_of_ble_eq_true rfl | ((try simp only [Array.size_setIfInBounds]); omega)); (· rfl)) | ((with_reducible refine ⟨?_, ?_⟩); (· first | ((with_reducible apply V.hasCell_b); (· repeat (first | with_reducible assumption | ((with_reducible apply V.Blk.new'); first | with_reducible rfl | (simp only [V.size_alloc, V.size_drew, V.size_setCell]; done)) | with_reducible apply V.Blk.set | ((with_reducible apply V.Blk.set_ne); (case hne => (try simp only [ne_eq]); omega)) | with_reducible apply V.Blk.alloc | with_reducible apply V.Blk.drew)); (· first | with_reducible assumption | rfl)) | (simp only [V.inX, V.inR, V.inz, V.ige0, V.zi]; omega))) | simp only [V.nptr_eq, V.vBool_mk, V.vInt_mk, V.vStr_mk, V.vPtr_mk, V.vMap_mk, V.vSlice_mk, V.bnot_eq, V.nilCk_mk, V.aadd_mk, V.size_alloc, V.size_drew, V.size_setCell, V.nmul_nat, V.and_assoc', V.true_and', V.ifB_t, V.ifB_f, V.isNil_some, V.isNil_none, Bool.not_true, Bool.not_false, Nat.zero_add, Nat.add_zero])
    refine V.MapI.lookup hW.drew.taken Try.underlying3 Try.underlying40 (Try.zeroValue59 _) ⟨by omega, by omega⟩ ?_
    refine ⟨_, _, held_v S e.1, ?_⟩
    repeat (first | ((with_reducible apply V.ldInt_b); (· repeat (first | with_reducible assumption | ((with_reducible apply V.Blk.new'); first | with_reducible rfl | (simp only [V.size_alloc, V.size_drew, V.size_setCell]; done)) | with_reducible apply V.Blk.set | ((with_reducible apply V.Blk.set_ne); (case hne => (try simp only [ne_eq]); omega)) | with_reducible apply V.Blk.alloc | with_reducible apply V.Blk.drew)); (· first | with_reducible assumption | rfl)) | ((with_reducible apply V.ldStr_b); (· repeat (first | with_reducible assumption | ((with_reducible apply V.Blk.new'); first | with_reducible rfl | (simp only [V.size_alloc, V.size_drew, V.size_setCell]; done)) | with_reducible apply V.Blk.set | ((with_reducible apply V.Blk.set_ne); (case hne => (try simp only [ne_eq]); omega)) | with_reducible apply V.Blk.alloc | with_reducible apply V.Blk.drew)); (· first | with_reducible assumption | rfl)) | ((with_reducible apply V.ldPtr_b); (· repeat (first | with_reducible assumption | ((with_reducible apply V.Blk.new'); first | with_reducible rfl | (simp only [V.size_alloc, V.size_drew, V.size_setCell]; done)) | with_reducible apply V.Blk.set | ((with_reducible apply V.Blk.set_ne); (case hne => (try simp only [ne_eq]); omega)) | with_reducible apply V.Blk.alloc | with_reducible apply V.Blk.drew)); (· first | with_reducible assumption | rfl)) | ((with_reducible apply V.ldSlice_b); (· repeat (first | with_reducible assumption | ((with_reducible apply V.Blk.new'); first | with_reducible rfl | (simp only [V.size_alloc, V.size_drew, V.size_setCell]; done)) | with_reducible apply V.Blk.set | ((with_reducible apply V.Blk.set_ne); (case hne => (try simp only [ne_eq]); omega)) | with_reducible apply V.Blk.alloc | with_reducible apply V.Blk.drew)); (· first | with_reducible assumption | rfl)) | ((with_reducible apply V.ldMap_b); (· repeat (first | with_reducible assumption | ((with_reducible apply V.Blk.new'); first | with_reducible rfl | (simp only [V.size_alloc, V.size_drew, V.size_setCell]; done)) | with_reducible apply V.Blk.set | ((with_reducible apply V.Blk.set_ne); (case hne => (try simp only [ne_eq]); omega)) | with_reducible apply V.Blk.alloc | with_reducible apply V.Blk.drew)); (· first | with_reducible assumption | rfl)) | ((with_reducible apply V.ldBool_b); (· repeat (first | with_reducible assumption | ((with_reducible apply V.Blk.new'); first | with_reducible rfl | (simp only [V.size_alloc, V.size_drew, V.size_setCell]; done)) | with_reducible apply V.Blk.set | ((with_reducible apply V.Blk.set_ne); (case hne => (try simp only [ne_eq]); omega)) | with_reducible apply V.Blk.alloc | with_reducible apply V.Blk.drew)); (· first | with_reducible assumption | rfl)) | ((with_reducible apply V.stCell_b); (· repeat (first | with_reducible assumption | ((with_reducible apply V.Blk.new'); first | with_reducible rfl | (simp only [V.size_alloc, V.size_drew, V.size_setCell]; done)) | with_reducible apply V.Blk.set | ((with_reducible apply V.Blk.set_ne); (case hne => (try simp only [ne_eq]); omega)) | with_reducible apply V.Blk.alloc | with_reducible apply V.Blk.drew)); (· first | exact Nat.le_of_ble_eq_true rfl | ((try simp only [Array.size_setIfInBounds]); omega)); (· rfl)) | ((with_reducible refine ⟨?_, ?_⟩); (· first | ((with_reducible apply V.hasCell_b); (· repeat (first | with_reducible assumption | ((with_reducible apply V.Blk.new'); first | with_reducible rfl | (simp only [V.size_alloc, V.size_drew, V.size_setCell]; done)) | with_reducible apply V.Blk.set | ((with_reducible apply V.Blk.set_ne); (case hne => (try simp only [ne_eq]); omega)) | with_reducible apply V.Blk.alloc | with_reducible apply V.Blk.drew)); (· first | with_reducible assumption | rfl)) | (simp only [V.inX, V.inR, V.inz, V.ige0, V.zi]; omega))) | simp only [V.nptr_eq, V.vBool_mk, V.vInt_mk, V.vStr_mk, V.vPtr_mk, V.vMap_mk, V.vSlice_mk, V.bnot_eq, V.nilCk_mk, V.aadd_mk, V.size_alloc, V.size_drew, V.size_setCell, V.nmul_nat, V.and_assoc', V.true_and', V.ifB_t, V.ifB_f, V.isNil_some, V.isNil_none, Bool.not_true, Bool.not_false, Nat.zero_add, Nat.add_zero])
    refine enough_spec _ _ (held_lt ok _) ok.n1 ok.n5 _ _ ?_
    have hb := beenTo_succ S he
    have hh := held_at tk he
    simp only [V.nptr_eq, V.vBool_mk, V.vInt_mk, V.vStr_mk, V.vPtr_mk, V.vMap_mk, V.vSlice_mk, V.bnot_eq, V.nilCk_mk, V.aadd_mk, V.size_alloc, V.size_drew, V.size_setCell, V.nmul_nat, V.and_assoc', V.true_and', V.ifB_t, V.ifB_f, V.isNil_some, V.isNil_none, Bool.not_true, Bool.not_false, Nat.zero_add, Nat.add_zero]
    have ei : V.iadd .i64 (k : Int) 1 = ((k + 1 : Nat) : Int) := by rw [V.iadd_i64 (by omega) (by omega)]; rfl
    refine V.ifB_of (fun h3 => ?_) (fun h3 => ?_)
    · rw [hh] at h3
      rw [if_pos (show isIn S.slots.length e = true from h3)] at hb
      repeat (first | ((with_reducible apply V.ldInt_b); (· repeat (first | with_reducible assumption | ((with_reducible apply V.Blk.new'); first | with_reducible rfl | (simp only [V.size_alloc, V.size_drew, V.size_setCell]; done)) | with_reducible apply V.Blk.set | ((with_reducible apply V.Blk.set_ne); (case hne => (try simp only [ne_eq]); omega)) | with_reducible apply V.Blk.alloc | with_reducible apply V.Blk.drew)); (· first | with_reducible assumption | rfl)) | ((with_reducible apply V.ldStr_b); (· repeat (first | with_reducible assumption | ((with_reducible apply V.Blk.new'); first | with_reducible rfl | (simp only [V.size_alloc, V.size_drew, V.size_setCell]; done)) | with_reducible apply V.Blk.set | ((with_reducible apply V.Blk.set_ne); (case hne => (try simp only [ne_eq]); omega)) | with_reducible apply V.Blk.alloc | with_reducible apply V.Blk.drew)); (· first | with_reducible assumption | rfl)) | ((with_reducible apply V.ldPtr_b); (· repeat (first | with_reducible assumption | ((with_reducible apply V.Blk.new'); first | with_reducible rfl | (simp only [V.size_alloc, V.size_drew, V.size_setCell]; done)) | with_reducible apply V.Blk.set | ((with_reducible apply V.Blk.set_ne); (case hne => (try simp only [ne_eq]); omega)) | with_reducible apply V.Blk.alloc | with_reducible apply V.Blk.drew)); (· first | with_reducible assumption | rfl)) | ((with_reducible apply V.ldSlice_b); (· repeat (first | with_reducible assumption | ((with_reducible apply V.Blk.new'); first | with_reducible rfl | (simp only [V.size_alloc, V.size_drew, V.size_setCell]; done)) | with_reducible apply V.Blk.set | ((with_reducible apply V.Blk.set_ne); (case hne => (try simp only [ne_eq]); omega)) | with_reducible apply V.Blk.alloc | with_reducible apply V.Blk.drew)); (· first | with_reducible assumption | rfl)) | ((with_reducible apply V.ldMap_b); (· repeat (first | with_reducible assumption | ((with_reducible apply V.Blk.new'); first | with_reducible rfl | (simp only [V.size_alloc, V.size_drew, V.size_setCell]; done)) | with_reducible apply V.Blk.set | ((with_reducible apply V.Blk.set_ne); (case hne => (try simp only [ne_eq]); omega)) | with_reducible apply V.Blk.alloc | with_reducible apply V.Blk.drew)); (· first | with_reducible assumption | rfl)) | ((with_reducible apply V.ldBool_b); (· repeat (first | with_reducible assumption | ((with_reducible apply V.Blk.new'); first | with_reducible rfl | (simp only [V.size_alloc, V.size_drew, V.size_setCell]; done)) | with_reducible apply V.Blk.set | ((with_reducible apply V.Blk.set_ne); (case hne => (try simp only [ne_eq]); omega)) | with_reducible apply V.Blk.alloc | with_reducible apply V.Blk.drew)); (· first | with_reducible assumption | rfl)) | ((with_reducible apply V.stCell_b); (· repeat (first | with_reducible assumption | ((with_reducible apply V.Blk.new'); first | with_reducible rfl | (simp only [V.size_alloc, V.size_drew, V.size_setCell]; done)) | with_reducible apply V.Blk.set | ((with_reducible apply V.Blk.set_ne); (case hne => (try simp only [ne_eq]); omega)) | with_reducible apply V.Blk.alloc | with_reducible apply V.Blk.drew)); (· first | exact Nat.le_of_ble_eq_true rfl | ((try simp only [Array.size_setIfInBounds]); omega)); (· rfl)) | ((with_reducible refine ⟨?_, ?_⟩); (· first | ((with_reducible apply V.hasCell_b); (· repeat (first | with_reducible assumption | ((with_reducible apply V.Blk.new'); first | with_reducible rfl | (simp only [V.size_alloc, V.size_drew, V.size_setCell]; done)) | with_reducible apply V.Blk.set | ((with_reducible apply V.Blk.set_ne); (case hne => (try simp only [ne_eq]); omega)) | with_reducible apply V.Blk.alloc | with_reducible apply V.Blk.drew)); (· first | with_reducible assumption | rfl)) | (simp only [V.inX, V.inR, V.inz, V.ige0, V.zi]; omega))) | simp only [V.nptr_eq, V.vBool_mk, V.vInt_mk, V.vStr_mk, V.vPtr_mk, V.vMap_mk, V.vSlice_mk, V.bnot_eq, V.nilCk_mk, V.aadd_mk, V.size_alloc, V.size_drew, V.size_setCell, V.nmul_nat, V.and_assoc', V.true_and', V.ifB_t, V.ifB_f, V.isNil_some, V.isNil_none, Bool.not_true, Bool.not_false, Nat.zero_add, Nat.add_zero])
      refine V.MapI.lookup hW.drew.taken Try.underlying3 Try.underlying40 (Try.zeroValue59 _) ⟨by omega, by omega⟩ ?_
      refine ⟨_, _, held_v S e.1, ?_⟩
      have hbl := beenTo_len S k
      have h5 : StrRow (W.drew.alloc (.cells #[.string (S.held e.1).val] strT)) (some ⟨W.heap.size, 0, none⟩) 1 1 [(S.held e.1).val] := V.Row.of (cur := #[.string (S.held e.1).val]) (V.Blk.new' rfl) (Nat.le_refl _) (by decide) rfl rfl
      have h6 : StrRow (W.drew.alloc (.cells #[.string (S.held e.1).val] strT)) q (S.beenTo k).length c' (S.beenTo k) := hq.same fun b hb => by rw [V.heap_alloc, if_neg (by have := hq.lt b hb; simp only [V.size_alloc, V.size_drew, V.size_setCell]; omega)]; rfl
      refine appStr h6 h5 (by omega) ?_
      intro q' c'' W' hq' kW' hat
      simp only [V.nptr_eq, V.vBool_mk, V.vInt_mk, V.vStr_mk, V.vPtr_mk, V.vMap_mk, V.vSlice_mk, V.bnot_eq, V.nilCk_mk, V.aadd_mk, V.size_alloc, V.size_drew, V.size_setCell, V.nmul_nat, V.and_assoc', V.true_and', V.ifB_t, V.ifB_f, V.isNil_some, V.isNil_none, Bool.not_true, Bool.not_false, Nat.zero_add, Nat.add_zero]
      rw [hh] at hq'
      have kk : V.Kp V.Nil w W' := V.Kp.then (V.Kp.alloc (V.Kp.drew kW) _) kW' fun i hi e => by have := (hqb i e).1; omega
      have hold : ∀ b, b < W.heap.size → V.blk? q ≠ some b → W'.heap[b]? = W.heap[b]? := fun b hb hn => by
        rw [kW'.block b (by simp only [V.size_alloc, V.size_drew, V.size_setCell]; omega) hn, V.heap_alloc, if_neg (by simp only [V.size_alloc, V.size_drew, V.size_setCell]; omega)]; rfl
      have hszW : W.heap.size ≤ W'.heap.size := by
        have h7 := kW'.size
        simp only [V.size_alloc, V.size_drew] at h7
        omega
      refine ⟨⟨k + 1, ei, hk', ?_, ?_, kk, hW.frame (fun b hb => hold b (hW.lo b hb) (fun e => hb (hfree b (hqb b e).1))) hszW, ?_, ?_⟩, ?_⟩
      · rw [hb]; simp
      · rw [hb]; exact hq'
      · exact hpW.same fun b hb => hold b (hpW.lt b hb) (fun e => (hqb b e).2 hb)
      · intro b hb
        rcases hat with e' | e'
        · rw [e'] at hb; exact hqb b hb
        · rw [e'] at hb
          cases hb
          refine ⟨by have := kW.size; simp only [V.size_alloc, V.size_drew, V.size_setCell]; omega, fun e'' => ?_⟩
          have := hpW.lt _ e''
          simp only [V.size_alloc, V.size_drew] at this
          omega
      · rw [ei]; simp only [Int.toNat_natCast]; omega
    · rw [hh] at h3
      rw [if_neg (by show ¬ isIn S.slots.length e = true; unfold isIn; rw [h3]; simp), List.append_nil] at hb
      refine ⟨⟨k + 1, ei, hk', by rw [hb], by rw [hb]; exact hq.same fun _ _ => rfl, kW.drew, hW.drew, hpW.same fun _ _ => rfl, hqb⟩, ?_⟩
      rw [ei]; simp only [Int.toNat_natCast]; omega
  · have hke : k = S.taken.length := by omega
    subst hke
    have e : S.beenTo S.taken.length = S.been := by unfold DecS.beenTo DecS.been; rw [List.take_length]
    rw [e] at hq ⊢
    exact hR q c' W hq kW fun b hb => (hqb b hb).1
end Go.Proofs.Ytkjfhadafefnmaa
