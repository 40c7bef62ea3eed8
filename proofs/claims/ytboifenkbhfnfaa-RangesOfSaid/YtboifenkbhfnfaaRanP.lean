/- Ranges in plain words. -/
import Derived.Test.YtboifenkbhfnfaaMerP
set_option linter.all false
set_option maxRecDepth 100000
namespace Go.Proofs.Ytboifenkbhfnfaa
open Go
namespace Mk
theorem splitF_pow : ∀ (f k n : Nat), (∃ j, k = 2 ^ j) → ∃ j, splitF f k n = 2 ^ j
  | 0, k, n, h => h
  | f + 1, k, n, ⟨j, h⟩ => by
    unfold splitF
    split
    · exact splitF_pow f (k * 2) n ⟨j + 1, by rw [h, Nat.pow_succ]⟩
    · exact ⟨j, h⟩
theorem split_pow (n : Nat) : ∃ j, split n = 2 ^ j := splitF_pow n 1 n ⟨0, rfl⟩
theorem pow_uniq {i j n : Nat} (h1 : 2 ^ i < n) (h2 : n ≤ 2 * 2 ^ i) (h3 : 2 ^ j < n) (h4 : n ≤ 2 * 2 ^ j) : 2 ^ i = 2 ^ j := by
  rcases Nat.lt_trichotomy i j with h | h | h
  · have : 2 ^ (i + 1) ≤ 2 ^ j := Nat.pow_le_pow_right (by omega) h
    rw [Nat.pow_succ] at this; omega
  · rw [h]
  · have : 2 ^ (j + 1) ≤ 2 ^ i := Nat.pow_le_pow_right (by omega) h
    rw [Nat.pow_succ] at this; omega
theorem split_uniq {n j : Nat} (h : 2 ≤ n) (h1 : 2 ^ j < n) (h2 : n ≤ 2 * 2 ^ j) : split n = 2 ^ j := by
  obtain ⟨i, hi⟩ := split_pow n
  have a := split_lt h
  have b := split_le h
  rw [hi] at a b ⊢
  exact pow_uniq a b h1 h2
/-- the greatest power of two up to n -/
def pw (n : Nat) : Nat := split (n + 1)
theorem pw_pos {n : Nat} (h : 0 < n) : 0 < pw n := split_pos (by omega)
theorem pw_le {n : Nat} (h : 0 < n) : pw n ≤ n := by have := split_lt (n := n + 1) (by omega); unfold pw; omega
theorem pw_lt {n : Nat} (h : 0 < n) : n < 2 * pw n := by have := split_le (n := n + 1) (by omega); unfold pw; omega
theorem pw_uniq {n j : Nat} (h1 : 2 ^ j ≤ n) (h2 : n < 2 * 2 ^ j) : pw n = 2 ^ j := by
  have := Nat.two_pow_pos j
  exact split_uniq (by omega) (by omega) (by omega)
theorem pw_split {n : Nat} (h : 0 < n) (hne : pw n ≠ n) : split n = pw n := by
  obtain ⟨j, hj⟩ := split_pow (n + 1)
  have a := pw_pos h
  have b := pw_le h
  have c := pw_lt h
  unfold pw at *
  rw [hj] at a b c hne ⊢
  exact split_uniq (by omega) (by omega) (by omega)
/-- the powers of two that a number is made of, the greatest first -/
def powsF : Nat → Nat → List Nat
  | 0, _ => []
  | f + 1, n => if n = 0 then [] else pw n :: powsF f (n - pw n)
def pows (n : Nat) : List Nat := powsF n n
theorem powsF_eq : ∀ (f g n : Nat), n ≤ f → n ≤ g → powsF f n = powsF g n
  | 0, 0, _, _, _ => rfl
  | 0, g + 1, n, h, _ => by obtain rfl : n = 0 := by omega
                            simp [powsF]
  | f + 1, 0, n, _, h => by obtain rfl : n = 0 := by omega
                            simp [powsF]
  | f + 1, g + 1, n, h1, h2 => by
    simp only [powsF]
    split
    · rfl
    · rename_i h
      have := pw_pos (n := n) (by omega)
      rw [powsF_eq f g (n - pw n) (by omega) (by omega)]
theorem pows_zero : pows 0 = [] := rfl
theorem pows_pos {n : Nat} (h : 0 < n) : pows n = pw n :: pows (n - pw n) := by
  obtain ⟨m, rfl⟩ : ∃ m, n = m + 1 := ⟨n - 1, by omega⟩
  have := pw_pos h
  show powsF (m + 1) (m + 1) = _
  rw [powsF, if_neg (by omega)]
  congr 1
  exact powsF_eq _ _ _ (by omega) (by omega)
theorem pows_le (n : Nat) : (pows n).length ≤ n := by
  induction n using Nat.strongRecOn with
  | _ n ih =>
    rcases Nat.eq_zero_or_pos n with rfl | h
    · simp [pows_zero]
    · have := pw_pos h
      rw [pows_pos h, List.length_cons]
      have := ih (n - pw n) (by omega)
      omega
/-- the roots of the stretches -/
def ofF : Nat → List ByteArray → List ByteArray
  | 0, _ => []
  | f + 1, l => if l.length = 0 then [] else root (l.take (pw l.length)) :: ofF f (l.drop (pw l.length))
def ofR (l : List ByteArray) : List ByteArray := ofF l.length l
theorem ofF_eq : ∀ (f g : Nat) (l : List ByteArray), l.length ≤ f → l.length ≤ g → ofF f l = ofF g l
  | 0, 0, _, _, _ => rfl
  | 0, g + 1, l, h, _ => by simp [ofF, show l.length = 0 by omega]
  | f + 1, 0, l, _, h => by simp [ofF, show l.length = 0 by omega]
  | f + 1, g + 1, l, h1, h2 => by
    simp only [ofF]
    split
    · rfl
    · rename_i h
      have := pw_pos (n := l.length) (by omega)
      rw [ofF_eq f g _ (by rw [List.length_drop]; omega) (by rw [List.length_drop]; omega)]
theorem ofR_nil : ofR [] = [] := rfl
theorem ofR_pos {l : List ByteArray} (h : 0 < l.length) : ofR l = root (l.take (pw l.length)) :: ofR (l.drop (pw l.length)) := by
  obtain ⟨m, hm⟩ : ∃ m, l.length = m + 1 := ⟨l.length - 1, by omega⟩
  have := pw_pos h
  rw [ofR, hm, ofF, if_neg (by omega), ← hm]
  congr 1
  exact ofF_eq _ _ _ (by rw [List.length_drop]; omega) (by rw [List.length_drop]; omega)
theorem ofR_length : ∀ (n : Nat) (l : List ByteArray), l.length = n → (ofR l).length = (pows n).length := by
  intro n
  induction n using Nat.strongRecOn with
  | _ n ih =>
    intro l hl
    rcases Nat.eq_zero_or_pos n with rfl | h
    · rw [List.eq_nil_of_length_eq_zero hl]; rfl
    · have := pw_pos h
      rw [ofR_pos (by omega), pows_pos h, List.length_cons, List.length_cons, hl, ih (n - pw n) (by omega) _ (by rw [List.length_drop, hl])]
theorem ofR_32 : ∀ (n : Nat) (l : List ByteArray), l.length = n → (∀ x ∈ l, x.size = 32) → ∀ x ∈ ofR l, x.size = 32 := by
  intro n
  induction n using Nat.strongRecOn with
  | _ n ih =>
    intro l hl hs x hx
    rcases Nat.eq_zero_or_pos n with rfl | h
    · rw [List.eq_nil_of_length_eq_zero hl] at hx; simp [ofR_nil] at hx
    · have := pw_pos h
      rw [ofR_pos (by omega), List.mem_cons] at hx
      rcases hx with rfl | hx
      · exact root_32 _ fun y hy => hs y (List.mem_of_mem_take hy)
      · exact ih (n - pw n) (by omega) _ (by rw [List.length_drop, hl]) (fun y hy => hs y (List.mem_of_mem_drop hy)) x (by rw [hl] at hx; exact hx)
/-- what has been read of the stretches when k of them came -/
theorem ofR_steps : ∀ (k : Nat) (l : List ByteArray) (ps : List Nat), pows l.length = ps → k ≤ ps.length → (ofR l).take k ++ ofR (l.drop (ps.take k).sum) = ofR l ∧ pows (l.length - (ps.take k).sum) = ps.drop k ∧ (ps.take k).sum ≤ l.length
  | 0, l, ps, h, hk => by simp [h]
  | k + 1, l, ps, h, hk => by
    rcases Nat.eq_zero_or_pos l.length with h0 | h0
    · rw [h0, pows_zero] at h; subst h; simp at hk
    · rw [pows_pos h0] at h
      obtain ⟨ps, rfl⟩ : ∃ qs, ps = pw l.length :: qs := ⟨_, h.symm⟩
      have h' : pows (l.length - pw l.length) = ps := by injection h
      have := ofR_steps k (l.drop (pw l.length)) ps (by rw [List.length_drop]; exact h') (by simpa using hk)
      rw [List.length_drop] at this
      obtain ⟨a, b, c⟩ := this
      have p1 := pw_le h0
      refine ⟨?_, ?_, ?_⟩
      · rw [ofR_pos h0, List.take_succ_cons, List.take_succ_cons, List.sum_cons, ← List.drop_drop, List.cons_append]
        rw [a]
      · rw [List.take_succ_cons, List.sum_cons, List.drop_succ_cons, ← b]; congr 1; omega
      · rw [List.take_succ_cons, List.sum_cons]; omega
theorem ofR_next {l : List ByteArray} {k y : Nat} (hy : (pows l.length)[k]? = some y) :
    (ofR l).take (k + 1) = (ofR l).take k ++ [root ((l.drop ((pows l.length).take k).sum).take y)] ∧ ((pows l.length).take (k + 1)).sum = ((pows l.length).take k).sum + y ∧ ((pows l.length).take k).sum + y ≤ l.length := by
  have hk : k < (pows l.length).length := (List.getElem?_eq_some_iff.1 hy).1
  obtain ⟨h1, h2, h3⟩ := ofR_steps k l _ rfl (by omega)
  obtain ⟨a, ha⟩ : ∃ a, a = ((pows l.length).take k).sum := ⟨_, rfl⟩
  rw [← ha] at h1 h2 h3 ⊢
  have hd : (pows l.length).drop k = y :: (pows l.length).drop (k + 1) := by
    rw [List.drop_eq_getElem_cons hk]
    rw [List.getElem?_eq_getElem hk] at hy
    cases hy; rfl
  have hpos : 0 < l.length - a := by
    rcases Nat.eq_zero_or_pos (l.length - a) with h | h
    · rw [h, hd, pows_zero] at h2; cases h2
    · exact h
  rw [pows_pos hpos, hd] at h2
  injection h2 with h4 h5
  have hp := pw_le hpos
  have hlen : ((ofR l).take k).length = k := by
    rw [List.length_take, ofR_length _ l rfl]; omega
  refine ⟨?_, ?_, by omega⟩
  · have e := ofR_pos (l := l.drop a) (by rw [List.length_drop]; exact hpos)
    rw [List.length_drop, h4] at e
    rw [e] at h1
    obtain ⟨T, hT⟩ : ∃ T, T = (ofR l).take k := ⟨_, rfl⟩
    rw [← hT] at h1 hlen ⊢
    rw [← h1, ← hlen, List.take_length_add_append]
    rfl
  · rw [List.take_succ_eq_append_getElem hk, List.sum_append, ← ha]
    rw [List.getElem?_eq_getElem hk] at hy
    cases hy; simp
/-- a range's root -/
def foldR : List ByteArray → ByteArray
  | [] => emptyRoot
  | [x] => x
  | a :: b :: r => node a (foldR (b :: r))
theorem foldR_cons (a : ByteArray) {r : List ByteArray} (h : r ≠ []) : foldR (a :: r) = node a (foldR r) := by
  cases r with
  | nil => exact absurd rfl h
  | cons b r => rfl
theorem foldR_size {B : Nat} (hB : 32 ≤ B) : ∀ (L : List ByteArray), (∀ x ∈ L, x.size ≤ B) → (foldR L).size ≤ B
  | [], _ => by rw [show foldR [] = emptyRoot from rfl, empty_size]; exact hB
  | [x], h => h x (by simp)
  | a :: b :: r, h => by rw [show foldR (a :: b :: r) = node a (foldR (b :: r)) from rfl, node_size]; exact hB
theorem foldR_pair : ∀ (L : List ByteArray) (a x : ByteArray), foldR (L ++ [a, x]) = foldR (L ++ [node a x])
  | [], a, x => rfl
  | y :: L, a, x => by rw [List.cons_append, List.cons_append, foldR_cons _ (by simp), foldR_cons _ (by simp), foldR_pair L a x]
theorem foldR_of : ∀ (n : Nat) (l : List ByteArray), l.length = n → foldR (ofR l) = root l := by
  intro n
  induction n using Nat.strongRecOn with
  | _ n ih =>
    intro l hl
    rcases Nat.eq_zero_or_pos n with rfl | h
    · rw [List.eq_nil_of_length_eq_zero hl, ofR_nil, root_nil]; rfl
    · have p0 := pw_pos h
      have p1 := pw_le h
      rw [ofR_pos (by omega), hl]
      by_cases he : pw n = n
      · rw [he, List.take_of_length_le (by omega), List.drop_of_length_le (by omega), ofR_nil]; rfl
      · have hne : ofR (l.drop (pw n)) ≠ [] := by rw [ofR_pos (by rw [List.length_drop]; omega)]; simp
        rw [foldR_cons _ hne, ih (n - pw n) (by omega) _ (by rw [List.length_drop, hl])]
        have h2 : 2 ≤ n := by
          rcases Nat.lt_or_ge n 2 with h3 | h3
          · obtain rfl : n = 1 := by omega
            exact absurd rfl he
          · exact h3
        rw [root_two (l := l) (by omega), hl, pw_split h he]
theorem foldR_add : ∀ (n : Nat) (l : List ByteArray) (x : ByteArray), l.length = n → foldR (ofR l ++ [x]) = root (l ++ [x]) := by
  intro n
  induction n using Nat.strongRecOn with
  | _ n ih =>
    intro l x hl
    rcases Nat.eq_zero_or_pos n with rfl | h
    · rw [List.eq_nil_of_length_eq_zero hl, ofR_nil, List.nil_append, root_one]; rfl
    · have p0 := pw_pos h
      have p1 := pw_le h
      rw [ofR_pos (by omega), hl, List.cons_append, foldR_cons _ (by simp), ih (n - pw n) (by omega) _ x (by rw [List.length_drop, hl])]
      rw [root_two (l := l ++ [x]) (by simp; omega), List.length_append, hl, List.length_singleton]
      rw [show split (n + 1) = pw n from rfl, List.take_append_of_le_length (by omega), List.drop_append_of_le_length (by omega)]
/-- how many ones: j of them are gone -/
theorem ones_step : ∀ n : Fin 65, ∀ j : Fin 8, n.val &&& 2 ^ j.val ≠ 0 → (pows (n.val / 2 ^ j.val)).length = (pows (n.val / 2 ^ (j.val + 1))).length + 1 := by decide +kernel
theorem ones_end : ∀ n : Fin 65, n.val &&& 2 ^ 7 = 0 := by decide +kernel
end Mk
end Go.Proofs.Ytboifenkbhfnfaa
