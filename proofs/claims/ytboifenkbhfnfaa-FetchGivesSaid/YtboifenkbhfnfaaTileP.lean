/- Tiles in plain words. -/
import Derived.Test.YtboifenkbhfnfaaRanP
set_option linter.all false
set_option maxRecDepth 100000
namespace Go.Proofs.Ytboifenkbhfnfaa
open Go
namespace Tl
/-- how many levels have hashes -/
def llF : Nat → Nat → Nat
  | 0, _ => 0
  | f + 1, n => if n = 0 then 0 else llF f (n / 4) + 1
def ll (n : Nat) : Nat := llF n n
theorem lt_llF : ∀ (f n k : Nat), n ≤ f → (k < llF f n ↔ 0 < n / 4 ^ k)
  | 0, n, k, h => by obtain rfl : n = 0 := by omega
                     simp [llF]
  | f + 1, n, k, h => by
    unfold llF
    split
    · rename_i h0; subst h0; simp
    · cases k with
      | zero => simp; omega
      | succ k =>
        have := lt_llF f (n / 4) k (by omega)
        rw [Nat.add_lt_add_iff_right, this, Nat.pow_succ, Nat.mul_comm, Nat.div_div_eq_div_mul]
theorem lt_ll (n k : Nat) : k < ll n ↔ 0 < n / 4 ^ k := lt_llF n n k (Nat.le_refl _)
/-- how many hashes a level has -/
def cnt (n : Nat) (lv : Int) : Nat := if lv < 0 then 0 else n / 4 ^ lv.toNat
theorem cnt_nat (n k : Nat) : cnt n (k : Int) = n / 4 ^ k := by unfold cnt; rw [if_neg (by omega), Int.toNat_natCast]
theorem cnt_le (n : Nat) (lv : Int) : cnt n lv ≤ n := by unfold cnt; split; exact Nat.zero_le _; exact Nat.div_le_self _ _
theorem cnt_none {n : Nat} {lv : Int} (h : ∀ j : Nat, j < ll n → (j : Int) ≠ lv) : cnt n lv = 0 := by
  unfold cnt
  split
  · rfl
  · rcases Nat.eq_zero_or_pos (n / 4 ^ lv.toNat) with h0 | h0
    · exact h0
    · exact absurd (by omega) (h lv.toNat ((lt_ll _ _).2 h0))
/-- how many hashes a tile has -/
def wd (n : Nat) (lv ix : Int) : Nat := if ix < 0 then 0 else min (cnt n lv - 4 * ix.toNat) 4
theorem wd_le (n : Nat) (lv ix : Int) : wd n lv ix ≤ 4 := by unfold wd; split <;> omega
theorem wd_pos {n : Nat} {lv ix : Int} (h : wd n lv ix ≠ 0) : 0 ≤ lv ∧ 0 ≤ ix ∧ 4 * ix.toNat + wd n lv ix ≤ cnt n lv := by
  unfold wd at *
  split at h
  · exact absurd rfl h
  · rename_i h1
    rw [if_neg h1]
    refine ⟨?_, by omega, by omega⟩
    by_cases h2 : lv < 0
    · exfalso; apply h; unfold cnt; rw [if_pos h2]; omega
    · omega
/-- one level up: the roots of the fours that are full -/
def up (l : List ByteArray) : List ByteArray := (List.range (l.length / 4)).map fun j => Mk.root ((l.drop (4 * j)).take 4)
theorem up_len (l : List ByteArray) : (up l).length = l.length / 4 := by simp [up]
theorem up_get {l : List ByteArray} {j : Nat} (h : j < l.length / 4) : (up l)[j]? = some (Mk.root ((l.drop (4 * j)).take 4)) := by
  unfold up; rw [List.getElem?_map, List.getElem?_range h]; rfl
def lv : Nat → List ByteArray → List ByteArray
  | 0, l => l
  | k + 1, l => lv k (up l)
theorem lv_len : ∀ (k : Nat) (l : List ByteArray), (lv k l).length = l.length / 4 ^ k
  | 0, l => by simp [lv]
  | k + 1, l => by rw [lv, lv_len k, up_len, Nat.pow_succ, Nat.mul_comm, Nat.div_div_eq_div_mul]
theorem up_32 {l : List ByteArray} (h : ∀ x ∈ l, x.size = 32) : ∀ x ∈ up l, x.size = 32 := by
  intro x hx
  obtain ⟨j, _, rfl⟩ := List.mem_map.1 hx
  exact Mk.root_32 _ fun y hy => h y (List.mem_of_mem_drop (List.mem_of_mem_take hy))
theorem lv_32 : ∀ (k : Nat) {l : List ByteArray}, (∀ x ∈ l, x.size = 32) → ∀ x ∈ lv k l, x.size = 32
  | 0, _, h => h
  | k + 1, _, h => lv_32 k (up_32 h)
/-- a level's hash by its leaves -/
def hs (l : List ByteArray) (k j : Nat) : ByteArray := Mk.root ((l.drop (j * 4 ^ k)).take (4 ^ k))
theorem root_half {l : List ByteArray} {j : Nat} (h : l.length = 2 ^ (j + 1)) : Mk.root l = Mk.node (Mk.root (l.take (2 ^ j))) (Mk.root (l.drop (2 ^ j))) := by
  have p := Nat.two_pow_pos j
  have e : Mk.split l.length = 2 ^ j := by
    rw [h]
    exact Mk.split_uniq (by rw [Nat.pow_succ]; omega) (by rw [Nat.pow_succ]; omega) (by rw [Nat.pow_succ]; omega)
  rw [Mk.root_two (by rw [h, Nat.pow_succ]; omega), e]
theorem root_four {l : List ByteArray} {j : Nat} (h : l.length = 2 ^ (j + 2)) : Mk.root l = Mk.node (Mk.node (Mk.root (l.take (2 ^ j))) (Mk.root ((l.drop (2 ^ j)).take (2 ^ j)))) (Mk.node (Mk.root ((l.drop (2 * 2 ^ j)).take (2 ^ j))) (Mk.root ((l.drop (3 * 2 ^ j)).take (2 ^ j)))) := by
  have e1 : 2 ^ (j + 1) = 2 * 2 ^ j := by rw [Nat.pow_succ]; omega
  have e2 : 2 ^ (j + 2) = 4 * 2 ^ j := by rw [Nat.pow_succ, e1]; omega
  rw [root_half h, root_half (l := l.take (2 ^ (j + 1))) (j := j) (by rw [List.length_take]; omega), root_half (l := l.drop (2 ^ (j + 1))) (j := j) (by rw [List.length_drop]; omega)]
  rw [List.take_take, List.drop_take, List.drop_drop, e1]
  have h1 : min (2 ^ j) (2 * 2 ^ j) = 2 ^ j := by omega
  have h2 : 2 * 2 ^ j - 2 ^ j = 2 ^ j := by omega
  have h3 : 2 * 2 ^ j + 2 ^ j = 3 * 2 ^ j := by omega
  rw [h1, h2, h3, List.take_of_length_le (l := l.drop (3 * 2 ^ j)) (by rw [List.length_drop]; omega)]
theorem four_pow (k : Nat) : 4 ^ k = 2 ^ (2 * k) := by rw [Nat.pow_mul]
theorem root_4 (a b c d : ByteArray) : Mk.root [a, b, c, d] = Mk.node (Mk.node a b) (Mk.node c d) := by
  rw [root_four (j := 0) (l := [a, b, c, d]) rfl]
  simp [Mk.root_one]
theorem hs_up {l : List ByteArray} {k j : Nat} (h : (j + 1) * 4 ^ (k + 1) ≤ l.length) : hs (up l) k j = hs l (k + 1) j := by
  induction k generalizing j with
  | zero =>
    unfold hs
    rw [Nat.pow_zero, Nat.mul_one, Nat.zero_add, Nat.pow_one] at *
    have hj : j < l.length / 4 := by omega
    have : ((up l).drop j).take 1 = [Mk.root ((l.drop (4 * j)).take 4)] := by
      rw [List.drop_eq_getElem_cons (by rw [up_len]; exact hj), List.take_succ_cons, List.take_zero]
      have := up_get hj
      rw [List.getElem?_eq_getElem (by rw [up_len]; exact hj)] at this
      rw [Option.some.inj this]
    rw [this, Mk.root_one, Nat.mul_comm j 4]
  | succ k ih =>
    have p := Nat.two_pow_pos (2 * k)
    have f1 : 4 ^ (k + 1) = 4 * 2 ^ (2 * k) := by rw [Nat.pow_succ, four_pow]; omega
    have f2 : 4 ^ (k + 1 + 1) = 4 * (4 * 2 ^ (2 * k)) := by rw [Nat.pow_succ, f1]; omega
    have g1 : 4 * 2 ^ (2 * k) = 2 ^ (2 * k + 2) := by rw [Nat.pow_add]; omega
    have hl4 : 4 * 4 ^ (k + 1) = 4 ^ (k + 1 + 1) := by rw [f2, f1]
    obtain ⟨P, hP⟩ : ∃ P, P = 2 ^ (2 * k) := ⟨_, rfl⟩
    have key : ∀ i, i < 4 → hs (up l) k (4 * j + i) = hs l (k + 1) (4 * j + i) := fun i hi => ih (by
      have : (4 * j + i + 1) * 4 ^ (k + 1) ≤ (4 * (j + 1)) * 4 ^ (k + 1) := Nat.mul_le_mul_right _ (by omega)
      have e : (4 * (j + 1)) * 4 ^ (k + 1) = (j + 1) * 4 ^ (k + 1 + 1) := by rw [← hl4, Nat.mul_comm 4 (j + 1), Nat.mul_assoc]
      omega)
    have hul : (j + 1) * 4 ^ (k + 1) ≤ (up l).length := by
      rw [up_len]
      have e : (j + 1) * 4 ^ (k + 1 + 1) = 4 * ((j + 1) * 4 ^ (k + 1)) := by rw [← hl4, Nat.mul_left_comm]
      omega
    have half : ∀ (L : List ByteArray) (m : Nat), (j + 1) * 4 ^ (m + 1) ≤ L.length → hs L (m + 1) j = Mk.node (Mk.node (hs L m (4 * j)) (hs L m (4 * j + 1))) (Mk.node (hs L m (4 * j + 2)) (hs L m (4 * j + 3))) := by
      intro L m hL
      have q1 : 4 ^ (m + 1) = 4 * 4 ^ m := by rw [Nat.pow_succ]; omega
      have q2 := four_pow m
      have e : (j + 1) * 4 ^ (m + 1) = j * 4 ^ (m + 1) + 4 ^ (m + 1) := by rw [Nat.add_mul, Nat.one_mul]
      have ej : j * 4 ^ (m + 1) = 4 * j * 4 ^ m := by rw [q1, ← Nat.mul_assoc, Nat.mul_comm j 4]
      unfold hs
      have h22 : 2 ^ (2 * m + 2) = 4 * 4 ^ m := by rw [Nat.pow_add, ← q2]; omega
      rw [root_four (j := 2 * m) (by rw [List.length_take, List.length_drop, h22]; omega)]
      rw [← q2]
      simp only [List.take_take, List.drop_take, List.drop_drop]
      have m0 : min (4 ^ m) (4 ^ (m + 1)) = 4 ^ m := by omega
      have m1 : min (4 ^ m) (4 ^ (m + 1) - 4 ^ m) = 4 ^ m := by omega
      have m2 : min (4 ^ m) (4 ^ (m + 1) - 2 * 4 ^ m) = 4 ^ m := by omega
      have m3 : min (4 ^ m) (4 ^ (m + 1) - 3 * 4 ^ m) = 4 ^ m := by omega
      have a1 : (4 * j + 1) * 4 ^ m = j * 4 ^ (m + 1) + 4 ^ m := by rw [Nat.add_mul, ej, Nat.one_mul]
      have a2 : (4 * j + 2) * 4 ^ m = j * 4 ^ (m + 1) + 2 * 4 ^ m := by rw [Nat.add_mul, ej]
      have a3 : (4 * j + 3) * 4 ^ m = j * 4 ^ (m + 1) + 3 * 4 ^ m := by rw [Nat.add_mul, ej]
      rw [m0, m1, m2, m3, ej, a1, a2, a3, ej]
    rw [half (up l) k hul, half l (k + 1) h]
    have k0 := key 0 (by omega)
    rw [Nat.add_zero] at k0
    rw [k0, key 1 (by omega), key 2 (by omega), key 3 (by omega)]
/-- a level's hashes are those by its leaves -/
theorem lv_get : ∀ (k : Nat) (l : List ByteArray) (j : Nat), (j + 1) * 4 ^ k ≤ l.length → (lv k l)[j]? = some (hs l k j)
  | 0, l, j, h => by
    rw [Nat.pow_zero, Nat.mul_one] at h
    unfold lv hs
    rw [Nat.pow_zero, Nat.mul_one, List.drop_eq_getElem_cons (by omega), List.take_succ_cons, List.take_zero, Mk.root_one, List.getElem?_eq_getElem (by omega)]
  | k + 1, l, j, h => by
    have hl : (j + 1) * 4 ^ k ≤ (up l).length := by
      rw [up_len]
      have e : (j + 1) * 4 ^ (k + 1) = 4 * ((j + 1) * 4 ^ k) := by rw [Nat.pow_succ, Nat.mul_comm (4 ^ k) 4, Nat.mul_left_comm]
      omega
    rw [lv, lv_get k (up l) j hl, hs_up h]
end Tl
end Go.Proofs.Ytboifenkbhfnfaa
