/- Merkle trees in plain words. -/
import Derived.Test.YtboifenkbhfnfaaShaP
set_option linter.all false
set_option maxRecDepth 100000
namespace Go.Proofs.Ytboifenkbhfnfaa
open Go
namespace Mk
/-- the greatest power of two below a number from 2 on -/
def splitF : Nat → Nat → Nat → Nat
  | 0, k, _ => k
  | f + 1, k, n => if 2 * k < n then splitF f (k * 2) n else k
def split (n : Nat) : Nat := splitF n 1 n
theorem splitF_spec : ∀ (f k n : Nat), 0 < k → k < n → n ≤ k + f → splitF f k n < n ∧ 0 < splitF f k n ∧ n ≤ 2 * splitF f k n
  | 0, k, n, h0, hk, hf => by omega
  | f + 1, k, n, h0, hk, hf => by
    unfold splitF
    split
    · exact splitF_spec f (k * 2) n (by omega) (by omega) (by omega)
    · omega
theorem split_lt {n : Nat} (h : 2 ≤ n) : split n < n := (splitF_spec n 1 n (by omega) (by omega) (by omega)).1
theorem split_pos {n : Nat} (h : 2 ≤ n) : 0 < split n := (splitF_spec n 1 n (by omega) (by omega) (by omega)).2.1
theorem split_le {n : Nat} (h : 2 ≤ n) : n ≤ 2 * split n := (splitF_spec n 1 n (by omega) (by omega) (by omega)).2.2
def leaf (b : ByteArray) : ByteArray := Sha.sum (⟨#[0]⟩ ++ b)
def node (a b : ByteArray) : ByteArray := Sha.sum (⟨#[1]⟩ ++ a ++ b)
def emptyRoot : ByteArray := Sha.sum ⟨#[]⟩
/-- the root of hashes -/
def root (l : List ByteArray) : ByteArray :=
  if h : l.length ≤ 1 then (match l with | [] => emptyRoot | x :: _ => x)
  else node (root (l.take (split l.length))) (root (l.drop (split l.length)))
termination_by l.length
decreasing_by
  · have := split_lt (n := l.length) (by omega)
    rw [List.length_take]; omega
  · have := split_pos (n := l.length) (by omega)
    rw [List.length_drop]; omega
theorem root_nil : root [] = emptyRoot := by rw [root]; rfl
theorem root_one (x : ByteArray) : root [x] = x := by rw [root]; rfl
theorem root_two {l : List ByteArray} (h : 2 ≤ l.length) : root l = node (root (l.take (split l.length))) (root (l.drop (split l.length))) := by
  rw [root, dif_neg (by omega)]
theorem node_size (a b : ByteArray) : (node a b).size = 32 := Sha.sum_size _
theorem leaf_size (b : ByteArray) : (leaf b).size = 32 := Sha.sum_size _
theorem empty_size : emptyRoot.size = 32 := Sha.sum_size _
theorem root_size (l : List ByteArray) {B : Nat} (hB : 32 ≤ B) (h : ∀ x ∈ l, x.size ≤ B) : (root l).size ≤ B := by
  match l with
  | [] => rw [root_nil, empty_size]; exact hB
  | [x] => rw [root_one]; exact h x (by simp)
  | x :: y :: r => rw [root_two (by simp), node_size]; exact hB
theorem root_32 (l : List ByteArray) (h : ∀ x ∈ l, x.size = 32) : (root l).size = 32 := by
  match l with
  | [] => rw [root_nil, empty_size]
  | [x] => rw [root_one]; exact h x (by simp)
  | x :: y :: r => rw [root_two (by simp), node_size]
/-- leaves' hashes -/
def leaves (l : List ByteArray) : List ByteArray := l.map leaf
end Mk
end Go.Proofs.Ytboifenkbhfnfaa
