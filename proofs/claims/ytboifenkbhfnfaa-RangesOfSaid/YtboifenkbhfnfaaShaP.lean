/- SHA-256 in plain words: what the program's text and the reference's text both compute. -/
import Derived.Test.YtboifenkbhfnfaaBv
set_option linter.all false
namespace Go.Proofs.Ytboifenkbhfnfaa
open Go V
namespace Sha
abbrev W := BitVec 32
/-- the reference's constants -/
def KN : List Nat := [
  0x428a2f98, 0x71374491, 0xb5c0fbcf, 0xe9b5dba5, 0x3956c25b, 0x59f111f1, 0x923f82a4, 0xab1c5ed5,
  0xd807aa98, 0x12835b01, 0x243185be, 0x550c7dc3, 0x72be5d74, 0x80deb1fe, 0x9bdc06a7, 0xc19bf174,
  0xe49b69c1, 0xefbe4786, 0x0fc19dc6, 0x240ca1cc, 0x2de92c6f, 0x4a7484aa, 0x5cb0a9dc, 0x76f988da,
  0x983e5152, 0xa831c66d, 0xb00327c8, 0xbf597fc7, 0xc6e00bf3, 0xd5a79147, 0x06ca6351, 0x14292967,
  0x27b70a85, 0x2e1b2138, 0x4d2c6dfc, 0x53380d13, 0x650a7354, 0x766a0abb, 0x81c2c92e, 0x92722c85,
  0xa2bfe8a1, 0xa81a664b, 0xc24b8b70, 0xc76c51a3, 0xd192e819, 0xd6990624, 0xf40e3585, 0x106aa070,
  0x19a4c116, 0x1e376c08, 0x2748774c, 0x34b0bcb5, 0x391c0cb3, 0x4ed8aa4a, 0x5b9cca4f, 0x682e6ff3,
  0x748f82ee, 0x78a5636f, 0x84c87814, 0x8cc70208, 0x90befffa, 0xa4506ceb, 0xbef9a3f7, 0xc67178f2]
def HN : List Nat := [0x6a09e667, 0xbb67ae85, 0x3c6ef372, 0xa54ff53a, 0x510e527f, 0x9b05688c, 0x1f83d9ab, 0x5be0cd19]
def K : List W := KN.map (BitVec.ofNat 32)
def H0 : List W := HN.map (BitVec.ofNat 32)
def g (l : List W) (i : Nat) : W := l.getD i 0
def sg0 (x : W) : W := (rot x 7 ^^^ rot x 18) ^^^ (x >>> 3)
def sg1 (x : W) : W := (rot x 17 ^^^ rot x 19) ^^^ (x >>> 10)
/-- a word of four bytes from place i on -/
def word (b : List UInt8) (i : Nat) : W :=
  BitVec.ofNat 32 ((b.getD i 0).toNat * 16777216 + (b.getD (i + 1) 0).toNat * 65536 + (b.getD (i + 2) 0).toNat * 256 + (b.getD (i + 3) 0).toNat)
/-- the first n words of a block's schedule -/
def sched (b : List UInt8) : Nat → List W
  | 0 => []
  | n + 1 => let w := sched b n
    w ++ [if n < 16 then word b (4 * n) else g w (n - 16) + g w (n - 7) + sg0 (g w (n - 15)) + sg1 (g w (n - 2))]
theorem sched_len (b : List UInt8) : ∀ n, (sched b n).length = n
  | 0 => rfl
  | n + 1 => by simp [sched, sched_len b n]
def bs1 (x : W) : W := (rot x 6 ^^^ rot x 11) ^^^ rot x 25
def bs0 (x : W) : W := (rot x 2 ^^^ rot x 13) ^^^ rot x 22
def ch (e f h : W) : W := (e &&& f) ^^^ (~~~e &&& h)
def maj (a b c : W) : W := ((a &&& b) ^^^ (a &&& c)) ^^^ (b &&& c)
def t1 (s : List W) (k w : W) : W := g s 7 + bs1 (g s 4) + ch (g s 4) (g s 5) (g s 6) + k + w
def t2 (s : List W) : W := bs0 (g s 0) + maj (g s 0) (g s 1) (g s 2)
def stepS (s : List W) (k w : W) : List W := [t1 s k w + t2 s, g s 0, g s 1, g s 2, g s 3 + t1 s k w, g s 4, g s 5, g s 6]
/-- n steps over a state -/
def steps (s : List W) (ws : List W) : Nat → List W
  | 0 => s
  | n + 1 => stepS (steps s ws n) (g K n) (g ws n)
theorem steps_len (s ws : List W) (h : s.length = 8) : ∀ n, (steps s ws n).length = 8
  | 0 => h
  | _ + 1 => rfl
def addS (h s : List W) : List W := (List.range 8).map fun i => g h i + g s i
/-- a block put into the state -/
def comp (h : List W) (b : List UInt8) : List W := addS h (steps h (sched b 64) 64)
theorem comp_len (h : List W) (b : List UInt8) : (comp h b).length = 8 := by simp [comp, addS]
/-- n blocks -/
def runB : Nat → List W → List UInt8 → List W
  | 0, h, _ => h
  | n + 1, h, l => runB n (comp h (l.take 64)) (l.drop 64)
theorem runB_len : ∀ (n : Nat) (h : List W) (l : List UInt8), h.length = 8 → (runB n h l).length = 8
  | 0, _, _, hh => hh
  | n + 1, _, _, _ => runB_len n _ _ (comp_len _ _)
theorem runB_add : ∀ (a b : Nat) (h : List W) (l : List UInt8), runB (a + b) h l = runB b (runB a h l) (l.drop (64 * a))
  | 0, b, h, l => by simp [runB]
  | a + 1, b, h, l => by
    rw [show a + 1 + b = (a + b) + 1 by omega]
    simp only [runB]
    rw [runB_add a b, List.drop_drop, show 64 + 64 * a = 64 * (a + 1) by omega]
theorem runB_append : ∀ (a : Nat) (h : List W) (l m : List UInt8), 64 * a ≤ l.length → runB a h (l ++ m) = runB a h l
  | 0, _, _, _, _ => rfl
  | a + 1, h, l, m, hl => by
    simp only [runB]
    rw [List.take_append_of_le_length (by omega), List.drop_append_of_le_length (by omega), runB_append a _ _ _ (by simp; omega)]
/-- a number's bytes, the greatest first -/
def numB (n size : Nat) : List UInt8 := (List.range size).map fun i => UInt8.ofNat (n / 256 ^ (size - 1 - i))
theorem numB_len (n size : Nat) : (numB n size).length = size := by simp [numB]
def zeros (l : Nat) : Nat := (64 + 55 - l % 64) % 64
def padded (b : List UInt8) : List UInt8 := b ++ [128] ++ List.replicate (zeros b.length) 0 ++ numB (8 * b.length % 18446744073709551616) 8
theorem padded_len (b : List UInt8) : (padded b).length = b.length + 9 + zeros b.length := by
  simp [padded, numB_len]; omega
theorem padded_mod (b : List UInt8) : (padded b).length % 64 = 0 := by
  rw [padded_len]; unfold zeros; omega
def outB (h : List W) : List UInt8 := h.flatMap fun w => numB w.toNat 4
/-- the digest -/
def digest (b : List UInt8) : List UInt8 := outB (runB ((padded b).length / 64) H0 (padded b))
theorem digest_len (b : List UInt8) : (digest b).length = 32 := by
  have h := runB_len ((padded b).length / 64) H0 (padded b) rfl
  unfold digest outB
  match hx : runB ((padded b).length / 64) H0 (padded b), h with
  | [a, b, c, d, e, f, g, i], _ => simp [numB_len]
/-- the digest as a string -/
def sum (b : ByteArray) : ByteArray := ⟨(digest b.data.toList).toArray⟩
theorem sum_size (b : ByteArray) : (sum b).size = 32 := by
  show (digest b.data.toList).toArray.size = 32
  simp [digest_len]
end Sha
end Go.Proofs.Ytboifenkbhfnfaa
