/- Words as bit vectors: what the generator's whole-number words are on them. -/
import Derived.Test.YtboifenkbhfnfaaVcH
set_option linter.all false
namespace Go.Proofs.Ytboifenkbhfnfaa.V
open Go
def bI {n : Nat} (b : BitVec n) : Int := (b.toNat : Int)
theorem bI_nonneg {n : Nat} (b : BitVec n) : 0 ≤ bI b := by unfold bI; omega
theorem bI_lt32 (b : BitVec 32) : bI b < 4294967296 := by unfold bI; have := b.isLt; omega
theorem bI_lt64 (b : BitVec 64) : bI b < 18446744073709551616 := by unfold bI; have := b.isLt; omega
theorem ofInt_bI {n : Nat} (b : BitVec n) : BitVec.ofInt n (bI b) = b := by
  unfold bI
  apply BitVec.eq_of_toNat_eq
  rw [BitVec.toNat_ofInt]
  have := b.isLt
  have h2 : ((b.toNat : Int) % ((2 ^ n : Nat) : Int)) = (b.toNat : Int) := Int.emod_eq_of_lt (by omega) (by exact_mod_cast this)
  rw [h2]; simp
theorem wrap32_bI (x : Nat) : IntKind.u32.wrap (x : Int) = bI (BitVec.ofNat 32 x) := by
  rw [IntKind.wrap_u32]; unfold bI; rw [BitVec.toNat_ofNat]; omega
theorem wrap64_bI (x : Nat) : IntKind.u64.wrap (x : Int) = bI (BitVec.ofNat 64 x) := by
  have e : IntKind.u64.wrap (x : Int) = (x : Int) % 18446744073709551616 := by simp [IntKind.wrap, IntKind.bits, IntKind.signed]
  rw [e]; unfold bI; rw [BitVec.toNat_ofNat]; omega
theorem iadd32 (a b : BitVec 32) : iadd .u32 (bI a) (bI b) = bI (a + b) := by
  unfold iadd bI
  rw [← Int.natCast_add, wrap32_bI, bI, BitVec.toNat_ofNat, BitVec.toNat_add]
theorem ior32 (a b : BitVec 32) : ior .u32 (bI a) (bI b) = bI (a ||| b) := by
  unfold ior
  show IntKind.u32.wrap ((BitVec.ofInt 32 (bI a) ||| BitVec.ofInt 32 (bI b)).toNat : Int) = _
  rw [ofInt_bI, ofInt_bI, wrap32_bI]; simp
theorem iand32 (a b : BitVec 32) : iand .u32 (bI a) (bI b) = bI (a &&& b) := by
  unfold iand
  show IntKind.u32.wrap ((BitVec.ofInt 32 (bI a) &&& BitVec.ofInt 32 (bI b)).toNat : Int) = _
  rw [ofInt_bI, ofInt_bI, wrap32_bI]; simp
theorem ixor32 (a b : BitVec 32) : ixor .u32 (bI a) (bI b) = bI (a ^^^ b) := by
  unfold ixor
  show IntKind.u32.wrap ((BitVec.ofInt 32 (bI a) ^^^ BitVec.ofInt 32 (bI b)).toNat : Int) = _
  rw [ofInt_bI, ofInt_bI, wrap32_bI]; simp
theorem ixor64 (a b : BitVec 64) : ixor .u64 (bI a) (bI b) = bI (a ^^^ b) := by
  unfold ixor
  show IntKind.u64.wrap ((BitVec.ofInt 64 (bI a) ^^^ BitVec.ofInt 64 (bI b)).toNat : Int) = _
  rw [ofInt_bI, ofInt_bI, wrap64_bI]; simp
theorem ior64 (a b : BitVec 64) : ior .u64 (bI a) (bI b) = bI (a ||| b) := by
  unfold ior
  show IntKind.u64.wrap ((BitVec.ofInt 64 (bI a) ||| BitVec.ofInt 64 (bI b)).toNat : Int) = _
  rw [ofInt_bI, ofInt_bI, wrap64_bI]; simp
theorem iand64 (a b : BitVec 64) : iand .u64 (bI a) (bI b) = bI (a &&& b) := by
  unfold iand
  show IntKind.u64.wrap ((BitVec.ofInt 64 (bI a) &&& BitVec.ofInt 64 (bI b)).toNat : Int) = _
  rw [ofInt_bI, ofInt_bI, wrap64_bI]; simp
theorem inot32 (a : BitVec 32) : ixor .u32 4294967295 (bI a) = bI (~~~a) := by
  have e : (4294967295 : Int) = bI (BitVec.allOnes 32) := by decide
  rw [e, ixor32]; congr 1
theorem ishl32 (a : BitVec 32) (k : Int) (n : Nat) (hk : k = n) (h : n ≤ 32) : ishl .u32 (bI a) k = bI (a <<< n) := by
  subst hk
  unfold ishl
  have e : min (n : Int).toNat IntKind.u32.bits = n := by simp [IntKind.bits]; omega
  rw [e]
  unfold bI
  rw [show ((a.toNat : Int) * 2 ^ n) = ((a.toNat * 2 ^ n : Nat) : Int) by push_cast; rfl, wrap32_bI, bI]
  simp [BitVec.toNat_shiftLeft, Nat.shiftLeft_eq]
theorem ishr32 (a : BitVec 32) (k : Int) (n : Nat) (hk : k = n) (h : n ≤ 32) : ishr .u32 (bI a) k = bI (a >>> n) := by
  subst hk
  unfold ishr
  have e : min (n : Int).toNat IntKind.u32.bits = n := by simp [IntKind.bits]; omega
  rw [e]
  unfold bI
  rw [BitVec.toNat_ushiftRight, Nat.shiftRight_eq_div_pow]
  rw [show (2 : Int) ^ n = ((2 ^ n : Nat) : Int) by push_cast; rfl]
  rw [Int.fdiv_eq_ediv_of_nonneg _ (Int.natCast_nonneg _), Int.natCast_ediv]
theorem iconv32_64 (a : BitVec 32) : iconv .u64 (bI a) = bI a := by
  unfold iconv
  exact wrap_u64 (bI_nonneg a) (by have := bI_lt32 a; omega)
/-! ### the same, on 64 bits, of numbers below 2^32 (as another text writes SHA-256) -/
theorem ixor64_lo (a b : BitVec 32) : ixor .u64 (bI a) (bI b) = bI (a ^^^ b) := by
  have e : ∀ x : BitVec 32, bI x = bI (x.setWidth 64) := fun x => by
    unfold bI; rw [BitVec.toNat_setWidth]; have := x.isLt; congr 1; omega
  rw [e a, e b, e (a ^^^ b), ixor64, BitVec.setWidth_xor]
theorem ior64_lo (a b : BitVec 32) : ior .u64 (bI a) (bI b) = bI (a ||| b) := by
  have e : ∀ x : BitVec 32, bI x = bI (x.setWidth 64) := fun x => by
    unfold bI; rw [BitVec.toNat_setWidth]; have := x.isLt; congr 1; omega
  rw [e a, e b, e (a ||| b), ior64, BitVec.setWidth_or]
theorem iand64_lo (a b : BitVec 32) : iand .u64 (bI a) (bI b) = bI (a &&& b) := by
  have e : ∀ x : BitVec 32, bI x = bI (x.setWidth 64) := fun x => by
    unfold bI; rw [BitVec.toNat_setWidth]; have := x.isLt; congr 1; omega
  rw [e a, e b, e (a &&& b), iand64, BitVec.setWidth_and]
/-- turned right -/
def rot (x : BitVec 32) (n : Nat) : BitVec 32 := (x <<< (32 - n)) ||| (x >>> n)
theorem rot_ref (x : BitVec 32) (n : Nat) (h0 : 0 < n) (h : n < 32) : ((x.toNat * 4294967296 + x.toNat) / 2 ^ n) % 4294967296 = (rot x n).toNat := by
  have e1 : (x ++ x).toNat = x.toNat * 4294967296 + x.toNat := by
    rw [BitVec.toNat_append]
    have := x.isLt
    rw [Nat.shiftLeft_eq, Nat.mul_comm, ← Nat.two_pow_add_eq_or_of_lt this, Nat.mul_comm]
  rw [← e1]
  have e2 : ((x ++ x).toNat / 2 ^ n) % 4294967296 = (((x ++ x) >>> n).setWidth 32).toNat := by
    rw [BitVec.toNat_setWidth, BitVec.toNat_ushiftRight, Nat.shiftRight_eq_div_pow]
  rw [e2]
  congr 1
  ext i hi
  simp only [rot, BitVec.getElem_setWidth, BitVec.getLsbD_ushiftRight, BitVec.getLsbD_append, BitVec.getElem_or, BitVec.getElem_shiftLeft, BitVec.getElem_ushiftRight]
  by_cases h1 : n + i < 32
  · have : i < 32 - n := by omega
    simp [h1, this]
  · have h2 : ¬ i < 32 - n := by omega
    simp only [h1, h2, if_false, decide_false, Bool.not_false, Bool.true_and]
    have e : n + i - 32 = i - (32 - n) := by omega
    have h3 : x.getLsbD (n + i) = false := BitVec.getLsbD_of_ge x (n + i) (by omega)
    simp [e, h3, BitVec.getLsbD_eq_getElem, show i - (32 - n) < 32 by omega]
end Go.Proofs.Ytboifenkbhfnfaa.V
