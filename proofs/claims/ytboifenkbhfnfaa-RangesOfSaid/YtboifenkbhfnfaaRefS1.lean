/- the reference's SHA-256: contracts: right, block. -/
import Derived.Test.YtboifenkbhfnfaaVRef01
import Derived.Test.YtboifenkbhfnfaaSha4
set_option linter.all false
set_option maxRecDepth 100000
namespace Go.Proofs.Ytboifenkbhfnfaa
open Go
def u64C (l : List Sha.W) : Array Value := (l.map fun x => Value.int .u64 (V.bI x)).toArray
theorem u64C_size (l : List Sha.W) : (u64C l).size = l.length := by simp [u64C]
theorem u64C_set (l : List Sha.W) (i : Nat) (x : Sha.W) : (u64C l).setIfInBounds i (.int .u64 (V.bI x)) = u64C (l.set i x) := by
  unfold u64C
  apply Array.ext'
  simp [List.map_set]
theorem u64C_get {l : List Sha.W} {i : Nat} (h : i < l.length) : (u64C l)[i]? = some (.int .u64 (V.bI (Sha.g l i))) := by
  unfold u64C Sha.g
  simp [h]
theorem u64C_one (l : List Sha.W) : ∀ v ∈ (u64C l).toList, v.oneCell' = true := by
  intro v hv
  simp only [u64C, List.mem_map] at hv
  obtain ⟨x, _, rfl⟩ := hv; rfl
theorem zero64_64 : V.zcells Try.prog 130 = u64C (List.replicate 64 0) := by kernel_rfl
theorem right_spec (x : Sha.W) (n : Nat) (h0 : 0 < n) (h : n < 32) (w : World) (C : Value → World → Prop) (hc : C (.int .u64 (V.bI (V.rot x n))) w) :
    V.CallsR Try.prog 99 #[.int .u64 (V.bI x), .int .u64 (n : Int)] w C := by
  refine V.calls_of_fnVC (args := [_, _]) Try.func99 ?_
  rw [vc_annalistref01_right]
  refine And.intro (by unfold V.ige0; omega) (And.intro (by unfold V.inz; omega) ?_)
  have hx := x.isLt
  have e : V.irem (V.ishr .u64 (V.iadd .u64 (V.imul .u64 (V.bI x) 4294967296) (V.bI x)) (n : Int)) 4294967296 = V.bI (V.rot x n) := by
    rw [show V.bI (V.rot x n) = (((V.rot x n).toNat : Nat) : Int) from rfl, ← V.rot_ref x n h0 h]
    unfold V.irem V.ishr V.iadd V.imul V.bI
    rw [V.wrap_u64 (x := (x.toNat : Int) * 4294967296) (by omega) (by omega), V.wrap_u64 (by omega) (by omega)]
    have e3 : min ((n : Int)).toNat IntKind.u64.bits = n := by simp only [IntKind.bits, Int.toNat_natCast]; omega
    rw [e3, show (x.toNat : Int) * 4294967296 + x.toNat = ((x.toNat * 4294967296 + x.toNat : Nat) : Int) by omega, show (2 : Int) ^ n = ((2 ^ n : Nat) : Int) by rw [Int.natCast_pow]; rfl,
      Int.fdiv_eq_ediv_of_nonneg _ (Int.natCast_nonneg _), ← Int.natCast_ediv, Int.tmod_eq_emod_of_nonneg (Int.natCast_nonneg _)]
    rfl
  rw [e]
  exact hc
/-! ### sums on 64 bits -/
theorem iadd64n (a b : Nat) (h : a + b < 18446744073709551616) : V.iadd .u64 (a : Int) (b : Int) = ((a + b : Nat) : Int) := by
  unfold V.iadd; rw [V.wrap_u64 (by omega) (by omega)]; omega
theorem imul64n (a b : Nat) (h : a * b < 18446744073709551616) : V.imul .u64 (a : Int) (b : Int) = ((a * b : Nat) : Int) := by
  unfold V.imul; rw [← Int.natCast_mul, V.wrap_u64 (by omega) (by omega)]
theorem irem64n (a b : Nat) : V.irem (a : Int) (b : Int) = ((a % b : Nat) : Int) := by
  unfold V.irem; rw [Int.tmod_eq_emod_of_nonneg (Int.natCast_nonneg _)]; rfl
theorem bI_nat {n : Nat} (x : BitVec n) : V.bI x = ((x.toNat : Nat) : Int) := rfl
/-- the first m bytes of four, as a number -/
def pw (l : List UInt8) (i : Nat) : Nat → Nat
  | 0 => 0
  | m + 1 => pw l i m * 256 + (l.getD (i + m) 0).toNat
theorem pw_lt (l : List UInt8) (i : Nat) : ∀ m, pw l i m < 256 ^ m
  | 0 => by simp [pw]
  | m + 1 => by
    have h1 := pw_lt l i m
    have h2 := (l.getD (i + m) 0).toNat_lt
    simp only [pw, Nat.pow_succ]
    omega
theorem pw_word (l : List UInt8) (i : Nat) : BitVec.ofNat 32 (pw l i 4) = Sha.word l i := by
  unfold Sha.word pw pw pw pw pw
  congr 1
  simp only [Nat.add_zero]
  omega
theorem div_bI (x : Sha.W) (n : Nat) : V.iquo .u64 (V.bI x) ((2 ^ n : Nat) : Int) = V.bI (x >>> n) := by
  have h2 : 0 < 2 ^ n := Nat.two_pow_pos n
  have hx := x.isLt
  unfold V.iquo
  rw [bI_nat, IntWalk.up_tdiv rfl rfl, bI_nat, BitVec.toNat_ushiftRight, Nat.shiftRight_eq_div_pow]
  have := Nat.div_le_self x.toNat (2 ^ n)
  exact V.wrap_u64 (Int.natCast_nonneg _) (Int.le_trans (Int.ofNat_le.2 this) (by omega))
theorem sum4 (a b c d : Sha.W) : V.irem (V.iadd .u64 (V.iadd .u64 (V.iadd .u64 (V.bI a) (V.bI b)) (V.bI c)) (V.bI d)) 4294967296 = V.bI (a + b + c + d) := by
  have := a.isLt; have := b.isLt; have := c.isLt; have := d.isLt
  simp only [bI_nat]
  rw [iadd64n _ _ (by omega), iadd64n _ _ (by omega), iadd64n _ _ (by omega), show (4294967296 : Int) = ((4294967296 : Nat) : Int) from rfl, irem64n]
  congr 1
  simp only [BitVec.toNat_add]
  omega
theorem sum2 (a b : Sha.W) : V.irem (V.iadd .u64 (V.bI a) (V.bI b)) 4294967296 = V.bI (a + b) := by
  have := a.isLt; have := b.isLt
  simp only [bI_nat]
  rw [iadd64n _ _ (by omega), show (4294967296 : Int) = ((4294967296 : Nat) : Int) from rfl, irem64n]
  congr 1
theorem not_ref (x : Sha.W) : V.isub .u64 4294967295 (V.bI x) = V.bI (~~~x) := by
  have := x.isLt
  unfold V.isub
  rw [bI_nat, bI_nat, BitVec.toNat_not, V.wrap_u64 (by omega) (by omega)]
  omega
theorem maj_or (a b c : Sha.W) : ((a &&& b) ||| (a &&& c)) ||| (b &&& c) = Sha.maj a b c := by
  unfold Sha.maj
  ext i hi
  simp only [BitVec.getElem_or, BitVec.getElem_and, BitVec.getElem_xor]
  cases a[i] <;> cases b[i] <;> cases c[i] <;> rfl
/-- t1, t2 as they are summed -/
theorem sum_t1 (a b c d e x : Sha.W) : V.irem (V.iadd .u64 (V.bI x) (V.iadd .u64 (V.iadd .u64 (V.iadd .u64 (V.iadd .u64 (V.bI a) (V.bI b)) (V.bI c)) (V.bI d)) (V.bI e))) 4294967296 = V.bI (x + (a + b + c + d + e)) := by
  have := a.isLt; have := b.isLt; have := c.isLt; have := d.isLt; have := e.isLt; have := x.isLt
  simp only [bI_nat]
  rw [iadd64n _ _ (by omega), iadd64n _ _ (by omega), iadd64n _ _ (by omega), iadd64n _ _ (by omega), iadd64n _ _ (by omega), show (4294967296 : Int) = ((4294967296 : Nat) : Int) from rfl, irem64n]
  congr 1
  simp only [BitVec.toNat_add]
  omega
theorem sum_t12 (a b c d e x y : Sha.W) : V.irem (V.iadd .u64 (V.iadd .u64 (V.iadd .u64 (V.iadd .u64 (V.iadd .u64 (V.bI a) (V.bI b)) (V.bI c)) (V.bI d)) (V.bI e)) (V.iadd .u64 (V.bI x) (V.bI y))) 4294967296 = V.bI ((a + b + c + d + e) + (x + y)) := by
  have := a.isLt; have := b.isLt; have := c.isLt; have := d.isLt; have := e.isLt; have := x.isLt; have := y.isLt
  simp only [bI_nat]
  rw [iadd64n a.toNat b.toNat (by omega), iadd64n _ c.toNat (by omega), iadd64n _ d.toNat (by omega), iadd64n _ e.toNat (by omega), iadd64n x.toNat y.toNat (by omega), iadd64n _ _ (by omega), show (4294967296 : Int) = ((4294967296 : Nat) : Int) from rfl, irem64n]
  congr 1
  simp only [BitVec.toNat_add]
  omega
end Go.Proofs.Ytboifenkbhfnfaa
