/- The words of the verified condition generator: plain functions on numbers, strings, addresses and values. -/
import Derived.OrdersIn
import Derived.RangeFuncLeaves
import Derived.RangeFuncCalls
import Derived.Tactics
import Derived.KernelRfl
import Derived.Laws.World
set_option linter.all false
namespace Go.Proofs.Ytboifenkbhfnfaa.V
open Go

/-! ### numbers, strings -/
def zi (n : Nat) : Int := (n : Int)
def iadd (k : IntKind) (x y : Int) : Int := k.wrap (x + y)
def isub (k : IntKind) (x y : Int) : Int := k.wrap (x - y)
def imul (k : IntKind) (x y : Int) : Int := k.wrap (x * y)
def iconv (k : IntKind) (x : Int) : Int := k.wrap x
def iquo (k : IntKind) (x y : Int) : Int := k.wrap (x.tdiv y)
def irem (x y : Int) : Int := x.tmod y
def ishl (k : IntKind) (x y : Int) : Int := k.wrap (x * 2 ^ (min y.toNat k.bits))
def ishr (k : IntKind) (x y : Int) : Int := x.fdiv (2 ^ (min y.toNat k.bits))
def iand (k : IntKind) (x y : Int) : Int := k.wrap (BitVec.ofInt k.bits x &&& BitVec.ofInt k.bits y).toNat
def ior (k : IntKind) (x y : Int) : Int := k.wrap (BitVec.ofInt k.bits x ||| BitVec.ofInt k.bits y).toNat
def ixor (k : IntKind) (x y : Int) : Int := k.wrap (BitVec.ofInt k.bits x ^^^ BitVec.ofInt k.bits y).toNat
def iandNot (k : IntKind) (x y : Int) : Int := k.wrap (BitVec.ofInt k.bits x &&& ~~~(BitVec.ofInt k.bits y)).toNat
def ieq (x y : Int) : Bool := x == y
def ine (x y : Int) : Bool := x != y
def ilt (x y : Int) : Bool := decide (x < y)
def ile (x y : Int) : Bool := decide (x ≤ y)
def igt (x y : Int) : Bool := decide (x > y)
def ige (x y : Int) : Bool := decide (x ≥ y)
def imax (x y : Int) : Int := if y > x then y else x
def imin (x y : Int) : Int := if y < x then y else x
def inz (x : Int) : Prop := x ≠ 0
def ige0 (x : Int) : Prop := 0 ≤ x
def beq (a b : Bool) : Bool := a == b
def bnot (a : Bool) : Bool := !a
def band (a b : Bool) : Bool := a && b
def seq (a b : ByteArray) : Bool := a.toList == b.toList
def scat (a b : ByteArray) : ByteArray := a ++ b
def sfits (a b : ByteArray) : Prop := a.size + b.size ≤ 9223372036854775807
def ssub (s : ByteArray) (l h : Nat) : ByteArray := s.extract l h
def sbyte (s : ByteArray) (i : Int) : Int := (((s[i.toNat]?).getD 0).toNat : Int)
def ssize (s : ByteArray) : Nat := s.size
def nmul (a b : Nat) : Nat := a * b
def nsub (a b : Nat) : Nat := a - b
def inat (i : Int) : Nat := i.toNat
def inR (i : Int) (n : Nat) : Prop := 0 ≤ i ∧ i ≤ (n : Int)
def inX (i : Int) (n : Nat) : Prop := 0 ≤ i ∧ i < (n : Int)
/-! ### addresses -/
def aadd (a : Addr) (n : Nat) : Addr := a.add n
def nptr (w : World) : Addr := ⟨w.heap.size, 0, none⟩
def slAdr (a : Option Addr) (c l size : Nat) : Option Addr := if c = l then a else a.map (·.add (l * size))
def isNil (a : Option Addr) : Bool := a.isNone
def isNilM (a : Option Nat) : Bool := a.isNone
/-! ### propositions -/
def ifB (b : Bool) (A B : Prop) : Prop := match b with | true => A | false => B
def onlyIf (b : Bool) (A : Prop) : Prop := match b with | true => A | false => False
def nilCk (p : Option Addr) (C : Addr → Prop) : Prop := ∃ a, p = some a ∧ C a
def hasCell (w : World) (a : Addr) (v : Value) : Prop := w.cell? a = some v
def ldInt (w : World) (a : Addr) (k : IntKind) (C : Int → Prop) : Prop := ∃ x, w.cell? a = some (.int k x) ∧ C x
def ldBool (w : World) (a : Addr) (C : Bool → Prop) : Prop := ∃ x, w.cell? a = some (.bool x) ∧ C x
def ldStr (w : World) (a : Addr) (C : ByteArray → Prop) : Prop := ∃ x, w.cell? a = some (.string x) ∧ C x
def ldPtr (w : World) (a : Addr) (C : Option Addr → Prop) : Prop := ∃ x, w.cell? a = some (.pointer x) ∧ C x
def ldSlice (w : World) (a : Addr) (C : Option Addr → Nat → Nat → Prop) : Prop := ∃ p n c, w.cell? a = some (.slice p n c) ∧ C p n c
def ldMap (w : World) (a : Addr) (C : Option Nat → Prop) : Prop := ∃ x, w.cell? a = some (.map x) ∧ C x
def ldRaw (w : World) (a : Addr) (C : Value → Prop) : Prop := ∃ x, w.cell? a = some x ∧ C x
def hasCells (w : World) (a : Addr) (cs : Array Value) : Prop := ∀ j v, cs.toList[j]? = some v → w.cell? (a.add j) = some v
def ldBig (w : World) (a : Addr) (n : Nat) (C : Array Value → Prop) : Prop := ∃ cs : Array Value, cs.size = n ∧ hasCells w a cs ∧ C cs
def stCell (w : World) (a : Addr) (v : Value) (C : World → Prop) : Prop := (∃ u, w.cell? a = some u) ∧ w.frozen? a = false ∧ v.oneCell' = true ∧ C (w.setCell a v)
def World.setCellsL (w : World) (a : Addr) : List Value → Nat → World
  | [], _ => w
  | v :: vs, i => World.setCellsL (w.setCell (a.add i) v) a vs (i + 1)
def stBig (P : Program) (t : TypeId) (w : World) (a : Addr) (cs : Array Value) (C : World → Prop) : Prop := ∃ w', (storeVar t a (.agg cs)).run P w = .ok () w' ∧ C w'
def RunV (P : Program) (s : Sem Value) (w : World) (C : Value → World → Prop) : Prop := ∃ v w', s.run P w = .ok v w' ∧ C v w'
def RunU (P : Program) (s : Sem Unit) (w : World) (C : World → Prop) : Prop := ∃ w', s.run P w = .ok () w' ∧ C w'
def stays (P : Program) (s : Sem Value) (v : Value) (w : World) : Prop := s.run P w = .ok v w
def RunR (P : Program) (s : Sem Value) (w : World) (C : Value → Prop) : Prop := ∃ v, s.run P w = .ok v w ∧ C v

/-! ### kinds -/
inductive CK where
  | int (k : IntKind) | bool | str | ptr | slice | map | raw
inductive TK where
  | c (c : CK) | a (cs : List CK)
inductive Kd where
  | one (c : CK) | agg (cs : List CK) | big (n : Nat) | tup (ts : List TK) | none
def ckOf (P : Program) (t : TypeId) : CK := match P.underlying t with
  | some (.int k) => .int k
  | some .bool => .bool
  | some .string => .str
  | some (.pointer _) => .ptr
  | some (.slice _) => .slice
  | some (.map _ _) => .map
  | _ => .raw
def cksOf (P : Program) : Nat → TypeId → Option (List CK)
  | 0, _ => Option.none
  | n + 1, t => match P.underlying t with
    | some (.struct fs) => fs.toList.foldr (fun f r => match cksOf P n f.type, r with | some a, some b => some (a ++ b) | _, _ => Option.none) (some [])
    | some (.array _ _) => Option.none
    | _ => some [ckOf P t]
def sizeT (P : Program) (t : TypeId) : Nat := match P.info? t with | some i => i.size | Option.none => 0
def tkOf (P : Program) (t : TypeId) : TK := match P.underlying t with
  | some (.struct _) => match cksOf P 6 t with | some cs => if cs.length ≤ 12 then .a cs else .c .raw | Option.none => .c .raw
  | _ => .c (ckOf P t)
def kdOf (P : Program) (t : TypeId) : Kd := match P.underlying t with
  | some (.struct _) => match cksOf P 6 t with | some cs => if cs.length ≤ 12 then .agg cs else .big (sizeT P t) | Option.none => .big (sizeT P t)
  | some (.array _ _) => .big (sizeT P t)
  | some (.tuple ts) => match ts.toList with | [] => .none | l => .tup (l.map (tkOf P))
  | _ => .one (ckOf P t)

/-! ### what is known of a value of a kind -/
def vInt (v : Value) (k : IntKind) (C : Int → Prop) : Prop := ∃ x, v = .int k x ∧ C x
def vBool (v : Value) (C : Bool → Prop) : Prop := ∃ x, v = .bool x ∧ C x
def vStr (v : Value) (C : ByteArray → Prop) : Prop := ∃ x, v = .string x ∧ C x
def vPtr (v : Value) (C : Option Addr → Prop) : Prop := ∃ x, v = .pointer x ∧ C x
def vSlice (v : Value) (C : Option Addr → Nat → Nat → Prop) : Prop := ∃ p n c, v = .slice p n c ∧ C p n c
def vMap (v : Value) (C : Option Nat → Prop) : Prop := ∃ x, v = .map x ∧ C x
def vArr (v : Value) (n : Nat) (C : Array Value → Prop) : Prop := ∃ cs : Array Value, v = .agg cs ∧ cs.size = n ∧ C cs
def ckGet (c : CK) (v : Value) (C : Value → Prop) : Prop := match c with
  | .int k => vInt v k fun x => C (.int k x)
  | .bool => vBool v fun x => C (.bool x)
  | .str => vStr v fun x => C (.string x)
  | .ptr => vPtr v fun x => C (.pointer x)
  | .slice => vSlice v fun p n c => C (.slice p n c)
  | .map => vMap v fun x => C (.map x)
  | .raw => C v
/-- cells of some kinds, each by its own variables -/
def cksEx : List CK → List Value → (List Value → Prop) → Prop
  | [], acc, C => C acc.reverse
  | .int k :: r, acc, C => ∃ x, cksEx r (.int k x :: acc) C
  | .bool :: r, acc, C => ∃ x, cksEx r (.bool x :: acc) C
  | .str :: r, acc, C => ∃ x, cksEx r (.string x :: acc) C
  | .ptr :: r, acc, C => ∃ x, cksEx r (.pointer x :: acc) C
  | .slice :: r, acc, C => ∃ p n c, cksEx r (.slice p n c :: acc) C
  | .map :: r, acc, C => ∃ x, cksEx r (.map x :: acc) C
  | .raw :: r, acc, C => ∃ x, cksEx r (x :: acc) C
/-- the parts of a tuple -/
def tksEx : List TK → List Value → (List Value → Prop) → Prop
  | [], acc, C => C acc.reverse
  | .c c :: r, acc, C => cksEx [c] [] fun l => match l with | [v] => tksEx r (v :: acc) C | _ => False
  | .a cs :: r, acc, C => cksEx cs [] fun l => tksEx r (.agg l.toArray :: acc) C
def kdGet (k : Kd) (v : Value) (C : Value → Prop) : Prop := match k with
  | .one c => ckGet c v C
  | .agg cs => cksEx cs [] fun l => v = .agg l.toArray ∧ C (.agg l.toArray)
  | .big n => vArr v n fun cs => C (.agg cs)
  | .tup ts => tksEx ts [] fun l => v = .tuple l.toArray ∧ C (.tuple l.toArray)
  | .none => C v

theorem ckGet_of {c : CK} {v : Value} {C : Value → Prop} (h : ckGet c v C) : C v := by
  cases c <;> simp only [ckGet, vInt, vBool, vStr, vPtr, vSlice, vMap] at h
  all_goals first | exact h | (obtain ⟨x, rfl, h⟩ := h; exact h) | (obtain ⟨p, n, c, rfl, h⟩ := h; exact h)
theorem cksEx_of : ∀ {ks : List CK} {acc : List Value} {C : List Value → Prop}, cksEx ks acc C → ∃ l, C l
  | [], _, _, h => ⟨_, h⟩
  | c :: r, acc, C, h => by
    cases c <;> simp only [cksEx] at h
    all_goals first | (obtain ⟨x, h⟩ := h; exact cksEx_of h) | (obtain ⟨p, n, c, h⟩ := h; exact cksEx_of h)
theorem tksEx_of : ∀ {ks : List TK} {acc : List Value} {C : List Value → Prop}, tksEx ks acc C → ∃ l, C l
  | [], _, _, h => ⟨_, h⟩
  | .c _ :: r, _, _, h => by
    obtain ⟨l, h⟩ := cksEx_of h
    match l, h with
    | [v], h => exact tksEx_of h
  | .a _ :: r, _, _, h => by
    obtain ⟨l, h⟩ := cksEx_of h
    exact tksEx_of h
theorem kdGet_of {k : Kd} {v : Value} {C : Value → Prop} (h : kdGet k v C) : C v := by
  cases k <;> simp only [kdGet] at h
  · exact ckGet_of h
  · obtain ⟨l, e, h'⟩ := cksEx_of h; rw [e]; exact h'
  · obtain ⟨cs, rfl, _, h⟩ := h; exact h
  · obtain ⟨l, e, h'⟩ := tksEx_of h; rw [e]; exact h'
  · exact h
end Go.Proofs.Ytboifenkbhfnfaa.V
