/- Working words over the conditions: blocks of memory, what stays, how loads and stores are met. -/
import Derived.Test.YtboifenkbhfnfaaVcE
import Derived.Maps.AppendAt
import Derived.IntWalk
set_option linter.all false
namespace Go.Proofs.Ytboifenkbhfnfaa.V
open Go

/-! ### small equations -/
theorem aadd_mk (b o k : Nat) : aadd ⟨b, o, none⟩ k = ⟨b, o + k, none⟩ := by
  unfold aadd Addr.add
  split
  · rename_i h; subst h; rfl
  · rfl
theorem nilCk_mk (a : Addr) (C : Addr → Prop) : nilCk (some a) C = C a := by
  unfold nilCk; simp
theorem nilCk_of {p : Option Addr} {a : Addr} (h : p = some a) (C : Addr → Prop) : nilCk p C = C a := by rw [h, nilCk_mk]
theorem nptr_eq (w : World) : nptr w = ⟨w.heap.size, 0, none⟩ := rfl
theorem ifB_t (A B : Prop) : ifB true A B = A := rfl
theorem ifB_f (A B : Prop) : ifB false A B = B := rfl
theorem ifB_of {b : Bool} {A B : Prop} (h : b = true → A) (k : b = false → B) : ifB b A B := by cases b; exact k rfl; exact h rfl
theorem vInt_mk (k : IntKind) (x : Int) (C : Int → Prop) : vInt (.int k x) k C = C x := by unfold vInt; simp
theorem vBool_mk (x : Bool) (C : Bool → Prop) : vBool (.bool x) C = C x := by unfold vBool; simp
theorem vStr_mk (x : ByteArray) (C : ByteArray → Prop) : vStr (.string x) C = C x := by unfold vStr; simp
theorem vPtr_mk (x : Option Addr) (C : Option Addr → Prop) : vPtr (.pointer x) C = C x := by unfold vPtr; simp
theorem vSlice_mk (p : Option Addr) (n c : Nat) (C : Option Addr → Nat → Nat → Prop) : vSlice (.slice p n c) C = C p n c := by
  unfold vSlice; apply propext; constructor
  · rintro ⟨_, _, _, h, hc⟩; cases h; exact hc
  · intro h; exact ⟨_, _, _, rfl, h⟩
theorem vMap_mk (x : Option Nat) (C : Option Nat → Prop) : vMap (.map x) C = C x := by unfold vMap; simp
theorem vArr_mk {n : Nat} {cs : Array Value} (h : cs.size = n) (C : Array Value → Prop) : vArr (.agg cs) n C = C cs := by unfold vArr; simp [h]
theorem wrap_i64 {x : Int} (h1 : -9223372036854775808 ≤ x) (h2 : x ≤ 9223372036854775807) : IntKind.i64.wrap x = x := IntWalk.i64_in x ⟨h1, h2⟩
theorem wrap_u64 {x : Int} (h1 : 0 ≤ x) (h2 : x ≤ 18446744073709551615) : IntKind.u64.wrap x = x := IntWalk.u64_in x ⟨h1, h2⟩
theorem iadd_i64 {x y : Int} (h1 : -9223372036854775808 ≤ x + y) (h2 : x + y ≤ 9223372036854775807) : iadd .i64 x y = x + y := wrap_i64 h1 h2
theorem isub_i64 {x y : Int} (h1 : -9223372036854775808 ≤ x - y) (h2 : x - y ≤ 9223372036854775807) : isub .i64 x y = x - y := wrap_i64 h1 h2
theorem imul_i64 {x y : Int} (h1 : -9223372036854775808 ≤ x * y) (h2 : x * y ≤ 9223372036854775807) : imul .i64 x y = x * y := wrap_i64 h1 h2

theorem nmul_nat (i k : Nat) : nmul (inat (i : Int)) k = i * k := rfl
theorem and_assoc' {a b c : Prop} : ((a ∧ b) ∧ c) = (a ∧ b ∧ c) := propext and_assoc
theorem true_and' {a : Prop} : (True ∧ a) = a := propext ⟨fun h => h.2, fun h => ⟨trivial, h⟩⟩
theorem isNil_some (a : Addr) : isNil (some a) = false := rfl
theorem isNil_none : isNil none = true := rfl
theorem bnot_eq (b : Bool) : bnot b = !b := rfl
theorem ilt_t {a b : Int} : (ilt a b = true) = (a < b) := by simp [ilt]
theorem ilt_f {a b : Int} : (ilt a b = false) = (b ≤ a) := by simp [ilt]
theorem ile_t {a b : Int} : (ile a b = true) = (a ≤ b) := by simp [ile]
theorem ile_f {a b : Int} : (ile a b = false) = (b < a) := by simp [ile]
theorem igt_t {a b : Int} : (igt a b = true) = (b < a) := by simp [igt]
theorem igt_f {a b : Int} : (igt a b = false) = (a ≤ b) := by simp [igt]
theorem ige_t {a b : Int} : (ige a b = true) = (b ≤ a) := by simp [ige]
theorem ige_f {a b : Int} : (ige a b = false) = (a < b) := by simp [ige]
theorem ieq_t {a b : Int} : (ieq a b = true) = (a = b) := by simp [ieq]
theorem ieq_f {a b : Int} : (ieq a b = false) = (a ≠ b) := by simp [ieq]
theorem ine_t {a b : Int} : (ine a b = true) = (a ≠ b) := by simp [ine]
theorem ine_f {a b : Int} : (ine a b = false) = (a = b) := by simp [ine]
theorem isNil_t {a : Option Addr} : (isNil a = true) = (a = none) := by simp [isNil]
theorem isNil_f {a : Option Addr} : (isNil a = false) = (a ≠ none) := by simp [isNil]; cases a <;> simp
/-! ### blocks -/
def Blk (w : World) (b : Nat) (cs : Array Value) (t : TypeId) : Prop := w.heap[b]? = some (.cells cs t (0, 0))
def MBlk (w : World) (b : Nat) (es : Array MapEntry) (clk : Nat) : Prop := w.heap[b]? = some (.map es clk)
theorem Blk.lt {w : World} {b : Nat} {cs : Array Value} {t : TypeId} (h : Blk w b cs t) : b < w.heap.size := (Array.getElem?_eq_some_iff.1 h).1
theorem MBlk.lt {w : World} {b : Nat} {es : Array MapEntry} {k : Nat} (h : MBlk w b es k) : b < w.heap.size := (Array.getElem?_eq_some_iff.1 h).1
theorem Blk.to {w : World} {b : Nat} {cs cs' : Array Value} {t : TypeId} (h : Blk w b cs t) (e : cs = cs') : Blk w b cs' t := e ▸ h
theorem Blk.cell {w : World} {b : Nat} {cs : Array Value} {t : TypeId} (h : Blk w b cs t) (o : Nat) : w.cell? ⟨b, o, none⟩ = cs[o]? := by
  unfold Blk at h; simp [World.cell?, h]
theorem Blk.frozen {w : World} {b : Nat} {cs : Array Value} {t : TypeId} (h : Blk w b cs t) (o : Nat) : w.frozen? ⟨b, o, none⟩ = false := by
  unfold Blk at h; simp [World.frozen?, h]
theorem heap_alloc (w : World) (o : Obj) (b : Nat) : (w.alloc o).heap[b]? = if b = w.heap.size then some o else w.heap[b]? := by
  show (w.heap.push o)[b]? = _
  rw [Array.getElem?_push]
theorem heap_drew (w : World) : w.drew.heap = w.heap := rfl
theorem size_drew (w : World) : w.drew.heap.size = w.heap.size := rfl
theorem size_alloc (w : World) (o : Obj) : (w.alloc o).heap.size = w.heap.size + 1 := Array.size_push ..
theorem size_setCell (w : World) (a : Addr) (v : Value) : (w.setCell a v).heap.size = w.heap.size := by simp [World.setCell]
theorem heap_setCell_ne (w : World) (a : Addr) (v : Value) {b : Nat} (h : b ≠ a.block) : (w.setCell a v).heap[b]? = w.heap[b]? := by
  simp only [World.setCell, Array.getElem?_modify]
  rw [if_neg (by omega)]
theorem Blk.new (w : World) (cs : Array Value) (t : TypeId) : Blk (w.alloc (.cells cs t)) w.heap.size cs t := by
  unfold Blk; rw [heap_alloc]; simp
theorem Blk.new' {w : World} {n : Nat} {cs : Array Value} {t : TypeId} (h : n = w.heap.size) : Blk (w.alloc (.cells cs t)) n cs t := h ▸ Blk.new w cs t
theorem Blk.alloc {w : World} {b : Nat} {cs : Array Value} {t : TypeId} (h : Blk w b cs t) (o : Obj) : Blk (w.alloc o) b cs t := by
  unfold Blk; rw [heap_alloc, if_neg (by have := h.lt; omega)]; exact h
theorem MBlk.alloc {w : World} {b : Nat} {es : Array MapEntry} {k : Nat} (h : MBlk w b es k) (o : Obj) : MBlk (w.alloc o) b es k := by
  unfold MBlk; rw [heap_alloc, if_neg (by have := h.lt; omega)]; exact h
theorem MBlk.new (w : World) (es : Array MapEntry) (k : Nat) : MBlk (w.alloc (.map es k)) w.heap.size es k := by
  unfold MBlk; rw [heap_alloc]; simp
theorem Blk.drew {w : World} {b : Nat} {cs : Array Value} {t : TypeId} (h : Blk w b cs t) : Blk w.drew b cs t := h
theorem MBlk.drew {w : World} {b : Nat} {es : Array MapEntry} {k : Nat} (h : MBlk w b es k) : MBlk w.drew b es k := h
theorem Blk.set {w : World} {b : Nat} {cs : Array Value} {t : TypeId} (h : Blk w b cs t) (o : Nat) (v : Value) : Blk (w.setCell ⟨b, o, none⟩ v) b (cs.setIfInBounds o v) t := by
  unfold Blk at *; simp [World.setCell, Array.getElem?_modify, h]
theorem Blk.set_ne {w : World} {b : Nat} {cs : Array Value} {t : TypeId} (h : Blk w b cs t) {c o : Nat} (hne : b ≠ c) (v : Value) : Blk (w.setCell ⟨c, o, none⟩ v) b cs t := by
  unfold Blk; rw [heap_setCell_ne w ⟨c, o, none⟩ v hne]; exact h
theorem MBlk.set {w : World} {b : Nat} {es : Array MapEntry} {k : Nat} (h : MBlk w b es k) (a : Addr) (v : Value) : MBlk (w.setCell a v) b es k := by
  unfold MBlk at *
  simp only [World.setCell, Array.getElem?_modify]
  split <;> simp_all
/-- what a call leaves: all that was there is as it was, but for the blocks of which S speaks -/
structure Kp (S : Nat → Prop) (w w' : World) : Prop where
  os : w'.os = w.os
  tape : w'.tape = w.tape
  output : w'.output = w.output
  size : w.heap.size ≤ w'.heap.size
  block : ∀ b, b < w.heap.size → ¬ S b → w'.heap[b]? = w.heap[b]?
theorem Kp.refl (S : Nat → Prop) (w : World) : Kp S w w := ⟨rfl, rfl, rfl, Nat.le_refl _, fun _ _ _ => rfl⟩
theorem Kp.trans {S : Nat → Prop} {a b c : World} (h : Kp S a b) (k : Kp S b c) : Kp S a c :=
  ⟨k.os.trans h.os, k.tape.trans h.tape, k.output.trans h.output, Nat.le_trans h.size k.size, fun i hi hs => (k.block i (Nat.lt_of_lt_of_le hi h.size) hs).trans (h.block i hi hs)⟩
theorem Kp.mono {S T : Nat → Prop} {a b : World} (h : Kp S a b) (hs : ∀ i, i < a.heap.size → S i → T i) : Kp T a b :=
  ⟨h.os, h.tape, h.output, h.size, fun i hi hn => h.block i hi fun hc => hn (hs i hi hc)⟩
theorem Kp.alloc {S : Nat → Prop} {a b : World} (h : Kp S a b) (o : Obj) : Kp S a (b.alloc o) :=
  h.trans ⟨rfl, rfl, rfl, by rw [size_alloc]; omega, fun i hi _ => by rw [heap_alloc, if_neg (by omega)]⟩
theorem Kp.drew {S : Nat → Prop} {a b : World} (h : Kp S a b) : Kp S a b.drew := ⟨h.os, h.tape, h.output, h.size, h.block⟩
theorem Kp.set {S : Nat → Prop} {a b : World} (h : Kp S a b) {c o : Nat} (hp : S c ∨ a.heap.size ≤ c) (v : Value) : Kp S a (b.setCell ⟨c, o, none⟩ v) :=
  ⟨h.os, h.tape, h.output, by rw [size_setCell]; exact h.size, fun i hi hn => by
    rw [heap_setCell_ne _ _ _ (fun e => by have e : i = c := e; subst e; exact hp.elim hn (fun h => by omega))]; exact h.block i hi hn⟩
theorem Kp.then {S T : Nat → Prop} {a b c : World} (h : Kp S a b) (k : Kp T b c) (hs : ∀ i, i < a.heap.size → T i → S i) : Kp S a c :=
  ⟨k.os.trans h.os, k.tape.trans h.tape, k.output.trans h.output, Nat.le_trans h.size k.size, fun i hi hn => (k.block i (Nat.lt_of_lt_of_le hi h.size) fun hc => hn (hs i hi hc)).trans (h.block i hi hn)⟩
theorem Kp.blk {S : Nat → Prop} {w w' : World} (h : Kp S w w') {b : Nat} {cs : Array Value} {t : TypeId} (hb : Blk w b cs t) (hn : ¬ S b) : Blk w' b cs t := (h.block b hb.lt hn).trans hb
theorem Kp.mblk {S : Nat → Prop} {w w' : World} (h : Kp S w w') {b : Nat} {es : Array MapEntry} {k : Nat} (hb : MBlk w b es k) (hn : ¬ S b) : MBlk w' b es k := (h.block b hb.lt hn).trans hb
abbrev Nil : Nat → Prop := fun _ => False
abbrev One (b : Nat) : Nat → Prop := fun i => i = b

/-! ### loads and stores at a block that is known -/
section
variable {w : World} {b o : Nat} {cs : Array Value} {t : TypeId}
theorem ldInt_b (h : Blk w b cs t) {k : IntKind} {x : Int} (hx : cs[o]? = some (.int k x)) {C : Int → Prop} (hc : C x) : ldInt w ⟨b, o, none⟩ k C := ⟨x, (h.cell o).trans hx, hc⟩
theorem ldBool_b (h : Blk w b cs t) {x : Bool} (hx : cs[o]? = some (.bool x)) {C : Bool → Prop} (hc : C x) : ldBool w ⟨b, o, none⟩ C := ⟨x, (h.cell o).trans hx, hc⟩
theorem ldStr_b (h : Blk w b cs t) {x : ByteArray} (hx : cs[o]? = some (.string x)) {C : ByteArray → Prop} (hc : C x) : ldStr w ⟨b, o, none⟩ C := ⟨x, (h.cell o).trans hx, hc⟩
theorem ldPtr_b (h : Blk w b cs t) {x : Option Addr} (hx : cs[o]? = some (.pointer x)) {C : Option Addr → Prop} (hc : C x) : ldPtr w ⟨b, o, none⟩ C := ⟨x, (h.cell o).trans hx, hc⟩
theorem ldSlice_b (h : Blk w b cs t) {p : Option Addr} {n c : Nat} (hx : cs[o]? = some (.slice p n c)) {C : Option Addr → Nat → Nat → Prop} (hc : C p n c) : ldSlice w ⟨b, o, none⟩ C := ⟨p, n, c, (h.cell o).trans hx, hc⟩
theorem ldMap_b (h : Blk w b cs t) {x : Option Nat} (hx : cs[o]? = some (.map x)) {C : Option Nat → Prop} (hc : C x) : ldMap w ⟨b, o, none⟩ C := ⟨x, (h.cell o).trans hx, hc⟩
theorem ldRaw_b (h : Blk w b cs t) {x : Value} (hx : cs[o]? = some x) {C : Value → Prop} (hc : C x) : ldRaw w ⟨b, o, none⟩ C := ⟨x, (h.cell o).trans hx, hc⟩
theorem hasCell_b (h : Blk w b cs t) {x : Value} (hx : cs[o]? = some x) : hasCell w ⟨b, o, none⟩ x := (h.cell o).trans hx
theorem stCell_b (h : Blk w b cs t) {v : Value} (hlt : o < cs.size) (hv : v.oneCell' = true) {C : World → Prop} (hc : C (w.setCell ⟨b, o, none⟩ v)) : stCell w ⟨b, o, none⟩ v C :=
  ⟨⟨cs[o], (h.cell o).trans (by simp [hlt])⟩, h.frozen o, hv, hc⟩
end
end Go.Proofs.Ytboifenkbhfnfaa.V
