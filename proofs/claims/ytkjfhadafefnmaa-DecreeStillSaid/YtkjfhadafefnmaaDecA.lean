/- decree: what a Decree is, in plain words, and how it lies in memory. -/
import Derived.Test.YtkjfhadafefnmaaProp
import Derived.Test.YtkjfhadafefnmaaMap
import Derived.Test.YtkjfhadafefnmaaRow
set_option linter.all false
namespace Go.Proofs.Ytkjfhadafefnmaa
open Go
set_option linter.unusedSimpArgs false
structure SlotS where
  pr : Int
  ba : Int
  va : ByteArray
structure LetS where
  kind : Int
  sender : Nat
  to : Nat
  ballot : Int
  acc : Int
  val : ByteArray
structure HeldS where
  who : Nat
  val : ByteArray
structure DecS where
  slots : List SlotS
  props : List (Int × PropS)
  letters : List LetS
  begun : List ByteArray
  chosen : List ByteArray
  taken : List (Int × HeldS)
abbrev SlotS.cells (s : SlotS) : List Value := [.int .i64 s.pr, .int .i64 s.ba, .string s.va]
abbrev LetS.cells (x : LetS) : List Value := [.int .i64 x.kind, .int .i64 x.sender, .int .i64 x.to, .int .i64 x.ballot, .int .i64 x.acc, .string x.val]
abbrev LetS.val' (x : LetS) : Value := .agg #[.int .i64 x.kind, .int .i64 x.sender, .int .i64 x.to, .int .i64 x.ballot, .int .i64 x.acc, .string x.val]
abbrev HeldS.v (h : HeldS) : Value := .agg #[.int .u64 h.who, .string h.val]
abbrev strV (s : ByteArray) : Value := .string s
inductive Role where
  | free | dec | slots | props | letters | begun | chosen | taken
  | prop (b : Int)
/-- where the parts lie, and to what part each block belongs -/
structure Gh where
  own : Nat → Role
  bs : Nat
  mp : Nat
  mt : Nat
  lp : Option Addr
  lc : Nat
  bp : Option Addr
  bc : Nat
  cp : Option Addr
  cc : Nat
  pat : Int → Nat
abbrev ptrV (b : Nat) : Value := .pointer (some ⟨b, 0, none⟩)
abbrev decT : Nat := 43
abbrev letT : Nat := 48
abbrev slotT : Nat := 34
abbrev strT : Nat := 9
abbrev intT : Nat := 3
abbrev Gh.cells (g : Gh) (S : DecS) : Array Value := #[.slice (some ⟨g.bs, 0, none⟩) S.slots.length S.slots.length, .map (some g.mp), .slice g.lp S.letters.length g.lc, .slice g.bp S.begun.length g.bc, .slice g.cp S.chosen.length g.cc, .map (some g.mt)]
structure Rep (g : Gh) (w : World) (d : Nat) (S : DecS) : Prop where
  lo : ∀ k, g.own k ≠ .free → k < w.heap.size
  dec : V.Blk w d (g.cells S) decT
  odec : g.own d = .dec
  slots : V.Blk w g.bs (S.slots.flatMap SlotS.cells).toArray slotT
  oslots : g.own g.bs = .slots
  props : V.MapI Try.prog intT w g.mp (S.props.map fun p => (p.1, ptrV (g.pat p.1)))
  oprops : g.own g.mp = .props
  prop : ∀ p ∈ S.props, V.Blk w (g.pat p.1) p.2.cells propT
  oprop : ∀ p ∈ S.props, g.own (g.pat p.1) = .prop p.1
  letters : V.Row w letT 6 g.lp S.letters.length g.lc (S.letters.flatMap LetS.cells)
  oletters : ∀ k, V.blk? g.lp = some k → g.own k = .letters
  begun : V.Row w strT 1 g.bp S.begun.length g.bc (S.begun.map strV)
  obegun : ∀ k, V.blk? g.bp = some k → g.own k = .begun
  chosen : V.Row w strT 1 g.cp S.chosen.length g.cc (S.chosen.map strV)
  ochosen : ∀ k, V.blk? g.cp = some k → g.own k = .chosen
  taken : V.MapI Try.prog intT w g.mt (S.taken.map fun p => (p.1, p.2.v))
  otaken : g.own g.mt = .taken
/-- from world w with ghosts g to w' with g': what was free stays as it was, and stays free -/
structure Stp (g g' : Gh) (w w' : World) : Prop where
  kp : V.Kp (fun k => g.own k ≠ .free) w w'
  keep : ∀ k, k < w.heap.size → g.own k = .free → g'.own k = .free
theorem Stp.refl (g : Gh) (w : World) : Stp g g w w := ⟨V.Kp.refl _ _, fun _ _ h => h⟩
theorem Stp.trans {g g' g'' : Gh} {w w' w'' : World} (h : Stp g g' w w') (k : Stp g' g'' w' w'') : Stp g g'' w w'' :=
  ⟨V.Kp.then h.kp k.kp fun i hi hn hf => hn (h.keep i hi hf), fun i hi hf => k.keep i (Nat.lt_of_lt_of_le hi h.kp.size) (h.keep i hi hf)⟩
theorem Stp.free {g g' : Gh} {w w' : World} (h : Stp g g' w w') {b : Nat} {cs : Array Value} {t : TypeId} (hb : V.Blk w b cs t) (hf : g.own b = .free) : V.Blk w' b cs t ∧ g'.own b = .free :=
  ⟨V.Kp.blk h.kp hb (fun hn => hn hf), h.keep b hb.lt hf⟩
section
variable {g : Gh} {w w' : World} {d : Nat} {S : DecS}
theorem Rep.frame (h : Rep g w d S) (hs : ∀ k, g.own k ≠ .free → w'.heap[k]? = w.heap[k]?) (hz : w.heap.size ≤ w'.heap.size) : Rep g w' d S where
  lo k hk := Nat.lt_of_lt_of_le (h.lo k hk) hz
  dec := (hs d (by rw [h.odec]; nofun)).trans h.dec
  odec := h.odec
  slots := (hs g.bs (by rw [h.oslots]; nofun)).trans h.slots
  oslots := h.oslots
  props := h.props.same (hs g.mp (by rw [h.oprops]; nofun))
  oprops := h.oprops
  prop p hp := (hs (g.pat p.1) (by rw [h.oprop p hp]; nofun)).trans (h.prop p hp)
  oprop := h.oprop
  letters := h.letters.same fun k hk => hs k (by rw [h.oletters k hk]; nofun)
  oletters := h.oletters
  begun := h.begun.same fun k hk => hs k (by rw [h.obegun k hk]; nofun)
  obegun := h.obegun
  chosen := h.chosen.same fun k hk => hs k (by rw [h.ochosen k hk]; nofun)
  ochosen := h.ochosen
  taken := h.taken.same (hs g.mt (by rw [h.otaken]; nofun))
  otaken := h.otaken
theorem Rep.alloc (h : Rep g w d S) (o : Obj) : Rep g (w.alloc o) d S :=
  h.frame (fun k hk => by rw [V.heap_alloc, if_neg (by have := h.lo k hk; omega)]) (by rw [V.size_alloc]; omega)
theorem Rep.drew (h : Rep g w d S) : Rep g w.drew d S := h.frame (fun _ _ => rfl) (Nat.le_refl _)
theorem Rep.set (h : Rep g w d S) {c o : Nat} (hc : g.own c = .free) (v : Value) : Rep g (w.setCell ⟨c, o, none⟩ v) d S :=
  h.frame (fun k hk => V.heap_setCell_ne _ _ _ (fun e => hk (by have e : k = c := e; rw [e]; exact hc))) (by rw [V.size_setCell]; omega)
theorem Rep.kp (h : Rep g w d S) {F : Nat → Prop} (hk : V.Kp F w w') (hF : ∀ k, F k → g.own k = .free) : Rep g w' d S :=
  h.frame (fun k hn => hk.block k (h.lo k hn) (fun hc => hn (hF k hc))) hk.size
theorem Rep.fresh (h : Rep g w d S) {k : Nat} (hk : w.heap.size ≤ k) : g.own k = .free := by
  cases hf : g.own k <;> first | rfl | (exact absurd (h.lo k (by rw [hf]; nofun)) (by omega))
def Gh.withLetters (g : Gh) (p : Option Addr) (c : Nat) : Gh := { g with lp := p, lc := c, own := fun k => if V.blk? p = some k then .letters else g.own k }
def Gh.withBegun (g : Gh) (p : Option Addr) (c : Nat) : Gh := { g with bp := p, bc := c, own := fun k => if V.blk? p = some k then .begun else g.own k }
def Gh.withChosen (g : Gh) (p : Option Addr) (c : Nat) : Gh := { g with cp := p, cc := c, own := fun k => if V.blk? p = some k then .chosen else g.own k }
def Gh.withProp (g : Gh) (b : Int) (q : Nat) : Gh := { g with pat := fun x => if x = b then q else g.pat x, own := fun k => if k = q then .prop b else g.own k }
/-- the letters' slice has been made anew -/
theorem Rep.setLetters (h : Rep g w d S) {l : List LetS} {p : Option Addr} {c : Nat} (hk : V.Kp (fun k => V.blk? g.lp = some k) w w') (hr : V.Row w' letT 6 p l.length c (l.flatMap LetS.cells)) (hat : V.blk? p = V.blk? g.lp ∨ V.blk? p = some w.heap.size) :
    Rep (g.withLetters p c) (w'.setCell ⟨d, 2, none⟩ (.slice p l.length c)) d { S with letters := l } ∧ Stp g (g.withLetters p c) w (w'.setCell ⟨d, 2, none⟩ (.slice p l.length c)) := by
  have hp : ∀ k, V.blk? p = some k → g.own k = .letters ∨ (g.own k = .free ∧ k = w.heap.size) := fun k hk => by
    rcases hat with e | e
    · exact .inl (h.oletters k (e ▸ hk))
    · rw [e] at hk; cases hk; exact .inr ⟨h.fresh (Nat.le_refl _), rfl⟩
  have hne : ∀ k, g.own k ≠ .free → g.own k ≠ .letters → ¬ V.blk? p = some k := fun k h1 h2 e => (hp k e).elim h2 (fun x => h1 x.1)
  have ho : ∀ k, g.own k ≠ .free → g.own k ≠ .letters → (g.withLetters p c).own k = g.own k := fun k h1 h2 => by simp only [Gh.withLetters]; rw [if_neg (hne k h1 h2)]
  have st : ∀ k, g.own k ≠ .free → g.own k ≠ .letters → g.own k ≠ .dec → (w'.setCell ⟨d, 2, none⟩ (.slice p l.length c)).heap[k]? = w.heap[k]? := fun k h1 h2 h3 => by
    rw [V.heap_setCell_ne _ _ _ (fun e => h3 (by have e : k = d := e; rw [e]; exact h.odec))]
    exact hk.block k (h.lo k h1) (fun e => h2 (h.oletters k e))
  have hd : V.Blk w' d (g.cells S) decT := V.Kp.blk hk h.dec (fun e => by have := h.oletters d e; rw [h.odec] at this; cases this)
  refine ⟨⟨fun k hf => ?_, ?_, ?_, ?_, ?_, ?_, ?_, fun p hp => ?_, fun p hp => ?_, ?_, ?_, ?_, ?_, ?_, ?_, ?_, ?_⟩, ⟨?_, fun k hk' hf => ?_⟩⟩
  · rw [V.size_setCell]
    simp only [Gh.withLetters] at hf
    split at hf
    · rename_i e; exact hr.lt k e
    · exact Nat.lt_of_lt_of_le (h.lo k hf) hk.size
  · (with_reducible apply V.Blk.to); (· repeat (first | with_reducible assumption | ((with_reducible apply V.Blk.new'); first | with_reducible rfl | (simp only [V.size_alloc, V.size_drew, V.size_setCell]; done)) | with_reducible apply V.Blk.set | ((with_reducible apply V.Blk.set_ne); (case hne => (try simp only [ne_eq]); omega)) | with_reducible apply V.Blk.alloc | with_reducible apply V.Blk.drew)); (· rfl)
  · rw [ho d (by rw [h.odec]; nofun) (by rw [h.odec]; nofun)]; exact h.odec
  · exact (st g.bs (by rw [h.oslots]; nofun) (by rw [h.oslots]; nofun) (by rw [h.oslots]; nofun)).trans h.slots
  · exact (ho g.bs (by rw [h.oslots]; nofun) (by rw [h.oslots]; nofun)).trans h.oslots
  · exact h.props.same (st g.mp (by rw [h.oprops]; nofun) (by rw [h.oprops]; nofun) (by rw [h.oprops]; nofun))
  · exact (ho g.mp (by rw [h.oprops]; nofun) (by rw [h.oprops]; nofun)).trans h.oprops
  · exact (st (g.pat p.1) (by rw [h.oprop p hp]; nofun) (by rw [h.oprop p hp]; nofun) (by rw [h.oprop p hp]; nofun)).trans (h.prop p hp)
  · exact (ho (g.pat p.1) (by rw [h.oprop p hp]; nofun) (by rw [h.oprop p hp]; nofun)).trans (h.oprop p hp)
  · exact hr.same fun k e => V.heap_setCell_ne _ _ _ (fun e' => by
      have e' : k = d := e'; subst e'
      rcases hp k e with x | x
      · rw [h.odec] at x; cases x
      · rw [h.odec] at x; cases x.1)
  · intro k e; simp only [Gh.withLetters] at e ⊢; rw [if_pos e]
  · exact h.begun.same fun k e => st k (by rw [h.obegun k e]; nofun) (by rw [h.obegun k e]; nofun) (by rw [h.obegun k e]; nofun)
  · exact fun k e => (ho k (by rw [h.obegun k e]; nofun) (by rw [h.obegun k e]; nofun)).trans (h.obegun k e)
  · exact h.chosen.same fun k e => st k (by rw [h.ochosen k e]; nofun) (by rw [h.ochosen k e]; nofun) (by rw [h.ochosen k e]; nofun)
  · exact fun k e => (ho k (by rw [h.ochosen k e]; nofun) (by rw [h.ochosen k e]; nofun)).trans (h.ochosen k e)
  · exact h.taken.same (st g.mt (by rw [h.otaken]; nofun) (by rw [h.otaken]; nofun) (by rw [h.otaken]; nofun))
  · exact (ho g.mt (by rw [h.otaken]; nofun) (by rw [h.otaken]; nofun)).trans h.otaken
  · refine V.Kp.set (V.Kp.mono hk fun i _ e => ?_) (.inl ?_) _
    · rw [h.oletters i e]; nofun
    · rw [h.odec]; nofun
  · simp only [Gh.withLetters]
    rw [if_neg]
    · exact hf
    · intro e
      rcases hp k e with x | x
      · rw [hf] at x; cases x
      · omega
end
end Go.Proofs.Ytkjfhadafefnmaa
