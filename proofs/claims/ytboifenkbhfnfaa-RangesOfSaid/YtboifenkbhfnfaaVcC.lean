/- The verified condition generator: operations that read memory, write it, make it, or call; one operation's condition implies the model's own. -/
import Derived.Test.YtboifenkbhfnfaaVcB
set_option linter.all false
namespace Go.Proofs.Ytboifenkbhfnfaa.V
open Go

/-! ### the fence that asks nothing -/
def Fw (ro : Option Nat) : Fence := { fn := fun _ => True, depth := none, alive := false, round := ro }
def CallsR (P : Program) (f : FuncId) (args : Array Value) (w : World) (R : Value → World → Prop) : Prop :=
  Calls P f args w fun e w' => ∃ v, e = .returned v ∧ R v w'
theorem CallsR.mono {P : Program} {f : FuncId} {args : Array Value} {w : World} {R R' : Value → World → Prop} (h : CallsR P f args w R) (hr : ∀ v w', R v w' → R' v w') : CallsR P f args w R' :=
  Calls.mono h fun _ _ ⟨v, e, r⟩ => ⟨v, e, hr _ _ r⟩
theorem room_Fw (ro : Option Nat) (n : Nat) : (Fw ro).room n := fun _ h => by simp [Fw] at h
theorem callsIn_Fw {ro : Option Nat} {n : Nat} {P : Program} {f : FuncId} {args : Array Value} {w : World} {R : Ending → World → Prop} : CallsIn (Fw ro) n P f args w R ↔ Calls P f args w R :=
  callsIn_wide (n := n)
def RoundR (P : Program) (l : Nat) (f : FuncId) (tmps : Array Value) (assign body : Code) (w : World) (R : Ending → World → Prop) : Prop := RoundIn Fence.wide 0 P l f tmps assign body w R
theorem roundIn_Fw {ro : Option Nat} {n : Nat} {P : Program} {l : Nat} {f : FuncId} {tmps : Array Value} {assign body : Code} {w : World} {R : Ending → World → Prop} (h : RoundR P l f tmps assign body w R) :
    RoundIn (Fw ro) n P l f tmps assign body w R :=
  ⟨trivial, fun c cs _ => h.2 c cs (room_wide _)⟩

section
variable (P : Program)
/-! ### reads -/
def ldCk (c : CK) (w : World) (a : Addr) (C : Value → Prop) : Prop := match c with
  | .int k => ldInt w a k fun x => C (.int k x)
  | .bool => ldBool w a fun x => C (.bool x)
  | .str => ldStr w a fun x => C (.string x)
  | .ptr => ldPtr w a fun x => C (.pointer x)
  | .slice => ldSlice w a fun p n c => C (.slice p n c)
  | .map => ldMap w a fun x => C (.map x)
  | .raw => ldRaw w a fun x => C x
def ldCks (w : World) (a : Addr) : List CK → Nat → List Value → (List Value → Prop) → Prop
  | [], _, acc, C => C acc.reverse
  | c :: r, i, acc, C => ldCk c w (aadd a i) fun v => ldCks w a r (i + 1) (v :: acc) C
def hasL (w : World) (a : Addr) : List Value → Nat → Prop
  | [], _ => True
  | v :: r, i => hasCell w (aadd a i) v ∧ hasL w a r (i + 1)
def ldVC (P : Program) (t : TypeId) (x : Value) (w : World) (C : (World → Prop) → Value → Prop) : Prop := match x with
  | .pointer p => nilCk p fun a => match kdOf P t with
    | .one c => ldCk c w a fun v => C (fun w' => hasCell w' a v) v
    | .agg cs => onlyIf (decide (sizeT P t = cs.length)) (ldCks w a cs 0 [] fun l => C (fun w' => hasL w' a l 0) (.agg l.toArray))
    | .big n => ldBig w a n fun cs => C (fun w' => hasCells w' a cs) (.agg cs)
    | _ => False
  | _ => False

theorem ldCk_of {c : CK} {w : World} {a : Addr} {C : Value → Prop} (h : ldCk c w a C) : ∃ v, w.cell? a = some v ∧ C v := by
  cases c <;> simp only [ldCk, ldInt, ldBool, ldStr, ldPtr, ldSlice, ldMap, ldRaw] at h
  all_goals first | (obtain ⟨x, h⟩ := h; exact ⟨_, h⟩) | (obtain ⟨p, n, c, h⟩ := h; exact ⟨_, h⟩)
theorem ldCks_of {w : World} {a : Addr} : ∀ {ks : List CK} {i : Nat} {acc : List Value} {C : List Value → Prop}, ldCks w a ks i acc C →
    ∃ l : List Value, l.length = ks.length ∧ hasL w a l i ∧ C (acc.reverse ++ l)
  | [], _, acc, C, h => ⟨[], rfl, trivial, by simpa [ldCks] using h⟩
  | c :: r, i, acc, C, h => by
    obtain ⟨v, hv, h⟩ := ldCk_of h
    obtain ⟨l, hl, hh, hc⟩ := ldCks_of h
    exact ⟨v :: l, by simp [hl], ⟨hv, hh⟩, by simpa using hc⟩
theorem hasL_get {w : World} {a : Addr} : ∀ {l : List Value} {i : Nat}, hasL w a l i → ∀ j v, l[j]? = some v → w.cell? (a.add (i + j)) = some v
  | [], _, _, j, v, h => by simp at h
  | u :: l, i, h, 0, v, hj => by simp at hj; subst hj; exact h.1
  | u :: l, i, h, j + 1, v, hj => by
    have := hasL_get h.2 j v (by simpa using hj)
    rw [show i + (j + 1) = i + 1 + j from by omega]; exact this
theorem agg_run {P : Program} {t : TypeId} {w : World} (a : Addr) (cs : List Value) (hu : ∃ d, P.underlying t = some d ∧ ((∃ fs, d = .struct fs) ∨ (∃ n e, d = .array n e))) (hs : sizeT P t = cs.length)
    (h : ∀ j v, cs[j]? = some v → w.cell? (a.add j) = some v) : (Instr.loadAt t (.pointer (some a))).run P w = .ok (.agg cs.toArray) w := by
  obtain ⟨d, hu, hd⟩ := hu
  have hi := info_of_underlying hu
  have hl : (loadCells a cs.length).run P w = .ok cs.toArray w := run_loadCells_list w a cs h
  have hag : (isAgg t).run P w = .ok true w := by
    rcases hd with ⟨fs, rfl⟩ | ⟨n, e, rfl⟩ <;> simp [isAgg, run_underlying hu]
  simp [Instr.loadAt, Instr.sureAddr, loadVar, hag, sizeOf_run hi, hs, hl]
theorem one_run {P : Program} {t : TypeId} {w : World} {a : Addr} {v : Value} {c : CK} (hk : kdOf P t = .one c) (h : w.cell? a = some v) (hu : (P.underlying t).isSome = true) :
    (Instr.loadAt t (.pointer (some a))).run P w = .ok v w := by
  obtain ⟨d, hu⟩ := Option.isSome_iff_exists.1 hu
  have hag : (isAgg t).run P w = .ok false w := by
    unfold kdOf at hk
    rw [hu] at hk
    cases d <;> first | (simp [isAgg, run_underlying hu]; done) | (exfalso; simp only at hk; first | (split at hk <;> (try split at hk) <;> cases hk; done) | cases hk)
  simp [Instr.loadAt, Instr.sureAddr, loadVar, hag, h]
theorem ldVC_run {P : Program} {t : TypeId} {x : Value} {w : World} {C : (World → Prop) → Value → Prop} (hu : (P.underlying t).isSome = true) (h : ldVC P t x w C) :
    ∃ v S, S w ∧ (∀ w', S w' → (Instr.loadAt t x).run P w' = .ok v w') ∧ C S v := by
  obtain ⟨d, hd⟩ := Option.isSome_iff_exists.1 hu
  unfold ldVC at h
  split at h
  · obtain ⟨a, rfl, h⟩ := h
    split at h
    · rename_i c hk
      obtain ⟨v, hv, hc⟩ := ldCk_of h
      exact ⟨v, _, hv, fun w' hw' => one_run hk hw' hu, hc⟩
    · rename_i cs hk
      obtain ⟨hs, h⟩ := onlyIf_of h
      have hs := of_decide_eq_true hs
      obtain ⟨l, hl, hh, hc⟩ := ldCks_of h
      simp only [List.reverse_nil, List.nil_append] at hc
      refine ⟨_, _, hh, fun w' hw' => agg_run a l ⟨d, hd, ?_⟩ (by rw [hs, hl]) (fun j v hj => by simpa using hasL_get hw' j v hj), hc⟩
      unfold kdOf at hk
      rw [hd] at hk
      cases d <;> simp only at hk
      all_goals first | exact .inl ⟨_, rfl⟩ | exact .inr ⟨_, _, rfl⟩ | (exfalso; revert hk; first | (intro hk; cases hk) | (split <;> intro hk <;> cases hk))
    · rename_i n hk
      obtain ⟨cs, hn, hh, hc⟩ := h
      have hsz : sizeT P t = cs.toList.length := by
        unfold kdOf at hk
        rw [hd] at hk
        cases d <;> simp only at hk
        all_goals first
          | (split at hk <;> (try split at hk) <;> first | (cases hk; simpa using hn.symm) | (cases hk))
          | (cases hk; simpa using hn.symm)
          | cases hk
      have hsh : (∃ fs, d = .struct fs) ∨ (∃ n e, d = .array n e) := by
        unfold kdOf at hk
        rw [hd] at hk
        cases d <;> simp only at hk
        all_goals first | exact .inl ⟨_, rfl⟩ | exact .inr ⟨_, _, rfl⟩ | (exfalso; revert hk; first | (intro hk; cases hk) | (split <;> intro hk <;> cases hk))
      refine ⟨_, _, hh, fun w' hw' => ?_, hc⟩
      have := agg_run (P := P) (t := t) (w := w') a cs.toList ⟨d, hd, hsh⟩ hsz hw'
      simpa using this
    · exact h.elim
  · exact h.elim

def isIntT (P : Program) (t : TypeId) : Bool := match P.underlying t with | some (.int _) => true | _ => false
def isStrT (P : Program) (t : TypeId) : Bool := match P.underlying t with | some .string => true | _ => false
def isMapT (P : Program) (t : TypeId) : Bool := match P.underlying t with | some (.map _ _) => true | _ => false
def isSlcT (P : Program) (t : TypeId) : Bool := match P.underlying t with | some (.slice _) => true | _ => false
/-- inert: the world is neither asked nor turned -/
def isIn (P : Program) (op : Op) : Bool := match op with
  | .move _ | .assign _ | .pick .. | .nilCheck _ | .binOp .. | .unOp .. | .makeFunc .. | .slice .. | .fieldAddr .. | .field .. | .indexAddr .. | .index .. | .extract .. | .build .. => true
  | .convert s d _ => isIntT P s || (isStrT P s && isStrT P d)
  | .call c => match c.callee with
    | .builtin .len => !(isMapT P (c.argTypes.getD 0 0))
    | .builtin .cap => true
    | .builtin .max => true
    | .builtin .min => true
    | _ => false
  | _ => false
/-- reads: the world is asked, not turned -/
def isRd (P : Program) (op : Op) : Bool := match op with
  | .load .. => true
  | .lookup .. => true
  | .entry _ => true
  | .convert s d _ => isSlcT P s && isStrT P d
  | .call c => match c.callee with
    | .builtin .len => isMapT P (c.argTypes.getD 0 0)
    | _ => false
  | _ => false
def rdRun (P : Program) (s : Sem Value) (k : Kd) (w : World) (C : (World → Prop) → Value → Prop) : Prop := RunR P s w fun v => kdGet k v fun v => C (stays P s v) v
def rdVC (P : Program) (ρ : Operand → Value) (op : Op) (ty : TypeId) (w : World) (C : (World → Prop) → Value → Prop) : Prop := match op with
  | .load t x => onlyIf (P.underlying t).isSome (ldVC P t (ρ x) w C)
  | .lookup t m k ok => rdRun P (Instr.lookup t (ρ m) (ρ k) ok) (kdOf P ty) w C
  | .entry it => rdRun P (Instr.entry (ρ it)) (kdOf P ty) w C
  | .convert s d x => rdRun P (convert s d (ρ x)) (kdOf P ty) w C
  | .call c => match c.callee, c.args.toList.map ρ, c.argTypes.toList with
    | .builtin .len, [x], [t] => rdRun P (Builtin.len_ #[t] ty #[x]) (kdOf P ty) w C
    | _, _, _ => False
  | _ => False
theorem rdRun_of {P : Program} {s : Sem Value} {k : Kd} {w : World} {C : (World → Prop) → Value → Prop} (h : rdRun P s k w C) : ∃ v, s.run P w = .ok v w ∧ C (stays P s v) v := by
  obtain ⟨v, hv, h⟩ := h
  exact ⟨v, hv, kdGet_of (C := fun v => C (stays P s v) v) h⟩
theorem rdVC_run {P : Program} {ρ : Operand → Value} {o : Oper} {w : World} {C : (World → Prop) → Value → Prop} (h : rdVC P ρ o.op o.type w C) :
    ∃ v S, S w ∧ (∀ w', S w' → (execOp ρ o).run P w' = .ok (.value v) w') ∧ C S v := by
  obtain ⟨dst, op, ty, pos, after, guard⟩ := o
  unfold rdVC at h
  simp only at h
  split at h
  · obtain ⟨hu, h⟩ := onlyIf_of h
    obtain ⟨v, S, h1, h2, h3⟩ := ldVC_run hu h
    exact ⟨v, S, h1, fun w' hw' => by simp [execOp, h2 w' hw'], h3⟩
  · obtain ⟨v, h1, h3⟩ := rdRun_of h
    exact ⟨v, _, h1, fun w' hw' => by unfold stays at hw'; simp [execOp, hw'], h3⟩
  · obtain ⟨v, h1, h3⟩ := rdRun_of h
    exact ⟨v, _, h1, fun w' hw' => by unfold stays at hw'; simp [execOp, hw'], h3⟩
  · obtain ⟨v, h1, h3⟩ := rdRun_of h
    exact ⟨v, _, h1, fun w' hw' => by unfold stays at hw'; simp [execOp, hw'], h3⟩
  · rename_i c
    obtain ⟨cal, args, ts⟩ := c
    simp only at h
    split at h
    · rename_i x t ha ht
      have ha' : args.map ρ = #[x] := by apply Array.ext'; simpa using ha
      have ht' : ts = #[t] := by apply Array.ext'; simpa using ht
      obtain ⟨v, h1, h3⟩ := rdRun_of h
      exact ⟨v, _, h1, fun w' hw' => by unfold stays at hw'; simp [execOp, resolve, invoke, builtin, ha', ht', hw'], h3⟩
    · exact h.elim
  · exact h.elim

/-! ### writes, new memory, calls -/
def zcells (P : Program) (t : TypeId) : Array Value := match P.info? t with
  | some i => match i.zero with | some z => z.cells | none => #[]
  | none => #[]
def hasZero (P : Program) (t : TypeId) : Bool := match P.info? t with
  | some i => i.zero.isSome
  | none => false
def allocVC (P : Program) (t : TypeId) (w : World) (C : Value → World → Prop) : Prop := match P.info? t with
  | some i => match i.zero with
    | some z => if i.size ≤ 12 then C (.pointer (some (nptr w))) (w.alloc (.cells z.cells t)) else C (.pointer (some (nptr w))) (w.alloc (.cells (zcells P t) t))
    | none => False
  | none => False
def stL (w : World) (a : Addr) : List Value → Nat → (World → Prop) → Prop
  | [], _, C => C w
  | v :: r, i, C => stCell w (aadd a i) v fun w' => stL w' a r (i + 1) C
def stVC (P : Program) (t : TypeId) (x v : Value) (w : World) (C : World → Prop) : Prop := match x with
  | .pointer p => nilCk p fun a => match kdOf P t with
    | .one _ => onlyIf ((P.info? t).isSome && decide (sizeT P t = 1)) (stCell w a v C)
    | .agg _ => (match v with | .agg cs => onlyIf ((P.info? t).isSome && decide (sizeT P t = cs.size)) (stL w a cs.toList 0 C) | _ => False)
    | .big _ => (match v with | .agg cs => stBig P t w a cs C | _ => False)
    | _ => False
  | _ => False
def callable (P : Program) (n : FuncId) : Bool := match P.funcs[n]? with
  | some fn => fn.body.isSome && !(fn.name == "runtime.NumGoroutine")
  | none => false
def yldVC (P : Program) (l : Nat) (args : Array Value) (w : World) (C : Value → World → Prop) : Prop :=
  ∃ r, w.heap[l]? = some (.loop r) ∧ args.size = r.params.size ∧
    RoundR P l r.fn ((r.params.zip args).foldl (fun tmps (t, a) => tmps.setIfInBounds t a) r.tmps) r.assign r.body w fun e w' => ∃ v, e = .returned v ∧ C v w'
def callV (P : Program) (f : Value) (args : List Value) (w : World) (C : Value → World → Prop) : Prop := match f with
  | .func (.func n) first captured => onlyIf (callable P n) (CallsR P n (first.toList ++ args ++ captured.toList).toArray w C)
  | .func (.yield l) first _ => yldVC P l (first.toList ++ args).toArray w C
  | _ => False
def callVC (P : Program) (ρ : Operand → Value) (c : Call) (ty : TypeId) (w : World) (C : Value → World → Prop) : Prop := match c.callee with
  | .value (.func n) => onlyIf (callable P n) (CallsR P n (c.args.toList.map ρ).toArray w fun v w' => kdGet (kdOf P ty) v fun v => C v w')
  | .value f => callV P (ρ f) (c.args.toList.map ρ) w fun v w' => kdGet (kdOf P ty) v fun v => C v w'
  | .builtin .append => RunV P (Builtin.append_ c.argTypes ty (c.args.toList.map ρ).toArray) w fun v w' => kdGet (kdOf P ty) v fun v => C v w'
  | .builtin .copy => RunV P (Builtin.copy_ c.argTypes ty (c.args.toList.map ρ).toArray) w fun v w' => kdGet (kdOf P ty) v fun v => C v w'
  | .builtin .delete => RunV P (Builtin.delete_ c.argTypes ty (c.args.toList.map ρ).toArray) w fun v w' => C v w'
  | .builtin .clear => RunV P (Builtin.clear_ c.argTypes ty (c.args.toList.map ρ).toArray) w fun v w' => C v w'
  | _ => False
def bslVC (P : Program) (t : TypeId) (len : Nat) (parts : List (Nat × Value)) (w : World) (C : Value → World → Prop) : Prop := match P.underlying t with
  | some (.slice e) => match P.info? e with
    | some i => match i.zero with
      | some z => onlyIf (decide (len * i.size ≤ 1000)) (match Instr.fill (fun j => some (j * i.size, i.size)) ((Array.range (len * i.size)).map (z.cells[· % z.cells.size]!)) parts with
        | some cs => C (.slice (some (nptr w)) len len) (w.alloc (.cells cs e))
        | none => False)
      | none => False
    | none => False
  | _ => False
def wrVC (P : Program) (ρ : Operand → Value) (op : Op) (ty : TypeId) (w : World) (C : Value → World → Prop) : Prop := match op with
  | .alloc t => allocVC P t w C
  | .box t x => C (.pointer (some (nptr w))) (w.alloc (.cells (ρ x).cells t))
  | .buildSlice t n parts => bslVC P t n (parts.toList.map fun p => (p.1, ρ p.2)) w C
  | .store t x v => stVC P t (ρ x) (ρ v) w fun w' => C undef w'
  | .makeMap _ none => C (.map (some w.heap.size)) (w.alloc (.map #[] 0))
  | .makeSlice t l c => RunV P (Instr.makeSlice t (ρ l) (ρ c)) w fun v w' => kdGet (kdOf P ty) v fun v => C v w'
  | .mapUpdate t m k v => RunU P (Instr.mapUpdate t (ρ m) (ρ k) (ρ v)) w fun w' => C undef w'
  | .insert t m k v => RunU P (Instr.mapUpdate t (ρ m) (ρ k) (ρ v)) w fun w' => C undef w'
  | .convert s d x => RunV P (convert s d (ρ x)) w fun v w' => kdGet (kdOf P ty) v fun v => C v w'
  | .range t x => RunV P (Instr.range t (ρ x)) w fun v w' => C v w'
  | .next it s => RunV P (Instr.next (ρ it) s ty) w fun v w' => kdGet (kdOf P ty) v fun v => C v w'
  | .call c => callVC P ρ c ty w C
  | _ => False
/-- one operation -/
def opVC (P : Program) (ρ : Operand → Value) (op : Op) (ty : TypeId) (w : World) (C : Value → World → Prop) : Prop :=
  if isIn P op then inVC P ρ op fun v => C v w else if isRd P op then rdVC P ρ op ty w fun _ v => C v w else wrVC P ρ op ty w C

/-- what an operation's run comes to -/
def Goes (P : Program) (r : Result Next) (C : Value → World → Prop) : Prop := match r with
  | .ok (.value v) w => C v w
  | .ok .skip w => C undef w
  | .ok (.enter f args) w => CallsR P f args w C
  | .ok (.round l f tmps assign body) w => RoundR P l f tmps assign body w fun e w' => ∃ v, e = .returned v ∧ C v w'
  | _ => False
theorem goes_wpIn {P : Program} {ro : Option Nat} {n : Nat} {o : Oper} {a : Act} {w : World} {K : Act → World → Prop} {Q : Exit → Act → World → Prop} {C : Value → World → Prop}
    (hd : ∀ c, o.op ≠ .defer c) (h : Goes P ((execOp a.eval o).run P w) C) (hK : ∀ v w', C v w' → K (a.put o.dst v) w') : o.wpIn (Fw ro) n P a w K Q := by
  refine ⟨fun _ _ => trivial, ?_⟩
  rw [Oper.semAt_eq _ _ _ hd]
  revert h
  generalize (execOp a.eval o).run P w = r
  intro h
  cases r with
  | halt x w' => exact h.elim
  | ok x w' =>
    cases x <;> first | exact h.elim | skip
    case value v => exact hK _ _ h
    case skip => exact hK _ _ h
    case enter f args =>
      refine ⟨fun h => by simp [Fw] at h, callsIn_Fw.2 (Calls.mono h ?_)⟩
      rintro e w'' ⟨v, rfl, hc⟩
      exact hK _ _ hc
    case round l f tmps assign body =>
      refine ⟨fun h => by simp [Fw] at h, roundIn_Fw (RoundIn.mono h ?_)⟩
      rintro e w'' ⟨v, rfl, hc⟩
      exact hK _ _ hc
theorem Goes.mono {P : Program} {r : Result Next} {C C' : Value → World → Prop} (h : Goes P r C) (hc : ∀ v w, C v w → C' v w) : Goes P r C' := by
  cases r with
  | halt x w' => exact h.elim
  | ok x w' =>
    cases x <;> first | exact h.elim | skip
    case value v => exact hc _ _ h
    case skip => exact hc _ _ h
    case enter f args => exact CallsR.mono h hc
    case round l f tmps assign body => exact RoundIn.mono h fun e w' ⟨v, e1, h1⟩ => ⟨v, e1, hc _ _ h1⟩

theorem storeCells_stL {P : Program} {a : Addr} {C : World → Prop} : ∀ {l : List Value} {i : Nat} {w : World}, stL w a l i C → ∃ w', (storeCells a l i).run P w = .ok () w' ∧ C w'
  | [], _, w, h => ⟨w, by simp [storeCells], h⟩
  | v :: l, i, w, h => by
    obtain ⟨⟨u, hu⟩, hf, h1, h⟩ := h
    obtain ⟨w', h2, h3⟩ := storeCells_stL (P := P) h
    refine ⟨w', ?_, h3⟩
    unfold aadd at hu hf h2
    simp [storeCells, run_store P w (a.add i) v .plain h1, hu, hf, h2]
theorem stVC_run {P : Program} {t : TypeId} {x v : Value} {w : World} {C : World → Prop} (h : stVC P t x v w C) : ∃ w', (Instr.storeAt t x v).run P w = .ok () w' ∧ C w' := by
  unfold stVC at h
  split at h
  · obtain ⟨a, rfl, h⟩ := h
    split at h
    · obtain ⟨h0, h⟩ := onlyIf_of h
      simp only [Bool.and_eq_true, decide_eq_true_eq] at h0
      obtain ⟨⟨u, hu⟩, hf, h1, h⟩ := h
      refine ⟨_, ?_, h⟩
      have hc : v.cells = #[v] := by cases v <;> simp_all [Value.cells, Value.oneCell']
      have ha : a.add 0 = a := rfl
      simp [Instr.storeAt, Instr.sureAddr, storeVar, sizeOf_run h0.1, h0.2, hc, storeCells, ha, run_store P w a v .plain h1, hu, hf]
    · split at h
      · rename_i cs
        obtain ⟨h0, h⟩ := onlyIf_of h
        simp only [Bool.and_eq_true, decide_eq_true_eq] at h0
        obtain ⟨w', h2, h3⟩ := storeCells_stL (P := P) h
        exact ⟨w', by simp [Instr.storeAt, Instr.sureAddr, storeVar, sizeOf_run h0.1, h0.2, Value.cells, h2], h3⟩
      · exact h.elim
    · split at h
      · obtain ⟨w', h2, h3⟩ := h
        exact ⟨w', by simp [Instr.storeAt, Instr.sureAddr, h2], h3⟩
      · exact h.elim
    · exact h.elim
  · exact h.elim
theorem callable_run {P : Program} {n : FuncId} (h : callable P n = true) (args : Array Value) (w : World) : (callFunc n args).run P w = .ok (.enter n args) w := by
  unfold callable at h
  split at h
  · rename_i fn hfn
    simp only [Bool.and_eq_true, Bool.not_eq_true'] at h
    have hn : fn.body ≠ none := by intro hb; rw [hb] at h; simp at h
    have h2 : fn.name ≠ "runtime.NumGoroutine" := by simpa using h.2
    simp [callFunc, hfn, h2, hn]
  · simp at h
theorem callV_goes {P : Program} {f : Value} {args : List Value} {w : World} {C : Value → World → Prop} (h : callV P f args w C) :
    Goes P ((do let d ← Deferred.ofValue f args.toArray; invoke d.target d.args : Sem Next).run P w) C := by
  unfold callV at h
  split at h
  · rename_i n first captured
    obtain ⟨h0, h⟩ := onlyIf_of h
    have e : (first.toList ++ args ++ captured.toList).toArray = first ++ args.toArray ++ captured := by apply Array.ext'; simp
    rw [e] at h
    simp [Deferred.ofValue, invoke, callable_run h0, Goes]
    simpa using h
  · rename_i l first cap
    obtain ⟨r, hr, hs, h⟩ := h
    have e : (first.toList ++ args).toArray = first ++ args.toArray := by apply Array.ext'; simp
    rw [e] at hs h
    simp only [Deferred.ofValue, invoke, Sem.run_bind, Sem.run_pure, Result.andThen_ok, Instr.yield, Instr.getLoop]
    have hg : (getObj l).run P w = .ok (.loop r) w := by simp [getObj, Sem.run, hr]
    simp only [hg, Result.andThen_ok, Sem.run_pure, hs, ne_eq, not_true_eq_false, if_false]
    exact h
  · exact h.elim
theorem bslVC_run {P : Program} {t : TypeId} {len : Nat} {parts : List (Nat × Value)} {w : World} {C : Value → World → Prop} (h : bslVC P t len parts w C) :
    ∃ v w', (Instr.buildSlice t len parts.toArray).run P w = .ok v w' ∧ C v w' := by
  unfold bslVC at h
  split at h
  · rename_i e hu
    split at h
    · rename_i i hi
      split at h
      · rename_i z hz
        obtain ⟨h0, h⟩ := onlyIf_of h
        have h0 := of_decide_eq_true h0
        split at h
        · rename_i cs hf
          refine ⟨_, _, ?_, h⟩
          have hsz : (sizeOf e).run P w = .ok i.size w := by simp [sizeOf, typeInfo, hi]
          have hzr : (zeroValue e).run P w = .ok z w := by simp [zeroValue, typeInfo, hi, hz]
          have hbig : ¬ len * i.size > 2 ^ 24 := by omega
          by_cases h00 : len * i.size = 0
          · rw [h00] at hf
            simp only [Instr.buildSlice, Sem.run_bind, run_underlying hu, Result.andThen_ok, hsz, Sem.run_ite, Sem.run_pure, h00, if_true]
            have e1 : ∀ f : Nat → Value, (Array.range 0).map f = #[] := fun _ => by simp
            rw [e1] at hf ⊢
            rw [hf]
            rfl
          · simp only [Instr.buildSlice, Sem.run_bind, run_underlying hu, Result.andThen_ok, hsz, Sem.run_ite, hbig, if_false, Sem.run_pure, h00, hzr]
            rw [hf]
            rfl
        · exact h.elim
      · exact h.elim
    · exact h.elim
  · exact h.elim

theorem callVC_goes {P : Program} {ρ : Operand → Value} {c : Call} {dst : Option Tmp} {ty : TypeId} {pos : String} {after : Array Edge} {guard : Option (Nat × Bool)} {w : World} {C : Value → World → Prop}
    (hf : ∀ n, ρ (.func n) = .func (.func n) #[] #[]) (h : callVC P ρ c ty w C) : Goes P ((execOp ρ ⟨dst, .call c, ty, pos, after, guard⟩).run P w) C := by
  obtain ⟨cal, args, ts⟩ := c
  have ea : (args.toList.map ρ).toArray = args.map ρ := by apply Array.ext'; simp
  unfold callVC at h
  simp only at h
  split at h
  · rename_i n
    obtain ⟨h0, h⟩ := onlyIf_of h
    rw [ea] at h
    simp [execOp, resolve, hf, Deferred.ofValue, invoke, callable_run h0, Goes]
    exact CallsR.mono h fun v w' hv => kdGet_of hv
  · rename_i f hn
    have := callV_goes h
    rw [ea] at this
    refine Goes.mono (C := fun v w' => kdGet (kdOf P ty) v fun v => C v w') ?_ fun v w' hv => kdGet_of hv
    simpa [execOp, resolve] using this
  · obtain ⟨v, w', hr, h⟩ := h
    rw [ea] at hr
    simp only [execOp, resolve, Sem.run_bind, Sem.run_pure, Result.andThen_ok, invoke, builtin, hr, Goes]
    exact kdGet_of h
  · obtain ⟨v, w', hr, h⟩ := h
    rw [ea] at hr
    simp only [execOp, resolve, Sem.run_bind, Sem.run_pure, Result.andThen_ok, invoke, builtin, hr, Goes]
    exact kdGet_of h
  · obtain ⟨v, w', hr, h⟩ := h
    rw [ea] at hr
    simp only [execOp, resolve, Sem.run_bind, Sem.run_pure, Result.andThen_ok, invoke, builtin, hr, Goes]
    exact h
  · obtain ⟨v, w', hr, h⟩ := h
    rw [ea] at hr
    simp only [execOp, resolve, Sem.run_bind, Sem.run_pure, Result.andThen_ok, invoke, builtin, hr, Goes]
    exact h
  · exact h.elim

theorem wrVC_goes {P : Program} {ρ : Operand → Value} {o : Oper} {w : World} {C : Value → World → Prop} (hf : ∀ n, ρ (.func n) = .func (.func n) #[] #[])
    (h : wrVC P ρ o.op o.type w C) : Goes P ((execOp ρ o).run P w) C := by
  obtain ⟨dst, op, ty, pos, after, guard⟩ := o
  unfold wrVC at h
  simp only at h
  split at h
  · rename_i t
    unfold allocVC at h
    split at h
    · rename_i i hi
      split at h
      · rename_i z hz
        have hc : C (.pointer (some (nptr w))) (w.alloc (.cells z.cells t)) := by
          split at h
          · exact h
          · have e : zcells P t = z.cells := by simp [zcells, hi, hz]
            rw [e] at h; exact h
        simp only [execOp, Instr.alloc, zeroValue, typeInfo, Sem.run_bind, run_program, Result.andThen_ok, hi, Sem.run_pure, hz, newVar, newRow, run_newObj]
        exact hc
      · exact h.elim
    · exact h.elim
  · simp only [execOp, Instr.box, Sem.run_bind, Result.andThen_ok, Sem.run_pure, newVar, newRow, run_newObj]
    exact h
  · rename_i t n parts
    obtain ⟨v, w', hr, hc⟩ := bslVC_run h
    have e : (parts.toList.map fun p => (p.1, ρ p.2)).toArray = parts.map fun (i, x) => (i, ρ x) := by
      apply Array.ext'; simp
    rw [e] at hr
    simp only [execOp]
    rw [Sem.run_bind, hr]
    exact hc
  · obtain ⟨w', hr, hc⟩ := stVC_run h
    simp only [execOp]
    rw [Sem.run_bind, hr]
    exact hc
  · simp only [execOp, Instr.makeMap, Option.map_none, Sem.run_bind, Result.andThen_ok, Sem.run_pure, run_newObj]
    exact h
  · obtain ⟨v, w', hr, hc⟩ := h
    simp only [execOp]
    rw [Sem.run_bind, hr]
    exact kdGet_of hc
  · obtain ⟨w', hr, hc⟩ := h
    simp only [execOp]
    rw [Sem.run_bind, hr]
    exact hc
  · obtain ⟨w', hr, hc⟩ := h
    simp only [execOp]
    rw [Sem.run_bind, hr]
    exact hc
  · obtain ⟨v, w', hr, hc⟩ := h
    simp only [execOp]
    rw [Sem.run_bind, hr]
    exact kdGet_of hc
  · obtain ⟨v, w', hr, hc⟩ := h
    simp only [execOp]
    rw [Sem.run_bind, hr]
    exact hc
  · obtain ⟨v, w', hr, hc⟩ := h
    simp only [execOp]
    rw [Sem.run_bind, hr]
    exact kdGet_of hc
  · exact callVC_goes hf h
  · exact h.elim

theorem opVC_goes {P : Program} {ρ : Operand → Value} {o : Oper} {w : World} {C : Value → World → Prop} (hf : ∀ n, ρ (.func n) = .func (.func n) #[] #[])
    (h : opVC P ρ o.op o.type w C) : Goes P ((execOp ρ o).run P w) C := by
  unfold opVC at h
  split at h
  · obtain ⟨v, hr, hc⟩ := inVC_run h
    rw [hr w]; exact hc
  · split at h
    · obtain ⟨v, S, hS, hr, hc⟩ := rdVC_run h
      rw [hr w hS]; exact hc
    · exact wrVC_goes hf h
theorem opVC_noDefer {P : Program} {ρ : Operand → Value} {op : Op} {ty : TypeId} {w : World} {C : Value → World → Prop} (h : opVC P ρ op ty w C) : ∀ c, op ≠ .defer c := by
  rintro c rfl
  simp [opVC, isIn, isRd, wrVC] at h
end
end Go.Proofs.Ytboifenkbhfnfaa.V
