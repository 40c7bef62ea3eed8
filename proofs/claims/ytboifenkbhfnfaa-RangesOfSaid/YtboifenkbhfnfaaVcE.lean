/- The verified condition generator, code and functions: loops by an invariant over the slots that live across a round. -/
import Derived.Test.YtboifenkbhfnfaaVcD
import Derived.RangeFuncRecord
set_option linter.all false
namespace Go.Proofs.Ytboifenkbhfnfaa.V
open Go

/-! ### what a loop carries -/
def wrs : Code → List (Nat × TypeId)
  | .region _ ops _ => ops.toList.filterMap fun o => o.dst.map fun d => (d, o.type)
  | .seq a b => wrs a ++ wrs b
  | .cond _ a b => wrs a ++ wrs b
  | .block _ b => wrs b
  | .loop b => wrs b
  | .scope b => wrs b
  | _ => []
def noRF : Code → Bool
  | .seq a b => noRF a && noRF b
  | .cond _ a b => noRF a && noRF b
  | .block _ b => noRF b
  | .loop b => noRF b
  | .scope b => noRF b
  | .rangeFunc .. => false
  | _ => true
def union (a b : List Nat) : List Nat := b.foldl (fun r x => if r.contains x then r else r ++ [x]) a
def tmpsOf (xs : Array Operand) : List Nat := xs.toList.filterMap fun | .tmp t => some t | _ => none
def liveR : List Oper → List Nat → List Nat
  | [], L => L
  | o :: r, L => union (tmpsOf o.op.operands) ((liveR r L).filter fun x => o.dst != some x)
abbrev Env := List (Nat × List Nat)
def live (Rs : List Nat) : Code → Env → List Nat → List Nat
  | .region _ ops _, _, L => liveR ops.toList L
  | .seq a b, E, L => live Rs a E (live Rs b E L)
  | .cond c x y, E, L => union (tmpsOf #[c]) (union (live Rs x E L) (live Rs y E L))
  | .block id c, E, L => live Rs c ((id, L) :: E) L
  | .loop c, E, _ => live Rs c E []
  | .scope c, E, L => live Rs c E L
  | .exit id, E, _ => ((E.find? fun e => e.1 == id).map (·.2)).getD []
  | .ret, _, _ => Rs
  | .rangeFunc f _ as bd, E, L => union (tmpsOf #[f]) (union L (live Rs as E (live Rs bd E [])))
  | _, _, L => L
def slotsOf (P : Program) (H : List Nat) : List (Nat × TypeId) → List (Nat × Kd)
  | [] => []
  | (s, t) :: r => if H.contains s && !((slotsOf P H r).any fun x => x.1 == s) then (s, kdOf P t) :: slotsOf P H r else slotsOf P H r

/-! ### invariants over typed slots -/
def AtT (c : CK) (T : Type) : Type := match c with
  | .int _ => Int → T
  | .bool => Bool → T
  | .str => ByteArray → T
  | .ptr => Option Addr → T
  | .slice => Option Addr → Nat → Nat → T
  | .map => Option Nat → T
  | .raw => Value → T
def CksT : List CK → Type → Type
  | [], T => T
  | c :: r, T => AtT c (CksT r T)
def KdT (k : Kd) (T : Type) : Type := match k with
  | .one c => AtT c T
  | .agg cs => CksT cs T
  | .big _ => Array Value → T
  | .tup _ => Value → T
  | .none => Value → T
def InvT : List (Nat × Kd) → Type → Type
  | [], T => T
  | (_, k) :: r, T => KdT k (InvT r T)

/-- the invariant at a value: false where the value is of another kind -/
def atAp {T : Type} (c : CK) (f : AtT c T) (v : Value) (C : T → Prop) : Prop := match c, f, v with
  | .int k, f, .int k' x => onlyIf (decide (k = k')) (C (f x))
  | .bool, f, .bool x => C (f x)
  | .str, f, .string x => C (f x)
  | .ptr, f, .pointer x => C (f x)
  | .slice, f, .slice p n c => C (f p n c)
  | .map, f, .map x => C (f x)
  | .raw, f, v => C (f v)
  | _, _, _ => False
def cksAp {T : Type} : (cs : List CK) → CksT cs T → List Value → (T → Prop) → Prop
  | [], f, [], C => C f
  | c :: r, f, v :: vs, C => atAp c f v fun g => cksAp r g vs C
  | _, _, _, _ => False
def kdAp {T : Type} (k : Kd) (f : KdT k T) (v : Value) (C : T → Prop) : Prop := match k, f, v with
  | .one c, f, v => atAp c f v C
  | .agg cs, f, .agg vs => cksAp cs f vs.toList C
  | .big _, f, .agg vs => C (f vs)
  | .tup _, f, v => C (f v)
  | .none, f, v => C (f v)
  | _, _, _ => False
def invAp {T : Type} : (ss : List (Nat × Kd)) → InvT ss T → Act → (T → Prop) → Prop
  | [], f, _, C => C f
  | (s, k) :: r, f, a, C => kdAp k f (a.tmps.getD s undef) fun g => invAp r g a C

/-- for all values of the kinds -/
def atAll {T : Type} (c : CK) (f : AtT c T) (G : Value → T → Prop) : Prop := match c, f with
  | .int k, f => ∀ x : Int, G (.int k x) (f x)
  | .bool, f => ∀ x : Bool, G (.bool x) (f x)
  | .str, f => ∀ x : ByteArray, G (.string x) (f x)
  | .ptr, f => ∀ x : Option Addr, G (.pointer x) (f x)
  | .slice, f => ∀ (p : Option Addr) (n c : Nat), G (.slice p n c) (f p n c)
  | .map, f => ∀ x : Option Nat, G (.map x) (f x)
  | .raw, f => ∀ x : Value, G x (f x)
def cksAll {T : Type} : (cs : List CK) → CksT cs T → List Value → (List Value → T → Prop) → Prop
  | [], f, acc, G => G acc.reverse f
  | c :: r, f, acc, G => atAll c f fun v g => cksAll r g (v :: acc) G
def kdAll {T : Type} (k : Kd) (f : KdT k T) (G : Value → T → Prop) : Prop := match k, f with
  | .one c, f => atAll c f G
  | .agg cs, f => cksAll cs f [] fun l g => G (.agg l.toArray) g
  | .big _, f => ∀ cs : Array Value, G (.agg cs) (f cs)
  | .tup _, f => ∀ v : Value, G v (f v)
  | .none, f => ∀ v : Value, G v (f v)
def invAll {T : Type} : (ss : List (Nat × Kd)) → InvT ss T → Act → (Act → T → Prop) → Prop
  | [], f, a, G => G a f
  | (s, k) :: r, f, a, G => kdAll k f fun v g => invAll r g (a.put (some s) v) G

theorem atAp_all {T : Type} {c : CK} {f : AtT c T} {v : Value} {C : T → Prop} (h : atAp c f v C) : ∃ g, C g ∧ (∀ G : Value → T → Prop, atAll c f G → G v g) ∧ ∀ C', atAp c f v C' ↔ C' g := by
  cases c <;> cases v <;> simp only [atAp] at h
  all_goals first
    | exact h.elim
    | exact ⟨_, h, fun _ hG => hG _, fun _ => Iff.rfl⟩
    | exact ⟨_, h, fun _ hG => hG _ _ _, fun _ => Iff.rfl⟩
    | (obtain ⟨hk, h1⟩ := onlyIf_of h
       clear h
       have hk1 := of_decide_eq_true hk
       subst hk1
       exact ⟨_, h1, fun _ hG => hG _, fun C' => by simp [atAp, onlyIf]⟩)
theorem cksAp_all {T : Type} : ∀ {cs : List CK} {f : CksT cs T} {vs : List Value} {C : T → Prop}, cksAp cs f vs C → ∃ g, C g ∧ (∀ (acc : List Value) (G : List Value → T → Prop), cksAll cs f acc G → G (acc.reverse ++ vs) g) ∧ ∀ C', cksAp cs f vs C' ↔ C' g
  | [], f, [], _, h => ⟨f, h, fun acc G hG => by simpa [cksAll] using hG, fun _ => Iff.rfl⟩
  | [], _, _ :: _, _, h => by simp [cksAp] at h
  | _ :: _, _, [], _, h => by simp [cksAp] at h
  | c :: r, f, v :: vs, C, h => by
    obtain ⟨g, h1, h2, h5⟩ := atAp_all (c := c) h
    obtain ⟨g', h3, h4, h6⟩ := cksAp_all h1
    exact ⟨g', h3, fun acc G hG => by simpa using h4 _ _ (h2 _ hG), fun C' => (h5 _).trans (h6 _)⟩
theorem kdAp_all {T : Type} {k : Kd} {f : KdT k T} {v : Value} {C : T → Prop} (h : kdAp k f v C) : ∃ g, C g ∧ (∀ G : Value → T → Prop, kdAll k f G → G v g) ∧ ∀ C', kdAp k f v C' ↔ C' g := by
  cases k with
  | one c => exact atAp_all h
  | agg cs =>
    cases v <;> simp only [kdAp] at h
    obtain ⟨g, h1, h2, h3⟩ := cksAp_all h
    exact ⟨g, h1, fun G hG => by simpa using h2 _ _ hG, h3⟩
  | big n => cases v <;> simp only [kdAp] at h; exact ⟨_, h, fun _ hG => hG _, fun _ => Iff.rfl⟩
  | tup ts => exact ⟨_, h, fun _ hG => hG _, fun _ => Iff.rfl⟩
  | none => exact ⟨_, h, fun _ hG => hG _, fun _ => Iff.rfl⟩
/-- a state whose slots are those of another one -/
def setL (ss : List Nat) (b : Act) (a : Act) : Act := match ss with
  | [] => a
  | s :: r => setL r b (a.put (some s) (b.tmps.getD s undef))
theorem invAp_all {T : Type} : ∀ {ss : List (Nat × Kd)} {f : InvT ss T} {b : Act} {C : T → Prop}, invAp ss f b C → ∃ g, C g ∧ (∀ (a : Act) (G : Act → T → Prop), invAll ss f a G → G (setL (ss.map (·.1)) b a) g) ∧ ∀ C', invAp ss f b C' ↔ C' g
  | [], f, _, _, h => ⟨f, h, fun _ _ hG => hG, fun _ => Iff.rfl⟩
  | (s, k) :: r, f, b, C, h => by
    obtain ⟨g, h1, h2, h5⟩ := kdAp_all (k := k) h
    obtain ⟨g', h3, h4, h6⟩ := invAp_all (ss := r) h1
    exact ⟨g', h3, fun a G hG => h4 _ _ (h2 _ hG), fun C' => (h5 _).trans (h6 _)⟩
theorem setL_at {b : Act} : ∀ {ss : List Nat} {a : Act}, a.tmps.size = b.tmps.size → (setL ss b a).tmps.size = a.tmps.size ∧ (setL ss b a).defers = a.defers ∧ ∀ s, (setL ss b a).tmps[s]? = if s ∈ ss then b.tmps[s]? else a.tmps[s]?
  | [], a, _ => ⟨rfl, rfl, fun s => by simp [setL]⟩
  | x :: r, a, h => by
    have h' : (a.put (some x) (b.tmps.getD x undef)).tmps.size = b.tmps.size := by simpa [Act.put] using h
    obtain ⟨h1, h2, h3⟩ := setL_at (ss := r) h'
    refine ⟨by rw [setL, h1, h', h], by rw [setL, h2]; rfl, fun s => ?_⟩
    rw [setL, h3 s]
    by_cases hr : s ∈ r
    · simp [hr]
    · rw [if_neg hr]
      by_cases hx : x = s
      · subst hx
        simp only [List.mem_cons, true_or, if_true, Act.put]
        rcases Nat.lt_or_ge x a.tmps.size with hlt | hge
        · have hb : x < b.tmps.size := by omega
          simp [hlt, hb]
        · have hb : b.tmps.size ≤ x := by omega
          simp [hge, hb]
      · have : s ≠ x := fun h => hx h.symm
        simp only [List.mem_cons, this, false_or, hr, if_false, Act.put, Array.getElem?_setIfInBounds_ne hx]
/-- the other slots that a loop writes: whatever they hold -/
def putJ (ss : List Nat) (j : Nat → Value) (a : Act) : Act := match ss with
  | [] => a
  | s :: r => putJ r j (a.put (some s) (j s))
theorem putJ_setL (b : Act) : ∀ (ss : List Nat) (a : Act), putJ ss (fun s => b.tmps.getD s undef) a = setL ss b a
  | [], _ => rfl
  | _ :: r, _ => putJ_setL b r _
theorem act_eq {ss js : List Nat} {a b : Act} {d : Bool} {ds : List Nat} (h : Same d ds a b) (hd : d = true) (hds : ∀ s ∈ ds, s ∈ ss ∨ s ∈ js) : setL ss b (setL js b a) = b := by
  obtain ⟨j1, j2, j3⟩ := setL_at (ss := js) (b := b) (a := a) h.sz.symm
  obtain ⟨s1, s2, s3⟩ := setL_at (ss := ss) (b := b) (a := setL js b a) (by rw [j1]; exact h.sz.symm)
  have e1 : (setL ss b (setL js b a)).tmps = b.tmps := by
    apply Array.ext_getElem?
    intro s
    rw [s3 s, j3 s]
    split
    · rfl
    · split
      · rfl
      · rename_i h1 h2
        exact (h.at_ s fun hc => (hds s hc).elim h1 h2).symm
  have e2 : (setL ss b (setL js b a)).defers = b.defers := by rw [s2, j2]; exact (h.df hd).symm
  cases hx : setL ss b (setL js b a)
  cases b
  rw [hx] at e1 e2
  simp only at e1 e2
  rw [e1, e2]

/-- the k-th range over a function of some code -/
def rfs : Code → List (Array Tmp × Code × Code)
  | .seq a b => rfs a ++ rfs b
  | .cond _ a b => rfs a ++ rfs b
  | .block _ b => rfs b
  | .loop b => rfs b
  | .scope b => rfs b
  | .rangeFunc _ ps as bd => (ps, as, bd) :: rfs bd
  | _ => []
def rfP (f : Func) (k : Nat) : Array Tmp := match f.body with | some c => (((rfs c)[k]?).getD (#[], .skip, .skip)).1 | none => #[]
def rfA (f : Func) (k : Nat) : Code := match f.body with | some c => (((rfs c)[k]?).getD (#[], .skip, .skip)).2.1 | none => .skip
def rfB (f : Func) (k : Nat) : Code := match f.body with | some c => (((rfs c)[k]?).getD (#[], .skip, .skip)).2.2 | none => .skip
structure LI where
  inv : World → Prop
  meas : World → Nat
section
variable (P : Program) (ro : Option Nat)
def thenQ (K : Act → World → Prop) (Q : Exit → Act → World → Prop) : Exit → Act → World → Prop
  | .normal, a, w => K a w
  | .exit i, a, w => Q (.exit i) a w
  | .ret, a, w => Q .ret a w
  | _, _, _ => False
def blkQ (id : Nat) (Q : Exit → Act → World → Prop) : Exit → Act → World → Prop
  | .normal, a, w => Q .normal a w
  | .exit i, a, w => if i = id then Q .normal a w else Q (.exit i) a w
  | .ret, a, w => Q .ret a w
  | _, _, _ => False
def scpQ (Q : Exit → Act → World → Prop) : Exit → Act → World → Prop
  | .normal, a, w => Q .normal a w
  | .exit i, a, w => Q (.exit i) a w
  | .ret, a, w => Q .ret a w
  | _, _, _ => False
def loopVC (ss : List (Nat × Kd)) (js : List Nat) (body : (Exit → Act → World → Prop) → Act → World → Prop) (Q : Exit → Act → World → Prop) (a : Act) (w : World) : Prop :=
  ∃ J : InvT ss LI, invAp ss J a (fun g => g.inv w) ∧
    ∀ j : Nat → Value, invAll ss J (putJ js j a) fun a' g => ∀ w', g.inv w' →
      body (thenQ (fun a'' w'' => invAp ss J a'' fun g' => g'.inv w'' ∧ g'.meas w'' < g.meas w') Q) a' w'
def col (D : Nat) : Deferred := { target := .collected D, args := #[] }
/-- a loop whose rounds may hold a range over a function: the marks on the deferred calls are carried, too -/
def loopRF (ss : List (Nat × Kd)) (js : List Nat) (body : (Exit → Act → World → Prop) → Act → World → Prop) (Q : Exit → Act → World → Prop) (a : Act) (w : World) : Prop :=
  ∃ (J : InvT ss (List Nat → LI)) (D0 : List Nat), a.defers = D0.map col ∧ invAp ss J a (fun g => (g D0).inv w) ∧
    ∀ (j : Nat → Value) (Ds : List Nat), invAll ss J (putJ js j { a with defers := Ds.map col }) fun a' g => ∀ w', (g Ds).inv w' →
      body (thenQ (fun a'' w'' => ∃ Ds', a''.defers = Ds'.map col ∧ invAp ss J a'' fun g' => (g' Ds').inv w'' ∧ (g' Ds').meas w'' < (g Ds).meas w') Q) a' w'
def isTrueB (v : Value) (C : Bool → Prop) : Prop := match v with | .bool b => C b | _ => False
def rfRec (fn : FuncId) (tmps : Array Value) (ps : Array Tmp) (as bd : Code) (D : Nat) (st : LoopState) (pe : Option Code) : Loop :=
  { state := st, pending := pe, fn := fn, tmps := tmps, params := ps, assign := as, body := bd, defers := D }
def putO (w : World) (r : Nat) (o : Obj) : World := w.putObj r o
def LBlk (w : World) (l : Nat) (r : Loop) : Prop := w.heap[l]? = some (.loop r)
def DBlk (w : World) (D : Nat) : Prop := w.heap[D]? = some (.deferred (some []))
def rfW (fn : FuncId) (tmps : Array Value) (ps : Array Tmp) (as bd : Code) (w : World) : World := (w.alloc (.deferred (some []))).alloc (.loop (rfRec fn tmps ps as bd w.heap.size .ready none))
/-- a range over a function: the iterator is called with a yield of the loop's record -/
def rfVC (g : Value) (tmps : Array Value) (ps : Array Tmp) (as bd : Code) (w : World) (K : Option Code → Nat → World → Prop) : Prop := match g with
  | .func (.func n) first captured => onlyIf (callable P n) (∀ fn : FuncId,
      CallsR P n (first.toList ++ [Value.func (.yield (w.heap.size + 1)) #[] #[]] ++ captured.toList).toArray (rfW fn tmps ps as bd w) fun _ w3 =>
        ∃ (st : LoopState) (pe : Option Code), LBlk w3 (w.heap.size + 1) (rfRec fn tmps ps as bd w.heap.size st pe) ∧ st ≠ .busy ∧
          K pe w.heap.size (putO w3 (w.heap.size + 1) (.loop (rfRec fn tmps ps as bd w.heap.size .exhausted pe))))
  | _ => False
def rfK (KN KR : Nat → World → Prop) (KE : Nat → Nat → World → Prop) : Option Code → Nat → World → Prop
  | none, D, w => KN D w
  | some .ret, D, w => KR D w
  | some (.exit id), D, w => KE id D w
  | _, _, _ => False
def codeVC (Rs : List Nat) : Code → Env → List Nat → (Exit → Act → World → Prop) → Act → World → Prop
  | .skip, _, _, Q, a, w => Q .normal a w
  | .label _, _, _, Q, a, w => Q .normal a w
  | .region _ ops false, _, _, Q, a, w => regVC P ops (Q .normal) ops.toList a w
  | .region _ ops true, _, _, Q, a, w => drwVC P ops (Q .normal) a w
  | .seq x y, E, L, Q, a, w => codeVC Rs x E (live Rs y E L) (thenQ (codeVC Rs y E L Q) Q) a w
  | .cond c x y, E, L, Q, a, w => isTrueB (a.eval c) fun b => ifB b (codeVC Rs x E L Q a w) (codeVC Rs y E L Q a w)
  | .block id c, E, L, Q, a, w => codeVC Rs c ((id, L) :: E) L (blkQ id Q) a w
  | .loop c, E, _, Q, a, w =>
    match noRF c with
    | true => loopVC (slotsOf P (live Rs c E []) (wrs c)) (((wrs c).map (·.1)).filter fun s => !((slotsOf P (live Rs c E []) (wrs c)).any fun x => x.1 == s)) (codeVC Rs c E (live Rs c E [])) Q a w
    | false => loopRF (slotsOf P (live Rs c E []) (wrs c)) (((wrs c).map (·.1)).filter fun s => !((slotsOf P (live Rs c E []) (wrs c)).any fun x => x.1 == s)) (codeVC Rs c E (live Rs c E [])) Q a w
  | .scope c, E, L, Q, a, w => codeVC Rs c E L (scpQ Q) a w
  | .exit id, _, _, Q, a, w => Q (.exit id) a w
  | .ret, _, _, Q, a, w => Q .ret a w
  | .rangeFunc f ps as bd, _, _, Q, a, w => onlyIf ro.isNone (rfVC P (a.eval f) a.tmps ps as bd w (rfK
      (fun D w => Q .normal { a with defers := col D :: a.defers } w) (fun D w => Q .ret { a with defers := col D :: a.defers } w) (fun id D w => Q (.exit id) { a with defers := col D :: a.defers } w)))
  | _, _, _, _, _, _ => False
variable {P} {ro}
theorem wpIn_n {n m : Nat} {c : Code} {Q : Exit → Act → World → Prop} {a : Act} {w : World} (h : c.wpIn (Fw ro) n P Q a w) : c.wpIn (Fw ro) m P Q a w :=
  fun b k cs h1 h2 _ => h b k cs h1 h2 (room_Fw _ _)
theorem wpIn_scope {F : Fence} {n : Nat} {c : Code} {Q : Exit → Act → World → Prop} {a : Act} {w : World} (h : c.wpIn F n P (fun e a w => match e with | .goto _ => False | e => Q e a w) a w) : (Code.scope c).wpIn F n P Q a w := by
  intro b k cs hro hb hr
  have h0 : (lone (b.atR a (.code (.scope c) :: k)) cs w).fenced P F := fenced_calm hb hr rfl
  have s0 : step P (lone (b.atR a (.code (.scope c) :: k)) cs w) = .next (lone (b.atR a (.code c :: .inScope c :: k)) cs w) := step_lone_go (by simp [stepG, stepG.exec, Frame.atR])
  have s1 : ∀ a w, step P (lone (b.atR a (.inScope c :: k)) cs w) = .next (lone (b.atR a k) cs w) := fun a w => step_lone_go (by simp [stepG, stepG.exec, Frame.atR])
  obtain ⟨e, a₁, w₁, hq, harr⟩ := h b (.inScope c :: k) cs hro hb hr
  cases e with
  | normal => exact ⟨.normal, a₁, w₁, hq, .head h0 s0 (StepsIn.trans harr (.one (fenced_calm hb hr rfl) (s1 _ _)))⟩
  | exit id =>
    have hx : exitTo id (.inScope c :: k) = exitTo id k := by simp [exitTo]
    exact ⟨.exit id, a₁, w₁, hq, fun k' hk => .head h0 s0 (harr.1 k' (by rw [hx]; exact hk)),
      fun hr' hk => let ⟨k₁, h1, h2⟩ := harr.2 hr' (by rw [hx]; exact hk); ⟨k₁, h1, .head h0 s0 h2⟩⟩
  | goto l => exact hq.elim
  | ret => exact ⟨_, a₁, w₁, hq, .of_steps (.one h0 s0) harr⟩
  | panic ch => exact ⟨_, a₁, w₁, hq, .of_steps (.one h0 s0) harr⟩
  | outgrown => exact ⟨_, a₁, w₁, hq, .of_steps (.one h0 s0) harr⟩
theorem mem_wrs_region {ops : Array Oper} : ∀ {t : Nat}, t ∈ dstsOf ops.toList → t ∈ (wrs (.region 0 ops true)).map (·.1) := by
  intro t ht
  obtain ⟨o, ho, hd⟩ := List.mem_filterMap.1 ht
  simp only [wrs, List.mem_map, List.mem_filterMap]
  exact ⟨(t, o.type), ⟨o, ho, by rw [hd]; rfl⟩, rfl⟩

theorem codeVC_wp {Rs : List Nat} : ∀ (c : Code) (E : Env) (L : List Nat) (Q Q' : Exit → Act → World → Prop) (a : Act) (w : World), codeVC P ro Rs c E L Q a w →
    (∀ e a' w', Same (noRF c) ((wrs c).map (·.1)) a a' → Q e a' w' → Q' e a' w') → c.wpIn (Fw ro) 0 P Q' a w := by
  intro c
  induction c with
  | skip => intro E L Q Q' a w h hq; exact wpIn_skip (hq _ _ _ (Same.refl _ _ _) h)
  | label l => intro E L Q Q' a w h hq; exact wpIn_label (hq _ _ _ (Same.refl _ _ _) h)
  | region id ops d =>
    intro E L Q Q' a w h hq
    cases d
    · exact regVC_wpIn (fun a' w' hs hk => hq _ _ _ (hs.mono (fun h => h) fun s hs => mem_wrs_region hs) hk) h
    · exact drwVC_wpIn (fun a' w' hs hk => hq _ _ _ (hs.mono (fun h => h) fun s hs => mem_wrs_region hs) hk) h
  | seq x y ihx ihy =>
    intro E L Q Q' a w h hq
    have m1 : ∀ s ∈ (wrs x).map (·.1), s ∈ (wrs (.seq x y)).map (·.1) := fun s hs => by rw [wrs, List.map_append]; exact List.mem_append_left _ hs
    have m2 : ∀ s ∈ (wrs y).map (·.1), s ∈ (wrs (.seq x y)).map (·.1) := fun s hs => by rw [wrs, List.map_append]; exact List.mem_append_right _ hs
    have d1 : noRF (.seq x y) = true → noRF x = true := fun h => by simp only [noRF, Bool.and_eq_true] at h; exact h.1
    have d2 : noRF (.seq x y) = true → noRF y = true := fun h => by simp only [noRF, Bool.and_eq_true] at h; exact h.2
    refine wpIn_seq (ihx E _ _ _ a w h fun e a' w' hs hk => ?_)
    have hs' := hs.mono d1 m1
    cases e <;> simp only [thenQ, Exit.then] at hk ⊢
    · exact ihy E L Q Q' a' w' hk fun e a'' w'' hs2 hk2 => hq e a'' w'' (hs'.trans (hs2.mono d2 m2)) hk2
    all_goals first | exact hq _ _ _ hs' hk | exact hk.elim
  | cond c x y ihx ihy =>
    intro E L Q Q' a w h hq
    unfold codeVC isTrueB at h
    have m1 : ∀ s ∈ (wrs x).map (·.1), s ∈ (wrs (.cond c x y)).map (·.1) := fun s hs => by rw [wrs, List.map_append]; exact List.mem_append_left _ hs
    have m2 : ∀ s ∈ (wrs y).map (·.1), s ∈ (wrs (.cond c x y)).map (·.1) := fun s hs => by rw [wrs, List.map_append]; exact List.mem_append_right _ hs
    have d1 : noRF (.cond c x y) = true → noRF x = true := fun h => by simp only [noRF, Bool.and_eq_true] at h; exact h.1
    have d2 : noRF (.cond c x y) = true → noRF y = true := fun h => by simp only [noRF, Bool.and_eq_true] at h; exact h.2
    split at h
    · rename_i b hb
      cases b
      · exact wpIn_cond_false hb (ihy E L Q Q' a w h fun e a' w' hs hk => hq e a' w' (hs.mono d2 m2) hk)
      · exact wpIn_cond_true hb (ihx E L Q Q' a w h fun e a' w' hs hk => hq e a' w' (hs.mono d1 m1) hk)
    · exact h.elim
  | block id c ih =>
    intro E L Q Q' a w h hq
    refine wpIn_block (ih _ L _ _ a w h fun e a' w' hs hk => ?_)
    cases e <;> simp only [blkQ, Exit.inBlock] at hk ⊢
    · exact hq _ _ _ hs hk
    · split at hk
      · rename_i hid; rw [if_pos hid]; exact hq _ _ _ hs hk
      · rename_i hid; rw [if_neg hid]; exact hq _ _ _ hs hk
    all_goals first | exact hq _ _ _ hs hk | exact hk.elim
  | loop c ih =>
    intro E L Q Q' a w h hq
    unfold codeVC at h
    split at h
    · rename_i hrf
      obtain ⟨J, h0, h⟩ := h
      generalize hss : slotsOf P (live Rs c E []) (wrs c) = ss at J h0 h
      have hds : ∀ s ∈ (wrs c).map (·.1), s ∈ ss.map (·.1) ∨ s ∈ ((wrs c).map (·.1)).filter fun s => !(ss.any fun x => x.1 == s) := by
        intro s hs
        by_cases hx : (ss.any fun x => x.1 == s) = true
        · obtain ⟨x, hx1, hx2⟩ := List.any_eq_true.1 hx
          exact .inl (List.mem_map.2 ⟨x, hx1, by simpa using hx2⟩)
        · exact .inr (List.mem_filter.2 ⟨hs, by rw [Bool.not_eq_true] at hx; simp only [hx, Bool.not_false]⟩)
      generalize ((wrs c).map (·.1)).filter (fun s => !(ss.any fun x => x.1 == s)) = js at h hds
      refine wpIn_loop (fun b w' => Same true ((wrs c).map (·.1)) a b ∧ invAp ss J b fun g => g.inv w') (fun b w' => Classical.epsilon fun m => invAp ss J b fun g => g.meas w' = m) ⟨Same.refl _ _ _, h0⟩ ?_
      rintro b w' ⟨hsm, hb⟩
      obtain ⟨g, hg1, hg2, hg3⟩ := invAp_all hb
      have hg := hg2 _ _ (h fun s => b.tmps.getD s undef)
      rw [putJ_setL, act_eq hsm rfl hds] at hg
      have hm : ∀ (b : Act) (g : LI) (w' : World), (∀ C', invAp ss J b C' ↔ C' g) → (Classical.epsilon fun m => invAp ss J b fun g => g.meas w' = m) = g.meas w' := fun b g w' hg => by
        have : ∃ m, invAp ss J b fun g => g.meas w' = m := ⟨g.meas w', (hg _).2 rfl⟩
        exact ((hg _).1 (Classical.epsilon_spec this)).symm
      refine ih E _ _ _ b w' (hg w' hg1) fun e b' w'' hs hk => ?_
      have hs1 : Same true ((wrs c).map (·.1)) b b' := hs.mono (fun _ => hrf) fun _ h => h
      have hs2 := hsm.trans hs1
      cases e <;> simp only [thenQ, Exit.then] at hk ⊢
      · obtain ⟨g', ⟨hi, hlt⟩, _, hg3'⟩ := invAp_all hk
        refine ⟨⟨hs2, (hg3' _).2 hi⟩, ?_⟩
        rw [hm b' g' w'' hg3', hm b g w' hg3]
        exact hlt
      all_goals first | exact hq _ _ _ (hs2.mono (fun _ => rfl) fun _ h => h) hk | exact hk.elim
    · rename_i hrf
      obtain ⟨J, D0, hD0, h0, h⟩ := h
      generalize hss : slotsOf P (live Rs c E []) (wrs c) = ss at J h0 h
      have hds : ∀ s ∈ (wrs c).map (·.1), s ∈ ss.map (·.1) ∨ s ∈ ((wrs c).map (·.1)).filter fun s => !(ss.any fun x => x.1 == s) := by
        intro s hs
        by_cases hx : (ss.any fun x => x.1 == s) = true
        · obtain ⟨x, hx1, hx2⟩ := List.any_eq_true.1 hx
          exact .inl (List.mem_map.2 ⟨x, hx1, by simpa using hx2⟩)
        · exact .inr (List.mem_filter.2 ⟨hs, by rw [Bool.not_eq_true] at hx; simp only [hx, Bool.not_false]⟩)
      generalize ((wrs c).map (·.1)).filter (fun s => !(ss.any fun x => x.1 == s)) = js at h hds
      have inj : ∀ {x y : List Nat}, x.map col = y.map col → x = y := fun {x y} e => by
        induction x generalizing y with
        | nil => cases y with | nil => rfl | cons b y => cases e
        | cons a x ihx => cases y with
          | nil => cases e
          | cons b y =>
            simp only [List.map_cons, List.cons.injEq, col, Deferred.mk.injEq, and_true] at e
            have e1 : a = b := by cases e.1; rfl
            rw [e1, ihx e.2]
      refine wpIn_loop (fun b w' => Same false ((wrs c).map (·.1)) a b ∧ ∃ Ds, b.defers = Ds.map col ∧ invAp ss J b fun g => (g Ds).inv w') (fun b w' => Classical.epsilon fun m => ∃ Ds, b.defers = Ds.map col ∧ invAp ss J b fun g => (g Ds).meas w' = m) ⟨Same.refl _ _ _, D0, hD0, h0⟩ ?_
      rintro b w' ⟨hsm, Ds, hDs, hb⟩
      obtain ⟨g, hg1, hg2, hg3⟩ := invAp_all hb
      have hg := hg2 _ _ (h (fun s => b.tmps.getD s undef) Ds)
      have hsm1 : Same true ((wrs c).map (·.1)) { a with defers := Ds.map col } b := ⟨fun _ => hDs, hsm.sz, hsm.at_⟩
      rw [putJ_setL, act_eq hsm1 rfl hds] at hg
      have hm : ∀ (b : Act) (Ds : List Nat) (g : List Nat → LI) (w' : World), b.defers = Ds.map col → (∀ C', invAp ss J b C' ↔ C' g) → (Classical.epsilon fun m => ∃ Ds, b.defers = Ds.map col ∧ invAp ss J b fun g => (g Ds).meas w' = m) = (g Ds).meas w' := fun b Ds g w' hd hg => by
        have : ∃ m : Nat, ∃ Ds : List Nat, b.defers = Ds.map col ∧ invAp ss J b (fun g => (g Ds).meas w' = m) := ⟨(g Ds).meas w', Ds, hd, (hg _).2 rfl⟩
        obtain ⟨Ds', hd', hi'⟩ := Classical.epsilon_spec this
        have e := inj (hd'.symm.trans hd)
        subst e
        exact ((hg _).1 hi').symm
      refine ih E _ _ _ b w' (hg w' hg1) fun e b' w'' hs hk => ?_
      have hs1 : Same false ((wrs c).map (·.1)) b b' := hs.mono (fun h => by cases h) fun _ h => h
      have hs2 := hsm.trans hs1
      cases e <;> simp only [thenQ, Exit.then] at hk ⊢
      · obtain ⟨Ds', hd', hk⟩ := hk
        obtain ⟨g', ⟨hi, hlt⟩, _, hg3'⟩ := invAp_all hk
        refine ⟨⟨hs2, Ds', hd', (hg3' _).2 hi⟩, ?_⟩
        rw [hm b' Ds' g' w'' hd' hg3', hm b Ds g w' hDs hg3]
        exact hlt
      all_goals first | exact hq _ _ _ (hs2.mono (fun h => by simp only [noRF] at h; rw [hrf] at h; cases h) fun _ h => h) hk | exact hk.elim
  | scope c ih =>
    intro E L Q Q' a w h hq
    refine wpIn_scope (ih E L _ _ a w h fun e a' w' hs hk => ?_)
    cases e <;> simp only [scpQ] at hk ⊢
    all_goals first | exact hq _ _ _ hs hk | exact hk.elim
  | exit id => intro E L Q Q' a w h hq; exact wpIn_exit (hq _ _ _ (Same.refl _ _ _) h)
  | ret => intro E L Q Q' a w h hq; exact wpIn_ret (hq _ _ _ (Same.refl _ _ _) h)
  | rangeFunc f ps as bd _ _ =>
    intro E L Q Q' a w h hq
    unfold codeVC at h
    obtain ⟨hro0, h2⟩ := onlyIf_of h
    clear h
    have hro : ro = none := by simpa using hro0
    clear hro0
    subst hro
    unfold rfVC at h2
    rename_i ih1 ih2
    have h := h2
    clear h2
    split at h
    · rename_i m first captured hg
      obtain ⟨h0, h1⟩ := onlyIf_of h
      refine wpIn_rangeFunc fun fn _ => ?_
      have hc := h1 fn
      refine ⟨w.heap.size + 1, [col w.heap.size], rfW fn a.tmps ps as bd w, { target := .fn (.func m) captured, args := first ++ #[.func (.yield (w.heap.size + 1)) #[] #[]] }, rfW fn a.tmps ps as bd w, m, first ++ #[.func (.yield (w.heap.size + 1)) #[] #[]] ++ captured, rfW fn a.tmps ps as bd w,
        run_enterLoop_outer _ _ _ _ _, ?_, fun _ _ => trivial, ?_, fun hd => by simp [Fw] at hd, ?_⟩
      · simp only [resolve, hg]; simp [go_sem, Deferred.ofValue]
      · simp [invoke, callable_run h0]
      · refine callsIn_Fw.2 (Calls.mono (by
          have e : (first.toList ++ [Value.func (.yield (w.heap.size + 1)) #[] #[]] ++ captured.toList).toArray = first ++ #[Value.func (.yield (w.heap.size + 1)) #[] #[]] ++ captured := by apply Array.ext'; simp
          rw [e] at hc
          exact hc) ?_)
        rintro e w3 ⟨v, rfl, st, pe, hl, hst, hk⟩
        have hr := run_endLoop (P := P) hl hst
        refine ⟨pe, _, hr, ?_⟩
        have hsm : Same false ((wrs (.rangeFunc f ps as bd)).map (·.1)) a { a with defers := col w.heap.size :: a.defers } := ⟨(fun h => by cases h), rfl, fun _ _ => rfl⟩
        cases pe with
        | none => exact hq .normal _ _ hsm hk
        | some c =>
          cases c <;> simp only [rfK] at hk
          all_goals first
            | exact hk.elim
            | exact wpIn_ret (hq .ret _ _ hsm hk)
            | exact wpIn_exit (hq (.exit _) _ _ hsm hk)
    · exact h.elim
  | goto l => intro E L Q Q' a w h; exact h.elim
  | refuse s => intro E L Q Q' a w h; exact h.elim

/-! ### functions -/
def resVC (P : Program) : List ResultVar → Act → World → List Value → (List Value → Prop) → Prop
  | [], _, _, acc, C => C acc.reverse
  | .tmp t :: r, a, w, acc, C => resVC P r a w (a.tmps.getD t undef :: acc) C
  | .cell t ty :: r, a, w, acc, C => onlyIf (P.underlying ty).isSome (ldVC P ty (a.tmps.getD t undef) w fun _ v => resVC P r a w (v :: acc) C)
def oneOf (l : List Value) : Value := match l with | [v] => v | l => .tuple l.toArray
/-- the marks on the deferred calls: their blocks are shut -/
def finD : List Deferred → World → (World → Prop) → Prop
  | [], w, C => C w
  | d :: r, w, C => match d.target with
    | .collected D => DBlk w D ∧ finD r (putO w D (.deferred none)) C
    | _ => False
def retQ (P : Program) (rs : List ResultVar) (R : Value → World → Prop) : Exit → Act → World → Prop
  | .normal, a, w => finD a.defers w fun w => resVC P rs a w [] fun l => R (oneOf l) w
  | .ret, a, w => finD a.defers w fun w => resVC P rs a w [] fun l => R (oneOf l) w
  | _, _, _ => False
def rsOf (rs : List ResultVar) : List Nat := rs.map fun | .tmp t => t | .cell t _ => t
def fnVC (P : Program) (fn : Func) (args : List Value) (w : World) (R : Value → World → Prop) : Prop := match fn.body with
  | some c => codeVC P none (rsOf fn.results.toList) c [] (rsOf fn.results.toList) (retQ P fn.results.toList R) { tmps := args.toArray ++ Array.replicate (fn.ntmps - args.length) undef, defers := [] } w
  | none => False
theorem resVC_run {P : Program} {a : Act} {w : World} (f : ResultVar → Sem Value) (hf1 : ∀ t, (f (.tmp t)).run P w = .ok (a.tmps.getD t undef) w)
    (hf2 : ∀ t ty x v, a.tmps.getD t undef = .pointer (some x) → (loadVar ty x).run P w = .ok v w → (f (.cell t ty)).run P w = .ok v w) : ∀ {rs : List ResultVar} {acc : List Value} {C : List Value → Prop}, resVC P rs a w acc C →
    ∃ l : List Value, (rs.mapM f).run P w = .ok l w ∧ C (acc.reverse ++ l)
  | [], acc, C, h => ⟨[], by simp, by simpa [resVC] using h⟩
  | .tmp t :: r, acc, C, h => by
    obtain ⟨l, h1, h2⟩ := resVC_run f hf1 hf2 (rs := r) h
    refine ⟨a.tmps.getD t undef :: l, ?_, by simpa using h2⟩
    rw [List.mapM_cons]
    simp only [Sem.run_bind, hf1, Result.andThen_ok, h1, Sem.run_pure]
  | .cell t ty :: r, acc, C, h => by
    obtain ⟨hu, h⟩ := onlyIf_of h
    obtain ⟨v, S, hS, hr, h⟩ := ldVC_run hu h
    obtain ⟨l, h1, h2⟩ := resVC_run f hf1 hf2 (rs := r) h
    refine ⟨v :: l, ?_, by simpa using h2⟩
    have hr' := hr w hS
    have hp : ∃ x, a.tmps.getD t undef = .pointer (some x) := by
      cases hx : a.tmps.getD t undef with
      | pointer p =>
        cases p with
        | none => rw [hx] at hr'; simp [Instr.loadAt, Instr.sureAddr] at hr'
        | some y => exact ⟨y, rfl⟩
      | _ => rw [hx] at hr'; simp [Instr.loadAt, Instr.sureAddr] at hr'
    obtain ⟨x, hx⟩ := hp
    rw [hx] at hr'
    simp only [Instr.loadAt, Instr.sureAddr, Sem.run_bind, Sem.run_pure, Result.andThen_ok] at hr'
    rw [List.mapM_cons]
    simp only [Sem.run_bind, hf2 t ty x v hx hr', Result.andThen_ok, h1, Sem.run_pure]
theorem results_run {P : Program} {fn : Func} {a : Act} {w : World} {C : List Value → Prop} (h : resVC P fn.results.toList a w [] C) : ∃ l, (results fn a.tmps).run P w = .ok (oneOf l) w ∧ C l := by
  have gen : ∀ f : ResultVar → Sem Value, (∀ t, (f (.tmp t)).run P w = .ok (a.tmps.getD t undef) w) →
      (∀ t ty x v, a.tmps.getD t undef = .pointer (some x) → (loadVar ty x).run P w = .ok v w → (f (.cell t ty)).run P w = .ok v w) →
      ∃ l : List Value, ((((fn.results.toList.mapM f).run P w).andThen fun a w' => Result.ok a.toArray w').andThen fun a w' => (pure (if h : a.size = 1 then a[0] else Value.tuple a) : Sem Value).run P w') = .ok (oneOf l) w ∧ C l := by
    intro f hf1 hf2
    obtain ⟨l, h1, h2⟩ := resVC_run f hf1 hf2 h
    refine ⟨l, ?_, by simpa using h2⟩
    rw [h1]
    simp only [Result.andThen_ok, Sem.run_pure]
    match l with
    | [] => rfl
    | [v] => rfl
    | _ :: _ :: _ => simp [oneOf]
  unfold results
  rw [Array.mapM_eq_mapM_toList]
  simp only [Sem.run_bind, Sem.run_map]
  exact gen _ (fun t => rfl) (fun t ty x v hx hv => by simp only [Sem.run_bind, hx, asAddr, Sem.run_pure, Result.andThen_ok]; exact hv)
theorem finD_leaves {P : Program} {fn : Func} {a : Act} {R : Value → World → Prop} : ∀ {ds : List Deferred} {w : World}, finD ds w (fun w => resVC P fn.results.toList a w [] fun l => R (oneOf l) w) →
    LeavesInM (Fw none) 0 P fn a.tmps (fun e w' => ∃ v, e = .returned v ∧ R v w') ds .returning w
  | [], w, h => by
    obtain ⟨l, h1, h2⟩ := results_run h
    exact ⟨_, h1, _, rfl, h2⟩
  | d :: ds, w, h => by
    unfold finD at h
    split at h
    · rename_i D hD
      refine ⟨(fun e => by cases e), .inl ⟨D, _, hD, run_takeDeferred h.1, finD_leaves h.2⟩⟩
    · exact h.elim
theorem calls_of_fnVC {P : Program} {n : FuncId} {fn : Func} {args : List Value} {w : World} {R : Value → World → Prop} (hf : P.funcs[n]? = some fn) (h : fnVC P fn args w R) : CallsR P n args.toArray w R := by
  unfold fnVC at h
  split at h
  · rename_i c hc
    refine callsIn_Fw (ro := none) (n := 0) |>.1 (callsIn_of_wp_marks hf hc trivial ?_ rfl)
    have := codeVC_wp c _ _ _ (bodyPostM (Fw none) 0 P fn fun e w' => ∃ v, e = .returned v ∧ R v w') _ _ h ?_
    · simpa using this
    · intro e a' w' _ hk
      cases e <;> simp only [retQ] at hk
      all_goals first
        | exact hk.elim
        | exact finD_leaves hk
  · exact h.elim

/-! ### the rounds of a range over a function -/
def endQ (l : Nat) (f : LoopState → Option Code → Loop) (C : Value → World → Prop) : Exit → Act → World → Prop
  | .normal, _, w => LBlk w l (f .busy none) ∧ C (.bool true) (putO w l (.loop (f .ready none)))
  | .ret, _, w => LBlk w l (f .busy none) ∧ C (.bool false) (putO w l (.loop (f .done (some .ret))))
  | .exit id, _, w => LBlk w l (f .busy none) ∧ C (.bool false) (putO w l (.loop (f .done (some (.exit id)))))
  | _, _, _ => False
def begQ (l : Nat) (f : LoopState → Option Code → Loop) (K : Act → World → Prop) : Exit → Act → World → Prop
  | .normal, a, w => LBlk w l (f .ready none) ∧ K a (putO w l (.loop (f .busy none)))
  | _, _, _ => False
/-- a round: the assignments, the body -/
def rndVC (P : Program) (l : Nat) (f : LoopState → Option Code → Loop) (as bd : Code) (tmps : Array Value) (w : World) (C : Value → World → Prop) : Prop :=
  codeVC P (some l) [] as [] [] (begQ l f fun a w => codeVC P (some l) [] bd [] [] (endQ l f C) a w) { tmps := tmps, defers := [] } w
theorem roundR_of {P : Program} {l : Nat} {fn : FuncId} {tmps tmps' : Array Value} {ps : Array Tmp} {as bd : Code} {D : Nat} {w : World} {C : Value → World → Prop}
    (h : rndVC P l (rfRec fn tmps ps as bd D) as bd tmps' w C) : RoundR P l fn tmps' as bd w fun e w' => ∃ v, e = .returned v ∧ C v w' := by
  refine roundIn_of_wpIn (F := Fence.wide) trivial ?_
  refine codeVC_wp (ro := some l) as _ _ _ _ _ _ h ?_
  intro e a1 w1 _ hk
  cases e <;> simp only [begQ, Exit.then] at hk ⊢
  all_goals first
    | exact hk.elim
    | skip
  obtain ⟨hl, hk⟩ := hk
  refine ⟨_, run_beginRound hl rfl, ?_⟩
  refine codeVC_wp (ro := some l) bd _ _ _ _ _ _ hk ?_
  intro e a2 w2 _ hk
  cases e <;> simp only [endQ, roundPost] at hk ⊢
  all_goals first
    | exact hk.elim
    | exact ⟨_, _, run_endRound _ hk.1, _, rfl, hk.2⟩
theorem callV_yield {P : Program} {l : Nat} {fn : FuncId} {tmps tmps' : Array Value} {ps : Array Tmp} {as bd : Code} {D : Nat} {args : List Value} {w : World} {C : Value → World → Prop}
    (hl : LBlk w l (rfRec fn tmps ps as bd D .ready none)) (hs : args.length = ps.size) (ht : (ps.zip args.toArray).foldl (fun tmps (t, a) => tmps.setIfInBounds t a) tmps = tmps')
    (h : rndVC P l (rfRec fn tmps ps as bd D) as bd tmps' w C) : callV P (.func (.yield l) #[] #[]) args w C := by
  refine ⟨_, hl, ?_, ?_⟩
  · simpa [rfRec] using hs
  · subst ht
    simpa [rfRec] using roundR_of h
end
end Go.Proofs.Ytboifenkbhfnfaa.V
