/- The verified condition generator, statements: a region in its order, and a region whose order is drawn: one canonical order, reads and inert operations first, serves every order. -/
import Derived.Test.YtboifenkbhfnfaaVcC
import Derived.OrdersHeld
set_option linter.all false
namespace Go.Proofs.Ytboifenkbhfnfaa.V
open Go

section
variable {P : Program} {ops : Array Oper} {ro : Option Nat} {n : Nat}

def subB (a : Act) (d : Nat) (b : Bool) : Act := { a with tmps := a.tmps.setIfInBounds d (.bool b) }
/-- the guard of an operation: run it, or pass it by -/
def grdVC (ops : Array Oper) (o : Oper) (a : Act) (run skip : Act → Prop) : Prop := match o.guard with
  | none => run a
  | some (j, want) => match (ops[j]?).bind (·.dst) with
    | none => skip a
    | some d => match a.tmps.getD d undef with
      | .bool b => (match want with
        | true => ifB b (run (subB a d true)) (skip (subB a d false))
        | false => ifB b (skip (subB a d true)) (run (subB a d false)))
      | _ => skip a
theorem subB_self {a : Act} {d : Nat} {b : Bool} (h : a.tmps.getD d undef = .bool b) : subB a d b = a := by
  obtain ⟨tmps, defers⟩ := a
  simp only [subB, Act.mk.injEq, and_true]
  simp only at h
  apply Array.ext'
  simp only [Array.toList_setIfInBounds]
  have h' : tmps.toList.getD d undef = .bool b := by simpa using h
  apply List.ext_getElem?
  intro i
  by_cases hi : d = i
  · subst hi
    rw [List.getElem?_set_self']
    cases hx : tmps.toList[d]? with
    | none => rfl
    | some v => simp [List.getD, hx] at h'; simp [h']
  · rw [List.getElem?_set_ne hi]
theorem yielded_of {a : Act} {j d : Nat} (hd : (ops[j]?).bind (·.dst) = some d) : yielded ops a.tmps j = match a.tmps.getD d undef with | .bool b => some b | _ => none := by
  unfold yielded
  rw [hd]
  simp only [Option.bind_some]
  cases hx : a.tmps[d]? with
  | none => simp [Array.getD_eq_getD_getElem?, hx, undef]
  | some v => simp [Array.getD_eq_getD_getElem?, hx]; cases v <;> rfl
theorem grdVC_of {o : Oper} {a : Act} {run skip : Act → Prop} (h : grdVC ops o a run skip) :
    (Region.wanted o (yielded ops a.tmps) = true ∧ run a) ∨ (Region.wanted o (yielded ops a.tmps) = false ∧ skip a) := by
  unfold grdVC at h
  cases hg : o.guard with
  | none => rw [hg] at h; exact .inl ⟨by simp [Region.wanted, hg], h⟩
  | some g =>
    obtain ⟨j, want⟩ := g
    rw [hg] at h
    simp only at h
    cases hd : (ops[j]?).bind (·.dst) with
    | none =>
      rw [hd] at h
      refine .inr ⟨?_, h⟩
      simp [Region.wanted, hg, yielded, hd]
    | some d =>
      rw [hd] at h
      simp only at h
      have hy := yielded_of (a := a) hd
      unfold Region.wanted
      rw [hg]
      simp only [hy]
      split at h
      · rename_i b hb
        cases b <;> cases want <;> simp only [ifB] at h <;> rw [subB_self hb] at h <;> simp [h]
      · rename_i hb
        refine .inr ⟨?_, h⟩
        cases hv : a.tmps.getD d undef <;> simp_all

/-- nothing turned but some temporaries -/
structure Same (d : Bool) (ds : List Nat) (a a' : Act) : Prop where
  df : d = true → a'.defers = a.defers
  sz : a'.tmps.size = a.tmps.size
  at_ : ∀ s, s ∉ ds → a'.tmps[s]? = a.tmps[s]?
theorem Same.refl (d : Bool) (ds : List Nat) (a : Act) : Same d ds a a := ⟨fun _ => rfl, rfl, fun _ _ => rfl⟩
theorem Same.trans {d : Bool} {ds : List Nat} {a b c : Act} (h : Same d ds a b) (k : Same d ds b c) : Same d ds a c :=
  ⟨fun hd => (k.df hd).trans (h.df hd), k.sz.trans h.sz, fun s hs => (k.at_ s hs).trans (h.at_ s hs)⟩
theorem Same.mono {d d' : Bool} {ds ds' : List Nat} {a b : Act} (h : Same d ds a b) (hd : d' = true → d = true) (hs : ∀ s ∈ ds, s ∈ ds') : Same d' ds' a b :=
  ⟨fun h' => h.df (hd h'), h.sz, fun s hs' => h.at_ s fun hc => hs' (hs s hc)⟩
theorem Same.put {d : Bool} {ds : List Nat} {a b : Act} (h : Same d ds a b) {dst : Option Tmp} (hd : ∀ t, dst = some t → t ∈ ds) (v : Value) : Same d ds a (b.put dst v) := by
  cases dst with
  | none => exact h
  | some t =>
    refine ⟨h.df, by simpa [Act.put] using h.sz, fun s hs => ?_⟩
    have hne : t ≠ s := fun e => hs (e ▸ hd t rfl)
    simp only [Act.put, Array.getElem?_setIfInBounds_ne hne]
    exact h.at_ s hs
def dstsOf (ops : List Oper) : List Nat := ops.filterMap (·.dst)
theorem mem_dsts {o : Oper} {l : List Oper} (h : o ∈ l) {t : Nat} (ht : o.dst = some t) : t ∈ dstsOf l := List.mem_filterMap.2 ⟨o, h, ht⟩

/-- a region in its order -/
def regVC (P : Program) (ops : Array Oper) (K : Act → World → Prop) : List Oper → Act → World → Prop
  | [], a, w => K a w
  | o :: rest, a, w => grdVC ops o a (fun a => opVC P a.eval o.op o.type w fun v w' => regVC P ops K rest (a.put o.dst v) w') (fun a => regVC P ops K rest (a.put o.dst undef) w)
theorem regVC_ops {K : Act → World → Prop} {Q : Exit → Act → World → Prop} {ds : List Nat} {a0 : Act} (hK : ∀ a w, Same true ds a0 a → K a w → Q .normal a w) :
    ∀ (l : List Oper) (k : Nat) (a : Act) (w : World), (∀ j, l[j]? = ops[k + j]?) → (∀ t ∈ dstsOf l, t ∈ ds) → Same true ds a0 a → regVC P ops K l a w → wpOpsIn (Fw ro) n P ops Q (List.range' k l.length) a w
  | [], k, a, w, _, _, hs, h => hK _ _ hs h
  | o :: l, k, a, w, hl, hds, hs, h => by
    have hsp : ∀ v, Same true ds a0 (a.put o.dst v) := fun v => hs.put (fun t ht => hds t (mem_dsts (by simp) ht)) v
    have hds' : ∀ t ∈ dstsOf l, t ∈ ds := fun t ht => hds t (by obtain ⟨x, hx, hxt⟩ := List.mem_filterMap.1 ht; exact mem_dsts (List.mem_cons_of_mem _ hx) hxt)
    have h0 : ops[k]? = some o := by simpa using (hl 0).symm
    have hl' : ∀ j, l[j]? = ops[k + 1 + j]? := fun j => by have := hl (j + 1); simpa [Nat.add_assoc, Nat.add_comm 1 j] using this
    simp only [List.length_cons, List.range'_succ, wpOpsIn, h0]
    rcases grdVC_of h with ⟨hw, h⟩ | ⟨hw, h⟩
    · rw [if_pos hw]
      exact goes_wpIn (opVC_noDefer h) (opVC_goes (fun _ => rfl) h) fun v w' hv => regVC_ops hK l (k + 1) _ _ hl' hds' (hsp v) hv
    · rw [if_neg (by rw [hw]; simp)]
      exact ⟨fun _ _ => trivial, regVC_ops hK l (k + 1) _ _ hl' hds' (hsp _) h⟩
theorem regVC_wpIn {K : Act → World → Prop} {Q : Exit → Act → World → Prop} {id : Nat} {a : Act} {w : World} (hK : ∀ a' w, Same true (dstsOf ops.toList) a a' → K a' w → Q .normal a' w)
    (h : regVC P ops K ops.toList a w) : (Code.region id ops false).wpIn (Fw ro) n P Q a w :=
  wpIn_region (by
    have := regVC_ops (ro := ro) (n := n) (ops := ops) hK ops.toList 0 a w (fun j => by simp) (fun _ h => h) (Same.refl _ _ _) h
    rwa [Array.length_toList, ← List.range_eq_range'] at this)

/-! ### a region whose order is drawn -/
abbrev Pend := List (Nat × (World → Prop))
def needs (o : Oper) : List Nat := (o.after.toList.filter fun e => Region.binds .any e).map (·.on)
def anc (ops : Array Oper) : Nat → Nat → Nat → Bool
  | 0, _, _ => false
  | f + 1, i, j => match ops[j]? with
    | some o => (needs o).any fun k => k == i || anc ops f i k
    | none => false
def takable (P : Program) (ops : Array Oper) (listed : Array Bool) (i : Nat) : Bool := match ops[i]? with
  | some o => (isIn P o.op || isRd P o.op) && Region.free .any ops listed i
  | none => false
def keep (ops : Array Oper) (i : Nat) (w : World) (C : Prop) : Pend → Prop
  | [] => C
  | (j, S) :: r => if anc ops ops.size j i then keep ops i w C r else S w ∧ keep ops i w C r
def dropP (ops : Array Oper) (i : Nat) : Pend → Pend
  | [] => []
  | (j, S) :: r => if anc ops ops.size j i then dropP ops i r else (j, S) :: dropP ops i r
def allVC (C : Nat → Prop) : List Nat → Prop
  | [] => True
  | [i] => C i
  | i :: r => C i ∧ allVC C r
def drawVC (P : Program) (ops : Array Oper) (K : Act → World → Prop) : Nat → Array Bool → Act → World → Pend → Prop
  | 0, _, _, _, _ => False
  | f + 1, listed, a, w, pend =>
    match (Region.ready .any ops listed).find? (takable P ops listed) with
    | some i => (match ops[i]? with
      | none => False
      | some o => grdVC ops o a
          (fun a => if isIn P o.op then inVC P a.eval o.op fun v => drawVC P ops K f (listed.setIfInBounds i true) (a.put o.dst v) w pend
            else rdVC P a.eval o.op o.type w fun S v => drawVC P ops K f (listed.setIfInBounds i true) (a.put o.dst v) w ((i, S) :: pend))
          (fun a => drawVC P ops K f (listed.setIfInBounds i true) (a.put o.dst undef) w pend))
    | none => match Region.ready .any ops listed with
      | [] => K a w
      | j :: r => allVC (fun i => match ops[i]? with
          | none => False
          | some o => grdVC ops o a
              (fun a => opVC P a.eval o.op o.type w fun v w' => keep ops i w' (drawVC P ops K f (listed.setIfInBounds i true) (a.put o.dst v) w' (dropP ops i pend)) pend)
              (fun a => drawVC P ops K f (listed.setIfInBounds i true) (a.put o.dst undef) w pend)) (j :: r)
theorem allVC_mem {C : Nat → Prop} : ∀ {l : List Nat}, allVC C l → ∀ i ∈ l, C i
  | [i], h, j, hj => by simp at hj; subst hj; exact h
  | i :: k :: r, h, j, hj => by
    rcases List.mem_cons.1 hj with rfl | hj
    · exact h.1
    · exact allVC_mem h.2 j hj
theorem keep_of {i : Nat} {w : World} {C : Prop} : ∀ {p : Pend}, keep ops i w C p → C ∧ ∀ e ∈ dropP ops i p, e.2 w
  | [], h => ⟨h, by simp [dropP]⟩
  | (j, S) :: r, h => by
    unfold keep at h
    unfold dropP
    split at h
    · rename_i hc; rw [if_pos hc]; exact keep_of h
    · rename_i hc
      rw [if_neg hc]
      obtain ⟨h1, h2⟩ := keep_of h.2
      refine ⟨h1, ?_⟩
      intro e he
      rcases List.mem_cons.1 he with rfl | he
      · exact h.1
      · exact h2 e he
theorem mem_dropP {i j : Nat} {S : World → Prop} (hn : anc ops ops.size j i = false) : ∀ {p : Pend}, (j, S) ∈ p → (j, S) ∈ dropP ops i p
  | (k, T) :: r, h => by
    unfold dropP
    rcases List.mem_cons.1 h with h | h
    · cases h; rw [if_neg (by rw [hn]; simp)]; exact List.mem_cons_self
    · split
      · exact mem_dropP hn h
      · exact List.mem_cons_of_mem _ (mem_dropP hn h)

structure Vt where
  i : Nat
  o : Oper
  v : Value
  S : World → Prop
def fin : List Vt → Act → Act
  | [], a => a
  | e :: V, a => fin V (a.put e.o.dst e.v)
def Chain (P : Program) (ops : Array Oper) : List Vt → Act → Prop
  | [], _ => True
  | e :: V, a => YieldsIf P ops e.S e.o e.v a ∧ Chain P ops V (a.put e.o.dst e.v)
def Fr (ops : Array Oper) (lc : Array Bool) : List Vt → Prop
  | [] => True
  | e :: V => (∀ j oj, ops[j]? = some oj → j ≠ e.i → (lc.getD j true = false ∨ ∃ x ∈ V, x.i = j) → (∀ x ∈ oj.after, Region.binds .any x = true → x.on ≠ e.i) → e.o.apart ops oj = true) ∧ Fr ops lc V
def Dp (lr : Array Bool) : List Vt → List Nat → Prop
  | [], _ => True
  | e :: V, seen => (∀ x ∈ e.o.after, Region.binds .any x = true → lr.getD x.on false = true ∨ x.on ∈ seen) ∧ Dp lr V (e.i :: seen)
structure Inv (P : Program) (ops : Array Oper) (lr lc : Array Bool) (V : List Vt) (ar : Act) (w : World) (pend : Pend) : Prop where
  sr : lr.size = ops.size
  sc : lc.size = ops.size
  hl : ∀ k, k < ops.size → (lc.getD k true = true ↔ lr.getD k true = true ∨ ∃ e ∈ V, e.i = k)
  hV : ∀ e ∈ V, ops[e.i]? = some e.o ∧ lr.getD e.i true = false ∧ (∀ c, e.o.op ≠ .defer c)
  nd : (V.map (·.i)).Nodup
  ch : Chain P ops V ar
  fr : Fr ops lc V
  dp : Dp lr V []
  hS : ∀ e ∈ V, e.S w
  hp : ∀ e ∈ V, (e.i, e.S) ∈ pend ∨ ∀ w, e.S w
  cl : ∀ k o, lr.getD k false = true → ops[k]? = some o → ∀ x ∈ o.after, Region.binds .any x = true → lr.getD x.on false = true

theorem yieldsIf_put (hs : Region.noSelect ops = true) {e : Vt} {i j : Nat} {oj : Oper} {a : Act} (hi : ops[i]? = some e.o) (_hj : ops[j]? = some oj) (h : YieldsIf P ops e.S e.o e.v a) (hap : e.o.apart ops oj = true) (u : Value) :
    YieldsIf P ops e.S e.o e.v (a.put oj.dst u) := by
  obtain ⟨h1, h2, h3⟩ := Oper.apart_spec hap
  exact h.of_same (execOp_put e.o (fun cs b => Region.noSelect_spec hs i e.o cs b hi) a oj.dst u h3) (wanted_put e.o a oj.dst u h3)
theorem past {hs : Region.noSelect ops = true} {j : Nat} {oj : Oper} (hj : ops[j]? = some oj) (u : Value) : ∀ (V : List Vt) (a : Act), (∀ e ∈ V, ops[e.i]? = some e.o) → (∀ e ∈ V, e.o.apart ops oj = true) → Chain P ops V a →
    Chain P ops V (a.put oj.dst u) ∧ fin V (a.put oj.dst u) = (fin V a).put oj.dst u ∧ execOp (fin V a).eval oj = execOp a.eval oj ∧
      Region.wanted oj (yielded ops (fin V a).tmps) = Region.wanted oj (yielded ops a.tmps)
  | [], a, _, _, _ => ⟨trivial, rfl, rfl, rfl⟩
  | e :: V, a, hV, hA, hc => by
    have hap := hA e (by simp)
    obtain ⟨h1, h2, h3⟩ := Oper.apart_spec hap
    obtain ⟨i1, i2, i3, i4⟩ := past (hs := hs) hj u V (a.put e.o.dst e.v) (fun x hx => hV x (by simp [hx])) (fun x hx => hA x (by simp [hx])) hc.2
    have hcm : (a.put e.o.dst e.v).put oj.dst u = (a.put oj.dst u).put e.o.dst e.v := Act.put_comm a e.v u h2
    refine ⟨⟨yieldsIf_put hs (hV e (by simp)) hj hc.1 hap u, by rw [← hcm]; exact i1⟩, ?_, ?_, ?_⟩
    · show fin V ((a.put oj.dst u).put e.o.dst e.v) = _
      rw [← hcm]; exact i2
    · exact i3.trans (execOp_put oj (fun cs b => Region.noSelect_spec hs j oj cs b hj) a e.o.dst e.v h1)
    · exact i4.trans (wanted_put oj a e.o.dst e.v h1)
theorem extract {hs : Region.noSelect ops = true} (e : Vt) (he : ops[e.i]? = some e.o) (V2 : List Vt) : ∀ (V1 : List Vt) (a : Act), (∀ x ∈ V1, ops[x.i]? = some x.o) → (∀ x ∈ V1, x.o.apart ops e.o = true) → Chain P ops (V1 ++ e :: V2) a →
    YieldsIf P ops e.S e.o e.v a ∧ Chain P ops (V1 ++ V2) (a.put e.o.dst e.v) ∧ fin (V1 ++ e :: V2) a = fin (V1 ++ V2) (a.put e.o.dst e.v)
  | [], a, _, _, hc => ⟨hc.1, hc.2, rfl⟩
  | x :: V1, a, hV, hA, hc => by
    have hap := hA x (by simp)
    obtain ⟨h1, h2, h3⟩ := Oper.apart_spec hap
    obtain ⟨i1, i2, i3⟩ := extract (hs := hs) e he V2 V1 (a.put x.o.dst x.v) (fun y hy => hV y (by simp [hy])) (fun y hy => hA y (by simp [hy])) hc.2
    have hcm : (a.put x.o.dst x.v).put e.o.dst e.v = (a.put e.o.dst e.v).put x.o.dst x.v := Act.put_comm a x.v e.v h2
    refine ⟨?_, ⟨yieldsIf_put hs (hV x (by simp)) he hc.1 hap e.v, by rw [← hcm]; exact i2⟩, ?_⟩
    · exact i1.of_same (execOp_put e.o (fun cs b => Region.noSelect_spec hs e.i e.o cs b he) a x.o.dst x.v h1).symm (wanted_put e.o a x.o.dst x.v h1).symm
    · show fin (V1 ++ e :: V2) (a.put x.o.dst x.v) = _
      rw [i3, hcm]; rfl
theorem fin_append (V : List Vt) (e : Vt) : ∀ a, fin (V ++ [e]) a = (fin V a).put e.o.dst e.v := by
  induction V with
  | nil => intro a; rfl
  | cons x V ih => intro a; exact ih _
theorem chain_append {V : List Vt} {e : Vt} : ∀ {a : Act}, Chain P ops V a → YieldsIf P ops e.S e.o e.v (fin V a) → Chain P ops (V ++ [e]) a := by
  induction V with
  | nil => intro a _ h; exact ⟨h, trivial⟩
  | cons x V ih => intro a hc h; exact ⟨hc.1, ih hc.2 h⟩
theorem countP_lt {p q : Nat → Bool} : ∀ {l : List Nat}, (∀ x, q x = true → p x = true) → (∃ x ∈ l, p x = true ∧ q x = false) → l.countP q < l.countP p
  | [], _, h => by obtain ⟨x, hx, _⟩ := h; simp at hx
  | y :: l, hpq, h => by
    have hle : l.countP q ≤ l.countP p := List.countP_mono_left fun x _ => hpq x
    obtain ⟨x, hx, h1, h2⟩ := h
    rw [List.countP_cons, List.countP_cons]
    rcases List.mem_cons.1 hx with rfl | hx
    · rw [if_pos h1, if_neg (by rw [h2]; simp)]; omega
    · have := countP_lt hpq ⟨x, hx, h1, h2⟩
      by_cases hy : q y = true
      · rw [if_pos hy, if_pos (hpq y hy)]; omega
      · rw [if_neg hy]; split <;> omega
theorem anc_closed {lr : Array Bool} (cl : ∀ k o, lr.getD k false = true → ops[k]? = some o → ∀ x ∈ o.after, Region.binds .any x = true → lr.getD x.on false = true) :
    ∀ (f i j : Nat), (∀ o, ops[j]? = some o → ∀ x ∈ o.after, Region.binds .any x = true → lr.getD x.on false = true) → anc ops f i j = true → lr.getD i false = true
  | 0, _, _, _, h => by simp [anc] at h
  | f + 1, i, j, hj, h => by
    unfold anc at h
    cases ho : ops[j]? with
    | none => rw [ho] at h; simp at h
    | some o =>
      rw [ho] at h
      simp only [List.any_eq_true] at h
      obtain ⟨k, hk, h⟩ := h
      simp only [needs, List.mem_map, List.mem_filter] at hk
      obtain ⟨x, ⟨hx, hb⟩, rfl⟩ := hk
      have hx' := hj o ho x (by simpa using hx) hb
      rcases Bool.or_eq_true _ _ ▸ h with h | h
      · have : x.on = i := by simpa using h
        rw [← this]; exact hx'
      · exact anc_closed cl f i x.on (fun o' ho' => cl x.on o' hx' ho') h

theorem getD_set_self {l : Array Bool} {i : Nat} (d : Bool) (h : i < l.size) : (l.setIfInBounds i true).getD i d = true := by
  simp [Array.getD_eq_getD_getElem?, h]
theorem getD_set {l : Array Bool} {i j : Nat} (d : Bool) (h : i < l.size) : (l.setIfInBounds i true).getD j d = true ↔ j = i ∨ l.getD j d = true := by
  by_cases hij : i = j
  · subst hij; simp [getD_set_self d h]
  · rw [getD_set_ne d hij]
    constructor
    · exact .inr
    · rintro (h' | h')
      · exact absurd h'.symm hij
      · exact h'
theorem getD_tf {l : Array Bool} {k : Nat} (h : k < l.size) : l.getD k true = l.getD k false := by simp [Array.getD_eq_getD_getElem?, h]
theorem getD_lt {l : Array Bool} {k : Nat} (h : l.getD k true = false) : k < l.size := by
  rcases Nat.lt_or_ge k l.size with h' | h'
  · exact h'
  · simp [Array.getD_eq_getD_getElem?, Array.getElem?_eq_none h'] at h
theorem getD_lt' {l : Array Bool} {k : Nat} (h : l.getD k false = true) : k < l.size := by
  rcases Nat.lt_or_ge k l.size with h' | h'
  · exact h'
  · simp [Array.getD_eq_getD_getElem?, Array.getElem?_eq_none h'] at h
theorem Fr_mem {lc : Array Bool} : ∀ {V : List Vt}, Fr ops lc V → ∀ e ∈ V, ∀ j oj, ops[j]? = some oj → j ≠ e.i → lc.getD j true = false → (∀ x ∈ oj.after, Region.binds .any x = true → x.on ≠ e.i) → e.o.apart ops oj = true := by
  intro V
  induction V with
  | nil => intro _ e he; cases he
  | cons x V ih =>
    intro h e he j oj hj hne hu hw
    rcases List.mem_cons.1 he with he | he
    · rw [he] at hne hw ⊢
      exact h.1 j oj hj hne (.inl hu) hw
    · exact ih h.2 e he j oj hj hne hu hw
theorem Fr_mono {lc lc' : Array Bool} (hm : ∀ j, lc'.getD j true = false → lc.getD j true = false) : ∀ {V : List Vt}, Fr ops lc V → Fr ops lc' V
  | [], _ => trivial
  | _ :: _, h => ⟨fun j oj hj hne hu hw => h.1 j oj hj hne (hu.imp (hm j) id) hw, Fr_mono hm h.2⟩
theorem Fr_remove {lc : Array Bool} {e : Vt} {V2 : List Vt} : ∀ {V1 : List Vt}, Fr ops lc (V1 ++ e :: V2) → Fr ops lc (V1 ++ V2)
  | [], h => h.2
  | _ :: V1, h => ⟨fun j oj hj hne hu hw => h.1 j oj hj hne (hu.imp id fun ⟨x, hx, hxj⟩ => ⟨x, by
      rcases List.mem_append.1 hx with h' | h'
      · exact List.mem_append_left _ h'
      · exact List.mem_append_right _ (List.mem_cons_of_mem _ h'), hxj⟩) hw, Fr_remove h.2⟩
theorem Fr_before {lc : Array Bool} {e : Vt} {V2 : List Vt} : ∀ {V1 : List Vt}, Fr ops lc (V1 ++ e :: V2) → ∀ x ∈ V1, ops[e.i]? = some e.o → e.i ≠ x.i → (∀ y ∈ e.o.after, Region.binds .any y = true → y.on ≠ x.i) → x.o.apart ops e.o = true := by
  intro V1
  induction V1 with
  | nil => intro _ x hx; cases hx
  | cons z V1 ih =>
    intro h x hx he hne hw
    rcases List.mem_cons.1 hx with hx | hx
    · rw [hx] at hne hw ⊢
      exact h.1 e.i e.o he hne (.inr ⟨e, by simp, rfl⟩) hw
    · exact ih h.2 x hx he hne hw
theorem Fr_append {lc lc' : Array Bool} {e : Vt} (hm : ∀ j, lc'.getD j true = false → lc.getD j true = false) (he : lc.getD e.i true = false)
    (hfree : ∀ j oj, ops[j]? = some oj → j ≠ e.i → lc'.getD j true = false → (∀ x ∈ oj.after, Region.binds .any x = true → x.on ≠ e.i) → e.o.apart ops oj = true) :
    ∀ {V : List Vt}, Fr ops lc V → Fr ops lc' (V ++ [e]) := by
  intro V
  induction V with
  | nil =>
    intro _
    refine ⟨fun j oj hj hne hu hw => hfree j oj hj hne ?_ hw, trivial⟩
    rcases hu with h | ⟨x, hx, _⟩
    · exact h
    · cases hx
  | cons z V ih =>
    intro h
    refine ⟨fun j oj hj hne hu hw => ?_, ih h.2⟩
    rcases hu with hu | ⟨x, hx, hxj⟩
    · exact h.1 j oj hj hne (.inl (hm j hu)) hw
    · rcases List.mem_append.1 hx with h' | h'
      · exact h.1 j oj hj hne (.inr ⟨x, h', hxj⟩) hw
      · have h'' : x = e := by simpa using h'
        rw [h''] at hxj
        rw [← hxj] at hj hne
        exact h.1 _ oj hj hne (.inl he) hw
theorem Dp_mono {lr lr' : Array Bool} (hm : ∀ j, lr.getD j false = true → lr'.getD j false = true) : ∀ {V : List Vt} {s s' : List Nat}, (∀ k ∈ s, k ∈ s' ∨ lr'.getD k false = true) → Dp lr V s → Dp lr' V s'
  | [], _, _, _, _ => trivial
  | e :: V, s, s', hs, h => ⟨fun x hx hb => (h.1 x hx hb).elim (fun h' => .inl (hm _ h')) fun h' => (hs _ h').symm, Dp_mono hm (fun k hk => by
      rcases List.mem_cons.1 hk with rfl | hk
      · exact .inl (by simp)
      · exact (hs k hk).imp (fun h => List.mem_cons_of_mem _ h) id) h.2⟩
theorem Dp_remove {lr lr' : Array Bool} (hm : ∀ j, lr.getD j false = true → lr'.getD j false = true) {e : Vt} (he : lr'.getD e.i false = true) {V2 : List Vt} : ∀ {V1 : List Vt} {s : List Nat}, Dp lr (V1 ++ e :: V2) s → Dp lr' (V1 ++ V2) s
  | [], _, h => Dp_mono hm (fun k hk => by
      rcases List.mem_cons.1 hk with rfl | hk
      · exact .inr he
      · exact .inl hk) h.2
  | _ :: V1, _, h => ⟨fun x hx hb => (h.1 x hx hb).imp (hm _) id, Dp_remove hm he h.2⟩
theorem Dp_append {lr : Array Bool} {e : Vt} : ∀ {V : List Vt} {s : List Nat}, Dp lr V s → (∀ x ∈ e.o.after, Region.binds .any x = true → lr.getD x.on false = true ∨ x.on ∈ s ∨ ∃ y ∈ V, y.i = x.on) → Dp lr (V ++ [e]) s := by
  intro V
  induction V with
  | nil =>
    intro s _ h
    refine ⟨fun x hx hb => ?_, trivial⟩
    rcases h x hx hb with h | h | ⟨y, hy, _⟩
    · exact .inl h
    · exact .inr h
    · cases hy
  | cons z V ih =>
    intro s hd h
    refine ⟨hd.1, ih hd.2 fun x hx hb => ?_⟩
    rcases h x hx hb with h | h | ⟨y, hy, hyx⟩
    · exact .inl h
    · exact .inr (.inl (List.mem_cons_of_mem _ h))
    · rcases List.mem_cons.1 hy with hy | hy
      · rw [hy] at hyx
        exact .inr (.inl (by rw [← hyx]; exact List.mem_cons_self))
      · exact .inr (.inr ⟨y, hy, hyx⟩)
/-- one operation is really carried out: the listed ones grow by it -/
theorem Inv.listed {lr : Array Bool} {i : Nat} (hs : lr.size = ops.size) (hi : i ∈ Region.ready .any ops lr) (cl : ∀ k o, lr.getD k false = true → ops[k]? = some o → ∀ x ∈ o.after, Region.binds .any x = true → lr.getD x.on false = true) :
    i < lr.size ∧ (∀ k o, (lr.setIfInBounds i true).getD k false = true → ops[k]? = some o → ∀ x ∈ o.after, Region.binds .any x = true → (lr.setIfInBounds i true).getD x.on false = true) ∧
    ((List.range ops.size).countP fun k => !(lr.setIfInBounds i true).getD k true) < (List.range ops.size).countP fun k => !lr.getD k true := by
  obtain ⟨hu, oi, hoi, hdeps⟩ := mem_ready.1 hi
  have hlt := getD_lt hu
  refine ⟨hlt, fun k o hk ho x hx hb => ?_, countP_lt (fun k hk => ?_) ⟨i, by rw [List.mem_range, ← hs]; exact hlt, by simp [hu], by simp [getD_set_self true hlt]⟩⟩
  · rcases (getD_set false hlt).1 hk with rfl | hk
    · rw [hoi] at ho; cases ho
      exact getD_set_true (hdeps x hx hb)
    · exact getD_set_true (cl k o hk ho x hx hb)
  · cases h : lr.getD k true with
    | false => rfl
    | true => rw [(getD_set true hlt).2 (.inr h)] at hk; exact hk
theorem ready_end {K : Act → World → Prop} {Q : Exit → Act → World → Prop} {a0 : Act} (hK : ∀ a w, Same true (dstsOf ops.toList) a0 a → K a w → Q .normal a w) {lr lc : Array Bool} {V : List Vt} {ar : Act} {w : World} {pend : Pend} {fc : Nat}
    (hA : Same true (dstsOf ops.toList) a0 ar) (hI : Inv P ops lr lc V ar w pend) (hr : Region.ready .any ops lr = []) (h : drawVC P ops K fc lc (fin V ar) w pend) : Q .normal ar w := by
  cases V with
  | cons e V =>
    have : e.i ∈ Region.ready .any ops lr := by
      obtain ⟨h1, h2, _⟩ := hI.hV e (by simp)
      exact mem_ready.2 ⟨h2, e.o, h1, fun x hx hb => (hI.dp.1 x hx hb).elim id fun h' => by simp at h'⟩
    rw [hr] at this
    cases this
  | nil =>
    have he : lc = lr := by
      apply Array.ext
      · rw [hI.sc, hI.sr]
      · intro k h1 h2
        have hk := hI.hl k (by rw [← hI.sc]; exact h1)
        have e1 : lc.getD k true = lc[k] := by simp [Array.getD_eq_getD_getElem?, h1]
        have e2 : lr.getD k true = lr[k] := by simp [Array.getD_eq_getD_getElem?, h2]
        rw [e1, e2] at hk
        cases hx : lc[k] <;> cases hy : lr[k] <;> simp [hx, hy] at hk ⊢
    subst he
    cases fc with
    | zero => exact h.elim
    | succ f =>
      unfold drawVC at h
      rw [hr] at h
      exact hK _ _ hA h

theorem yields_wpOp {e : Vt} {Q : Exit → Act → World → Prop} {K : Act → World → Prop} {a : Act} {w : World} (he : ops[e.i]? = some e.o) (hd : ∀ c, e.o.op ≠ .defer c)
    (hy : YieldsIf P ops e.S e.o e.v a) (hS : e.S w) (h : K (a.put e.o.dst e.v) w) : wpOpIn (Fw ro) n P ops Q e.i K a w := by
  unfold wpOpIn
  rw [he]
  simp only
  rcases hy with ⟨hw, hv⟩ | ⟨hw, hv⟩
  · rw [if_pos hw]
    exact goes_wpIn (C := fun v w' => K (a.put e.o.dst v) w') hd (by rw [hv w hS]; exact h) (fun _ _ h => h)
  · rw [if_neg (by rw [hw]; simp)]
    rw [hv] at h
    exact ⟨fun _ _ => trivial, h⟩
/-- what the canonical order has taken already is carried out -/
theorem step_taken {hs : Region.noSelect ops = true} {lr lc : Array Bool} {V : List Vt} {ar : Act} {w : World} {pend : Pend} (hI : Inv P ops lr lc V ar w pend) {e : Vt} (he : e ∈ V) (hi : e.i ∈ Region.ready .any ops lr) :
    YieldsIf P ops e.S e.o e.v ar ∧ ∃ V', Inv P ops (lr.setIfInBounds e.i true) lc V' (ar.put e.o.dst e.v) w pend ∧ fin V ar = fin V' (ar.put e.o.dst e.v) := by
  obtain ⟨V1, V2, rfl⟩ := List.append_of_mem he
  obtain ⟨hlt, cl', _⟩ := Inv.listed hI.sr hi hI.cl
  obtain ⟨hu, oi, hoi, hdeps⟩ := mem_ready.1 hi
  have hVe := hI.hV e he
  have hoe : oi = e.o := by rw [hVe.1] at hoi; exact (Option.some.inj hoi).symm
  subst hoe
  have hnd := hI.nd
  rw [List.map_append, List.map_cons, List.nodup_append] at hnd
  obtain ⟨n1, n2, n3⟩ := hnd
  rw [List.nodup_cons] at n2
  have hne : ∀ x ∈ V1 ++ V2, x.i ≠ e.i := by
    intro x hx
    rcases List.mem_append.1 hx with h | h
    · exact n3 x.i (List.mem_map_of_mem h) e.i (by simp)
    · intro hc
      exact n2.1 (by rw [← hc]; exact List.mem_map_of_mem h)
  have hsub : ∀ x ∈ V1 ++ V2, x ∈ V1 ++ e :: V2 := fun x hx => by
    rcases List.mem_append.1 hx with h | h
    · exact List.mem_append_left _ h
    · exact List.mem_append_right _ (List.mem_cons_of_mem _ h)
  have hap : ∀ x ∈ V1, x.o.apart ops e.o = true := fun x hx =>
    Fr_before hI.fr x hx hVe.1 (fun h => hne x (List.mem_append_left _ hx) h.symm) fun y hy hb hc => by
      have h1 := hdeps y hy hb
      have h2 := (hI.hV x (List.mem_append_left _ hx)).2.1
      rw [hc] at h1
      rw [getD_tf (getD_lt h2), h1] at h2
      cases h2
  obtain ⟨x1, x2, x3⟩ := extract (hs := hs) e hVe.1 V2 V1 ar (fun x hx => (hI.hV x (List.mem_append_left _ hx)).1) hap hI.ch
  refine ⟨x1, V1 ++ V2, ⟨by simp [hI.sr], hI.sc, fun k hk => ?_, fun x hx => ?_, ?_, x2, Fr_remove hI.fr, ?_, fun x hx => hI.hS x (hsub x hx), fun x hx => hI.hp x (hsub x hx), cl'⟩, x3⟩
  · rw [hI.hl k hk, getD_set true hlt]
    constructor
    · rintro (h | ⟨x, hx, rfl⟩)
      · exact .inl (.inr h)
      · rcases List.mem_append.1 hx with h | h
        · exact .inr ⟨x, List.mem_append_left _ h, rfl⟩
        · rcases List.mem_cons.1 h with rfl | h
          · exact .inl (.inl rfl)
          · exact .inr ⟨x, List.mem_append_right _ h, rfl⟩
    · rintro ((rfl | h) | ⟨x, hx, rfl⟩)
      · exact .inr ⟨e, he, rfl⟩
      · exact .inl h
      · exact .inr ⟨x, hsub x hx, rfl⟩
  · obtain ⟨h1, h2, h3⟩ := hI.hV x (hsub x hx)
    exact ⟨h1, by rw [getD_set_ne true (fun h => hne x hx h.symm)]; exact h2, h3⟩
  · rw [List.map_append, List.nodup_append]
    exact ⟨n1, n2.2, fun a ha b hb => n3 a ha b (List.mem_cons_of_mem _ hb)⟩
  · exact Dp_remove (fun j hj => getD_set_true hj) (getD_set_self false hlt) hI.dp

theorem isIn_noDefer {op : Op} (h : (isIn P op || isRd P op) = true) : ∀ c, op ≠ .defer c := by
  rintro c rfl
  simp [isIn, isRd] at h

/-- the canonical order takes one operation more -/
theorem inv_take {_hs : Region.noSelect ops = true} {lr lc : Array Bool} {V : List Vt} {ar : Act} {w : World} {pend pend' : Pend} (hI : Inv P ops lr lc V ar w pend) {i : Nat} {o : Oper} (ho : ops[i]? = some o) (hr : i ∈ Region.ready .any ops lc)
    (hf : Region.free .any ops lc i = true) (hd : ∀ c, o.op ≠ .defer c) {v : Value} {S : World → Prop} (hy : YieldsIf P ops S o v (fin V ar)) (hS : S w) (hp : (i, S) ∈ pend' ∨ ∀ w, S w) (hsub : ∀ e ∈ pend, e ∈ pend') :
    Inv P ops lr (lc.setIfInBounds i true) (V ++ [⟨i, o, v, S⟩]) ar w pend' := by
  obtain ⟨hu, oi, hoi, hdeps⟩ := mem_ready.1 hr
  have hlt := getD_lt hu
  have hunl : lr.getD i true = false := by
    cases h : lr.getD i true with
    | false => rfl
    | true => rw [(hI.hl i (by rw [← hI.sc]; exact hlt)).2 (.inl h)] at hu; exact hu
  have hnot : ∀ x ∈ V, x.i ≠ i := fun x hx hc => by
    rw [(hI.hl i (by rw [← hI.sc]; exact hlt)).2 (.inr ⟨x, hx, hc⟩)] at hu; cases hu
  rw [hoi] at ho; cases ho
  have hmono : ∀ j, (lc.setIfInBounds i true).getD j true = false → lc.getD j true = false := fun j hj => by
    cases h : lc.getD j true with
    | false => rfl
    | true => rw [(getD_set true hlt).2 (.inr h)] at hj; exact hj
  refine ⟨hI.sr, by simp [hI.sc], fun k hk => ?_, fun x hx => ?_, ?_, chain_append hI.ch hy, ?_, ?_, fun x hx => ?_, fun x hx => ?_, hI.cl⟩
  · rw [getD_set true hlt, hI.hl k hk]
    constructor
    · rintro (rfl | h | ⟨x, hx, rfl⟩)
      · exact .inr ⟨_, List.mem_append_right _ (List.mem_singleton.2 rfl), rfl⟩
      · exact .inl h
      · exact .inr ⟨x, List.mem_append_left _ hx, rfl⟩
    · rintro (h | ⟨x, hx, rfl⟩)
      · exact .inr (.inl h)
      · rcases List.mem_append.1 hx with h | h
        · exact .inr (.inr ⟨x, h, rfl⟩)
        · rw [List.mem_singleton] at h; subst h; exact .inl rfl
  · rcases List.mem_append.1 hx with h | h
    · exact hI.hV x h
    · rw [List.mem_singleton] at h; subst h; exact ⟨hoi, hunl, hd⟩
  · rw [List.map_append, List.nodup_append]
    refine ⟨hI.nd, by simp, fun a ha b hb => ?_⟩
    obtain ⟨x, hx, rfl⟩ := List.mem_map.1 ha
    have : b = i := by simpa using hb
    rw [this]; exact hnot x hx
  · refine Fr_append (e := ⟨i, o, v, S⟩) hmono hu (fun j oj hj hne hu' hw => ?_) hI.fr
    exact Region.free_spec hoi hf j oj hj hne (hmono j hu') hw
  · refine Dp_append hI.dp fun x hx hb => ?_
    have h1 := hdeps x hx hb
    have hlt' : x.on < ops.size := by rw [← hI.sc]; exact getD_lt' h1
    rw [← getD_tf (by rw [hI.sc]; exact hlt')] at h1
    rcases (hI.hl x.on hlt').1 h1 with h | ⟨y, hy, hyx⟩
    · rw [getD_tf (by rw [hI.sr]; exact hlt')] at h; exact .inl h
    · exact .inr (.inr ⟨y, hy, hyx⟩)
  · rcases List.mem_append.1 hx with h | h
    · exact hI.hS x h
    · rw [List.mem_singleton] at h; subst h; exact hS
  · rcases List.mem_append.1 hx with h | h
    · exact (hI.hp x h).imp (hsub _) id
    · rw [List.mem_singleton] at h; subst h; exact hp

/-- both orders carry out one operation that was not taken -/
theorem inv_both {hs : Region.noSelect ops = true} {lr lc : Array Bool} {V : List Vt} {ar : Act} {w w' : World} {pend pend' : Pend} (hI : Inv P ops lr lc V ar w pend) {i : Nat} {o : Oper} (ho : ops[i]? = some o) (hr : i ∈ Region.ready .any ops lr)
    (hu : lc.getD i true = false) (u : Value) (hS : ∀ e ∈ V, e.S w') (hp : ∀ e ∈ V, (e.i, e.S) ∈ pend' ∨ ∀ w, e.S w) (hap : ∀ e ∈ V, e.o.apart ops o = true) :
    Inv P ops (lr.setIfInBounds i true) (lc.setIfInBounds i true) V (ar.put o.dst u) w' pend' := by
  obtain ⟨hlt, cl', _⟩ := Inv.listed hI.sr hr hI.cl
  have hltc := getD_lt hu
  have hnot : ∀ x ∈ V, x.i ≠ i := fun x hx hc => by
    rw [(hI.hl i (by rw [← hI.sc]; exact hltc)).2 (.inr ⟨x, hx, hc⟩)] at hu; cases hu
  refine ⟨by simp [hI.sr], by simp [hI.sc], fun k hk => ?_, fun x hx => ?_, hI.nd, (past (hs := hs) ho u V ar (fun e he => (hI.hV e he).1) hap hI.ch).1, Fr_mono (fun j hj => ?_) hI.fr, Dp_mono (fun j hj => getD_set_true hj) (fun k hk => .inl hk) hI.dp, hS, hp, cl'⟩
  · rw [getD_set true hltc, getD_set true hlt, hI.hl k hk, or_assoc]
  · obtain ⟨h1, h2, h3⟩ := hI.hV x hx
    exact ⟨h1, by rw [getD_set_ne true (fun h => hnot x hx h.symm)]; exact h2, h3⟩
  · cases h : lc.getD j true with
    | false => rfl
    | true => rw [(getD_set true hltc).2 (.inr h)] at hj; exact hj

theorem draw_main {K : Act → World → Prop} {Q : Exit → Act → World → Prop} {a0 : Act} (hs : Region.noSelect ops = true) (hK : ∀ a w, Same true (dstsOf ops.toList) a0 a → K a w → Q .normal a w) :
    ∀ (fr : Nat) (lr : Array Bool) (ar : Act) (w : World) (fc : Nat) (lc : Array Bool) (V : List Vt) (pend : Pend), ((List.range ops.size).countP fun k => !lr.getD k true) ≤ fr → Same true (dstsOf ops.toList) a0 ar →
      Inv P ops lr lc V ar w pend → drawVC P ops K fc lc (fin V ar) w pend → wpAnyIn (Fw ro) n P .any ops Q fr lr ar w := by
  intro fr
  induction fr with
  | zero =>
    intro lr ar w fc lc V pend hc hA hI h
    have hr : Region.ready .any ops lr = [] := by
      apply List.eq_nil_iff_forall_not_mem.2
      intro j hj
      have := (Inv.listed hI.sr hj hI.cl).2.2
      omega
    exact ⟨hr, ready_end hK hA hI hr h⟩
  | succ fr ih =>
    intro lr ar w fc lc V pend hc hA hI h
    refine ⟨fun hr => ready_end hK hA hI hr h, fun i hi => ?_⟩
    have hAp : ∀ (o : Oper) (i : Nat) (v : Value), ops[i]? = some o → Same true (dstsOf ops.toList) a0 (ar.put o.dst v) := fun o i v ho =>
      hA.put (fun t ht => mem_dsts (List.mem_of_getElem? (by simpa using ho)) ht) v
    have taken : ∀ (fc : Nat) (lc : Array Bool) (V : List Vt) (pend : Pend), Inv P ops lr lc V ar w pend → drawVC P ops K fc lc (fin V ar) w pend → (∃ e ∈ V, e.i = i) →
        wpOpIn (Fw ro) n P ops Q i (wpAnyIn (Fw ro) n P .any ops Q fr (lr.setIfInBounds i true)) ar w := by
      rintro fc lc V pend hI h ⟨e, he, rfl⟩
      obtain ⟨hy, V', hI', hf⟩ := step_taken (hs := hs) hI he hi
      obtain ⟨h1, _, h3⟩ := hI.hV e he
      have hcnt := (Inv.listed hI.sr hi hI.cl).2.2
      exact yields_wpOp h1 h3 hy (hI.hS e he) (ih _ _ _ fc lc V' pend (by omega) (hAp _ _ _ h1) hI' (by rw [← hf]; exact h))
    by_cases hin : ∃ e ∈ V, e.i = i
    · exact taken fc lc V pend hI h hin
    · induction fc generalizing lc V pend with
      | zero => exact h.elim
      | succ fc ihc =>
        obtain ⟨hu, oi, hoi, hdeps⟩ := mem_ready.1 hi
        have hlt := getD_lt hu
        have hiu : lc.getD i true = false := by
          cases hx : lc.getD i true with
          | false => rfl
          | true =>
            rcases (hI.hl i (by rw [← hI.sr]; exact hlt)).1 hx with h' | h'
            · rw [h'] at hu; exact hu
            · exact absurd h' hin
        have hle : ∀ j, lr.getD j false = true → lc.getD j false = true := fun j hj => by
          have hj' := getD_lt' hj
          rw [← getD_tf (by rw [hI.sc, ← hI.sr]; exact hj')]
          exact (hI.hl j (by rw [← hI.sr]; exact hj')).2 (.inl (by rw [getD_tf hj']; exact hj))
        have hic : i ∈ Region.ready .any ops lc := mem_ready.2 ⟨hiu, oi, hoi, fun x hx hb => hle _ (hdeps x hx hb)⟩
        unfold drawVC at h
        cases hfd : (Region.ready .any ops lc).find? (takable P ops lc) with
        | some i0 =>
          rw [hfd] at h
          simp only at h
          have hm := List.mem_of_find?_eq_some hfd
          have htk := List.find?_some hfd
          cases ho0 : ops[i0]? with
          | none => rw [ho0] at h; exact h.elim
          | some o =>
            rw [ho0] at h
            simp only at h
            unfold takable at htk
            rw [ho0] at htk
            simp only [Bool.and_eq_true] at htk
            have hnd := isIn_noDefer htk.1
            have go : ∀ (v : Value) (S : World → Prop) (pend' : Pend), YieldsIf P ops S o v (fin V ar) → S w → ((i0, S) ∈ pend' ∨ ∀ w, S w) → (∀ e ∈ pend, e ∈ pend') →
                drawVC P ops K fc (lc.setIfInBounds i0 true) ((fin V ar).put o.dst v) w pend' → wpOpIn (Fw ro) n P ops Q i (wpAnyIn (Fw ro) n P .any ops Q fr (lr.setIfInBounds i true)) ar w := by
              intro v S pend' hy hS hp hsub hd
              have hI' := inv_take (_hs := hs) hI ho0 hm htk.2 hnd hy hS hp hsub
              have hd' : drawVC P ops K fc (lc.setIfInBounds i0 true) (fin (V ++ [⟨i0, o, v, S⟩]) ar) w pend' := by rw [fin_append]; exact hd
              by_cases hii : i0 = i
              · exact taken _ _ _ _ hI' hd' ⟨_, List.mem_append_right _ (List.mem_singleton.2 rfl), hii⟩
              · refine ihc _ _ _ hI' hd' ?_
                rintro ⟨e, he, hei⟩
                rcases List.mem_append.1 he with h' | h'
                · exact hin ⟨e, h', hei⟩
                · rw [List.mem_singleton] at h'; subst h'; exact hii hei
            rcases grdVC_of h with ⟨hw, h⟩ | ⟨hw, h⟩
            · split at h
              · obtain ⟨v, hr, h⟩ := inVC_run h
                exact go v (fun _ => True) pend (.inl ⟨hw, fun w _ => hr w⟩) trivial (.inr fun _ => trivial) (fun _ h => h) h
              · obtain ⟨v, S, hS, hr, h⟩ := rdVC_run h
                exact go v S _ (.inl ⟨hw, hr⟩) hS (.inl (by simp)) (fun _ h => List.mem_cons_of_mem _ h) h
            · exact go undef (fun _ => True) pend (.inr ⟨hw, rfl⟩) trivial (.inr fun _ => trivial) (fun _ h => h) h
        | none =>
          rw [hfd] at h
          simp only at h
          have hone : ∃ o, ops[i]? = some o ∧ grdVC ops o (fin V ar)
              (fun a => opVC P a.eval o.op o.type w fun v w' => keep ops i w' (drawVC P ops K fc (lc.setIfInBounds i true) (a.put o.dst v) w' (dropP ops i pend)) pend)
              (fun a => drawVC P ops K fc (lc.setIfInBounds i true) (a.put o.dst undef) w pend) := by
            cases hrl : Region.ready .any ops lc with
            | nil => rw [hrl] at hic; cases hic
            | cons j r =>
              rw [hrl] at h
              have := allVC_mem h i (by rw [← hrl]; exact hic)
              simp only [hoi] at this
              exact ⟨oi, hoi, this⟩
          obtain ⟨o, ho, hg⟩ := hone
          rw [hoi] at ho; cases ho
          have hap : ∀ e ∈ V, e.o.apart ops oi = true := fun e he =>
            Fr_mem hI.fr e he i oi hoi (fun hc => hin ⟨e, he, hc.symm⟩) hiu fun x hx hb hc => by
              have h1 := hdeps x hx hb
              have h2 := (hI.hV e he).2.1
              rw [hc] at h1
              rw [getD_tf (getD_lt h2), h1] at h2
              cases h2
          have hcnt := (Inv.listed hI.sr hi hI.cl).2.2
          have pst := fun u => past (hs := hs) hoi u V ar (fun e he => (hI.hV e he).1) hap hI.ch
          have hex := (pst undef).2.2.1
          have hwn := (pst undef).2.2.2
          have hanc : ∀ e ∈ V, anc ops ops.size e.i i = false := fun e he => by
            cases hx : anc ops ops.size e.i i with
            | false => rfl
            | true =>
              have h1 := anc_closed hI.cl ops.size e.i i (fun o' ho' => by rw [hoi] at ho'; cases ho'; exact hdeps) hx
              have h2 := (hI.hV e he).2.1
              rw [getD_tf (getD_lt h2), h1] at h2
              cases h2
          unfold wpOpIn
          rw [hoi]
          simp only
          rcases grdVC_of hg with ⟨hw, hg⟩ | ⟨hw, hg⟩
          · rw [if_pos (by rw [← hwn]; exact hw)]
            have hgo := opVC_goes (fun _ => rfl) hg
            rw [hex] at hgo
            refine goes_wpIn (opVC_noDefer hg) hgo fun v w' hv => ?_
            obtain ⟨hd, hk⟩ := keep_of hv
            refine ih _ _ _ fc _ V _ (by omega) (hAp _ _ _ hoi) (inv_both (hs := hs) hI hoi hi hiu v (fun e he => ?_) (fun e he => ?_) hap) (by rw [(pst v).2.1]; exact hd)
            · rcases hI.hp e he with h' | h'
              · exact hk _ (mem_dropP (hanc e he) h')
              · exact h' w'
            · exact (hI.hp e he).imp (mem_dropP (hanc e he)) id
          · rw [if_neg (by rw [← hwn, hw]; simp)]
            refine ⟨fun _ _ => trivial, ih _ _ _ fc _ V _ (by omega) (hAp _ _ _ hoi) (inv_both (hs := hs) hI hoi hi hiu undef hI.hS hI.hp hap) (by rw [(pst undef).2.1]; exact hg)⟩

/-- a region whose order is drawn -/
def drwVC (P : Program) (ops : Array Oper) (K : Act → World → Prop) (a : Act) (w : World) : Prop :=
  onlyIf (P.follows .mixedOrders && Region.noSelect ops) (drawVC P ops K (ops.size + 1) (Array.replicate ops.size false) a w.drew [])
theorem drwVC_wpIn {K : Act → World → Prop} {Q : Exit → Act → World → Prop} {id : Nat} {a : Act} {w : World} (hK : ∀ a' w, Same true (dstsOf ops.toList) a a' → K a' w → Q .normal a' w)
    (h : drwVC P ops K a w) : (Code.region id ops true).wpIn (Fw ro) n P Q a w := by
  obtain ⟨h0, h⟩ := onlyIf_of h
  simp only [Bool.and_eq_true] at h0
  refine wpIn_region_any h0.1 (draw_main h0.2 hK ops.size _ a _ (ops.size + 1) (Array.replicate ops.size false) [] [] ?_ (Same.refl _ _ _) ?_ h)
  · exact Nat.le_trans List.countP_le_length (by simp)
  · refine ⟨by simp, by simp, fun k hk => (by simp), fun e he => (by cases he), List.nodup_nil, trivial, trivial, trivial, fun e he => (by cases he), fun e he => (by cases he), fun k o hk => ?_⟩
    exfalso
    have := getD_lt' hk
    simp at this
    simp [Array.getD_eq_getD_getElem?, this] at hk
end
end Go.Proofs.Ytboifenkbhfnfaa.V
