/- The verified condition generator, its operations: what an operation asks and gives; proved against the model. -/
import Derived.Test.YtboifenkbhfnfaaVcA
import Derived.Laws.StructEq
import Derived.Laws.Entries
set_option linter.all false
namespace Go.Proofs.Ytboifenkbhfnfaa.V
open Go

section
variable (P : Program)

/-! ### equality -/
def eqPtr (p q : Option Addr) : Option Bool := match q with
  | none => some (isNil p)
  | some _ => match p with | none => some false | some _ => none
def eqMap (p q : Option Nat) : Option Bool := match q with
  | none => some (isNilM p)
  | some _ => match p with | none => some false | some _ => none
def partV (P : Program) (t : TypeId) (cs : Array Value) (off : Nat) : Option Value := match P.underlying t with
  | some (.struct _) => some (.agg (cs.extract off (off + sizeT P t)))
  | some (.array _ _) => some (.agg (cs.extract off (off + sizeT P t)))
  | some _ => cs[off]?
  | none => none
def eqFs (P : Program) (eq : TypeId → Value → Value → Option Bool) (xs ys : Array Value) : List Field → Option Bool
  | [] => some true
  | f :: fs => if f.name ≠ "_" then (match partV P f.type xs f.offset, partV P f.type ys f.offset with
      | some x, some y => match eq f.type x y, eqFs P eq xs ys fs with
        | some b, some c => some (band b c)
        | _, _ => none
      | _, _ => none) else eqFs P eq xs ys fs
def eqV (P : Program) : Nat → TypeId → Value → Value → Option Bool
  | 0, _, _, _ => none
  | d + 1, t, x, y => match P.underlying t, x, y with
    | some .bool, .bool a, .bool b => some (beq a b)
    | some (.int _), .int k a, .int k' b => if k = k' then some (ieq a b) else none
    | some .string, .string a, .string b => some (seq a b)
    | some (.pointer _), .pointer p, .pointer q => eqPtr p q
    | some (.slice _), .slice p _ _, .slice q _ _ => eqPtr p q
    | some (.map _ _), .map p, .map q => eqMap p q
    | some (.func _ _ _), .func _ _ _, .nilFunc => some false
    | some (.func _ _ _), .nilFunc, .nilFunc => some true
    | some (.struct fs), .agg xs, .agg ys => if P.stoodInHeld t then none else if (fs.toList.all fun f => (P.info? f.type).isSome) then eqFs P (eqV P d) xs ys fs.toList else none
    | _, _, _ => none

theorem partV_run {P : Program} {t : TypeId} {cs : Array Value} {off : Nat} {v : Value} (h : partV P t cs off = some v) (hi : (P.info? t).isSome = true) (w : World) : (part t cs off).run P w = .ok v w := by
  obtain ⟨i, hi⟩ := Option.isSome_iff_exists.1 hi
  unfold partV at h
  cases hu : P.underlying t with
  | none => simp [hu] at h
  | some d =>
    have hs : (sizeOf t).run P w = .ok (sizeT P t) w := by simp [sizeOf, typeInfo, hi, sizeT]
    have hu' := run_underlying hu w
    rw [hu] at h
    unfold part isAgg
    cases d
    case struct => simp only [Sem.run_bind, hu', Result.andThen_ok, Sem.run_pure, if_true, hs]; simp at h; rw [← h]
    case array => simp only [Sem.run_bind, hu', Result.andThen_ok, Sem.run_pure, if_true, hs]; simp at h; rw [← h]
    all_goals (simp only [Sem.run_bind, hu', Result.andThen_ok, Sem.run_pure, Bool.false_eq_true, if_false]; simp only at h; rw [h]; rfl)

/-- types whose description is known have a row -/
theorem info_of_underlying {P : Program} {t : TypeId} {d : TypeDesc} (h : P.underlying t = some d) : (P.info? t).isSome = true := by
  unfold Program.underlying at h
  cases hi : P.info? t with
  | none => simp [hi] at h
  | some i => rfl
theorem sizeOf_run {P : Program} {t : TypeId} (h : (P.info? t).isSome = true) (w : World) : (sizeOf t).run P w = .ok (sizeT P t) w := by
  obtain ⟨i, hi⟩ := Option.isSome_iff_exists.1 h
  simp [sizeOf, typeInfo, hi, sizeT]

theorem eqFs_run {P : Program} {d : Nat} (ih : ∀ t x y b, eqV P d t x y = some b → ∀ w, (Op.equalIn d t x y).run P w = .ok b w) (xs ys : Array Value) :
    ∀ (fs : List Field) (b : Bool), eqFs P (eqV P d) xs ys fs = some b → (∀ f ∈ fs, (P.info? f.type).isSome = true) → ∀ w, (Op.eqFields d xs ys fs).run P w = .ok b w := by
  intro fs
  induction fs with
  | nil => intro b h _ w; simp [eqFs] at h; subst h; simp [Op.eqFields]
  | cons f fs ihf =>
    intro b h hi w
    unfold eqFs at h
    unfold Op.eqFields
    split
    · rename_i hn
      rw [if_pos hn] at h
      cases hx : partV P f.type xs f.offset with
      | none => simp [hx] at h
      | some x =>
        cases hy : partV P f.type ys f.offset with
        | none => simp [hx, hy] at h
        | some y =>
          simp only [hx, hy] at h
          cases he : eqV P d f.type x y with
          | none => simp [he] at h
          | some c =>
            cases hr : eqFs P (eqV P d) xs ys fs with
            | none => simp [he, hr] at h
            | some e =>
              simp only [he, hr, Option.some.injEq, band] at h
              subst h
              have hf := hi f (by simp)
              simp only [Sem.run_bind, partV_run hx hf w, Result.andThen_ok, partV_run hy hf w, ih _ _ _ _ he w]
              cases c
              · simp
              · simp only [Bool.not_true, Bool.false_eq_true, if_false, Bool.true_and]
                exact ihf _ hr (fun g hg => hi g (by simp [hg])) w
    · rename_i hn
      rw [if_neg hn] at h
      exact ihf b h (fun g hg => hi g (by simp [hg])) w

theorem eqPtr_some {p q : Option Addr} {b : Bool} (h : eqPtr p q = some b) : (q = none ∧ b = p.isNone) ∨ (p = none ∧ (∃ a, q = some a) ∧ b = false) := by
  cases q with
  | none => simp [eqPtr, isNil] at h; exact .inl ⟨rfl, h.symm⟩
  | some a => cases p with
    | none => simp [eqPtr] at h; exact .inr ⟨rfl, ⟨a, rfl⟩, h⟩
    | some _ => simp [eqPtr] at h
theorem eqMap_some {p q : Option Nat} {b : Bool} (h : eqMap p q = some b) : (q = none ∧ b = p.isNone) ∨ (p = none ∧ (∃ a, q = some a) ∧ b = false) := by
  cases q with
  | none => simp [eqMap, isNilM] at h; exact .inl ⟨rfl, h.symm⟩
  | some a => cases p with
    | none => simp [eqMap] at h; exact .inr ⟨rfl, ⟨a, rfl⟩, h⟩
    | some _ => simp [eqMap] at h

theorem eqV_run {P : Program} : ∀ (d : Nat) (t : TypeId) (x y : Value) (b : Bool), eqV P d t x y = some b → ∀ w, (Op.equalIn d t x y).run P w = .ok b w := by
  intro d
  induction d with
  | zero => intro t x y b h; simp [eqV] at h
  | succ d ih =>
    intro t x y b h w
    unfold eqV at h
    split at h
    · rename_i hu; simp at h; subst h; simp [Op.equalIn, run_underlying hu, beq]
    · rename_i hu
      split at h
      · rename_i hk; simp at h; subst h; subst hk; simp [Op.equalIn, run_underlying hu, ieq]
      · simp at h
    · rename_i hu; simp at h; subst h; simp [Op.equalIn, run_underlying hu, seq, beq_toListBytes]
    · rename_i p q hu
      rcases eqPtr_some h with ⟨rfl, rfl⟩ | ⟨rfl, ⟨a, rfl⟩, rfl⟩
      · cases p <;> simp [Op.equalIn, run_underlying hu]
      · simp [Op.equalIn, run_underlying hu]
    · rename_i p n c q n' c' hu
      rcases eqPtr_some h with ⟨rfl, rfl⟩ | ⟨rfl, ⟨a, rfl⟩, rfl⟩
      · cases p <;> simp [Op.equalIn, run_underlying hu]
      · simp [Op.equalIn, run_underlying hu]
    · rename_i p q hu
      rcases eqMap_some h with ⟨rfl, rfl⟩ | ⟨rfl, ⟨a, rfl⟩, rfl⟩
      · cases p <;> simp [Op.equalIn, run_underlying hu]
      · simp [Op.equalIn, run_underlying hu]
    · rename_i hu; simp at h; subst h; simp [Op.equalIn, run_underlying hu]
    · rename_i hu; simp at h; subst h; simp [Op.equalIn, run_underlying hu]
    · rename_i fs xs ys hu
      split at h
      · simp at h
      · rename_i hs
        split at h
        · rename_i hall
          have hf : P.fieldsOf t = fs := by simp [Program.fieldsOf, hu]
          rw [run_equalIn_struct w d t xs ys (by rw [hf]; exact hu) (by simpa using hs), hf]
          exact eqFs_run ih xs ys fs.toList b h (fun f hf => List.all_eq_true.1 hall f hf) w
        · simp at h
    · simp at h

/-! ### what leaves the world alone and asks nothing of it -/
def binVC (P : Program) (op : BinOp) (t : TypeId) (x y : Value) (C : Value → Prop) : Prop :=
  match op, x, y with
  | .shl, .int k a, .int _ b => ige0 b ∧ C (.int k (ishl k a b))
  | .shr, .int k a, .int _ b => ige0 b ∧ C (.int k (ishr k a b))
  | .add, .int k a, .int k' b => onlyIf (decide (k = k')) (C (.int k (iadd k a b)))
  | .sub, .int k a, .int k' b => onlyIf (decide (k = k')) (C (.int k (isub k a b)))
  | .mul, .int k a, .int k' b => onlyIf (decide (k = k')) (C (.int k (imul k a b)))
  | .quo, .int k a, .int k' b => onlyIf (decide (k = k')) (inz b ∧ C (.int k (iquo k a b)))
  | .rem, .int k a, .int k' b => onlyIf (decide (k = k')) (inz b ∧ C (.int k (irem a b)))
  | .and, .int k a, .int k' b => onlyIf (decide (k = k')) (C (.int k (iand k a b)))
  | .or, .int k a, .int k' b => onlyIf (decide (k = k')) (C (.int k (ior k a b)))
  | .xor, .int k a, .int k' b => onlyIf (decide (k = k')) (C (.int k (ixor k a b)))
  | .andNot, .int k a, .int k' b => onlyIf (decide (k = k')) (C (.int k (iandNot k a b)))
  | .eql, .int k a, .int k' b => onlyIf (decide (k = k')) (C (.bool (ieq a b)))
  | .neq, .int k a, .int k' b => onlyIf (decide (k = k')) (C (.bool (ine a b)))
  | .lss, .int k a, .int k' b => onlyIf (decide (k = k')) (C (.bool (ilt a b)))
  | .leq, .int k a, .int k' b => onlyIf (decide (k = k')) (C (.bool (ile a b)))
  | .gtr, .int k a, .int k' b => onlyIf (decide (k = k')) (C (.bool (igt a b)))
  | .geq, .int k a, .int k' b => onlyIf (decide (k = k')) (C (.bool (ige a b)))
  | .add, .string a, .string b => sfits a b ∧ C (.string (scat a b))
  | .eql, .string a, .string b => C (.bool (seq a b))
  | .neq, .string a, .string b => C (.bool (bnot (seq a b)))
  | .eql, .bool a, .bool b => onlyIf (match P.underlying t with | some .bool => true | _ => false) (C (.bool (beq a b)))
  | .neq, .bool a, .bool b => onlyIf (match P.underlying t with | some .bool => true | _ => false) (C (.bool (bnot (beq a b))))
  | .eql, .agg a, .agg b => onlyIf (!P.eqGuardType P.depth t) (match eqV P 20 t (.agg a) (.agg b) with | some c => C (.bool c) | none => False)
  | .neq, .agg a, .agg b => onlyIf (!P.eqGuardType P.depth t) (match eqV P 20 t (.agg a) (.agg b) with | some c => C (.bool (bnot c)) | none => False)
  | .eql, .pointer a, .pointer b => (match eqV P 20 t (.pointer a) (.pointer b) with | some c => C (.bool c) | none => False)
  | .neq, .pointer a, .pointer b => (match eqV P 20 t (.pointer a) (.pointer b) with | some c => C (.bool (bnot c)) | none => False)
  | .eql, .slice a n c, .slice b m d => (match eqV P 20 t (.slice a n c) (.slice b m d) with | some c => C (.bool c) | none => False)
  | .neq, .slice a n c, .slice b m d => (match eqV P 20 t (.slice a n c) (.slice b m d) with | some c => C (.bool (bnot c)) | none => False)
  | .eql, .map a, .map b => (match eqV P 20 t (.map a) (.map b) with | some c => C (.bool c) | none => False)
  | .neq, .map a, .map b => (match eqV P 20 t (.map a) (.map b) with | some c => C (.bool (bnot c)) | none => False)
  | _, _, _ => False

theorem onlyIf_of {b : Bool} {A : Prop} (h : onlyIf b A) : b = true ∧ A := by cases b <;> simp_all [onlyIf]

theorem eqV_more {P : Program} : ∀ (d e : Nat) (t : TypeId) (x y : Value) (b : Bool), d ≤ e → eqV P d t x y = some b → eqV P e t x y = some b := by
  intro d
  induction d with
  | zero => intro e t x y b _ h; simp [eqV] at h
  | succ d ih =>
    intro e t x y b he h
    obtain ⟨e, rfl⟩ : ∃ k, e = k + 1 := ⟨e - 1, by omega⟩
    unfold eqV at h ⊢
    split at h
    all_goals first | exact h | skip
    rename_i fs xs ys hu
    split at h
    · simp at h
    · rename_i hs
      rw [if_neg hs]
      split at h
      · rename_i hall
        rw [if_pos hall]
        clear hall hu
        generalize fs.toList = l at h ⊢
        induction l generalizing b with
        | nil => exact h
        | cons f l ihl =>
          unfold eqFs at h ⊢
          split
          · rename_i hn
            rw [if_pos hn] at h
            cases hx : partV P f.type xs f.offset with
            | none => simp [hx] at h
            | some x =>
              cases hy : partV P f.type ys f.offset with
              | none => simp [hx, hy] at h
              | some y =>
                simp only [hx, hy] at h ⊢
                cases h1 : eqV P d f.type x y with
                | none => simp [h1] at h
                | some c =>
                  cases h2 : eqFs P (eqV P d) xs ys l with
                  | none => simp [h1, h2] at h
                  | some g =>
                    simp only [h1, h2] at h
                    rw [ih e _ _ _ _ (by omega) h1, ihl g h2]
                    exact h
          · rename_i hn
            rw [if_neg hn] at h
            exact ihl b h
      · simp at h
theorem eqV_equal {P : Program} {t : TypeId} {x y : Value} {b : Bool} (h : eqV P 20 t x y = some b) (w : World) : (Op.equal t x y).run P w = .ok b w :=
  eqV_run 10000 t x y b (eqV_more 20 10000 t x y b (by omega) h) w

theorem binVC_run {P : Program} {op : BinOp} {t : TypeId} {x y : Value} {C : Value → Prop} (h : binVC P op t x y C) (xo yo : Operand) :
    ∃ v, (∀ w, (do eqGuard op t xo yo x y; binOp op t x y : Sem Value).run P w = .ok v w) ∧ C v := by
  unfold binVC at h
  split at h
  · obtain ⟨h0, h⟩ := h; refine ⟨_, fun w => ?_, h⟩
    have : ¬ (‹Int› : Int) < 0 := by unfold ige0 at h0; omega
    simp [eqGuard, binOp, Op.shift, ishl, this]
  · obtain ⟨h0, h⟩ := h; refine ⟨_, fun w => ?_, h⟩
    have : ¬ (‹Int› : Int) < 0 := by unfold ige0 at h0; omega
    simp [eqGuard, binOp, Op.shift, ishr, this]
  all_goals first
    | (obtain ⟨hk, h1⟩ := onlyIf_of h
       clear h
       have hk1 := of_decide_eq_true hk
       clear hk
       subst hk1
       first
        | (refine ⟨_, fun w => ?_, h1⟩; simp [eqGuard, binOp, Op.intArith, Op.intBits, Op.intCmp, iadd, isub, imul, iand, ior, ixor, iandNot, ieq, ine, ilt, ile, igt, ige]; done)
        | (obtain ⟨h0, h1⟩ := h1; unfold inz at h0; refine ⟨_, fun w => ?_, h1⟩; simp [eqGuard, binOp, Op.intDiv, iquo, irem, h0]; done))
    | skip
  · obtain ⟨h0, h⟩ := h; refine ⟨_, fun w => ?_, h⟩
    unfold sfits at h0
    have hm : IntKind.i64.max = 9223372036854775807 := by decide
    simp [eqGuard, binOp, Op.stringOp, scat, hm]
    omega
  · exact ⟨_, fun w => by simp [eqGuard, binOp, Op.stringOp, seq, bnot], h⟩
  · exact ⟨_, fun w => by simp [eqGuard, binOp, Op.stringOp, seq, bnot], h⟩
  · obtain ⟨hk, h⟩ := onlyIf_of h
    have hu : P.underlying t = some .bool := by split at hk <;> simp_all
    exact ⟨_, fun w => by simp [eqGuard, binOp, Op.equal, Op.maxDepth, run_equalIn_bool' w 9999 t _ _ hu, beq, bnot], h⟩
  · obtain ⟨hk, h⟩ := onlyIf_of h
    have hu : P.underlying t = some .bool := by split at hk <;> simp_all
    exact ⟨_, fun w => by simp [eqGuard, binOp, Op.equal, Op.maxDepth, run_equalIn_bool' w 9999 t _ _ hu, beq, bnot], h⟩
  · obtain ⟨hk, h⟩ := onlyIf_of h
    have hk' : P.eqGuardType P.depth t = false := by simpa using hk
    split at h
    · rename_i c he; exact ⟨_, fun w => by simp [eqGuard, binOp, hk', eqV_equal he w, bnot], h⟩
    · exact h.elim
  · obtain ⟨hk, h⟩ := onlyIf_of h
    have hk' : P.eqGuardType P.depth t = false := by simpa using hk
    split at h
    · rename_i c he; exact ⟨_, fun w => by simp [eqGuard, binOp, hk', eqV_equal he w, bnot], h⟩
    · exact h.elim
  all_goals first
    | exact h.elim
    | (split at h
       · rename_i c he; exact ⟨_, fun w => by simp [eqGuard, binOp, eqV_equal he w, bnot], h⟩
       · exact h.elim)

def bnd (v : Option Value) (dflt y : Nat) (C : Nat → Prop) : Prop := match v with
  | none => C dflt
  | some (.int _ i) => inR i y ∧ C (inat i)
  | some _ => False
def unVC (op : UnOp) (x : Value) (C : Value → Prop) : Prop := match op, x with
  | .neg, .int k n => C (.int k (isub k 0 n))
  | .xor, .int k n => C (.int k (ixor k (if k.signed then -1 else k.max) n))
  | .not, .bool b => C (.bool (bnot b))
  | _, _ => False
def convVC (P : Program) (src dst : TypeId) (x : Value) (C : Value → Prop) : Prop := match P.underlying src, P.underlying dst, x with
  | some (.int _), some (.int k), .int _ n => C (.int k (iconv k n))
  | some .string, some .string, .string s => C (.string s)
  | _, _, _ => False
def slcVC (P : Program) (t : TypeId) (x : Value) (lo hi mx : Option Value) (C : Value → Prop) : Prop := match P.underlying t, x, mx with
  | some .string, .string s, none => bnd hi (ssize s) (ssize s) fun h => bnd lo 0 h fun l => C (.string (ssub s l h))
  | some (.slice e), .slice a n c, mx => onlyIf ((P.info? e).isSome && (mx.isNone || hi.isSome)) (bnd mx c c fun m => bnd hi n m fun h => bnd lo 0 h fun l => C (.slice (slAdr a m l (sizeT P e)) (nsub h l) (nsub m l)))
  | some (.array n e), .pointer p, none => onlyIf (P.info? e).isSome (nilCk p fun a => bnd hi n n fun h => bnd lo 0 h fun l => C (.slice (slAdr (some a) n l (sizeT P e)) (nsub h l) (nsub n l)))
  | _, _, _ => False
def fldAVC (P : Program) (s : TypeId) (x : Value) (f : Nat) (C : Value → Prop) : Prop := match P.underlying s, x with
  | some (.struct fs), .pointer p => match fs[f]? with
    | some fd => onlyIf ((P.info? fd.type).isSome && decide (sizeT P fd.type ≠ 0)) (nilCk p fun a => C (.pointer (some (aadd a fd.offset))))
    | none => False
  | _, _ => False
def fldVC (P : Program) (t : TypeId) (x : Value) (f : Nat) (C : Value → Prop) : Prop := match P.underlying t, x with
  | some (.struct fs), .agg cs => match fs[f]? with
    | some fd => onlyIf (P.info? fd.type).isSome (match partV P fd.type cs fd.offset with | some v => C v | none => False)
    | none => False
  | _, _ => False
def ixAVC (P : Program) (t : TypeId) (x i : Value) (C : Value → Prop) : Prop := match P.underlying t, x, i with
  | some (.slice e), .slice b n _, .int _ j => onlyIf (P.info? e).isSome (inX j n ∧ nilCk b fun a => C (.pointer (some (aadd a (nmul (inat j) (sizeT P e))))))
  | some (.array n e), .pointer p, .int _ j => onlyIf (P.info? e).isSome (inX j n ∧ nilCk p fun a => C (.pointer (some (aadd a (nmul (inat j) (sizeT P e))))))
  | _, _, _ => False
def ixVC (P : Program) (t : TypeId) (x i : Value) (C : Value → Prop) : Prop := match P.underlying t, x, i with
  | some .string, .string s, .int _ j => inX j (ssize s) ∧ C (.int .u8 (sbyte s j))
  | some (.array n e), .agg cs, .int _ j => onlyIf (P.info? e).isSome (inX j n ∧ ∃ v, partV P e cs (inat j * sizeT P e) = some v ∧ ckGet (ckOf P e) v C)
  | _, _, _ => False
def bldVC (P : Program) (t : TypeId) (parts : List (Nat × Value)) (C : Value → Prop) : Prop := match P.info? t, P.underlying t with
  | some i, some (.struct fs) => match i.zero with
    | some z => onlyIf (fs.toList.all fun f => (P.info? f.type).isSome) (match Instr.fill ((fs.map fun f => (f.offset, sizeT P f.type))[·]?) z.cells parts with | some cs => C (.agg cs) | none => False)
    | none => False
  | some i, some (.array _ e) => match i.zero with
    | some z => onlyIf (P.info? e).isSome (match Instr.fill (fun i => some (i * sizeT P e, sizeT P e)) z.cells parts with | some cs => C (.agg cs) | none => False)
    | none => False
  | _, _ => False
def lenVC (P : Program) (t : TypeId) (x : Value) (C : Value → Prop) : Prop := match P.underlying t, x with
  | some (.slice _), .slice _ n _ => C (.int .i64 (zi n))
  | some .string, .string s => C (.int .i64 (zi (ssize s)))
  | _, _ => False
def capVC (P : Program) (t : TypeId) (x : Value) (C : Value → Prop) : Prop := match P.underlying t, x with
  | some (.slice _), .slice _ _ n => C (.int .i64 (zi n))
  | _, _ => False
def blVC (P : Program) (c : Callee) (args : List Value) (ts : List TypeId) (C : Value → Prop) : Prop := match c, args, ts with
  | .builtin .len, [x], [t] => lenVC P t x C
  | .builtin .cap, [x], [t] => capVC P t x C
  | .builtin .max, [.int k a, .int _ b], _ => C (.int k (imax a b))
  | .builtin .min, [.int k a, .int _ b], _ => C (.int k (imin a b))
  | _, _, _ => False
def inVC (P : Program) (ρ : Operand → Value) (op : Op) (C : Value → Prop) : Prop := match op with
  | .move x => C (ρ x)
  | .assign x => C (ρ x)
  | .pick c a b => (match ρ c with | .bool t => ifB t (C (ρ a)) (C (ρ b)) | _ => False)
  | .nilCheck x => (match ρ x with | .pointer p => nilCk p fun a => C (.pointer (some a)) | _ => False)
  | .binOp op t x y _ => binVC P op t (ρ x) (ρ y) C
  | .unOp op _ x => unVC op (ρ x) C
  | .convert s d x => convVC P s d (ρ x) C
  | .makeFunc fn first captured => C (.func fn (first.map ρ) (captured.map ρ))
  | .slice t x lo hi mx => slcVC P t (ρ x) (lo.map ρ) (hi.map ρ) (mx.map ρ) C
  | .fieldAddr s x f => fldAVC P s (ρ x) f C
  | .field t x f => fldVC P t (ρ x) f C
  | .indexAddr t x i => ixAVC P t (ρ x) (ρ i) C
  | .index t x i => ixVC P t (ρ x) (ρ i) C
  | .extract t i => (match ρ t with | .tuple vs => (match vs[i]? with | some v => C v | none => False) | _ => False)
  | .build t parts => bldVC P t (parts.toList.map fun p => (p.1, ρ p.2)) C
  | .call c => blVC P c.callee (c.args.toList.map ρ) c.argTypes.toList C
  | _ => False

def InRun (P : Program) (s : Sem Next) (C : Value → Prop) : Prop := ∃ v, (∀ w, s.run P w = .ok (.value v) w) ∧ C v

theorem sliceBound_run {P : Program} {k : IntKind} {i : Int} {y : Nat} (code : BoundsCode) (h : inR i y) (w : World) : (Instr.sliceBound (.int k i) y code).run P w = .ok (inat i) w := by
  unfold inR at h
  simp [Instr.sliceBound, asIntOf, h, inat]
theorem bounds_run {P : Program} (isl : Bool) (n c : Nat) {lo hi : Option Value} {C : Nat → Nat → Prop} (h : bnd hi n c fun h => bnd lo 0 h fun l => C l h) :
    ∃ l h, (∀ w, (Instr.sliceBounds isl n c lo hi none).run P w = .ok (l, h, c) w) ∧ C l h := by
  unfold bnd at h
  cases hi with
  | none =>
    cases lo with
    | none => exact ⟨0, n, fun w => by simp [Instr.sliceBounds], h⟩
    | some v =>
      cases v <;> simp only at h <;> try exact h.elim
      exact ⟨_, n, fun w => by simp [Instr.sliceBounds, sliceBound_run _ h.1], h.2⟩
  | some u =>
    cases u <;> simp only at h <;> try exact h.elim
    obtain ⟨h0, h⟩ := h
    cases lo with
    | none => exact ⟨0, _, fun w => by simp [Instr.sliceBounds, sliceBound_run _ h0], h⟩
    | some v =>
      cases v <;> simp only at h <;> try exact h.elim
      exact ⟨_, _, fun w => by simp [Instr.sliceBounds, sliceBound_run _ h0, sliceBound_run _ h.1], h.2⟩

theorem bounds_run3 {P : Program} (n c : Nat) {lo hi mx : Option Value} {C : Nat → Nat → Nat → Prop} (hx : (mx.isNone || hi.isSome) = true) (h : bnd mx c c fun m => bnd hi n m fun h => bnd lo 0 h fun l => C m l h) :
    ∃ l h m, (∀ w, (Instr.sliceBounds true n c lo hi mx).run P w = .ok (l, h, m) w) ∧ C m l h := by
  cases mx with
  | none =>
    obtain ⟨l, hh, h1, h2⟩ := bounds_run (P := P) true n c h
    exact ⟨l, hh, c, h1, h2⟩
  | some v =>
    cases v <;> simp only [bnd] at h <;> try exact h.elim
    obtain ⟨h0, h⟩ := h
    cases hi with
    | none => simp at hx
    | some u =>
      cases u <;> simp only at h <;> try exact h.elim
      obtain ⟨h1, h⟩ := h
      cases lo with
      | none => exact ⟨0, _, _, fun w => by simp [Instr.sliceBounds, sliceBound_run _ h0, sliceBound_run _ h1], h⟩
      | some v =>
        cases v <;> simp only at h <;> try exact h.elim
        exact ⟨_, _, _, fun w => by simp [Instr.sliceBounds, sliceBound_run _ h0, sliceBound_run _ h1, sliceBound_run _ h.1], h.2⟩

theorem mapM_run {α β : Type} {P : Program} (f : α → Sem β) (g : α → β) (w : World) : ∀ l : List α, (∀ x ∈ l, (f x).run P w = .ok (g x) w) → (l.mapM f).run P w = .ok (l.map g) w
  | [], _ => by simp
  | x :: l, h => by
    rw [List.mapM_cons]
    simp [h x (by simp), mapM_run f g w l (fun y hy => h y (by simp [hy]))]

theorem unVC_run {P : Program} {op : UnOp} {x : Value} {C : Value → Prop} (h : unVC op x C) : ∃ v, (∀ w, (Op.unary op x).run P w = .ok v w) ∧ C v := by
  unfold unVC at h
  split at h
  · exact ⟨_, fun w => by simp [Op.unary, Op.intArith, isub], h⟩
  · exact ⟨_, fun w => by simp [Op.unary, Op.intBits, ixor], h⟩
  · exact ⟨_, fun w => by simp [Op.unary, bnot], h⟩
  · exact h.elim
theorem convVC_run {P : Program} {s d : TypeId} {x : Value} {C : Value → Prop} (h : convVC P s d x C) : ∃ v, (∀ w, (convert s d x).run P w = .ok v w) ∧ C v := by
  unfold convVC at h
  split at h
  · rename_i h1 h2; exact ⟨_, fun w => by simp [convert, run_underlying h1, run_underlying h2, Conv.intToInt, iconv], h⟩
  · rename_i h1 h2; exact ⟨_, fun w => by simp [convert, run_underlying h1, run_underlying h2], h⟩
  · exact h.elim
theorem slcVC_run {P : Program} {t : TypeId} {x : Value} {lo hi mx : Option Value} {C : Value → Prop} (h : slcVC P t x lo hi mx C) : ∃ v, (∀ w, (Instr.sliceAt t x lo hi mx).run P w = .ok v w) ∧ C v := by
  unfold slcVC at h
  split at h
  · rename_i s h1
    obtain ⟨l, hh, hb, hc⟩ := bounds_run (P := P) false _ (ssize s) h
    refine ⟨_, fun w => ?_, hc⟩
    unfold ssize at hb
    simp [Instr.sliceAt, Instr.slice, run_underlying h1, hb, ssub]
  · rename_i e a n c h1
    obtain ⟨hi', h⟩ := onlyIf_of h
    simp only [Bool.and_eq_true] at hi'
    obtain ⟨l, hh, m, hb, hc⟩ := bounds_run3 (P := P) _ c hi'.2 h
    refine ⟨_, fun w => ?_, hc⟩
    simp [Instr.sliceAt, Instr.slice, run_underlying h1, hb, sizeOf_run hi'.1, slAdr, nsub]
  · rename_i n e p h1
    obtain ⟨hi', h'⟩ := onlyIf_of h
    clear h
    obtain ⟨a, rfl, h⟩ := h'
    obtain ⟨l, hh, hb, hc⟩ := bounds_run (P := P) false _ n h
    refine ⟨_, fun w => ?_, hc⟩
    simp [Instr.sliceAt, Instr.sureAddr, run_underlying h1, hb, sizeOf_run hi', slAdr, nsub]
    split <;> simp_all
  · exact h.elim
theorem fldAVC_run {P : Program} {s : TypeId} {x : Value} {f : Nat} {C : Value → Prop} (h : fldAVC P s x f C) : ∃ v, (∀ w, (Instr.fieldAt s x f).run P w = .ok v w) ∧ C v := by
  unfold fldAVC at h
  split at h
  · rename_i fs p h1
    split at h
    · rename_i fd hfd
      obtain ⟨h2, h'⟩ := onlyIf_of h
      clear h
      simp only [Bool.and_eq_true, decide_eq_true_eq] at h2
      obtain ⟨a, rfl, h⟩ := h'
      refine ⟨_, fun w => ?_, h⟩
      simp [Instr.fieldAt, run_underlying h1, hfd, Instr.sureAddr, fieldPlace, sizeOf_run h2.1, h2.2, aadd]
    · exact h.elim
  · exact h.elim
theorem fldVC_run {P : Program} {t : TypeId} {x : Value} {f : Nat} {C : Value → Prop} (h : fldVC P t x f C) : ∃ v, (∀ w, (Instr.field t x f).run P w = .ok v w) ∧ C v := by
  unfold fldVC at h
  split at h
  · rename_i fs cs h1
    split at h
    · rename_i fd hfd
      obtain ⟨h2, h⟩ := onlyIf_of h
      split at h
      · rename_i v hv
        refine ⟨v, fun w => ?_, h⟩
        simp [Instr.field, run_underlying h1, hfd, asAgg, partV_run hv h2]
      · exact h.elim
    · exact h.elim
  · exact h.elim
theorem ixAVC_run {P : Program} {t : TypeId} {x i : Value} {C : Value → Prop} (h : ixAVC P t x i C) : ∃ v, (∀ w, (Instr.indexAt t x i).run P w = .ok v w) ∧ C v := by
  unfold ixAVC at h
  split at h
  · rename_i e b n c k j h1
    obtain ⟨h2, hx, h'⟩ := onlyIf_of h
    clear h
    obtain ⟨a, rfl, h⟩ := h'
    unfold inX at hx
    refine ⟨_, fun w => ?_, h⟩
    simp [Instr.indexAt, asIntOf, run_underlying h1, hx, sizeOf_run h2, aadd, nmul, inat]
  · rename_i n e p k j h1
    obtain ⟨h2, hx, h'⟩ := onlyIf_of h
    clear h
    obtain ⟨a, rfl, h⟩ := h'
    unfold inX at hx
    refine ⟨_, fun w => ?_, h⟩
    simp [Instr.indexAt, asIntOf, run_underlying h1, hx, sizeOf_run h2, aadd, nmul, inat, Instr.sureAddr]
  · exact h.elim
theorem ixVC_run {P : Program} {t : TypeId} {x i : Value} {C : Value → Prop} (h : ixVC P t x i C) : ∃ v, (∀ w, (Instr.index t x i).run P w = .ok v w) ∧ C v := by
  unfold ixVC at h
  split at h
  · rename_i s k j h1
    obtain ⟨hx, h⟩ := h
    unfold inX ssize at hx
    have hlt : j.toNat < s.size := by omega
    refine ⟨_, fun w => ?_, h⟩
    simp [Instr.index, asIntOf, run_underlying h1, hx.1, sbyte, hlt]
  · rename_i n e cs k j h1
    obtain ⟨h2, hx, v, hv, h⟩ := onlyIf_of h
    unfold inX at hx
    refine ⟨v, fun w => ?_, ckGet_of h⟩
    simp [Instr.index, asIntOf, run_underlying h1, hx, sizeOf_run h2]
    exact partV_run hv h2 w
  · exact h.elim
theorem bldVC_run {P : Program} {t : TypeId} {parts : List (Nat × Value)} {C : Value → Prop} (h : bldVC P t parts C) : ∃ v, (∀ w, (Instr.build t parts.toArray).run P w = .ok v w) ∧ C v := by
  unfold bldVC at h
  split at h
  · rename_i i fs hi hu
    split at h
    · rename_i z hz
      obtain ⟨hall, h⟩ := onlyIf_of h
      split at h
      · rename_i cs hf
        refine ⟨_, fun w => ?_, h⟩
        have hm : ∀ w, ((fs.mapM fun f => do pure (f.offset, ← sizeOf f.type) : Sem (Array (Nat × Nat)))).run P w = .ok (fs.map fun f => (f.offset, sizeT P f.type)) w := by
          intro w
          rw [Array.mapM_eq_mapM_toList]
          simp only [Sem.run_map]
          rw [mapM_run (P := P) _ (fun f : Field => (f.offset, sizeT P f.type)) w fs.toList (fun f hf => by simp [sizeOf_run (List.all_eq_true.1 hall f hf)])]
          simp only [Result.andThen_ok]
          rw [← Array.toList_map]
        simp only [Instr.build, zeroValue, typeInfo, Sem.run_bind, run_program, Result.andThen_ok, hi, Sem.run_pure, hz, run_underlying hu, hm, hf]
      · exact h.elim
    · exact h.elim
  · rename_i i n e hi hu
    split at h
    · rename_i z hz
      obtain ⟨h2, h⟩ := onlyIf_of h
      split at h
      · rename_i cs hf
        refine ⟨_, fun w => ?_, h⟩
        simp only [Instr.build, zeroValue, typeInfo, Sem.run_bind, run_program, Result.andThen_ok, hi, Sem.run_pure, hz, run_underlying hu, sizeOf_run h2, hf]
      · exact h.elim
    · exact h.elim
  · exact h.elim
theorem lenVC_run {P : Program} {t : TypeId} {x : Value} {C : Value → Prop} (ty : TypeId) (h : lenVC P t x C) : ∃ v, (∀ w, (Builtin.len_ #[t] ty #[x]).run P w = .ok v w) ∧ C v := by
  unfold lenVC at h
  split at h
  · rename_i h1; exact ⟨_, fun w => by simp [Builtin.len_, run_underlying h1, goInt, zi], h⟩
  · rename_i h1; exact ⟨_, fun w => by simp [Builtin.len_, run_underlying h1, goInt, zi, ssize], h⟩
  · exact h.elim
theorem capVC_run {P : Program} {t : TypeId} {x : Value} {C : Value → Prop} (ty : TypeId) (h : capVC P t x C) : ∃ v, (∀ w, (Builtin.cap_ #[t] ty #[x]).run P w = .ok v w) ∧ C v := by
  unfold capVC at h
  split at h
  · rename_i h1; exact ⟨_, fun w => by simp [Builtin.cap_, run_underlying h1, goInt, zi], h⟩
  · exact h.elim

theorem blVC_run {P : Program} {ρ : Operand → Value} {c : Call} {dst : Option Tmp} {ty : TypeId} {pos : String} {after : Array Edge} {guard : Option (Nat × Bool)} {C : Value → Prop}
    (h : blVC P c.callee (c.args.toList.map ρ) c.argTypes.toList C) : InRun P (execOp ρ ⟨dst, .call c, ty, pos, after, guard⟩) C := by
  obtain ⟨cal, args, ts⟩ := c
  simp only at h
  unfold blVC at h
  split at h
  · rename_i x t ha ht
    have ha' : args.map ρ = #[x] := by apply Array.ext'; simpa using ha
    have ht' : ts = #[t] := by apply Array.ext'; simpa using ht
    obtain ⟨v, hv, hc⟩ := lenVC_run ty h
    exact ⟨v, fun w => by simp [execOp, resolve, invoke, builtin, ha', ht', hv w], hc⟩
  · rename_i x t ha ht
    have ha' : args.map ρ = #[x] := by apply Array.ext'; simpa using ha
    have ht' : ts = #[t] := by apply Array.ext'; simpa using ht
    obtain ⟨v, hv, hc⟩ := capVC_run ty h
    exact ⟨v, fun w => by simp [execOp, resolve, invoke, builtin, ha', ht', hv w], hc⟩
  · rename_i k a k' b ha
    have ha' : args.map ρ = #[.int k a, .int k' b] := by apply Array.ext'; simpa using ha
    exact ⟨_, fun w => by simp [execOp, resolve, invoke, builtin, ha', Builtin.max_, Builtin.max2, imax], h⟩
  · rename_i k a k' b ha
    have ha' : args.map ρ = #[.int k a, .int k' b] := by apply Array.ext'; simpa using ha
    exact ⟨_, fun w => by simp [execOp, resolve, invoke, builtin, ha', Builtin.min_, Builtin.min2, imin], h⟩
  · exact h.elim
theorem inVC_run {P : Program} {ρ : Operand → Value} {o : Oper} {C : Value → Prop} (h : inVC P ρ o.op C) : InRun P (execOp ρ o) C := by
  obtain ⟨dst, op, ty, pos, after, guard⟩ := o
  unfold inVC at h
  simp only at h
  split at h
  case h_1 => exact ⟨_, fun w => by simp [execOp], h⟩
  case h_2 => exact ⟨_, fun w => by simp [execOp], h⟩
  case h_3 =>
    split at h
    · rename_i t ht
      cases t
      · exact ⟨_, fun w => by simp [execOp, ht, asBool], h⟩
      · exact ⟨_, fun w => by simp [execOp, ht, asBool], h⟩
    · exact h.elim
  case h_4 =>
    split at h
    · rename_i p hp
      obtain ⟨a, rfl, h⟩ := h
      exact ⟨_, fun w => by simp [execOp, hp], h⟩
    · exact h.elim
  case h_5 => obtain ⟨v, hv, hc⟩ := binVC_run h _ _; exact ⟨v, fun w => by simp only [execOp]; rw [Sem.run_bind, hv w]; simp, hc⟩
  case h_6 => obtain ⟨v, hv, hc⟩ := unVC_run (P := P) h; exact ⟨v, fun w => by simp only [execOp]; rw [Sem.run_bind, hv w]; simp, hc⟩
  case h_7 => obtain ⟨v, hv, hc⟩ := convVC_run h; exact ⟨v, fun w => by simp only [execOp]; rw [Sem.run_bind, hv w]; simp, hc⟩
  case h_8 => exact ⟨_, fun w => by simp [execOp, Instr.makeFunc], h⟩
  case h_9 => obtain ⟨v, hv, hc⟩ := slcVC_run h; exact ⟨v, fun w => by simp only [execOp]; rw [Sem.run_bind, hv w]; simp, hc⟩
  case h_10 => obtain ⟨v, hv, hc⟩ := fldAVC_run h; exact ⟨v, fun w => by simp only [execOp]; rw [Sem.run_bind, hv w]; simp, hc⟩
  case h_11 => obtain ⟨v, hv, hc⟩ := fldVC_run h; exact ⟨v, fun w => by simp only [execOp]; rw [Sem.run_bind, hv w]; simp, hc⟩
  case h_12 => obtain ⟨v, hv, hc⟩ := ixAVC_run h; exact ⟨v, fun w => by simp only [execOp]; rw [Sem.run_bind, hv w]; simp, hc⟩
  case h_13 => obtain ⟨v, hv, hc⟩ := ixVC_run h; exact ⟨v, fun w => by simp only [execOp]; rw [Sem.run_bind, hv w]; simp, hc⟩
  case h_14 =>
    split at h
    · rename_i vs hvs
      split at h
      · rename_i v hv; exact ⟨v, fun w => by simp [execOp, hvs, Instr.extract, hv], h⟩
      · exact h.elim
    · exact h.elim
  case h_15 parts =>
    obtain ⟨v, hv, hc⟩ := bldVC_run h
    have e : (parts.toList.map fun p => (p.1, ρ p.2)).toArray = parts.map fun (i, x) => (i, ρ x) := by
      apply Array.ext'; simp
    refine ⟨v, fun w => ?_, hc⟩
    have hv' := hv w
    rw [e] at hv'
    simp only [execOp]
    rw [Sem.run_bind, hv']; simp
  case h_16 c => exact blVC_run h
  case h_17 => exact h.elim
end
end Go.Proofs.Ytboifenkbhfnfaa.V
