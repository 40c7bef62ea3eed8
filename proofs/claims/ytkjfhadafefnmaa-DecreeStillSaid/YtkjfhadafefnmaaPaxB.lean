/- decree: the plain law, 2: what is always so, and that the values are one. -/
import Derived.Test.YtkjfhadafefnmaaPaxA
set_option linter.all false
namespace Go.Proofs.Ytkjfhadafefnmaa
open Go
/-- node i has accepted ballot c at some time -/
def wh (S : DecS) (c : Int) (i : Nat) : Prop := (S.held c).who.testBit i = true
/-- node i has promised b, and of what lies below b it has accepted nothing above k -/
def Fact (S : DecS) (i : Nat) (b k : Int) : Prop := (∀ s, S.slots[i]? = some s → b ≤ s.pr) ∧ ∀ c, wh S c i → c < b → c ≤ k
def top (S : DecS) : Int := 8 * (S.begun.length + 1)
structure LetOk (S : DecS) (n : Nat) (pv : Int → Option ByteArray) (x : LetS) : Prop where
  rng : x.sender < n ∧ x.to < n ∧ 1 ≤ x.ballot ∧ x.ballot < top S
  kind : x.kind = 0 ∨ x.kind = 1 ∨ x.kind = 2 ∨ x.kind = 3
  k1 : x.kind = 1 → Fact S x.sender x.ballot x.acc ∧ 0 ≤ x.acc ∧ x.acc < x.ballot ∧ (0 < x.acc → pv x.acc = some x.val)
  k2 : x.kind = 2 → pv x.ballot = some x.val
  k3 : x.kind = 3 → wh S x.ballot x.sender
structure PropOk (S : DecS) (n : Nat) (pv : Int → Option ByteArray) (e : Int × PropS) : Prop where
  ok : e.2.Ok
  nn : e.2.n = n
  ballot : e.2.ballot = e.1
  rng : 1 ≤ e.1 ∧ e.1 < top S
  val : e.2.value ∈ S.begun
  p1 : e.2.phase = 1 → pv e.1 = none ∧ 0 ≤ e.2.best ∧ e.2.best < e.1 ∧ (0 < e.2.best → pv e.2.best = some e.2.found) ∧ ∀ i, i < n → e.2.promised.testBit i = true → Fact S i e.1 e.2.best
  p2 : e.2.phase ≠ 1 → pv e.1 = some e.2.value
  ta : ∀ i, i < n → e.2.taken.testBit i = true → wh S e.1 i
structure SlotOk (S : DecS) (pv : Int → Option ByteArray) (i : Nat) (s : SlotS) : Prop where
  rng : 0 ≤ s.ba ∧ s.ba ≤ s.pr
  acc : ∀ c, wh S c i → c ≤ s.ba
  val : 0 < s.ba → pv s.ba = some s.va
structure DInv (S : DecS) (n : Nat) (pv : Int → Option ByteArray) : Prop where
  len : S.slots.length = n
  n1 : 1 ≤ n
  n5 : n ≤ 5
  sl : ∀ i s, S.slots[i]? = some s → SlotOk S pv i s
  le : ∀ x ∈ S.letters, LetOk S n pv x
  pr : ∀ e ∈ S.props, PropOk S n pv e
  rise : S.taken.Pairwise fun a b => a.1 < b.1
  ta : ∀ e ∈ S.taken, e.2.who < 32 ∧ 1 ≤ e.1 ∧ e.1 < top S ∧ pv e.1 = some e.2.val
  pvr : ∀ b v, pv b = some v → 1 ≤ b ∧ b < top S ∧ v ∈ S.begun
  safe : ∀ b v, pv b = some v → ∃ Q k, Q < 32 ∧ enough Q n = true ∧ (∀ i, i < n → Q.testBit i = true → Fact S i b k) ∧ (k = 0 ∨ (0 < k ∧ k < b ∧ pv k = some v))
  ch : ∀ v ∈ S.chosen, ∃ b, pv b = some v ∧ enough (S.held b).who n = true
theorem held_mem {S : DecS} {c : Int} (h : (S.held c).who ≠ 0) : ∃ e ∈ S.taken, e.1 = c ∧ e.2 = S.held c := by
  unfold DecS.held V.alook at *
  cases hf : S.taken.find? (fun p => p.1 == c) with
  | none => rw [hf] at h; exact absurd rfl h
  | some e => exact ⟨e, (find_mem hf).1, (find_mem hf).2, rfl⟩
theorem wh_mem {S : DecS} {c : Int} {i : Nat} (h : wh S c i) : ∃ e ∈ S.taken, e.1 = c ∧ e.2 = S.held c :=
  held_mem fun e => by unfold wh at h; rw [e] at h; simp at h
theorem DInv.who_lt {S : DecS} {n : Nat} {pv : Int → Option ByteArray} (I : DInv S n pv) (c : Int) : (S.held c).who < 32 := by
  by_cases h : (S.held c).who = 0
  · rw [h]; exact Nat.succ_pos 31
  · obtain ⟨e, he, _, h2⟩ := held_mem h
    rw [← h2]; exact (I.ta e he).1
theorem DInv.wh_pos {S : DecS} {n : Nat} {pv : Int → Option ByteArray} (I : DInv S n pv) {c : Int} {i : Nat} (h : wh S c i) : 1 ≤ c := by
  obtain ⟨e, he, h1, _⟩ := wh_mem h
  rw [← h1]; exact (I.ta e he).2.1
/-- a value that is, or has been, chosen at c is that of each later ballot -/
theorem DInv.agree {S : DecS} {n : Nat} {pv : Int → Option ByteArray} (I : DInv S n pv) {c : Int} {u : ByteArray} (hc : pv c = some u) (he : enough (S.held c).who n = true) :
    ∀ (m : Nat) (b : Int) (v : ByteArray), (b - c).toNat ≤ m → c ≤ b → pv b = some v → v = u := by
  intro m
  induction m with
  | zero =>
    intro b v h1 h2 h3
    have : b = c := by omega
    rw [this, hc] at h3
    exact (Option.some.inj h3).symm
  | succ m ih =>
    intro b v h1 h2 h3
    by_cases hbc : b = c
    · rw [hbc, hc] at h3
      exact (Option.some.inj h3).symm
    · obtain ⟨Q, k, q1, q2, q3, q4⟩ := I.safe b v h3
      obtain ⟨i, hi, hq, hw⟩ := share Q (S.held c).who n q1 (I.who_lt c) I.n5 q2 he
      have hf := (q3 i hi hq).2 c hw (by omega)
      have hp := I.wh_pos (show wh S c i from hw)
      rcases q4 with h0 | ⟨h4, h5, h6⟩
      · omega
      · exact ih k v (by omega) (by omega) h6
theorem DInv.one {S : DecS} {n : Nat} {pv : Int → Option ByteArray} (I : DInv S n pv) {b c : Int} {u v : ByteArray} (hb : pv b = some u) (hbe : enough (S.held b).who n = true) (hc : pv c = some v) (hce : enough (S.held c).who n = true) : u = v := by
  by_cases h : b ≤ c
  · exact (I.agree hb hbe _ c v (Nat.le_refl _) h hc).symm
  · exact I.agree hc hce _ b u (Nat.le_refl _) (by omega) hb
/-- what goes on: promises rise, what is accepted then lies at or above what had been promised -/
structure Grow (S S' : DecS) : Prop where
  prs : ∀ (i : Nat) (s' : SlotS), S'.slots[i]? = some s' → ∃ s : SlotS, S.slots[i]? = some s ∧ s.pr ≤ s'.pr
  whs : ∀ c i, wh S' c i → wh S c i ∨ ∃ s : SlotS, S.slots[i]? = some s ∧ s.pr ≤ c
  wh2 : ∀ c i, wh S c i → wh S' c i
theorem Fact.grow {S S' : DecS} {i : Nat} {b k : Int} (h : Fact S i b k) (g : Grow S S') : Fact S' i b k := by
  refine ⟨fun s' hs' => ?_, fun c hc hb => ?_⟩
  · obtain ⟨s, hs, hle⟩ := g.prs i s' hs'
    have := h.1 s hs
    omega
  · rcases g.whs c i hc with h1 | ⟨s, hs, hle⟩
    · exact h.2 c h1 hb
    · have := h.1 s hs
      omega
theorem LetOk.grow {S S' : DecS} {n : Nat} {pv pv' : Int → Option ByteArray} {x : LetS} (h : LetOk S n pv x) (g : Grow S S') (ht : top S ≤ top S') (hp : ∀ b v, pv b = some v → pv' b = some v) : LetOk S' n pv' x where
  rng := ⟨h.rng.1, h.rng.2.1, h.rng.2.2.1, by have := h.rng.2.2.2; omega⟩
  kind := h.kind
  k1 e := ⟨(h.k1 e).1.grow g, (h.k1 e).2.1, (h.k1 e).2.2.1, fun h0 => hp _ _ ((h.k1 e).2.2.2 h0)⟩
  k2 e := hp _ _ (h.k2 e)
  k3 e := g.wh2 _ _ (h.k3 e)
/-- .. where the ballot's own value has not been made now -/
theorem PropOk.grow {S S' : DecS} {n : Nat} {pv pv' : Int → Option ByteArray} {e : Int × PropS} (h : PropOk S n pv e) (g : Grow S S') (ht : top S ≤ top S') (hb : ∀ v ∈ S.begun, v ∈ S'.begun) (hp : ∀ b v, pv b = some v → pv' b = some v) (hn : pv e.1 = none → pv' e.1 = none) : PropOk S' n pv' e where
  ok := h.ok
  nn := h.nn
  ballot := h.ballot
  rng := ⟨h.rng.1, by have := h.rng.2; omega⟩
  val := hb _ h.val
  p1 e1 := ⟨hn (h.p1 e1).1, (h.p1 e1).2.1, (h.p1 e1).2.2.1, fun h0 => hp _ _ ((h.p1 e1).2.2.2.1 h0), fun i hi hq => ((h.p1 e1).2.2.2.2 i hi hq).grow g⟩
  p2 e1 := hp _ _ (h.p2 e1)
  ta i hi hq := g.wh2 _ _ (h.ta i hi hq)
theorem DInv.safe_grow {S S' : DecS} {n : Nat} {pv pv' : Int → Option ByteArray} (I : DInv S n pv) (g : Grow S S') (hp : ∀ b v, pv b = some v → pv' b = some v) {b : Int} {v : ByteArray} (h : pv b = some v) :
    ∃ Q k, Q < 32 ∧ enough Q n = true ∧ (∀ i, i < n → Q.testBit i = true → Fact S' i b k) ∧ (k = 0 ∨ (0 < k ∧ k < b ∧ pv' k = some v)) := by
  obtain ⟨Q, k, q1, q2, q3, q4⟩ := I.safe b v h
  exact ⟨Q, k, q1, q2, fun i hi hq => (q3 i hi hq).grow g, q4.imp_right fun ⟨a, b, c⟩ => ⟨a, b, hp _ _ c⟩⟩
theorem Grow.same {S S' : DecS} (h1 : S'.slots = S.slots) (h2 : S'.taken = S.taken) : Grow S S' where
  prs i s' h := ⟨s', by rw [← h1]; exact h, Int.le_refl _⟩
  whs c i h := .inl (by unfold wh DecS.held at *; rw [← h2]; exact h)
  wh2 c i h := by unfold wh DecS.held at *; rw [h2]; exact h
end Go.Proofs.Ytkjfhadafefnmaa
