/- decree: the plain law, 5: what a proposer is told; all steps. -/
import Derived.Test.YtkjfhadafefnmaaPaxD
set_option linter.all false
namespace Go.Proofs.Ytkjfhadafefnmaa
open Go
section
variable {S : DecS} {n : Nat} {pv : Int → Option ByteArray}
theorem Fact.mono {i : Nat} {b k k' : Int} (h : Fact S i b k) (hk : k ≤ k') : Fact S i b k' := ⟨h.1, fun c hc hb => Int.le_trans (h.2 c hc hb) hk⟩
theorem aset_mem {ν : Type} {l : List (Int × ν)} {b : Int} {q : ν} {e : Int × ν} (h : e ∈ aset l b q) : e = (b, q) ∨ (e ∈ l ∧ e.1 ≠ b) := by
  unfold aset at h
  obtain ⟨x, hx, rfl⟩ := List.mem_map.1 h
  split
  · rename_i e
    exact .inl (by rw [e])
  · rename_i e
    exact .inr ⟨hx, e⟩
theorem DInv.setProp (I : DInv S n pv) {b : Int} {q : PropS} (hq : PropOk S n pv (b, q)) : DInv { S with props := aset S.props b q } n pv := I.setProps fun e he => by
  rcases aset_mem he with rfl | ⟨h, _⟩
  · exact hq
  · exact I.pr e h
theorem DInv.setChosen (I : DInv S n pv) {v : ByteArray} {b : Int} (h1 : pv b = some v) (h2 : enough (S.held b).who n = true) : DInv { S with chosen := S.chosen ++ [v] } n pv :=
  have g : Grow S { S with chosen := S.chosen ++ [v] } := Grow.same rfl rfl
  { len := I.len, n1 := I.n1, n5 := I.n5, sl := fun i s hs => ⟨(I.sl i s hs).rng, (I.sl i s hs).acc, (I.sl i s hs).val⟩
    le := fun x hx => (I.le x hx).grow g (Int.le_refl _) (fun _ _ h => h)
    pr := fun e he => (I.pr e he).grow g (Int.le_refl _) (fun _ h => h) (fun _ _ h => h) (fun h => h)
    rise := I.rise, ta := I.ta, pvr := I.pvr, safe := I.safe
    ch := fun u hu => by
      rcases List.mem_append.1 hu with h | h
      · exact I.ch u h
      · rw [List.mem_singleton.1 h]; exact ⟨b, h1, h2⟩ }
theorem promise1_ok (I : DInv S n pv) {x : LetS} (hx : LetOk S n pv x) (hk : x.kind = 1) {p : PropS} (P : PropOk S n pv (x.ballot, p)) (hc : p.counts 1 x.sender x.ballot p.promised = true) :
    PropOk S n pv (x.ballot, p.promise1 x.sender x.acc x.val) := by
  obtain ⟨c1, c2, c3, c4, c5⟩ := counts_range hc
  obtain ⟨k1, k2, k3, k4⟩ := hx.k1 hk
  obtain ⟨p1, p2, p3, p4, p5⟩ := P.p1 c1
  have hs := hx.rng.1
  have n5 := I.n5
  have hpr := P.ok.pr
  have hnn := P.nn
  simp only at p1 p2 p3 p4 p5 hpr hnn
  exact
  { ok := ⟨P.ok.n1, P.ok.n5, withN_lt _ _ hpr (by simp only [Int.toNat_natCast]; omega), P.ok.ta⟩
    nn := P.nn, ballot := P.ballot, rng := P.rng, val := P.val
    p1 := fun _ => by
      refine ⟨p1, ?_, ?_, fun h0 => ?_, fun i hi hq => ?_⟩
      · simp only [PropS.promise1]; split <;> omega
      · simp only [PropS.promise1]; split <;> omega
      · simp only [PropS.promise1] at h0 ⊢
        split at h0
        · rename_i hlt
          rw [if_pos hlt, if_pos hlt]
          exact k4 h0
        · rename_i hlt
          rw [if_neg hlt, if_neg hlt]
          exact p4 h0
      · simp only [PropS.promise1, Int.toNat_natCast] at hq ⊢
        rw [withN_bit _ _ _ hpr (by omega) (by omega)] at hq
        simp only [Bool.or_eq_true, decide_eq_true_eq] at hq
        rcases hq with h | rfl
        · exact (p5 i hi h).mono (by split <;> omega)
        · exact k1.mono (by split <;> omega)
    p2 := fun h => absurd c1 h
    ta := P.ta }
theorem DInv.tell (I : DInv S n pv) {x : LetS} (hx : LetOk S n pv x) (hk : x.kind = 1 ∨ x.kind = 3) : ∃ pv', DInv (S.tell x) n pv' ∧ ∀ b v, pv b = some v → pv' b = some v := by
  unfold DecS.tell V.alook
  cases hf : S.props.find? (fun p => p.1 == x.ballot) with
  | none => exact ⟨pv, I, fun _ _ h => h⟩
  | some e =>
    obtain ⟨he, hb⟩ := find_mem hf
    obtain ⟨eb, p⟩ := e
    simp only at hb
    subst hb
    have P := I.pr _ he
    have hnn := P.nn
    simp only at hnn
    simp only [Option.map_some]
    by_cases h1 : x.kind = 1
    · rw [if_pos h1]
      by_cases hc : p.counts 1 x.sender x.ballot p.promised = true
      · have Q := promise1_ok I hx h1 P hc
        have c1 := (counts_range hc).1
        obtain ⟨p1, -⟩ := P.p1 c1
        by_cases hE : enough (p.promise1 x.sender x.acc x.val).promised (p.promise1 x.sender x.acc x.val).n = true
        · have er : p.promise x.sender x.ballot x.acc x.val = ({ p.promise1 x.sender x.acc x.val with phase := 2, value := if 0 < (p.promise1 x.sender x.acc x.val).best then (p.promise1 x.sender x.acc x.val).found else (p.promise1 x.sender x.acc x.val).value }, true) := by
            unfold PropS.promise
            rw [if_pos hc]
            simp only [hE, if_true]
          rw [er]
          simp only [if_true]
          obtain ⟨q1, q2, q3, q4, q5⟩ := Q.p1 c1
          have hnq : (p.promise1 x.sender x.acc x.val).n = n := Q.nn
          rw [hnq] at hE
          have hpr := Q.ok.pr
          have hval := Q.val
          have hqok := Q.ok
          have hqta := Q.ta
          have hqb := Q.ballot
          simp only at q1 q2 q3 q4 q5 hpr hval hqok hqta hqb
          generalize p.promise1 x.sender x.acc x.val = q at *
          generalize hvv : (if 0 < q.best then q.found else q.value) = vv
          have hvb : vv ∈ S.begun := by
            rw [← hvv]
            split
            · rename_i h0; exact (I.pvr _ _ (q4 h0)).2.2
            · exact hval
          have ext : ∀ b v, pv b = some v → (fun c => if c = x.ballot then some vv else pv c) b = some v := fun b v h => by
            simp only
            rw [if_neg (fun e => by rw [e, q1] at h; cases h)]
            exact h
          refine ⟨fun c => if c = x.ballot then some vv else pv c, DInv.all ?_ ?_, ext⟩
          · have g : Grow S { S with props := aset S.props x.ballot { q with phase := 2, value := vv } } := Grow.same rfl rfl
            exact
            { len := I.len, n1 := I.n1, n5 := I.n5
              sl := fun i s hs => ⟨(I.sl i s hs).rng, (I.sl i s hs).acc, fun h0 => ext _ _ ((I.sl i s hs).val h0)⟩
              le := fun y hy => (I.le y hy).grow g (Int.le_refl _) ext
              pr := fun e he => by
                rcases aset_mem he with rfl | ⟨h, hne⟩
                · exact
                  { ok := ⟨hqok.n1, hqok.n5, hqok.pr, hqok.ta⟩, nn := hnq, ballot := hqb, rng := P.rng, val := hvb
                    p1 := fun h => by simp at h
                    p2 := fun _ => by simp
                    ta := hqta }
                · exact (I.pr e h).grow g (Int.le_refl _) (fun _ h => h) ext (fun h => by show (if e.1 = x.ballot then some vv else pv e.1) = none; rw [if_neg hne]; exact h)
              rise := I.rise
              ta := fun e he => ⟨(I.ta e he).1, (I.ta e he).2.1, (I.ta e he).2.2.1, ext _ _ (I.ta e he).2.2.2⟩
              pvr := fun b v h => by
                have h' : (if b = x.ballot then some vv else pv b) = some v := h
                split at h'
                · rename_i e
                  cases h'
                  rw [e]
                  exact ⟨P.rng.1, P.rng.2, hvb⟩
                · exact I.pvr b v h'
              safe := fun b v h => by
                have h' : (if b = x.ballot then some vv else pv b) = some v := h
                split at h'
                · rename_i e
                  cases h'
                  subst e
                  refine ⟨q.promised, q.best, hpr, hE, q5, ?_⟩
                  by_cases h0 : 0 < q.best
                  · refine .inr ⟨h0, q3, ext _ _ ?_⟩
                    rw [if_pos h0] at hvv
                    rw [← hvv]; exact q4 h0
                  · exact .inl (by omega)
                · exact I.safe_grow g ext h'
              ch := fun v hv => by
                obtain ⟨b, h1, h2⟩ := I.ch v hv
                exact ⟨b, ext _ _ h1, h2⟩ }
          · intro i hi
            exact { rng := ⟨hx.rng.2.1, hi, hx.rng.2.2.1, hx.rng.2.2.2⟩, kind := .inr (.inr (.inl rfl)), k1 := fun h => by simp at h, k2 := fun _ => by simp, k3 := fun h => by simp at h }
        · have er : p.promise x.sender x.ballot x.acc x.val = (p.promise1 x.sender x.acc x.val, false) := by
            unfold PropS.promise
            rw [if_pos hc]
            simp only [hE]
            rfl
          rw [er]
          exact ⟨pv, I.setProp Q, fun _ _ h => h⟩
      · have er : p.promise x.sender x.ballot x.acc x.val = (p, false) := by unfold PropS.promise; rw [if_neg hc]
        rw [er]
        exact ⟨pv, I.setProp P, fun _ _ h => h⟩
    · rw [if_neg h1]
      refine ⟨pv, ?_, fun _ _ h => h⟩
      have h3 := hx.k3 (hk.resolve_left h1)
      by_cases hc : p.counts 2 x.sender x.ballot p.taken = true
      · obtain ⟨c1, c2, c3, c4, c5⟩ := counts_range hc
        have n5 := I.n5
        have hs := hx.rng.1
        have hta := P.ok.ta
        have hpt := P.ta
        have hp2 := P.p2 (by simp only; omega)
        simp only at hta hpt hp2
        have hlt := withN_lt p.taken x.sender hta (by omega)
        have tab : ∀ i, i < n → (withN p.taken (x.sender : Int).toNat).testBit i = true → wh S x.ballot i := fun i hi hq => by
          rw [Int.toNat_natCast, withN_bit _ _ _ hta (by omega) (by omega)] at hq
          simp only [Bool.or_eq_true, decide_eq_true_eq] at hq
          rcases hq with h | rfl
          · exact hpt i hi h
          · exact h3
        have Q : ∀ ph, ph ≠ 1 → PropOk S n pv (x.ballot, { p with taken := withN p.taken (x.sender : Int).toNat, phase := ph }) := fun ph hph =>
          { ok := ⟨P.ok.n1, P.ok.n5, P.ok.pr, hlt⟩, nn := P.nn, ballot := P.ballot, rng := P.rng, val := P.val
            p1 := fun h => absurd h hph
            p2 := fun _ => hp2
            ta := tab }
        by_cases hE : enough (withN p.taken (x.sender : Int).toNat) p.n = true
        · have er : p.accept x.sender x.ballot = ({ p with taken := withN p.taken (x.sender : Int).toNat, phase := 3 }, true) := by
            unfold PropS.accept
            rw [if_pos hc]
            simp only [hE, if_true]
          rw [er]
          simp only [if_true]
          refine (I.setProp (Q 3 (by decide))).setChosen (b := x.ballot) hp2 ?_
          rw [hnn] at hE
          exact enough_mono _ _ n hlt (I.who_lt _) n5 (fun i hi h => tab i hi h) hE
        · have er : p.accept x.sender x.ballot = ({ p with taken := withN p.taken (x.sender : Int).toNat }, false) := by
            unfold PropS.accept
            rw [if_pos hc]
            simp only [hE]
            rfl
          rw [er]
          simp only [Bool.false_eq_true, if_false]
          have := Q p.phase (by rw [c1]; decide)
          exact I.setProp this
      · have er : p.accept x.sender x.ballot = (p, false) := by unfold PropS.accept; rw [if_neg hc]
        rw [er]
        exact I.setProp P
end
end Go.Proofs.Ytkjfhadafefnmaa
