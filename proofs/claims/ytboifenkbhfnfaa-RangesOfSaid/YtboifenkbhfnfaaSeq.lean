/- Ranges over functions: what an iterator hands on, and who ranges over it. -/
import Derived.Test.YtboifenkbhfnfaaVcK
import Derived.Test.YtboifenkbhfnfaaRow
import Derived.Test.YtboifenkbhfnfaaProg
set_option linter.all false
set_option maxRecDepth 100000
namespace Go.Proofs.Ytboifenkbhfnfaa
open Go
/-- the closure n, with what it captured, hands on xs: its own blocks are O, what it reads is R -/
def Seq (n : FuncId) (captured : List Value) (O R : Nat → Prop) (xs : List (List Value)) (w : World) : Prop :=
  ∀ (v : Value) (w0 : World) (I : Nat → World → Prop) (St : World → Prop) (C : Value → World → Prop), V.Kp V.Nil w w0 → I 0 w0 →
    (∀ k w1 w2, I k w1 → V.Kp O w1 w2 → I k w2) →
    (∀ k x w1, xs[k]? = some x → I k w1 → V.callV Try.prog v x w1 fun r w2 => (∀ b, R b → w2.heap[b]? = w1.heap[b]?) ∧ w1.heap.size ≤ w2.heap.size ∧ ((r = .bool true ∧ I (k + 1) w2) ∨ (r = .bool false ∧ St w2))) →
    (∀ w', I xs.length w' → C (.tuple #[]) w') → (∀ w', St w' → C (.tuple #[]) w') →
    V.CallsR Try.prog n (v :: captured).toArray w0 C
theorem callV_mono' {F : Value} {args : List Value} {w : World} {A B : Value → World → Prop} (h : V.callV Try.prog F args w A) (hab : ∀ v w, A v w → B v w) : V.callV Try.prog F args w B := by
  unfold V.callV at h ⊢
  split at h
  · have h1 := (V.onlyIf_of h).1
    have h2 := (V.onlyIf_of h).2
    show V.onlyIf (V.callable Try.prog _) _
    rw [h1]
    exact V.CallsR.mono h2 hab
  · obtain ⟨r, h1, h2, h3⟩ := h
    exact ⟨r, h1, h2, RoundIn.mono h3 fun e w ⟨v, e1, h4⟩ => ⟨v, e1, hab _ _ h4⟩⟩
  · exact h.elim
theorem yield_rec {rec : LoopState → Option Code → Loop} {l D : Nat} {fn : FuncId} {tmps : Array Value} (tmps' : Array Value) {ps : Array Tmp} {az bd : Code} {args : List Value} {w : World} {C : Value → World → Prop} (hrec : rec = V.rfRec fn tmps ps az bd D)
    (hl : V.LBlk w l (rec .ready none)) (hs : args.length = ps.size) (ht : (ps.zip args.toArray).foldl (fun tmps (t, a) => tmps.setIfInBounds t a) tmps = tmps')
    (h : V.LBlk w l (rec .ready none) → V.rndVC Try.prog l rec az bd tmps' w C) : V.callV Try.prog (.func (.yield l) #[] #[]) args w C := by
  subst hrec; exact V.callV_yield hl hs ht (h hl)
theorem yield1 {rec : LoopState → Option Code → Loop} {l D : Nat} {fn : FuncId} {tmps tmps' : Array Value} {ps : Array Tmp} {az bd : Code} (i : Tmp) {a : Value} {w : World} {C : Value → World → Prop} (hrec : rec = V.rfRec fn tmps ps az bd D)
    (hl : V.LBlk w l (rec .ready none)) (hs : ps = #[i]) (ht : tmps.setIfInBounds i a = tmps')
    (h : V.rndVC Try.prog l rec az bd tmps' w C) : V.callV Try.prog (.func (.yield l) #[] #[]) [a] w C := by
  subst hs
  exact yield_rec tmps' hrec hl rfl (by rw [← ht]; simp) (fun _ => h)
theorem yield2 {rec : LoopState → Option Code → Loop} {l D : Nat} {fn : FuncId} {tmps tmps' : Array Value} {ps : Array Tmp} {az bd : Code} (i j : Tmp) {a b : Value} {w : World} {C : Value → World → Prop} (hrec : rec = V.rfRec fn tmps ps az bd D)
    (hl : V.LBlk w l (rec .ready none)) (hs : ps = #[i, j]) (ht : (tmps.setIfInBounds i a).setIfInBounds j b = tmps')
    (h : V.rndVC Try.prog l rec az bd tmps' w C) : V.callV Try.prog (.func (.yield l) #[] #[]) [a, b] w C := by
  subst hs
  exact yield_rec tmps' hrec hl rfl (by rw [← ht]; simp) (fun _ => h)
theorem named {n : FuncId} {args : Array Value} {w : World} {C : Value → World → Prop} (h : ∀ W, W = w → V.CallsR Try.prog n args W C) : V.CallsR Try.prog n args w C := h w rfl
/-- who ranges over such a closure -/
theorem rf_seq {n : FuncId} {captured : Array Value} {O R : Nat → Prop} {xs : List (List Value)} {tmps : Array Value} {ps : Array Tmp} {az bd : Code} {w : World} {K : Option Code → Nat → World → Prop}
    (hs : Seq n captured.toList O R xs w) (hn : V.callable Try.prog n = true) (s : Nat) (hsz : w.heap.size = s) (hR : ∀ b, O b → b < s) (hR2 : ∀ b, R b → b < s)
    (J : Nat → World → Prop) (E : Option Code → World → Prop)
    (h0 : J 0 w)
    (hJ : ∀ k w1 w2, J k w1 → V.Kp (fun b => O b ∨ b = s ∨ b = s + 1) w1 w2 → J k w2)
    (hE : ∀ pe w1 w2, E pe w1 → V.Kp (V.One (s + 1)) w1 w2 → E pe w2)
    (hround : ∀ (fn : FuncId) (rec : LoopState → Option Code → Loop), rec = V.rfRec fn tmps ps az bd s → ∀ k x w1, xs[k]? = some x → J k w1 → V.LBlk w1 (s + 1) (rec .ready none) → V.DBlk w1 s → s + 2 ≤ w1.heap.size →
      ∀ (C : Value → World → Prop), (∀ (S : Nat → Prop) w2, V.Kp S w1 w2 → (∀ b, S b → ¬ R b ∧ b ≠ s) → J (k + 1) w2 → V.LBlk w2 (s + 1) (rec .ready none) → C (.bool true) w2) →
        (∀ (S : Nat → Prop) pe w2, V.Kp S w1 w2 → (∀ b, S b → ¬ R b ∧ b ≠ s) → E pe w2 → V.LBlk w2 (s + 1) (rec .done pe) → C (.bool false) w2) →
      V.callV Try.prog (.func (.yield (s + 1)) #[] #[]) x w1 C)
    (hend : ∀ w', J xs.length w' → V.DBlk w' s → s + 2 ≤ w'.heap.size → K none s w')
    (hstop : ∀ pe w', E pe w' → V.DBlk w' s → s + 2 ≤ w'.heap.size → K pe s w') :
    V.rfVC Try.prog (.func (.func n) #[] captured) tmps ps az bd w K := by
  subst hsz
  refine V.rfVC_fn hn ?_
  intro fn
  obtain ⟨rec, hrec⟩ : ∃ rec, rec = V.rfRec fn tmps ps az bd w.heap.size := ⟨_, rfl⟩
  obtain ⟨s, hsz⟩ : ∃ s, s = w.heap.size := ⟨_, rfl⟩
  have hl := V.LBlk.rfW fn tmps ps az bd w
  have hd := V.DBlk.rfW fn tmps ps az bd w
  have hk0 : V.Kp V.Nil w (V.rfW fn tmps ps az bd w) := V.Kp.rfW (V.Kp.refl _ _) _ _ _ _ _
  have hz := V.rfW_size fn tmps ps az bd w
  rw [show ([Value.func (.yield (w.heap.size + 1)) #[] #[]] ++ captured.toList) = (Value.func (.yield (w.heap.size + 1)) #[] #[] :: captured.toList) from rfl]
  rw [← hrec] at hl
  rw [show V.rfRec fn tmps ps az bd w.heap.size = rec from hrec.symm]
  have hOs : ∀ b, O b → b < s := fun b hb => by rw [hsz]; exact hR b hb
  have key : ∀ (pe : Option Code) (st : LoopState) (w' : World), V.LBlk w' (w.heap.size + 1) (rec st pe) → V.Kp (V.One (w.heap.size + 1)) w' (V.putO w' (w.heap.size + 1) (.loop (rec .exhausted pe))) := fun pe st w' _ => V.Kp.putO (S := V.One (w.heap.size + 1)) (V.Kp.refl _ _) (.inl rfl) _
  refine hs _ _ (fun k w' => J k w' ∧ V.LBlk w' (w.heap.size + 1) (rec .ready none) ∧ V.DBlk w' w.heap.size ∧ w.heap.size + 2 ≤ w'.heap.size)
    (fun w' => ∃ pe, E pe w' ∧ V.LBlk w' (w.heap.size + 1) (rec .done pe) ∧ V.DBlk w' w.heap.size ∧ w.heap.size + 2 ≤ w'.heap.size) _ hk0 ⟨hJ 0 _ _ h0 (hk0.mono fun _ _ h => h.elim), hl, hd, by omega⟩ ?_ ?_ ?_ ?_
  · rintro k w1 w2 ⟨h1, h2, h3, h4⟩ hk
    refine ⟨hJ k _ _ h1 (hk.mono fun _ _ h => .inl h), V.Kp.lblk hk h2 (fun e => ?_), V.Kp.dblk hk h3 (fun e => ?_), Nat.le_trans h4 hk.size⟩
    · have := hOs _ e; omega
    · have := hOs _ e; omega
  · rintro k x w1 hx ⟨h1, h2, h3, h4⟩
    refine hround fn rec hrec k x w1 hx h1 h2 h3 h4 _ ?_ ?_
    · intro S w2 hk2 hS hj hl2
      refine ⟨fun b hb => hk2.block b (by have := hR2 b hb; omega) (fun e => (hS b e).1 hb), hk2.size, .inl ⟨rfl, hj, hl2, V.Kp.dblk hk2 h3 (fun e => (hS _ e).2 rfl), by have := hk2.size; omega⟩⟩
    · intro S pe w2 hk2 hS he hl2
      refine ⟨fun b hb => hk2.block b (by have := hR2 b hb; omega) (fun e => (hS b e).1 hb), hk2.size, .inr ⟨rfl, pe, he, hl2, V.Kp.dblk hk2 h3 (fun e => (hS _ e).2 rfl), by have := hk2.size; omega⟩⟩
  · rintro w' ⟨h1, h2, h3, h4⟩
    have hk := key none .ready w' h2
    exact ⟨.ready, none, h2, (by intro e; cases e), hend _ (hJ _ _ _ h1 (hk.mono fun b _ h => .inr (.inr h))) (h3.putO (by omega) _) (by rw [V.size_putO]; exact h4)⟩
  · rintro w' ⟨pe, h1, h2, h3, h4⟩
    have hk := key pe .done w' h2
    exact ⟨.done, pe, h2, (by intro e; cases e), hstop pe _ (hE _ _ _ h1 hk) (h3.putO (by omega) _) (by rw [V.size_putO]; exact h4)⟩
end Go.Proofs.Ytboifenkbhfnfaa
