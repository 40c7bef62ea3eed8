/- Slices of strings: read, cut, grown. -/
import Derived.Test.YtboifenkbhfnfaaVcK
import Derived.Test.YtboifenkbhfnfaaRow
import Derived.Test.YtboifenkbhfnfaaProg
set_option linter.all false
set_option maxRecDepth 100000
namespace Go.Proofs.Ytboifenkbhfnfaa
open Go
/-- the cells behind p are the strings xs -/
def StrAt (w : World) (p : Option Addr) (xs : List ByteArray) : Prop := xs = [] ∨ ∃ b o, p = some ⟨b, o, none⟩ ∧ b < w.heap.size ∧ ∀ i x, xs[i]? = some x → w.cell? ⟨b, o + i, none⟩ = some (.string x)
theorem StrAt.nil (w : World) (p : Option Addr) : StrAt w p [] := .inl rfl
theorem StrAt.kp {S : Nat → Prop} {w w' : World} {p : Option Addr} {xs : List ByteArray} (h : StrAt w p xs) (k : V.Kp S w w') (hn : ∀ b, V.blk? p = some b → ¬ S b) : StrAt w' p xs := by
  rcases h with h | ⟨b, o, rfl, hb, hc⟩
  · exact .inl h
  · refine .inr ⟨b, o, rfl, Nat.lt_of_lt_of_le hb k.size, fun i x hx => ?_⟩
    rw [← hc i x hx]
    exact World.cell?_of_block (k.block b hb (hn b rfl))
theorem StrAt.keep {w w' : World} {p : Option Addr} {xs : List ByteArray} (h : StrAt w p xs) (k : V.Kp V.Nil w w') : StrAt w' p xs := h.kp k (fun _ _ e => e)
theorem StrAt.get {w : World} {p : Option Addr} {xs : List ByteArray} (h : StrAt w p xs) {i : Nat} {x : ByteArray} (hx : xs[i]? = some x) : ∃ b o, p = some ⟨b, o, none⟩ ∧ b < w.heap.size ∧ w.cell? ⟨b, o + i, none⟩ = some (.string x) := by
  rcases h with h | ⟨b, o, rfl, hb, hc⟩
  · rw [h] at hx; cases hx
  · exact ⟨b, o, rfl, hb, hc i x hx⟩
/-- an element that is read -/
theorem StrAt.load {w : World} {p : Option Addr} {xs : List ByteArray} (h : StrAt w p xs) {n : Nat} (hn : n = xs.length) {i : Nat} {x : ByteArray} (hx : xs[i]? = some x) {C : ByteArray → Prop} (hc : C x) :
    V.inX (i : Int) n ∧ V.nilCk p fun a => V.nilCk (some (V.aadd a (V.nmul (V.inat (i : Int)) 1))) fun a => V.ldStr w a C := by
  have hlt : i < xs.length := (List.getElem?_eq_some_iff.1 hx).1
  obtain ⟨b, o, rfl, _, hcell⟩ := h.get hx
  refine ⟨⟨by omega, by omega⟩, ?_⟩
  rw [V.nilCk_mk, V.nilCk_mk, V.nmul_eq, V.inat_nat, Nat.mul_one, V.aadd_mk]
  exact ⟨x, hcell, hc⟩
theorem StrAt.loadA {w : World} {p : Option Addr} {xs : List ByteArray} (h : StrAt w p xs) {n : Nat} (hn : n = xs.length) {i : Nat} {x : ByteArray} (hx : xs[i]? = some x) {C : Addr → ByteArray → Prop} (hc : ∀ b o, p = some ⟨b, o, none⟩ → C ⟨b, o, none⟩ x) :
    V.inX (i : Int) n ∧ V.nilCk p fun a => V.ldStr w (V.aadd a (V.inat (i : Int))) (C a) := by
  have hlt : i < xs.length := (List.getElem?_eq_some_iff.1 hx).1
  obtain ⟨b, o, rfl, _, hcell⟩ := h.get hx
  refine ⟨⟨by omega, by omega⟩, ?_⟩
  rw [V.nilCk_mk, V.inat_nat, V.aadd_mk]
  exact ⟨x, hcell, hc b o rfl⟩
theorem strAt_one {w : World} {a : Nat} {x : ByteArray} {t : TypeId} (h : V.Blk w a #[.string x] t) : StrAt w (some ⟨a, 0, none⟩) [x] := .inr ⟨a, 0, rfl, h.lt, fun i y hy => by
  obtain rfl : i = 0 := by
    have := (List.getElem?_eq_some_iff.1 hy).1
    simpa using this
  cases hy
  rw [h.cell]; rfl⟩
theorem slAdr_blk (p : Option Addr) (c l size : Nat) : V.blk? (V.slAdr p c l size) = V.blk? p := by
  unfold V.slAdr
  split
  · rfl
  · cases p with
    | none => rfl
    | some a =>
      show some (a.add (l * size)).block = some a.block
      congr 1
      unfold Addr.add; split <;> rfl
theorem StrAt.drop {w : World} {p : Option Addr} {xs : List ByteArray} (h : StrAt w p xs) {c : Nat} (hc : xs.length ≤ c) (l : Nat) : StrAt w (V.slAdr p c l 1) (xs.drop l) := by
  by_cases hl : c = l
  · left; rw [List.drop_eq_nil_iff]; omega
  · rcases h with h | ⟨b, o, rfl, hb, hcell⟩
    · left; rw [h]; simp
    · right
      unfold V.slAdr
      rw [if_neg hl]
      refine ⟨b, o + l, ?_, hb, fun i x hx => ?_⟩
      · have := V.aadd_mk b o (l * 1)
        simpa [V.aadd] using this
      · rw [List.getElem?_drop] at hx
        rw [Nat.add_assoc]; exact hcell _ _ hx
theorem StrAt.take {w : World} {p : Option Addr} {xs : List ByteArray} (h : StrAt w p xs) (n : Nat) : StrAt w p (xs.take n) := by
  rcases h with h | ⟨b, o, rfl, hb, hcell⟩
  · left; rw [h]; simp
  · refine .inr ⟨b, o, rfl, hb, fun i x hx => hcell i x ?_⟩
    rw [List.getElem?_take] at hx
    split at hx
    · exact hx
    · cases hx
theorem StrAt.sub {w : World} {p : Option Addr} {xs : List ByteArray} (h : StrAt w p xs) {c : Nat} (hc : xs.length ≤ c) (l n : Nat) : StrAt w (V.slAdr p c l 1) ((xs.drop l).take n) := (h.drop hc l).take n
/-- a slice that its maker owns -/
abbrev SRow (w : World) (p : Option Addr) (n c : Nat) (xs : List ByteArray) : Prop := V.Row w 9 1 p n c (xs.map Value.string)
theorem SRow.at {w : World} {p : Option Addr} {n c : Nat} {xs : List ByteArray} (h : SRow w p n c xs) : StrAt w p xs := by
  rcases h.cases with ⟨rfl, rfl, rfl⟩ | ⟨g, cur, rfl, hb, h1, h2, h3, h4⟩
  · left
    have := h.len
    simpa using this
  · refine .inr ⟨g, 0, rfl, hb.lt, fun i x hx => ?_⟩
    rw [Nat.zero_add]
    exact h.cell (by rw [List.getElem?_map, hx]; rfl)
theorem SRow.length {w : World} {p : Option Addr} {n c : Nat} {xs : List ByteArray} (h : SRow w p n c xs) : n = xs.length := by
  have := h.len
  rw [List.length_map] at this; omega
theorem SRow.le {w : World} {p : Option Addr} {n c : Nat} {xs : List ByteArray} (h : SRow w p n c xs) : n ≤ c := by
  rcases h.cases with ⟨rfl, rfl, rfl⟩ | ⟨g, cur, rfl, hb, h1, h2, h3, h4⟩
  · exact Nat.le_refl _
  · exact h1
theorem SRow.nil (w : World) : SRow w none 0 0 [] := V.Row.nil w _ _
theorem SRow.kp {S : Nat → Prop} {w w' : World} {p : Option Addr} {n c : Nat} {xs : List ByteArray} (h : SRow w p n c xs) (k : V.Kp S w w') (hn : ∀ b, V.blk? p = some b → ¬ S b) : SRow w' p n c xs :=
  h.same (fun b hb => k.block b (h.lt b hb) (hn b hb))
theorem SRow.keep {w w' : World} {p : Option Addr} {n c : Nat} {xs : List ByteArray} (h : SRow w p n c xs) (k : V.Kp V.Nil w w') : SRow w' p n c xs := h.kp k (fun _ _ e => e)
/-- p's block came at or behind B -/
def New (B : Nat) (p : Option Addr) : Prop := ∀ b, V.blk? p = some b → B ≤ b
theorem New.none (B : Nat) : New B none := fun _ h => by cases h
theorem New.le {A B : Nat} {p : Option Addr} (h : New B p) (hab : A ≤ B) : New A p := fun b hb => Nat.le_trans hab (h b hb)
/-- what an append to a new slice leaves -/
theorem kp_new {w w1 w2 : World} {p : Option Addr} (h : V.Kp V.Nil w w1) (k : V.Kp (fun k => V.blk? p = some k) w1 w2) (hp : New w.heap.size p) : V.Kp V.Nil w w2 :=
  V.Kp.then h k (fun i hi e => by have := hp i e; omega)
theorem app_str {w : World} {p : Option Addr} {n c : Nat} {xs : List ByteArray} (h : SRow w p n c xs) (hn : n ≤ 1000000000) (x : ByteArray) {a : Nat} (ha : a = w.heap.size) {C : Value → World → Prop}
    (hc : ∀ p' c' w', SRow w' p' (n + 1) c' (xs ++ [x]) → V.Kp (fun k => V.blk? p = some k) w w' → (∀ k, V.blk? p' = some k → V.blk? p = some k ∨ w.heap.size ≤ k) → C (.slice p' (n + 1) c') w') :
    V.RunV Try.prog (Builtin.append_ #[22, 22] 22 #[.slice p n c, .slice (some ⟨a, 0, none⟩) 1 1]) (w.alloc (.cells #[.string x] 9)) C := by
  subst ha
  have hk0 : V.Kp V.Nil w (w.alloc (.cells #[.string x] 9)) := V.Kp.alloc (V.Kp.refl _ _) _
  have h2 := h.keep hk0
  refine V.Row.append h2 Try.underlying22 (by kernel_rfl : Try.prog.info? 9 = some Try.t9) (z := Try.t9.zero.getD .nilIface) rfl rfl rfl (by decide) (V.Blk.new w _ _) rfl (by intro u hu; simp at hu; subst hu; rfl) (by show (n + 1) * 16 ≤ _; omega) (by omega) ?_
  intro p' c' w' hr hk hat
  refine hc p' c' w' (by rw [SRow, List.map_append]; exact hr) (V.Kp.trans (hk0.mono (fun _ _ e => e.elim)) hk) ?_
  intro k hk'
  rcases hat with e | e
  · exact .inl (by rw [← e]; exact hk')
  · rw [hk'] at e; cases e; right; rw [V.size_alloc]; omega
/-- append of another slice's strings -/
theorem app_strs {w : World} {p q : Option Addr} {n c m mc : Nat} {xs ys : List ByteArray} (h : SRow w p n c xs) (hn : n ≤ 1000000000) (hq : StrAt w q ys) (hm : m = ys.length) (hm2 : m ≤ 1000000000) {C : Value → World → Prop}
    (hc : ∀ p' c' w', SRow w' p' (n + m) c' (xs ++ ys) → V.Kp (fun k => V.blk? p = some k) w w' → (∀ k, V.blk? p' = some k → V.blk? p = some k ∨ w.heap.size ≤ k) → C (.slice p' (n + m) c') w') :
    V.RunV Try.prog (Builtin.append_ #[22, 22] 22 #[.slice p n c, .slice q m mc]) w C := by
  subst hm
  rcases hq with rfl | ⟨b, o, rfl, hb, hcell⟩
  · refine ⟨.slice p n c, w, ?_, hc p c w (by simpa using h) (V.Kp.refl _ _) (fun k hk => .inl hk)⟩
    have hu := Try.underlying22
    have hi : Try.prog.info? 9 = some Try.t9 := by kernel_rfl
    have hle := h.le
    rcases h.cases with ⟨rfl, rfl, rfl⟩ | ⟨g, cur, rfl, _⟩
    · cases q <;> simp [Builtin.append_, run_underlying hu, sizeOf, typeInfo, hi, Builtin.lenOf, Builtin.firstCells, loadCells, loadCellsFrom]
    · cases q <;> simp [Builtin.append_, run_underlying hu, sizeOf, typeInfo, hi, Builtin.lenOf, Builtin.firstCells, loadCells, loadCellsFrom, storeCells, hle]
  · obtain ⟨v', w', hr, ho, hg, -, hat⟩ := run_append_own_at (P := Try.prog) w 0 22 22 9 Try.t9 (Try.t9.zero.getD .nilIface) 1 16 Try.underlying22 (by kernel_rfl) rfl rfl rfl rfl (by decide) (.slice p n c) n (xs.map Value.string) h ⟨b, o, none⟩ ys.length mc (ys.map Value.string) (by simp)
      (fun j u hu => by
        rw [show (⟨b, o, none⟩ : Addr).add j = ⟨b, o + j, none⟩ by have := V.aadd_mk b o j; simpa [V.aadd] using this]
        rw [List.getElem?_map] at hu
        cases hx : ys[j]? with
        | none => rw [hx] at hu; cases hu
        | some x => rw [hx] at hu; cases hu; exact hcell j x hx) (by intro u hu; simp at hu; obtain ⟨x, _, rfl⟩ := hu; rfl) (by simp only [maxLen]; omega) (by omega) (Nat.zero_le _)
    refine ⟨v', w', hr, ?_⟩
    have key : ∃ p' c', v' = .slice p' (n + ys.length) c' := by
      rcases ho.2 with ⟨h1, h2⟩ | ⟨g, cap, cur, he, _⟩
      · exact ⟨none, 0, by rw [h1, h2]⟩
      · exact ⟨_, _, he⟩
    obtain ⟨p', c', rfl⟩ := key
    rw [V.ownBlock_slice, V.ownBlock_slice] at hat
    rw [V.ownBlock_slice] at hg
    refine hc p' c' w' (by rw [SRow, List.map_append]; exact ho) ⟨hg.os, hg.tape, hg.output, hg.size, fun k hk hn => hg.block k hk (fun e => hn e.symm)⟩ ?_
    intro k hk'
    rcases hat with e | e
    · exact .inl (by rw [← e]; exact hk')
    · rw [hk'] at e; cases e; exact .inr (Nat.le_refl _)
/-- appends, one behind the other, to a slice that is new since w0 -/
theorem app_new {w0 w : World} {p p' : Option Addr} (k0 : V.Kp V.Nil w0 w) (hp : New w0.heap.size p) (hat : ∀ k, V.blk? p' = some k → V.blk? p = some k ∨ w.heap.size ≤ k) : New w0.heap.size p' :=
  fun b hb => (hat b hb).elim (hp b) (fun e => Nat.le_trans k0.size e)
end Go.Proofs.Ytboifenkbhfnfaa
