/- decree: the other changes. -/
import Derived.Test.YtkjfhadafefnmaaDecB
set_option linter.all false
namespace Go.Proofs.Ytkjfhadafefnmaa
open Go
set_option linter.unusedSimpArgs false
def aset {ν : Type} (l : List (Int × ν)) (b : Int) (q : ν) : List (Int × ν) := l.map fun e => if e.1 = b then (e.1, q) else e
theorem mem_ains {ν : Type} {x e : Int × ν} : ∀ {l : List (Int × ν)}, e ∈ V.ains x l → e = x ∨ e ∈ l
  | [], h => by simpa [V.ains] using h
  | y :: r, h => by
    unfold V.ains at h
    split at h
    · simpa using h
    · rcases List.mem_cons.1 h with h | h
      · exact .inr (by simp [h])
      · exact (mem_ains h).imp_right (List.mem_cons_of_mem _)
theorem mem_aput {ν : Type} {l : List (Int × ν)} {k : Int} {v : ν} {e : Int × ν} (h : e ∈ V.aput l k v) : e = (k, v) ∨ (e ∈ l ∧ e.1 ≠ k) :=
  (mem_ains h).imp_right fun h => ⟨(List.mem_filter.1 h).1, by simpa using (List.mem_filter.1 h).2⟩
theorem ains_map {ν μ : Type} (f : ν → μ) (x : Int × ν) : ∀ l : List (Int × ν), (V.ains x l).map (fun e => (e.1, f e.2)) = V.ains (x.1, f x.2) (l.map fun e => (e.1, f e.2))
  | [] => rfl
  | y :: r => by
    unfold V.ains
    simp only [List.map_cons]
    split
    · rfl
    · rw [List.map_cons, ains_map f x r]
theorem adel_map {ν μ : Type} (f : ν → μ) (k : Int) (l : List (Int × ν)) : (V.adel l k).map (fun e => (e.1, f e.2)) = V.adel (l.map fun e => (e.1, f e.2)) k := by
  simp only [V.adel, List.filter_map]; rfl
theorem aput_map {ν μ : Type} (f : ν → μ) (k : Int) (v : ν) (l : List (Int × ν)) : (V.aput l k v).map (fun e => (e.1, f e.2)) = V.aput (l.map fun e => (e.1, f e.2)) k (f v) := by
  unfold V.aput; rw [ains_map, adel_map]
theorem ains_mapk {ν μ : Type} (f : Int × ν → μ) (x : Int × ν) : ∀ l : List (Int × ν), (V.ains x l).map (fun e => (e.1, f e)) = V.ains (x.1, f x) (l.map fun e => (e.1, f e))
  | [] => rfl
  | y :: r => by
    unfold V.ains
    simp only [List.map_cons]
    split
    · rfl
    · rw [List.map_cons, ains_mapk f x r]
theorem alook_map {ν μ : Type} (f : Int × ν → μ) (k : Int) (l : List (Int × ν)) : V.alook (l.map fun e => (e.1, f e)) k = ((l.find? fun p => p.1 == k)).map f := by
  unfold V.alook
  induction l with
  | nil => rfl
  | cons y r ih =>
    simp only [List.map_cons, List.find?_cons]
    cases y.1 == k
    · exact ih
    · rfl
theorem find_mem {ν : Type} {l : List (Int × ν)} {k : Int} {e : Int × ν} (h : (l.find? fun p => p.1 == k) = some e) : e ∈ l ∧ e.1 = k :=
  ⟨List.mem_of_find?_eq_some h, by simpa using List.find?_some h⟩
theorem adel_none {ν : Type} {l : List (Int × ν)} {k : Int} (h : ∀ p ∈ l, p.1 ≠ k) : V.adel l k = l := by
  unfold V.adel
  exact List.filter_eq_self.2 fun p hp => by simpa using h p hp
section
variable {g : Gh} {w w' : World} {d : Nat} {S : DecS}
theorem Rep.addProp (h : Rep g w' d S) {b : Int} {q : Nat} {p : PropS} {w'' : World} (hb : V.Blk w' q p.cells propT) (hq : g.own q = .free) (hn : ∀ e ∈ S.props, e.1 ≠ b)
    (hm : V.MapI Try.prog intT w'' g.mp (V.aput (S.props.map fun p => (p.1, ptrV (g.pat p.1))) b (ptrV q))) (hk : V.Kp (V.One g.mp) w' w'') (h0 : V.Kp V.Nil w w') (hz : w.heap.size ≤ q) :
    Rep (g.withProp b q) w'' d { S with props := V.aput S.props b p } ∧ Stp g (g.withProp b q) w w'' := by
  have st : ∀ k, g.own k ≠ .props → k < w'.heap.size → w''.heap[k]? = w'.heap[k]? := fun k h1 h2 => hk.block k h2 (fun e => h1 (by rw [show k = g.mp from e]; exact h.oprops))
  have ho : ∀ k, g.own k ≠ .free → (g.withProp b q).own k = g.own k := fun k h1 => by simp only [Gh.withProp]; rw [if_neg (fun e => h1 (by rw [e]; exact hq))]
  have hqm : q ≠ g.mp := fun e => by rw [e, h.oprops] at hq; cases hq
  have hpat : ∀ e ∈ S.props, (g.withProp b q).pat e.1 = g.pat e.1 := fun e he => by simp only [Gh.withProp]; rw [if_neg (hn e he)]
  refine ⟨⟨fun k hf => ?_, ?_, ?_, ?_, ?_, ?_, ?_, fun e he => ?_, fun e he => ?_, ?_, ?_, ?_, ?_, ?_, ?_, ?_, ?_⟩, ⟨?_, fun k hk' hf => ?_⟩⟩
  · simp only [Gh.withProp] at hf
    split at hf
    · rename_i e; rw [e]; exact Nat.lt_of_lt_of_le hb.lt hk.size
    · exact Nat.lt_of_lt_of_le (h.lo k hf) hk.size
  · exact (st d (by rw [h.odec]; nofun) h.dec.lt).trans h.dec
  · exact (ho d (by rw [h.odec]; nofun)).trans h.odec
  · exact (st g.bs (by rw [h.oslots]; nofun) h.slots.lt).trans h.slots
  · exact (ho g.bs (by rw [h.oslots]; nofun)).trans h.oslots
  · have e : ((V.aput S.props b p).map fun e => (e.1, ptrV ((g.withProp b q).pat e.1))) = V.aput (S.props.map fun e => (e.1, ptrV (g.pat e.1))) b (ptrV q) := by
      unfold V.aput
      rw [adel_none hn, adel_none (fun p hp => by obtain ⟨x, hx, rfl⟩ := List.mem_map.1 hp; exact hn x hx), ains_mapk (fun e : Int × PropS => ptrV ((g.withProp b q).pat e.1))]
      congr 1
      · simp [Gh.withProp]
      · exact List.map_congr_left fun e he => by rw [hpat e he]
    show V.MapI _ _ _ _ ((V.aput S.props b p).map _)
    rw [e]; exact hm
  · exact (ho g.mp (by rw [h.oprops]; nofun)).trans h.oprops
  · rcases mem_aput he with rfl | ⟨he, _⟩
    · simp only [Gh.withProp, if_true]
      exact V.Kp.blk hk hb hqm
    · rw [hpat e he]
      exact (st _ (by rw [h.oprop e he]; nofun) (h.prop e he).lt).trans (h.prop e he)
  · rcases mem_aput he with rfl | ⟨he, _⟩
    · simp [Gh.withProp]
    · rw [hpat e he]; exact (ho _ (by rw [h.oprop e he]; nofun)).trans (h.oprop e he)
  · exact h.letters.same fun k e => st k (by rw [h.oletters k e]; nofun) (h.letters.lt k e)
  · exact fun k e => (ho k (by rw [h.oletters k e]; nofun)).trans (h.oletters k e)
  · exact h.begun.same fun k e => st k (by rw [h.obegun k e]; nofun) (h.begun.lt k e)
  · exact fun k e => (ho k (by rw [h.obegun k e]; nofun)).trans (h.obegun k e)
  · exact h.chosen.same fun k e => st k (by rw [h.ochosen k e]; nofun) (h.chosen.lt k e)
  · exact fun k e => (ho k (by rw [h.ochosen k e]; nofun)).trans (h.ochosen k e)
  · exact h.taken.same (st g.mt (by rw [h.otaken]; nofun) h.taken.lt)
  · exact (ho g.mt (by rw [h.otaken]; nofun)).trans h.otaken
  · refine V.Kp.then (V.Kp.mono h0 fun _ _ x => x.elim) hk fun i _ e => ?_
    rw [show i = g.mp from e, h.oprops]; nofun
  · simp only [Gh.withProp]
    rw [if_neg (by omega)]; exact hf
theorem Rep.setTaken (h : Rep g w d S) {b : Int} {t : HeldS} (hm : V.MapI Try.prog intT w' g.mt (V.aput (S.taken.map fun p => (p.1, p.2.v)) b t.v)) (hk : V.Kp (V.One g.mt) w w') :
    Rep g w' d { S with taken := V.aput S.taken b t } ∧ Stp g g w w' := by
  have st : ∀ k, g.own k ≠ .taken → k < w.heap.size → w'.heap[k]? = w.heap[k]? := fun k h1 h2 => hk.block k h2 (fun e => h1 (by rw [show k = g.mt from e]; exact h.otaken))
  refine ⟨⟨fun k hf => Nat.lt_of_lt_of_le (h.lo k hf) hk.size, ?_, h.odec, ?_, h.oslots, ?_, h.oprops, fun e he => ?_, h.oprop, ?_, h.oletters, ?_, h.obegun, ?_, h.ochosen, ?_, h.otaken⟩, ⟨?_, fun _ _ hf => hf⟩⟩
  · exact (st d (by rw [h.odec]; nofun) h.dec.lt).trans h.dec
  · exact (st g.bs (by rw [h.oslots]; nofun) h.slots.lt).trans h.slots
  · exact h.props.same (st g.mp (by rw [h.oprops]; nofun) h.props.lt)
  · exact (st _ (by rw [h.oprop e he]; nofun) (h.prop e he).lt).trans (h.prop e he)
  · exact h.letters.same fun k e => st k (by rw [h.oletters k e]; nofun) (h.letters.lt k e)
  · exact h.begun.same fun k e => st k (by rw [h.obegun k e]; nofun) (h.begun.lt k e)
  · exact h.chosen.same fun k e => st k (by rw [h.ochosen k e]; nofun) (h.chosen.lt k e)
  · show V.MapI _ _ _ _ ((V.aput S.taken b t).map _)
    rw [aput_map HeldS.v]; exact hm
  · exact hk.mono fun i _ e => by rw [show i = g.mt from e, h.otaken]; nofun
theorem Rep.setProps (h : Rep g w d S) {l : List (Int × PropS)} (hl : ∀ e ∈ l, e ∈ S.props) (hm : V.MapI Try.prog intT w' g.mp (l.map fun p => (p.1, ptrV (g.pat p.1)))) (hk : V.Kp (V.One g.mp) w w') :
    Rep g w' d { S with props := l } ∧ Stp g g w w' := by
  have st : ∀ k, g.own k ≠ .props → k < w.heap.size → w'.heap[k]? = w.heap[k]? := fun k h1 h2 => hk.block k h2 (fun e => h1 (by rw [show k = g.mp from e]; exact h.oprops))
  refine ⟨⟨fun k hf => Nat.lt_of_lt_of_le (h.lo k hf) hk.size, ?_, h.odec, ?_, h.oslots, hm, h.oprops, fun e he => ?_, fun e he => h.oprop e (hl e he), ?_, h.oletters, ?_, h.obegun, ?_, h.ochosen, ?_, h.otaken⟩, ⟨?_, fun _ _ hf => hf⟩⟩
  · exact (st d (by rw [h.odec]; nofun) h.dec.lt).trans h.dec
  · exact (st g.bs (by rw [h.oslots]; nofun) h.slots.lt).trans h.slots
  · exact (st _ (by rw [h.oprop e (hl e he)]; nofun) (h.prop e (hl e he)).lt).trans (h.prop e (hl e he))
  · exact h.letters.same fun k e => st k (by rw [h.oletters k e]; nofun) (h.letters.lt k e)
  · exact h.begun.same fun k e => st k (by rw [h.obegun k e]; nofun) (h.begun.lt k e)
  · exact h.chosen.same fun k e => st k (by rw [h.ochosen k e]; nofun) (h.chosen.lt k e)
  · exact h.taken.same (st g.mt (by rw [h.otaken]; nofun) h.taken.lt)
  · exact hk.mono fun i _ e => by rw [show i = g.mp from e, h.oprops]; nofun
theorem aset_keys {ν : Type} (l : List (Int × ν)) (b : Int) (q : ν) (f : Int → Value) : (aset l b q).map (fun e => (e.1, f e.1)) = l.map fun e => (e.1, f e.1) := by
  unfold aset
  rw [List.map_map]
  refine List.map_congr_left fun e _ => ?_
  simp only [Function.comp]
  split <;> rfl
theorem Rep.setProp (h : Rep g w d S) {b : Int} {p q : PropS} (hp : (b, p) ∈ S.props) (hb : V.Blk w' (g.pat b) q.cells propT) (hk : V.Kp (V.One (g.pat b)) w w') :
    Rep g w' d { S with props := aset S.props b q } ∧ Stp g g w w' := by
  have hob : g.own (g.pat b) = .prop b := h.oprop _ hp
  have st : ∀ k, g.own k ≠ .prop b → k < w.heap.size → w'.heap[k]? = w.heap[k]? := fun k h1 h2 => hk.block k h2 (fun e => h1 (by rw [show k = g.pat b from e]; exact hob))
  have hmem : ∀ e ∈ aset S.props b q, (e.1 = b ∧ e.2 = q) ∨ (e ∈ S.props ∧ e.1 ≠ b) := fun e he => by
    unfold aset at he
    obtain ⟨x, hx, rfl⟩ := List.mem_map.1 he
    by_cases hxb : x.1 = b
    · rw [if_pos hxb]; exact .inl ⟨hxb, rfl⟩
    · rw [if_neg hxb]; exact .inr ⟨hx, hxb⟩
  refine ⟨⟨fun k hf => Nat.lt_of_lt_of_le (h.lo k hf) hk.size, ?_, h.odec, ?_, h.oslots, ?_, h.oprops, fun e he => ?_, fun e he => ?_, ?_, h.oletters, ?_, h.obegun, ?_, h.ochosen, ?_, h.otaken⟩, ⟨?_, fun _ _ hf => hf⟩⟩
  · exact (st d (by rw [h.odec]; nofun) h.dec.lt).trans h.dec
  · exact (st g.bs (by rw [h.oslots]; nofun) h.slots.lt).trans h.slots
  · show V.MapI _ _ _ _ ((aset S.props b q).map _)
    rw [aset_keys S.props b q (fun k => ptrV (g.pat k))]
    exact h.props.same (st g.mp (by rw [h.oprops]; nofun) h.props.lt)
  · rcases hmem e he with ⟨e1, e2⟩ | ⟨he, hne⟩
    · rw [e1, e2]; exact hb
    · exact (st _ (by rw [h.oprop e he]; exact fun x => hne (by cases x; rfl)) (h.prop e he).lt).trans (h.prop e he)
  · rcases hmem e he with ⟨e1, e2⟩ | ⟨he, hne⟩
    · rw [e1]; exact hob
    · exact h.oprop e he
  · exact h.letters.same fun k e => st k (by rw [h.oletters k e]; nofun) (h.letters.lt k e)
  · exact h.begun.same fun k e => st k (by rw [h.obegun k e]; nofun) (h.begun.lt k e)
  · exact h.chosen.same fun k e => st k (by rw [h.ochosen k e]; nofun) (h.chosen.lt k e)
  · exact h.taken.same (st g.mt (by rw [h.otaken]; nofun) h.taken.lt)
  · exact hk.mono fun i _ e => by rw [show i = g.pat b from e, hob]; nofun
theorem Rep.setSlot (h : Rep g w d S) {i : Nat} (hi : i < S.slots.length) (s : SlotS) :
    Rep g (((w.setCell ⟨g.bs, i * 3, none⟩ (.int .i64 s.pr)).setCell ⟨g.bs, i * 3 + 1, none⟩ (.int .i64 s.ba)).setCell ⟨g.bs, i * 3 + 2, none⟩ (.string s.va)) d { S with slots := S.slots.set i s } ∧
    Stp g g w (((w.setCell ⟨g.bs, i * 3, none⟩ (.int .i64 s.pr)).setCell ⟨g.bs, i * 3 + 1, none⟩ (.int .i64 s.ba)).setCell ⟨g.bs, i * 3 + 2, none⟩ (.string s.va)) := by
  have hk : V.Kp (V.One g.bs) w (((w.setCell ⟨g.bs, i * 3, none⟩ (.int .i64 s.pr)).setCell ⟨g.bs, i * 3 + 1, none⟩ (.int .i64 s.ba)).setCell ⟨g.bs, i * 3 + 2, none⟩ (.string s.va)) := by repeat (first | with_reducible assumption | with_reducible exact V.Kp.refl _ _ | ((with_reducible apply V.Kp.set); (case hp => first | exact .inl rfl | exact .inl (by assumption) | exact .inr (by (try simp only [V.size_alloc, V.size_drew, V.size_setCell]); omega))) | with_reducible apply V.Kp.alloc | with_reducible apply V.Kp.drew)
  have hb := ((h.slots.set (i * 3) (.int .i64 s.pr)).set (i * 3 + 1) (.int .i64 s.ba)).set (i * 3 + 2) (.string s.va)
  generalize (((w.setCell ⟨g.bs, i * 3, none⟩ (.int .i64 s.pr)).setCell ⟨g.bs, i * 3 + 1, none⟩ (.int .i64 s.ba)).setCell ⟨g.bs, i * 3 + 2, none⟩ (.string s.va)) = w' at hk hb ⊢
  simp only [List.setIfInBounds_toArray, slot_set3 s S.slots i hi] at hb
  have st : ∀ k, g.own k ≠ .slots → k < w.heap.size → w'.heap[k]? = w.heap[k]? := fun k h1 h2 => hk.block k h2 (fun e => h1 (by rw [show k = g.bs from e]; exact h.oslots))
  refine ⟨⟨fun k hf => Nat.lt_of_lt_of_le (h.lo k hf) hk.size, ?_, h.odec, hb, h.oslots, ?_, h.oprops, fun e he => ?_, h.oprop, ?_, h.oletters, ?_, h.obegun, ?_, h.ochosen, ?_, h.otaken⟩, ⟨?_, fun _ _ hf => hf⟩⟩
  · have e : g.cells { S with slots := S.slots.set i s } = g.cells S := by simp [Gh.cells]
    rw [e]
    exact (st d (by rw [h.odec]; nofun) h.dec.lt).trans h.dec
  · exact h.props.same (st g.mp (by rw [h.oprops]; nofun) h.props.lt)
  · exact (st _ (by rw [h.oprop e he]; nofun) (h.prop e he).lt).trans (h.prop e he)
  · exact h.letters.same fun k e => st k (by rw [h.oletters k e]; nofun) (h.letters.lt k e)
  · exact h.begun.same fun k e => st k (by rw [h.obegun k e]; nofun) (h.begun.lt k e)
  · exact h.chosen.same fun k e => st k (by rw [h.ochosen k e]; nofun) (h.chosen.lt k e)
  · exact h.taken.same (st g.mt (by rw [h.otaken]; nofun) h.taken.lt)
  · exact hk.mono fun i _ e => by rw [show i = g.bs from e, h.oslots]; nofun
end
end Go.Proofs.Ytkjfhadafefnmaa
