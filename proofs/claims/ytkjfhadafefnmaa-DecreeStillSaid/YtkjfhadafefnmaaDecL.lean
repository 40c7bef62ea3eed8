/- decree: the sorted keys of a map, Been. -/
import Derived.Test.YtkjfhadafefnmaaDecK
import Derived.Shelf.SlIterI.Nil
import Derived.Shelf.SortM.Plain
import Derived.Shelf.SortM.SortNone
set_option linter.all false
namespace Go.Proofs
open Go.RowKit Go.Maps Go.Sort Go.Shelf
theorem Try.sortsA (m : Nat) : AnyZI.SortsIn Try.prog Try.sortedA_ren Fence.wide m :=
  ⟨fun blk off cap ss W hH hblk hsz => callsIn_wide.2 (AnyM.slices_Sort_int Try.sortA blk off cap ss W hH hblk hsz),
   fun p cap W => callsIn_wide.2 (AnyM.slices_Sort_int_none Try.sortA p cap W)⟩
end Go.Proofs
namespace Go.Proofs.Ytkjfhadafefnmaa
open Go Go.RowKit Go.Maps Go.Sort Go.Shelf
set_option linter.unusedSimpArgs false
theorem keysFn_spec (mb : Option Nat) (W : World) (R : Value → World → Prop)
    (hR : R (.func (.func 33) #[] #[.pointer (some ⟨W.heap.size, 0, none⟩)]) (W.alloc (.cells #[.map mb] 40))) :
    V.CallsR Try.prog 20 #[.map mb] W R := by
  have cK : CallsIn Fence.wide 5 Try.prog 20 #[.map mb] W fun e w' => e = .returned (.func (.func 33) #[] #[.pointer (some ⟨W.heap.size, 0, none⟩)]) ∧ w' = W.alloc (.cells #[.map mb] 40) := AnyZI.keys_in Try.keysA Fence.wide 5 trivial rfl mb W
  exact (callsIn_wide.1 cK).mono fun e w' h => ⟨_, h.1, h.2 ▸ hR⟩
theorem sortedKeys_spec {w : World} {b : Nat} {l : List (Int × Value)} (h : V.MapI Try.prog intT w b l) (hb : l.length ≤ 1000000) (R : Value → World → Prop)
    (hR : ∀ p c (ss : List Int) w', ss.Perm (l.map (·.1)) → V.Row w' intT 1 p ss.length c ((ss.mergeSort fun x y => decide (x ≤ y)).map (Value.int .i64)) → V.Kp V.Nil w w' → (∀ k, V.blk? p = some k → w.heap.size ≤ k) → R (.slice p ss.length c) w') :
    V.CallsR Try.prog 19 #[.func (.func 33) #[] #[.pointer (some ⟨w.heap.size, 0, none⟩)]] (w.alloc (.cells #[.map (some b)] 40)) R := by
  have hbl := h.lt
  have hsz : Maps.size (V.mapD l) = l.length := by simp [V.mapD, Maps.size]
  have hseq : SeqGives Fence.wide 2 Try.prog 33 #[.pointer (some ⟨w.heap.size, 0, none⟩)] encZ (fun ss => ss.Perm (intKeys (V.mapD l))) (Maps.size (V.mapD l)) (w.alloc (.cells #[.map (some b)] 40)) :=
    AnyZI.keys_gives (ρ := Try.keysA_ren) { Try.keysA with } Fence.wide _ trivial rfl (by omega) w.heap.size b l.length (V.mapD l) _ (by simp) (by simp) (by
      obtain ⟨es, clock, hb, Ft, hs, hD⟩ := h
      exact ⟨es, clock, (Below.heap_alloc _ _ b hbl).trans hb, Ft, hs, hD⟩)
  have cS := AnyZI.sorted_in Try.sortedA Fence.wide 5 trivial trivial trivial trivial rfl (by omega) (Try.sortsA _) (enters_of Try.func32 (by kernel_rfl) rfl) 33 #[.pointer (some ⟨w.heap.size, 0, none⟩)] trivial (enters_of Try.func33 (by kernel_rfl) rfl) _ _ (by rw [hsz]; exact Nat.le_trans hb (by decide)) (by rw [hsz]; omega) _ hseq
  change CallsIn _ _ Try.prog 19 _ _ _ at cS
  refine (callsIn_wide.1 cS).mono ?_
  rintro e w' ⟨v, ss, rfl, hperm, hrow, hnil, hbel⟩
  have hrow' : w'.ownsRow 0 intT 1 v ss.length ((ss.mergeSort fun x y => decide (x ≤ y)).map (Value.int .i64)) ∧ ∀ k, v.ownBlock = some k → w.heap.size ≤ k := by
    refine ⟨⟨hrow.1, ?_⟩, fun k hk => ?_⟩
    · rcases hrow.2 with hn | ⟨g, cap, cur, he, _, rest⟩
      · exact .inl hn
      · exact .inr ⟨g, cap, cur, he, Nat.zero_le _, rest⟩
    · have := (hrow.lt k hk).1
      rw [V.size_alloc] at this
      omega
  have key : ∃ p c, v = .slice p ss.length c := by
    rcases hrow'.1.2 with ⟨h1, h2⟩ | ⟨g, cap, cur, he, _⟩
    · exact ⟨none, 0, by rw [h1, h2]⟩
    · exact ⟨_, _, he⟩
  obtain ⟨p, c, rfl⟩ := key
  refine ⟨_, rfl, hR p c ss w' ?_ hrow'.1 ⟨hbel.os, hbel.tape, hbel.output, ?_, fun k hk _ => ?_⟩ fun k hk => hrow'.2 k (by rw [V.ownBlock_slice]; exact hk)⟩
  · have e : intKeys (V.mapD l) = l.map (·.1) := by
      simp [intKeys, V.mapD, V.ent]
      exact fun _ _ _ => rfl
    rw [← e]; exact hperm
  · have := hbel.size
    rw [V.size_alloc] at this
    omega
  · rw [hbel.block k (by rw [V.size_alloc]; omega), V.heap_alloc, if_neg (by omega)]
end Go.Proofs.Ytkjfhadafefnmaa
