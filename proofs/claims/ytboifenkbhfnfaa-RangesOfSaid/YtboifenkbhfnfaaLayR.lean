/- The kit's contract of strings.Repeat, laid at this program's numbers. -/
import Derived.Test.YtboifenkbhfnfaaProg
import Derived.Test.YtboifenkbhfnfaaVcK
import Derived.Shelf.Strings.Repeat
set_option linter.all false
set_option maxRecDepth 100000
namespace Go.Proofs
open Go.Shelf Go.RowKit
def Try.laysRepeat_ren : Go.Shelf.Ren := ⟨fun | 105 => 94 | 212 => 106 | 99 => 107 | 165 => 108 | 166 => 109 | 170 => 110 | 169 => 111 | 263 => 118 | 264 => 66 | 206 => 119 | 240 => 120 | 241 => 121 | 276 => 124 | 277 => 125 | n => n, fun | 9 => 9 | 3 => 3 | 4 => 4 | 20 => 20 | 0 => 0 | 46 => 100 | 109 => 159 | 5 => 5 | 72 => 164 | 76 => 168 | 51 => 25 | 146 => 174 | 53 => 80 | 148 => 118 | 70 => 162 | 37 => 113 | 75 => 167 | 127 => 176 | 164 => 178 | 80 => 124 | n => n, fun | n => n⟩
theorem Try.laysRepeat : Go.Proofs.Lays.n105 Try.prog Try.laysRepeat_ren := {
  mixed := by kernel_rfl
  f99 := Try.func107.trans (congrArg some (by kernel_rfl))
  f105 := Try.func94.trans (congrArg some (by kernel_rfl))
  f165 := Try.func108.trans (congrArg some (by kernel_rfl))
  f166 := Try.func109.trans (congrArg some (by kernel_rfl))
  f169 := Try.func111.trans (congrArg some (by kernel_rfl))
  f170 := Try.func110.trans (congrArg some (by kernel_rfl))
  f206 := Try.func119.trans (congrArg some (by kernel_rfl))
  f212 := Try.func106.trans (congrArg some (by kernel_rfl))
  f240 := Try.func120.trans (congrArg some (by kernel_rfl))
  f241 := Try.func121.trans (congrArg some (by kernel_rfl))
  f263 := Try.func118.trans (congrArg some (by kernel_rfl))
  f264 := Try.func66.trans (congrArg some (by kernel_rfl))
  f276 := Try.func124.trans (congrArg some (by kernel_rfl))
  f277 := Try.func125.trans (congrArg some (by kernel_rfl))
  t0 := Try.underlying0
  a0 := Try.isAgg0
  z0 := Try.sizeOf0
  v0 := Try.zeroValue0
  t3 := Try.underlying3
  a3 := Try.isAgg3
  z3 := Try.sizeOf3
  v3 := Try.zeroValue3
  t4 := Try.underlying4
  a4 := Try.isAgg4
  z4 := Try.sizeOf4
  v4 := Try.zeroValue4
  t5 := Try.underlying5
  a5 := Try.isAgg5
  z5 := Try.sizeOf5
  v5 := Try.zeroValue5
  t9 := Try.underlying9
  a9 := Try.isAgg9
  z9 := Try.sizeOf9
  v9 := Try.zeroValue9
  t20 := Try.underlying20
  a20 := Try.isAgg20
  z20 := Try.sizeOf20
  v20 := Try.zeroValue20
  t37 := Try.underlying113
  a37 := Try.isAgg113
  z37 := Try.sizeOf113
  v37 := Try.zeroValue113
  t46 := Try.underlying100
  a46 := Try.isAgg100
  z46 := Try.sizeOf100
  v46 := Try.zeroValue100
  t51 := Try.underlying25
  a51 := Try.isAgg25
  z51 := Try.sizeOf25
  v51 := Try.zeroValue25
  t53 := Try.underlying80
  a53 := Try.isAgg80
  z53 := Try.sizeOf80
  v53 := Try.zeroValue80
  t70 := Try.underlying162
  a70 := Try.isAgg162
  z70 := Try.sizeOf162
  v70 := Try.zeroValue162
  t72 := Try.underlying164
  a72 := Try.isAgg164
  z72 := Try.sizeOf164
  v72 := Try.zeroValue164
  t75 := Try.underlying167
  a75 := Try.isAgg167
  z75 := Try.sizeOf167
  v75 := Try.zeroValue167
  t76 := Try.underlying168
  a76 := Try.isAgg168
  z76 := Try.sizeOf168
  v76 := Try.zeroValue168
  t109 := Try.underlying159
  a109 := Try.isAgg159
  z109 := Try.sizeOf159
  v109 := Try.zeroValue159
  t127 := Try.underlying176
  a127 := Try.isAgg176
  z127 := Try.sizeOf176
  v127 := Try.zeroValue176
  t146 := Try.underlying174
  a146 := Try.isAgg174
  z146 := Try.sizeOf174
  v146 := Try.zeroValue174
  t148 := Try.underlying118
  a148 := Try.isAgg118
  z148 := Try.sizeOf118
  v148 := Try.zeroValue118
  t164 := Try.underlying178
  a164 := Try.isAgg178
  z164 := Try.sizeOf178
  v164 := Try.zeroValue178
 }

theorem Try.extraR : Builder.Extra Try.prog Try.laysRepeat_ren where
  sizeBuilder := by kernel_rfl
  liesBuilder := by kernel_rfl
  t5 := Try.laysRepeat.t5
  a5 := Try.laysRepeat.a5
  z5 := Try.laysRepeat.z5
  v5 := Try.laysRepeat.v5
  infoByte := by kernel_rfl
  cellsByte := by kernel_rfl
  sizeByte := by kernel_rfl
  neB5 := by decide
theorem Try.fRepeat : Try.laysRepeat_ren.f 105 = 94 := by kernel_rfl
namespace Ytboifenkbhfnfaa
open Go
theorem kp_of_below {w w' : World} (hb : Below w.heap.size w w') : V.Kp V.Nil w w' := ⟨hb.os, hb.tape, hb.output, hb.size, fun k hk _ => hb.block k hk⟩
theorem repeatL_one (x : UInt8) : ∀ n : Nat, Lib.repeatL [x] n = List.replicate n x
  | 0 => rfl
  | n + 1 => by
    have := repeatL_one x n
    simp [Lib.repeatL, List.replicate_succ, this] at *
theorem repeat_spec (x : UInt8) (n : Nat) (hn : n ≤ 1000) (w : World) (C : Value → World → Prop) (hc : ∀ w', V.Kp V.Nil w w' → C (.string ⟨(List.replicate n x).toArray⟩) w') :
    V.CallsR Try.prog 94 #[.string ⟨#[x]⟩, .int .i64 (n : Int)] w C := by
  have h := Any.strings_Repeat Try.laysRepeat Try.extraR ⟨#[x]⟩ n w (by omega) (by show 1 * n ≤ _; omega)
  rw [Try.fRepeat] at h
  refine Calls.mono h ?_
  rintro e w' ⟨rfl, hb⟩
  refine ⟨_, rfl, ?_⟩
  have := repeatL_one x n
  rw [show (ByteArray.mk #[x]).data.toList = [x] from rfl, this]
  exact hc w' (kp_of_below hb)
end Ytboifenkbhfnfaa
end Go.Proofs
