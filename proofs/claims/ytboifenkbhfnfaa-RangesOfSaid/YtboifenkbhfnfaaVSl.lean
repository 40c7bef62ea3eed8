/- The printed conditions of some functions: each equals, by evaluation, what the generator computes from the function's code. -/
import Derived.Test.YtboifenkbhfnfaaVcE
import Derived.Test.YtboifenkbhfnfaaProg
set_option maxRecDepth 1000000
namespace Go.Proofs.Ytboifenkbhfnfaa
open Go
theorem vc_slices_Backward_string (x1 : Option Addr) (x2 : Nat) (x3 : Nat) (w : World) (R : Value → World → Prop) : V.fnVC Try.prog Try.f42 [(.slice x1 x2 x3)] w R =
  ((R (.func (.func 73) #[] #[(.pointer (some (V.nptr w)))]) (World.alloc w (Obj.cells #[(.slice x1 x2 x3)] 22 (0, 0))))) := by kernel_rfl
theorem vc_slices_Clone_string (x1 : Option Addr) (x2 : Nat) (x3 : Nat) (w : World) (R : Value → World → Prop) : V.fnVC Try.prog Try.f47 [(.slice x1 x2 x3)] w R =
  ((V.ifB (V.isNil x1)
  (R (.slice none 0 0) w)
  (V.RunV Try.prog (Builtin.append_ #[22, 22] 22 #[(.slice (some (V.nptr w)) 0 0), (.slice x1 x2 x3)]) (World.alloc w (Obj.cells #[] 9 (0, 0))) (fun (x4 : Value) (w5 : World) => (V.vSlice x4 (fun (x6 : Option Addr) (x7 : Nat) (x8 : Nat) => (R (.slice x6 x7 x8) w5))))))) := by kernel_rfl
theorem vc_slices_ContainsFunc_string (x1 : Option Addr) (x2 : Nat) (x3 : Nat) (x4 : Value) (w : World) (R : Value → World → Prop) : V.fnVC Try.prog Try.f54 [(.slice x1 x2 x3), x4] w R =
  ((V.CallsR Try.prog 79 #[(.slice x1 x2 x3), x4] w (fun (x5 : Value) (w6 : World) => (V.vInt x5 .i64 (fun (x7 : Int) => (R (.bool (V.ige x7 0)) w6)))))) := by kernel_rfl
theorem vc_slices_Collect_int (x1 : Value) (w : World) (R : Value → World → Prop) : V.fnVC Try.prog Try.f62 [x1] w R =
  ((V.CallsR Try.prog 90 #[(.slice none 0 0), x1] w (fun (x2 : Value) (w3 : World) => (V.vSlice x2 (fun (x4 : Option Addr) (x5 : Nat) (x6 : Nat) => (R (.slice x4 x5 x6) w3)))))) := by kernel_rfl
theorem vc_slices_Backward_1_string (x1 : Value) (b2 : Addr) (w : World) (R : Value → World → Prop) : V.fnVC Try.prog Try.f73 [x1, (.pointer (some b2))] w R =
  ((V.nilCk (some b2) (fun (a3 : Addr) => (V.ldSlice w a3 (fun (_ : Option Addr) (x5 : Nat) (_ : Nat) => (∃ (J7 : Int → V.LI), (V.LI.inv (J7 (V.isub .i64 (V.zi x5) 1)) w ∧ ∀ (_ : Nat → Value), ∀ (x12 : Int), ∀ (w13 : World), V.LI.inv (J7 x12) w13 →
  (V.ifB (V.ige x12 0)
  (V.nilCk (some b2) (fun (a14 : Addr) => (V.ldSlice w13 a14 (fun (x15 : Option Addr) (x16 : Nat) (_ : Nat) => (V.inX x12 x16 ∧ (V.nilCk x15 (fun (a18 : Addr) => (V.nilCk (some (V.aadd a18 (V.nmul (V.inat x12) 1))) (fun (a19 : Addr) => (V.ldStr w13 a19 (fun (x20 : ByteArray) => (V.callV Try.prog x1 [(.int .i64 x12), (.string x20)] w13 (fun (x21 : Value) (w22 : World) => (V.vBool x21 (fun (x23 : Bool) => (V.ifB (V.bnot x23)
  (R (.tuple #[]) w22)
  (V.LI.inv (J7 (V.isub .i64 x12 1)) w22 ∧ V.LI.meas (J7 (V.isub .i64 x12 1)) w22 < V.LI.meas (J7 x12) w13)))))))))))))))))
  (R (.tuple #[]) w13))))))))) := by kernel_rfl
theorem vc_slices_IndexFunc_string (x1 : Option Addr) (x2 : Nat) (x3 : Nat) (x4 : Value) (w : World) (R : Value → World → Prop) : V.fnVC Try.prog Try.f79 [(.slice x1 x2 x3), x4] w R =
  ((∃ (J5 : Int → V.LI), (V.LI.inv (J5 0) w ∧ ∀ (_ : Nat → Value), ∀ (x10 : Int), ∀ (w11 : World), V.LI.inv (J5 x10) w11 →
  (V.ifB (V.ilt x10 (V.zi x2))
  (V.inX x10 x2 ∧ (V.nilCk x1 (fun (a12 : Addr) => (V.nilCk (some (V.aadd a12 (V.nmul (V.inat x10) 1))) (fun (a13 : Addr) => (V.ldStr w11 a13 (fun (x14 : ByteArray) => (V.callV Try.prog x4 [(.string x14)] w11 (fun (x15 : Value) (w16 : World) => (V.vBool x15 (fun (x17 : Bool) => (V.ifB x17
  (R (.int .i64 x10) w16)
  (V.LI.inv (J5 (V.iadd .i64 x10 1)) w16 ∧ V.LI.meas (J5 (V.iadd .i64 x10 1)) w16 < V.LI.meas (J5 x10) w11)))))))))))))
  (R (.int .i64 (-1)) w11))))) := by kernel_rfl
theorem vc_slices_AppendSeq_int (x1 : Option Addr) (x2 : Nat) (x3 : Nat) (x4 : Value) (w : World) (R : Value → World → Prop) : V.fnVC Try.prog Try.f90 [(.slice x1 x2 x3), x4] w R =
  ((V.rfVC Try.prog x4 #[(.slice x1 x2 x3), x4, (.pointer (some (V.nptr w))), undef, (.slice none 0 0), undef, x4, undef, undef, undef, undef, undef, undef] (V.rfP Try.f90 0) (V.rfA Try.f90 0) (V.rfB Try.f90 0) (World.alloc w (Obj.cells #[(.slice x1 x2 x3)] 75 (0, 0))) (V.rfK (fun (D5 : Nat) (w6 : World) => (V.nilCk (some (V.nptr w)) (fun (a8 : Addr) => (V.ldSlice w6 a8 (fun (x9 : Option Addr) (x10 : Nat) (x11 : Nat) => (V.finD (V.col D5 :: []) w6 (fun (w12 : World) => (R (.slice x9 x10 x11) w12))))))))
  (fun (D5 : Nat) (w6 : World) => (V.finD (V.col D5 :: []) w6 (fun (w13 : World) => (R (.slice none 0 0) w13))))
  (fun (i7 : Nat) (D5 : Nat) (w6 : World) => (if i7 = 0 then (V.nilCk (some (V.nptr w)) (fun (a14 : Addr) => (V.ldSlice w6 a14 (fun (x15 : Option Addr) (x16 : Nat) (x17 : Nat) => (V.finD (V.col D5 :: []) w6 (fun (w18 : World) => (R (.slice x15 x16 x17) w18))))))) else False))))) := by kernel_rfl
theorem rb_slices_AppendSeq_int_0 (x19 : Option Addr) (x20 x21 : Nat) (x22 : Value) (x23 : Option Addr) (x24 : Option Addr) (x25 x26 : Nat) (x27 : Value) (x28 : Int) (l : Nat) (f : LoopState → Option Code → Loop) (w : World) (C : Value → World → Prop) : V.rndVC Try.prog l f (V.rfA Try.f90 0) (V.rfB Try.f90 0) #[(.slice x19 x20 x21), x22, (.pointer x23), undef, (.slice x24 x25 x26), undef, x27, (.int .i64 x28), undef, undef, undef, undef, undef] w C =
  ((V.LBlk w l (f .ready none) ∧
  (V.nilCk x23 (fun (a29 : Addr) => (V.ldSlice (V.putO w l (.loop (f .busy none))) a29 (fun (x30 : Option Addr) (x31 : Nat) (x32 : Nat) => (V.RunV Try.prog (Builtin.append_ #[75, 75] 75 #[(.slice x30 x31 x32), (.slice (some (V.nptr (V.putO w l (.loop (f .busy none))))) 1 1)]) (World.alloc (V.putO w l (.loop (f .busy none))) (Obj.cells #[(.int .i64 x28)] 3 (0, 0))) (fun (x33 : Value) (w34 : World) => (V.vSlice x33 (fun (x35 : Option Addr) (x36 : Nat) (x37 : Nat) => (V.nilCk x23 (fun (a38 : Addr) => (V.stCell w34 a38 (.slice x35 x36 x37) (fun (w39 : World) => (V.LBlk w39 l (f .busy none) ∧ C (.bool true) (V.putO w39 l (.loop (f .ready none)))))))))))))))))) := by kernel_rfl
theorem vc_slices_Chunk_string (x1 : Option Addr) (x2 : Nat) (x3 : Nat) (x4 : Int) (w : World) (R : Value → World → Prop) : V.fnVC Try.prog Try.f98 [(.slice x1 x2 x3), (.int .i64 x4)] w R =
  ((V.nilCk (some (V.nptr (World.alloc w (Obj.cells #[(.slice x1 x2 x3)] 22 (0, 0))))) (fun (a5 : Addr) => (V.ldInt (World.alloc (World.alloc w (Obj.cells #[(.slice x1 x2 x3)] 22 (0, 0))) (Obj.cells #[(.int .i64 x4)] 3 (0, 0))) a5 .i64 (fun (x6 : Int) => (V.ifB (V.ilt x6 1)
  False
  (R (.func (.func 113) #[] #[(.pointer (some (V.nptr w))), (.pointer (some (V.nptr (World.alloc w (Obj.cells #[(.slice x1 x2 x3)] 22 (0, 0))))))]) (World.alloc (World.alloc w (Obj.cells #[(.slice x1 x2 x3)] 22 (0, 0))) (Obj.cells #[(.int .i64 x4)] 3 (0, 0)))))))))) := by kernel_rfl
theorem vc_slices_Chunk_1_string (x1 : Value) (b2 : Addr) (b3 : Addr) (w : World) (R : Value → World → Prop) : V.fnVC Try.prog Try.f113 [x1, (.pointer (some b2)), (.pointer (some b3))] w R =
  ((∃ (J4 : Int → V.LI), (V.LI.inv (J4 0) w ∧ ∀ (_ : Nat → Value), ∀ (x9 : Int), ∀ (w10 : World), V.LI.inv (J4 x9) w10 →
  (V.nilCk (some b2) (fun (a11 : Addr) => (V.ldSlice w10 a11 (fun (_ : Option Addr) (x13 : Nat) (_ : Nat) => (V.ifB (V.ilt x9 (V.zi x13))
  (V.nilCk (some b3) (fun (a15 : Addr) => (V.ldInt (World.drew w10) a15 .i64 (fun (x16 : Int) => (V.nilCk (some b2) (fun (a17 : Addr) => (V.ldSlice (World.drew w10) a17 (fun (_ : Option Addr) (x19 : Nat) (_ : Nat) => (V.inR x9 x19 ∧ (V.nilCk (some b2) (fun (a21 : Addr) => (V.ldSlice (World.drew w10) a21 (fun (x22 : Option Addr) (_ : Nat) (x24 : Nat) => (V.inR (V.iadd .i64 x9 (V.imin x16 (V.zi (V.nsub x19 (V.inat x9))))) x24 ∧ (V.inR (V.iadd .i64 x9 (V.imin x16 (V.zi (V.nsub x19 (V.inat x9))))) (V.inat (V.iadd .i64 x9 (V.imin x16 (V.zi (V.nsub x19 (V.inat x9)))))) ∧ (V.inR x9 (V.inat (V.iadd .i64 x9 (V.imin x16 (V.zi (V.nsub x19 (V.inat x9)))))) ∧ (V.callV Try.prog x1 [(.slice (V.slAdr x22 (V.inat (V.iadd .i64 x9 (V.imin x16 (V.zi (V.nsub x19 (V.inat x9)))))) (V.inat x9) 1) (V.nsub (V.inat (V.iadd .i64 x9 (V.imin x16 (V.zi (V.nsub x19 (V.inat x9)))))) (V.inat x9)) (V.nsub (V.inat (V.iadd .i64 x9 (V.imin x16 (V.zi (V.nsub x19 (V.inat x9)))))) (V.inat x9)))] (World.drew w10) (fun (x25 : Value) (w26 : World) => (V.vBool x25 (fun (x27 : Bool) => (V.ifB (V.bnot x27)
  (R (.tuple #[]) w26)
  (V.nilCk (some b3) (fun (a28 : Addr) => (V.ldInt w26 a28 .i64 (fun (x29 : Int) => (V.LI.inv (J4 (V.iadd .i64 x9 x29)) w26 ∧ V.LI.meas (J4 (V.iadd .i64 x9 x29)) w26 < V.LI.meas (J4 x9) w10))))))))))))))))))))))))))
  (R (.tuple #[]) w10))))))))) := by kernel_rfl
theorem vc_slices_IndexFunc_tile_ID (x1 : Option Addr) (x2 : Nat) (x3 : Nat) (x4 : Value) (w : World) (R : Value → World → Prop) : V.fnVC Try.prog Try.f123 [(.slice x1 x2 x3), x4] w R =
  ((∃ (J5 : Int → V.LI), (V.LI.inv (J5 0) w ∧ ∀ (_ : Nat → Value), ∀ (x10 : Int), ∀ (w11 : World), V.LI.inv (J5 x10) w11 →
  (V.ifB (V.ilt x10 (V.zi x2))
  (V.inX x10 x2 ∧ (V.nilCk x1 (fun (a12 : Addr) => (V.nilCk (some (V.aadd a12 (V.nmul (V.inat x10) 2))) (fun (a13 : Addr) => (V.ldInt w11 (V.aadd a13 0) .i64 (fun (x14 : Int) => (V.ldInt w11 (V.aadd a13 1) .i64 (fun (x15 : Int) => (V.callV Try.prog x4 [(.agg #[(.int .i64 x14), (.int .i64 x15)])] w11 (fun (x16 : Value) (w17 : World) => (V.vBool x16 (fun (x18 : Bool) => (V.ifB x18
  (R (.int .i64 x10) w17)
  (V.LI.inv (J5 (V.iadd .i64 x10 1)) w17 ∧ V.LI.meas (J5 (V.iadd .i64 x10 1)) w17 < V.LI.meas (J5 x10) w11)))))))))))))))
  (R (.int .i64 (-1)) w11))))) := by kernel_rfl
end Go.Proofs.Ytboifenkbhfnfaa
