/- The printed conditions of some functions: each equals, by evaluation, what the generator computes from the function's code. -/
import Derived.Test.YtboifenkbhfnfaaVcE
import Derived.Test.YtboifenkbhfnfaaProg
set_option maxRecDepth 1000000
namespace Go.Proofs.Ytboifenkbhfnfaa
open Go
theorem vc_annalistref04_Few (x1 : Option Addr) (x2 : Nat) (x3 : Nat) (x4 : Int) (x5 : Int) (w : World) (R : Value → World → Prop) : V.fnVC Try.prog Try.f11 [(.slice x1 x2 x3), (.int .i64 x4), (.int .i64 x5)] w R =
  ((∃ (J6 : Int → V.LI), (V.LI.inv (J6 0) w ∧ ∀ (_ : Nat → Value), ∀ (x11 : Int), ∀ (w12 : World), V.LI.inv (J6 x11) w12 →
  (V.ifB (V.ilt x11 (V.zi x2))
  (V.ifB (V.ilt x11 300)
  (V.inX x11 x2 ∧ (V.nilCk x1 (fun (a13 : Addr) => (V.nilCk (some (V.aadd a13 (V.nmul (V.inat x11) 1))) (fun (a14 : Addr) => (V.ldStr w12 a14 (fun (x15 : ByteArray) => (V.ifB (V.igt (V.zi (V.ssize x15)) x5)
  (R (.bool false) w12)
  (V.LI.inv (J6 (V.iadd .i64 x11 1)) w12 ∧ V.LI.meas (J6 (V.iadd .i64 x11 1)) w12 < V.LI.meas (J6 x11) w12)))))))))
  (R (.bool (V.ile (V.zi x2) x4)) w12))
  (R (.bool (V.ile (V.zi x2) x4)) w12))))) := by kernel_rfl
theorem vc_annalistref04_Leaves (x1 : Option Addr) (x2 : Nat) (x3 : Nat) (w : World) (R : Value → World → Prop) : V.fnVC Try.prog Try.f13 [(.slice x1 x2 x3)] w R =
  ((∃ (J4 : Option Addr → Nat → Nat → Int → V.LI), (V.LI.inv (J4 none 0 0 0) w ∧ ∀ (_ : Nat → Value), ∀ (x9 : Option Addr) (x10 : Nat) (x11 : Nat), ∀ (x12 : Int), ∀ (w13 : World), V.LI.inv (J4 x9 x10 x11 x12) w13 →
  (V.ifB (V.ilt x12 (V.zi x2))
  (V.inX x12 x2 ∧ (V.nilCk x1 (fun (a14 : Addr) => (V.nilCk (some (V.aadd a14 (V.nmul (V.inat x12) 1))) (fun (a15 : Addr) => (V.ldStr w13 a15 (fun (x16 : ByteArray) => (V.sfits (ByteArray.mk #[0]) x16 ∧ (V.CallsR Try.prog 28 #[(.string (V.scat (ByteArray.mk #[0]) x16))] w13 (fun (x17 : Value) (w18 : World) => (V.vStr x17 (fun (x19 : ByteArray) => (V.RunV Try.prog (Builtin.append_ #[22, 22] 22 #[(.slice x9 x10 x11), (.slice (some (V.nptr w18)) 1 1)]) (World.alloc w18 (Obj.cells #[(.string x19)] 9 (0, 0))) (fun (x20 : Value) (w21 : World) => (V.vSlice x20 (fun (x22 : Option Addr) (x23 : Nat) (x24 : Nat) => (V.LI.inv (J4 x22 x23 x24 (V.iadd .i64 x12 1)) w21 ∧ V.LI.meas (J4 x22 x23 x24 (V.iadd .i64 x12 1)) w21 < V.LI.meas (J4 x9 x10 x11 x12) w13)))))))))))))))))
  (R (.slice x9 x10 x11) w13))))) := by kernel_rfl
theorem vc_annalistref02_Same (x1 : Option Addr) (x2 : Nat) (x3 : Nat) (x4 : Option Addr) (x5 : Nat) (x6 : Nat) (w : World) (R : Value → World → Prop) : V.fnVC Try.prog Try.f23 [(.slice x1 x2 x3), (.slice x4 x5 x6)] w R =
  ((V.ifB (V.ine (V.zi x2) (V.zi x5))
  (R (.bool false) w)
  (∃ (J7 : Int → V.LI), (V.LI.inv (J7 0) w ∧ ∀ (_ : Nat → Value), ∀ (x12 : Int), ∀ (w13 : World), V.LI.inv (J7 x12) w13 →
  (V.ifB (V.ilt x12 (V.zi x2))
  (V.inX x12 x2 ∧ (V.nilCk x1 (fun (a14 : Addr) => (V.nilCk (some (V.aadd a14 (V.nmul (V.inat x12) 1))) (fun (a15 : Addr) => (V.ldStr (World.drew w13) a15 (fun (x16 : ByteArray) => (V.inX x12 x5 ∧ (V.nilCk x4 (fun (a17 : Addr) => (V.nilCk (some (V.aadd a17 (V.nmul (V.inat x12) 1))) (fun (a18 : Addr) => (V.ldStr (World.drew w13) a18 (fun (x19 : ByteArray) => (V.ifB (V.bnot (V.seq x16 x19))
  (R (.bool false) (World.drew w13))
  (V.LI.inv (J7 (V.iadd .i64 x12 1)) (World.drew w13) ∧ V.LI.meas (J7 (V.iadd .i64 x12 1)) (World.drew w13) < V.LI.meas (J7 x12) w13))))))))))))))))
  (R (.bool true) w13)))))) := by kernel_rfl
theorem vc_annalistref04_Root (x1 : Option Addr) (x2 : Nat) (x3 : Nat) (w : World) (R : Value → World → Prop) : V.fnVC Try.prog Try.f26 [(.slice x1 x2 x3)] w R =
  ((V.ifB (V.ieq (V.zi x2) 0)
  (V.CallsR Try.prog 28 #[(.string (ByteArray.mk #[]))] w (fun (x4 : Value) (w5 : World) => (V.vStr x4 (fun (x6 : ByteArray) => (R (.string x6) w5)))))
  (V.ifB (V.ieq (V.zi x2) 1)
  (V.inX 0 x2 ∧ (V.nilCk x1 (fun (a7 : Addr) => (V.nilCk (some (V.aadd a7 (V.nmul (V.inat 0) 1))) (fun (a8 : Addr) => (V.ldStr w a8 (fun (x9 : ByteArray) => (R (.string x9) w))))))))
  (V.CallsR Try.prog 56 #[(.int .i64 (V.zi x2))] w (fun (x10 : Value) (w11 : World) => (V.vInt x10 .i64 (fun (x12 : Int) => (V.inR x12 x3 ∧ (V.inR x12 x2 ∧ (V.CallsR Try.prog 26 #[(.slice (V.slAdr x1 x3 0 1) (V.nsub (V.inat x12) 0) (V.nsub x3 0))] (World.drew w11) (fun (x13 : Value) (w14 : World) => (V.vStr x13 (fun (x15 : ByteArray) => (V.sfits (ByteArray.mk #[1]) x15 ∧ (V.CallsR Try.prog 26 #[(.slice (V.slAdr x1 x3 (V.inat x12) 1) (V.nsub x2 (V.inat x12)) (V.nsub x3 (V.inat x12)))] w14 (fun (x16 : Value) (w17 : World) => (V.vStr x16 (fun (x18 : ByteArray) => (V.sfits (V.scat (ByteArray.mk #[1]) x15) x18 ∧ (V.CallsR Try.prog 28 #[(.string (V.scat (V.scat (ByteArray.mk #[1]) x15) x18))] w17 (fun (x19 : Value) (w20 : World) => (V.vStr x19 (fun (x21 : ByteArray) => (R (.string x21) w20)))))))))))))))))))))))) := by kernel_rfl
theorem vc_annalistref04_H (x1 : ByteArray) (w : World) (R : Value → World → Prop) : V.fnVC Try.prog Try.f28 [(.string x1)] w R =
  ((V.CallsR Try.prog 57 #[(.string x1)] w (fun (x2 : Value) (w3 : World) => (V.vStr x2 (fun (x4 : ByteArray) => (R (.string x4) w3)))))) := by kernel_rfl
theorem vc_annalistref04_half (x1 : Int) (w : World) (R : Value → World → Prop) : V.fnVC Try.prog Try.f56 [(.int .i64 x1)] w R =
  ((∃ (J2 : Int → V.LI), (V.LI.inv (J2 64) w ∧ ∀ (_ : Nat → Value), ∀ (x7 : Int), ∀ (w8 : World), V.LI.inv (J2 x7) w8 →
  (V.ifB (V.ige x7 x1)
  (V.inz 2 ∧ (V.LI.inv (J2 (V.iquo .i64 x7 2)) w8 ∧ V.LI.meas (J2 (V.iquo .i64 x7 2)) w8 < V.LI.meas (J2 x7) w8))
  (R (.int .i64 x7) w8))))) := by kernel_rfl
end Go.Proofs.Ytboifenkbhfnfaa
