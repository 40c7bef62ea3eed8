/- The printed conditions of some functions: each equals, by evaluation, what the generator computes from the function's code. -/
import Derived.Test.YtboifenkbhfnfaaVcE
import Derived.Test.YtboifenkbhfnfaaProg
set_option maxRecDepth 1000000
namespace Go.Proofs.Ytboifenkbhfnfaa
open Go
theorem vc_merkle_Root (x1 : Array Value) (x2 : Option Addr) (x3 : Nat) (x4 : Nat) (w : World) (R : Value → World → Prop) : V.fnVC Try.prog Try.f17 [(.agg x1), (.slice x2 x3 x4)] w R =
  ((V.ifB (V.ieq (V.zi x3) 0)
  (V.nilCk (some (V.nptr w)) (fun (a5 : Addr) => (V.ldBig (World.alloc w (Obj.cells x1 29 (0, 0))) a5 72 (fun (x6 : Array Value) => (V.CallsR Try.prog 41 #[(.agg x6), (.string (ByteArray.mk #[]))] (World.alloc w (Obj.cells x1 29 (0, 0))) (fun (x7 : Value) (w8 : World) => (V.vStr x7 (fun (x9 : ByteArray) => (R (.string x9) w8)))))))))
  (V.ifB (V.ieq (V.zi x3) 1)
  (V.inX 0 x3 ∧ (V.nilCk x2 (fun (a10 : Addr) => (V.nilCk (some (V.aadd a10 (V.nmul (V.inat 0) 1))) (fun (a11 : Addr) => (V.ldStr (World.alloc w (Obj.cells x1 29 (0, 0))) a11 (fun (x12 : ByteArray) => (R (.string x12) (World.alloc w (Obj.cells x1 29 (0, 0)))))))))))
  (V.CallsR Try.prog 44 #[(.int .i64 (V.zi x3))] (World.alloc w (Obj.cells x1 29 (0, 0))) (fun (x13 : Value) (w14 : World) => (V.vInt x13 .i64 (fun (x15 : Int) => (V.nilCk (some (V.nptr w)) (fun (a16 : Addr) => (V.ldBig (World.drew w14) a16 72 (fun (x17 : Array Value) => (V.nilCk (some (V.nptr w)) (fun (a18 : Addr) => (V.ldBig (World.drew w14) a18 72 (fun (x19 : Array Value) => (V.inR x15 x4 ∧ (V.nilCk (some (V.nptr w)) (fun (a20 : Addr) => (V.ldBig (World.drew w14) a20 72 (fun (x21 : Array Value) => (V.inR x15 x3 ∧ (V.CallsR Try.prog 17 #[(.agg x19), (.slice (V.slAdr x2 x4 0 1) (V.nsub (V.inat x15) 0) (V.nsub x4 0))] (World.drew w14) (fun (x22 : Value) (w23 : World) => (V.vStr x22 (fun (x24 : ByteArray) => (V.hasCells w23 a20 x21 ∧ (V.hasCells w23 a16 x17 ∧ (V.CallsR Try.prog 17 #[(.agg x21), (.slice (V.slAdr x2 x4 (V.inat x15) 1) (V.nsub x3 (V.inat x15)) (V.nsub x4 (V.inat x15)))] w23 (fun (x25 : Value) (w26 : World) => (V.vStr x25 (fun (x27 : ByteArray) => (V.hasCells w26 a16 x17 ∧ (V.CallsR Try.prog 45 #[(.agg x17), (.string x24), (.string x27)] w26 (fun (x28 : Value) (w29 : World) => (V.vStr x28 (fun (x30 : ByteArray) => (R (.string x30) w29))))))))))))))))))))))))))))))))))))) := by kernel_rfl
theorem vc_merkle_split (x1 : Int) (w : World) (R : Value → World → Prop) : V.fnVC Try.prog Try.f44 [(.int .i64 x1)] w R =
  ((∃ (J2 : Int → V.LI), (V.LI.inv (J2 1) w ∧ ∀ (_ : Nat → Value), ∀ (x7 : Int), ∀ (w8 : World), V.LI.inv (J2 x7) w8 →
  (V.ifB (V.ilt (V.imul .i64 2 x7) x1)
  (V.LI.inv (J2 (V.imul .i64 x7 2)) w8 ∧ V.LI.meas (J2 (V.imul .i64 x7 2)) w8 < V.LI.meas (J2 x7) w8)
  (R (.int .i64 x7) w8))))) := by kernel_rfl
theorem vc_merkle_pair (x1 : Array Value) (x2 : ByteArray) (x3 : ByteArray) (w : World) (R : Value → World → Prop) : V.fnVC Try.prog Try.f45 [(.agg x1), (.string x2), (.string x3)] w R =
  ((V.nilCk (some (V.nptr w)) (fun (a4 : Addr) => (V.ldBig (World.alloc w (Obj.cells x1 29 (0, 0))) a4 72 (fun (x5 : Array Value) => (V.sfits (ByteArray.mk #[1]) x2 ∧ (V.sfits (V.scat (ByteArray.mk #[1]) x2) x3 ∧ (V.CallsR Try.prog 41 #[(.agg x5), (.string (V.scat (V.scat (ByteArray.mk #[1]) x2) x3))] (World.alloc w (Obj.cells x1 29 (0, 0))) (fun (x6 : Value) (w7 : World) => (V.vStr x6 (fun (x8 : ByteArray) => (R (.string x8) w7)))))))))))) := by kernel_rfl
theorem vc_merkle_Leaf (x1 : Array Value) (x2 : ByteArray) (w : World) (R : Value → World → Prop) : V.fnVC Try.prog Try.f48 [(.agg x1), (.string x2)] w R =
  ((V.nilCk (some (V.nptr w)) (fun (a3 : Addr) => (V.ldBig (World.alloc w (Obj.cells x1 29 (0, 0))) a3 72 (fun (x4 : Array Value) => (V.sfits (ByteArray.mk #[0]) x2 ∧ (V.CallsR Try.prog 41 #[(.agg x4), (.string (V.scat (ByteArray.mk #[0]) x2))] (World.alloc w (Obj.cells x1 29 (0, 0))) (fun (x5 : Value) (w6 : World) => (V.vStr x5 (fun (x7 : ByteArray) => (R (.string x7) w6))))))))))) := by kernel_rfl
end Go.Proofs.Ytboifenkbhfnfaa
