/- A part of this claim. -/
import Derived.Test.YtlhcoanbhnphgaaGreatDoorXm14
namespace Go.Proofs.YtlhcoanbhnphgaaGreatDoor
open Tryz
set_option maxHeartbeats 64000000
set_option maxRecDepth 100000
section
open Go.RowKit
section
variable {P:Program} {w:World} {ops:Array Oper} {rest:List Oper} {o:Oper} {a:Act} {Q:Exit → Act → World → Prop}
theorem ku (g:o.guard=none) (t:TypeId) (x hi:Operand) (b:o.op= .slice t x none (some hi) none) (d e:Value) (hx:a.eval x=d) (i:a.eval hi=e) (v:Value) (h:(Instr.sliceAt t d none (some e) none).run P w= .ok v w) (f:wpList P ops Q rest (a.put o.dst v) w):wpList P ops Q (o::rest) a w:=by
 refine aW g v ?_ f
 unfold execOp
 simp only [b,hx,Option.map_some,Option.map_none,i,Sem.run_bind,h,Result.andThen_ok]
 rfl
end
theorem Fx (W:World) (a:Option Addr) (n cap k:Nat) (h:k≤cap):(Instr.sliceAt 44 (.slice a n cap) none (some (.int .i64 k)) none).run prog W= .ok (.slice a k cap) W:=by
 have d:(sizeOf (prog.elem 44)).run prog W= .ok 32 W:=by kernel_rfl
 rw [run_sliceAt_slice _ _ _ _ _ _ vP,run_slice_h _ _ _ _ _ vP _ _ (by omega) (by omega),d]
 show Result.ok _ W=_
 unfold sliced
 rw [Int.toNat_natCast,Nat.zero_mul,Nat.sub_zero,Nat.sub_zero]
 have:a.map (fun p:Addr=>p.add 0)=a:=by
  cases a with
  | none=>rfl
  | some p=>obtain ⟨b,o,s⟩:=p;cases s<;>simp [Addr.add]
 rw [this,ite_self]
theorem qC (W:World) (a:Option Addr) (n cap k:Nat) (h:k≤n):(Instr.sliceAt 44 (.slice a n cap) (some (.int .i64 k)) none none).run prog W= .ok (.slice (if cap=k then a else a.map (fun p:Addr=>p.add (k*32))) (n-k) (cap-k)) W:=by
 have b:(sizeOf (prog.elem 44)).run prog W= .ok 32 W:=by kernel_rfl
 rw [run_sliceAt_slice _ _ _ _ _ _ vP,run_slice_l _ _ _ _ _ vP _ _ (by omega) (by omega),b]
 show Result.ok _ W=_
 unfold sliced
 rw [Int.toNat_natCast]
end
end Go.Proofs.YtlhcoanbhnphgaaGreatDoor
