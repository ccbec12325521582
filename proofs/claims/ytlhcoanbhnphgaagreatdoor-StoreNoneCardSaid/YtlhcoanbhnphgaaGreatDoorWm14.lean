/- A part of this claim. -/
import Derived.Test.YtlhcoanbhnphgaaGreatDoorWm13
namespace Go.Proofs.YtlhcoanbhnphgaaGreatDoor
set_option maxHeartbeats 64000000
set_option maxRecDepth 100000
section
open Go.RowKit
section
variable {P:Program} {w:World} {ops:Array Oper} {rest:List Oper} {o:Oper} {a:Act} {Q:Exit → Act → World → Prop}
theorem mY (hg:o.guard = none) (t:TypeId) (x hi:Operand) (hop:o.op = .slice t x none (some hi) none) (xv hv:Value) (hx:a.eval x = xv) (hh:a.eval hi = hv) (v:Value) (h:(Instr.sliceAt t xv none (some hv) none).run P w = .ok v w) (hK:wpList P ops Q rest (a.put o.dst v) w):wpList P ops Q (o :: rest) a w:=by
 refine aO hg v ?_ hK
 unfold execOp
 simp only [hop,hx,Option.map_some,Option.map_none,hh,Sem.run_bind,h,Result.andThen_ok]
 rfl
end
theorem bB.cut {w:World} {v:Value} {x:Idl} {l:List Idl} (h:bB w v (x :: l)) (hcap:CapI v):∃ g off cap,v = .slice (some ⟨g,off,none⟩) (l.length + 1) (cap + 1) ∧ g < w.heap.size ∧ l.length ≤ cap ∧ l.length + 1 ≤ maxLen ∧ w.rangeAt g off (idC x) ∧ ∀ p,p = (if cap = 0 then (⟨g,off,none⟩:Addr) else ⟨g,off + 32,none⟩) → bB w (.slice (some p) l.length cap) l ∧ CapI (.slice (some p) l.length cap):=by
 obtain ⟨ao,cap,rfl,hm,h⟩:=h.open
 obtain ⟨g,off,rfl,hg,hc⟩:=h (by simp)
 have hnc:=hcap _ _ _ rfl
 rw [List.length_cons] at hnc hm
 obtain ⟨cap,rfl⟩:∃ c,cap = c + 1:=⟨cap - 1,by omega⟩
 refine ⟨g,off,cap,rfl,hg,by omega,hm,by
  have:=hc 0 (by simp)
  rwa [Nat.zero_mul,Nat.add_zero] at this,fun p hp => ⟨⟨some p,cap,by rw [List.length_map],by rw [List.length_map];omega,fun hne => ?_⟩,fun _ _ _ e => by cases e;omega⟩⟩
 have hl0:l ≠ []:=by simpa using hne
 have hpos:0 < l.length:=List.length_pos_iff.2 hl0
 rw [if_neg (by omega)] at hp
 refine ⟨g,off + 32,by rw [hp],hg,fun i hi => ?_⟩
 rw [List.length_map] at hi
 have:=hc (i + 1) (by simp;omega)
 rw [List.getElem_map,show off + 32 + i * 32 = off + (i + 1) * 32 from by omega]
 exact this
end
end Go.Proofs.YtlhcoanbhnphgaaGreatDoor
