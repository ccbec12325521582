/- YtbmiiiccnoiffaaGreatDoorC32: texts KL of this claim, in one. -/
import Derived.Test.YtbmiiiccnoiffaaGreatDoorC21
import Derived.Test.YtbmiiiccnoiffaaGreatDoorC29
namespace Go.Proofs.YtbmiiiccnoiffaaGreatDoor
open Go.RowKit
section
variable {P:Program} {w:World} {ops:Array Oper} {rest:List Oper} {o:Oper} {a:Act} {Q:Exit → Act → World → Prop}
theorem wpList_sliceH_run (hg:o.guard = none) (t:TypeId) (x hi:Operand) (hop:o.op = .slice t x none (some hi) none) (xv hv:Value) (hx:a.eval x = xv) (hh:a.eval hi = hv) (v:Value) (h:(Instr.sliceAt t xv none (some hv) none).run P w = .ok v w) (hK:wpList P ops Q rest (a.put o.dst v) w):wpList P ops Q (o :: rest) a w:=by
 refine wpList_exec hg v ?_ hK
 unfold execOp
 simp only [hop,hx,Option.map_some,Option.map_none,hh,Sem.run_bind,h,Result.andThen_ok]
 rfl
end
theorem run_to_ids (W:World) (ao:Option Addr) (n cap k:Nat) (h:k ≤ cap):(Instr.sliceAt 28 (.slice ao n cap) none (some (.int .i64 k)) none).run Tryz.prog W = .ok (.slice ao k cap) W:=by
 have hs:(sizeOf (Tryz.prog.elem 28)).run Tryz.prog W = .ok 32 W:=by kernel_rfl
 rw [run_sliceAt_slice _ _ _ _ _ _ elemIds,run_slice_h _ _ _ _ _ elemIds _ _ (by omega) (by omega),hs]
 show Result.ok _ W = _
 unfold sliced
 rw [Int.toNat_natCast,Nat.zero_mul,Nat.sub_zero,Nat.sub_zero]
 have:ao.map (fun p:Addr => p.add 0) = ao:=by
  cases ao with
  | none => rfl
  | some p => obtain ⟨b,o,s⟩:=p;cases s <;> simp [Addr.add]
 rw [this,ite_self]
theorem run_from_ids (W:World) (ao:Option Addr) (n cap k:Nat) (h:k ≤ n):(Instr.sliceAt 28 (.slice ao n cap) (some (.int .i64 k)) none none).run Tryz.prog W = .ok (.slice (if cap = k then ao else ao.map (fun p:Addr => p.add (k * 32))) (n - k) (cap - k)) W:=by
 have hs:(sizeOf (Tryz.prog.elem 28)).run Tryz.prog W = .ok 32 W:=by kernel_rfl
 rw [run_sliceAt_slice _ _ _ _ _ _ elemIds,run_slice_l _ _ _ _ _ elemIds _ _ (by omega) (by omega),hs]
 show Result.ok _ W = _
 unfold sliced
 rw [Int.toNat_natCast]
theorem idsF_sub {w:World} {b off:Nat} {l:List Idl} (hl:∀ x ∈ l,x.length = 32) (hc:∀ k (hk:k < l.length),w.rangeAt b (off + k * 32) (idC l[k])) (k m:Nat):∀ j u,(idsF ((l.drop k).take m))[j]? = some u → w.cell? ⟨b,off + k * 32 + j,none⟩ = some u:=by
 intro j u hu
 refine idsF_at ((l.drop k).take m) (fun x hx => hl x (List.mem_of_mem_drop (List.mem_of_mem_take hx))) (off:=off + k * 32) (fun i hi => ?_) j u hu
 have h1:k + i < l.length:=by simp at hi;omega
 have:=hc (k + i) h1
 rw [List.getElem_take,List.getElem_drop,show off + k * 32 + i * 32 = off + (k + i) * 32 from by omega]
 exact this
theorem idRow_own {w:World} {B:Nat} {v:Value} {l:List Idl} (h:OwnQ w B 32 v l.length (idsF l)) (hl:∀ x ∈ l,x.length = 32):IdRow w v l ∧ CapI v:=by
 refine ⟨h.row hl,fun ao n c e => ?_⟩
 rcases h.2 with ⟨rfl,_⟩ | ⟨g,off,cap,rfl,_,_,hn,_⟩
 ·cases e;exact Nat.le_refl _
 ·cases e;exact hn
theorem IdRow.cut {w:World} {v:Value} {x:Idl} {l:List Idl} (h:IdRow w v (x :: l)) (hcap:CapI v):∃ g off cap,v = .slice (some ⟨g,off,none⟩) (l.length + 1) (cap + 1) ∧ g < w.heap.size ∧ l.length ≤ cap ∧ l.length + 1 ≤ maxLen ∧ w.rangeAt g off (idC x) ∧ ∀ p,p = (if cap = 0 then (⟨g,off,none⟩:Addr) else ⟨g,off + 32,none⟩) → IdRow w (.slice (some p) l.length cap) l ∧ CapI (.slice (some p) l.length cap):=by
 obtain ⟨ao,cap,rfl,hm,h⟩:=h.open
 obtain ⟨g,off,rfl,hg,hc⟩:=h (by simp)
 have hnc:=hcap _ _ _ rfl
 rw [List.length_cons] at hnc hm
 obtain ⟨cap,rfl⟩:∃ c,cap = c + 1:=⟨cap - 1,by omega⟩
 refine ⟨g,off,cap,rfl,hg,by omega,hm,by
  have:=hc 0 (by simp)
  rwa [Nat.zero_mul,Nat.add_zero] at this,fun p hp => ⟨⟨some p,cap,by rw [List.length_map],by rw [List.length_map];omega,fun hne => ?_⟩,fun _ _ _ e => by cases e;omega⟩⟩
 have hl0:l ≠ []:=by simpa using hne
 have hpos:0 < l.length:=List.length_pos_iff.2 hl0
 rw [if_neg (by omega)] at hp
 refine ⟨g,off + 32,by rw [hp],hg,fun i hi => ?_⟩
 rw [List.length_map] at hi
 have:=hc (i + 1) (by simp;omega)
 rw [List.getElem_map,show off + 32 + i * 32 = off + (i + 1) * 32 from by omega]
 exact this
end Go.Proofs.YtbmiiiccnoiffaaGreatDoor
