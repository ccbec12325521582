/- A part of this claim. -/
import Derived.Deep.QuietTactic
import Derived.Test.YtlhcoanbhnphgaaGreatDoorShelf3
import Derived.Test.YtlhcoanbhnphgaaGreatDoorXm10
namespace Go.Proofs.YtlhcoanbhnphgaaGreatDoor
open Tryz
set_option maxHeartbeats 64000000
set_option maxRecDepth 100000
section
open Go.RowKit Go.Sort Go.Shelf
abbrev J32:={ x:Idl // x.length=32 }
instance:Inhabited J32:=⟨⟨zid,aV⟩⟩
def oF (x:J32):List Value:=idC x.1
def cfJ (x y:J32):Int:=cmpL x.1 y.1
theorem ltJ (x y:J32):ltOf cfJ x y=ltB x.1 y.1:=by
 show decide (cmpL x.1 y.1<0)=_
 exact O3 (x.2.trans y.2.symm)
theorem Ra:SWO (ltOf cfJ) where
 irrefl x:=by rw [ltJ,bU]
 trans x y z h1 h2:=by rw [ltJ] at *;exact fH h1 h2
 ntrans x y z h1 h2:=by
  rw [ltJ] at *
  cases h:ltB x.1 z.1 with
  | false=>rfl
  | true =>
   by_cases e:ltB y.1 x.1=true
   ·have:=fH e h
    rw [h2] at this;cases this
   have:=gq h1 (by simpa using e)
   rw [this,h2] at h;cases h
theorem En (x:J32):(oF x).length=32:=by unfold oF;rw [av,x.2]
theorem Ns (x:J32):∀v∈oF x,v.oneCell'=true:=aJ x.1
theorem cells_of_cell {w:World} {g o:Nat} {u:Value} (h:w.cell? ⟨g,o,none⟩=some u):∃cur e fr,w.heap[g]? = some (.cells cur e fr):=by
 unfold World.cell? at h
 dsimp only at h
 split at h
 ·rename_i cs e fr a;exact ⟨_,_,_,a⟩
 cases h
theorem Kh (d:Array J32) (i j:Nat) (hi:i<d.size) (a:j<32):(flatK oF 32 d)[i*32+j]! = (oF d[i]!)[j]!:=by
 rw [get_flatK _ _ _ _ (by omega),show (i*32+j)/32=i by omega,show (i*32+j)%32=j by omega]
theorem MX (l:List Idl) (b:∀x∈l,x.length=32) (i j:Nat) (hi:i<l.length) (e:j<32):(dx l)[i*32+j]? = (idC l[i])[j]?:=by
 induction l generalizing i with
 | nil=>simp at hi
 | cons a m ih =>
  have d:(idC a).length=32:=by rw [av];exact b a (by simp)
  rw [og]
  cases i with
  | zero=>rw [List.getElem?_append_left (by omega)];simp
  | succ i =>
   rw [List.getElem?_append_right (by omega),d,show (i+1)*32+j-32=i*32+j from by omega]
   exact ih (fun x hx=>b x (List.mem_cons_of_mem _ hx)) i (by simpa using hi)
def pI (d:Array J32):List Idl:=d.toList.map (·.1)
theorem lD (d:Array J32):(pI d).length=d.size:=by simp [pI]
theorem BO (d:Array J32):∀x∈pI d,x.length=32:=fun x hx=>by
 obtain ⟨y,_,rfl⟩:=List.mem_map.1 hx
 exact y.2
theorem xD (d:Array J32) (i:Nat) (hi:i<d.size):(pI d)[i]'(by rw [lD];exact hi)=d[i]!.1:=by
 rw [getElem!_pos d i hi];simp [pI]
theorem AP (d:Array J32) (t:Nat) (f:t<d.size*32):(dx (pI d))[t]? = some (flatK oF 32 d)[t]!:=by
 have hi:t/32<d.size:=by omega
 have e:t/32*32+t%32=t:=by omega
 have h1:=Kh d (t/32) (t%32) hi (Nat.mod_lt _ (by omega))
 have b:=MX (pI d) (BO d) (t/32) (t%32) (by rw [lD];exact hi) (Nat.mod_lt _ (by omega))
 rw [e] at h1 b
 rw [h1,b,xD d _ hi]
 have a:(oF d[t/32]!).length=32:=En _
 have hm:t%32<(oF d[t/32]!).length:=by rw [a];exact Nat.mod_lt _ (by omega)
 rw [getElem!_pos (oF d[t/32]!) _ hm]
 show (oF d[t/32]!)[t%32]? = _
 rw [List.getElem?_eq_getElem hm]
theorem Qn {w:World} {g off cap n:Nat} {d:Array J32} (hd:d.size=n) (f:n≤cap) (a:w.there g off (cap*32)) (e:w.rangeAt g off (dx (pI d))):HoldsK oF 32 w g off d:=by
 intro j b
 rw [size_flatK] at b
 exact ⟨e j _ (AP d j b),(a j (by omega)).2⟩
theorem Ck {w:World} {g off n:Nat} {os:Array Obj} {cur:Array Value} {e:TypeId} {fr:Nat×Nat} (d:Array J32) (hb:w.heap[g]? = some (.cells cur e fr)) :
  (sortWorldK oF 32 w g off n d os).heap[g]? = some (.cells (putCells id off (flatK oF 32 d) cur) e fr):=by
 have a:g<w.heap.size:=(Array.getElem?_eq_some_iff.1 hb).1
 unfold sortWorldK putRowK
 rw [heap_grow_old _ _ (by simpa using a)]
 simp [putRow,mapBlock,Sort.ahead,Array.getElem?_modify,hb,onCells]
theorem mH {w:World} {g off n:Nat} {os:Array Obj} (d:Array J32):w.grownBy (sortWorldK oF 32 w g off n d os) (some g):=by
 unfold sortWorldK putRowK
 refine ⟨rfl,rfl,rfl,by simp,fun k b a=> ?_⟩
 rw [heap_grow_old _ _ (by simpa using b)]
 have:g≠k:=fun e=>a (by rw [e])
 simp [putRow,mapBlock,Sort.ahead,Array.getElem?_modify,this]
theorem fP {w:World} {g:Nat} {cur:Array Value} {e:TypeId} {fr:Nat×Nat} (h:w.heap[g]? = some (.cells cur e fr)) (j:Nat):w.cell? ⟨g,j,none⟩=cur[j]?:=by simp [World.cell?,h]
theorem jI {w:World} {g:Nat} {cur:Array Value} {e:TypeId} {fr:Nat×Nat} (h:w.heap[g]? = some (.cells cur e fr)) (j:Nat):w.frozen? ⟨g,j,none⟩=(decide (fr.1≤j)&&decide (j<fr.2)):=by
 obtain ⟨lo,hi⟩:=fr
 simp [World.frozen?,h]
structure CfI (cf:FuncId):Prop where
 enter:∀ args w,(callFunc cf args).run prog w = .ok (.enter cf args) w
 says:∀ (x y:Idl) (w:World),x.length = 32 → y.length = 32 → Calls prog cf #[.agg (idC x).toArray,.agg (idC y).toArray] w fun e w' => e = .returned (.int .i64 (cmpL x y)) ∧ ∃ q os',w' = grow (w.drewN q) os'
theorem xZ (cf:FuncId) (D:CfI cf) (B:Nat) (q:Value) (l:List Idl) (w:World) (H:bQ w B 32 q l.length (dx l)) (X:∀x∈l,x.length=32) (hn:l.length≤1000000) :
  Calls prog 46 #[q,.func (.func cf) #[] #[]] w fun e w'=>e= .returned (.tuple #[])∧ ∃m:List Idl,m.Perm l∧(l.Nodup→Oc m)∧bQ w' B 32 q l.length (dx m)∧w.grownBy w' q.ownBlock:=by
 by_cases R:l.length=0
 ·obtain rfl:l=[]:=List.eq_nil_of_length_eq_zero R
  obtain ⟨p,cap,rfl⟩:∃p cap,q= .slice p 0 cap:=by
   rcases H.2 with ⟨rfl,_⟩|⟨g,off,cap,rfl,_⟩
   ·exact ⟨none,0,rfl⟩
   exact ⟨_,_,rfl⟩
  have C:=AnyF.slices_SortFunc_none (P:=prog) (ρ:=Tryz.sortI_ren) { Tryz.sortI with } p cap (.func (.func cf) #[] #[]) w
  change Calls prog 46 _ _ _ at C
  refine C.mono ?_
  rintro e w' ⟨K,rfl⟩
  exact ⟨K,[],List.Perm.refl _,fun _=>List.Pairwise.nil,H,World.grownBy.refl _ _⟩
 rcases H.2 with ⟨_,T⟩|⟨g,off,cap,rfl,S,Q,z,I,k,W⟩
 ·exact absurd T R
 obtain ⟨d,hd⟩:∃d:Array J32,pI d=l:=⟨(l.attach.map fun x=>(⟨x.1,X x.1 x.2⟩:J32)).toArray,by simp [pI]⟩
 have s:d.size=l.length:=by rw [←hd,lD]
 have U:HoldsK oF 32 w g off d:=Qn s z k (by rw [hd];exact W)
 have hS:=AnyQ.slices_SortFunc Tryz.sortI 32 (fun w=>by kernel_rfl) (fun w=>by kernel_rfl) oF En Ns cfJ Ra cf #[] g off cap d w D.enter
  (fun m os dk _ x y=>D.says x.1 y.1 _ x.2 y.2) U Q (by omega)
 rw [s] at hS
 change Calls prog 46 _ _ _ at hS
 refine hS.mono ?_
 rintro e w' ⟨K,d',nq,os,N,M,hw'⟩
 rw [←s] at N M
 obtain ⟨E,_,f⟩:=N
 have Y:d'.extract 0 d.size=d':=by rw [←E];exact Array.extract_size
 rw [Y,Array.extract_size] at f
 have r:(pI d').Perm l:=by rw [←hd];exact f.map _
 refine ⟨K,pI d',r,?_,?_,by rw [hw'];exact mH d'⟩
 ·intro G
  have t:(pI d').Nodup:=r.nodup_iff.2 G
  have J:(pI d').Pairwise fun x y=>ltB y x=false:=by
   rw [List.pairwise_iff_getElem]
   intro i j hi o L
   rw [lD] at hi o
   have h:=M i j (Nat.zero_le _) L (by rw [←E];exact o)
   rw [ltJ] at h
   rw [xD d' i hi,xD d' j o]
   exact h
  exact (J.and t).imp fun {x y} ⟨h1,V⟩=>by
   cases h:ltB x y with
   | true=>rfl
   | false=>exact absurd (gq h h1) V
 obtain ⟨cur,e2,fr,b⟩:∃cur e fr,w.heap[g]? = some (.cells cur e fr):=by
  have h1:=(k 0 (by omega)).1
  obtain ⟨u,hu⟩:=Option.isSome_iff_exists.1 h1
  exact cells_of_cell hu
 have a:=Ck (off:=off) (n:=nq) (os:=os) d' b
 rw [←hw'] at a
 have A:(pI d').length=l.length:=r.length_eq
 have O:d'.size=l.length:=by rw [←A,lD]
 refine ⟨by rw [nJ _ (BO d'),A],.inr ⟨g,off,cap,rfl,S,by rw [hw'];exact Nat.lt_of_lt_of_le Q (mH (off:=off) (n:=nq) (os:=os) d').size,z,I,fun j o=> ?_,fun j u hu=> ?_⟩⟩
 ·have h1:=k j o
  rw [fP b,jI b] at h1
  rw [fP a,jI a]
  refine ⟨?_,h1.2⟩
  obtain ⟨u,hu⟩:=Option.isSome_iff_exists.1 h1.1
  have:=(Array.getElem?_eq_some_iff.1 hu).1
  simp [putCells,this]
 have o:j<d'.size*32:=by
  have:=(List.getElem?_eq_some_iff.1 hu).1
  rw [nJ _ (BO d'),lD] at this
  exact this
 rw [AP d' j o] at hu
 rw [fP a]
 have h1:=(k j (by omega)).1
 rw [fP b] at h1
 obtain ⟨v,Z⟩:=Option.isSome_iff_exists.1 h1
 have F:=(Array.getElem?_eq_some_iff.1 Z).1
 rw [←hu]
 simp [putCells,F,o]
end
end Go.Proofs.YtlhcoanbhnphgaaGreatDoor
