/- A part of this claim. -/
import Derived.Deep.QuietTactic
import Derived.Test.YtejamhkgjkhjdaaGreatDoorShelf3
import Derived.Test.YtejamhkgjkhjdaaGreatDoorXn11
namespace Go.Proofs.YtejamhkgjkhjdaaGreatDoor
open Tryz
set_option maxHeartbeats 64000000
set_option maxRecDepth 100000
section
open Go.RowKit Go.Sort Go.Shelf
abbrev J32:={ x:Idl // x.length=32 }
instance:Inhabited J32:=⟨⟨zid,bR⟩⟩
def l8 (x:J32):List Value:=idC x.1
def cfJ (x y:J32):Int:=cmpL x.1 y.1
theorem ltJ (x y:J32):ltOf cfJ x y=ltB x.1 y.1:=by
 show decide (cmpL x.1 y.1<0)=_
 exact LB (x.2.trans y.2.symm)
theorem NA:SWO (ltOf cfJ) where
 irrefl x:=by rw [ltJ,bQ]
 trans x y z h1 h2:=by rw [ltJ] at *;exact gy h1 h2
 ntrans x y z h1 h2:=by
  rw [ltJ] at *
  cases h:ltB x.1 z.1 with
  | false=>rfl
  | true =>
   by_cases e:ltB y.1 x.1=true
   ·have:=gy e h
    rw [h2] at this;cases this
   have:=iC h1 (by simpa using e)
   rw [this,h2] at h;cases h
theorem Bw (x:J32):(l8 x).length=32:=by unfold l8;rw [aA,x.2]
theorem Ke (x:J32):∀v∈l8 x,v.oneCell'=true:=bC x.1
theorem cells_of_cell {w:World} {g o:Nat} {u:Value} (h:w.cell? ⟨g,o,none⟩=some u):∃cur e fr,w.heap[g]? = some (.cells cur e fr):=by
 unfold World.cell? at h
 dsimp only at h
 split at h
 ·rename_i cs e fr a;exact ⟨_,_,_,a⟩
 cases h
theorem He (d:Array J32) (i j:Nat) (hi:i<d.size) (a:j<32):(flatK l8 32 d)[i*32+j]! = (l8 d[i]!)[j]!:=by
 rw [get_flatK _ _ _ _ (by omega),show (i*32+j)/32=i by omega,show (i*32+j)%32=j by omega]
theorem JN (l:List Idl) (b:∀x∈l,x.length=32) (i j:Nat) (hi:i<l.length) (e:j<32):(dx l)[i*32+j]? = (idC l[i])[j]?:=by
 induction l generalizing i with
 | nil=>simp at hi
 | cons a m ih =>
  have d:(idC a).length=32:=by rw [aA];exact b a (by simp)
  rw [pY]
  cases i with
  | zero=>rw [List.getElem?_append_left (by omega)];simp
  | succ i =>
   rw [List.getElem?_append_right (by omega),d,show (i+1)*32+j-32=i*32+j from by omega]
   exact ih (fun x hx=>b x (List.mem_cons_of_mem _ hx)) i (by simpa using hi)
def mV (d:Array J32):List Idl:=d.toList.map (·.1)
theorem jI (d:Array J32):(mV d).length=d.size:=by simp [mV]
theorem yJ (d:Array J32):∀x∈mV d,x.length=32:=fun x hx=>by
 obtain ⟨y,_,rfl⟩:=List.mem_map.1 hx
 exact y.2
theorem sZ (d:Array J32) (i:Nat) (hi:i<d.size):(mV d)[i]'(by rw [jI];exact hi)=d[i]!.1:=by
 rw [getElem!_pos d i hi];simp [mV]
theorem xE (d:Array J32) (t:Nat) (f:t<d.size*32):(dx (mV d))[t]? = some (flatK l8 32 d)[t]!:=by
 have hi:t/32<d.size:=by omega
 have e:t/32*32+t%32=t:=by omega
 have h1:=He d (t/32) (t%32) hi (Nat.mod_lt _ (by omega))
 have b:=JN (mV d) (yJ d) (t/32) (t%32) (by rw [jI];exact hi) (Nat.mod_lt _ (by omega))
 rw [e] at h1 b
 rw [h1,b,sZ d _ hi]
 have a:(l8 d[t/32]!).length=32:=Bw _
 have hm:t%32<(l8 d[t/32]!).length:=by rw [a];exact Nat.mod_lt _ (by omega)
 rw [getElem!_pos (l8 d[t/32]!) _ hm]
 show (l8 d[t/32]!)[t%32]? = _
 rw [List.getElem?_eq_getElem hm]
theorem MR {w:World} {g off a n:Nat} {d:Array J32} (hd:d.size=n) (h:n≤a) (b:w.there g off (a*32)) (f:w.rangeAt g off (dx (mV d))):HoldsK l8 32 w g off d:=by
 intro j e
 rw [size_flatK] at e
 exact ⟨f j _ (xE d j e),(b j (by omega)).2⟩
theorem y9 {w:World} {g off n:Nat} {os:Array Obj} {cur:Array Value} {e:TypeId} {fr:Nat×Nat} (d:Array J32) (hb:w.heap[g]? = some (.cells cur e fr)) :
  (sortWorldK l8 32 w g off n d os).heap[g]? = some (.cells (putCells id off (flatK l8 32 d) cur) e fr):=by
 have a:g<w.heap.size:=(Array.getElem?_eq_some_iff.1 hb).1
 unfold sortWorldK putRowK
 rw [heap_grow_old _ _ (by simpa using a)]
 simp [putRow,mapBlock,Sort.ahead,Array.getElem?_modify,hb,onCells]
theorem kK {w:World} {g off n:Nat} {os:Array Obj} (d:Array J32):w.grownBy (sortWorldK l8 32 w g off n d os) (some g):=by
 unfold sortWorldK putRowK
 refine ⟨rfl,rfl,rfl,by simp,fun k b a=> ?_⟩
 rw [heap_grow_old _ _ (by simpa using b)]
 have:g≠k:=fun e=>a (by rw [e])
 simp [putRow,mapBlock,Sort.ahead,Array.getElem?_modify,this]
theorem ku {w:World} {g:Nat} {cur:Array Value} {e:TypeId} {fr:Nat×Nat} (h:w.heap[g]? = some (.cells cur e fr)) (j:Nat):w.cell? ⟨g,j,none⟩=cur[j]?:=by simp [World.cell?,h]
theorem oN {w:World} {g:Nat} {cur:Array Value} {e:TypeId} {fr:Nat×Nat} (h:w.heap[g]? = some (.cells cur e fr)) (j:Nat):w.frozen? ⟨g,j,none⟩=(decide (fr.1≤j)&&decide (j<fr.2)):=by
 obtain ⟨a,hi⟩:=fr
 simp [World.frozen?,h]
structure CfI (cf:FuncId):Prop where
 enter:∀ args w,(callFunc cf args).run prog w = .ok (.enter cf args) w
 says:∀ (x y:Idl) (w:World),x.length = 32 → y.length = 32 → Calls prog cf #[.agg (idC x).toArray,.agg (idC y).toArray] w fun e w' => e = .returned (.int .i64 (cmpL x y)) ∧ ∃ q os',w' = grow (w.drewN q) os'
theorem Dt (cf:FuncId) (C:CfI cf) (B:Nat) (q:Value) (l:List Idl) (w:World) (J:gY w B 32 q l.length (dx l)) (Z:∀x∈l,x.length=32) (hn:l.length≤1000000) :
  Calls prog 206 #[q,.func (.func cf) #[] #[]] w fun e w'=>e= .returned (.tuple #[])∧ ∃m:List Idl,m.Perm l∧(l.Nodup→KN m)∧gY w' B 32 q l.length (dx m)∧w.grownBy w' q.ownBlock:=by
 by_cases N:l.length=0
 ·obtain rfl:l=[]:=List.eq_nil_of_length_eq_zero N
  obtain ⟨p,b,rfl⟩:∃p b,q= .slice p 0 b:=by
   rcases J.2 with ⟨rfl,_⟩|⟨g,off,b,rfl,_⟩
   ·exact ⟨none,0,rfl⟩
   exact ⟨_,_,rfl⟩
  have E:=AnyF.slices_SortFunc_none (P:=prog) (ρ:=Tryz.sortI_ren) { Tryz.sortI with } p b (.func (.func cf) #[] #[]) w
  change Calls prog 206 _ _ _ at E
  refine E.mono ?_
  rintro e w' ⟨I,rfl⟩
  exact ⟨I,[],List.Perm.refl _,fun _=>List.Pairwise.nil,J,World.grownBy.refl _ _⟩
 rcases J.2 with ⟨_,T⟩|⟨g,off,b,rfl,W,R,z,G,o,hr⟩
 ·exact absurd T N
 obtain ⟨d,hd⟩:∃d:Array J32,mV d=l:=⟨(l.attach.map fun x=>(⟨x.1,Z x.1 x.2⟩:J32)).toArray,by simp [mV]⟩
 have t:d.size=l.length:=by rw [←hd,jI]
 have Y:HoldsK l8 32 w g off d:=MR t z o (by rw [hd];exact hr)
 have hS:=AnyQ.slices_SortFunc Tryz.sortI 32 (fun w=>by kernel_rfl) (fun w=>by kernel_rfl) l8 Bw Ke cfJ NA cf #[] g off b d w C.enter
  (fun m os dk _ x y=>C.says x.1 y.1 _ x.2 y.2) Y R (by omega)
 rw [t] at hS
 change Calls prog 206 _ _ _ at hS
 refine hS.mono ?_
 rintro e w' ⟨I,d',nq,os,O,Q,hw'⟩
 rw [←t] at O Q
 obtain ⟨A,_,k⟩:=O
 have X:d'.extract 0 d.size=d':=by rw [←A];exact Array.extract_size
 rw [X,Array.extract_size] at k
 have s:(mV d').Perm l:=by rw [←hd];exact k.map _
 refine ⟨I,mV d',s,?_,?_,by rw [hw'];exact kK d'⟩
 ·intro K
  have F:(mV d').Nodup:=s.nodup_iff.2 K
  have M:(mV d').Pairwise fun x y=>ltB y x=false:=by
   rw [List.pairwise_iff_getElem]
   intro i j hi r H
   rw [jI] at hi r
   have h:=Q i j (Nat.zero_le _) H (by rw [←A];exact r)
   rw [ltJ] at h
   rw [sZ d' i hi,sZ d' j r]
   exact h
  exact (M.and F).imp fun {x y} ⟨h1,U⟩=>by
   cases h:ltB x y with
   | true=>rfl
   | false=>exact absurd (iC h h1) U
 obtain ⟨cur,e2,fr,f⟩:∃cur e fr,w.heap[g]? = some (.cells cur e fr):=by
  have h1:=(o 0 (by omega)).1
  obtain ⟨u,hu⟩:=Option.isSome_iff_exists.1 h1
  exact cells_of_cell hu
 have a:=y9 (off:=off) (n:=nq) (os:=os) d' f
 rw [←hw'] at a
 have D:(mV d').length=l.length:=s.length_eq
 have S:d'.size=l.length:=by rw [←D,jI]
 refine ⟨by rw [Bc _ (yJ d'),D],.inr ⟨g,off,b,rfl,W,by rw [hw'];exact Nat.lt_of_lt_of_le R (kK (off:=off) (n:=nq) (os:=os) d').size,z,G,fun j r=> ?_,fun j u hu=> ?_⟩⟩
 ·have h1:=o j r
  rw [ku f,oN f] at h1
  rw [ku a,oN a]
  refine ⟨?_,h1.2⟩
  obtain ⟨u,hu⟩:=Option.isSome_iff_exists.1 h1.1
  have:=(Array.getElem?_eq_some_iff.1 hu).1
  simp [putCells,this]
 have r:j<d'.size*32:=by
  have:=(List.getElem?_eq_some_iff.1 hu).1
  rw [Bc _ (yJ d'),jI] at this
  exact this
 rw [xE d' j r] at hu
 rw [ku a]
 have h1:=(o j (by omega)).1
 rw [ku f] at h1
 obtain ⟨v,V⟩:=Option.isSome_iff_exists.1 h1
 have L:=(Array.getElem?_eq_some_iff.1 V).1
 rw [←hu]
 simp [putCells,L,r]
end
end Go.Proofs.YtejamhkgjkhjdaaGreatDoor
