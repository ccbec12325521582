/- A part of this claim. -/
import Derived.Deep.QuietTactic
import Derived.Test.YtlhcoanbhnphgaaGreatDoorShelf3
import Derived.Test.YtlhcoanbhnphgaaGreatDoorWm10
namespace Go.Proofs.YtlhcoanbhnphgaaGreatDoor
open Tryz
set_option maxHeartbeats 64000000
set_option maxRecDepth 100000
section
open Go.RowKit Go.Sort Go.Shelf
abbrev J32:={ x:Idl // x.length = 32 }
instance:Inhabited J32:=⟨⟨zid,aV⟩⟩
def encJ (x:J32):List Value:=idC x.1
def cfJ (x y:J32):Int:=cmpL x.1 y.1
theorem ltJ (x y:J32):ltOf cfJ x y = ltB x.1 y.1:=by
 show decide (cmpL x.1 y.1 < 0) = _
 exact JY (x.2.trans y.2.symm)
theorem swoJ:SWO (ltOf cfJ) where
 irrefl x:=by rw [ltJ,dS]
 trans x y z h1 h2:=by rw [ltJ] at *;exact iA h1 h2
 ntrans x y z h1 h2:=by
  rw [ltJ] at *
  cases h:ltB x.1 z.1 with
  | false => rfl
  | true =>
   by_cases e:ltB y.1 x.1 = true
   ·have:=iA e h
    rw [h2] at this;cases this
   have:=jA h1 (by simpa using e)
   rw [this,h2] at h;cases h
theorem zT (x:J32):(encJ x).length = 32:=by unfold encJ;rw [au,x.2]
theorem Iz (x:J32):∀ v ∈ encJ x,v.oneCell' = true:=aM x.1
theorem cells_of_cell {w:World} {g o:Nat} {u:Value} (h:w.cell? ⟨g,o,none⟩ = some u):∃ cur e fr,w.heap[g]? = some (.cells cur e fr):=by
 unfold World.cell? at h
 dsimp only at h
 split at h
 ·rename_i cs e fr hh;exact ⟨_,_,_,hh⟩
 cases h
theorem ES (d:Array J32) (i j:Nat) (hi:i < d.size) (hj:j < 32):(flatK encJ 32 d)[i * 32 + j]! = (encJ d[i]!)[j]!:=by
 rw [get_flatK _ _ _ _ (by omega),show (i * 32 + j) / 32 = i by omega,show (i * 32 + j) % 32 = j by omega]
theorem Hz (l:List Idl) (hl:∀ x ∈ l,x.length = 32) (i j:Nat) (hi:i < l.length) (hj:j < 32):(idsF l)[i * 32 + j]? = (idC l[i])[j]?:=by
 induction l generalizing i with
 | nil => simp at hi
 | cons a m ih =>
  have ha:(idC a).length = 32:=by rw [au];exact hl a (by simp)
  rw [lH]
  cases i with
  | zero => rw [List.getElem?_append_left (by omega)];simp
  | succ i =>
   rw [List.getElem?_append_right (by omega),ha,show (i + 1) * 32 + j - 32 = i * 32 + j from by omega]
   exact ih (fun x hx => hl x (List.mem_cons_of_mem _ hx)) i (by simpa using hi)
def rawJ (d:Array J32):List Idl:=d.toList.map (·.1)
theorem jw (d:Array J32):(rawJ d).length = d.size:=by simp [rawJ]
theorem xw (d:Array J32):∀ x ∈ rawJ d,x.length = 32:=fun x hx => by
 obtain ⟨y,_,rfl⟩:=List.mem_map.1 hx
 exact y.2
theorem r9 (d:Array J32) (i:Nat) (hi:i < d.size):(rawJ d)[i]'(by rw [jw];exact hi) = d[i]!.1:=by
 rw [getElem!_pos d i hi];simp [rawJ]
theorem wF (d:Array J32) (t:Nat) (ht:t < d.size * 32):(idsF (rawJ d))[t]? = some (flatK encJ 32 d)[t]!:=by
 have hi:t / 32 < d.size:=by omega
 have e:t / 32 * 32 + t % 32 = t:=by omega
 have h1:=ES d (t / 32) (t % 32) hi (Nat.mod_lt _ (by omega))
 have h2:=Hz (rawJ d) (xw d) (t / 32) (t % 32) (by rw [jw];exact hi) (Nat.mod_lt _ (by omega))
 rw [e] at h1 h2
 rw [h1,h2,r9 d _ hi]
 have hlen:(encJ d[t / 32]!).length = 32:=zT _
 have hm:t % 32 < (encJ d[t / 32]!).length:=by rw [hlen];exact Nat.mod_lt _ (by omega)
 rw [getElem!_pos (encJ d[t / 32]!) _ hm]
 show (encJ d[t / 32]!)[t % 32]? = _
 rw [List.getElem?_eq_getElem hm]
theorem Le {w:World} {g off cap n:Nat} {d:Array J32} (hd:d.size = n) (hn:n ≤ cap) (hth:w.there g off (cap * 32)) (hr:w.rangeAt g off (idsF (rawJ d))):HoldsK encJ 32 w g off d:=by
 intro j hj
 rw [size_flatK] at hj
 exact ⟨hr j _ (wF d j hj),(hth j (by omega)).2⟩
theorem xQ {w:World} {g off n:Nat} {os:Array Obj} {cur:Array Value} {e:TypeId} {fr:Nat × Nat} (d:Array J32) (hb:w.heap[g]? = some (.cells cur e fr)) :
  (sortWorldK encJ 32 w g off n d os).heap[g]? = some (.cells (putCells id off (flatK encJ 32 d) cur) e fr):=by
 have hg:g < w.heap.size:=(Array.getElem?_eq_some_iff.1 hb).1
 unfold sortWorldK putRowK
 rw [heap_grow_old _ _ (by simpa using hg)]
 simp [putRow,mapBlock,Sort.ahead,Array.getElem?_modify,hb,onCells]
theorem kg {w:World} {g off n:Nat} {os:Array Obj} (d:Array J32):w.grownBy (sortWorldK encJ 32 w g off n d os) (some g):=by
 unfold sortWorldK putRowK
 refine ⟨rfl,rfl,rfl,by simp,fun k hk hne => ?_⟩
 rw [heap_grow_old _ _ (by simpa using hk)]
 have:g ≠ k:=fun e => hne (by rw [e])
 simp [putRow,mapBlock,Sort.ahead,Array.getElem?_modify,this]
theorem jQ {w:World} {g:Nat} {cur:Array Value} {e:TypeId} {fr:Nat × Nat} (h:w.heap[g]? = some (.cells cur e fr)) (j:Nat):w.cell? ⟨g,j,none⟩ = cur[j]?:=by simp [World.cell?,h]
theorem nS {w:World} {g:Nat} {cur:Array Value} {e:TypeId} {fr:Nat × Nat} (h:w.heap[g]? = some (.cells cur e fr)) (j:Nat):w.frozen? ⟨g,j,none⟩ = (decide (fr.1 ≤ j) && decide (j < fr.2)):=by
 obtain ⟨lo,hi⟩:=fr
 simp [World.frozen?,h]
structure CfI (cf:FuncId):Prop where
 enter:∀ args w,(callFunc cf args).run prog w = .ok (.enter cf args) w
 says:∀ (x y:Idl) (w:World),x.length = 32 → y.length = 32 → Calls prog cf #[.agg (idC x).toArray,.agg (idC y).toArray] w fun e w' => e = .returned (.int .i64 (cmpL x y)) ∧ ∃ q os',w' = grow (w.drewN q) os'
theorem Bq (cf:FuncId) (hcf:CfI cf) (B:Nat) (q:Value) (l:List Idl) (w:World) (hq:OwnQ w B 32 q l.length (idsF l)) (hl:∀ x ∈ l,x.length = 32) (hn:l.length ≤ 1000000) :
  Calls prog 46 #[q,.func (.func cf) #[] #[]] w fun e w' => e = .returned (.tuple #[]) ∧ ∃ m:List Idl,m.Perm l ∧ (l.Nodup → AscL m) ∧ OwnQ w' B 32 q l.length (idsF m) ∧ w.grownBy w' q.ownBlock:=by
 by_cases h0:l.length = 0
 ·obtain rfl:l = []:=List.eq_nil_of_length_eq_zero h0
  obtain ⟨p,cap,rfl⟩:∃ p cap,q = .slice p 0 cap:=by
   rcases hq.2 with ⟨rfl,_⟩ | ⟨g,off,cap,rfl,_⟩
   ·exact ⟨none,0,rfl⟩
   exact ⟨_,_,rfl⟩
  have hn0:=AnyF.slices_SortFunc_none (P:=prog) (ρ:=Tryz.sortI_ren) { Tryz.sortI with } p cap (.func (.func cf) #[] #[]) w
  change Calls prog 46 _ _ _ at hn0
  refine hn0.mono ?_
  rintro e w' ⟨he,rfl⟩
  exact ⟨he,[],List.Perm.refl _,fun _ => List.Pairwise.nil,hq,World.grownBy.refl _ _⟩
 rcases hq.2 with ⟨_,hz⟩ | ⟨g,off,cap,rfl,hB,hg,hnc,hcm,hth,hr⟩
 ·exact absurd hz h0
 obtain ⟨d,hd⟩:∃ d:Array J32,rawJ d = l:=⟨(l.attach.map fun x => (⟨x.1,hl x.1 x.2⟩:J32)).toArray,by simp [rawJ]⟩
 have hds:d.size = l.length:=by rw [← hd,jw]
 have hH:HoldsK encJ 32 w g off d:=Le hds hnc hth (by rw [hd];exact hr)
 have hS:=AnyQ.slices_SortFunc Tryz.sortI 32 (fun w => by kernel_rfl) (fun w => by kernel_rfl) encJ zT Iz cfJ swoJ cf #[] g off cap d w hcf.enter
  (fun m os dk _ x y => hcf.says x.1 y.1 _ x.2 y.2) hH hg (by omega)
 rw [hds] at hS
 change Calls prog 46 _ _ _ at hS
 refine hS.mono ?_
 rintro e w' ⟨he,d',nq,os,hp,hs,hw'⟩
 rw [← hds] at hp hs
 obtain ⟨hsz,_,hperm⟩:=hp
 have e1:d'.extract 0 d.size = d':=by rw [← hsz];exact Array.extract_size
 rw [e1,Array.extract_size] at hperm
 have hpl:(rawJ d').Perm l:=by rw [← hd];exact hperm.map _
 refine ⟨he,rawJ d',hpl,?_,?_,by rw [hw'];exact kg d'⟩
 ·intro hnd
  have hnd':(rawJ d').Nodup:=hpl.nodup_iff.2 hnd
  have hpw:(rawJ d').Pairwise fun x y => ltB y x = false:=by
   rw [List.pairwise_iff_getElem]
   intro i j hi hj hij
   rw [jw] at hi hj
   have h:=hs i j (Nat.zero_le _) hij (by rw [← hsz];exact hj)
   rw [ltJ] at h
   rw [r9 d' i hi,r9 d' j hj]
   exact h
  exact (hpw.and hnd').imp fun {x y} ⟨h1,h2⟩ => by
   cases h:ltB x y with
   | true => rfl
   | false => exact absurd (jA h h1) h2
 obtain ⟨cur,e2,fr,hcur⟩:∃ cur e fr,w.heap[g]? = some (.cells cur e fr):=by
  have h1:=(hth 0 (by omega)).1
  obtain ⟨u,hu⟩:=Option.isSome_iff_exists.1 h1
  exact cells_of_cell hu
 have hcur':=xQ (off:=off) (n:=nq) (os:=os) d' hcur
 rw [← hw'] at hcur'
 have hml:(rawJ d').length = l.length:=hpl.length_eq
 have hd's:d'.size = l.length:=by rw [← hml,jw]
 refine ⟨by rw [tC _ (xw d'),hml],.inr ⟨g,off,cap,rfl,hB,by rw [hw'];exact Nat.lt_of_lt_of_le hg (kg (off:=off) (n:=nq) (os:=os) d').size,hnc,hcm,fun j hj => ?_,fun j u hu => ?_⟩⟩
 ·have h1:=hth j hj
  rw [jQ hcur,nS hcur] at h1
  rw [jQ hcur',nS hcur']
  refine ⟨?_,h1.2⟩
  obtain ⟨u,hu⟩:=Option.isSome_iff_exists.1 h1.1
  have:=(Array.getElem?_eq_some_iff.1 hu).1
  simp [putCells,this]
 have hj:j < d'.size * 32:=by
  have:=(List.getElem?_eq_some_iff.1 hu).1
  rw [tC _ (xw d'),jw] at this
  exact this
 rw [wF d' j hj] at hu
 rw [jQ hcur']
 have h1:=(hth j (by omega)).1
 rw [jQ hcur] at h1
 obtain ⟨v,hv⟩:=Option.isSome_iff_exists.1 h1
 have hlt:=(Array.getElem?_eq_some_iff.1 hv).1
 rw [← hu]
 simp [putCells,hlt,hj]
end
end Go.Proofs.YtlhcoanbhnphgaaGreatDoor
