/- YtmhjpmenngjmeaaGreatDoorR33: texts KS, KP of this claim, in one. -/
import Derived.Deep.QuietTactic
import Derived.Test.YtmhjpmenngjmeaaGreatDoorR15
import Derived.Test.YtmhjpmenngjmeaaGreatDoorR22
import Derived.Test.YtmhjpmenngjmeaaGreatDoorR28
import Derived.Test.YtmhjpmenngjmeaaGreatDoorShelf3
namespace Go.Proofs.YtmhjpmenngjmeaaGreatDoor
open Go.RowKit Go.Sort Go.Shelf
set_option maxRecDepth 100000
abbrev J32:={ x:Idl // x.length = 32 }
instance:Inhabited J32:=⟨⟨zid,zid_len⟩⟩
def encJ (x:J32):List Value:=idC x.1
def cfJ (x y:J32):Int:=cmpL x.1 y.1
theorem ltJ (x y:J32):ltOf cfJ x y = ltB x.1 y.1:=by
 show decide (cmpL x.1 y.1 < 0) = _
 exact cmpL_lt (x.2.trans y.2.symm)
theorem swoJ:SWO (ltOf cfJ) where
 irrefl x:=by rw [ltJ,ltB_irrefl]
 trans x y z h1 h2:=by rw [ltJ] at *;exact ltB_trans h1 h2
 ntrans x y z h1 h2:=by
  rw [ltJ] at *
  cases h:ltB x.1 z.1 with
  | false => rfl
  | true =>
   by_cases e:ltB y.1 x.1 = true
   ·have:=ltB_trans e h
    rw [h2] at this;cases this
   ·have:=ltB_total h1 (by simpa using e)
    rw [this,h2] at h;cases h
theorem encJ_len (x:J32):(encJ x).length = 32:=by unfold encJ;rw [idC_len,x.2]
theorem encJ_one (x:J32):∀ v ∈ encJ x,v.oneCell' = true:=idC_one x.1
theorem cells_of_cell {w:World} {g o:Nat} {u:Value} (h:w.cell? ⟨g,o,none⟩ = some u):∃ cur e fr,w.heap[g]? = some (.cells cur e fr):=by
 unfold World.cell? at h
 dsimp only at h
 split at h
 ·rename_i cs e fr hh;exact ⟨_,_,_,hh⟩
 ·cases h
theorem get_flatJ (d:Array J32) (i j:Nat) (hi:i < d.size) (hj:j < 32):(flatK encJ 32 d)[i * 32 + j]! = (encJ d[i]!)[j]!:=by
 rw [get_flatK _ _ _ _ (by omega),show (i * 32 + j) / 32 = i by omega,show (i * 32 + j) % 32 = j by omega]
theorem idsF_get (l:List Idl) (hl:∀ x ∈ l,x.length = 32) (i j:Nat) (hi:i < l.length) (hj:j < 32):(idsF l)[i * 32 + j]? = (idC l[i])[j]?:=by
 induction l generalizing i with
 | nil => simp at hi
 | cons a m ih =>
  have ha:(idC a).length = 32:=by rw [idC_len];exact hl a (by simp)
  rw [idsF_cons]
  cases i with
  | zero => rw [List.getElem?_append_left (by omega)];simp
  | succ i =>
   rw [List.getElem?_append_right (by omega),ha,show (i + 1) * 32 + j - 32 = i * 32 + j from by omega]
   exact ih (fun x hx => hl x (List.mem_cons_of_mem _ hx)) i (by simpa using hi)
def rawJ (d:Array J32):List Idl:=d.toList.map (·.1)
theorem rawJ_len (d:Array J32):(rawJ d).length = d.size:=by simp [rawJ]
theorem rawJ_32 (d:Array J32):∀ x ∈ rawJ d,x.length = 32:=fun x hx => by
 obtain ⟨y,_,rfl⟩:=List.mem_map.1 hx
 exact y.2
theorem rawJ_get (d:Array J32) (i:Nat) (hi:i < d.size):(rawJ d)[i]'(by rw [rawJ_len];exact hi) = d[i]!.1:=by
 rw [getElem!_pos d i hi];simp [rawJ]
theorem flat_idsF (d:Array J32) (t:Nat) (ht:t < d.size * 32):(idsF (rawJ d))[t]? = some (flatK encJ 32 d)[t]!:=by
 have hi:t / 32 < d.size:=by omega
 have e:t / 32 * 32 + t % 32 = t:=by omega
 have h1:=get_flatJ d (t / 32) (t % 32) hi (Nat.mod_lt _ (by omega))
 have h2:=idsF_get (rawJ d) (rawJ_32 d) (t / 32) (t % 32) (by rw [rawJ_len];exact hi) (Nat.mod_lt _ (by omega))
 rw [e] at h1 h2
 rw [h1,h2,rawJ_get d _ hi]
 have hlen:(encJ d[t / 32]!).length = 32:=encJ_len _
 have hm:t % 32 < (encJ d[t / 32]!).length:=by rw [hlen];exact Nat.mod_lt _ (by omega)
 rw [getElem!_pos (encJ d[t / 32]!) _ hm]
 show (encJ d[t / 32]!)[t % 32]? = _
 rw [List.getElem?_eq_getElem hm]
theorem holdsJ {w:World} {g off cap n:Nat} {d:Array J32} (hd:d.size = n) (hn:n ≤ cap) (hth:w.there g off (cap * 32)) (hr:w.rangeAt g off (idsF (rawJ d))):HoldsK encJ 32 w g off d:=by
 intro j hj
 rw [size_flatK] at hj
 exact ⟨hr j _ (flat_idsF d j hj),(hth j (by omega)).2⟩
theorem heap_sortedJ {w:World} {g off n:Nat} {os:Array Obj} {cur:Array Value} {e:TypeId} {fr:Nat × Nat} (d:Array J32) (hb:w.heap[g]? = some (.cells cur e fr)) :
  (sortWorldK encJ 32 w g off n d os).heap[g]? = some (.cells (putCells id off (flatK encJ 32 d) cur) e fr):=by
 have hg:g < w.heap.size:=(Array.getElem?_eq_some_iff.1 hb).1
 unfold sortWorldK putRowK
 rw [heap_grow_old _ _ (by simpa using hg)]
 simp [putRow,mapBlock,Sort.ahead,Array.getElem?_modify,hb,onCells]
theorem grownBy_sortedJ {w:World} {g off n:Nat} {os:Array Obj} (d:Array J32):w.grownBy (sortWorldK encJ 32 w g off n d os) (some g):=by
 unfold sortWorldK putRowK
 refine ⟨rfl,rfl,rfl,by simp,fun k hk hne => ?_⟩
 rw [heap_grow_old _ _ (by simpa using hk)]
 have:g ≠ k:=fun e => hne (by rw [e])
 simp [putRow,mapBlock,Sort.ahead,Array.getElem?_modify,this]
theorem cell_block {w:World} {g:Nat} {cur:Array Value} {e:TypeId} {fr:Nat × Nat} (h:w.heap[g]? = some (.cells cur e fr)) (j:Nat):w.cell? ⟨g,j,none⟩ = cur[j]?:=by simp [World.cell?,h]
theorem frozen_block {w:World} {g:Nat} {cur:Array Value} {e:TypeId} {fr:Nat × Nat} (h:w.heap[g]? = some (.cells cur e fr)) (j:Nat):w.frozen? ⟨g,j,none⟩ = (decide (fr.1 ≤ j) && decide (j < fr.2)):=by
 obtain ⟨lo,hi⟩:=fr
 simp [World.frozen?,h]
end Go.Proofs.YtmhjpmenngjmeaaGreatDoor
namespace Go.Proofs.YtmhjpmenngjmeaaGreatDoor
open Go.RowKit Go.Sort Go.Shelf
set_option maxRecDepth 100000
theorem border_any (x y:Idl) (w:World) (hx:x.length = 32) (hy:y.length = 32) :
  Calls Tryz.prog 16 #[.agg (idC x).toArray,.agg (idC y).toArray] w fun e w' => e = .returned (.int .i64 (cmpL x y)) ∧ ∃ q os',w' = grow (w.drewN q) os':=by
 obtain ⟨W,hW⟩:∃ W,W = (w.alloc (.cells (idC x).toArray 27)).alloc (.cells (idC y).toArray 27):=⟨_,rfl⟩
 have hrx:W.rangeAt w.heap.size 0 (idC x):=by
  rw [hW];exact rangeAt_below (w:=w.alloc (.cells (idC x).toArray 27)) (fun j u hu => by rw [World.cell?_alloc_new,Nat.zero_add];simpa using hu) ((Below.refl _ _).alloc (Nat.le_refl _) _) (by simp)
 have hry:W.rangeAt (w.heap.size + 1) 0 (idC y):=by
  rw [hW]
  have:(w.alloc (.cells (idC x).toArray 27)).heap.size = w.heap.size + 1:=by simp
  rw [← this]
  exact fun j u hu => by rw [World.cell?_alloc_new,Nat.zero_add];simpa using hu
 have HC:=Lib.hid (fun k => (bcompare_any (W.drewN k) x y w.heap.size 0 (w.heap.size + 1) 0 hx hy hrx hry).mono fun _ _ h => And.intro h.1 h.2.symm)
 have HG:Hid (∀ k,∃ q os',W.drewN k = grow (w.drewN q) os'):=Lib.hid (fun k => ⟨k,#[.cells (idC x).toArray 27,.cells (idC y).toArray 27],by rw [hW,alloc_eq_grow,alloc_eq_grow,grow_grow];rfl⟩)
 generalize cmpL x y = c at HC
 clear hrx hry
 generalize idC x = ux at hW HG
 generalize idC y = uy at hW HG
 go_enter Tryz.func16,Tryz.ntmps16
 go_wp2
 rw [← hW]
 clear hW
 go_quiet ((go_at_call 17;exact Calls.quiet_of_same (HC.out _)))
 go_wp2
 go_ret
 exact ⟨rfl,HG.out _⟩
theorem bsort_any (B:Nat) (q:Value) (l:List Idl) (w:World) (hq:OwnQ w B 32 q l.length (idsF l)) (hl:∀ x ∈ l,x.length = 32) (hnd:l.Nodup) (hn:l.length ≤ 1000000) :
  Calls Tryz.prog 15 #[q,.func (.func 16) #[] #[]] w fun e w' => e = .returned (.tuple #[]) ∧ ∃ m:List Idl,m.Perm l ∧ AscL m ∧ OwnQ w' B 32 q l.length (idsF m) ∧ w.grownBy w' q.ownBlock:=by
 by_cases h0:l.length = 0
 ·obtain rfl:l = []:=List.eq_nil_of_length_eq_zero h0
  obtain ⟨p,cap,rfl⟩:∃ p cap,q = .slice p 0 cap:=by
   rcases hq.2 with ⟨rfl,_⟩ | ⟨g,off,cap,rfl,_⟩
   ·exact ⟨none,0,rfl⟩
   ·exact ⟨_,_,rfl⟩
  have hn0:=AnyF.slices_SortFunc_none (P:=Tryz.prog) (ρ:=Tryz.sortI_ren) { Tryz.sortI with } p cap (.func (.func 16) #[] #[]) w
  change Calls Tryz.prog 15 _ _ _ at hn0
  refine hn0.mono ?_
  rintro e w' ⟨he,rfl⟩
  exact ⟨he,[],List.Perm.refl _,List.Pairwise.nil,hq,World.grownBy.refl _ _⟩
 ·rcases hq.2 with ⟨_,hz⟩ | ⟨g,off,cap,rfl,hB,hg,hnc,hcm,hth,hr⟩
  ·exact absurd hz h0
  ·obtain ⟨d,hd⟩:∃ d:Array J32,rawJ d = l:=⟨(l.attach.map fun x => (⟨x.1,hl x.1 x.2⟩:J32)).toArray,by simp [rawJ]⟩
   have hds:d.size = l.length:=by rw [← hd,rawJ_len]
   have hH:HoldsK encJ 32 w g off d:=holdsJ hds hnc hth (by rw [hd];exact hr)
   have eg:∀ args w,(callFunc 16 args).run Tryz.prog w = .ok (.enter 16 args) w:=enters_of Tryz.func16 (by kernel_rfl) rfl
   have hS:=AnyQ.slices_SortFunc Tryz.sortI 32 (fun w => by kernel_rfl) (fun w => by kernel_rfl) encJ encJ_len encJ_one cfJ swoJ 16 #[] g off cap d w eg
    (fun m os dk _ x y => border_any x.1 y.1 _ x.2 y.2) hH hg (by omega)
   rw [hds] at hS
   change Calls Tryz.prog 15 _ _ _ at hS
   refine hS.mono ?_
   rintro e w' ⟨he,d',nq,os,hp,hs,hw'⟩
   rw [← hds] at hp hs
   obtain ⟨hsz,_,hperm⟩:=hp
   have e1:d'.extract 0 d.size = d':=by rw [← hsz];exact Array.extract_size
   rw [e1,Array.extract_size] at hperm
   have hpl:(rawJ d').Perm l:=by rw [← hd];exact hperm.map _
   refine ⟨he,rawJ d',hpl,?_,?_,by rw [hw'];exact grownBy_sortedJ d'⟩
   ·have hnd':(rawJ d').Nodup:=hpl.nodup_iff.2 hnd
    have hpw:(rawJ d').Pairwise fun x y => ltB y x = false:=by
     rw [List.pairwise_iff_getElem]
     intro i j hi hj hij
     rw [rawJ_len] at hi hj
     have h:=hs i j (Nat.zero_le _) hij (by rw [← hsz];exact hj)
     rw [ltJ] at h
     rw [rawJ_get d' i hi,rawJ_get d' j hj]
     exact h
    exact (hpw.and hnd').imp fun {x y} ⟨h1,h2⟩ => by
     cases h:ltB x y with
     | true => rfl
     | false => exact absurd (ltB_total h h1) h2
   ·obtain ⟨cur,e2,fr,hcur⟩:∃ cur e fr,w.heap[g]? = some (.cells cur e fr):=by
     have h1:=(hth 0 (by omega)).1
     obtain ⟨u,hu⟩:=Option.isSome_iff_exists.1 h1
     exact cells_of_cell hu
    have hcur':=heap_sortedJ (off:=off) (n:=nq) (os:=os) d' hcur
    rw [← hw'] at hcur'
    have hml:(rawJ d').length = l.length:=hpl.length_eq
    have hd's:d'.size = l.length:=by rw [← hml,rawJ_len]
    refine ⟨by rw [idsF_len _ (rawJ_32 d'),hml],.inr ⟨g,off,cap,rfl,hB,by rw [hw'];exact Nat.lt_of_lt_of_le hg (grownBy_sortedJ (off:=off) (n:=nq) (os:=os) d').size,hnc,hcm,fun j hj => ?_,fun j u hu => ?_⟩⟩
    ·have h1:=hth j hj
     rw [cell_block hcur,frozen_block hcur] at h1
     rw [cell_block hcur',frozen_block hcur']
     refine ⟨?_,h1.2⟩
     obtain ⟨u,hu⟩:=Option.isSome_iff_exists.1 h1.1
     have:=(Array.getElem?_eq_some_iff.1 hu).1
     simp [putCells,this]
    ·have hj:j < d'.size * 32:=by
      have:=(List.getElem?_eq_some_iff.1 hu).1
      rw [idsF_len _ (rawJ_32 d'),rawJ_len] at this
      exact this
     rw [flat_idsF d' j hj] at hu
     rw [cell_block hcur']
     have h1:=(hth j (by omega)).1
     rw [cell_block hcur] at h1
     obtain ⟨v,hv⟩:=Option.isSome_iff_exists.1 h1
     have hlt:=(Array.getElem?_eq_some_iff.1 hv).1
     rw [← hu]
     simp [putCells,hlt,hj]
end Go.Proofs.YtmhjpmenngjmeaaGreatDoor
