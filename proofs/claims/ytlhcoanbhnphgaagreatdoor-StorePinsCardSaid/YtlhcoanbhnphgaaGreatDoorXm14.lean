/- A part of this claim. -/
import Derived.Test.YtlhcoanbhnphgaaGreatDoorShelf2
import Derived.Test.YtlhcoanbhnphgaaGreatDoorXm11
namespace Go.Proofs.YtlhcoanbhnphgaaGreatDoor
open Tryz
set_option maxHeartbeats 64000000
set_option maxRecDepth 100000
set_option linter.all false
section
open Go.RowKit Go.Shelf Go.Lib
theorem NW (w:World):PredAt prog 308 #[] encR kQ w:=fun W r _=>by
 unfold FnGives
 by_cases h1:r<33<;>by_cases a:126<r<;>by_cases b:r=47
 all_goals
  have f:decide ((r:Int)<33)=decide (r<33):=by rw [decide_eq_decide];omega
  have d:decide ((126:Int)<r)=decide (126<r):=by rw [decide_eq_decide];omega
  have e:((r:Int)==47)=decide (r=47):=by by_cases h:r=47<;>simp [h]<;>omega
  go_enter func308,ntmps308
  go_wp2
  all_goals first|(exfalso;omega)|(go_ret;exact ⟨by simp [kQ,h1,a,b],0,rfl⟩)
theorem JC (s:ByteArray) (w:World) (n:s.size≤1000000000) :
  Calls prog 298 #[.string s] w fun e w'=>e= .returned (.bool (aN s))∧Below w.heap.size w w':=by
 have g:=ah (fun W=>Any.strings_ContainsFunc Tryz.laysGw17 308 #[] (enters_of func308 (by kernel_rfl) rfl) kQ s W (NW W))
 have a:=l6 s
 by_cases k:s.size=0
 ·obtain rfl:s=⟨#[]⟩:=by
   cases s with
   | mk d=>have:d= #[]:=Array.size_eq_zero_iff.1 k;rw [this]
  clear g a
  have f:Hid (aN ⟨#[]⟩=false):=ah (by decide)
  go_enter func298,ntmps298
  go_wp2
  go_ret
  exact ⟨aK f.out.symm,Below.refl _ _⟩
 have j:s.toList≠[]:=fun h=>k (by have:=congrArg List.length h;rw [Lib.toList_data] at this;simpa using this)
 have p:(!s.toList.isEmpty)=true:=by simpa using j
 have o:s.toList.isEmpty=false:=by simpa using j
 by_cases m:s.size≤32
 ·have l:decide ((s.size:Int)≤32)=true:=decide_eq_true (by omega)
  have f:Hid (aN s= !decide (0≤Lib.idxFunc kQ true s)):=by
   unfold Hid aN;rw [a,decide_eq_true (show 1≤s.size∧s.size≤32 by omega)];simp
  generalize decide (0≤Lib.idxFunc kQ true s)=b at g f
  clear a
  go_enter func298,ntmps298
  go_wp2_with fail
  refine (g.out w).mono ?_
  rintro e w1 ⟨rfl,i⟩
  go_wp2
  go_ret
  exact ⟨aK f.out.symm,i⟩
 have l:decide ((s.size:Int)≤32)=false:=decide_eq_false (by omega)
 have f:Hid (aN s=false):=by unfold Hid aN;rw [decide_eq_false (fun h=>m h.2)];simp
 clear g a
 go_enter func298,ntmps298
 go_wp2
 go_ret
 exact ⟨aK f.out.symm,Below.refl _ _⟩
end
section
open Go.RowKit
theorem fT.QL {w:World} {v:Value} {l:List Ent} (h:fT w v l):∃a cap,v= .slice a l.length cap∧l.length≤maxLen∧(l≠[]→ ∃b off,a=some ⟨b,off,none⟩∧b<w.heap.size∧ ∀k (f:k<l.length),w.rangeAt b (off+k*34) (dz l[k])):=by
 obtain ⟨a,cap,rfl,hm,h⟩:=h
 rw [List.length_map] at hm ⊢
 refine ⟨a,cap,rfl,hm,fun d=> ?_⟩
 obtain ⟨b,off,e,i,g⟩:=h (by simpa using d)
 refine ⟨b,off,e,i,fun k f=> ?_⟩
 have:=g k (by simpa using f)
 rwa [List.getElem_map] at this
theorem Ej {w:World} {b o:Nat} {e:Ent} (h:w.rangeAt b o (dz e)):w.cell? ⟨b,o,none⟩=some (.string e.name)∧w.cell? ⟨b,o+1,none⟩=some (.int .i64 (e.kind:Int)):=⟨h 0 _ rfl,h 1 _ rfl⟩
theorem BR (v:Value) (l:List Ent) (w:World) (hv:fT w v l) (hz:∀e∈l,e.name.size≤1000000∧e.kind≤2∧e.id.length=32) :
  Calls prog 276 #[v] w fun e w'=>e= .returned (.bool (eZ l))∧Below w.heap.size w w':=by
 obtain ⟨ao,cap,rfl,ad,hv⟩:=hv.QL
 unfold maxLen at ad
 obtain ⟨zs,i0,hi,aq,ai,ap,aE,an,ag⟩:=yH
 have am:=ah ag
 have HZ:=ah hz
 have HV:=ah hv
 clear hv hz an ag aq ap
 go_enter func276,ntmps276
 go_wp2
 go_loopw [7] (fun i wr=> ∃k:Nat,k≤l.length∧i= .int .i64 k∧Hid (∀j,j<k→rowOk l j=true)∧Below w.heap.size w wr) (fun i _=>(l.length-intOf i).toNat)
 case atStart=>exact ⟨0,by omega,rfl,(fun j hj=>absurd hj (by omega)),Below.refl _ _⟩
 obtain ⟨m,rfl⟩:∃m:World,m=wr:=⟨_,rfl⟩
 obtain ⟨k,hk,rfl,A,hb⟩:=hrel
 by_cases p:k<l.length
 ·obtain ⟨b,off,rfl,al,u⟩:=HV.out (by intro e;rw [e] at p;simp at p)
  have f1:=ay (u k p) hb al
  have ar:b<m.heap.size:=by have:=hb.size;omega
  have O:=ah (fun (h0:0<k)=>(Ej (ay (u (k-1) (by omega)) hb al)).1)
  obtain ⟨D,C,s⟩:=HZ.out l[k] (List.getElem_mem p)
  have I:=ah (fun w=>JC l[k].name w (by omega))
  have g:=ah (wI l k p)
  have HE:=ah (Ad l k p)
  have K:=ah (fun (h0:k=0) (t:dS l[k]=true)=>by subst h0;exact ug l p t:∀(h0:k=0) (t:dS l[k]=true),rowOk l k=true)
  have M:=ah (fun (h0:0<k) (t:dS l[k]=true)=>wY l k p h0 t)
  have k0:(0:Int)≤k:=by omega
  have k1:(k:Int)<l.length:=by omega
  have U:Hid (0<k→(l[k-1]'(by omega)).name.size≤1000000):=ah (fun h0=>(HZ.out _ (List.getElem_mem (by omega))).1)
  clear u
  have N:(dz l[k]).length=34:=by simp [dz,av,s]
  have H:(prog.info? 217).map (·.size)=some (dz l[k]).length:=by rw [N,hi];exact congrArg some ai
  have q:(prog.info? 217).map (·.size)=some 34:=by rw [hi];exact congrArg some ai
  have R:=rD l[k]
  have Z:(m.alloc (.cells zs 217)).there m.heap.size 0 34:=by
   rw [am.out]
   have:=(Arr.ofList m ((List.range 34).map vw) 217).there
   rw [List.length_map,List.length_range] at this
   exact this
  have af:=World.rangeAt_setCells_same (m.alloc (.cells zs 217)) m.heap.size 0 (dz l[k]) (by rw [N];exact Z)
  have d:=below_setCells (B:=m.heap.size) (a:=m) m.heap.size (Nat.le_refl _) (dz l[k]) 0 _ ((Below.refl _ _).alloc (Nat.le_refl _) (.cells zs 217))
  obtain ⟨c1,c2⟩:=Ej af
  rw [Nat.zero_add] at c2
  obtain ⟨us,ab⟩:∃us,us=dz l[k]:=⟨_,rfl⟩
  rw [←ab] at N H R d c1 c2 f1
  clear af
  have ax:=ah ab
  clear ab
  obtain ⟨W,hW⟩:∃W,(m.alloc (.cells zs 217)).setCells m.heap.size 0 us=W:=⟨_,rfl⟩
  rw [hW] at d c1 c2
  have aw:m.heap.size<W.heap.size:=World.block_lt_of_cell? W ⟨m.heap.size,0,none⟩ c1
  have HW:=ah hW
  have L:=ah Z
  have J:=ah N
  have P:=ah R
  have F1:=ah f1
  clear Z N R f1 hW
  have T:=ah A
  by_cases S:aN l[k].name=true
  ·by_cases r:l[k].kind=1∨l[k].kind=2
   ·have t:dS l[k]=true:=by unfold dS;rw [S,decide_eq_true (by omega)];rfl
    have e1:(((l[k].kind:Nat):Int) != 1)=decide (l[k].kind≠1):=by rcases r with h|h<;>rw [h]<;>rfl
    have e2:(((l[k].kind:Nat):Int) != 2)=decide (l[k].kind≠2):=by rcases r with h|h<;>rw [h]<;>rfl
    rw [S] at I
    rcases Nat.eq_zero_or_pos k with Q|Q
    ·have j5:decide ((0:Int)<k)=false:=decide_eq_false (by omega)
     have j6:decide (0<k)=false:=decide_eq_false (by omega)
     have G:=ah (K.out Q t)
     clear S t g HE M K O U D C s A Q
     generalize l[k].name=x at c1 I
     generalize l[k].kind=y at c2 e1 e2 r
     rcases r with rfl|rfl
     all_goals
      simp only [ne_eq,Nat.reduceEqDiff,not_true,not_false_eq_true,decide_true,decide_false] at e1 e2
      go_wp2_with (first|(refine wpList_load_mid rfl 217 _ rfl b (off+k*34) rfl us _ F1.out underlying217 rfl H ?_)|(refine aj rfl 217 _ _ rfl m.heap.size 0 us rfl rfl 34 J.out L.out q P.out ?_))
      simp only [Act.put]
      rw [HW.out]
      refine wbq ?_
      have n:=blq c1
      have o:=blq c2
      repeat (go_big_quiet_step ((go_at_call 298;with_reducible exact aA (I.out _))))
      refine wpQuiet_nil ?_
      intro wq f
      clear n o
      have V:=ah (hb.trans (d.trans (f.mono d.size) |>.mono hb.size))
      clear hb f d c1 c2
      go_wp2
      go_roundw
      case rel=>exact ⟨k+1,by omega,by go_num,fun j hj=>by
       rcases Nat.lt_or_ge j k with h|h
       ·exact T.out j h
       obtain rfl:j=k:=by omega
       exact G.out,V.out⟩
      case measure=>simp [intOf];omega
    have ae:=O.out Q
    have HX:=ah (M.out Q t)
    have cp:=au ae d ar
    have j1:IntKind.i64.wrap ((k:Int)-1)=(k:Int)-1:=IntWalk.i64_in _ (by omega)
    have j2:((k:Int)-1).toNat=k-1:=by omega
    have j3:(0:Int)≤(k:Int)-1:=by omega
    have j4:(k:Int)-1<l.length:=by omega
    have j5:decide ((0:Int)<k)=true:=decide_eq_true (by omega)
    have j6:decide (0<k)=true:=decide_eq_true (by omega)
    have j7:(1:Int)≤k:=by omega
    have az:b<W.heap.size:=by omega
    have E:=rP l[k-1].name l[k].name
    have ac:=ah g.out
    clear S t g HE M K O U D C s A ae
    generalize l[k].name=x at c1 I E HX
    generalize l[k].kind=y at c2 e1 e2 r
    generalize l[k-1].name=z at cp E HX
    cases F:ltB z.data.toList x.data.toList with
    | true =>
     have G:Hid (rowOk l k=true):=by unfold Hid;rw [HX.out,F]
     rw [F] at E
     clear F ac HX
     rcases r with rfl|rfl
     all_goals
      simp only [ne_eq,Nat.reduceEqDiff,not_true,not_false_eq_true,decide_true,decide_false] at e1 e2
      go_wp2_with (first|(refine wpList_load_mid rfl 217 _ rfl b (off+k*34) rfl us _ F1.out underlying217 rfl H ?_)|(refine aj rfl 217 _ _ rfl m.heap.size 0 us rfl rfl 34 J.out L.out q P.out ?_))
      simp only [Act.put]
      rw [HW.out]
      refine wbq ?_
      have n:=blq c1
      have o:=blq c2
      have Y:=blq cp
      repeat (go_big_quiet_step ((go_at_call 298;with_reducible exact aA (I.out _))))
      refine wpQuiet_nil ?_
      intro wq f
      clear n o Y
      have V:=ah (hb.trans (d.trans (f.mono d.size) |>.mono hb.size))
      clear hb f d c1 c2 cp
      go_wp2
      go_roundw
      case rel=>exact ⟨k+1,by omega,by go_num,fun j hj=>by
       rcases Nat.lt_or_ge j k with h|h
       ·exact T.out j h
       obtain rfl:j=k:=by omega
       exact G.out,V.out⟩
      case measure=>simp [intOf];omega
    | false =>
     have G:=ah (ac.out (by rw [HX.out,F]))
     rw [F] at E
     clear F ac HX
     rcases r with rfl|rfl
     all_goals
      simp only [ne_eq,Nat.reduceEqDiff,not_true,not_false_eq_true,decide_true,decide_false] at e1 e2
      go_wp2_with (first|(refine wpList_load_mid rfl 217 _ rfl b (off+k*34) rfl us _ F1.out underlying217 rfl H ?_)|(refine aj rfl 217 _ _ rfl m.heap.size 0 us rfl rfl 34 J.out L.out q P.out ?_))
      simp only [Act.put]
      rw [HW.out]
      refine wbq ?_
      have n:=blq c1
      have o:=blq c2
      have Y:=blq cp
      repeat (go_big_quiet_step ((go_at_call 298;with_reducible exact aA (I.out _))))
      refine wpQuiet_nil ?_
      intro wq f
      clear n o Y
      have V:=ah (hb.trans (d.trans (f.mono d.size) |>.mono hb.size))
      clear hb f d c1 c2 cp
      go_wp2
      go_ret
      exact ⟨aK G.out.symm,V.out⟩
   have t:dS l[k]=false:=by unfold dS;rw [S,decide_eq_false (by omega)];rfl
   have G:=ah (g.out (HE.out t))
   rw [S] at I
   have e1:(((l[k].kind:Nat):Int) != 1)=true:=by rw [bne_iff_ne];omega
   have e2:(((l[k].kind:Nat):Int) != 2)=true:=by rw [bne_iff_ne];omega
   clear S r t g HE M K O U D C s A
   generalize l[k].name=x at c1 I
   generalize l[k].kind=y at c2 e1 e2
   go_wp2_with (first|(refine wpList_load_mid rfl 217 _ rfl b (off+k*34) rfl us _ F1.out underlying217 rfl H ?_)|(refine aj rfl 217 _ _ rfl m.heap.size 0 us rfl rfl 34 J.out L.out q P.out ?_))
   simp only [Act.put]
   rw [HW.out]
   refine wbq ?_
   have n:=blq c1
   have o:=blq c2
   repeat (go_big_quiet_step ((go_at_call 298;with_reducible exact aA (I.out _))))
   refine wpQuiet_nil ?_
   intro wq f
   clear n o
   have V:=ah (hb.trans (d.trans (f.mono d.size) |>.mono hb.size))
   clear hb f d c1 c2
   go_wp2
   go_ret
   exact ⟨aK G.out.symm,V.out⟩
  have aa:aN l[k].name=false:=by simpa using S
  have t:dS l[k]=false:=by unfold dS;rw [aa];rfl
  have G:=ah (g.out (HE.out t))
  rw [aa] at I
  clear S aa t g HE M K O U D C s A
  generalize l[k].name=x at c1 I
  generalize l[k].kind=y at c2
  go_wp2_with (first|(refine wpList_load_mid rfl 217 _ rfl b (off+k*34) rfl us _ F1.out underlying217 rfl H ?_)|(refine aj rfl 217 _ _ rfl m.heap.size 0 us rfl rfl 34 J.out L.out q P.out ?_))
  simp only [Act.put]
  rw [HW.out]
  refine wbq ?_
  have n:=blq c1
  have o:=blq c2
  repeat (go_big_quiet_step ((go_at_call 298;with_reducible exact aA (I.out _))))
  refine wpQuiet_nil ?_
  intro wq f
  clear n o
  have V:=ah (hb.trans (d.trans (f.mono d.size) |>.mono hb.size))
  clear hb f d c1 c2
  go_wp2
  go_ret
  exact ⟨aK G.out.symm,V.out⟩
 obtain rfl:k=l.length:=by omega
 have T:=ah A
 clear A
 by_cases X:l.length≤32
 ·have G:Hid (eZ l=true):=by
   unfold Hid
   rw [gW,decide_eq_true X,Bool.and_true,List.all_eq_true]
   exact fun j hj=>T.out j (List.mem_range.1 hj)
  have d1:decide ((l.length:Int)≤32)=true:=decide_eq_true (by omega)
  clear X
  go_wp2
  go_ret
  exact ⟨aK G.out.symm,hb⟩
 have G:Hid (eZ l=false):=by unfold Hid;rw [gW,decide_eq_false X,Bool.and_false]
 have d1:decide ((l.length:Int)≤32)=false:=decide_eq_false (by omega)
 clear X
 go_wp2
 go_ret
 exact ⟨aK G.out.symm,hb⟩
end
section
open Go.RowKit Go.Shelf Go.Lib
abbrev GN:={x:List UInt8 // x.length=32}
instance:Inhabited GN:=⟨⟨List.replicate 32 0,by simp⟩⟩
theorem Qp:EqlAt prog 42 (fun x:GN=> .agg (idC x.1).toArray) (fun x y=>x.1==y.1):=by
 refine ⟨fun x y w=> ?_,GuardAt.agg _ (by kernel_rfl)⟩
 rw [run_eql_struct,gM x.1 y.1 x.2 y.2 w]
 rfl
theorem Eu (b off n c:Nat) (l:List (List UInt8)) (x:List UInt8) (w:World) (q:n≤l.length) (hb:n≤1000000) (d:∀y∈l,y.length=32) (hx:x.length=32) (p:∀k (t:k<l.length),w.rangeAt b (off+k*32) (idC l[k])) :
  Calls prog 221 #[.slice (some ⟨b,off,none⟩) n c,.agg (idC x).toArray] w fun e w'=>e= .returned (.bool (decide (x∈l.take n)))∧Below w.heap.size w w':=by
 have a:(l.pmap (fun y h=>(⟨y,h⟩:GN)) d).length=l.length:=List.length_pmap
 have H:=AnyQ.slices_Contains (α:=GN) Tryz.containsQ 32 Tryz.isAgg42 Tryz.sizeOf42 (fun y=>idC y.1) (fun y=>by rw [av,y.2]) (fun x y=>x.1==y.1) Qp b off n c (l.pmap (fun y h=>(⟨y,h⟩:GN)) d) ⟨x,hx⟩ w (by rw [a];exact q) (by omega) (fun j m i v hi=>by
  rw [a] at m
  have g:j<(l.pmap (fun y h=>(⟨y,h⟩:GN)) d).length:=by rw [a];exact m
  rw [getElem!_pos (l.pmap (fun y h=>(⟨y,h⟩:GN)) d) j g,List.getElem_pmap] at hi
  exact p j m i v hi)
 refine H.mono ?_
 rintro e w' ⟨rfl,o⟩
 refine ⟨?_,o⟩
 congr 2
 rw [Bool.eq_iff_iff]
 simp only [List.any_eq_true,decide_eq_true_eq,beq_iff_eq]
 constructor
 ·rintro ⟨y,hy,rfl⟩
  have:=List.mem_map_of_mem (f:=Subtype.val) hy
  rw [List.map_take,List.map_pmap] at this
  simpa using this
 intro h
 have s:x∈l:=List.mem_of_mem_take h
 refine ⟨⟨x,hx⟩,?_,rfl⟩
 obtain ⟨i,hi,e⟩:=List.getElem_of_mem h
 rw [List.getElem_take] at e
 have r:i<n∧i<l.length:=by rw [List.length_take] at hi;omega
 rw [List.mem_iff_getElem]
 refine ⟨i,by rw [List.length_take,a];omega,?_⟩
 rw [List.getElem_take,List.getElem_pmap]
 exact Subtype.ext e
def zk (v:Value):Prop:=∀a n c,v= .slice a n c→n≤c
theorem DJ (t:List UInt8) (v:Value) (l:List (List UInt8)) (x:ByteArray) (w:World) (hv:dF w v l) (ht:t.length=32) (hl:∀y∈l,y.length=32) (hn:l.length≤1000) (S:zk v) :
  Calls prog 277 #[.agg (cmC t v x).toArray] w fun e w'=>e= .returned (.bool (bH (t,l,x)))∧Below w.heap.size w w':=by
 obtain ⟨G,cap,rfl,ai,hv⟩:=hv.open
 unfold maxLen at ai
 have a2:=S _ _ _ rfl
 clear S
 have HV:=ah hv
 have HL:=ah hl
 have hA:=vQ w ht (.slice G l.length cap) x 141
 have ae:Below w.heap.size w (w.alloc (.cells (cmC t (.slice G l.length cap) x).toArray 141)):=bal
 have A:=ah ae
 have hp:Hid ((w.alloc (.cells (cmC t (.slice G l.length cap) x).toArray 141)).cell? ⟨w.heap.size,32,none⟩=some (.slice G l.length cap)):=by
  unfold Hid;rw [hA.cell 32 (by omega),kP ht]
 have hx:Hid ((w.alloc (.cells (cmC t (.slice G l.length cap) x).toArray 141)).cell? ⟨w.heap.size,33,none⟩=some (.string x)):=by
  unfold Hid;rw [hA.cell 33 (by omega),tJ ht]
 have o:w.heap.size<(w.alloc (.cells (cmC t (.slice G l.length cap) x).toArray 141)).heap.size:=by simp
 have al:(cmC t (.slice G l.length cap) x)[32]? = some (.slice G l.length cap):=by
  have:=hp.out;rw [World.cell?_alloc_new] at this;simpa using this
 have ag:(cmC t (.slice G l.length cap) x)[33]? = some (.string x):=by
  have:=hx.out;rw [World.cell?_alloc_new] at this;simpa using this
 obtain ⟨zi,i0,hi,az,a3,ar,aE,R⟩:=eu
 have ax:=ah R
 have HC:Hid (bH (t,l,x)=(decide l.Nodup&&decide (l.length≤4∧x.size≤64))):=ah rfl
 obtain ⟨cs,af⟩:∃cs,cs=cmC t (.slice G l.length cap) x:=⟨_,rfl⟩
 rw [←af] at hp hx A o al ag ⊢
 clear af hv hl hA ae R az ar
 go_enter func277,ntmps277
 go_wp2_with fail
 obtain ⟨W,hW⟩:∃W,W=w.alloc (.cells cs.toArray 141):=⟨_,rfl⟩
 rw [←hW] at hp hx A o ⊢
 clear hW al ag
 go_loopw [8] (fun i wr=> ∃k:Nat,k≤l.length∧i= .int .i64 k∧Hid ((l.take k).Nodup)∧Below W.heap.size W wr) (fun i _=>(l.length-intOf i).toNat)
 case atStart=>exact ⟨0,by omega,rfl,ah (show (List.take 0 l).Nodup by simp),Below.refl _ _⟩
 obtain ⟨f,rfl⟩:∃f:World,f=wr:=⟨_,rfl⟩
 obtain ⟨k,hk,rfl,M,hb⟩:=hrel
 have p1:=au hp.out hb o
 have x1:=au hx.out hb o
 have aq:w.heap.size<f.heap.size:=by have:=hb.size;omega
 by_cases p:k<l.length
 ·obtain ⟨b,off,rfl,am,g⟩:=HV.out (by intro e;rw [e] at p;simp at p)
  have U:=bth A hb
  have a4:b<f.heap.size:=by omega
  have f1:=ay (g k p) U.out am
  have L:l[k].length=32:=HL.out _ (List.getElem_mem p)
  have E:(idC l[k]).length=32:=by rw [av,L]
  have n:(prog.info? 42).map (·.size)=some (idC l[k]).length:=by rw [E];kernel_rfl
  have Q:(prog.info? 42).map (·.size)=some 32:=by kernel_rfl
  have X:(f.alloc (.cells zi 42)).there f.heap.size 0 32:=by
   have:=(Arr.ofList f zi.toList 42).there
   rw [Array.length_toList,ax.out] at this
   exact this
  have d:=World.rangeAt_setCells_same (f.alloc (.cells zi 42)) f.heap.size 0 (idC l[k]) (by rw [E];exact X)
  have ad:=below_setCells (B:=f.heap.size) (a:=f) f.heap.size (Nat.le_refl _) (idC l[k]) 0 _ ((Below.refl _ _).alloc (Nat.le_refl _) (.cells zi 42))
  have ac:=ah (fun V (ap:Below w.heap.size w V)=>Eu b off k cap l l[k] V (by omega) (by omega) HL.out L (fun j hj=>ay (g j hj) ap am))
  have F:=aJ l[k]
  have J:Hid (l[k]∉l.take k→(l.take (k+1)).Nodup):=ah (fun an=>wL p M.out (fun j hj e=>an (by rw [←e];exact List.mem_take_iff_getElem.2 ⟨j,by omega,rfl⟩)))
  have H:Hid (l[k]∈l.take k→ ¬l.Nodup):=ah (fun hi=>by
   obtain ⟨j,hj,e⟩:=List.mem_take_iff_getElem.1 hi
   exact Aq (by omega) p e)
  generalize l[k]=z at f1 L E n d ad ac F J H
  have k0:(0:Int)≤k:=by omega
  have k1:(k:Int)<l.length:=by omega
  have k2:(k:Int)≤cap:=by omega
  have k3:k≤cap:=by omega
  have K:=ah X
  have s:=ah E
  have N:=ah F
  have F1:=ah f1
  have D:=ah d
  have r:=ah ad
  clear X E F f1 d ad g L
  obtain ⟨W3,Y⟩:∃W3,(f.alloc (.cells zi 42)).setCells f.heap.size 0 (idC z)=W3:=⟨_,rfl⟩
  rw [Y] at D r
  have a1:=r.out.size
  have a0:f.heap.size<W3.heap.size:=World.block_lt_of_cell? W3 ⟨f.heap.size,0,none⟩ (D.out 0 ((idC z)[0]'(by rw [s.out];omega)) (by simp))
  have p3:=au p1 r.out aq
  have u:=ah (U.out.trans (r.out.mono U.out.size))
  have P:=ah (fun y:BW W3.heap.size W3=>ac.out y.out (u.out.trans (y.hb.mono u.out.size)))
  have O:=ah Y
  have d:=D.out
  clear Y ac p1
  by_cases q:z∈l.take k
  ·have Z:Hid (bH (t,l,x)=false):=by unfold Hid;rw [HC.out,decide_eq_false (H.out q)];rfl
   rw [decide_eq_true q] at P
   clear q J H
   generalize aa:idC z=us at n K s N F1 O P d
   clear aa D
   go_wp2_with (first|(refine wpList_load_mid rfl 42 _ rfl b (off+k*32) rfl us _ F1.out underlying42 rfl n ?_)|(refine aj rfl 42 _ _ rfl f.heap.size 0 us rfl rfl 32 s.out K.out Q N.out ?_))
   simp only [Act.put]
   rw [O.out]
   refine wbq ?_
   have T:=blq p3
   repeat (go_big_quiet_step ((go_at_call 221;with_reducible exact aA (P.out _))))
   refine aY 42 _ _ rfl rfl rfl d (by omega) underlying42 rfl n ?_
   simp only [Act.put,nz]
   repeat (go_big_quiet_step ((go_at_call 221;with_reducible exact aA (P.out _))))
   refine wpQuiet_nil ?_
   intro wq C
   clear T
   have m:=bth u C
   clear C p3 d
   go_wp2
   go_ret
   exact ⟨aK Z.out.symm,m.out⟩
  have aw:=ah (J.out q)
  rw [decide_eq_false q] at P
  clear q J H
  generalize aa:idC z=us at n K s N F1 O P d
  clear aa D
  go_wp2_with (first|(refine wpList_load_mid rfl 42 _ rfl b (off+k*32) rfl us _ F1.out underlying42 rfl n ?_)|(refine aj rfl 42 _ _ rfl f.heap.size 0 us rfl rfl 32 s.out K.out Q N.out ?_))
  simp only [Act.put]
  rw [O.out]
  refine wbq ?_
  have T:=blq p3
  repeat (go_big_quiet_step ((go_at_call 221;with_reducible exact aA (P.out _))))
  refine aY 42 _ _ rfl rfl rfl d (by omega) underlying42 rfl n ?_
  simp only [Act.put,nz]
  repeat (go_big_quiet_step ((go_at_call 221;with_reducible exact aA (P.out _))))
  refine wpQuiet_nil ?_
  intro wq C
  clear T
  have m:=ah (hb.trans ((r.out.trans (C.mono r.out.size)).mono hb.size))
  clear C p3 d
  go_wp2
  go_roundw
  case rel=>exact ⟨k+1,by omega,by go_num,aw,m.out⟩
  case measure=>simp [intOf];omega
 obtain rfl:k=l.length:=by omega
 rw [List.take_length] at M
 have m:=bth A hb
 have ab:Hid (bH (t,l,x)=decide (l.length≤4∧x.size≤64)):=by unfold Hid;rw [HC.out,decide_eq_true M.out,Bool.true_and]
 clear hb A M
 by_cases h4:l.length≤4
 ·have d4:decide ((l.length:Int)≤4)=true:=decide_eq_true (by omega)
  by_cases I:x.size≤64
  ·have d5:decide ((x.size:Int)≤64)=true:=decide_eq_true (by omega)
   have Z:Hid (bH (t,l,x)=true):=by unfold Hid;rw [ab.out];exact decide_eq_true ⟨h4,I⟩
   clear h4 I
   go_wp2
   go_ret
   exact ⟨aK Z.out.symm,m.out⟩
  have d5:decide ((x.size:Int)≤64)=false:=decide_eq_false (by omega)
  have Z:Hid (bH (t,l,x)=false):=by unfold Hid;rw [ab.out];exact decide_eq_false (fun h=>I h.2)
  clear h4 I
  go_wp2
  go_ret
  exact ⟨aK Z.out.symm,m.out⟩
 have d4:decide ((l.length:Int)≤4)=false:=decide_eq_false (by omega)
 have Z:Hid (bH (t,l,x)=false):=by unfold Hid;rw [ab.out];exact decide_eq_false (fun h=>h4 h.1)
 clear h4
 go_wp2
 go_ret
 exact ⟨aK Z.out.symm,m.out⟩
theorem KU (w:World):PredAt prog 232 #[] encR kQ w:=fun W r _=>by
 unfold FnGives
 by_cases h1:r<33<;>by_cases a:126<r<;>by_cases b:r=47
 all_goals
  have f:decide ((r:Int)<33)=decide (r<33):=by rw [decide_eq_decide];omega
  have d:decide ((126:Int)<r)=decide (126<r):=by rw [decide_eq_decide];omega
  have e:((r:Int)==47)=decide (r=47):=by by_cases h:r=47<;>simp [h]<;>omega
  go_enter func232,ntmps232
  go_wp2
  all_goals first|(exfalso;omega)|(go_ret;exact ⟨by simp [kQ,h1,a,b],0,rfl⟩)
theorem Ni:q9=iT:=by
 funext b
 unfold q9 iT
 first
  | rfl
  | (rw [Bool.eq_iff_iff];simp only [Bool.and_eq_true,decide_eq_true_iff,bne_iff_ne,ne_eq];omega)
theorem Ky (s:ByteArray) (w:World) (n:s.size≤1000000000) :
  Calls prog 187 #[.string s] w fun e w'=>e= .returned (.bool (aU s))∧Below w.heap.size w w':=by
 have g:=ah (fun W=>Any.strings_ContainsFunc Tryz.laysGw17 232 #[] (enters_of func232 (by kernel_rfl) rfl) kQ s W (KU W))
 have a:=l6 s
 by_cases l:s.size=0
 ·obtain rfl:s=⟨#[]⟩:=by
   cases s with
   | mk d=>have:d= #[]:=Array.size_eq_zero_iff.1 l;rw [this]
  clear g a
  have f:Hid (aU ⟨#[]⟩=false):=ah (by decide)
  go_enter func187,ntmps187
  go_wp2
  go_ret
  exact ⟨aK f.out.symm,Below.refl _ _⟩
 have k:s.toList≠[]:=fun h=>l (by have:=congrArg List.length h;rw [Lib.toList_data] at this;simpa using this)
 have p:(!s.toList.isEmpty)=true:=by simpa using k
 have o:s.toList.isEmpty=false:=by simpa using k
 by_cases j:s.size≤80
 ·have m:decide ((s.size:Int)≤80)=true:=decide_eq_true (by omega)
  have f:Hid (aU s= !decide (0≤Lib.idxFunc kQ true s)):=by
   unfold Hid aU;rw [a,Ni,decide_eq_true (show 1≤s.size by omega),decide_eq_true j];simp
  generalize decide (0≤Lib.idxFunc kQ true s)=b at g f
  clear a
  go_enter func187,ntmps187
  go_wp2_with fail
  refine (g.out w).mono ?_
  rintro e w1 ⟨rfl,i⟩
  go_wp2
  go_ret
  exact ⟨aK f.out.symm,i⟩
 have m:decide ((s.size:Int)≤80)=false:=decide_eq_false (by omega)
 have f:Hid (aU s=false):=by unfold Hid aU;rw [decide_eq_false j];simp
 clear g a
 go_enter func187,ntmps187
 go_wp2
 go_ret
 exact ⟨aK f.out.symm,Below.refl _ _⟩
end
end Go.Proofs.YtlhcoanbhnphgaaGreatDoor
