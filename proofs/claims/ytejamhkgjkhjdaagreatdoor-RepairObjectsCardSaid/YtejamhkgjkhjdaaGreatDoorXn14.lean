/- A part of this claim. -/
import Derived.Test.YtejamhkgjkhjdaaGreatDoorShelf2
import Derived.Test.YtejamhkgjkhjdaaGreatDoorXn10
namespace Go.Proofs.YtejamhkgjkhjdaaGreatDoor
open Tryz
set_option maxHeartbeats 64000000
set_option maxRecDepth 100000
set_option linter.all false
section
open Go.RowKit Go.Shelf Go.Lib
theorem KG (w:World):PredAt prog 298 #[] encR jv w:=fun W r _=>by
 unfold FnGives
 by_cases h1:r<33<;>by_cases a:126<r<;>by_cases b:r=47
 all_goals
  have d:decide ((r:Int)<33)=decide (r<33):=by rw [decide_eq_decide];omega
  have f:decide ((126:Int)<r)=decide (126<r):=by rw [decide_eq_decide];omega
  have e:((r:Int)==47)=decide (r=47):=by by_cases h:r=47<;>simp [h]<;>omega
  go_enter func298,ntmps298
  go_wp2
  all_goals first|(exfalso;omega)|(go_ret;exact ⟨by simp [jv,h1,a,b],0,rfl⟩)
theorem Gs (s:ByteArray) (w:World) (n:s.size≤1000000000) :
  Calls prog 265 #[.string s] w fun e w'=>e= .returned (.bool (aY s))∧Below w.heap.size w w':=by
 have g:=ah (fun W=>Any.strings_ContainsFunc Tryz.laysGw17 298 #[] (enters_of func298 (by kernel_rfl) rfl) jv s W (KG W))
 have a:=kr s
 by_cases j:s.size=0
 ·obtain rfl:s=⟨#[]⟩:=by
   cases s with
   | mk d=>have:d= #[]:=Array.size_eq_zero_iff.1 j;rw [this]
  clear g a
  have f:Hid (aY ⟨#[]⟩=false):=ah (by decide)
  go_enter func265,ntmps265
  go_wp2
  go_ret
  exact ⟨aI f.out.symm,Below.refl _ _⟩
 have k:s.toList≠[]:=fun h=>j (by have:=congrArg List.length h;rw [Lib.toList_data] at this;simpa using this)
 have p:(!s.toList.isEmpty)=true:=by simpa using k
 have o:s.toList.isEmpty=false:=by simpa using k
 by_cases m:s.size≤32
 ·have l:decide ((s.size:Int)≤32)=true:=decide_eq_true (by omega)
  have f:Hid (aY s= !decide (0≤Lib.idxFunc jv true s)):=by
   unfold Hid aY;rw [a,decide_eq_true (show 1≤s.size∧s.size≤32 by omega)];simp
  generalize decide (0≤Lib.idxFunc jv true s)=b at g f
  clear a
  go_enter func265,ntmps265
  go_wp2_with fail
  refine (g.out w).mono ?_
  rintro e w1 ⟨rfl,i⟩
  go_wp2
  go_ret
  exact ⟨aI f.out.symm,i⟩
 have l:decide ((s.size:Int)≤32)=false:=decide_eq_false (by omega)
 have f:Hid (aY s=false):=by unfold Hid aY;rw [decide_eq_false (fun h=>m h.2)];simp
 clear g a
 go_enter func265,ntmps265
 go_wp2
 go_ret
 exact ⟨aI f.out.symm,Below.refl _ _⟩
end
section
open Go.RowKit
theorem eG.Nh {w:World} {v:Value} {l:List Ent} (h:eG w v l):∃d a,v= .slice d l.length a∧l.length≤maxLen∧(l≠[]→ ∃b off,d=some ⟨b,off,none⟩∧b<w.heap.size∧ ∀k (g:k<l.length),w.rangeAt b (off+k*34) (bW l[k])):=by
 obtain ⟨d,a,rfl,hm,h⟩:=h
 rw [List.length_map] at hm ⊢
 refine ⟨d,a,rfl,hm,fun f=> ?_⟩
 obtain ⟨b,off,e,j,i⟩:=h (by simpa using f)
 refine ⟨b,off,e,j,fun k g=> ?_⟩
 have:=i k (by simpa using g)
 rwa [List.getElem_map] at this
theorem Bt {w:World} {b o:Nat} {e:Ent} (h:w.rangeAt b o (bW e)):w.cell? ⟨b,o,none⟩=some (.string e.name)∧w.cell? ⟨b,o+1,none⟩=some (.int .i64 (e.kind:Int)):=⟨h 0 _ rfl,h 1 _ rfl⟩
theorem yN (v:Value) (l:List Ent) (w:World) (hv:eG w v l) (hz:∀e∈l,e.name.size≤1000000∧e.kind≤2∧e.id.length=32) :
  Calls prog 223 #[v] w fun e w'=>e= .returned (.bool (dH l))∧Below w.heap.size w w':=by
 obtain ⟨ao,az,rfl,ad,hv⟩:=hv.Nh
 unfold maxLen at ad
 obtain ⟨zs,i0,hi,ap,ai,am,a0,an,ag⟩:=uN
 have aq:=ah ag
 have HZ:=ah hz
 have HV:=ah hv
 clear hv hz an ag ap am
 go_enter func223,ntmps223
 go_wp2
 go_loopw [7] (fun i wr=> ∃k:Nat,k≤l.length∧i= .int .i64 k∧Hid (∀j,j<k→rowOk l j=true)∧Below w.heap.size w wr) (fun i _=>(l.length-intOf i).toNat)
 case atStart=>exact ⟨0,by omega,rfl,(fun j hj=>absurd hj (by omega)),Below.refl _ _⟩
 obtain ⟨m,rfl⟩:∃m:World,m=wr:=⟨_,rfl⟩
 obtain ⟨k,hk,rfl,u,hb⟩:=hrel
 by_cases q:k<l.length
 ·obtain ⟨b,off,rfl,al,t⟩:=HV.out (by intro e;rw [e] at q;simp at q)
  have f1:=ay (t k q) hb al
  have ar:b<m.heap.size:=by have:=hb.size;omega
  have J:=ah (fun (h0:0<k)=>(Bt (ay (t (k-1) (by omega)) hb al)).1)
  obtain ⟨C,D,p⟩:=HZ.out l[k] (List.getElem_mem q)
  have I:=ah (fun w=>Gs l[k].name w (by omega))
  have g:=ah (sF l k q)
  have HE:=ah (wM l k q)
  have O:=ah (fun (h0:k=0) (A:bX l[k]=true)=>by subst h0;exact qz l q A:∀(h0:k=0) (A:bX l[k]=true),rowOk l k=true)
  have L:=ah (fun (h0:0<k) (A:bX l[k]=true)=>sN l k q h0 A)
  have k0:(0:Int)≤k:=by omega
  have k1:(k:Int)<l.length:=by omega
  have S:Hid (0<k→(l[k-1]'(by omega)).name.size≤1000000):=ah (fun h0=>(HZ.out _ (List.getElem_mem (by omega))).1)
  clear t
  have K:(bW l[k]).length=34:=by simp [bW,aA,p]
  have G:(prog.info? 228).map (·.size)=some (bW l[k]).length:=by rw [K,hi];exact congrArg some ai
  have r:(prog.info? 228).map (·.size)=some 34:=by rw [hi];exact congrArg some ai
  have Q:=oV l[k]
  have Y:(m.alloc (.cells zs 228)).there m.heap.size 0 34:=by
   rw [aq.out]
   have:=(Arr.ofList m ((List.range 34).map rC) 228).there
   rw [List.length_map,List.length_range] at this
   exact this
  have ae:=World.rangeAt_setCells_same (m.alloc (.cells zs 228)) m.heap.size 0 (bW l[k]) (by rw [K];exact Y)
  have d:=below_setCells (B:=m.heap.size) (a:=m) m.heap.size (Nat.le_refl _) (bW l[k]) 0 _ ((Below.refl _ _).alloc (Nat.le_refl _) (.cells zs 228))
  obtain ⟨c1,c2⟩:=Bt ae
  rw [Nat.zero_add] at c2
  obtain ⟨us,ac⟩:∃us,us=bW l[k]:=⟨_,rfl⟩
  rw [←ac] at K G Q d c1 c2 f1
  clear ae
  have ax:=ah ac
  clear ac
  obtain ⟨W,hW⟩:∃W,(m.alloc (.cells zs 228)).setCells m.heap.size 0 us=W:=⟨_,rfl⟩
  rw [hW] at d c1 c2
  have aw:m.heap.size<W.heap.size:=World.block_lt_of_cell? W ⟨m.heap.size,0,none⟩ c1
  have HW:=ah hW
  have N:=ah Y
  have P:=ah K
  have R:=ah Q
  have F1:=ah f1
  clear Y K Q f1 hW
  have U:=ah u
  by_cases T:aY l[k].name=true
  ·by_cases s:l[k].kind=1∨l[k].kind=2
   ·have A:bX l[k]=true:=by unfold bX;rw [T,decide_eq_true (by omega)];rfl
    have e1:(((l[k].kind:Nat):Int) != 1)=decide (l[k].kind≠1):=by rcases s with h|h<;>rw [h]<;>rfl
    have e2:(((l[k].kind:Nat):Int) != 2)=decide (l[k].kind≠2):=by rcases s with h|h<;>rw [h]<;>rfl
    rw [T] at I
    rcases Nat.eq_zero_or_pos k with M|M
    ·have j5:decide ((0:Int)<k)=false:=decide_eq_false (by omega)
     have j6:decide (0<k)=false:=decide_eq_false (by omega)
     have H:=ah (O.out M A)
     clear T A g HE L O J S C D p u M
     generalize l[k].name=x at c1 I
     generalize l[k].kind=y at c2 e1 e2 s
     rcases s with rfl|rfl
     all_goals
      simp only [ne_eq,Nat.reduceEqDiff,not_true,not_false_eq_true,decide_true,decide_false] at e1 e2
      go_wp2_with (first|(refine wpList_load_mid rfl 228 _ rfl b (off+k*34) rfl us _ F1.out underlying228 rfl G ?_)|(refine aj rfl 228 _ _ rfl m.heap.size 0 us rfl rfl 34 P.out N.out r R.out ?_))
      simp only [Act.put]
      rw [HW.out]
      refine wbq ?_
      have n:=blq c1
      have o:=blq c2
      repeat (go_big_quiet_step ((go_at_call 265;with_reducible exact aF (I.out _))))
      refine wpQuiet_nil ?_
      intro wq f
      clear n o
      have V:=ah (hb.trans (d.trans (f.mono d.size) |>.mono hb.size))
      clear hb f d c1 c2
      go_wp2
      go_roundw
      case rel=>exact ⟨k+1,by omega,by go_num,fun j hj=>by
       rcases Nat.lt_or_ge j k with h|h
       ·exact U.out j h
       obtain rfl:j=k:=by omega
       exact H.out,V.out⟩
      case measure=>simp [intOf];omega
    have af:=J.out M
    have HX:=ah (L.out M A)
    have cp:=au af d ar
    have j1:IntKind.i64.wrap ((k:Int)-1)=(k:Int)-1:=IntWalk.i64_in _ (by omega)
    have j2:((k:Int)-1).toNat=k-1:=by omega
    have j3:(0:Int)≤(k:Int)-1:=by omega
    have j4:(k:Int)-1<l.length:=by omega
    have j5:decide ((0:Int)<k)=true:=decide_eq_true (by omega)
    have j6:decide (0<k)=true:=decide_eq_true (by omega)
    have j7:(1:Int)≤k:=by omega
    have aE:b<W.heap.size:=by omega
    have E:=zu l[k-1].name l[k].name
    have aa:=ah g.out
    clear T A g HE L O J S C D p u af
    generalize l[k].name=x at c1 I E HX
    generalize l[k].kind=y at c2 e1 e2 s
    generalize l[k-1].name=z at cp E HX
    cases F:ltB z.data.toList x.data.toList with
    | true =>
     have H:Hid (rowOk l k=true):=by unfold Hid;rw [HX.out,F]
     rw [F] at E
     clear F aa HX
     rcases s with rfl|rfl
     all_goals
      simp only [ne_eq,Nat.reduceEqDiff,not_true,not_false_eq_true,decide_true,decide_false] at e1 e2
      go_wp2_with (first|(refine wpList_load_mid rfl 228 _ rfl b (off+k*34) rfl us _ F1.out underlying228 rfl G ?_)|(refine aj rfl 228 _ _ rfl m.heap.size 0 us rfl rfl 34 P.out N.out r R.out ?_))
      simp only [Act.put]
      rw [HW.out]
      refine wbq ?_
      have n:=blq c1
      have o:=blq c2
      have ab:=blq cp
      repeat (go_big_quiet_step ((go_at_call 265;with_reducible exact aF (I.out _))))
      refine wpQuiet_nil ?_
      intro wq f
      clear n o ab
      have V:=ah (hb.trans (d.trans (f.mono d.size) |>.mono hb.size))
      clear hb f d c1 c2 cp
      go_wp2
      go_roundw
      case rel=>exact ⟨k+1,by omega,by go_num,fun j hj=>by
       rcases Nat.lt_or_ge j k with h|h
       ·exact U.out j h
       obtain rfl:j=k:=by omega
       exact H.out,V.out⟩
      case measure=>simp [intOf];omega
    | false =>
     have H:=ah (aa.out (by rw [HX.out,F]))
     rw [F] at E
     clear F aa HX
     rcases s with rfl|rfl
     all_goals
      simp only [ne_eq,Nat.reduceEqDiff,not_true,not_false_eq_true,decide_true,decide_false] at e1 e2
      go_wp2_with (first|(refine wpList_load_mid rfl 228 _ rfl b (off+k*34) rfl us _ F1.out underlying228 rfl G ?_)|(refine aj rfl 228 _ _ rfl m.heap.size 0 us rfl rfl 34 P.out N.out r R.out ?_))
      simp only [Act.put]
      rw [HW.out]
      refine wbq ?_
      have n:=blq c1
      have o:=blq c2
      have ab:=blq cp
      repeat (go_big_quiet_step ((go_at_call 265;with_reducible exact aF (I.out _))))
      refine wpQuiet_nil ?_
      intro wq f
      clear n o ab
      have V:=ah (hb.trans (d.trans (f.mono d.size) |>.mono hb.size))
      clear hb f d c1 c2 cp
      go_wp2
      go_ret
      exact ⟨aI H.out.symm,V.out⟩
   have A:bX l[k]=false:=by unfold bX;rw [T,decide_eq_false (by omega)];rfl
   have H:=ah (g.out (HE.out A))
   rw [T] at I
   have e1:(((l[k].kind:Nat):Int) != 1)=true:=by rw [bne_iff_ne];omega
   have e2:(((l[k].kind:Nat):Int) != 2)=true:=by rw [bne_iff_ne];omega
   clear T s A g HE L O J S C D p u
   generalize l[k].name=x at c1 I
   generalize l[k].kind=y at c2 e1 e2
   go_wp2_with (first|(refine wpList_load_mid rfl 228 _ rfl b (off+k*34) rfl us _ F1.out underlying228 rfl G ?_)|(refine aj rfl 228 _ _ rfl m.heap.size 0 us rfl rfl 34 P.out N.out r R.out ?_))
   simp only [Act.put]
   rw [HW.out]
   refine wbq ?_
   have n:=blq c1
   have o:=blq c2
   repeat (go_big_quiet_step ((go_at_call 265;with_reducible exact aF (I.out _))))
   refine wpQuiet_nil ?_
   intro wq f
   clear n o
   have V:=ah (hb.trans (d.trans (f.mono d.size) |>.mono hb.size))
   clear hb f d c1 c2
   go_wp2
   go_ret
   exact ⟨aI H.out.symm,V.out⟩
  have Z:aY l[k].name=false:=by simpa using T
  have A:bX l[k]=false:=by unfold bX;rw [Z];rfl
  have H:=ah (g.out (HE.out A))
  rw [Z] at I
  clear T Z A g HE L O J S C D p u
  generalize l[k].name=x at c1 I
  generalize l[k].kind=y at c2
  go_wp2_with (first|(refine wpList_load_mid rfl 228 _ rfl b (off+k*34) rfl us _ F1.out underlying228 rfl G ?_)|(refine aj rfl 228 _ _ rfl m.heap.size 0 us rfl rfl 34 P.out N.out r R.out ?_))
  simp only [Act.put]
  rw [HW.out]
  refine wbq ?_
  have n:=blq c1
  have o:=blq c2
  repeat (go_big_quiet_step ((go_at_call 265;with_reducible exact aF (I.out _))))
  refine wpQuiet_nil ?_
  intro wq f
  clear n o
  have V:=ah (hb.trans (d.trans (f.mono d.size) |>.mono hb.size))
  clear hb f d c1 c2
  go_wp2
  go_ret
  exact ⟨aI H.out.symm,V.out⟩
 obtain rfl:k=l.length:=by omega
 have U:=ah u
 clear u
 by_cases X:l.length≤32
 ·have H:Hid (dH l=true):=by
   unfold Hid
   rw [eP,decide_eq_true X,Bool.and_true,List.all_eq_true]
   exact fun j hj=>U.out j (List.mem_range.1 hj)
  have d1:decide ((l.length:Int)≤32)=true:=decide_eq_true (by omega)
  clear X
  go_wp2
  go_ret
  exact ⟨aI H.out.symm,hb⟩
 have H:Hid (dH l=false):=by unfold Hid;rw [eP,decide_eq_false X,Bool.and_false]
 have d1:decide ((l.length:Int)≤32)=false:=decide_eq_false (by omega)
 clear X
 go_wp2
 go_ret
 exact ⟨aI H.out.symm,hb⟩
end
section
open Go.RowKit Go.Shelf Go.Lib
abbrev Ep:={x:List UInt8 // x.length=32}
instance:Inhabited Ep:=⟨⟨List.replicate 32 0,by simp⟩⟩
theorem MV:EqlAt prog 143 (fun x:Ep=> .agg (idC x.1).toArray) (fun x y=>x.1==y.1):=by
 refine ⟨fun x y w=> ?_,GuardAt.agg _ (by kernel_rfl)⟩
 rw [run_eql_struct,yV x.1 y.1 x.2 y.2 w]
 rfl
theorem BM (b off n c:Nat) (l:List (List UInt8)) (x:List UInt8) (w:World) (r:n≤l.length) (hb:n≤1000000) (a:∀y∈l,y.length=32) (hx:x.length=32) (q:∀k (t:k<l.length),w.rangeAt b (off+k*32) (idC l[k])) :
  Calls prog 173 #[.slice (some ⟨b,off,none⟩) n c,.agg (idC x).toArray] w fun e w'=>e= .returned (.bool (decide (x∈l.take n)))∧Below w.heap.size w w':=by
 have d:(l.pmap (fun y h=>(⟨y,h⟩:Ep)) a).length=l.length:=List.length_pmap
 have H:=AnyQ.slices_Contains (α:=Ep) Tryz.containsQ 32 Tryz.isAgg143 Tryz.sizeOf143 (fun y=>idC y.1) (fun y=>by rw [aA,y.2]) (fun x y=>x.1==y.1) MV b off n c (l.pmap (fun y h=>(⟨y,h⟩:Ep)) a) ⟨x,hx⟩ w (by rw [d];exact r) (by omega) (fun j g i v hi=>by
  rw [d] at g
  have o:j<(l.pmap (fun y h=>(⟨y,h⟩:Ep)) a).length:=by rw [d];exact g
  rw [getElem!_pos (l.pmap (fun y h=>(⟨y,h⟩:Ep)) a) j o,List.getElem_pmap] at hi
  exact q j g i v hi)
 refine H.mono ?_
 rintro e w' ⟨rfl,m⟩
 refine ⟨?_,m⟩
 congr 2
 rw [Bool.eq_iff_iff]
 simp only [List.any_eq_true,decide_eq_true_eq,beq_iff_eq]
 constructor
 ·rintro ⟨y,hy,rfl⟩
  have:=List.mem_map_of_mem (f:=Subtype.val) hy
  rw [List.map_take,List.map_pmap] at this
  simpa using this
 intro h
 have p:x∈l:=List.mem_of_mem_take h
 refine ⟨⟨x,hx⟩,?_,rfl⟩
 obtain ⟨i,hi,e⟩:=List.getElem_of_mem h
 rw [List.getElem_take] at e
 have s:i<n∧i<l.length:=by rw [List.length_take] at hi;omega
 rw [List.mem_iff_getElem]
 refine ⟨i,by rw [List.length_take,d];omega,?_⟩
 rw [List.getElem_take,List.getElem_pmap]
 exact Subtype.ext e
def KM (v:Value):Prop:=∀a n c,v= .slice a n c→n≤c
theorem AJ (t:List UInt8) (v:Value) (l:List (List UInt8)) (x:ByteArray) (w:World) (hv:dY w v l) (ht:t.length=32) (hl:∀y∈l,y.length=32) (hn:l.length≤1000) (T:KM v) :
  Calls prog 224 #[.agg (cmC t v x).toArray] w fun e w'=>e= .returned (.bool (bB (t,l,x)))∧Below w.heap.size w w':=by
 obtain ⟨H,d,rfl,ae,hv⟩:=hv.open
 unfold maxLen at ae
 have a2:=T _ _ _ rfl
 clear T
 have HV:=ah hv
 have HL:=ah hl
 have hA:=rT w ht (.slice H l.length d) x 145
 have ai:Below w.heap.size w (w.alloc (.cells (cmC t (.slice H l.length d) x).toArray 145)):=bal
 have G:=ah ai
 have hp:Hid ((w.alloc (.cells (cmC t (.slice H l.length d) x).toArray 145)).cell? ⟨w.heap.size,32,none⟩=some (.slice H l.length d)):=by
  unfold Hid;rw [hA.cell 32 (by omega),jr ht]
 have hx:Hid ((w.alloc (.cells (cmC t (.slice H l.length d) x).toArray 145)).cell? ⟨w.heap.size,33,none⟩=some (.string x)):=by
  unfold Hid;rw [hA.cell 33 (by omega),qc ht]
 have p:w.heap.size<(w.alloc (.cells (cmC t (.slice H l.length d) x).toArray 145)).heap.size:=by simp
 have am:(cmC t (.slice H l.length d) x)[32]? = some (.slice H l.length d):=by
  have:=hp.out;rw [World.cell?_alloc_new] at this;simpa using this
 have ag:(cmC t (.slice H l.length d) x)[33]? = some (.string x):=by
  have:=hx.out;rw [World.cell?_alloc_new] at this;simpa using this
 obtain ⟨zi,i0,hi,ar,a3,ap,a0,R⟩:=gL
 have aw:=ah R
 have HC:Hid (bB (t,l,x)=(decide l.Nodup&&decide (l.length≤4∧x.size≤64))):=ah rfl
 obtain ⟨cs,af⟩:∃cs,cs=cmC t (.slice H l.length d) x:=⟨_,rfl⟩
 rw [←af] at hp hx G p am ag ⊢
 clear af hv hl hA ai R ar ap
 go_enter func224,ntmps224
 go_wp2_with fail
 obtain ⟨W,hW⟩:∃W,W=w.alloc (.cells cs.toArray 145):=⟨_,rfl⟩
 rw [←hW] at hp hx G p ⊢
 clear hW am ag
 go_loopw [8] (fun i wr=> ∃k:Nat,k≤l.length∧i= .int .i64 k∧Hid ((l.take k).Nodup)∧Below W.heap.size W wr) (fun i _=>(l.length-intOf i).toNat)
 case atStart=>exact ⟨0,by omega,rfl,ah (show (List.take 0 l).Nodup by simp),Below.refl _ _⟩
 obtain ⟨g,rfl⟩:∃g:World,g=wr:=⟨_,rfl⟩
 obtain ⟨k,hk,rfl,N,hb⟩:=hrel
 have p1:=au hp.out hb p
 have x1:=au hx.out hb p
 have an:w.heap.size<g.heap.size:=by have:=hb.size;omega
 by_cases s:k<l.length
 ·obtain ⟨b,off,rfl,al,n⟩:=HV.out (by intro e;rw [e] at s;simp at s)
  have Z:=bth G hb
  have a4:b<g.heap.size:=by omega
  have f1:=ay (n k s) Z.out al
  have P:l[k].length=32:=HL.out _ (List.getElem_mem s)
  have A:(idC l[k]).length=32:=by rw [aA,P]
  have o:(prog.info? 143).map (·.size)=some (idC l[k]).length:=by rw [A];kernel_rfl
  have S:(prog.info? 143).map (·.size)=some 32:=by kernel_rfl
  have X:(g.alloc (.cells zi 143)).there g.heap.size 0 32:=by
   have:=(Arr.ofList g zi.toList 143).there
   rw [Array.length_toList,aw.out] at this
   exact this
  have f:=World.rangeAt_setCells_same (g.alloc (.cells zi 143)) g.heap.size 0 (idC l[k]) (by rw [A];exact X)
  have ab:=below_setCells (B:=g.heap.size) (a:=g) g.heap.size (Nat.le_refl _) (idC l[k]) 0 _ ((Below.refl _ _).alloc (Nat.le_refl _) (.cells zi 143))
  have ac:=ah (fun V (az:Below w.heap.size w V)=>BM b off k d l l[k] V (by omega) (by omega) HL.out P (fun j hj=>ay (n j hj) az al))
  have F:=bC l[k]
  have L:Hid (l[k]∉l.take k→(l.take (k+1)).Nodup):=ah (fun ax=>sH s N.out (fun j hj e=>ax (by rw [←e];exact List.mem_take_iff_getElem.2 ⟨j,by omega,rfl⟩)))
  have I:Hid (l[k]∈l.take k→ ¬l.Nodup):=ah (fun hi=>by
   obtain ⟨j,hj,e⟩:=List.mem_take_iff_getElem.1 hi
   exact wZ (by omega) s e)
  generalize l[k]=z at f1 P A o f ab ac F L I
  have k0:(0:Int)≤k:=by omega
  have k1:(k:Int)<l.length:=by omega
  have k2:(k:Int)≤d:=by omega
  have k3:k≤d:=by omega
  have K:=ah X
  have C:=ah A
  have M:=ah F
  have F1:=ah f1
  have D:=ah f
  have r:=ah ab
  clear X A F f1 f ab n P
  obtain ⟨W3,aa⟩:∃W3,(g.alloc (.cells zi 143)).setCells g.heap.size 0 (idC z)=W3:=⟨_,rfl⟩
  rw [aa] at D r
  have a1:=r.out.size
  have aE:g.heap.size<W3.heap.size:=World.block_lt_of_cell? W3 ⟨g.heap.size,0,none⟩ (D.out 0 ((idC z)[0]'(by rw [C.out];omega)) (by simp))
  have p3:=au p1 r.out an
  have u:=ah (Z.out.trans (r.out.mono Z.out.size))
  have Q:=ah (fun y:BW W3.heap.size W3=>ac.out y.out (u.out.trans (y.hb.mono u.out.size)))
  have O:=ah aa
  have f:=D.out
  clear aa ac p1
  by_cases q:z∈l.take k
  ·have HR:Hid (bB (t,l,x)=false):=by unfold Hid;rw [HC.out,decide_eq_false (I.out q)];rfl
   rw [decide_eq_true q] at Q
   clear q L I
   generalize ad:idC z=us at o K C M F1 O Q f
   clear ad D
   go_wp2_with (first|(refine wpList_load_mid rfl 143 _ rfl b (off+k*32) rfl us _ F1.out underlying143 rfl o ?_)|(refine aj rfl 143 _ _ rfl g.heap.size 0 us rfl rfl 32 C.out K.out S M.out ?_))
   simp only [Act.put]
   rw [O.out]
   refine wbq ?_
   have U:=blq p3
   repeat (go_big_quiet_step ((go_at_call 173;with_reducible exact aF (Q.out _))))
   refine fI 143 _ _ rfl rfl rfl f (by omega) underlying143 rfl o ?_
   simp only [Act.put,nz]
   repeat (go_big_quiet_step ((go_at_call 173;with_reducible exact aF (Q.out _))))
   refine wpQuiet_nil ?_
   intro wq E
   clear U
   have m:=bth u E
   clear E p3 f
   go_wp2
   go_ret
   exact ⟨aI HR.out.symm,m.out⟩
  have aq:=ah (L.out q)
  rw [decide_eq_false q] at Q
  clear q L I
  generalize ad:idC z=us at o K C M F1 O Q f
  clear ad D
  go_wp2_with (first|(refine wpList_load_mid rfl 143 _ rfl b (off+k*32) rfl us _ F1.out underlying143 rfl o ?_)|(refine aj rfl 143 _ _ rfl g.heap.size 0 us rfl rfl 32 C.out K.out S M.out ?_))
  simp only [Act.put]
  rw [O.out]
  refine wbq ?_
  have U:=blq p3
  repeat (go_big_quiet_step ((go_at_call 173;with_reducible exact aF (Q.out _))))
  refine fI 143 _ _ rfl rfl rfl f (by omega) underlying143 rfl o ?_
  simp only [Act.put,nz]
  repeat (go_big_quiet_step ((go_at_call 173;with_reducible exact aF (Q.out _))))
  refine wpQuiet_nil ?_
  intro wq E
  clear U
  have m:=ah (hb.trans ((r.out.trans (E.mono r.out.size)).mono hb.size))
  clear E p3 f
  go_wp2
  go_roundw
  case rel=>exact ⟨k+1,by omega,by go_num,aq,m.out⟩
  case measure=>simp [intOf];omega
 obtain rfl:k=l.length:=by omega
 rw [List.take_length] at N
 have m:=bth G hb
 have Y:Hid (bB (t,l,x)=decide (l.length≤4∧x.size≤64)):=by unfold Hid;rw [HC.out,decide_eq_true N.out,Bool.true_and]
 clear hb G N
 by_cases h4:l.length≤4
 ·have d4:decide ((l.length:Int)≤4)=true:=decide_eq_true (by omega)
  by_cases J:x.size≤64
  ·have d5:decide ((x.size:Int)≤64)=true:=decide_eq_true (by omega)
   have HR:Hid (bB (t,l,x)=true):=by unfold Hid;rw [Y.out];exact decide_eq_true ⟨h4,J⟩
   clear h4 J
   go_wp2
   go_ret
   exact ⟨aI HR.out.symm,m.out⟩
  have d5:decide ((x.size:Int)≤64)=false:=decide_eq_false (by omega)
  have HR:Hid (bB (t,l,x)=false):=by unfold Hid;rw [Y.out];exact decide_eq_false (fun h=>J h.2)
  clear h4 J
  go_wp2
  go_ret
  exact ⟨aI HR.out.symm,m.out⟩
 have d4:decide ((l.length:Int)≤4)=false:=decide_eq_false (by omega)
 have HR:Hid (bB (t,l,x)=false):=by unfold Hid;rw [Y.out];exact decide_eq_false (fun h=>h4 h.1)
 clear h4
 go_wp2
 go_ret
 exact ⟨aI HR.out.symm,m.out⟩
theorem Io (w:World):PredAt prog 45 #[] encR jv w:=fun W r _=>by
 unfold FnGives
 by_cases h1:r<33<;>by_cases a:126<r<;>by_cases b:r=47
 all_goals
  have d:decide ((r:Int)<33)=decide (r<33):=by rw [decide_eq_decide];omega
  have f:decide ((126:Int)<r)=decide (126<r):=by rw [decide_eq_decide];omega
  have e:((r:Int)==47)=decide (r=47):=by by_cases h:r=47<;>simp [h]<;>omega
  go_enter func45,ntmps45
  go_wp2
  all_goals first|(exfalso;omega)|(go_ret;exact ⟨by simp [jv,h1,a,b],0,rfl⟩)
theorem J4:oO=fO:=by
 funext b
 unfold oO fO
 first
  | rfl
  | (rw [Bool.eq_iff_iff];simp only [Bool.and_eq_true,decide_eq_true_iff,bne_iff_ne,ne_eq];omega)
theorem xJ (s:ByteArray) (w:World) (n:s.size≤1000000000) :
  Calls prog 17 #[.string s] w fun e w'=>e= .returned (.bool (aJ s))∧Below w.heap.size w w':=by
 have g:=ah (fun W=>Any.strings_ContainsFunc Tryz.laysGw17 45 #[] (enters_of func45 (by kernel_rfl) rfl) jv s W (Io W))
 have a:=kr s
 by_cases k:s.size=0
 ·obtain rfl:s=⟨#[]⟩:=by
   cases s with
   | mk d=>have:d= #[]:=Array.size_eq_zero_iff.1 k;rw [this]
  clear g a
  have f:Hid (aJ ⟨#[]⟩=false):=ah (by decide)
  go_enter func17,ntmps17
  go_wp2
  go_ret
  exact ⟨aI f.out.symm,Below.refl _ _⟩
 have l:s.toList≠[]:=fun h=>k (by have:=congrArg List.length h;rw [Lib.toList_data] at this;simpa using this)
 have p:(!s.toList.isEmpty)=true:=by simpa using l
 have o:s.toList.isEmpty=false:=by simpa using l
 by_cases j:s.size≤80
 ·have m:decide ((s.size:Int)≤80)=true:=decide_eq_true (by omega)
  have f:Hid (aJ s= !decide (0≤Lib.idxFunc jv true s)):=by
   unfold Hid aJ;rw [a,J4,decide_eq_true (show 1≤s.size by omega),decide_eq_true j];simp
  generalize decide (0≤Lib.idxFunc jv true s)=b at g f
  clear a
  go_enter func17,ntmps17
  go_wp2_with fail
  refine (g.out w).mono ?_
  rintro e w1 ⟨rfl,i⟩
  go_wp2
  go_ret
  exact ⟨aI f.out.symm,i⟩
 have m:decide ((s.size:Int)≤80)=false:=decide_eq_false (by omega)
 have f:Hid (aJ s=false):=by unfold Hid aJ;rw [decide_eq_false j];simp
 clear g a
 go_enter func17,ntmps17
 go_wp2
 go_ret
 exact ⟨aI f.out.symm,Below.refl _ _⟩
end
end Go.Proofs.YtejamhkgjkhjdaaGreatDoor
