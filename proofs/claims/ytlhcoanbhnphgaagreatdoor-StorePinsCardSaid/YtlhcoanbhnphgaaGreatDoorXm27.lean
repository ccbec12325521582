/- A part of this claim. -/
import Derived.Test.YtlhcoanbhnphgaaGreatDoorXm24
import Derived.Test.YtlhcoanbhnphgaaGreatDoorXm25
namespace Go.Proofs.YtlhcoanbhnphgaaGreatDoor
open Tryz
set_option maxHeartbeats 64000000
set_option maxRecDepth 100000
set_option linter.all false
section
open Go.RowKit Go.Maps
theorem C8:∀ {t V W:List Rf},eF V t=some W→ ∀r∈t,aN r.1=true
 | [],_,_,_,r,a=>by cases a
 | x::t,V,W,h,r,a=>by
  unfold eF at h
  split at h
  ·rename_i hb
   rcases List.mem_cons.1 a with rfl|a
   ·unfold qA at hb
    rw [Bool.and_eq_true,Bool.and_eq_true,Bool.and_eq_true] at hb
    exact hb.1.1.1
   exact C8 h r a
  cases h
theorem D5:∀ {t V W:List Rf},fB V t=some W→ ∀r∈t,aN r.1=true
 | [],_,_,_,r,a=>by cases a
 | x::t,V,W,h,r,a=>by
  unfold fB at h
  split at h
  ·rename_i hb
   rcases List.mem_cons.1 a with rfl|a
   ·unfold pO at hb
    rw [Bool.and_eq_true] at hb
    exact hb.1
   exact D5 h r a
  cases h
theorem Hw {s:ByteArray} (h:aN s=true):s.size≤32:=by unfold aN at h;rw [Bool.and_eq_true,decide_eq_true_eq] at h;exact h.2.2
theorem fQ {t l:List Rf} (h:aO t l=true):(∀r∈t++l,r.1.size≤32)∧t.length≤16∧l.length≤100:=by
 have i:=h
 unfold aO at h
 rw [Bool.and_eq_true,decide_eq_true_eq] at h
 obtain ⟨U,a⟩:=Option.isSome_iff_exists.1 h.1
 have k:=yS 0 i
 obtain ⟨V,e⟩:=k
 rw [List.take_zero] at e
 unfold dD at a e
 cases d:eF [] t with
 | none=>rw [d] at a;cases a
 | some T =>
  rw [d] at a e
  have j:fB T l=some U:=a
  have f:=(Bq (V:=[]) (by simp) d).1
  rw [List.nil_append] at f
  have g:dD t []=some T:=by unfold dD;rw [d];rfl
  have:=(qO g).len
  refine ⟨fun r b=> ?_,by rw [←f];exact this,h.2⟩
  rcases List.mem_append.1 b with b|b
  ·exact Hw (C8 d r b)
  exact Hw (D5 j r b)
def ES (t l:List Rf) (w:World) (e:Ending) (w':World):Prop :=
 (if aO t l=true then e= .returned (.tuple #[.string (ofB (iU t l)),.int .i64 0]) else e= .returned (.tuple #[.string ⟨#[]⟩,.int .i64 1]))∧Below w.heap.size w w'
theorem NR {t l:List Rf} {w w':World} (h:aO t l=false) (hb:Below w.heap.size w w'):ES t l w (.returned (.tuple #[.string ⟨#[]⟩,.int .i64 1])) w':=⟨by rw [h];rfl,hb⟩
theorem KN {t l:List Rf} {w w':World} (h:aO t l=true) (hb:Below w.heap.size w w'):ES t l w (.returned (.tuple #[.string (ofB (iU t l)),.int .i64 0])) w':=⟨by rw [h];rfl,hb⟩
theorem zW {t:List Rf} {j:Nat} (a:j<t.length) (f:Rf→List UInt8):((t.take (j+1)).map f).flatten=((t.take j).map f).flatten++f t[j]:=by
 rw [List.take_succ_eq_append_getElem a,List.map_append,List.flatten_append];simp
theorem oL (vt vl:Value) (t l:List Rf) (w:World) (h:gB w vt vl t l) (b4:Crc w) (h5:5≤w.heap.size) :
  Calls prog 72 #[.agg #[vt,vl]] w (ES t l w):=by
 obtain ⟨W,hW⟩:∃W,w.alloc (.cells #[vt,vl] 51)=W:=⟨_,rfl⟩
 have bc:Below w.heap.size w W:=by rw [←hW];exact bal
 have bn:ak W w.heap.size 51 [vt,vl]:=by rw [←hW];exact ak.new w 51 [vt,vl]
 have cA:=ah bc
 have O:=ah (h.below bc)
 have HW:=ah hW
 have aa:=ah h.ok
 have br:=ah b4
 have H5:=ah h5
 have HR:=ah (dH vt vl t l W O.out)
 have ae:=ah bn
 have cP:(prog.info? 51).map (·.size)=some ([vt,vl]:List Value).length:=bN
 have d0:=bn.range
 clear h bc bn hW b4 h5
 go_enter func72,ntmps72
 go_upto_region 1 with fail
 rw [HW.out]
 go_wp2_with (refine wpList_load_mid rfl 51 _ rfl w.heap.size 0 rfl _ _ d0 underlying51 rfl cP ?_)
 refine HR.out.mono ?_
 rintro e w1 ⟨rfl,am⟩
 have bd:=bth cA am
 replace ae:=ah (ae.out.below am)
 replace O:=ah (O.out.below am)
 clear am HR HW d0
 cases ad:aO t l with
 | false =>
  have b2:=ah (NR (t:=t) (l:=l) (w:=w) ad bd.out)
  clear ad
  go_wp2_with fail
  go_ret2
  exact b2.out
 | true =>
  obtain ⟨hz,cQ,cD⟩:=fQ ad
  have aE:=ah (fun x hb=>KN (t:=t) (l:=l) (w:=w) (w':=x) ad hb)
  have HZ:=ah hz
  obtain ⟨ta,tc,e,_,_⟩:=O.out.tab.open
  subst e
  obtain ⟨la,lc,e,_,_⟩:=O.out.log.open
  subst e
  obtain ⟨wb,S⟩:∃n,w1.heap.size=n:=⟨_,rfl⟩
  obtain ⟨W2,Z⟩:∃W,w1.alloc (.cells #[.pointer none,.slice none 0 0] 193)=W:=⟨_,rfl⟩
  have cg:Below w1.heap.size w1 W2:=by rw [←Z];exact bal
  have bj:W2.heap.size=wb+1:=by rw [←Z,←S];simp
  have co:Wr wb wb [] W2:=by rw [←S,←Z];exact Lib.fresh_isBuilder 193 5 w1
  obtain ⟨W3,ai⟩:∃W,W2.alloc (.cells #[.string ⟨#[72]⟩] 9)=W:=⟨_,rfl⟩
  have al:Below W2.heap.size W2 W3:=by rw [←ai];exact bal
  have cj:W3.cell? ⟨wb+1,0,none⟩=some (.string ⟨#[72]⟩):=by rw [←bj,←ai];exact (ak.new W2 9 [.string ⟨#[72]⟩]).range 0 _ rfl
  have cp:=ah (kS wb wb [] (wb+1) ⟨#[72]⟩ W3 (co.below al) cj (by decide) (by have:=al.size;omega))
  have cv:Hid (Below wb w1 W3):=ah ((cg.mono (by omega)).trans (al.mono (by omega)))
  have cc:Hid (w1.heap.size=wb):=ah S
  have C:Hid (∀x,Below wb w1 x→ak x w.heap.size 51 [.slice ta t.length tc,.slice la l.length lc]∧gB x (.slice ta t.length tc) (.slice la l.length lc) t l∧Below w.heap.size w x):=ah fun x hx=>by
   rw [←S] at hx
   exact ⟨ae.out.below hx,O.out.below hx,bd.out.trans (hx.mono bd.out.size)⟩
  have cM:Hid (w.heap.size+1≤wb):=ah (by have:=ae.out.lt;omega)
  have cR:=ah bj
  have bv:=ah Z
  have cf:=ah ai
  clear cg bj co al cj Z ai hz ad
  go_upto_region 4 with fail
  rw [bv.out]
  clear S
  go_wp2_with fail
  rw [cR.out,cf.out]
  refine cp.out.mono ?_
  rintro e w4 ⟨rfl,a3,bz⟩
  have be:Hid (Below wb w1 w4):=ah (cv.out.trans bz)
  obtain ⟨W5,an⟩:∃W,w4.alloc (.cells #[.int .i64 (t.length:Int)] 3)=W:=⟨_,rfl⟩
  have ao:Below w4.heap.size w4 W5:=by rw [←an];exact bal
  have b5:W5.cell? ⟨w4.heap.size,0,none⟩=some (.int .i64 (t.length:Int)):=by rw [←an];exact (ak.new w4 3 [.int .i64 (t.length:Int)]).range 0 _ rfl
  have cS:=be.out.size
  have cJ:=a3.lt
  have ca:=(C.out w4 be.out).1.range
  have e4:w4.cell? ⟨w.heap.size,0,none⟩=some (.slice ta t.length tc):=ca 0 _ rfl
  have bp:=ah (tO wb wb _ w4.heap.size t.length W5 (a3.below ao) b5 (by omega) (by simp) (by have:=ao.size;omega))
  have cI:Hid (Below wb w1 W5):=ah (be.out.trans (ao.mono (by omega)))
  have cl:=ah an
  clear a3 bz an ao b5 cp bv cf ca cS cJ
  go_wp2_with fail
  rw [cl.out]
  refine bp.out.mono ?_
  rintro e w6 ⟨rfl,b9,cn⟩
  have b0:Hid (Below wb w1 w6):=ah (cI.out.trans cn)
  have cG:Hid (Wr wb wb (72::(aQ t.length++((t.take 0).map gP).flatten)) w6):=ah (by simpa using b9)
  have e6:w6.cell? ⟨w.heap.size,0,none⟩=some (.slice ta t.length tc):=(C.out w6 b0.out).1.range 0 _ rfl
  clear b9 cn bp cl e4
  go_upto_region 7 with fail
  clear e6
  have ap:=ah cQ
  go_loopw [6,23] (fun _ i wr=> ∃j:Nat,j≤t.length∧i= .int .i64 (j:Int)∧Hid (Wr wb wb (72::(aQ t.length++((t.take j).map gP).flatten)) wr)∧Hid (Below wb w1 wr)) (fun _ i _=>(t.length-intOf i).toNat)
  case atStart=>exact ⟨0,by omega,rfl,cG,b0⟩
  obtain ⟨a,rfl⟩:∃a:World,a=wr:=⟨_,rfl⟩
  obtain ⟨j,hj,rfl,D,N⟩:=hrel
  by_cases g:j<t.length
  ·obtain ⟨cy,cX,e2,cE,U⟩:=((C.out a N.out).2.1.tab).open
   have bf:ta=cy:=by injection e2
   subst bf
   clear e2
   obtain ⟨b,off,rfl,cT,m⟩:=U (by intro e;rw [e] at g;simp at g)
   have E:=m j g
   have k0:(0:Int)≤j:=by omega
   have k1:(j:Int)<t.length:=by omega
   have wk:IntKind.i64.wrap ((j:Int)+1)=(j:Int)+1:=IntWalk.i64_in _ (by unfold maxLen at cE;omega)
   have G:=ah (zW g gP)
   have L:=HZ.out t[j] (List.mem_append.2 (.inl (List.getElem_mem g)))
   have d:=(aa.out t[j] (List.mem_append.2 (.inl (List.getElem_mem g)))).2
   have H:Hid (((t.take j).map gP).flatten.length≤1600):=ah (by
    have:=om (f:=gP) (n:=70) (l:=t.take j) fun x hx=>vF (HZ.out x (List.mem_append.2 (.inl (List.take_subset _ _ hx)))) (aa.out x (List.mem_append.2 (.inl (List.take_subset _ _ hx)))).2
    have h2:(t.take j).length≤16:=by rw [List.length_take];have:=ap.out;omega
    have h3:(t.take j).length*70≤16*70:=Nat.mul_le_mul_right _ h2
    omega)
   have R:Hid ((aQ t.length).length≤6):=ah (nW _ (by have:=ap.out;omega))
   obtain ⟨L2,a7⟩:∃x,((t.take (j+1)).map gP).flatten=x:=⟨_,rfl⟩
   rw [a7] at G
   have cz:=ah a7
   clear a7
   generalize ((t.take j).map gP).flatten=L1 at G D H
   generalize t[j]=r at E L d G
   obtain ⟨Y,cO,F⟩:=iB
   have y:(rfC r).length=33:=d9 d
   have p:(prog.info? 93).map (·.size)=some (rfC r).length:=by rw [y];exact gT
   have T:(a.alloc (.cells Y 93)).there a.heap.size 0 33:=there_alloc a Y 93 F
   obtain ⟨J,v⟩:∃W,(a.alloc (.cells Y 93)).setCells a.heap.size 0 (rfC r)=W:=⟨_,rfl⟩
   have k:Below a.heap.size a J:=by rw [←v];exact below_setCells _ (Nat.le_refl _) _ _ _ bal
   have I:ak J a.heap.size 93 (rfC r):=by rw [←v];exact ak.set (cs:=Y.toList) (by have:=ak.new a 93 Y.toList;simpa using this) (by rw [y];simpa using F.symm)
   have d0:J.cell? ⟨a.heap.size,0,none⟩=some (.string r.1):=I.range 0 _ rfl
   obtain ⟨W8,aq⟩:∃W,J.alloc (.cells #[.string r.1] 9)=W:=⟨_,rfl⟩
   have z:Below J.heap.size J W8:=by rw [←aq];exact bal
   have bu:W8.cell? ⟨J.heap.size,0,none⟩=some (.string r.1):=by rw [←aq];exact (ak.new J 9 [.string r.1]).range 0 _ rfl
   have B:=N.out.size
   have ac:=D.out.lt
   have a4:=k.size
   have cq:=z.size
   have cK:Hid (wb<a.heap.size∧a.heap.size<W8.heap.size):=ah ⟨ac,by have:=I.lt;omega⟩
   have HT:=ah (K7 wb wb _ J.heap.size r.1 W8 ((D.out.below k).below z) bu (by omega) (by
    have h1:=H.out
    have h2:=R.out
    rw [List.length_cons,List.length_append];omega) (by omega))
   have a2:=ah (I.below z)
   have bi:Hid (Below wb w1 W8):=ah ((N.out.trans (k.mono (by omega))).trans (z.mono (by omega)))
   have P:=ah v
   have ch:=ah aq
   have a9:=ah T
   have ab:=ah (jG r)
   have a1:=ah gT
   have A:Hid ((idC r.2).length=32):=ah (by rw [av,d])
   have ar:(prog.info? 42).map (·.size)=some (idC r.2).length:=by rw [A.out];exact bR
   have cd:Hid (∀w,(sizeOf 42).run prog w= .ok (idC r.2).length w):=ah fun w=>by rw [A.out];kernel_rfl
   obtain ⟨zi,i0,_,_,_,_,aw,_⟩:=eu
   have cH:=ah aw
   have Q:Hid (∀j u,(idC r.2)[j]? = some u→(rfC r)[j+1]? = some u):=ah fun j u hu=>by unfold rfC;rw [List.getElem?_cons_succ];exact hu
   clear v k I aq z bu T F U m a4 cq B aw
   generalize bk:rfC r=rc at a2 P Q E y p ab
   clear bk
   generalize ck:idC r.2=ci at ar cd A Q
   have ct:=ah ck
   clear ck
   go_wp2_with (first
    | refine wpList_load_mid rfl 93 _ rfl b (off+j*33) rfl rc _ E underlying93 rfl p ?_
    | (refine aj rfl 93 _ _ rfl a.heap.size 0 rc rfl rfl 33 y a9.out a1.out ab.out ?_;rw [P.out]))
   rw [ch.out]
   refine HT.out.mono ?_
   rintro e w9 ⟨rfl,bh,bm⟩
   have bx:ak w9 a.heap.size 93 rc:=bm.off _ _ a2.out (by have:=cK.out;omega) (fun cur e=>by injection e with _ h2;exact absurd h2 (by decide))
   have d1:w9.rangeAt a.heap.size 1 ci:=fun j u hu=>by
    have:=bx.range (j+1) u (Q.out j u hu)
    rw [Nat.zero_add] at this
    rw [Nat.add_comm 1 j];exact this
   have cC:Hid (Below wb w1 w9):=ah (bi.out.trans bm.bel)
   obtain ⟨af,K⟩:∃W,w9.alloc (.cells ci.toArray 42)=W:=⟨_,rfl⟩
   have M:Below w9.heap.size w9 af:=by rw [←K];exact bal
   have az:ak af w9.heap.size 42 ci:=by rw [←K];exact ak.new w9 42 ci
   have b6:=bh.lt
   have HI:=ah (zN wb wb _ w9.heap.size r.2 af (bh.below M) (by rw [ct.out];exact az.range) d (by
    have h1:=H.out
    have h2:=R.out
    have h3:=nW r.1.size (by omega)
    have h4:=nO r.1
    rw [List.length_append,List.length_cons,List.length_append,List.length_append]
    omega) (by have:=M.size;omega))
   have b8:Hid (Below wb w1 af):=ah (cC.out.trans (M.mono (by omega)))
   have ax:=ah K
   have bb:Hid (72::(aQ t.length++L1)++(aQ r.1.size++r.1.data.toList)++r.2=72::(aQ t.length++L2)):=ah (by
    rw [G.out];unfold gP IW;rw [nO];simp)
   clear bh bm bx M az K b6 HT a2 ch P
   go_wp2_with (first
    | refine wpList_load_mid rfl 42 _ rfl a.heap.size 1 rfl ci _ d1 underlying42 rfl ar ?_
    | refine aG rfl _ 44 42 rfl ci zi rfl underlying44 cd.out cH.out (by rw [A.out];omega) (by rw [A.out];omega) ?_)
   rw [ax.out]
   refine HI.out.mono ?_
   rintro e b1 ⟨rfl,V,a0⟩
   rw [bb.out] at V
   have HE:Hid (Wr wb wb (72::(aQ t.length++L2)) b1∧Below wb w1 b1):=ah ⟨V,b8.out.trans a0⟩
   clear V a0 HI ax
   rw [←cz.out] at HE
   go_wp2_with fail
   go_roundw
   case rel=>exact ⟨j+1,by omega,by go_num,ah HE.out.1,ah HE.out.2⟩
   case measure=>simp [intOf];omega
  obtain rfl:j=t.length:=by omega
  have k2:¬((t.length:Int)<t.length):=by omega
  rw [List.take_length] at D
  have ac:=D.out.lt
  have B:=N.out.size
  have q:=(C.out a N.out).2.2
  have H:Hid ((t.map gP).flatten.length≤1600):=ah (by
   have:=om (f:=gP) (n:=70) (l:=t) fun x hx=>vF (HZ.out x (List.mem_append.2 (.inl hx))) (aa.out x (List.mem_append.2 (.inl hx))).2
   have h3:t.length*70≤16*70:=Nat.mul_le_mul_right _ ap.out
   omega)
  have R:Hid ((aQ t.length).length≤6):=ah (nW _ (by have:=ap.out;omega))
  have Q:=ah (xu wb wb _ a D.out (by simp) (by
   have h1:=H.out
   have h2:=R.out
   rw [List.length_cons,List.length_append];omega) (by omega) (by have:=cM.out;have:=H5.out;omega) (br.out.jX q H5.out))
  have b7:Hid ((qZ t).length≤1700):=ah (by
   unfold qZ
   have h1:=H.out
   have h2:=R.out
   have h3:=BK (s:=72::(aQ t.length++(t.map gP).flatten)) (by rw [List.length_cons,List.length_append];omega)
   rw [List.length_cons,List.length_append] at h3
   omega)
  clear ac B q H R D
  go_wp2_with fail
  refine Q.out.mono ?_
  rintro e w7 ⟨rfl,k⟩
  have bt:=ah (N.out.trans k)
  have e7:w7.cell? ⟨w.heap.size,1,none⟩=some (.slice la l.length lc):=(C.out w7 bt.out).1.range 1 _ rfl
  have bs:Jm (72::(aQ t.length++(t.map gP).flatten))=qZ t:=rfl
  rw [bs]
  clear k bs Q N
  go_upto_region 14 with fail
  have cm:Hid (qZ t=qZ t++((l.take 0).map kN).flatten):=ah (by simp)
  obtain ⟨HD,ba⟩:∃x,qZ t=x:=⟨_,rfl⟩
  rw [ba] at cm b7 ⊢
  have cr:=ah ba
  clear ba e7
  have cx:=ah cD
  go_loopw [7,9,40] (fun o _ i wr=> ∃j:Nat,j≤l.length∧i= .int .i64 (j:Int)∧(∃X:ByteArray,o= .string X∧Hid (X=ofB (HD++((l.take j).map kN).flatten)))∧Hid (Below wb w1 wr)) (fun _ _ i _=>(l.length-intOf i).toNat)
  case atStart=>exact ⟨0,by omega,rfl,⟨_,rfl,ah (by rw [←cm.out])⟩,bt⟩
  obtain ⟨a,rfl⟩:∃a:World,a=wr:=⟨_,rfl⟩
  obtain ⟨j,hj,rfl,⟨X,rfl,HX⟩,N⟩:=hrel
  by_cases g:j<l.length
  ·obtain ⟨cw,cW,e2,cL,U⟩:=((C.out a N.out).2.1.log).open
   have bf:la=cw:=by injection e2
   subst bf
   clear e2
   obtain ⟨b,off,rfl,cT,m⟩:=U (by intro e;rw [e] at g;simp at g)
   have E:=m j g
   have k0:(0:Int)≤j:=by omega
   have k1:(j:Int)<l.length:=by omega
   have wk:IntKind.i64.wrap ((j:Int)+1)=(j:Int)+1:=IntWalk.i64_in _ (by unfold maxLen at cL;omega)
   have G:=ah (zW g kN)
   have L:=HZ.out l[j] (List.mem_append.2 (.inr (List.getElem_mem g)))
   have d:=(aa.out l[j] (List.mem_append.2 (.inr (List.getElem_mem g)))).2
   have ce:Hid (X.size≤10000):=ah (by
    have:=om (f:=kN) (n:=81) (l:=l.take j) fun x hx=>vO (HZ.out x (List.mem_append.2 (.inr (List.take_subset _ _ hx)))) (aa.out x (List.mem_append.2 (.inr (List.take_subset _ _ hx)))).2
    have h2:(l.take j).length≤100:=by rw [List.length_take];have:=cx.out;omega
    have h3:(l.take j).length*81≤100*81:=Nat.mul_le_mul_right _ h2
    have h4:=b7.out
    rw [HX.out,aR,List.length_append]
    omega)
   have a6:=ah (vO L d)
   have q:=(C.out a N.out).2.2
   have a8:Hid (X++ofB (kN l[j])=ofB (HD++((l.take (j+1)).map kN).flatten)):=ah (by rw [G.out,HX.out,←dX,List.append_assoc])
   clear G HX
   generalize l[j]=r at E L d a6 a8
   obtain ⟨Y,cO,F⟩:=iB
   have y:(rfC r).length=33:=d9 d
   have p:(prog.info? 93).map (·.size)=some (rfC r).length:=by rw [y];exact gT
   have T:(a.alloc (.cells Y 93)).there a.heap.size 0 33:=there_alloc a Y 93 F
   obtain ⟨J,v⟩:∃W,(a.alloc (.cells Y 93)).setCells a.heap.size 0 (rfC r)=W:=⟨_,rfl⟩
   have k:Below a.heap.size a J:=by rw [←v];exact below_setCells _ (Nat.le_refl _) _ _ _ bal
   have I:ak J a.heap.size 93 (rfC r):=by rw [←v];exact ak.set (cs:=Y.toList) (by have:=ak.new a 93 Y.toList;simpa using this) (by rw [y];simpa using F.symm)
   have cb:=I.range
   have B:=N.out.size
   have a4:=k.size
   have cN:=N.out.size
   have cF:Hid (Below wb w1 J):=ah (N.out.trans (k.mono (by have:=cc.out;omega)))
   have ag:=ah (rC r J (by omega) d (by have:=H5.out;have:=q.size;omega) ((br.out.jX q H5.out).below k))
   have P:=ah v
   have a9:=ah T
   have ab:=ah (jG r)
   have a1:=ah gT
   have b3:Hid (wb≤J.heap.size):=ah (by have:=cc.out;omega)
   clear v k I T F U m a4 B cN q
   obtain ⟨eb,a5⟩:∃x,ofB (kN r)=x:=⟨_,rfl⟩
   rw [a5] at ag a8
   have cY:eb.size≤81:=by rw [←a5,aR];exact a6.out
   have cV:=ce.out
   have cU:∀W,(Op.stringOp .add X eb).run prog W= .ok (.string (X++eb)) W:=fun W=>run_string_add W _ _ (by omega) (by omega)
   clear a5 a6 ce
   generalize bk:rfC r=rc at P ag E y p ab cb
   clear bk
   go_wp2_with (first
    | refine wpList_load_mid rfl 93 _ rfl b (off+j*33) rfl rc _ E underlying93 rfl p ?_
    | (refine aj rfl 93 _ _ rfl a.heap.size 0 rc rfl rfl 33 y a9.out a1.out ab.out ?_;rw [P.out])
    | refine wpList_load_mid rfl 93 _ rfl a.heap.size 0 rfl rc _ cb underlying93 rfl p ?_)
   refine ag.out.mono ?_
   rintro e w8 ⟨rfl,z⟩
   have bi:Hid (Below wb w1 w8):=ah (cF.out.trans (z.mono b3.out))
   clear z ag
   go_wp2_with fail
   go_roundw
   case rel=>exact ⟨j+1,by omega,by go_num,⟨_,rfl,a8⟩,bi⟩
   case measure=>simp [intOf];omega
  obtain rfl:j=l.length:=by omega
  have k2:¬((l.length:Int)<l.length):=by omega
  rw [List.take_length] at HX
  have bo:=ah (aE.out a (C.out a N.out).2.2)
  have bb:Hid (X=ofB (iU t l)):=ah (by rw [HX.out,←cr.out];rfl)
  clear HX aE
  go_wp2_with fail
  go_ret2
  rw [bb.out]
  exact bo.out
end
section
open Go.RowKit Go.Maps Go.Shelf
theorem O0 (s:List UInt8) (c:UInt8):Lib.hasPrefix s [c]=decide (s.head? = some c)∧(s.head? = some c→Lib.trimPrefix s [c]=s.drop 1):=by
 cases s with
 | nil=>exact ⟨by simp [Lib.hasPrefix],by simp⟩
 | cons a s =>
  by_cases h:a=c
  ·subst h;exact ⟨by simp [Lib.hasPrefix],fun _=>by simp [Lib.trimPrefix,Lib.hasPrefix]⟩
  exact ⟨by simp [Lib.hasPrefix,List.isPrefixOf,h,Ne.symm h],fun b=>by simp at b;exact absurd b h⟩
theorem Rd.zU (r:Rd) (a:Nat) (h:r.fine):(r.text a).2.size≤a:=by
 have h1:=(Rd.cB r a h).2
 have b:=Rd.nA (r.num a).1 (r.num a).2
 unfold Rd.text
 split
 ·simp
 split
 ·simp
 omega
theorem KF (s:ByteArray) (c:UInt8) (w:World):Calls prog 135 #[.string s,.string ⟨#[c]⟩] w fun e w'=>e= .returned (.tuple #[.string ⟨(Lib.trimPrefix s.data.toList [c]).toArray⟩,.bool (Lib.hasPrefix s.data.toList [c])])∧w'=w :=
 Any.strings_CutPrefix Tryz.lays103 s ⟨#[c]⟩ w
theorem KG {w w':World} {b:Nat} (a:Crc w) (d:w.grownBy w' (some b)) (hb:4<b):Crc w':=⟨kE a.row d (fun e=>by have:=Option.some.inj e;omega),Nat.lt_of_lt_of_le a.lt d.size⟩
def uO (r:Rd) (c:UInt8) (b:Nat) (w:World) (e:Ending) (w':World):Prop :=
 (match fI r c with
 | none=>e= .returned (.pointer none)
 | some x=> ∃n,e= .returned (.pointer (some ⟨n,0,none⟩))∧w.heap.size≤n∧Arr w' n 3 x.c)∧Arr w' b 3 (r.text 65536).1.c∧Chg (fun k=>k=b) w w'
theorem Lg {r:Rd} {c:UInt8} {b:Nat} {w w':World} (h:fI r c=none) (h1:Arr w' b 3 (r.text 65536).1.c) (a:Chg (fun k=>k=b) w w'):uO r c b w (.returned (.pointer none)) w':=⟨by rw [h],h1,a⟩
theorem IQ {r x:Rd} {c:UInt8} {b n:Nat} {w w':World} (h:fI r c=some x) (d:w.heap.size≤n) (e:Arr w' n 3 x.c) (h1:Arr w' b 3 (r.text 65536).1.c) (a:Chg (fun k=>k=b) w w'):uO r c b w (.returned (.pointer (some ⟨n,0,none⟩))) w':=⟨by rw [h];exact ⟨n,rfl,d,e⟩,h1,a⟩
theorem kY (b:Nat) (r:Rd) (c:UInt8) (w:World) (S:Arr w b 3 r.c) (I:r.fine) (Q:Crc w) (hb:4<b):Calls prog 129 #[.pointer (some ⟨b,0,none⟩),.string ⟨#[c]⟩] w (uO r c b w):=by
 have N:=ah (kT b r 65536 w S I (by decide))
 have Z:=ah Q
 have L:(r.text 65536).2.size≤65536:=Rd.zU _ _ I
 have m:=ah (fun w' h=>Lg (r:=r) (c:=c) (b:=b) (w:=w) (w':=w') h)
 have v:=ah (fun x n w' h=>IQ (r:=r) (x:=x) (c:=c) (b:=b) (n:=n) (w:=w) (w':=w') h)
 have d:Hid (fI r c=if oD (r.text 65536).2=true∧(unS (r.text 65536).2).data.toList.head? = some c∧(r.text 65536).1.err=0 then some (rd0 (ofB ((unS (r.text 65536).2).data.toList.drop 1))) else none):=ah rfl
 clear S Q I
 obtain ⟨T,R⟩:∃T,r.text 65536=T:=⟨_,rfl⟩
 rw [R] at N L m v d
 clear R
 go_enter func129,ntmps129
 go_wp2_with fail
 refine N.out.mono ?_
 rintro e w1 ⟨rfl,y,p⟩
 have M:=ah (KG Z.out p hb)
 have U:=ah (wE T.2 w1 M.out (by omega))
 have K:Hid (Chg (fun k=>k=b) w w1):=ah (Chg.gF p (fun k e=>(Option.some.inj e).symm))
 have D:=ah y
 clear y p N
 go_wp2_with fail
 refine U.out.mono ?_
 rintro e j ⟨rfl,s⟩
 have G:=D.out.lt (by omega)
 have i:=ah (D.out.below s G)
 have l:Hid (Chg (fun k=>k=b) w j):=ah (K.out.trans (Chg.of_below s))
 have a:=ah (KF (unS T.2) c j)
 obtain ⟨E,z⟩:=O0 (unS T.2).data.toList c
 have f:=ah z
 rw [E] at a
 have B:=ah (qx b T.1 j i.out)
 clear s E z G
 generalize A:oD T.2=P at d ⊢
 generalize F:unS T.2=C at d a f ⊢
 obtain ⟨W,g⟩:∃x,Lib.trimPrefix C.data.toList [c]=x:=⟨_,rfl⟩
 rw [g] at a f
 have Y:=ah F
 have V:=ah A
 clear g F A
 by_cases h1:P=true
 ·by_cases o:C.data.toList.head? = some c
  ·rw [decide_eq_true o] at a
   have g:=f.out o
   by_cases u:T.1.err=0
   ·rw [if_pos ⟨h1,o,u⟩] at d
    have H:(⟨W.toArray⟩:ByteArray)=ofB (C.data.toList.drop 1):=by rw [g];rfl
    rw [H] at a
    obtain ⟨X,O⟩:∃X,ofB (C.data.toList.drop 1)=X:=⟨_,rfl⟩
    rw [O] at a d
    have J:=ah (jo X j)
    have t:Below j.heap.size j (j.alloc (.cells #[.string X,.int .i64 0,.int .i64 0] 276)):=bal
    have q:=ah (v.out _ j.heap.size _ d.out l.out.size (l9 X j _) (i.out.below t (i.out.lt (by omega))) (l.out.trans (Chg.of_below t)))
    rw [u] at B
    subst h1
    clear o u m v d f g H O t
    go_wp2_with fail
    refine a.out.mono ?_
    rintro e w3 ⟨rfl,rfl⟩
    go_wp2_with fail
    refine B.out.mono ?_
    rintro e w4 ⟨rfl,rfl⟩
    go_wp2_with fail
    refine J.out.mono ?_
    rintro e w5 ⟨rfl,rfl⟩
    go_wp2_with fail
    go_ret
    exact q.out
   rw [if_neg (fun h=>u h.2.2)] at d
   have q:=ah (m.out j d.out i.out l.out)
   have he:((T.1.err:Int)==0)=false:=by simpa using u
   subst h1
   clear o u m v d f g
   go_wp2_with fail
   refine a.out.mono ?_
   rintro e w3 ⟨rfl,rfl⟩
   go_wp2_with fail
   refine B.out.mono ?_
   rintro e w4 ⟨rfl,rfl⟩
   go_wp2_with fail
   go_ret
   exact q.out
  rw [decide_eq_false o] at a
  rw [if_neg (fun h=>o h.2.1)] at d
  have q:=ah (m.out j d.out i.out l.out)
  subst h1
  clear o m v d B f
  go_wp2_with fail
  refine a.out.mono ?_
  rintro e w3 ⟨rfl,rfl⟩
  go_wp2_with fail
  go_ret
  exact q.out
 obtain rfl:P=false:=by simpa using h1
 rw [if_neg (fun h=>by cases h.1)] at d
 have q:=ah (m.out j d.out i.out l.out)
 clear h1 m v d B f
 generalize decide (C.data.toList.head? = some c)=hd at a
 go_wp2_with fail
 refine a.out.mono ?_
 rintro e w3 ⟨rfl,rfl⟩
 go_wp2_with fail
 go_ret
 exact q.out
def GK (x:Rd) (b:Nat) (w:World) (e:Ending) (w':World):Prop:=e= .returned (.agg (rfC (jA x).2).toArray)∧Arr w' b 3 (jA x).1.c∧Chg (fun k=>k=b) w w'
theorem Oz (b:Nat) (x:Rd) (w:World) (Y:Arr w b 3 x.c) (N:x.fine):Calls prog 131 #[.pointer (some ⟨b,0,none⟩)] w (GK x b w):=by
 obtain ⟨q,aa,F⟩:=iB
 have l:=Y.lt (by omega)
 have u:Below w.heap.size w (w.alloc (.cells q 93)):=bal
 have f:=Y.below u l
 have t:=there_alloc (n:=33) w q 93 F
 have X:=ah (kT b x 32 _ f N (by decide))
 have E:=ah (Rd.dI x 32 N)
 have R:Hid (ak (w.alloc (.cells q 93)) w.heap.size 93 q.toList):=ah (by have:=ak.new w 93 q.toList;simpa using this)
 have B:=ah F
 have v:=ah l
 have U:=ah u
 have h:Hid (jA x=((x.text 32).1.id.1,((x.text 32).2,(x.text 32).1.id.2))):=ah rfl
 have g:Hid ((x.text 32).1.id.2.length=32):=ah (fE _)
 clear Y l u f t N
 generalize x.text 32=T at X E h g
 go_enter func131,ntmps131
 go_wp2_with fail
 refine X.out.mono ?_
 rintro e w1 ⟨rfl,f,s⟩
 have HI:=ah (vD b T.1 w1 f E.out)
 have S:Hid (ak w1 w.heap.size 93 q.toList):=ah (R.out.kept s (fun e=>by have:=v.out;have:=Option.some.inj e;omega))
 have V:Hid (Chg (fun k=>k=b) w w1):=ah ((Chg.of_below U.out).trans (Chg.gF s (fun k e=>(Option.some.inj e).symm)))
 clear f s X
 go_wp2_with fail
 refine HI.out.mono ?_
 rintro e J ⟨rfl,W,I⟩
 have M:Hid (ak J w.heap.size 93 q.toList):=ah (S.out.kept I (fun e=>by have:=v.out;have:=Option.some.inj e;omega))
 have d:Hid (Chg (fun k=>k=b) w J):=ah (V.out.trans (Chg.gF I (fun k e=>(Option.some.inj e).symm)))
 have Q:=ah W
 have m:Hid (∀w,(Instr.build 93 #[(0,.string T.2),(1,.agg (idC T.1.id.2).toArray)]).run prog w= .ok (.agg (rfC (T.2,T.1.id.2)).toArray) w):=ah fun w=>xq T.2 T.1.id.2 g.out w
 have K:idV T.1.id.2= .agg (idC T.1.id.2).toArray:=rfl
 rw [K]
 have i:Hid ((rfC (T.2,T.1.id.2)).length=33):=ah (d9 g.out)
 have C:=ah (jG (T.2,T.1.id.2))
 have O:=ah gT
 have r:=M.out.there
 obtain ⟨Z,j⟩:∃y,J.setCells w.heap.size 0 (rfC (T.2,T.1.id.2))=y:=⟨_,rfl⟩
 have A:ak Z w.heap.size 93 (rfC (T.2,T.1.id.2)):=by rw [←j];exact M.out.set (by rw [i.out];simpa using B.out.symm)
 have G:=A.range
 have p:Hid (GK x b w (.returned (.agg (rfC (T.2,T.1.id.2)).toArray)) Z):=ah (by
  have l:=v.out
  have a:=bA (rfC (T.2,T.1.id.2)) 0 J (World.grownBy.refl J (some w.heap.size))
  rw [j] at a
  refine ⟨by rw [h.out],by rw [h.out];exact Q.out.grown a (by omega),?_⟩
  refine ⟨a.os.trans d.out.os,a.tape.trans d.out.tape,a.output.trans d.out.output,Nat.le_trans d.out.size a.size,fun k hk hn=> ?_⟩
  rw [a.block k (Nat.lt_of_lt_of_le hk d.out.size) (fun e=>by have:=Option.some.inj e;omega)]
  exact d.out.block k hk hn)
 have z:=ah j
 have L:q.toList.length=33:=by simpa using B.out
 rw [L] at r
 have t:=ah r
 have o:(prog.info? 93).map (·.size)=some (rfC (T.2,T.1.id.2)).length:=by rw [i.out];exact gT
 obtain ⟨P,D⟩:∃y,rfC (T.2,T.1.id.2)=y:=⟨_,rfl⟩
 obtain ⟨ci,H⟩:∃y,idC T.1.id.2=y:=⟨_,rfl⟩
 rw [D] at m i C z G p o
 rw [H] at m ⊢
 clear D H A j L r
 generalize T.2=t2 at m ⊢
 go_wp2_with (first
  | refine fF rfl 93 _ _ rfl (.string t2) (.agg ci.toArray) (.agg P.toArray) rfl rfl (m.out _) ?_
  | (refine aj rfl 93 _ _ rfl w.heap.size 0 P rfl rfl 33 i.out t.out O.out C.out ?_;rw [z.out]))
 refine bK rfl w.heap.size 0 rfl P _ G underlying93 rfl o rfl ?_
 exact p.out
theorem yT:aO [] []=true:=by decide +kernel
theorem nP (w:World):gB w (.slice none 0 0) (.slice none 0 0) [] []:=⟨⟨none,0,rfl,by simp,fun h=>absurd rfl h⟩,⟨none,0,rfl,by simp,fun h=>absurd rfl h⟩,fun _ _ _ e=>by cases e;omega,fun _ _ _ e=>by cases e;omega,fun r a=>by cases a⟩
def qh (v:Value) (n:Nat) (w:World) (e:Ending) (w':World):Prop:=e= .returned (.tuple #[.agg #[.slice none 0 0,v],.int .i64 (n:Int),.int .i64 0])∧Below w.heap.size w w'
structure oG (w0:World) (r:Rd) (l:List Rf) (v:Value) (w:World):Prop where
 res:ak w w0.heap.size 51 [.slice none 0 0,.slice none 0 0]
 rd:Arr w (w0.heap.size + 1) 3 r.c
 bx:ak w (w0.heap.size + 1 + 1) 51 [.slice none 0 0,v]
 cx:∃ us,us.length = 2 ∧ ak w (w0.heap.size + 1 + 1 + 1) 51 us
 row:gB w (.slice none 0 0) v [] l
 fr:FrB (w0.heap.size + 4) v
 bel:Below w0.heap.size w0 w
theorem bM.Rp {S:Nat→Prop} {w w':World} {v:Value} {sz:Nat} {rows:List (List Value)} (h:bM w v sz rows) (e:Chg S w w') (d:∀b,v.ownBlock=some b→ ¬S b):bM w' v sz rows:=by
 obtain ⟨k,cap,rfl,hm,g⟩:=h
 refine ⟨k,cap,rfl,hm,fun f=> ?_⟩
 obtain ⟨b,off,rfl,hb,a⟩:=g f
 refine ⟨b,off,rfl,Nat.lt_of_lt_of_le hb e.size,fun i hi j u hu=> ?_⟩
 rw [World.cell?_of_block (e.block b hb (d b rfl))]
 exact a i hi j u hu
theorem Arr.Rq {w w':World} {b n:Nat} {c:Nat→Value} {S:Nat→Prop} (h:Arr w b n c) (e:Chg S w w') (hb:¬S b):Arr w' b n c:=by
 by_cases f:0<n
 ·have g:=h.lt f
  have d:=e.block b g hb
  exact ⟨fun k a=>by rw [World.cell?_of_block d];exact h.cell k a,fun k a=>by rw [World.frozen?_of_block d];exact h.free k a⟩
 exact ⟨fun k a=>absurd a (by omega),fun k a=>absurd a (by omega)⟩
theorem oG.size {w0 w:World} {r:Rd} {l:List Rf} {v:Value} (h:oG w0 r l v w):w0.heap.size+4≤w.heap.size:=by
 obtain ⟨us,_,hb⟩:=h.cx
 have:=hb.lt
 omega
theorem oG.next {w0 w w':World} {r r':Rd} {l:List Rf} {v:Value} {S:Nat→Prop} (h:oG w0 r l v w) (d:Chg S w w') (hS:∀k,S k→k=w0.heap.size+1∨(w0.heap.size+4≤k∧v.ownBlock≠some k)) (g:Arr w' (w0.heap.size+1) 3 r'.c):oG w0 r' l v w':=by
 have a:∀k,k≠w0.heap.size+1→k<w0.heap.size+4→ ¬S k:=fun k h1 m f=>by rcases hS k f with h|h<;>omega
 obtain ⟨us,hu,e⟩:=h.cx
 have i:∀b,v.ownBlock=some b→ ¬S b:=fun b hb f=>by
  have:=h.fr b hb
  rcases hS b f with h|h
  ·omega
  exact h.2 hb
 refine ⟨(d.block _ h.res.lt (a _ (by omega) (by omega))).trans h.res,g,(d.block _ h.bx.lt (a _ (by omega) (by omega))).trans h.bx,⟨us,hu,(d.block _ e.lt (a _ (by omega) (by omega))).trans e⟩,⟨⟨none,0,rfl,by simp,fun h=>absurd rfl h⟩,bM.Rp h.row.log d i,h.row.capt,h.row.capl,h.row.ok⟩,h.fr,Chg.below h.bel d h.bel.size fun k j=> ?_⟩
 rcases hS k j with h|h<;>omega
theorem oG.on {w0 w w':World} {r:Rd} {l:List Rf} {v:Value} (h:oG w0 r l v w) (hb:Below w.heap.size w w'):oG w0 r l v w' :=
 h.next (Chg.of_below hb:Chg (fun _=>False) w w') (fun k a=>a.elim) (h.rd.below hb (by have:=h.size;omega))
theorem Qd (s:ByteArray) (x:Rd) (w:World) (hs:s.size≤1000000) (E:Crc w) (h5:4<w.heap.size) (h1:fI (rd0 s) 72=some x) (h2:(x.num 16).2=0) (h3:(x.num 16).1.fin=0) (R:x.fine)
  (h4:fI ((rd0 s).text 65536).1 69=none):Calls prog 74 #[.string s] w (qh (.slice none 0 0) ((rd0 s).text 65536).1.pos w):=by
 obtain ⟨r,d⟩:∃W,w.alloc (.cells #[.slice none 0 0,.slice none 0 0] 51)=W:=⟨_,rfl⟩
 have q:r.heap.size=w.heap.size+1:=by rw [←d];simp
 have af:Below w.heap.size w r:=by rw [←d];exact bal
 have ag:ak r w.heap.size 51 [.slice none 0 0,.slice none 0 0]:=by rw [←d];exact ak.new w 51 [.slice none 0 0,.slice none 0 0]
 obtain ⟨t,i⟩:∃W,r.alloc (.cells #[.string s,.int .i64 0,.int .i64 0] 276)=W:=⟨_,rfl⟩
 have l:t.heap.size=w.heap.size+1+1:=by rw [←i,←q];simp
 have D:Below r.heap.size r t:=by rw [←i];exact bal
 have V:Arr t (w.heap.size+1) 3 (rd0 s).c:=by rw [←q,←i];exact l9 s r _
 obtain ⟨G,f⟩:∃W,(t.alloc (.cells #[.slice none 0 0,.slice none 0 0] 51)).alloc (.cells #[.slice none 0 0,.slice none 0 0] 51)=W:=⟨_,rfl⟩
 have p:Below t.heap.size t G:=by rw [←f];exact bal.alloc (by simp) _
 have N:ak G (w.heap.size+1+1) 51 [.slice none 0 0,.slice none 0 0]:=by rw [←l,←f];exact (ak.new t 51 [.slice none 0 0,.slice none 0 0]).below bal
 have J:ak G (w.heap.size+1+1+1) 51 [.slice none 0 0,.slice none 0 0]:=by
  rw [←l,←f]
  have:=ak.new (t.alloc (.cells #[.slice none 0 0,.slice none 0 0] 51)) 51 [.slice none 0 0,.slice none 0 0]
  rwa [World.size_alloc] at this
 have b:Hid (oG w (rd0 s) [] (.slice none 0 0) G):=ah ⟨(ag.below D).below p,V.below p (by omega),N,⟨_,rfl,J⟩,nP G,fun g hg=>(by cases hg),(af.trans (D.mono (by omega))).trans (p.mono (by omega))⟩
 have K:=ah (jo s r)
 have I:=ah (kY (w.heap.size+1) (rd0 s) 72 G b.out.rd (dG s hs) (E.below b.out.bel) (by omega))
 have an:=ah E
 have H5:=ah h5
 have X:=ah d
 have U:=ah i
 have Q:=ah f
 have ai:=ah q
 have al:=ah l
 unfold uO at I
 rw [h1] at I
 dsimp only at I
 clear d i f af D p ag V N J q l E h5
 go_enter func74,ntmps74
 go_wp2_with fail
 rw [X.out]
 refine iq 2 ?_
 go_wp2_with fail
 refine K.out.mono ?_
 rintro e w2 ⟨rfl,rfl⟩
 rw [U.out,ai.out]
 go_upto_region 4 with fail
 rw [Q.out]
 go_wp2_with fail
 refine I.out.mono ?_
 rintro e w4 ⟨⟨xb,rfl,az,ae⟩,Y,ab⟩
 have m:=ah (b.out.next (r':=((rd0 s).text 65536).1) ab (fun k P=> .inl P) Y)
 have ap:=b.out.size
 have ar:=m.out.size
 have C:Hid (w.heap.size+4≤xb):=ah (by omega)
 have z:=ah (mW xb x 16 w4 ae R (by decide))
 rw [h2] at z
 clear ab ae Y I b X U Q K az ap ar
 rw [al.out]
 go_wp2_with fail
 refine z.out.mono ?_
 rintro e w5 ⟨rfl,T,A⟩
 have L:=ah (m.out.next (r':=((rd0 s).text 65536).1) (Chg.gF A (fun k e=>(Option.some.inj e).symm):Chg (fun k=>k=xb) w4 w5) (fun k P=> .inr ⟨by rw [P];exact C.out,by simp [Value.ownBlock]⟩) (m.out.rd.grown A (by have:=C.out;omega)))
 have M:=ah T
 clear T A z m
 have B:=ah (jL xb (x.num 16).1 w5 M.out (Rd.cB x 16 R).1)
 rw [h3] at B
 clear M C
 go_wp2_with fail
 refine wp_loop_rounds 1 ?_
 rw [rounds_succ]
 go_wp2_with fail
 refine B.out.mono ?_
 rintro e w6 ⟨rfl,ac⟩
 have n:=ah (L.out.on ac)
 have ad:=n.out.bx.range
 have u:(prog.info? 51).map (·.size)=some ([.slice none 0 0,.slice none 0 0]:List Value).length:=bN
 have F:=ah (dH _ _ [] [] w6 n.out.row)
 rw [yT] at F
 clear ac B L
 go_wp2_with (refine aX rfl 51 _ rfl (w.heap.size+1+1) 0 rfl _ _ ad underlying51 rfl u ?_)
 refine F.out.mono ?_
 rintro e w7 ⟨rfl,Z⟩
 have h:=ah (n.out.on Z)
 clear Z F n ad
 have aa:=ah (vE (w.heap.size+1) _ w7 h.out.rd)
 have j:=ah (kY (w.heap.size+1) ((rd0 s).text 65536).1 69 w7 h.out.rd (Rd.dI _ _ (dG s hs)) (an.out.below h.out.bel) (by have:=H5.out;omega))
 unfold uO at j
 rw [h4] at j
 dsimp only at j
 go_wp2_with fail
 rename_i hK
 refine wp_label (hK _ _ ?_)
 go_wp2_with fail
 refine aa.out.mono ?_
 rintro e w8 ⟨rfl,rfl⟩
 go_wp2_with fail
 refine j.out.mono ?_
 rintro e w9 ⟨rfl,S,H⟩
 have a:=ah (h.out.next (r':=(((rd0 s).text 65536).1.text 65536).1) H (fun k P=> .inl P) S)
 clear S H j h aa
 go_wp2_with fail
 refine wp_goto ?_
 simp only [Exit.then,Exit.pQ]
 refine vK rfl ?_
 obtain ⟨WE,o⟩:∃y,w9.setCells w.heap.size 0 [.slice none 0 0,.slice none 0 0]=y:=⟨_,rfl⟩
 have aq:=a.out.bx.range
 have ao:=a.out.res.there
 have ax:WE.rangeAt w.heap.size 0 [.slice none 0 0,.slice none 0 0]:=by rw [←o];exact (a.out.res.set (us:=[.slice none 0 0,.slice none 0 0]) rfl).range
 have O:Hid (Below w.heap.size w WE):=ah (by rw [←o];exact below_setCells _ (Nat.le_refl _) _ _ _ a.out.bel)
 have am:=ah o
 have aw:=ah bN
 clear o a
 go_wp2_with (first
  | refine wpList_load_mid rfl 51 _ rfl (w.heap.size+1+1) 0 rfl _ _ aq underlying51 rfl u ?_
  | (refine aj rfl 51 _ _ rfl w.heap.size 0 [.slice none 0 0,.slice none 0 0] rfl rfl 2 rfl ao aw.out (by intro v hv;simp at hv;rw [hv];rfl) ?_;rw [am.out]))
 rw [Exit.lG]
 refine lu rfl w.heap.size 0 rfl [.slice none 0 0,.slice none 0 0] _ ax underlying51 rfl u rfl _ _ rfl rfl ?_
 exact ⟨rfl,O.out⟩
theorem Mg {w w':World} {B n sz:Nat} {e:TypeId} {v:Value} {xs:List Value} {S:Nat→Prop} (h:w.ownsRow B e sz v n xs) (f:Chg S w w') (a:∀g,v.ownBlock=some g→ ¬S g):w'.ownsRow B e sz v n xs:=by
 refine ⟨h.1,?_⟩
 rcases h.2 with i|⟨g,cap,cur,b,hb,d,j⟩
 ·exact .inl i
 exact .inr ⟨g,cap,cur,b,hb,(f.block g (Array.getElem?_eq_some_iff.1 d).1 (a g (by rw [b];rfl))).trans d,j⟩
theorem oG.Ri {w0 w:World} {r:Rd} {l:List Rf} {v a b:Value} (h:oG w0 r l v w):oG w0 r l v (w.setCells (w0.heap.size+1+1+1) 0 [a,b])∧ak (w.setCells (w0.heap.size+1+1+1) 0 [a,b]) (w0.heap.size+1+1+1) 51 [a,b]:=by
 obtain ⟨us,hu,f⟩:=h.cx
 have d:=bA [a,b] 0 w (World.grownBy.refl w (some (w0.heap.size+1+1+1)))
 have g:=f.set (us:=[a,b]) (by rw [hu];rfl)
 refine ⟨⟨h.res.kept d (fun e=>by have:=Option.some.inj e;omega),h.rd.grown d (by omega),h.bx.kept d (fun e=>by have:=Option.some.inj e;omega),⟨_,rfl,g⟩,⟨⟨none,0,rfl,by simp,fun h=>absurd rfl h⟩,bM.zD h.row.log d fun k i e=> ?_,h.row.capt,h.row.capl,h.row.ok⟩,h.fr,below_setCells _ (by omega) _ _ _ h.bel⟩,g⟩
 have:=h.fr k i
 have:=Option.some.inj e
 omega
theorem oG.Rj {w0 w:World} {r:Rd} {l i:List Rf} {v b:Value} (h:oG w0 r l v w) (d:gB w (.slice none 0 0) b [] i) (g:FrB (w0.heap.size+4) b):oG w0 r i b (w.setCells (w0.heap.size+1+1) 0 [.slice none 0 0,b]):=by
 obtain ⟨us,hu,f⟩:=h.cx
 have a:=bA [.slice none 0 0,b] 0 w (World.grownBy.refl w (some (w0.heap.size+1+1)))
 refine ⟨h.res.kept a (fun e=>by have:=Option.some.inj e;omega),h.rd.grown a (by omega),h.bx.set rfl,⟨us,hu,f.kept a (fun e=>by have:=Option.some.inj e;omega)⟩,⟨⟨none,0,rfl,by simp,fun h=>absurd rfl h⟩,bM.zD d.log a fun k j e=> ?_,d.capt,d.capl,d.ok⟩,g,below_setCells _ (by omega) _ _ _ h.bel⟩
 have:=g k j
 have:=Option.some.inj e
 omega
theorem Qc (s:ByteArray) (x y:Rd) (w:World) (hs:s.size≤1000000) (b9:Crc w) (h5:4<w.heap.size) (h1:fI (rd0 s) 72=some x) (h2:(x.num 16).2=0) (h3:(x.num 16).1.fin=0) (cv:x.fine)
  (h4:fI ((rd0 s).text 65536).1 69=some y) (db:y.fine) (h6:(jA y).1.fin=0) (cy:(jA y).1.fine) (hz:(jA y).2.1.size≤1000000∧(jA y).2.2.length=32) (h7:aO [] [(jA y).2]=true) (h8:fI (((rd0 s).text 65536).1.text 65536).1 69=none) :
  Calls prog 74 #[.string s] w fun e w'=> ∃v,qh v (((rd0 s).text 65536).1.text 65536).1.pos w e w'∧qj w w' (.slice none 0 0) v [] [(jA y).2]:=by
 obtain ⟨W1,ap⟩:∃W,w.alloc (.cells #[.slice none 0 0,.slice none 0 0] 51)=W:=⟨_,rfl⟩
 have a1:W1.heap.size=w.heap.size+1:=by rw [←ap];simp
 have cL:Below w.heap.size w W1:=by rw [←ap];exact bal
 have cM:ak W1 w.heap.size 51 [.slice none 0 0,.slice none 0 0]:=by rw [←ap];exact ak.new w 51 [.slice none 0 0,.slice none 0 0]
 obtain ⟨W2,al⟩:∃W,W1.alloc (.cells #[.string s,.int .i64 0,.int .i64 0] 276)=W:=⟨_,rfl⟩
 have a6:W2.heap.size=w.heap.size+1+1:=by rw [←al,←a1];simp
 have cf:Below W1.heap.size W1 W2:=by rw [←al];exact bal
 have cw:Arr W2 (w.heap.size+1) 3 (rd0 s).c:=by rw [←a1,←al];exact l9 s W1 _
 obtain ⟨W3,af⟩:∃W,(W2.alloc (.cells #[.slice none 0 0,.slice none 0 0] 51)).alloc (.cells #[.slice none 0 0,.slice none 0 0] 51)=W:=⟨_,rfl⟩
 have a4:Below W2.heap.size W2 W3:=by rw [←af];exact bal.alloc (by simp) _
 have cP:ak W3 (w.heap.size+1+1) 51 [.slice none 0 0,.slice none 0 0]:=by rw [←a6,←af];exact (ak.new W2 51 [.slice none 0 0,.slice none 0 0]).below bal
 have cp:ak W3 (w.heap.size+1+1+1) 51 [.slice none 0 0,.slice none 0 0]:=by
  rw [←a6,←af]
  have:=ak.new (W2.alloc (.cells #[.slice none 0 0,.slice none 0 0] 51)) 51 [.slice none 0 0,.slice none 0 0]
  rwa [World.size_alloc] at this
 have ac:Hid (oG w (rd0 s) [] (.slice none 0 0) W3):=ah ⟨(cM.below cf).below a4,cw.below a4 (by omega),cP,⟨_,rfl,cp⟩,nP W3,fun g hg=>(by cases hg),(cL.trans (cf.mono (by omega))).trans (a4.mono (by omega))⟩
 have cq:=ah (jo s W1)
 have HU:=ah (kY (w.heap.size+1) (rd0 s) 72 W3 ac.out.rd (dG s hs) (b9.below ac.out.bel) (by omega))
 have cj:=ah b9
 have H5:=ah h5
 have cH:=ah ap
 have cl:=ah al
 have cS:=ah af
 have c0:=ah a1
 have da:=ah a6
 unfold uO at HU
 rw [h1] at HU
 dsimp only at HU
 clear ap al af cL cf a4 cM cw cP cp a1 a6 b9 h5
 go_enter func74,ntmps74
 go_wp2_with fail
 rw [cH.out]
 refine iq 2 ?_
 go_wp2_with fail
 refine cq.out.mono ?_
 rintro e w2 ⟨rfl,rfl⟩
 rw [cl.out,c0.out]
 go_upto_region 4 with fail
 rw [cS.out]
 go_wp2_with fail
 refine HU.out.mono ?_
 rintro e w4 ⟨⟨xb,rfl,cX,cz⟩,cm,cJ⟩
 have az:=ah (ac.out.next (r':=((rd0 s).text 65536).1) cJ (fun k Q=> .inl Q) cm)
 have dc:=ac.out.size
 have dd:=az.out.size
 have b7:Hid (w.heap.size+4≤xb):=ah (by omega)
 have bv:=ah (mW xb x 16 w4 cz cv (by decide))
 rw [h2] at bv
 clear cJ cz cm HU ac cH cl cS cq cX dc dd
 rw [da.out]
 go_wp2_with fail
 refine bv.out.mono ?_
 rintro e w5 ⟨rfl,cG,b4⟩
 have cD:=ah (az.out.next (r':=((rd0 s).text 65536).1) (Chg.gF b4 (fun k e=>(Option.some.inj e).symm):Chg (fun k=>k=xb) w4 w5) (fun k Q=> .inr ⟨by rw [Q];exact b7.out,by simp [Value.ownBlock]⟩) (az.out.rd.grown b4 (by have:=b7.out;omega)))
 have ci:=ah cG
 clear cG b4 bv az
 have b6:=ah (jL xb (x.num 16).1 w5 ci.out (Rd.cB x 16 cv).1)
 rw [h3] at b6
 clear ci b7
 go_wp2_with fail
 refine wp_loop_rounds 1 ?_
 rw [rounds_succ]
 go_wp2_with fail
 refine b6.out.mono ?_
 rintro e w6 ⟨rfl,cV⟩
 have aE:=ah (cD.out.on cV)
 have cW:=aE.out.bx.range
 have c9:(prog.info? 51).map (·.size)=some ([.slice none 0 0,.slice none 0 0]:List Value).length:=bN
 have cb:=ah (dH _ _ [] [] w6 aE.out.row)
 rw [yT] at cb
 clear cV b6 cD
 go_wp2_with (refine aX rfl 51 _ rfl (w.heap.size+1+1) 0 rfl _ _ cW underlying51 rfl c9 ?_)
 refine cb.out.mono ?_
 rintro e w7 ⟨rfl,cU⟩
 have O:=ah (aE.out.on cU)
 clear cU cb aE cW
 have cI:=ah (vE (w.heap.size+1) _ w7 O.out.rd)
 have am:=ah (kY (w.heap.size+1) ((rd0 s).text 65536).1 69 w7 O.out.rd (Rd.dI _ _ (dG s hs)) (cj.out.below O.out.bel) (by have:=H5.out;omega))
 unfold uO at am
 rw [h4] at am
 dsimp only at am
 go_wp2_with fail
 rename_i hK
 refine wp_label (hK _ _ ?_)
 go_wp2_with fail
 refine cI.out.mono ?_
 rintro e w8 ⟨rfl,rfl⟩
 go_wp2_with fail
 refine am.out.mono ?_
 rintro e w9 ⟨⟨yb,rfl,c6,cQ⟩,cT,cg⟩
 have ca:Hid (w.heap.size+4≤yb):=ah (by have:=O.out.size;omega)
 have b0:=ah (O.out.next (r':=(((rd0 s).text 65536).1.text 65536).1) cg (fun k Q=> .inl Q) cT)
 have cd:=ah cQ
 clear cT cg am O cI c6 cQ
 go_wp2_with fail
 obtain ⟨q,hq⟩:∃q,(jA y).2=q:=⟨_,rfl⟩
 have HQ:=ah hq
 rw [hq] at hz h7
 have b1:=b0.out.bx.range
 have P:w9.drew.cell? ⟨w.heap.size+1+1,0,none⟩=some (.slice none 0 0)∧w9.drew.cell? ⟨w.heap.size+1+1,1,none⟩=some (.slice none 0 0):=⟨b1 0 _ rfl,b1 1 _ rfl⟩
 clear hq b1
 refine wrL 10 (fun x=>x.cell? ⟨w.heap.size+1+1,0,none⟩=some (.slice none 0 0)∧x.cell? ⟨w.heap.size+1+1,1,none⟩=some (.slice none 0 0)) ?_
 refine WL.tk 0 P ?_
 refine WL.tk 1 P ?_
 refine WL.tk 2 P ?_
 refine WL.tk 3 P ?_
 refine WL.tk 5 P ?_
 refine WL.on 4 ?_
 obtain ⟨R,b2⟩:∃z,w9.drew=z:=⟨_,rfl⟩
 have b5:Below w9.heap.size w9 R:=by rw [←b2];exact (Below.refl _ _).drew
 simp only [b2]
 have ax:=ah (b0.out.on b5)
 have a3:=ah (cd.out.below b5 (cd.out.lt (by omega)))
 have ch:=ah (jc (.slice none 0 0) [] R ax.out.row.log (fun r hr=>by cases hr) (by simp))
 clear b2 b5 b0 cd P
 go_wp2_with fail
 refine ch.out.mono ?_
 rintro e ab ⟨v2,rfl,ad,J⟩
 have S:Hid (R.heap.size≤ab.heap.size):=ah J.size
 have Y:=ah (ax.out.on J)
 have cr:=ah (a3.out.below J (a3.out.lt (by omega)))
 have ce:Hid (ab.ownsRow R.heap.size 93 33 v2 0 (rfV [])):=ah ad
 have cO:Hid (yb<R.heap.size):=ah (a3.out.lt (by omega))
 have bz:Hid (w.heap.size+4≤R.heap.size):=ah ax.out.size
 obtain ⟨o2,c2,rfl⟩:=bO ad
 have cC:ab.cell? ⟨w.heap.size+1+1,0,none⟩=some (.slice none 0 0)∧ab.cell? ⟨w.heap.size+1+1,1,none⟩=some (.slice none 0 0):=⟨Y.out.bx.range 0 _ rfl,Y.out.bx.range 1 _ rfl⟩
 clear ad J ax a3 ch
 go_wp2_with fail
 refine ⟨cC,?_⟩
 refine WL.on 6 ?_
 have a5:=ah (Oz yb y ab cr.out db)
 unfold GK at a5
 rw [HQ.out] at a5
 clear cr cC
 go_wp2_with fail
 refine a5.out.mono ?_
 rintro e l ⟨rfl,bf,u⟩
 have E:=ah (Y.out.next (r':=(((rd0 s).text 65536).1.text 65536).1) u (fun k Q=> .inr ⟨by rw [Q];exact ca.out,by simp [Value.ownBlock]⟩) (Y.out.rd.Rq u (fun e=>by have:=ca.out;omega)))
 have bu:=ah (Mg ce.out u (fun g hg e=>by have:=(ce.out.lt g hg).1;have:=cO.out;omega))
 have X:=ah bf
 replace S:Hid (R.heap.size≤l.heap.size):=ah (Nat.le_trans S.out u.size)
 have cK:l.cell? ⟨w.heap.size+1+1,0,none⟩=some (.slice none 0 0)∧l.cell? ⟨w.heap.size+1+1,1,none⟩=some (.slice none 0 0):=⟨E.out.bx.range 0 _ rfl,E.out.bx.range 1 _ rfl⟩
 clear Y ce a5 bf u
 go_wp2_with fail
 refine ⟨cK,?_⟩
 clear cK
 have aw:=hz.2
 have a2:Hid ((rfC q).length=33):=ah (d9 aw)
 have cN:Hid (∀w,(sizeOf 93).run prog w= .ok (rfC q).length w):=ah fun w=>by rw [a2.out];kernel_rfl
 obtain ⟨zr,cA,_⟩:=iB
 have de:=ah cA
 have a7:=ah (FE q l)
 have K:Below l.heap.size l (l.alloc (.cells (rfC q).toArray 93)):=bal
 have j:=ah (E.out.on K)
 have F:=ah (X.out.below K (X.out.lt (by omega)))
 have C:=ah (own_below bu.out K)
 have H7:Hid (∀r∈[q],r.2.length=32):=ah fun r hr=>by simp at hr;rw [hr];exact aw
 obtain ⟨rc,cR⟩:∃z,rfC q=z:=⟨_,rfl⟩
 rw [cR] at a2 cN a7 j F C ⊢
 obtain ⟨V,I⟩:∃z,l.alloc (.cells rc.toArray 93)=z:=⟨_,rfl⟩
 rw [I] at a7 j F C
 replace S:Hid (R.heap.size≤V.heap.size):=ah (by rw [←I,World.size_alloc];have:=S.out;omega)
 have bd:=ah I
 have ck:V.cell? ⟨w.heap.size+1+1,0,none⟩=some (.slice none 0 0)∧V.cell? ⟨w.heap.size+1+1,1,none⟩=some (.slice none 0 0):=⟨j.out.bx.range 0 _ rfl,j.out.bx.range 1 _ rfl⟩
 clear cR I K E X bu aw cA
 refine WL.on 7 ?_
 go_wp2_with (refine aG rfl _ 49 93 rfl rc zr rfl underlying49 cN.out de.out (by rw [a2.out];omega) (by rw [a2.out];omega) ?_)
 rw [bd.out]
 refine ⟨ck,?_⟩
 clear ck bd
 refine WL.on 8 ?_
 have bn:R.heap.size≤V.heap.size:=S.out
 go_wp2_with (refine fU rfl _ _ rfl R.heap.size (.slice o2 0 c2) 0 [] rfl C.out (some ⟨l.heap.size,0,none⟩) 1 [q] rfl a7.out H7.out (by simp) bn ?_)
 intro dg B ae H
 obtain ⟨o,c3,rfl⟩:=bO ae
 have m:Hid (∀k,(Value.slice o2 0 c2).ownBlock=some k→R.heap.size≤k):=ah fun k Q=>(C.out.lt k Q).1
 have A:=ah (j.out.next (r':=(((rd0 s).text 65536).1.text 65536).1) (Chg.gF H (fun k e=>e):Chg (fun k=>(Value.slice o2 0 c2).ownBlock=some k) V B) (fun k Q=> .inr ⟨by have:=m.out k Q;have:=bz.out;omega,by simp [Value.ownBlock]⟩) (j.out.rd.jS H (fun e=>by have:=m.out _ e;have:=bz.out;omega)))
 have bm:=ah (F.out.jS H (fun e=>by have:=m.out _ e;have:=cO.out;omega))
 have n:B.ownsRow R.heap.size 93 33 (.slice o (0+[q].length) c3) [q].length (rfV [q]):=by simpa using ae
 have f:Hid (gB B (.slice none 0 0) (.slice o 1 c3) [] [q]∧FrB (w.heap.size+4) (.slice o 1 c3)):=ah ⟨⟨⟨none,0,rfl,by simp,fun h=>absurd rfl h⟩,FD rfl n H7.out,fun _ _ _ e=>(by cases e;omega),xL n,fun r hr=>(by simp at hr;rw [hr];exact hz)⟩,fun g hg=>(by have:=(n.lt g hg).1;have:=bz.out;omega)⟩
 have b3:B.cell? ⟨w.heap.size+1+1,0,none⟩=some (.slice none 0 0)∧B.cell? ⟨w.heap.size+1+1,1,none⟩=some (.slice none 0 0):=⟨A.out.bx.range 0 _ rfl,A.out.bx.range 1 _ rfl⟩
 have bs:(0+[q].length:Nat)=1:=rfl
 simp only [bs]
 clear ae n H j F C m bn bs a7
 go_wp2_with fail
 refine ⟨b3,?_⟩
 refine WL.take (i:=9) (v:=.agg #[.slice none 0 0,.slice o 1 c3]) rfl (by kernel_rfl) (by decide) (by decide +kernel) (by decide +kernel) (fun _ _ _ h=>h) rfl (by intro w' _;go_simp) b3 ?_
 simp only [Act.put,nz]
 clear b3
 refine WL.la 10 ?_
 obtain ⟨cF,G⟩:∃z,B.setCells (w.heap.size+1+1+1) 0 [.slice none 0 0,.slice o 1 c3]=z:=⟨_,rfl⟩
 have M:=A.out.Ri (a:=.slice none 0 0) (b:=.slice o 1 c3)
 rw [G] at M
 have bb:=ah M.1
 have br:=ah M.2
 have p:=bA [.slice none 0 0,.slice o 1 c3] 0 B (World.grownBy.refl B (some (w.heap.size+1+1+1)))
 rw [G] at p
 have a8:=ah (bm.out.grown p (by have:=ca.out;omega))
 have bt:Hid (gB cF (.slice none 0 0) (.slice o 1 c3) [] [q]):=ah ⟨⟨none,0,rfl,by simp,fun h=>absurd rfl h⟩,bM.zD f.out.1.log p fun b hb e=>(by have:=f.out.2 b hb;have:=Option.some.inj e;omega),f.out.1.capt,f.out.1.capl,f.out.1.ok⟩
 have co:=ah f.out.2
 obtain ⟨us,c8,cn⟩:=A.out.cx
 have D:=cn.there
 rw [c8] at D
 have be:=ah G
 have b8:=ah bN
 have U:=ah (jL yb (jA y).1 cF a8.out cy)
 rw [h6] at U
 clear G M p A bm f cn
 refine aj rfl 51 _ _ rfl (w.heap.size+1+1+1) 0 [.slice none 0 0,.slice o 1 c3] rfl rfl 2 rfl D b8.out (by intro v hv;simp at hv;rcases hv with rfl|rfl<;>rfl) ?_
 rw [be.out]
 simp only [Act.put,nz]
 go_wp2_with fail
 refine U.out.mono ?_
 rintro e c7 ⟨rfl,N⟩
 have bi:=ah (bb.out.on N)
 have Z:=ah (bt.out.below N)
 have an:=ah (br.out.below N)
 have bk:=an.out.range
 have a0:(prog.info? 51).map (·.size)=some ([.slice none 0 0,.slice o 1 c3]:List Value).length:=bN
 have ai:=ah (dH _ _ [] [q] c7 Z.out)
 rw [h7] at ai
 clear N U bb bt br a8 be D
 go_wp2_with (refine aX rfl 51 _ rfl (w.heap.size+1+1+1) 0 rfl _ _ bk underlying51 rfl a0 ?_)
 refine ai.out.mono ?_
 rintro e cY ⟨rfl,L⟩
 have T:=ah (bi.out.on L)
 have bo:=ah (Z.out.below L)
 have a9:=(an.out.below L).range
 obtain ⟨cs,aq⟩:∃z,cY.setCells (w.heap.size+1+1) 0 [.slice none 0 0,.slice o 1 c3]=z:=⟨_,rfl⟩
 have ag:=T.out.Rj bo.out co.out
 rw [aq] at ag
 have t:=ah ag
 have aa:=T.out.bx.there
 have bp:=ah aq
 clear L ai bi Z an bk aq ag T bo
 go_wp2_with (first
  | refine wpList_load_mid rfl 51 _ rfl (w.heap.size+1+1+1) 0 rfl _ _ a9 underlying51 rfl a0 ?_
  | (refine aj rfl 51 _ _ rfl (w.heap.size+1+1) 0 [.slice none 0 0,.slice o 1 c3] rfl rfl 2 rfl aa b8.out (by intro v hv;simp at hv;rcases hv with rfl|rfl<;>rfl) ?_;rw [bp.out]))
 refine wp_goto ?_
 simp only [Exit.then,Exit.pQ]
 refine vK rfl ?_
 simp only [Act.put,nz]
 have c4:Hid (((rd0 s).text 65536).1.text 65536).1.fine:=ah (Rd.dI _ _ (Rd.dI _ _ (dG s hs)))
 have bj:=ah (vE (w.heap.size+1) _ cs t.out.rd)
 have ar:=ah (kY (w.heap.size+1) (((rd0 s).text 65536).1.text 65536).1 69 cs t.out.rd c4.out (cj.out.below t.out.bel) (by have:=H5.out;omega))
 unfold uO at ar
 rw [h8] at ar
 dsimp only at ar
 clear a9 aa bp
 go_wp2_with fail
 refine bj.out.mono ?_
 rintro e di ⟨rfl,rfl⟩
 go_wp2_with fail
 refine ar.out.mono ?_
 rintro e cc ⟨rfl,bh,bc⟩
 have d:=ah (t.out.next (r':=((((rd0 s).text 65536).1.text 65536).1.text 65536).1) bc (fun k Q=> .inl Q) bh)
 clear bh bc ar t bj
 go_wp2_with fail
 refine wp_goto ?_
 simp only [Exit.then,Exit.pQ]
 refine vK rfl ?_
 obtain ⟨WE,ao⟩:∃z,cc.setCells w.heap.size 0 [.slice none 0 0,.slice o 1 c3]=z:=⟨_,rfl⟩
 have cE:=d.out.bx.range
 have c1:=d.out.res.there
 have df:WE.rangeAt w.heap.size 0 [.slice none 0 0,.slice o 1 c3]:=by rw [←ao];exact (d.out.res.set (us:=[.slice none 0 0,.slice o 1 c3]) rfl).range
 have ba:Hid (Below w.heap.size w WE∧qj w WE (.slice none 0 0) (.slice o 1 c3) [] [q]):=ah (by
  have ct:=bA [.slice none 0 0,.slice o 1 c3] 0 cc (World.grownBy.refl cc (some w.heap.size))
  rw [ao] at ct
  have hf:=d.out.fr
  refine ⟨by rw [←ao];exact below_setCells _ (Nat.le_refl _) _ _ _ d.out.bel,⟨⟨none,0,rfl,by simp,fun h=>absurd rfl h⟩,bM.zD d.out.row.log ct fun b hb e=> ?_,d.out.row.capt,d.out.row.capl,d.out.row.ok⟩,fun g hg=>(by cases hg),fun g hg=> ?_⟩
  ·have:=hf b hb;have:=Option.some.inj e;omega
  have:=hf g hg;omega)
 have c5:=ah ao
 clear ao d
 go_wp2_with (first
  | refine wpList_load_mid rfl 51 _ rfl (w.heap.size+1+1) 0 rfl _ _ cE underlying51 rfl a0 ?_
  | (refine aj rfl 51 _ _ rfl w.heap.size 0 [.slice none 0 0,.slice o 1 c3] rfl rfl 2 rfl c1 b8.out (by intro v hv;simp at hv;rcases hv with rfl|rfl<;>rfl) ?_;rw [c5.out]))
 rw [Exit.lG]
 refine lu rfl w.heap.size 0 rfl [.slice none 0 0,.slice o 1 c3] _ df underlying51 rfl a0 rfl _ _ rfl rfl ?_
 exact ⟨_,⟨rfl,ba.out.1⟩,by rw [HQ.out];exact ba.out.2⟩
structure OpB (w:World) (b:Nat) (d:Value) (vt vl:Value) (t l:List Rf) (n:Nat):Prop where
 box:ak w b 128 [d,vt,vl,.int .i64 (n:Int)]
 row:gB w vt vl t l
theorem OpB.below {w w':World} {b:Nat} {d vt vl:Value} {t l:List Rf} {n:Nat} (h:OpB w b d vt vl t l n) (hb:Below w.heap.size w w'):OpB w' b d vt vl t l n:=⟨h.box.below hb,h.row.below hb⟩
def zl (t l:List Rf) (w:World) (e:Ending) (w':World):Prop:=∃v1 v2,e= .returned (.agg #[v1,v2])∧qj w w' v1 v2 t l∧Below w.heap.size w w'
theorem Bb (w:World) (b:Nat) (d vt vl:Value) (t l:List Rf) (n:Nat) (h:OpB w b d vt vl t l n) (Y:t.length≤1000) (Z:l.length≤1000) :
  Calls prog 50 #[.pointer (some ⟨b,0,none⟩)] w (zl t l w):=by
 obtain ⟨W,L⟩:∃W,w.alloc (.cells #[.slice none 0 0,.slice none 0 0] 51)=W:=⟨_,rfl⟩
 have B:Below w.heap.size w W:=by rw [←L];exact bal
 have k:Hid (ak W w.heap.size 51 [.slice none 0 0,.slice none 0 0]):=ah (by rw [←L];exact ak.new w 51 [.slice none 0 0,.slice none 0 0])
 have j:=ah (h.below B)
 have P:=ah B
 have o:=ah h.row.ok
 have HW:=ah L
 have R:=ah bN
 clear h B L
 go_enter func50,ntmps50
 go_upto_region 3 with fail
 rw [HW.out]
 have f:=j.out.box.range
 have a:W.drew.cell? ⟨b,1,none⟩=some vt∧W.drew.cell? ⟨b,2,none⟩=some vl:=⟨f 1 _ rfl,f 2 _ rfl⟩
 clear f
 refine wrL 13 (fun x=>x.cell? ⟨b,1,none⟩=some vt∧x.cell? ⟨b,2,none⟩=some vl) ?_
 refine WL.tk 0 a ?_
 refine WL.tk 1 a ?_
 refine WL.tk 2 a ?_
 refine WL.tk 3 a ?_
 refine WL.tk 4 a ?_
 refine WL.tk 6 a ?_
 refine WL.tk 7 a ?_
 refine WL.tk 8 a ?_
 refine WL.tk 9 a ?_
 refine WL.tk 10 a ?_
 refine WL.on 5 ?_
 obtain ⟨V,C⟩:∃z,W.drew=z:=⟨_,rfl⟩
 have p:Below W.heap.size W V:=by rw [←C];exact (Below.refl _ _).drew
 simp only [C]
 replace j:=ah (j.out.below p)
 replace k:=ah (k.out.below p)
 have g:=bth P p
 have J:=ah (jc vt t V j.out.row.tab (fun r D=>(o.out r (List.mem_append.2 (.inl D))).2) (by omega))
 clear C p a
 go_wp2_with fail
 refine J.out.mono ?_
 rintro e w1 ⟨v1,rfl,A,s⟩
 have G:=ah (Cl1.mk2 (w1:=w) rfl A g.out.size (fun r D=>(o.out r (List.mem_append.2 (.inl D))).2))
 obtain ⟨u,c1,rfl⟩:=bO A
 replace j:=ah (j.out.below s)
 replace k:=ah (k.out.below s)
 replace g:=bth g s
 have f:=j.out.box.range
 have K:w1.cell? ⟨b,1,none⟩=some vt∧w1.cell? ⟨b,2,none⟩=some vl:=⟨f 1 _ rfl,f 2 _ rfl⟩
 clear A s J f
 go_wp2_with fail
 refine ⟨K,?_⟩
 refine WL.on 11 ?_
 have I:=ah (jc vl l w1 j.out.row.log (fun r D=>(o.out r (List.mem_append.2 (.inr D))).2) (by omega))
 clear K
 go_wp2_with fail
 refine I.out.mono ?_
 rintro e U ⟨v2,rfl,F,m⟩
 have M:=ah (Cl1.mk2 (w1:=w) rfl F g.out.size (fun r D=>(o.out r (List.mem_append.2 (.inr D))).2))
 obtain ⟨y,c2,rfl⟩:=bO F
 replace G:=ah (G.out.below m)
 replace j:=ah (j.out.below m)
 replace k:=ah (k.out.below m)
 replace g:=bth g m
 have f:=j.out.box.range
 have E:U.cell? ⟨b,1,none⟩=some vt∧U.cell? ⟨b,2,none⟩=some vl:=⟨f 1 _ rfl,f 2 _ rfl⟩
 clear F m I f
 go_wp2_with fail
 refine ⟨E,?_⟩
 refine WL.take (i:=12) (v:=.agg #[.slice u t.length c1,.slice y l.length c2]) rfl (by kernel_rfl) (by decide) (by decide +kernel) (by decide +kernel) (fun _ _ _ h=>h) rfl (by intro w' _;go_simp) E ?_
 simp only [Act.put,nz]
 clear E
 refine WL.la 13 ?_
 obtain ⟨N,q⟩:∃z,U.setCells w.heap.size 0 [.slice u t.length c1,.slice y l.length c2]=z:=⟨_,rfl⟩
 have Q:=k.out.there
 have T:N.rangeAt w.heap.size 0 [.slice u t.length c1,.slice y l.length c2]:=by rw [←q];exact (k.out.set (us:=[.slice u t.length c1,.slice y l.length c2]) rfl).range
 have H:Hid (qj w N (.slice u t.length c1) (.slice y l.length c2) t l∧Below w.heap.size w N):=ah (by
  rw [←q]
  exact ⟨⟨⟨G.out.set k.out,M.out.set k.out,G.out.cap,M.out.cap,o.out⟩,G.out.fr,M.out.fr⟩,below_setCells _ (Nat.le_refl _) _ _ _ g.out⟩)
 have O:=ah q
 have S:(prog.info? 51).map (·.size)=some ([.slice u t.length c1,.slice y l.length c2]:List Value).length:=bN
 clear q G M k j
 refine aj rfl 51 _ _ rfl w.heap.size 0 [.slice u t.length c1,.slice y l.length c2] rfl rfl 2 rfl Q R.out (by intro v X;simp at X;rcases X with rfl|rfl<;>rfl) ?_
 rw [O.out]
 simp only [Act.put,nz]
 go_wp2_with fail
 refine bK rfl w.heap.size 0 rfl [.slice u t.length c1,.slice y l.length c2] _ T underlying51 rfl S rfl ?_
 exact ⟨_,_,rfl,H.out⟩
theorem yR (w:World) (b:Nat) (d vt vl:Value) (t l:List Rf) (n:Nat) (x:ByteArray) (h:OpB w b d vt vl t l n) (H:t.length≤1000) (O:l.length≤1000) (hx:x.size≤maxLen) :
  Calls prog 63 #[.pointer (some ⟨b,0,none⟩),.string x] w (dL (fZ t l x) w):=by
 obtain ⟨y,T,F⟩:=Pv
 have m:Below w.heap.size w (w.alloc (.cells y 42)):=bal
 have p:Hid (ak (w.alloc (.cells y 42)) w.heap.size 42 y.toList):=ah (by have:=ak.new w 42 y.toList;simpa using this)
 have K:=ah m
 have o:=ah (Bb _ b d vt vl t l n (h.below m) H O)
 have A:=ah F
 have E:=ah (mX (t:=t) (l:=l) (x:=x) (fun r S=>(h.row.ok r S).2))
 have G:=ah hx
 unfold zl at o
 clear h m F hx
 go_enter func63,ntmps63
 go_wp2_with fail
 refine o.out.mono ?_
 rintro e w1 ⟨v1,v2,rfl,C,s⟩
 have B:=bth K s
 replace p:=ah (p.out.below s)
 have g:=ah (zy v1 v2 t l x w1 C.1 G.out)
 unfold dL at g
 obtain ⟨j,a⟩:∃c,idC (fZ t l x)=c:=⟨_,rfl⟩
 rw [a] at g
 have J:=ah a
 have k:Hid (j.length=32):=ah (by rw [←a,av,E.out])
 have M:Hid (∀v∈j,v.oneCell'=true):=ah (by rw [←a];exact aJ _)
 clear s C o a
 go_wp2_with fail
 refine g.out.mono ?_
 rintro e R ⟨rfl,q⟩
 replace p:=ah (p.out.below q)
 have i:=B.out.trans (q.mono B.out.size)
 obtain ⟨Q,f⟩:∃z,R.setCells w.heap.size 0 j=z:=⟨_,rfl⟩
 have L:R.there w.heap.size 0 32:=by have:=p.out.there;rwa [show y.toList.length=32 from by simpa using A.out] at this
 have N:Q.rangeAt w.heap.size 0 j:=by rw [←f];exact (p.out.set (us:=j) (by rw [k.out];simpa using A.out.symm)).range
 have u:Hid (Below w.heap.size w Q):=ah (by rw [←f];exact below_setCells _ (Nat.le_refl _) _ _ _ i)
 have I:=ah f
 have D:=ah bR
 have P:(prog.info? 42).map (·.size)=some j.length:=by rw [k.out];exact bR
 clear f i q p g
 go_wp2_with (refine aj rfl 42 _ _ rfl w.heap.size 0 j rfl rfl 32 k.out L D.out M.out ?_;rw [I.out])
 refine bK rfl w.heap.size 0 rfl j _ N underlying42 rfl P rfl ?_
 exact ⟨by rw [J.out],u.out⟩
end
end Go.Proofs.YtlhcoanbhnphgaaGreatDoor
