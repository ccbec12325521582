/- A part of this claim. -/
import Derived.Test.YtejamhkgjkhjdaaGreatDoorXn24
import Derived.Test.YtejamhkgjkhjdaaGreatDoorXn25
namespace Go.Proofs.YtejamhkgjkhjdaaGreatDoor
open Tryz
set_option maxHeartbeats 64000000
set_option maxRecDepth 100000
section
open Go.RowKit Go.Maps
theorem zW:∀ {t V W:List Rf},eu V t=some W→ ∀r∈t,aY r.1=true
 | [],_,_,_,r,a=>by cases a
 | x::t,V,W,h,r,a=>by
  unfold eu at h
  split at h
  ·rename_i hb
   rcases List.mem_cons.1 a with rfl|a
   ·unfold q8 at hb
    rw [Bool.and_eq_true,Bool.and_eq_true,Bool.and_eq_true] at hb
    exact hb.1.1.1
   exact zW h r a
  cases h
theorem AZ:∀ {t V W:List Rf},fK V t=some W→ ∀r∈t,aY r.1=true
 | [],_,_,_,r,a=>by cases a
 | x::t,V,W,h,r,a=>by
  unfold fK at h
  split at h
  ·rename_i hb
   rcases List.mem_cons.1 a with rfl|a
   ·unfold tO at hb
    rw [Bool.and_eq_true] at hb
    exact hb.1
   exact AZ h r a
  cases h
theorem EM {s:ByteArray} (h:aY s=true):s.size≤32:=by unfold aY at h;rw [Bool.and_eq_true,decide_eq_true_eq] at h;exact h.2.2
theorem Ee {t l:List Rf} (h:eD t l=true):(∀r∈t++l,r.1.size≤32)∧t.length≤16∧l.length≤100:=by
 have i:=h
 unfold eD at h
 rw [Bool.and_eq_true,decide_eq_true_eq] at h
 obtain ⟨U,b⟩:=Option.isSome_iff_exists.1 h.1
 have g:=Ef 0 i
 obtain ⟨V,e⟩:=g
 rw [List.take_zero] at e
 unfold eY at b e
 cases a:eu [] t with
 | none=>rw [a] at b;cases b
 | some T =>
  rw [a] at b e
  have k:fK T l=some U:=b
  have f:=(yc (V:=[]) (by simp) a).1
  rw [List.nil_append] at f
  have j:eY t []=some T:=by unfold eY;rw [a];rfl
  have:=(Ji j).len
  refine ⟨fun r d=> ?_,by rw [←f];exact this,h.2⟩
  rcases List.mem_append.1 d with d|d
  ·exact EM (zW a r d)
  exact EM (AZ k r d)
def Fu (t l:List Rf) (w:World) (e:Ending) (w':World):Prop :=
 (if eD t l=true then e= .returned (.tuple #[.string (ofB (Fh t l)),.int .i64 0]) else e= .returned (.tuple #[.string ⟨#[]⟩,.int .i64 1]))∧Below w.heap.size w w'
theorem KA {t l:List Rf} {w w':World} (h:eD t l=false) (hb:Below w.heap.size w w'):Fu t l w (.returned (.tuple #[.string ⟨#[]⟩,.int .i64 1])) w':=⟨by rw [h];rfl,hb⟩
theorem Ih {t l:List Rf} {w w':World} (h:eD t l=true) (hb:Below w.heap.size w w'):Fu t l w (.returned (.tuple #[.string (ofB (Fh t l)),.int .i64 0])) w':=⟨by rw [h];rfl,hb⟩
theorem wF {t:List Rf} {j:Nat} (a:j<t.length) (f:Rf→List UInt8):((t.take (j+1)).map f).flatten=((t.take j).map f).flatten++f t[j]:=by
 rw [List.take_succ_eq_append_getElem a,List.map_append,List.flatten_append];simp
theorem vK (vt vl:Value) (t l:List Rf) (w:World) (h:qV w vt vl t l) (b8:Crc w) (h5:5≤w.heap.size) :
  Calls prog 69 #[.agg #[vt,vl]] w (Fu t l w):=by
 obtain ⟨W,hW⟩:∃W,w.alloc (.cells #[vt,vl] 111)=W:=⟨_,rfl⟩
 have a7:Below w.heap.size w W:=by rw [←hW];exact bal
 have bh:ak W w.heap.size 111 [vt,vl]:=by rw [←hW];exact ak.new w 111 [vt,vl]
 have cy:=ah a7
 have O:=ah (h.below a7)
 have HW:=ah hW
 have Z:=ah h.ok
 have cn:=ah b8
 have H5:=ah h5
 have HR:=ah (jh vt vl t l W O.out)
 have ag:=ah bh
 have cG:(prog.info? 111).map (·.size)=some ([vt,vl]:List Value).length:=mZ
 have d0:=bh.range
 clear h a7 bh hW b8 h5
 go_enter func69,ntmps69
 go_upto_region 1 with fail
 rw [HW.out]
 go_wp2_with (refine wpList_load_mid rfl 111 _ rfl w.heap.size 0 rfl _ _ d0 underlying111 rfl cG ?_)
 refine HR.out.mono ?_
 rintro e w1 ⟨rfl,ap⟩
 have bf:=bth cy ap
 replace ag:=ah (ag.out.below ap)
 replace O:=ah (O.out.below ap)
 clear ap HR HW d0
 cases ab:eD t l with
 | false =>
  have bn:=ah (KA (t:=t) (l:=l) (w:=w) ab bf.out)
  clear ab
  go_wp2_with fail
  go_ret2
  exact bn.out
 | true =>
  obtain ⟨hz,cp,cA⟩:=Ee ab
  have aw:=ah (fun x hb=>Ih (t:=t) (l:=l) (w:=w) (w':=x) ab hb)
  have HZ:=ah hz
  obtain ⟨ta,tc,e,_,_⟩:=O.out.tab.open
  subst e
  obtain ⟨la,lc,e,_,_⟩:=O.out.log.open
  subst e
  obtain ⟨wb,U⟩:∃n,w1.heap.size=n:=⟨_,rfl⟩
  obtain ⟨W2,T⟩:∃W,w1.alloc (.cells #[.pointer none,.slice none 0 0] 134)=W:=⟨_,rfl⟩
  have b2:Below w1.heap.size w1 W2:=by rw [←T];exact bal
  have bl:W2.heap.size=wb+1:=by rw [←T,←U];simp
  have cb:Wr wb wb [] W2:=by rw [←U,←T];exact Lib.fresh_isBuilder 134 5 w1
  obtain ⟨W3,af⟩:∃W,W2.alloc (.cells #[.string ⟨#[72]⟩] 9)=W:=⟨_,rfl⟩
  have am:Below W2.heap.size W2 W3:=by rw [←af];exact bal
  have b7:W3.cell? ⟨wb+1,0,none⟩=some (.string ⟨#[72]⟩):=by rw [←bl,←af];exact (ak.new W2 9 [.string ⟨#[72]⟩]).range 0 _ rfl
  have b5:=ah (iA wb wb [] (wb+1) ⟨#[72]⟩ W3 (cb.below am) b7 (by decide) (by have:=am.size;omega))
  have cq:Hid (Below wb w1 W3):=ah ((b2.mono (by omega)).trans (am.mono (by omega)))
  have b4:Hid (w1.heap.size=wb):=ah U
  have A:Hid (∀x,Below wb w1 x→ak x w.heap.size 111 [.slice ta t.length tc,.slice la l.length lc]∧qV x (.slice ta t.length tc) (.slice la l.length lc) t l∧Below w.heap.size w x):=ah fun x hx=>by
   rw [←U] at hx
   exact ⟨ag.out.below hx,O.out.below hx,bf.out.trans (hx.mono bf.out.size)⟩
  have cw:Hid (w.heap.size+1≤wb):=ah (by have:=ag.out.lt;omega)
  have cF:=ah bl
  have b1:=ah T
  have cc:=ah af
  clear b2 bl cb am b7 T af hz ab
  go_upto_region 4 with fail
  rw [b1.out]
  clear U
  go_wp2_with fail
  rw [cF.out,cc.out]
  refine b5.out.mono ?_
  rintro e w4 ⟨rfl,a0,b0⟩
  have bj:Hid (Below wb w1 w4):=ah (cq.out.trans b0)
  obtain ⟨W5,ae⟩:∃W,w4.alloc (.cells #[.int .i64 (t.length:Int)] 3)=W:=⟨_,rfl⟩
  have an:Below w4.heap.size w4 W5:=by rw [←ae];exact bal
  have ch:W5.cell? ⟨w4.heap.size,0,none⟩=some (.int .i64 (t.length:Int)):=by rw [←ae];exact (ak.new w4 3 [.int .i64 (t.length:Int)]).range 0 _ rfl
  have cP:=bj.out.size
  have cN:=a0.lt
  have b9:=(A.out w4 bj.out).1.range
  have e4:w4.cell? ⟨w.heap.size,0,none⟩=some (.slice ta t.length tc):=b9 0 _ rfl
  have cd:=ah (iW wb wb _ w4.heap.size t.length W5 (a0.below an) ch (by omega) (by simp) (by have:=an.size;omega))
  have cE:Hid (Below wb w1 W5):=ah (bj.out.trans (an.mono (by omega)))
  have ck:=ah ae
  clear a0 b0 ae an ch b5 b1 cc b9 cP cN
  go_wp2_with fail
  rw [ck.out]
  refine cd.out.mono ?_
  rintro e w6 ⟨rfl,cj,bs⟩
  have bu:Hid (Below wb w1 w6):=ah (cE.out.trans bs)
  have cI:Hid (Wr wb wb (72::(aM t.length++((t.take 0).map jk).flatten)) w6):=ah (by simpa using cj)
  have e6:w6.cell? ⟨w.heap.size,0,none⟩=some (.slice ta t.length tc):=(A.out w6 bu.out).1.range 0 _ rfl
  clear cj bs cd ck e4
  go_upto_region 7 with fail
  clear e6
  have al:=ah cp
  go_loopw [6,23] (fun _ i wr=> ∃j:Nat,j≤t.length∧i= .int .i64 (j:Int)∧Hid (Wr wb wb (72::(aM t.length++((t.take j).map jk).flatten)) wr)∧Hid (Below wb w1 wr)) (fun _ i _=>(t.length-intOf i).toNat)
  case atStart=>exact ⟨0,by omega,rfl,cI,bu⟩
  obtain ⟨a,rfl⟩:∃a:World,a=wr:=⟨_,rfl⟩
  obtain ⟨j,hj,rfl,D,L⟩:=hrel
  by_cases g:j<t.length
  ·obtain ⟨cQ,cV,e2,cv,V⟩:=((A.out a L.out).2.1.tab).open
   have a1:ta=cQ:=by injection e2
   subst a1
   clear e2
   obtain ⟨b,off,rfl,cL,m⟩:=V (by intro e;rw [e] at g;simp at g)
   have I:=m j g
   have k0:(0:Int)≤j:=by omega
   have k1:(j:Int)<t.length:=by omega
   have wk:IntKind.i64.wrap ((j:Int)+1)=(j:Int)+1:=IntWalk.i64_in _ (by unfold maxLen at cv;omega)
   have H:=ah (wF g jk)
   have K:=HZ.out t[j] (List.mem_append.2 (.inl (List.getElem_mem g)))
   have d:=(Z.out t[j] (List.mem_append.2 (.inl (List.getElem_mem g)))).2
   have J:Hid (((t.take j).map jk).flatten.length≤1600):=ah (by
    have:=rR (f:=jk) (n:=70) (l:=t.take j) fun x hx=>yG (HZ.out x (List.mem_append.2 (.inl (List.take_subset _ _ hx)))) (Z.out x (List.mem_append.2 (.inl (List.take_subset _ _ hx)))).2
    have h2:(t.take j).length≤16:=by rw [List.length_take];have:=al.out;omega
    have h3:(t.take j).length*70≤16*70:=Nat.mul_le_mul_right _ h2
    omega)
   have R:Hid ((aM t.length).length≤6):=ah (oF _ (by have:=al.out;omega))
   obtain ⟨L2,a4⟩:∃x,((t.take (j+1)).map jk).flatten=x:=⟨_,rfl⟩
   rw [a4] at H
   have cH:=ah a4
   clear a4
   generalize ((t.take j).map jk).flatten=L1 at H D J
   generalize t[j]=r at I K d H
   obtain ⟨zs,cM,G⟩:=oh
   have y:(rfC r).length=33:=rE d
   have q:(prog.info? 191).map (·.size)=some (rfC r).length:=by rw [y];exact jV
   have S:(a.alloc (.cells zs 191)).there a.heap.size 0 33:=there_alloc a zs 191 G
   obtain ⟨F,v⟩:∃W,(a.alloc (.cells zs 191)).setCells a.heap.size 0 (rfC r)=W:=⟨_,rfl⟩
   have k:Below a.heap.size a F:=by rw [←v];exact below_setCells _ (Nat.le_refl _) _ _ _ bal
   have E:ak F a.heap.size 191 (rfC r):=by rw [←v];exact ak.set (cs:=zs.toList) (by have:=ak.new a 191 zs.toList;simpa using this) (by rw [y];simpa using G.symm)
   have d0:F.cell? ⟨a.heap.size,0,none⟩=some (.string r.1):=E.range 0 _ rfl
   obtain ⟨W8,ao⟩:∃W,F.alloc (.cells #[.string r.1] 9)=W:=⟨_,rfl⟩
   have z:Below F.heap.size F W8:=by rw [←ao];exact bal
   have bt:W8.cell? ⟨F.heap.size,0,none⟩=some (.string r.1):=by rw [←ao];exact (ak.new F 9 [.string r.1]).range 0 _ rfl
   have C:=L.out.size
   have Y:=D.out.lt
   have ba:=k.size
   have cT:=z.size
   have cD:Hid (wb<a.heap.size∧a.heap.size<W8.heap.size):=ah ⟨Y,by have:=E.lt;omega⟩
   have HT:=ah (Iu wb wb _ F.heap.size r.1 W8 ((D.out.below k).below z) bt (by omega) (by
    have h1:=J.out
    have h2:=R.out
    rw [List.length_cons,List.length_append];omega) (by omega))
   have bi:=ah (E.below z)
   have a2:Hid (Below wb w1 W8):=ah ((L.out.trans (k.mono (by omega))).trans (z.mono (by omega)))
   have P:=ah v
   have cm:=ah ao
   have a6:=ah S
   have aa:=ah (rD r)
   have a8:=ah jV
   have B:Hid ((idC r.2).length=32):=ah (by rw [aA,d])
   have az:(prog.info? 143).map (·.size)=some (idC r.2).length:=by rw [B.out];exact rM
   have ca:Hid (∀w,(sizeOf 143).run prog w= .ok (idC r.2).length w):=ah fun w=>by rw [B.out];kernel_rfl
   obtain ⟨zi,i0,_,_,_,_,ar,_⟩:=gL
   have cR:=ah ar
   have Q:Hid (∀j u,(idC r.2)[j]? = some u→(rfC r)[j+1]? = some u):=ah fun j u hu=>by unfold rfC;rw [List.getElem?_cons_succ];exact hu
   clear v k E ao z bt S G V m ba cT C ar
   generalize be:rfC r=rc at bi P Q I y q aa
   clear be
   generalize b6:idC r.2=ci at az ca B Q
   have cx:=ah b6
   clear b6
   go_wp2_with (first
    | refine wpList_load_mid rfl 191 _ rfl b (off+j*33) rfl rc _ I underlying191 rfl q ?_
    | (refine aj rfl 191 _ _ rfl a.heap.size 0 rc rfl rfl 33 y a6.out a8.out aa.out ?_;rw [P.out]))
   rw [cm.out]
   refine HT.out.mono ?_
   rintro e w9 ⟨rfl,bc,bb⟩
   have bz:ak w9 a.heap.size 191 rc:=bb.off _ _ bi.out (by have:=cD.out;omega) (fun cur e=>by injection e with _ h2;exact absurd h2 (by decide))
   have d1:w9.rangeAt a.heap.size 1 ci:=fun j u hu=>by
    have:=bz.range (j+1) u (Q.out j u hu)
    rw [Nat.zero_add] at this
    rw [Nat.add_comm 1 j];exact this
   have cz:Hid (Below wb w1 w9):=ah (a2.out.trans bb.bel)
   obtain ⟨ai,N⟩:∃W,w9.alloc (.cells ci.toArray 143)=W:=⟨_,rfl⟩
   have M:Below w9.heap.size w9 ai:=by rw [←N];exact bal
   have aE:ak ai w9.heap.size 143 ci:=by rw [←N];exact ak.new w9 143 ci
   have br:=bc.lt
   have HI:=ah (vW wb wb _ w9.heap.size r.2 ai (bc.below M) (by rw [cx.out];exact aE.range) d (by
    have h1:=J.out
    have h2:=R.out
    have h3:=oF r.1.size (by omega)
    have h4:=jq r.1
    rw [List.length_append,List.length_cons,List.length_append,List.length_append]
    omega) (by have:=M.size;omega))
   have b3:Hid (Below wb w1 ai):=ah (cz.out.trans (M.mono (by omega)))
   have aq:=ah N
   have a3:Hid (72::(aM t.length++L1)++(aM r.1.size++r.1.data.toList)++r.2=72::(aM t.length++L2)):=ah (by
    rw [H.out];unfold jk FI;rw [jq];simp)
   clear bc bb bz M aE N br HT bi cm P
   go_wp2_with (first
    | refine wpList_load_mid rfl 143 _ rfl a.heap.size 1 rfl ci _ d1 underlying143 rfl az ?_
    | refine aO rfl _ 106 143 rfl ci zi rfl underlying106 ca.out cR.out (by rw [B.out];omega) (by rw [B.out];omega) ?_)
   rw [aq.out]
   refine HI.out.mono ?_
   rintro e bx ⟨rfl,ac,ax⟩
   rw [a3.out] at ac
   have HE:Hid (Wr wb wb (72::(aM t.length++L2)) bx∧Below wb w1 bx):=ah ⟨ac,b3.out.trans ax⟩
   clear ac ax HI aq
   rw [←cH.out] at HE
   go_wp2_with fail
   go_roundw
   case rel=>exact ⟨j+1,by omega,by go_num,ah HE.out.1,ah HE.out.2⟩
   case measure=>simp [intOf];omega
  obtain rfl:j=t.length:=by omega
  have k2:¬((t.length:Int)<t.length):=by omega
  rw [List.take_length] at D
  have Y:=D.out.lt
  have C:=L.out.size
  have p:=(A.out a L.out).2.2
  have J:Hid ((t.map jk).flatten.length≤1600):=ah (by
   have:=rR (f:=jk) (n:=70) (l:=t) fun x hx=>yG (HZ.out x (List.mem_append.2 (.inl hx))) (Z.out x (List.mem_append.2 (.inl hx))).2
   have h3:t.length*70≤16*70:=Nat.mul_le_mul_right _ al.out
   omega)
  have R:Hid ((aM t.length).length≤6):=ah (oF _ (by have:=al.out;omega))
  have Q:=ah (sS wb wb _ a D.out (by simp) (by
   have h1:=J.out
   have h2:=R.out
   rw [List.length_cons,List.length_append];omega) (by omega) (by have:=cw.out;have:=H5.out;omega) (cn.out.nG p H5.out))
  have bo:Hid ((uq t).length≤1700):=ah (by
   unfold uq
   have h1:=J.out
   have h2:=R.out
   have h3:=Ey (s:=72::(aM t.length++(t.map jk).flatten)) (by rw [List.length_cons,List.length_append];omega)
   rw [List.length_cons,List.length_append] at h3
   omega)
  clear Y C p J R D
  go_wp2_with fail
  refine Q.out.mono ?_
  rintro e w7 ⟨rfl,k⟩
  have bp:=ah (L.out.trans k)
  have e7:w7.cell? ⟨w.heap.size,1,none⟩=some (.slice la l.length lc):=(A.out w7 bp.out).1.range 1 _ rfl
  have cg:Ga (72::(aM t.length++(t.map jk).flatten))=uq t:=rfl
  rw [cg]
  clear k cg Q L
  go_upto_region 14 with fail
  have ce:Hid (uq t=uq t++((l.take 0).map uO).flatten):=ah (by simp)
  obtain ⟨HD,a5⟩:∃x,uq t=x:=⟨_,rfl⟩
  rw [a5] at ce bo ⊢
  have ct:=ah a5
  clear a5 e7
  have cC:=ah cA
  go_loopw [7,9,40] (fun o _ i wr=> ∃j:Nat,j≤l.length∧i= .int .i64 (j:Int)∧(∃X:ByteArray,o= .string X∧Hid (X=ofB (HD++((l.take j).map uO).flatten)))∧Hid (Below wb w1 wr)) (fun _ _ i _=>(l.length-intOf i).toNat)
  case atStart=>exact ⟨0,by omega,rfl,⟨_,rfl,ah (by rw [←ce.out])⟩,bp⟩
  obtain ⟨a,rfl⟩:∃a:World,a=wr:=⟨_,rfl⟩
  obtain ⟨j,hj,rfl,⟨X,rfl,HX⟩,L⟩:=hrel
  by_cases g:j<l.length
  ·obtain ⟨cJ,cY,e2,co,V⟩:=((A.out a L.out).2.1.log).open
   have a1:la=cJ:=by injection e2
   subst a1
   clear e2
   obtain ⟨b,off,rfl,cL,m⟩:=V (by intro e;rw [e] at g;simp at g)
   have I:=m j g
   have k0:(0:Int)≤j:=by omega
   have k1:(j:Int)<l.length:=by omega
   have wk:IntKind.i64.wrap ((j:Int)+1)=(j:Int)+1:=IntWalk.i64_in _ (by unfold maxLen at co;omega)
   have H:=ah (wF g uO)
   have K:=HZ.out l[j] (List.mem_append.2 (.inr (List.getElem_mem g)))
   have d:=(Z.out l[j] (List.mem_append.2 (.inr (List.getElem_mem g)))).2
   have bm:Hid (X.size≤10000):=ah (by
    have:=rR (f:=uO) (n:=81) (l:=l.take j) fun x hx=>E5 (HZ.out x (List.mem_append.2 (.inr (List.take_subset _ _ hx)))) (Z.out x (List.mem_append.2 (.inr (List.take_subset _ _ hx)))).2
    have h2:(l.take j).length≤100:=by rw [List.length_take];have:=cC.out;omega
    have h3:(l.take j).length*81≤100*81:=Nat.mul_le_mul_right _ h2
    have h4:=bo.out
    rw [HX.out,aK,List.length_append]
    omega)
   have bk:=ah (E5 K d)
   have p:=(A.out a L.out).2.2
   have bd:Hid (X++ofB (uO l[j])=ofB (HD++((l.take (j+1)).map uO).flatten)):=ah (by rw [H.out,HX.out,←dh,List.append_assoc])
   clear H HX
   generalize l[j]=r at I K d bk bd
   obtain ⟨zs,cM,G⟩:=oh
   have y:(rfC r).length=33:=rE d
   have q:(prog.info? 191).map (·.size)=some (rfC r).length:=by rw [y];exact jV
   have S:(a.alloc (.cells zs 191)).there a.heap.size 0 33:=there_alloc a zs 191 G
   obtain ⟨F,v⟩:∃W,(a.alloc (.cells zs 191)).setCells a.heap.size 0 (rfC r)=W:=⟨_,rfl⟩
   have k:Below a.heap.size a F:=by rw [←v];exact below_setCells _ (Nat.le_refl _) _ _ _ bal
   have E:ak F a.heap.size 191 (rfC r):=by rw [←v];exact ak.set (cs:=zs.toList) (by have:=ak.new a 191 zs.toList;simpa using this) (by rw [y];simpa using G.symm)
   have bv:=E.range
   have C:=L.out.size
   have ba:=k.size
   have cS:=L.out.size
   have cr:Hid (Below wb w1 F):=ah (L.out.trans (k.mono (by have:=b4.out;omega)))
   have ad:=ah (zf r F (by omega) d (by have:=H5.out;have:=p.size;omega) ((cn.out.nG p H5.out).below k))
   have P:=ah v
   have a6:=ah S
   have aa:=ah (rD r)
   have a8:=ah jV
   have cl:Hid (wb≤F.heap.size):=ah (by have:=b4.out;omega)
   clear v k E S G V m ba C cS p
   obtain ⟨eb,a9⟩:∃x,ofB (uO r)=x:=⟨_,rfl⟩
   rw [a9] at ad bd
   have cX:eb.size≤81:=by rw [←a9,aK];exact bk.out
   have cW:=bm.out
   have cU:∀W,(Op.stringOp .add X eb).run prog W= .ok (.string (X++eb)) W:=fun W=>run_string_add W _ _ (by omega) (by omega)
   clear a9 bk bm
   generalize be:rfC r=rc at P ad I y q aa bv
   clear be
   go_wp2_with (first
    | refine wpList_load_mid rfl 191 _ rfl b (off+j*33) rfl rc _ I underlying191 rfl q ?_
    | (refine aj rfl 191 _ _ rfl a.heap.size 0 rc rfl rfl 33 y a6.out a8.out aa.out ?_;rw [P.out])
    | refine wpList_load_mid rfl 191 _ rfl a.heap.size 0 rfl rc _ bv underlying191 rfl q ?_)
   refine ad.out.mono ?_
   rintro e w8 ⟨rfl,z⟩
   have a2:Hid (Below wb w1 w8):=ah (cr.out.trans (z.mono cl.out))
   clear z ad
   go_wp2_with fail
   go_roundw
   case rel=>exact ⟨j+1,by omega,by go_num,⟨_,rfl,bd⟩,a2⟩
   case measure=>simp [intOf];omega
  obtain rfl:j=l.length:=by omega
  have k2:¬((l.length:Int)<l.length):=by omega
  rw [List.take_length] at HX
  have cf:=ah (aw.out a (A.out a L.out).2.2)
  have a3:Hid (X=ofB (Fh t l)):=ah (by rw [HX.out,←ct.out];rfl)
  clear HX aw
  go_wp2_with fail
  go_ret2
  rw [a3.out]
  exact cf.out
end
section
open Go.RowKit Go.Maps Go.Shelf
theorem LA (s:List UInt8) (c:UInt8):Lib.hasPrefix s [c]=decide (s.head? = some c)∧(s.head? = some c→Lib.trimPrefix s [c]=s.drop 1):=by
 cases s with
 | nil=>exact ⟨by simp [Lib.hasPrefix],by simp⟩
 | cons a s =>
  by_cases h:a=c
  ·subst h;exact ⟨by simp [Lib.hasPrefix],fun _=>by simp [Lib.trimPrefix,Lib.hasPrefix]⟩
  exact ⟨by simp [Lib.hasPrefix,List.isPrefixOf,h,Ne.symm h],fun b=>by simp at b;exact absurd b h⟩
theorem Rd.wB (r:Rd) (a:Nat) (h:r.fine):(r.text a).2.size≤a:=by
 have h1:=(Rd.bK r a h).2
 have b:=Rd.kY (r.num a).1 (r.num a).2
 unfold Rd.text
 split
 ·simp
 split
 ·simp
 omega
theorem Ic (s:ByteArray) (c:UInt8) (w:World):Calls prog 171 #[.string s,.string ⟨#[c]⟩] w fun e w'=>e= .returned (.tuple #[.string ⟨(Lib.trimPrefix s.data.toList [c]).toArray⟩,.bool (Lib.hasPrefix s.data.toList [c])])∧w'=w :=
 Any.strings_CutPrefix Tryz.lays103 s ⟨#[c]⟩ w
theorem Ie {w w':World} {b:Nat} (d:Crc w) (a:w.grownBy w' (some b)) (hb:2<b):Crc w':=⟨jc d.row a (fun e=>by have:=Option.some.inj e;omega),Nat.lt_of_lt_of_le d.lt a.size⟩
def Ce (r:Rd) (c:UInt8) (b:Nat) (w:World) (e:Ending) (w':World):Prop :=
 (match jg r c with
 | none=>e= .returned (.pointer none)
 | some x=> ∃n,e= .returned (.pointer (some ⟨n,0,none⟩))∧w.heap.size≤n∧Arr w' n 3 x.c)∧Arr w' b 3 (r.text 65536).1.c∧Chg (fun k=>k=b) w w'
theorem IC {r:Rd} {c:UInt8} {b:Nat} {w w':World} (h:jg r c=none) (h1:Arr w' b 3 (r.text 65536).1.c) (a:Chg (fun k=>k=b) w w'):Ce r c b w (.returned (.pointer none)) w':=⟨by rw [h],h1,a⟩
theorem FE {r x:Rd} {c:UInt8} {b n:Nat} {w w':World} (h:jg r c=some x) (a:w.heap.size≤n) (e:Arr w' n 3 x.c) (h1:Arr w' b 3 (r.text 65536).1.c) (d:Chg (fun k=>k=b) w w'):Ce r c b w (.returned (.pointer (some ⟨n,0,none⟩))) w':=⟨by rw [h];exact ⟨n,rfl,a,e⟩,h1,d⟩
theorem wh (b:Nat) (r:Rd) (c:UInt8) (w:World) (S:Arr w b 3 r.c) (N:r.fine) (O:Crc w) (hb:2<b):Calls prog 130 #[.pointer (some ⟨b,0,none⟩),.string ⟨#[c]⟩] w (Ce r c b w):=by
 have L:=ah (jB b r 65536 w S N (by decide))
 have U:=ah O
 have K:(r.text 65536).2.size≤65536:=Rd.wB _ _ N
 have o:=ah (fun w' h=>IC (r:=r) (c:=c) (b:=b) (w:=w) (w':=w') h)
 have u:=ah (fun x n w' h=>FE (r:=r) (x:=x) (c:=c) (b:=b) (n:=n) (w:=w) (w':=w') h)
 have d:Hid (jg r c=if gV (r.text 65536).2=true∧(unS (r.text 65536).2).data.toList.head? = some c∧(r.text 65536).1.err=0 then some (rd0 (ofB ((unS (r.text 65536).2).data.toList.drop 1))) else none):=ah rfl
 clear S O N
 obtain ⟨T,R⟩:∃T,r.text 65536=T:=⟨_,rfl⟩
 rw [R] at L K o u d
 clear R
 go_enter func130,ntmps130
 go_wp2_with fail
 refine L.out.mono ?_
 rintro e w1 ⟨rfl,B,t⟩
 have I:=ah (Ie U.out t hb)
 have V:=ah (mJ T.2 w1 I.out (by omega))
 have J:Hid (Chg (fun k=>k=b) w w1):=ah (Chg.dW t (fun k e=>(Option.some.inj e).symm))
 have z:=ah B
 clear B t L
 go_wp2_with fail
 refine V.out.mono ?_
 rintro e j ⟨rfl,q⟩
 have F:=z.out.lt (by omega)
 have i:=ah (z.out.below q F)
 have l:Hid (Chg (fun k=>k=b) w j):=ah (J.out.trans (Chg.of_below q))
 have a:=ah (Ic (unS T.2) c j)
 obtain ⟨H,C⟩:=LA (unS T.2).data.toList c
 have f:=ah C
 rw [H] at a
 have E:=ah (nO b T.1 j i.out)
 clear q H C F
 generalize D:gV T.2=P at d ⊢
 generalize y:unS T.2=A at d a f ⊢
 obtain ⟨tp,g⟩:∃x,Lib.trimPrefix A.data.toList [c]=x:=⟨_,rfl⟩
 rw [g] at a f
 have W:=ah y
 have Z:=ah D
 clear g y D
 by_cases h1:P=true
 ·by_cases m:A.data.toList.head? = some c
  ·rw [decide_eq_true m] at a
   have g:=f.out m
   by_cases v:T.1.err=0
   ·rw [if_pos ⟨h1,m,v⟩] at d
    have G:(⟨tp.toArray⟩:ByteArray)=ofB (A.data.toList.drop 1):=by rw [g];rfl
    rw [G] at a
    obtain ⟨X,Q⟩:∃X,ofB (A.data.toList.drop 1)=X:=⟨_,rfl⟩
    rw [Q] at a d
    have M:=ah (gJ X j)
    have s:Below j.heap.size j (j.alloc (.cells #[.string X,.int .i64 0,.int .i64 0] 124)):=bal
    have p:=ah (u.out _ j.heap.size _ d.out l.out.size (eF X j _) (i.out.below s (i.out.lt (by omega))) (l.out.trans (Chg.of_below s)))
    rw [v] at E
    subst h1
    clear m v o u d f g G Q s
    go_wp2_with fail
    refine a.out.mono ?_
    rintro e w3 ⟨rfl,rfl⟩
    go_wp2_with fail
    refine E.out.mono ?_
    rintro e Y ⟨rfl,rfl⟩
    go_wp2_with fail
    refine M.out.mono ?_
    rintro e w5 ⟨rfl,rfl⟩
    go_wp2_with fail
    go_ret
    exact p.out
   rw [if_neg (fun h=>v h.2.2)] at d
   have p:=ah (o.out j d.out i.out l.out)
   have he:((T.1.err:Int)==0)=false:=by simpa using v
   subst h1
   clear m v o u d f g
   go_wp2_with fail
   refine a.out.mono ?_
   rintro e w3 ⟨rfl,rfl⟩
   go_wp2_with fail
   refine E.out.mono ?_
   rintro e Y ⟨rfl,rfl⟩
   go_wp2_with fail
   go_ret
   exact p.out
  rw [decide_eq_false m] at a
  rw [if_neg (fun h=>m h.2.1)] at d
  have p:=ah (o.out j d.out i.out l.out)
  subst h1
  clear m o u d E f
  go_wp2_with fail
  refine a.out.mono ?_
  rintro e w3 ⟨rfl,rfl⟩
  go_wp2_with fail
  go_ret
  exact p.out
 obtain rfl:P=false:=by simpa using h1
 rw [if_neg (fun h=>by cases h.1)] at d
 have p:=ah (o.out j d.out i.out l.out)
 clear h1 o u d E f
 generalize decide (A.data.toList.head? = some c)=hd at a
 go_wp2_with fail
 refine a.out.mono ?_
 rintro e w3 ⟨rfl,rfl⟩
 go_wp2_with fail
 go_ret
 exact p.out
theorem Eh:eD [] []=true:=by decide +kernel
theorem u6 (w:World):qV w (.slice none 0 0) (.slice none 0 0) [] []:=⟨⟨none,0,rfl,by simp,fun h=>absurd rfl h⟩,⟨none,0,rfl,by simp,fun h=>absurd rfl h⟩,fun _ _ _ e=>by cases e;omega,fun _ _ _ e=>by cases e;omega,fun r a=>by cases a⟩
def zD (v:Value) (n:Nat) (w:World) (e:Ending) (w':World):Prop:=e= .returned (.tuple #[.agg #[.slice none 0 0,v],.int .i64 (n:Int),.int .i64 0])∧Below w.heap.size w w'
structure zy (w0:World) (r:Rd) (l:List Rf) (v:Value) (w:World):Prop where
 res:ak w w0.heap.size 111 [.slice none 0 0,.slice none 0 0]
 rd:Arr w (w0.heap.size + 1) 3 r.c
 bx:ak w (w0.heap.size + 1 + 1) 111 [.slice none 0 0,v]
 cx:∃ us,us.length = 2 ∧ ak w (w0.heap.size + 1 + 1 + 1) 111 us
 row:qV w (.slice none 0 0) v [] l
 fr:FrB (w0.heap.size + 4) v
 bel:Below w0.heap.size w0 w
theorem dF.NK {S:Nat→Prop} {w w':World} {v:Value} {sz:Nat} {rows:List (List Value)} (h:dF w v sz rows) (f:Chg S w w') (d:∀b,v.ownBlock=some b→ ¬S b):dF w' v sz rows:=by
 obtain ⟨l,e,rfl,hm,g⟩:=h
 refine ⟨l,e,rfl,hm,fun k=> ?_⟩
 obtain ⟨b,off,rfl,hb,a⟩:=g k
 refine ⟨b,off,rfl,Nat.lt_of_lt_of_le hb f.size,fun i hi j u hu=> ?_⟩
 rw [World.cell?_of_block (f.block b hb (d b rfl))]
 exact a i hi j u hu
theorem zy.size {w0 w:World} {r:Rd} {l:List Rf} {v:Value} (h:zy w0 r l v w):w0.heap.size+4≤w.heap.size:=by
 obtain ⟨us,_,hb⟩:=h.cx
 have:=hb.lt
 omega
theorem zy.next {w0 w w':World} {r r':Rd} {l:List Rf} {v:Value} {S:Nat→Prop} (h:zy w0 r l v w) (d:Chg S w w') (hS:∀k,S k→k=w0.heap.size+1∨(w0.heap.size+4≤k∧v.ownBlock≠some k)) (j:Arr w' (w0.heap.size+1) 3 r'.c):zy w0 r' l v w':=by
 have a:∀k,k≠w0.heap.size+1→k<w0.heap.size+4→ ¬S k:=fun k h1 m f=>by rcases hS k f with h|h<;>omega
 obtain ⟨us,hu,e⟩:=h.cx
 have i:∀b,v.ownBlock=some b→ ¬S b:=fun b hb f=>by
  have:=h.fr b hb
  rcases hS b f with h|h
  ·omega
  exact h.2 hb
 refine ⟨(d.block _ h.res.lt (a _ (by omega) (by omega))).trans h.res,j,(d.block _ h.bx.lt (a _ (by omega) (by omega))).trans h.bx,⟨us,hu,(d.block _ e.lt (a _ (by omega) (by omega))).trans e⟩,⟨⟨none,0,rfl,by simp,fun h=>absurd rfl h⟩,dF.NK h.row.log d i,h.row.capt,h.row.capl,h.row.ok⟩,h.fr,Chg.below h.bel d h.bel.size fun k g=> ?_⟩
 rcases hS k g with h|h<;>omega
theorem zy.on {w0 w w':World} {r:Rd} {l:List Rf} {v:Value} (h:zy w0 r l v w) (hb:Below w.heap.size w w'):zy w0 r l v w' :=
 h.next (Chg.of_below hb:Chg (fun _=>False) w w') (fun k a=>a.elim) (h.rd.below hb (by have:=h.size;omega))
theorem MG (s:ByteArray) (x:Rd) (w:World) (hs:s.size≤1000000) (C:Crc w) (h5:2<w.heap.size) (h1:jg (rd0 s) 72=some x) (h2:(x.num 16).2=0) (h3:(x.num 16).1.fin=0) (S:x.fine)
  (h4:jg ((rd0 s).text 65536).1 69=none):Calls prog 68 #[.string s] w (zD (.slice none 0 0) ((rd0 s).text 65536).1.pos w):=by
 obtain ⟨t,h⟩:∃W,w.alloc (.cells #[.slice none 0 0,.slice none 0 0] 111)=W:=⟨_,rfl⟩
 have m:t.heap.size=w.heap.size+1:=by rw [←h];simp
 have af:Below w.heap.size w t:=by rw [←h];exact bal
 have J:ak t w.heap.size 111 [.slice none 0 0,.slice none 0 0]:=by rw [←h];exact ak.new w 111 [.slice none 0 0,.slice none 0 0]
 obtain ⟨r,b⟩:∃W,t.alloc (.cells #[.string s,.int .i64 0,.int .i64 0] 124)=W:=⟨_,rfl⟩
 have q:r.heap.size=w.heap.size+1+1:=by rw [←b,←m];simp
 have z:Below t.heap.size t r:=by rw [←b];exact bal
 have L:Arr r (w.heap.size+1) 3 (rd0 s).c:=by rw [←m,←b];exact eF s t _
 obtain ⟨G,d⟩:∃W,(r.alloc (.cells #[.slice none 0 0,.slice none 0 0] 111)).alloc (.cells #[.slice none 0 0,.slice none 0 0] 111)=W:=⟨_,rfl⟩
 have o:Below r.heap.size r G:=by rw [←d];exact bal.alloc (by simp) _
 have ag:ak G (w.heap.size+1+1) 111 [.slice none 0 0,.slice none 0 0]:=by rw [←q,←d];exact (ak.new r 111 [.slice none 0 0,.slice none 0 0]).below bal
 have V:ak G (w.heap.size+1+1+1) 111 [.slice none 0 0,.slice none 0 0]:=by
  rw [←q,←d]
  have:=ak.new (r.alloc (.cells #[.slice none 0 0,.slice none 0 0] 111)) 111 [.slice none 0 0,.slice none 0 0]
  rwa [World.size_alloc] at this
 have i:Hid (zy w (rd0 s) [] (.slice none 0 0) G):=ah ⟨(J.below z).below o,L.below o (by omega),ag,⟨_,rfl,V⟩,u6 G,fun g hg=>(by cases hg),(af.trans (z.mono (by omega))).trans (o.mono (by omega))⟩
 have M:=ah (gJ s t)
 have O:=ah (wh (w.heap.size+1) (rd0 s) 72 G i.out.rd (dz s hs) (C.below i.out.bel) (by omega))
 have az:=ah C
 have H5:=ah h5
 have H:=ah h
 have R:=ah b
 have aa:=ah d
 have aq:=ah m
 have ax:=ah q
 unfold Ce at O
 rw [h1] at O
 dsimp only at O
 clear h b d af z o J L ag V m q C h5
 go_enter func68,ntmps68
 go_wp2_with fail
 rw [H.out]
 refine iD 2 ?_
 go_wp2_with fail
 refine M.out.mono ?_
 rintro e w2 ⟨rfl,rfl⟩
 rw [R.out,aq.out]
 go_upto_region 4 with fail
 rw [aa.out]
 go_wp2_with fail
 refine O.out.mono ?_
 rintro e w4 ⟨⟨xb,rfl,aw,Q⟩,ae,ab⟩
 have n:=ah (i.out.next (r':=((rd0 s).text 65536).1) ab (fun k Y=> .inl Y) ae)
 have ar:=i.out.size
 have an:=n.out.size
 have u:Hid (w.heap.size+4≤xb):=ah (by omega)
 have D:=ah (nM xb x 16 w4 Q S (by decide))
 rw [h2] at D
 clear ab Q ae O i H R aa M aw ar an
 rw [ax.out]
 go_wp2_with fail
 refine D.out.mono ?_
 rintro e w5 ⟨rfl,K,F⟩
 have X:=ah (n.out.next (r':=((rd0 s).text 65536).1) (Chg.dW F (fun k e=>(Option.some.inj e).symm):Chg (fun k=>k=xb) w4 w5) (fun k Y=> .inr ⟨by rw [Y];exact u.out,by simp [Value.ownBlock]⟩) (n.out.rd.grown F (by have:=u.out;omega)))
 have T:=ah K
 clear K F D n
 have A:=ah (kP xb (x.num 16).1 w5 T.out (Rd.bK x 16 S).1)
 rw [h3] at A
 clear T u
 go_wp2_with fail
 refine wp_loop_rounds 1 ?_
 rw [rounds_succ]
 go_wp2_with fail
 refine A.out.mono ?_
 rintro e w6 ⟨rfl,P⟩
 have l:=ah (X.out.on P)
 have I:=l.out.bx.range
 have B:(prog.info? 111).map (·.size)=some ([.slice none 0 0,.slice none 0 0]:List Value).length:=mZ
 have E:=ah (jh _ _ [] [] w6 l.out.row)
 rw [Eh] at E
 clear P A X
 go_wp2_with (refine aG rfl 111 _ rfl (w.heap.size+1+1) 0 rfl _ _ I underlying111 rfl B ?_)
 refine E.out.mono ?_
 rintro e w7 ⟨rfl,Z⟩
 have a:=ah (l.out.on Z)
 clear Z E l I
 have ad:=ah (Es (w.heap.size+1) _ w7 a.out.rd)
 have j:=ah (wh (w.heap.size+1) ((rd0 s).text 65536).1 69 w7 a.out.rd (Rd.dG _ _ (dz s hs)) (az.out.below a.out.bel) (by have:=H5.out;omega))
 unfold Ce at j
 rw [h4] at j
 dsimp only at j
 go_wp2_with fail
 rename_i hK
 refine wp_label (hK _ _ ?_)
 go_wp2_with fail
 refine ad.out.mono ?_
 rintro e w8 ⟨rfl,rfl⟩
 go_wp2_with fail
 refine j.out.mono ?_
 rintro e w9 ⟨rfl,U,N⟩
 have f:=ah (a.out.next (r':=(((rd0 s).text 65536).1.text 65536).1) N (fun k Y=> .inl Y) U)
 clear U N j a ad
 go_wp2_with fail
 refine wp_goto ?_
 simp only [Exit.then,Exit.uf]
 refine ER rfl ?_
 obtain ⟨WE,p⟩:∃y,w9.setCells w.heap.size 0 [.slice none 0 0,.slice none 0 0]=y:=⟨_,rfl⟩
 have ap:=f.out.bx.range
 have al:=f.out.res.there
 have ao:WE.rangeAt w.heap.size 0 [.slice none 0 0,.slice none 0 0]:=by rw [←p];exact (f.out.res.set (us:=[.slice none 0 0,.slice none 0 0]) rfl).range
 have ac:Hid (Below w.heap.size w WE):=ah (by rw [←p];exact below_setCells _ (Nat.le_refl _) _ _ _ f.out.bel)
 have ai:=ah p
 have am:=ah mZ
 clear p f
 go_wp2_with (first
  | refine wpList_load_mid rfl 111 _ rfl (w.heap.size+1+1) 0 rfl _ _ ap underlying111 rfl B ?_
  | (refine aj rfl 111 _ _ rfl w.heap.size 0 [.slice none 0 0,.slice none 0 0] rfl rfl 2 rfl al am.out (by intro v hv;simp at hv;rw [hv];rfl) ?_;rw [ai.out]))
 rw [Exit.gB]
 refine I9 rfl w.heap.size 0 rfl [.slice none 0 0,.slice none 0 0] _ ao underlying111 rfl B rfl _ _ rfl rfl ?_
 exact ⟨rfl,ac.out⟩
end
end Go.Proofs.YtejamhkgjkhjdaaGreatDoor
