/- A part of this claim. -/
import Derived.Deep.CutRange
import Derived.Laws.EntriesVeiled
import Derived.Test.YtlhcoanbhnphgaaGreatDoorXm14
namespace Go.Proofs.YtlhcoanbhnphgaaGreatDoor
open Tryz
set_option maxHeartbeats 64000000
set_option maxRecDepth 100000
set_option linter.all false
section
open Go.RowKit
theorem JE (p:Value) (w:World):Calls prog 241 #[p] w fun e w'=>e= .returned (.bool true)∧w'=w:=by
 go_enter func241,ntmps241
 go_wp2
 go_ret
 exact ⟨rfl,rfl⟩
theorem sw (s:ByteArray) (w:World):Calls prog 128 #[.string s] w fun e w'=>e= .returned (.pointer (some ⟨w.heap.size,0,none⟩))∧w'=w.alloc (.cells #[.string s,.int .i64 0,.int .i64 0] 276):=by
 go_enter func128,ntmps128
 go_wp2
 go_ret
 exact ⟨rfl,rfl⟩
def Bo (a v:Value) (k:Nat):Value:=if k=0 then a else v
theorem PW (a v u:Value):∀k,k<2→upd (Bo a v) 1 u k=Bo a u k:=by
 intro k b
 obtain h|h:k=0∨k=1:=by omega
 all_goals subst h;rfl
theorem Kr (a:Nat) (nm:ByteArray) (w:World):(Instr.build 217 #[(1,.int .i64 (a:Int)),(0,.string nm)]).run prog w= .ok (.agg (dz ⟨nm,a,zid⟩).toArray) w :=
 run_build w 217 _ _ (by kernel_rfl)
theorem OW (nm:ByteArray) (b:Nat) (d:List UInt8) (h:d.length=32) (k:Nat) (f:k<34):(if 2≤k∧k<2+(idC d).length then (idC d).getD (k-2) undef else Em ⟨nm,b,zid⟩ k)=Em ⟨nm,b,d⟩ k:=by
 have:=El ⟨nm,b,d⟩ h k f
 rw [←this]
 dsimp only
 have e:(idC d).length=32:=by rw [av,h]
 rw [e]
 obtain a|a|a:k=0∨k=1∨2≤k:=by omega
 ·subst a;rfl
 ·subst a;rfl
 rw [if_pos ⟨a,by omega⟩,if_pos ⟨a,by omega⟩]
def qg (w:World) (v:Value):Prop:=∀g,v.ownBlock=some g→w.heap.size≤g
structure TS (B rb b nb base:Nat) (ty:TypeId) (sz:Nat) (W0:World) (c fb:Nat → Value) (V:Value) (n:Nat) (xs:List Value) (W:World):Prop where
 a:Arr W rb 3 c
 f:Arr W b nb fb
 o:W.ownsRow base ty sz V n xs
 bl:Below B W0 W
section
variable {B rb b nb base:Nat} {ty:TypeId} {sz:Nat} {W0 W W':World} {c c' fb:Nat → Value} {V:Value} {n:Nat} {xs:List Value}
theorem TS.read (h:TS B rb b nb base ty sz W0 c fb V n xs W) (hA:Arr W' rb 3 c') (i:W.grownBy W' (some rb)) (g:rb≠b) (d:B≤rb) (e:rb<base):TS B rb b nb base ty sz W0 c' fb V n xs W' :=
 ⟨hA,h.f.grown i (Ne.symm g),jd h.o i e,h.bl.grown i (by have:=h.a.lt (show 0<3 by omega);omega) (fun k j=>by cases j;exact d)⟩
theorem TS.below (h:TS B rb b nb base ty sz W0 c fb V n xs W) (hb:Below W.heap.size W W') (d:0<nb) (e:B≤rb):TS B rb b nb base ty sz W0 c fb V n xs W' :=
 ⟨h.a.below hb (h.a.lt (by omega)),h.f.below hb (h.f.lt d),own_below h.o hb,h.bl.trans (hb.mono (by have:=h.a.lt (show 0<3 by omega);omega))⟩
theorem TS.lt (h:TS B rb b nb base ty sz W0 c fb V n xs W):rb<W.heap.size:=h.a.lt (by omega)
theorem TS.ltb (h:TS B rb b nb base ty sz W0 c fb V n xs W) (a:0<nb):b<W.heap.size:=h.f.lt a
theorem TS.sets (h:TS B rb b nb base ty sz W0 c fb V n xs W) {E:Nat} (us:List Value) (o:Nat) (h1:E≠rb) (d:E≠b) (e:V.ownBlock=none∨V.ownBlock≠some E) (g:B≤E):TS B rb b nb base ty sz W0 c fb V n xs (W.setCells E o us) :=
 ⟨h.a.iL h1 us o,h.f.iL d us o,DC h.o e,below_setCells E g us o W h.bl⟩
end
theorem JB (B rb b:Nat) (s:ByteArray) (w:World) (hr:Arr w rb 3 (rd0 s).c) (hb:Arr w b 2 (Bo (.pointer (some ⟨rb,0,none⟩)) (.slice none 0 0))) (m:B≤rb) (cI:B≤b) (ab:rb≠b) (hs:s.size≤100000) :
  Calls prog 242 #[.pointer (some ⟨b,0,none⟩)] w fun e w'=>e= .returned (.bool (bJ s).isSome)∧(∃v,w'.cell? ⟨b,1,none⟩=some v∧qg w v∧((bJ s).isSome=true→fT w' v ((bJ s).getD [])))∧Below B w w':=by
 obtain ⟨zs,i0,hi,cX,bp,cQ,a3,cL,bk⟩:=yH
 have ck:zs.size=34:=by rw [bk];simp
 have cC:=ah ck
 have cK:=ah bk
 clear ck bk cL
 have aa:=hr.lt (by omega)
 have c7:=hb.lt (by omega)
 have cT:=ah hr
 have cF:=ah hb
 clear hr hb
 go_enter func242,ntmps242
 go_wp2
 go_loopw [] (fun wr=> ∃(r:Rd) (es:List Ent) (f:Nat) (v:Value),Arr wr rb 3 r.c∧Hid r.fine∧r.err≤4∧Hid (r.s=s)∧Hid (r.iM f es=(rd0 s).iM (s.size+1) [])∧Hid (r.err=0→r.s.size-r.pos<f∧es.length≤r.pos)∧Hid (∀e∈es,e.id.length=32)∧es.length≤100001∧Arr wr b 2 (Bo (.pointer (some ⟨rb,0,none⟩)) v)∧wr.ownsRow w.heap.size 217 34 v es.length (mI es)∧Below B w wr) (fun wr=>Hz rb wr)
 case atStart=>exact ⟨rd0 s,[],s.size+1,_,cT.out,dG s (by omega),by show 0≤4;omega,rfl,rfl,(fun _=>⟨by show s.size-0<s.size+1;omega,Nat.zero_le _⟩),(fun e he=>by cases he),by simp,cF.out,World.ownsRow_nil _ _ _ _,Below.refl _ _⟩
 obtain ⟨wo,rfl⟩:∃wo:World,wo=wr:=⟨_,rfl⟩
 obtain ⟨r,es,f,v,hA,hf,h4,b2,hN,cy,hid,dc,z,N,ag⟩:=hrel
 have c0:wo.cell? ⟨b,0,none⟩=some (.pointer (some ⟨rb,0,none⟩)):=z.cell 0 (by omega)
 have ao:=ah (jL rb r wo hA hf.out)
 have db:=ag.size
 obtain ⟨J,D,rfl⟩:=bO N
 have Z:=r.OE h4
 by_cases hm:r.more=true
 ·obtain ⟨bo,dl⟩:=of_decide_eq_true hm
  obtain ⟨di,da⟩:=cy.out bo
  have a5:r.fin=5:=by rw [hm] at Z;exact of_decide_eq_true Z.symm
  rw [a5] at ao
  have cA:=ah (qQ hA)
  have cJ:=ah bo
  have bb:=ah (yF r hf.out)
  have l:Hid (r.entry=(((r.num 2).1.text 32).1.id.1,⟨((r.num 2).1.text 32).2,(r.num 2).2,((r.num 2).1.text 32).1.id.2⟩)):=ah rfl
  have aE:=ah (Rd.cB r 2 hf.out)
  have af:=ah (Rd.dI _ 32 aE.out.1)
  have HA:=ah hA
  have HN:=ah (fun W (hA:Arr W rb 3 r.c)=>mW rb r 2 W hA hf.out (by omega))
  have HT:=ah (fun W (hA:Arr W rb 3 (r.num 2).1.c)=>kT rb _ 32 W hA aE.out.1 (by omega))
  have HI:=ah (fun W (hA:Arr W rb 3 ((r.num 2).1.text 32).1.c)=>vD rb _ W hA af.out)
  have x:Hid ((((r.num 2).1.text 32).1.id.2).length=32):=ah (fE _)
  have bn:=ah (r.jg hf.out)
  have t:=ah (r.yG h4)
  have a0:=ah (r.Ie)
  have ae:=ah (r.jB hf.out)
  have bc:Hid (r.iM f es=r.entry.1.iM (f-1) (es++[r.entry.2])):=ah (Ic r f es hm (by omega))
  clear hm bo a5 Z
  generalize r.entry=en at l bb bn t a0 ae bc
  obtain ⟨r',e⟩:=en
  generalize r.num 2=x1 at l HN HT aE HI x af
  obtain ⟨r1,C⟩:=x1
  dsimp only at l HN HT aE HI x af
  generalize r1.text 32=x2 at l HT HI x af
  obtain ⟨r2,nm⟩:=x2
  dsimp only at l HT HI x af
  generalize r2.id=x3 at l HI x
  obtain ⟨r3,d⟩:=x3
  dsimp only at l HI x bn t a0 bb ae bc
  obtain ⟨rfl,rfl⟩:r'=r3∧e=⟨nm,C,d⟩:=by have:=l.out;injection this with h1 h2;exact ⟨h1,h2⟩
  clear l
  have ce:=ah z
  have HO:=ah N
  have b4:=ah ag
  have df:rb<wo.heap.size:=by omega
  have c4:b<wo.heap.size:=by omega
  clear hA z N ag
  go_wp2_with fail
  refine ao.out.mono ?_
  rintro e w1 ⟨rfl,bm⟩
  have O:Hid (TS B rb b 2 w.heap.size 217 34 w r.c (Bo (.pointer (some ⟨rb,0,none⟩)) (.slice J es.length D)) (.slice J es.length D) es.length (mI es) w1) :=
   ah (TS.below ⟨HA.out,ce.out,HO.out,b4.out⟩ bm (by omega) m)
  have cm:=qK O.out.o
  have dm:=bm.size
  have G:w1.cell? ⟨b,0,none⟩=some (.pointer (some ⟨rb,0,none⟩)):=O.out.f.cell 0 (by omega)
  have de:=O.out.lt
  have ac:=O.out.ltb (by omega)
  have cV:=Kr C nm
  have b0:(prog.info? 217).map (·.size)=some 34:=by rw [hi];exact congrArg some bp
  have K:Hid (∀W:World,Arr (W.alloc (.cells zs 217)) W.heap.size 34 vw):=ah (fun W=>by
   rw [cK.out]
   exact (Arr.ofList W ((List.range 34).map vw) 217).congr fun k hk=>by simp at hk;simp [hk])
  have am:Hid (∀W:World,Below W.heap.size W (W.alloc (.cells zs 217))):=ah (fun W=>bal)
  clear c0 bm HA ce HO b4 cm
  go_upto_region 2 with fail
  go_cut [3] from 4 to 36 (fun s3 wx=> ∃E,s3= .pointer (some ⟨E,0,none⟩)∧w1.heap.size≤E∧Hid ((Value.slice J es.length D).ownBlock=none∨(Value.slice J es.length D).ownBlock≠some E)∧Hid (TS B rb b 2 w.heap.size 217 34 w r2.c (Bo (.pointer (some ⟨rb,0,none⟩)) (.slice J es.length D)) (.slice J es.length D) es.length (mI es) wx)∧Hid (Arr wx E 34 (Em ⟨nm,C,zid⟩)))
  case first =>
   have G:w1.drew.cell? ⟨b,0,none⟩=some (.pointer (some ⟨rb,0,none⟩)):=G
   have TD:Hid (TS B rb b 2 w.heap.size 217 34 w r.c (Bo (.pointer (some ⟨rb,0,none⟩)) (.slice J es.length D)) (.slice J es.length D) es.length (mI es) w1.drew) :=
    ah (O.out.below (Below.refl _ _).drew (by omega) m)
   refine wrL 12 (fun w'=>w'.cell? ⟨b,0,none⟩=some (.pointer (some ⟨rb,0,none⟩))) ?_
   refine WL.tk 0 G ?_
   refine WL.tk 1 G ?_
   refine WL.tk 2 G ?_
   refine WL.tk 3 G ?_
   refine WL.tk 5 G ?_
   refine WL.tk 6 G ?_
   refine WL.tk 7 G ?_
   refine WL.tk 8 G ?_
   refine WL.tw 4 11 ?_ ?_
   focus
    go_wp2_with fail
    refine (HN.out _ TD.out.a).mono ?_
    rintro e V ⟨rfl,z,R⟩
    have I:=ah (TD.out.read z R ab m aa)
    have ai:V.cell? ⟨b,0,none⟩=some (.pointer (some ⟨rb,0,none⟩)):=I.out.f.cell 0 (by omega)
    have cn:w1.heap.size≤V.heap.size:=R.size
    clear z R
    go_wp2
    refine ⟨ai,?_⟩
    refine WL.tw 9 11 ?_ ?_
    focus
     go_wp2_with fail
     refine (HT.out _ I.out.a).mono ?_
     rintro e w3 ⟨rfl,M,A⟩
     have P:=ah (I.out.read M A ab m aa)
     have Y:w3.cell? ⟨b,0,none⟩=some (.pointer (some ⟨rb,0,none⟩)):=P.out.f.cell 0 (by omega)
     have T4:=ah (P.out.below (am.out w3) (by omega) m)
     have F:(w3.alloc (.cells zs 217)).cell? ⟨b,0,none⟩=some (.pointer (some ⟨rb,0,none⟩)):=T4.out.f.cell 0 (by omega)
     have t:=ah (K.out w3)
     have H:=qK P.out.o
     have U:w1.heap.size≤w3.heap.size:=by have:=A.size;omega
     clear M A
     go_wp2
     refine ⟨Y,?_⟩
     refine WL.take (i:=10) (v:=.agg (dz ⟨nm,C,zid⟩).toArray) rfl (by kernel_rfl) (by decide) (by decide +kernel) (by decide +kernel) (fun _ _ _ h=>h) rfl (by intro w' _;clear a3;go_simp;rfl) Y ?_
     simp only [Act.put,nz]
     clear Y
     refine WL.on 11 ?_
     go_wp2
     refine ⟨F,?_⟩
     refine WL.la 12 ?_
     obtain ⟨E,hE⟩:∃E,w3.heap.size=E:=⟨_,rfl⟩
     obtain ⟨w4,ax⟩:∃w4,w3.alloc (.cells zs 217)=w4:=⟨_,rfl⟩
     rw [ax,hE] at t
     rw [ax] at T4
     rw [hE] at U H
     simp only [hE,ax]
     clear hE ax F P
    rotate_left
    focus
     have a1:=ah (I.out.below (am.out V) (by omega) m)
     have a7:(V.alloc (.cells zs 217)).cell? ⟨b,0,none⟩=some (.pointer (some ⟨rb,0,none⟩)):=a1.out.f.cell 0 (by omega)
     have an:=ah (K.out V)
     have H:=qK I.out.o
     have aq:=I.out.ltb (by omega)
     have dd:=I.out.lt
     go_wp2
     refine ⟨a7,?_⟩
     refine WL.on 9 ?_
     go_wp2_with fail
     refine (HT.out _ a1.out.a).mono ?_
     rintro e w3 ⟨rfl,M,A⟩
     have T4:=ah (a1.out.read M A ab m aa)
     have t:=ah (an.out.grown A (by omega))
     have F:w3.cell? ⟨b,0,none⟩=some (.pointer (some ⟨rb,0,none⟩)):=T4.out.f.cell 0 (by omega)
     clear M A an a1
     go_wp2
     refine ⟨F,?_⟩
     refine WL.take (i:=10) (v:=.agg (dz ⟨nm,C,zid⟩).toArray) rfl (by kernel_rfl) (by decide) (by decide +kernel) (by decide +kernel) (fun _ _ _ h=>h) rfl (by intro w' _;clear a3;go_simp;rfl) F ?_
     simp only [Act.put,nz]
     refine WL.la 12 ?_
     have U:=cn
     obtain ⟨E,hE⟩:∃E,V.heap.size=E:=⟨_,rfl⟩
     obtain ⟨w4,rfl⟩:∃w4,w4=w3:=⟨_,rfl⟩
     rw [hE] at t U H
     simp only [hE]
     clear hE F a7
   rotate_left 2
   focus
    have H:=qK O.out.o
    have I:=ah ((O.out.below (am.out w1) (by omega) m).below (Below.refl _ _).drew (by omega) m)
    have ai:(w1.alloc (.cells zs 217)).drew.cell? ⟨b,0,none⟩=some (.pointer (some ⟨rb,0,none⟩)):=I.out.f.cell 0 (by omega)
    have cv:=ah ((K.out w1).below (Below.refl _ _).drew ((K.out w1).lt (by omega)))
    go_wp2
    refine ⟨ai,?_⟩
    refine WL.on 4 ?_
    go_wp2_with fail
    refine (HN.out _ I.out.a).mono ?_
    rintro e V ⟨rfl,z,R⟩
    have P:=ah (I.out.read z R ab m aa)
    have an:=ah (cv.out.grown R (by omega))
    have Y:V.cell? ⟨b,0,none⟩=some (.pointer (some ⟨rb,0,none⟩)):=P.out.f.cell 0 (by omega)
    clear z R
    go_wp2
    refine ⟨Y,?_⟩
    refine WL.on 9 ?_
    go_wp2_with fail
    refine (HT.out _ P.out.a).mono ?_
    rintro e w4 ⟨rfl,M,A⟩
    have T4:=ah (P.out.read M A ab m aa)
    have t:=ah (an.out.grown A (by omega))
    have F:w4.cell? ⟨b,0,none⟩=some (.pointer (some ⟨rb,0,none⟩)):=T4.out.f.cell 0 (by omega)
    clear M A an P cv
    go_wp2
    refine ⟨F,?_⟩
    refine WL.take (i:=10) (v:=.agg (dz ⟨nm,C,zid⟩).toArray) rfl (by kernel_rfl) (by decide) (by decide +kernel) (by decide +kernel) (fun _ _ _ h=>h) rfl (by intro w' _;clear a3;go_simp;rfl) F ?_
    simp only [Act.put,nz]
    refine WL.la 12 ?_
    have U:w1.heap.size≤w1.heap.size:=Nat.le_refl _
    obtain ⟨E,hE⟩:∃E,E=w1.heap.size:=⟨_,rfl⟩
    rw [←hE] at t H
    rw [show w1.heap.size≤w1.heap.size↔w1.heap.size≤E by rw [hE]] at U
    simp only [←hE]
    clear hE F Y I ai
   all_goals
    clear O TD HN HT K am
    (try clear I);(try clear cn);(try clear ai)
    have a2:E≠rb:=by omega
    have ba:E≠b:=by omega
    have bf:B≤E:=by omega
    have X:(dz ⟨nm,C,zid⟩).length=34:=by simp [dz,av,aV]
    have b9:Arr (w4.setCells E 0 (dz ⟨nm,C,zid⟩)) E 34 (Em ⟨nm,C,zid⟩):=by
     refine (t.out.setCells 0 (dz ⟨nm,C,zid⟩) (by rw [X];omega)).congr fun k hk=> ?_
     rw [X,if_pos ⟨by omega,by omega⟩];rfl
    have T5:=ah (T4.out.sets (dz ⟨nm,C,zid⟩) 0 a2 ba H bf)
    have cl:=ah t.out.there
    have b1:=ah X
    have ca:=ah (rD ⟨nm,C,zid⟩)
    have az:=ah b9
    clear X b9 T4 t
    refine aj rfl 217 _ _ rfl E 0 (dz ⟨nm,C,zid⟩) rfl rfl 34 b1.out cl.out b0 ca.out ?_
    simp only [Act.put,nz]
    generalize w4.setCells E 0 (dz ⟨nm,C,zid⟩)=w5 at T5 az
    go_wp2_with fail
    go_meet
    exact ⟨E,rfl,U,ah H,T5,az⟩
  obtain ⟨E,rfl,U,c8,T5,az⟩:=hcut
  have H:=c8.out
  obtain ⟨w5,rfl⟩:∃w5,w5=wc:=⟨_,rfl⟩
  have a2:E≠rb:=by omega
  have ba:E≠b:=by omega
  have bf:B≤E:=by omega
  have c5:w5.cell? ⟨b,0,none⟩=some (.pointer (some ⟨rb,0,none⟩)):=T5.out.f.cell 0 (by omega)
  clear K am O HN HT cV
  go_wp2_with fail
  refine (HI.out _ T5.out.a).mono ?_
  rintro e w6 ⟨rfl,cw,bd⟩
  have T6:=ah (T5.out.read cw bd ab m aa)
  have bi:=ah (az.out.grown bd a2)
  have bu:(idC d).length=32:=by rw [av,x.out]
  have T7:=ah (T6.out.sets (idC d) 2 a2 ba H bf)
  have bt:=(bi.out.setCells 2 (idC d) (by omega)).congr (fun k hk=>OW nm C d x.out k hk)
  have b5:w6.there E 2 32:=fun j hj=>⟨by rw [bi.out.cell _ (by omega)];rfl,bi.out.free _ (by omega)⟩
  have ad:=bt.range
  rw [AU ⟨nm,C,d⟩ x.out] at ad
  have q:(dz ⟨nm,C,d⟩).length=34:=by simp [dz,av,x.out]
  have cr:(prog.info? 217).map (·.size)=some (dz ⟨nm,C,d⟩).length:=by rw [q,hi];exact congrArg some bp
  have bs:=ah (rD ⟨nm,C,d⟩)
  have cq:=ah (yE es ⟨nm,C,d⟩)
  have cN:=ah b5
  have bx:=ah (aJ d)
  have ct:=ah bu
  have c9:(prog.info? 42).map (·.size)=some 32:=by kernel_rfl
  generalize dz ⟨nm,C,d⟩=cs at ad q cr bs cq
  have b7:Hid (∀w,(sizeOf 217).run prog w= .ok cs.length w):=ah (fun w=>by rw [q];kernel_rfl)
  have be:=ah q
  have bv:=ah (show 0<cs.length by rw [q];omega)
  have c6:=ah (show cs.length≤1000 by rw [q];omega)
  have cx:idV d= .agg (idC d).toArray:=rfl
  rw [cx]
  clear cx q b5 bu bt cw bd c5
  generalize cY:idC d=us at T7 ct bx ad
  clear cY
  have f7:=T7.out.f.cell 1 (by omega)
  have b3:=T7.out.f.free 1 (by omega)
  obtain ⟨w7,a8⟩:∃w7,w6.setCells E 2 us=w7:=⟨_,rfl⟩
  rw [a8] at T7 ad f7 b3
  have cE:=ah a8
  have cd:=ah ad
  clear a8
  have cH:E<w7.heap.size:=World.block_lt_of_cell? w7 ⟨E,0,none⟩ (ad 0 (cs[0]'(by have:=bv.out;omega)) (by simp))
  go_wp2_with (refine aj rfl 42 _ _ rfl E 2 us rfl rfl 32 ct.out cN.out c9 bx.out ?_)
  simp only [Act.put,nz]
  rw [cE.out]
  have S:=ah (T7.out.below (Below.refl _ _).drew (by omega) m)
  have Q:w7.drew.cell? ⟨b,1,none⟩=some (.slice J es.length D)∧w7.drew.rangeAt E 0 cs:=⟨f7,cd.out⟩
  refine wrL 10 (fun w'=>w'.cell? ⟨b,1,none⟩=some (.slice J es.length D)∧w'.rangeAt E 0 cs) ?_
  refine WL.tk 0 Q ?_
  refine WL.tk 1 Q ?_
  refine WL.tk 2 Q ?_
  refine WL.tk 3 Q ?_
  refine WL.tk 4 Q ?_
  refine WL.tk 5 Q ?_ (hy:=(fun w' cS=>aM 217 _ (cS.2) underlying217 rfl cr _ rfl rfl))
  refine WL.on 6 ?_
  refine aG rfl (.tmp 32) 137 217 rfl cs zs rfl underlying137 b7.out a3 bv.out c6.out ?_
  simp only [Act.put,nz]
  have L:=S.out.o.lt
  have al:w7.drew.heap.size=w7.heap.size:=rfl
  have a6:(Value.slice J es.length D).ownBlock≠some E:=by
   rcases H with h|h
   ·rw [h];simp
   exact h
  have ci:=S.out.a.alloc (by omega) (.cells cs.toArray 217)
  have bh:=S.out.f.alloc (by omega) (.cells cs.toArray 217)
  have ch:=S.out.o.alloc (.cells cs.toArray 217)
  have a9:=S.out.bl.alloc (by have:=S.out.lt;omega) (.cells cs.toArray 217)
  have S8:(w7.drew.alloc (.cells cs.toArray 217)).cell? ⟨b,1,none⟩=some (.slice J es.length D)∧(w7.drew.alloc (.cells cs.toArray 217)).rangeAt E 0 cs :=
   ⟨bh.cell 1 (by omega),ay cd.out ((Below.refl w7.heap.size w7).drew.alloc (Nat.le_refl _) _) cH⟩
  refine ⟨S8,?_⟩
  refine WL.on 7 ?_
  refine wpList_append_own _ rfl (.tmp 31) (.tmp 33) 137 rfl w.heap.size 217 i0 (.agg zs) 34 56 underlying137 hi cX bp cQ cC.out (by decide) _ es.length (mI es) rfl ch ⟨w7.heap.size,0,none⟩ 1 1 cs rfl be.out (fun j u hj=>jW _ cs _ j u hj) bs.out (by unfold maxLen;omega) (by omega) (by rw [World.size_alloc,al];omega) ?_
  intro v' w9 y ar _
  obtain ⟨cD,cU,rfl⟩:=bO y
  have cz:=ci.jS ar (fun e=>by have:=(L _ e).1;omega)
  have ap:=bh.jS ar (fun e=>by have:=(L _ e).1;omega)
  have b8:=a9.grown ar (by have:=a9.size;rw [World.size_alloc,al];have:=S.out.bl.size;omega) (fun j hj=>by have:=(L j hj).1;omega)
  have S9:w9.cell? ⟨b,1,none⟩=some (.slice J es.length D)∧w9.rangeAt E 0 cs:=⟨ap.cell 1 (by omega),kE S8.2 ar a6⟩
  have cg:=ah (own_ne y c7)
  simp only [Act.put,nz]
  refine ⟨S9,?_⟩
  refine WL.tk 8 S9 ?_
  refine WL.tk 9 S9 ?_
  refine WL.la 10 ?_
  rw [←cq.out] at y
  have f9:=ap.free 1 (by omega)
  have g9:=ap.cell 1 (by omega)
  have cG:=ah y
  have cp:=ah cz
  have cR:=ah ap
  have cO:=ah b8
  clear ci bh ch a9 S8 L al a6 y ar cz ap b8 S9 Q f7 b3
  go_wp2
  have dj:r.s.size=s.size:=by rw [b2.out]
  have dg:=hf.out.pos
  go_roundw
  case rel =>
   refine ⟨r',es++[⟨nm,C,d⟩],f-1,.slice cD (es.length+1) cU,cp.out.far (p:=⟨b,1,none⟩) (by show b≠rb;omega) _,bn.out,t.out,a0.out.trans b2.out,ah (bc.out.symm.trans hN.out),fun h0=> ?_,fun e he=> ?_,by simp;omega,(cR.out.set 1 (by omega) _).congr (PW _ _ _),by rw [List.length_append];exact lU cG.out cg.out,cO.out.setCell (p:=⟨b,1,none⟩) cI _⟩
   ·obtain ⟨_,_,q3,_⟩:=ae.out h0
    rw [a0.out,List.length_append,List.length_singleton]
    omega
   rcases List.mem_append.1 he with h|h
   ·exact hid.out e h
   rw [List.mem_singleton.1 h];exact x.out
  rw [qQ (cp.out.far (p:=⟨b,1,none⟩) (by show b≠rb;omega) _),cA.out,if_pos cJ.out];exact bb.out
 have br:r.more=false:=by simpa using hm
 have a4:(rd0 s).iM (s.size+1) []=(r,es):=by rw [←hN.out];exact AR r f es br
 rw [Rd.yD] at a4
 have e1:(jD s).1=r:=congrArg Prod.fst a4
 have e2:(jD s).2=es:=congrArg Prod.snd a4
 have aw:Hid (bJ s=if r.fin=0∧eZ es=true then some es else none):=by unfold Hid bJ;rw [e1,e2]
 have cM:r.fin≠5:=by rw [br] at Z;exact of_decide_eq_false Z.symm
 have d5:((r.fin:Int)==5)=false:=by rw [beq_eq_false_iff_ne];omega
 have T:=ah (show TS B rb b 2 w.heap.size 217 34 w r.c (Bo (.pointer (some ⟨rb,0,none⟩)) (.slice J es.length D)) (.slice J es.length D) es.length (mI es) wo from ⟨hA,z,N,ag⟩)
 have HW:=ah (fun W (hA:Arr W rb 3 r.c)=>jL rb r W hA hf.out)
 have bz:Hid (∀W,W.ownsRow w.heap.size 217 34 (.slice J es.length D) es.length (mI es)→fT W (.slice J es.length D) es):=ah (fun W h=>bM.iE (B:=w.heap.size) (e:=217) (sz:=34) (rows:=es.map dz) (fun r hr=>by
   obtain ⟨e,he,rfl⟩:=List.mem_map.1 hr
   simp [dz,av,hid.out e he]) (by rw [List.length_map];exact h))
 have cP:Hid (r.err=0→ ∀e∈es,e.name.size≤1000000∧e.kind≤2∧e.id.length=32):=ah (fun h0 e he=>by
  have e0:(jD s).1.err=0:=by rw [e1];exact h0
  have cf:=Rd.pX (s.size+1) (rd0 s) (dG s (by omega)) e0
  have e3:((rd0 s).ents (s.size+1)).2=es:=e2
  rw [e3] at cf
  have:=cf e he
  exact ⟨by omega,by omega,hid.out e he⟩)
 have bj:Hid (r.fin=0→r.err=0):=ah (fun h=>(Rd.yA r h).1)
 have c4:b<wo.heap.size:=T.out.ltb (by omega)
 clear a4 hN hA z N ag hm br Z ao cy hid
 generalize r.fin=n at d5 cM aw HW bj
 by_cases h0:n=0
 ·have HF:=ah (bj.out h0)
  have d0:((n:Int)==0)=true:=by rw [beq_iff_eq];omega
  have cb:=ah (fun W (h:fT W (.slice J es.length D) es)=>BR _ es W h (cP.out HF.out))
  have b6:Hid (bJ s=if eZ es=true then some es else none):=by
   unfold Hid;rw [aw.out]
   by_cases ht:eZ es=true
   ·rw [if_pos ⟨h0,ht⟩,if_pos ht]
   rw [if_neg (fun h=>ht h.2),if_neg ht]
  clear h0 aw bj
  generalize eZ es=ok at cb b6
  go_wp2_with fail
  refine (HW.out _ T.out.a).mono ?_
  rintro e w1 ⟨rfl,ac⟩
  have O:=ah (T.out.below ac (by omega) m)
  have c1:w1.cell? ⟨b,0,none⟩=some (.pointer (some ⟨rb,0,none⟩)):=O.out.f.cell 0 (by omega)
  clear ac c0
  go_wp2_with fail
  refine (HW.out _ O.out.a).mono ?_
  rintro e V ⟨rfl,aq⟩
  have I:=ah (O.out.below aq (by omega) m)
  have c2:V.cell? ⟨b,1,none⟩=some (.slice J es.length D):=I.out.f.cell 1 (by omega)
  have cW:=ah (bz.out V I.out.o)
  clear aq c1
  go_wp2_with fail
  refine (cb.out V cW.out).mono ?_
  rintro e w3 ⟨rfl,cj⟩
  have P:=ah (I.out.below cj (by omega) m)
  have c3:w3.cell? ⟨b,1,none⟩=some (.slice J es.length D):=P.out.f.cell 1 (by omega)
  clear cj
  go_wp2
  go_ret
  rw [b6.out]
  cases ok with
  | false=>exact ⟨rfl,⟨_,c3,fun g hg=>(P.out.o.lt g hg).1,fun h=>by cases h⟩,P.out.bl⟩
  | true=>exact ⟨rfl,⟨_,c3,fun g hg=>(P.out.o.lt g hg).1,fun _=>bz.out _ P.out.o⟩,P.out.bl⟩
 have d0:((n:Int)==0)=false:=by rw [beq_eq_false_iff_ne];omega
 have HR:Hid (bJ s=none):=by unfold Hid;rw [aw.out,if_neg (fun h=>h0 h.1)]
 go_wp2_with fail
 refine (HW.out _ T.out.a).mono ?_
 rintro e w1 ⟨rfl,ac⟩
 have O:=ah (T.out.below ac (by omega) m)
 have c1:w1.cell? ⟨b,0,none⟩=some (.pointer (some ⟨rb,0,none⟩)):=O.out.f.cell 0 (by omega)
 clear ac c0
 go_wp2_with fail
 refine (HW.out _ O.out.a).mono ?_
 rintro e V ⟨rfl,aq⟩
 have I:=ah (O.out.below aq (by omega) m)
 have c2:V.cell? ⟨b,1,none⟩=some (.slice J es.length D):=I.out.f.cell 1 (by omega)
 go_wp2
 go_ret
 exact ⟨by rw [HR.out];rfl,⟨_,c2,fun g hg=>(I.out.o.lt g hg).1,fun h=>by rw [HR.out] at h;cases h⟩,I.out.bl⟩
def iV (rb:Nat) (t:List UInt8) (v:Value) (x:ByteArray) (k:Nat):Value:=if k=0 then .pointer (some ⟨rb,0,none⟩) else if k=1 then .slice none 0 0 else cmF t v x (k-2)
theorem iN (rb:Nat) (t:List UInt8) (v:Value) (x:ByteArray) {k:Nat} (h:2≤k):iV rb t v x k=cmF t v x (k-2):=by unfold iV;rw [if_neg (by omega),if_neg (by omega)]
theorem Ph {rb:Nat} {t d:List UInt8} (h:t.length=32) (hd:d.length=32) (v:Value) (x:ByteArray):∀k,k<36→(if 2≤k∧k<2+(idC d).length then (idC d).getD (k-2) undef else iV rb t v x k)=iV rb d v x k:=by
 intro k g
 have f:(idC d).length=32:=by rw [av,hd]
 by_cases a:2≤k
 ·rw [iN rb t v x a,iN rb d v x a]
  have:=PD h hd v x (k-2) (by omega)
  rw [←this]
  by_cases b:k<2+(idC d).length
  ·rw [if_pos ⟨a,b⟩,if_pos ⟨by omega,by omega⟩];rfl
  rw [if_neg (fun h=>b h.2),if_neg (fun h=>b (by omega))]
 rw [if_neg (fun h=>a h.1)]
 obtain e|e:k=0∨k=1:=by omega
 all_goals subst e;rfl
theorem Pg {rb:Nat} {t:List UInt8} (h:t.length=32) (v u:Value) (x:ByteArray):∀k,k<36→upd (iV rb t v x) 34 u k=iV rb t u x k:=by
 intro k e
 by_cases a:2≤k
 ·have:=Pz h v u x (k-2) (by omega)
  rw [iN rb t u x a,←this]
  unfold upd
  by_cases d:k=34
  ·subst d;simp
  rw [if_neg d,if_neg (show ¬k-2=32 by omega),iN rb t v x a]
 obtain b|b:k=0∨k=1:=by omega
 all_goals subst b;rfl
theorem Pf {rb:Nat} {t:List UInt8} (h:t.length=32) (v:Value) (x y:ByteArray):∀k,k<36→upd (iV rb t v x) 35 (.string y) k=iV rb t v y k:=by
 intro k e
 by_cases a:2≤k
 ·have:=Py h v x y (k-2) (by omega)
  rw [iN rb t v y a,←this]
  unfold upd
  by_cases d:k=35
  ·subst d;simp
  rw [if_neg d,if_neg (show ¬k-2=33 by omega),iN rb t v x a]
 obtain b|b:k=0∨k=1:=by omega
 all_goals subst b;rfl
theorem rO {t:List UInt8} (rb:Nat) (h:t.length=32) (v:Value) (x:ByteArray):iV rb t v x 34=v:=by rw [iN rb t v x (by omega)];exact kP h v x
theorem A9 {w:World} {b rb:Nat} {t:List UInt8} {v:Value} {x:ByteArray} (h:t.length=32) (hA:Arr w b 36 (iV rb t v x)):w.rangeAt b 2 (cmC t v x):=by
 intro j u hu
 have a:j<34:=by
  have:=(List.getElem?_eq_some_iff.1 hu).1
  rwa [jv _ _ _ h] at this
 rw [hA.cell (2+j) (by omega),iN rb t v x (by omega),Nat.add_sub_cancel_left]
 have e:=ED h v x
 rw [←e,List.getElem?_map,List.getElem?_range a] at hu
 exact hu
theorem rW {P:Program} {ops:Array Oper} {rest:List Oper} {op:Oper} {a:Act} {w:World} {Q:Exit→Act→World→Prop} (e:Region.wanted op (yielded ops a.tmps)=true) (ty:TypeId) (x:Operand) (f:op.op= .load ty x)
  (b o:Nat) (hx:a.eval x= .pointer (some ⟨b,o,none⟩)) (cs:List Value) (d:TypeDesc) (g:w.rangeAt b o cs) (hu:P.underlying ty=some d) (hd:d.isRow=true) (hi:(P.info? ty).map (·.size)=some cs.length)
  (h:wpList P ops Q rest (a.put op.dst (.agg cs.toArray)) w):wpList P ops Q (op::rest) a w:=by
 simp only [wpList]
 rw [if_pos e]
 exact .inl (wp_load_mid ty x f b o hx cs d g hu hd hi h)
theorem Ox {w:World} {B:Nat} {e:TypeId} {sz:Nat} {v:Value} {n:Nat} {xs:List Value} (h:w.ownsRow B e sz v n xs):zk v:=by
 intro d m c a
 rcases h.2 with ⟨h1,_⟩|⟨g,cap,cur,h1,_,_,b,_⟩
 ·rw [h1] at a;cases a;exact Nat.le_refl _
 rw [h1] at a;cases a;exact b
theorem vv (B rb b:Nat) (s:ByteArray) (w:World) (hr:Arr w rb 3 (rd0 s).c) (hb:Arr w b 36 (iV rb zid (.slice none 0 0) ⟨#[]⟩)) (K:B≤rb) (al:B≤b) (aq:rb≠b) (hs:s.size≤100000) :
  Calls prog 243 #[.pointer (some ⟨b,0,none⟩)] w fun e w'=>e= .returned (.bool (aL s).isSome)∧((aL s).isSome=true→(∃t v l x,aL s=some (t,l,x)∧w'.rangeAt b 2 (cmC t v x)∧qg w v∧dF w' v l)∧w'.cell? ⟨b,1,none⟩=some (.slice none 0 0))∧Below B w w':=by
 obtain ⟨zi,i0,hi,ca,cd,b4,bd,ag⟩:=eu
 have b6:=ah ag
 clear ag
 have am:=hr.lt (by omega)
 have bs:=hb.lt (by omega)
 have c0:w.cell? ⟨b,0,none⟩=some (.pointer (some ⟨rb,0,none⟩)):=hb.cell 0 (by omega)
 have HC:=ah hb
 have ap:=ah (dG s (show s.size≤1000000 by omega))
 have Z:=ah (vD rb (rd0 s) w hr ap.out)
 have X:=ah ((rd0 s).lW ap.out)
 have d:Hid ((rd0 s).id.2.length=32):=ah (fE _)
 have z:Hid ((rd0 s).commit=((((((rd0 s).id.1.num 4).1.ids ((rd0 s).id.1.num 4).2).1.text 64).1,(rd0 s).id.2,(((rd0 s).id.1.num 4).1.ids ((rd0 s).id.1.num 4).2).2,((((rd0 s).id.1.num 4).1.ids ((rd0 s).id.1.num 4).2).1.text 64).2))):=ah rfl
 have L:Hid (aL s=if (rd0 s).commit.1.fin=0∧bH (rd0 s).commit.2=true then some (rd0 s).commit.2 else none):=ah rfl
 have N:=ah ((rd0 s).uJ ap.out)
 generalize (rd0 s).commit=cm at z L N
 generalize (rd0 s).id=x0 at Z X d z
 obtain ⟨r0,t⟩:=x0
 dsimp only at Z X d z
 clear hr hb
 go_enter func243,ntmps243
 go_wp2_with fail
 refine Z.out.mono ?_
 rintro e w1 ⟨rfl,bk,ao⟩
 have a1:(idC t).length=32:=by rw [av,d.out]
 have ab:=HC.out.grown ao (by omega)
 have ba:w1.there b 2 32:=fun j hj=>⟨by rw [ab.cell _ (by omega)];rfl,ab.free _ (by omega)⟩
 have bc:=ah ba
 have ar:=ah (bk.iL (B:=b) (by omega) (idC t) 2)
 have aw:=ah ((ab.setCells 2 (idC t) (by omega)).congr (Ph aV d.out _ _))
 have P:=ah (below_setCells (B:=B) (a:=w) b al (idC t) 2 w1 ((Below.refl B w).grown ao (by omega) (fun k hk=>by cases hk;omega)))
 have bo:=ah a1
 have a8:=ah (aJ t)
 have ce:(prog.info? 42).map (·.size)=some 32:=by kernel_rfl
 clear bk ab ao ba a1 HC Z c0
 have R:idV t= .agg (idC t).toArray:=rfl
 rw [R]
 clear R
 generalize cb:idC t=us at ar aw P bo a8
 clear cb
 have ae:=ah (show TS B rb b 36 w.heap.size 42 32 w r0.c (iV rb t (.slice none 0 0) ⟨#[]⟩) (.slice none 0 0) 0 (dx []) (w1.setCells b 2 us) from ⟨ar.out,aw.out,World.ownsRow_nil _ _ _ _,P.out⟩)
 clear ar aw P
 have c2:(w1.setCells b 2 us).cell? ⟨b,0,none⟩=some (.pointer (some ⟨rb,0,none⟩)):=ae.out.f.cell 0 (by omega)
 have Y:=ah (fun W (hA:Arr W rb 3 r0.c)=>mW rb r0 4 W hA X.out (by omega))
 have M:=ah (Rd.cB r0 4 X.out)
 generalize r0.num 4=x1 at Y M z
 obtain ⟨q,n⟩:=x1
 dsimp only at Y M z
 have ci:n≤4:=M.out.2
 have an:=ah M.out.1
 go_wp2_with (refine aj rfl 42 _ _ rfl b 2 us rfl rfl 32 bo.out bc.out ce a8.out ?_)
 refine (Y.out _ ae.out.a).mono ?_
 rintro e w3 ⟨rfl,E,F⟩
 have cf:=ah (ae.out.read E F aq K am)
 clear E F ae Y M c2 bc
 go_wp2
 have HL:Hid (∀k,((q.ids k).2).length=k):=ah (fun k=>Rd.vL k q)
 go_loopw [17] (fun i wr=> ∃(k:Nat) (v:Value),k≤n∧i= .int .i64 k∧Hid (TS B rb b 36 w.heap.size 42 32 w (q.ids k).1.c (iV rb t v ⟨#[]⟩) v k (dx (q.ids k).2) wr)) (fun i _=>(n-intOf i).toNat)
 case atStart=>exact ⟨0,.slice none 0 0,by omega,rfl,cf⟩
 obtain ⟨wo,rfl⟩:∃wo:World,wo=wr:=⟨_,rfl⟩
 obtain ⟨k,v,hk,rfl,T⟩:=hrel
 obtain ⟨J,G,rfl⟩:=bO T.out.o
 by_cases bz:k<n
 ·have d1:decide ((k:Int)<n)=true:=decide_eq_true (by omega)
  have d2:decide (k<n)=true:=decide_eq_true bz
  have TD:=ah (T.out.below (Below.refl _ _).drew (by omega) K)
  have m:wo.drew.cell? ⟨b,0,none⟩=some (.pointer (some ⟨rb,0,none⟩))∧wo.drew.cell? ⟨b,34,none⟩=some (.slice J k G) :=
   ⟨TD.out.f.cell 0 (by omega),by rw [TD.out.f.cell 34 (by omega),rO rb d.out]⟩
  have HI:=ah (vD rb (q.ids k).1 wo.drew TD.out.a (Rd.iH k q an.out))
  have ax:=ah (Rd.yg k q)
  clear T
  go_wp2
  refine wrL 16 (fun w'=>w'.cell? ⟨b,0,none⟩=some (.pointer (some ⟨rb,0,none⟩))∧w'.cell? ⟨b,34,none⟩=some (.slice J k G)) ?_
  refine WL.tk 0 m ?_
  refine WL.tk 1 m ?_
  refine WL.tk 2 m ?_
  refine WL.tk 3 m ?_
  refine WL.tk 4 m ?_
  refine WL.tk 5 m ?_
  refine WL.tk 6 m ?_
  refine WL.tk 7 m ?_
  refine WL.tk 8 m ?_
  refine WL.tk 9 m ?_
  refine WL.on 10 ?_
  go_wp2_with fail
  refine HI.out.mono ?_
  rintro e w3 ⟨rfl,E,F⟩
  have A:=ah (TD.out.read E F aq K am)
  have a3:w3.cell? ⟨b,0,none⟩=some (.pointer (some ⟨rb,0,none⟩))∧w3.cell? ⟨b,34,none⟩=some (.slice J k G) :=
   ⟨A.out.f.cell 0 (by omega),by rw [A.out.f.cell 34 (by omega),rO rb d.out]⟩
  have bx:=ah a3
  have az:(idC (q.ids k).1.id.2).length=32:=by rw [av];exact fE _
  have Q:=aJ (q.ids k).1.id.2
  have R:idV (q.ids k).1.id.2= .agg (idC (q.ids k).1.id.2).toArray:=rfl
  rw [R]
  clear R
  have a9:Hid (dx (q.ids (k+1)).2=dx (q.ids k).2++idC (q.ids k).1.id.2):=by unfold Hid;rw [ax.out];exact nZ _ _
  have b9:Hid ((q.ids (k+1)).1=(q.ids k).1.id.1):=by unfold Hid;rw [ax.out]
  clear E F a3 HI ax TD m
  generalize idC (q.ids k).1.id.2=V at az Q a9
  have ac:=ah az
  have bi:=ah Q
  have be:Hid (∀w,(sizeOf 42).run prog w= .ok V.length w):=ah (fun w=>by rw [ac.out];kernel_rfl)
  clear az Q
  go_wp2
  refine ⟨bx.out,?_⟩
  refine WL.on 11 ?_
  refine aG rfl (.tmp 29) 44 42 rfl V zi rfl underlying44 be.out bd (by rw [ac.out];omega) (by rw [ac.out];omega) ?_
  simp only [Act.put,nz]
  have aE:=A.out.lt
  have C:=A.out.o.lt
  have bm:=A.out.a.alloc (by omega) (.cells V.toArray 42)
  have ad:=A.out.f.alloc (by omega) (.cells V.toArray 42)
  have bj:=A.out.o.alloc (.cells V.toArray 42)
  have a2:=A.out.bl.alloc (by have:=A.out.lt;omega) (.cells V.toArray 42)
  have S8:(w3.alloc (.cells V.toArray 42)).cell? ⟨b,0,none⟩=some (.pointer (some ⟨rb,0,none⟩))∧(w3.alloc (.cells V.toArray 42)).cell? ⟨b,34,none⟩=some (.slice J k G) :=
   ⟨ad.cell 0 (by omega),by rw [ad.cell 34 (by omega),rO rb d.out]⟩
  refine ⟨S8,?_⟩
  refine WL.on 12 ?_
  refine wpList_append_own _ rfl (.tmp 24) (.tmp 30) 44 rfl w.heap.size 42 i0 (.agg zi) 32 32 underlying44 hi ca cd b4 b6.out (by decide) _ k (dx (q.ids k).2) rfl bj ⟨w3.heap.size,0,none⟩ 1 1 V rfl ac.out (fun j u hj=>jW _ V _ j u hj) bi.out (by unfold maxLen;omega) (by omega) (by rw [World.size_alloc];have:=A.out.bl.size;omega) ?_
  intro v' w5 D aa _
  obtain ⟨cg,bt,rfl⟩:=bO D
  have bh:=bm.jS aa (fun e=>by have:=(C _ e).1;omega)
  have U:=ad.jS aa (fun e=>by have:=(C _ e).1;omega)
  have a6:=a2.grown aa (by rw [World.size_alloc];have:=A.out.lt;omega) (fun j hj=>by have:=(C j hj).1;omega)
  have S5:w5.cell? ⟨b,0,none⟩=some (.pointer (some ⟨rb,0,none⟩))∧w5.cell? ⟨b,34,none⟩=some (.slice J k G) :=
   ⟨U.cell 0 (by omega),by rw [U.cell 34 (by omega),rO rb d.out]⟩
  have a4:=ah (own_ne D bs)
  have f5:=U.free 34 (by omega)
  have bu:=ah bh
  have b2:=ah U
  have b7:=ah a6
  have b0:=ah D
  have b5:=ah S5
  simp only [Act.put,nz]
  refine ⟨S5,?_⟩
  clear bm ad bj a2 S8 C D aa bh U a6 S5 aE
  have S5:=b5.out
  refine WL.tk 13 S5 ?_
  refine WL.tk 14 S5 ?_
  refine WL.tk 15 S5 ?_
  refine WL.la 16 ?_
  have g5:=S5.2
  clear S5
  go_wp2
  go_roundw
  case rel =>
   refine ⟨k+1,.slice cg (k+1) bt,by omega,by go_num,ah ⟨?_,(b2.out.set 34 (by omega) _).congr (Pg d.out _ _ _),?_,b7.out.setCell (p:=⟨b,34,none⟩) al _⟩⟩
   ·rw [b9.out];exact bu.out.far (p:=⟨b,34,none⟩) (by show b≠rb;omega) _
   rw [a9.out];exact lU b0.out a4.out
  case measure=>simp [intOf];omega
 obtain rfl:k=n:=by omega
 have d1:decide ((k:Int)<k)=false:=decide_eq_false (by omega)
 have O:=ah (Rd.dI _ 64 (Rd.iH k q an.out))
 have HT:=ah (kT rb (q.ids k).1 64 wo T.out.a (Rd.iH k q an.out) (by omega))
 have I:=ah (Rd.vM k q)
 have af:=HL.out k
 have c0:wo.cell? ⟨b,0,none⟩=some (.pointer (some ⟨rb,0,none⟩)):=T.out.f.cell 0 (by omega)
 generalize ch:q.ids k=x2 at HT z O I af T
 obtain ⟨r2,l⟩:=x2
 dsimp only at HT z O I af T
 clear ch
 generalize r2.text 64=x3 at HT z O
 obtain ⟨r3,x⟩:=x3
 dsimp only at HT z O
 obtain rfl:cm=(r3,t,l,x):=z.out
 dsimp only at L N
 clear z O
 have a5:=ah af
 clear af
 go_wp2_with fail
 refine HT.out.mono ?_
 rintro e w3 ⟨rfl,E,F⟩
 have A:=ah (T.out.read E F aq K am)
 have b1:=A.out.f.free 35 (by omega)
 have b3:=A.out.f.cell 35 (by omega)
 have T4:=ah (show TS B rb b 36 w.heap.size 42 32 w r3.c (iV rb t (.slice J k G) x) (.slice J k G) k (dx l) (w3.setCell ⟨b,35,none⟩ (.string x)) from
  ⟨A.out.a.far (p:=⟨b,35,none⟩) (by show b≠rb;omega) _,(A.out.f.set 35 (by omega) _).congr (Pf d.out _ _ x),lU A.out.o (own_ne A.out.o bs),A.out.bl.setCell (p:=⟨b,35,none⟩) al _⟩)
 have c4:(w3.setCell ⟨b,35,none⟩ (.string x)).cell? ⟨b,0,none⟩=some (.pointer (some ⟨rb,0,none⟩)):=T4.out.f.cell 0 (by omega)
 have bp:=ah (fun W hA=>jL rb r3 W hA N.out)
 clear E F A c0
 go_wp2_with fail
 refine (bp.out _ T4.out.a).mono ?_
 rintro e w4 ⟨rfl,a7⟩
 have T5:=ah (T4.out.below a7 (by omega) K)
 clear a7 c4 b3 b1 T4
 by_cases H:r3.fin=0
 ·have d0:((r3.fin:Int)==0)=true:=by rw [beq_iff_eq];omega
  have bb:Hid (aL s=if bH (t,l,x)=true then some (t,l,x) else none):=by
   unfold Hid;rw [L.out]
   by_cases ht:bH (t,l,x)=true
   ·rw [if_pos ⟨H,ht⟩,if_pos ht]
   rw [if_neg (fun h=>ht h.2),if_neg ht]
  have ai:Hid (∀W,W.ownsRow w.heap.size 42 32 (.slice J k G) k (dx l)→dF W (.slice J k G) l):=ah (fun W h=>bM.iE (B:=w.heap.size) (e:=42) (sz:=32) (rows:=l.map idC) (fun r hr=>by
   obtain ⟨y,hy,rfl⟩:=List.mem_map.1 hr
   rw [av];exact I.out y hy) (by rw [List.length_map,a5.out];exact h))
  have bv:l.length≤4:=by rw [a5.out];omega
  have a0:=ah (fun W (h:W.ownsRow w.heap.size 42 32 (.slice J k G) k (dx l))=>DJ t (.slice J k G) l x W (ai.out W h) d.out I.out (by omega) (Ox h))
  have bn:=A9 d.out T5.out.f
  have S:(cmC t (.slice J k G) x).length=34:=jv _ _ _ d.out
  have bf:(prog.info? 141).map (·.size)=some (cmC t (.slice J k G) x).length:=by rw [S];kernel_rfl
  have c5:w4.cell? ⟨b,0,none⟩=some (.pointer (some ⟨rb,0,none⟩)):=T5.out.f.cell 0 (by omega)
  clear H L N S bv
  generalize bH (t,l,x)=ok at bb a0
  have b8:=ah bn
  clear bn
  go_wp2_with (refine rW rfl 141 _ rfl b 2 rfl (cmC t (.slice J k G) x) _ b8.out underlying141 rfl bf ?_)
  refine (a0.out w4 T5.out.o).mono ?_
  rintro e w5 ⟨rfl,br⟩
  have T6:=ah (T5.out.below br (by omega) K)
  clear br c5
  go_wp2
  go_ret
  rw [bb.out]
  cases ok with
  | false=>exact ⟨rfl,fun h=>(by cases h),T6.out.bl⟩
  | true=>exact ⟨rfl,fun _=>⟨⟨t,_,l,x,rfl,A9 d.out T6.out.f,fun g hg=>(T6.out.o.lt g hg).1,ai.out _ T6.out.o⟩,T6.out.f.cell 1 (by omega)⟩,T6.out.bl⟩
 have d0:((r3.fin:Int)==0)=false:=by rw [beq_eq_false_iff_ne];omega
 have HR:Hid (aL s=none):=by unfold Hid;rw [L.out,if_neg (fun h=>H h.1)]
 clear H L N
 go_wp2
 go_ret
 rw [HR.out]
 exact ⟨rfl,fun h=>(by cases h),T5.out.bl⟩
def rT (k:Int) (s:ByteArray) (w:World) (e:Ending) (w':World):Prop:=(∃p,e= .returned (.tuple #[p,.bool (aB ⟨k,s⟩)]) ∧
 (aB ⟨k,s⟩=true→k=2→ ∃b v,p= .pointer (some ⟨b,0,none⟩)∧b<w'.heap.size∧w'.cell? ⟨b,1,none⟩=some v∧qg w v∧fT w' v ((bJ s).getD [])) ∧
 (aB ⟨k,s⟩=true→k=3→ ∃b t v l x,p= .pointer (some ⟨b,0,none⟩)∧b<w'.heap.size∧aL s=some (t,l,x)∧w'.rangeAt b 2 (cmC t v x)∧qg w v∧dF w' v l) ∧
 (aB ⟨k,s⟩=true→k≠2→ ∃b,p= .pointer (some ⟨b,0,none⟩)∧w'.cell? ⟨b,1,none⟩=some (.slice none 0 0)))∧Below w.heap.size w w'
theorem pF {k:Int} {s:ByteArray} {w w':World} (h:aB ⟨k,s⟩=false) (p:Value) (hb:Below w.heap.size w w'):rT k s w (.returned (.tuple #[p,.bool false])) w' :=
 ⟨⟨p,by rw [h],fun a=>(by rw [h] at a;cases a),fun a=>(by rw [h] at a;cases a),fun a=>(by rw [h] at a;cases a)⟩,hb⟩
theorem Dt {s:ByteArray} {w w':World} {b:Nat} (h:aB ⟨1,s⟩=true) (d:w'.cell? ⟨b,1,none⟩=some (.slice none 0 0)) (hb:Below w.heap.size w w'):rT 1 s w (.returned (.tuple #[.pointer (some ⟨b,0,none⟩),.bool true])) w' :=
 ⟨⟨_,by rw [h],fun _ a=>(by cases a),fun _ a=>(by cases a),fun _ _=>⟨b,rfl,d⟩⟩,hb⟩
theorem Dr {s:ByteArray} {w w':World} {b:Nat} {v:Value} (h:aB ⟨2,s⟩=(bJ s).isSome) (e:w'.cell? ⟨b,1,none⟩=some v) (d:qg w v) (f:(bJ s).isSome=true→fT w' v ((bJ s).getD [])) (hb:Below w.heap.size w w') :
  rT 2 s w (.returned (.tuple #[.pointer (some ⟨b,0,none⟩),.bool (bJ s).isSome])) w' :=
 ⟨⟨_,by rw [h],fun a _=>⟨b,v,rfl,World.block_lt_of_cell? w' _ e,e,d,f (by rw [←h];exact a)⟩,fun _ a=>(by cases a),fun _ a=>absurd rfl a⟩,hb⟩
theorem zA {s:ByteArray} {w w':World} {b:Nat} (h:aB ⟨3,s⟩=(aL s).isSome) (g:b<w'.heap.size) (e:(aL s).isSome=true→(∃t v l x,aL s=some (t,l,x)∧w'.rangeAt b 2 (cmC t v x)∧qg w v∧dF w' v l)∧w'.cell? ⟨b,1,none⟩=some (.slice none 0 0)) (hb:Below w.heap.size w w') :
  rT 3 s w (.returned (.tuple #[.pointer (some ⟨b,0,none⟩),.bool (aL s).isSome])) w':=by
 refine ⟨⟨_,by rw [h],fun _ a=>(by cases a),fun a _=> ?_,fun a _=>⟨b,rfl,(e (by rw [←h];exact a)).2⟩⟩,hb⟩
 obtain ⟨⟨t,v,l,x,q1,q2,d,f⟩,_⟩:=e (by rw [←h];exact a)
 exact ⟨b,t,v,l,x,rfl,g,q1,q2,d,f⟩
theorem Gz (rb:Nat):(Value.pointer (some ⟨rb,0,none⟩):: .slice none 0 0::(cmC zid (.slice none 0 0) ⟨#[]⟩)).toArray= #[.pointer (some ⟨rb,0,none⟩),.slice none 0 0,.int .u8 0,.int .u8 0,.int .u8 0,.int .u8 0,.int .u8 0,.int .u8 0,.int .u8 0,.int .u8 0,.int .u8 0,.int .u8 0,.int .u8 0,.int .u8 0,.int .u8 0,.int .u8 0,.int .u8 0,.int .u8 0,.int .u8 0,.int .u8 0,.int .u8 0,.int .u8 0,.int .u8 0,.int .u8 0,.int .u8 0,.int .u8 0,.int .u8 0,.int .u8 0,.int .u8 0,.int .u8 0,.int .u8 0,.int .u8 0,.int .u8 0,.int .u8 0,.slice none 0 0,.string ⟨#[]⟩]:=by kernel_rfl
theorem EI (w:World) (rb:Nat) (e:TypeId):Arr (w.alloc (.cells #[.pointer (some ⟨rb,0,none⟩),.slice none 0 0,.int .u8 0,.int .u8 0,.int .u8 0,.int .u8 0,.int .u8 0,.int .u8 0,.int .u8 0,.int .u8 0,.int .u8 0,.int .u8 0,.int .u8 0,.int .u8 0,.int .u8 0,.int .u8 0,.int .u8 0,.int .u8 0,.int .u8 0,.int .u8 0,.int .u8 0,.int .u8 0,.int .u8 0,.int .u8 0,.int .u8 0,.int .u8 0,.int .u8 0,.int .u8 0,.int .u8 0,.int .u8 0,.int .u8 0,.int .u8 0,.int .u8 0,.int .u8 0,.slice none 0 0,.string ⟨#[]⟩] e)) w.heap.size 36 (iV rb zid (.slice none 0 0) ⟨#[]⟩):=by
 rw [←Gz]
 have h:=Arr.ofList w (Value.pointer (some ⟨rb,0,none⟩):: .slice none 0 0::(cmC zid (.slice none 0 0) ⟨#[]⟩)) e
 have b:(Value.pointer (some ⟨rb,0,none⟩):: .slice none 0 0::(cmC zid (.slice none 0 0) ⟨#[]⟩)).length=36:=by
  simp only [List.length_cons,jv _ _ _ aV]
 rw [b] at h
 refine h.congr fun k d=> ?_
 obtain a|a|a:k=0∨k=1∨2≤k:=by omega
 ·subst a;rfl
 ·subst a;rfl
 rw [iN _ _ _ _ a]
 obtain ⟨j,rfl⟩:∃j,k=j+2:=⟨k-2,by omega⟩
 rfl
theorem NS {w:World} {b rb:Nat} (h:Arr w b 36 (iV rb zid (.slice none 0 0) ⟨#[]⟩)):Arr w b 2 (Bo (.pointer (some ⟨rb,0,none⟩)) (.slice none 0 0)) :=
 ⟨fun k d=>by
  have:=h.cell k (by omega)
  obtain a|a:k=0∨k=1:=by omega
  all_goals subst a;exact this,fun k d=>h.free k (by omega)⟩
theorem Am (k:Int) (s:ByteArray) (w:World) :
  Calls prog 214 #[.agg #[.int .i64 k,.string s]] w (rT k s w):=by
 have q:Hid (∀(m n:Obj),Below w.heap.size w ((w.alloc m).alloc n)):=ah (fun m n=>bal.alloc (by simp) _)
 have u:Hid (∀(m n y N:Obj),Below w.heap.size w ((((w.alloc m).alloc n).alloc y).alloc N)):=ah (fun m n y N=>((bal.alloc (by simp) _).alloc (by simp;omega) _).alloc (by simp;omega) _)
 have M:Hid (∀(m n y:Obj) (cs:Array Value) (t:TypeId),((((w.alloc m).alloc n).alloc y).alloc (.cells cs t)).cell? ⟨w.heap.size+1+1+1,1,none⟩=cs[1]?):=ah (fun m n y cs t=>by
  have h:=World.cell?_alloc_new (w:=((w.alloc m).alloc n).alloc y) cs t 1
  rw [World.size_alloc,World.size_alloc,World.size_alloc] at h
  exact h)
 by_cases h1:k<1
 ·have F:decide (k<1)=true:=decide_eq_true h1
  have j:Hid (aB ⟨k,s⟩=false):=by
   unfold Hid aB;rw [if_neg (show ¬k=1 by omega),if_neg (show ¬k=2 by omega),if_neg (show ¬k=3 by omega),Bool.and_false]
  go_enter func214,ntmps214
  go_wp2_with fail
  go_ret2
  exact pF j.out _ (q.out _ _)
 have F:decide (k<1)=false:=decide_eq_false h1
 by_cases B:3<k
 ·have E:decide (3<k)=true:=decide_eq_true B
  have j:Hid (aB ⟨k,s⟩=false):=by
   unfold Hid aB;rw [if_neg (show ¬k=1 by omega),if_neg (show ¬k=2 by omega),if_neg (show ¬k=3 by omega),Bool.and_false]
  go_enter func214,ntmps214
  go_wp2_with fail
  go_ret2
  exact pF j.out _ (q.out _ _)
 have E:decide (3<k)=false:=decide_eq_false B
 by_cases I:4096<s.size
 ·have O:decide ((4096:Int)<s.size)=true:=decide_eq_true (by omega)
  have j:Hid (aB ⟨k,s⟩=false):=by unfold Hid aB;rw [decide_eq_false (show ¬s.size≤4096 by omega),Bool.false_and]
  go_enter func214,ntmps214
  go_wp2_with fail
  go_ret2
  exact pF j.out _ (q.out _ _)
 have O:decide ((4096:Int)<s.size)=false:=decide_eq_false (by omega)
 have HS:Hid (aB ⟨k,s⟩=(if k=1 then true else if k=2 then (bJ s).isSome else if k=3 then (aL s).isSome else false)):=by
  unfold Hid aB;rw [decide_eq_true (show s.size≤4096 by omega),Bool.true_and]
 have C:s.size≤100000:=by omega
 obtain rfl|rfl|rfl:k=1∨k=2∨k=3:=by omega
 ·have j:Hid (aB ⟨1,s⟩=true):=by unfold Hid;rw [HS.out];rfl
  clear h1 B I HS F E
  go_enter func214,ntmps214
  go_wp2_with (go_at_call 128;refine (sw s _).mono ?_;rintro e w' ⟨rfl,rfl⟩)
  refine (JE _ _).mono ?_
  rintro e w' ⟨rfl,rfl⟩
  go_wp2
  go_ret2
  exact Dt j.out (M.out _ _ _ _ _) (u.out _ _ _ _)
 ·have j:Hid (aB ⟨2,s⟩=(bJ s).isSome):=by unfold Hid;rw [HS.out];rfl
  clear h1 B I F E HS
  have d:=ah (fun W (J:Arr W (w.heap.size+1+1) 3 (rd0 s).c) (hb:Arr W (w.heap.size+1+1+1) 36 (iV (w.heap.size+1+1) zid (.slice none 0 0) ⟨#[]⟩)) =>
   JB w.heap.size _ _ s W J (NS hb) (by omega) (by omega) (by omega) C)
  go_enter func214,ntmps214
  go_wp2_with (go_at_call 128;refine (sw s _).mono ?_;rintro e w' ⟨rfl,rfl⟩)
  obtain ⟨i,a⟩:∃i:World,i.heap.size=w.heap.size+1+1∧i=(w.alloc (.cells #[.int .i64 2,.string s] 33)).alloc (.cells #[.nilFunc,.func (.func 241) #[] #[],.func (.func 242) #[] #[],.func (.func 243) #[] #[]] 318):=⟨_,by simp,rfl⟩
  rw [←a.2]
  have hA:=(vG i s 276).alloc (by omega) (.cells #[.pointer (some ⟨w.heap.size+1+1,0,none⟩),.slice none 0 0,.int .u8 0,.int .u8 0,.int .u8 0,.int .u8 0,.int .u8 0,.int .u8 0,.int .u8 0,.int .u8 0,.int .u8 0,.int .u8 0,.int .u8 0,.int .u8 0,.int .u8 0,.int .u8 0,.int .u8 0,.int .u8 0,.int .u8 0,.int .u8 0,.int .u8 0,.int .u8 0,.int .u8 0,.int .u8 0,.int .u8 0,.int .u8 0,.int .u8 0,.int .u8 0,.int .u8 0,.int .u8 0,.int .u8 0,.int .u8 0,.int .u8 0,.int .u8 0,.slice none 0 0,.string ⟨#[]⟩] 320)
  have p:=EI (i.alloc (.cells #[.string s,.int .i64 0,.int .i64 0] 276)) (w.heap.size+1+1) 320
  rw [World.size_alloc,a.1] at p
  rw [a.1] at hA
  have b:=ah (u.out (.cells #[.int .i64 2,.string s] 33) (.cells #[.nilFunc,.func (.func 241) #[] #[],.func (.func 242) #[] #[],.func (.func 243) #[] #[]] 318) (.cells #[.string s,.int .i64 0,.int .i64 0] 276) (.cells #[.pointer (some ⟨w.heap.size+1+1,0,none⟩),.slice none 0 0,.int .u8 0,.int .u8 0,.int .u8 0,.int .u8 0,.int .u8 0,.int .u8 0,.int .u8 0,.int .u8 0,.int .u8 0,.int .u8 0,.int .u8 0,.int .u8 0,.int .u8 0,.int .u8 0,.int .u8 0,.int .u8 0,.int .u8 0,.int .u8 0,.int .u8 0,.int .u8 0,.int .u8 0,.int .u8 0,.int .u8 0,.int .u8 0,.int .u8 0,.int .u8 0,.int .u8 0,.int .u8 0,.int .u8 0,.int .u8 0,.int .u8 0,.int .u8 0,.slice none 0 0,.string ⟨#[]⟩] 320))
  rw [←a.2] at b
  refine (d.out _ hA p).mono ?_
  rintro e w' ⟨rfl,⟨v,D,A,f⟩,hb⟩
  have R:=ah D
  have G:=ah (fun g L=>Nat.le_trans b.out.size (A g L))
  have r:=ah f
  have o:=ah hb
  clear hA p D A f hb a d
  have H:=ah (b.out.trans o.out)
  go_wp2
  go_ret2
  exact Dr j.out R.out G.out r.out H.out
 have j:Hid (aB ⟨3,s⟩=(aL s).isSome):=by unfold Hid;rw [HS.out];rfl
 clear h1 B I F E HS
 have d:=ah (fun W (J:Arr W (w.heap.size+1+1) 3 (rd0 s).c) (hb:Arr W (w.heap.size+1+1+1) 36 (iV (w.heap.size+1+1) zid (.slice none 0 0) ⟨#[]⟩)) =>
  vv w.heap.size _ _ s W J hb (by omega) (by omega) (by omega) C)
 go_enter func214,ntmps214
 go_wp2_with (go_at_call 128;refine (sw s _).mono ?_;rintro e w' ⟨rfl,rfl⟩)
 obtain ⟨i,a⟩:∃i:World,i.heap.size=w.heap.size+1+1∧i=(w.alloc (.cells #[.int .i64 3,.string s] 33)).alloc (.cells #[.nilFunc,.func (.func 241) #[] #[],.func (.func 242) #[] #[],.func (.func 243) #[] #[]] 318):=⟨_,by simp,rfl⟩
 rw [←a.2]
 have hA:=(vG i s 276).alloc (by omega) (.cells #[.pointer (some ⟨w.heap.size+1+1,0,none⟩),.slice none 0 0,.int .u8 0,.int .u8 0,.int .u8 0,.int .u8 0,.int .u8 0,.int .u8 0,.int .u8 0,.int .u8 0,.int .u8 0,.int .u8 0,.int .u8 0,.int .u8 0,.int .u8 0,.int .u8 0,.int .u8 0,.int .u8 0,.int .u8 0,.int .u8 0,.int .u8 0,.int .u8 0,.int .u8 0,.int .u8 0,.int .u8 0,.int .u8 0,.int .u8 0,.int .u8 0,.int .u8 0,.int .u8 0,.int .u8 0,.int .u8 0,.int .u8 0,.int .u8 0,.slice none 0 0,.string ⟨#[]⟩] 320)
 have p:=EI (i.alloc (.cells #[.string s,.int .i64 0,.int .i64 0] 276)) (w.heap.size+1+1) 320
 rw [World.size_alloc,a.1] at p
 rw [a.1] at hA
 have b:=ah (u.out (.cells #[.int .i64 3,.string s] 33) (.cells #[.nilFunc,.func (.func 241) #[] #[],.func (.func 242) #[] #[],.func (.func 243) #[] #[]] 318) (.cells #[.string s,.int .i64 0,.int .i64 0] 276) (.cells #[.pointer (some ⟨w.heap.size+1+1,0,none⟩),.slice none 0 0,.int .u8 0,.int .u8 0,.int .u8 0,.int .u8 0,.int .u8 0,.int .u8 0,.int .u8 0,.int .u8 0,.int .u8 0,.int .u8 0,.int .u8 0,.int .u8 0,.int .u8 0,.int .u8 0,.int .u8 0,.int .u8 0,.int .u8 0,.int .u8 0,.int .u8 0,.int .u8 0,.int .u8 0,.int .u8 0,.int .u8 0,.int .u8 0,.int .u8 0,.int .u8 0,.int .u8 0,.int .u8 0,.int .u8 0,.int .u8 0,.int .u8 0,.int .u8 0,.slice none 0 0,.string ⟨#[]⟩] 320))
 rw [←a.2] at b
 have z:=p.lt (show 0<36 by omega)
 refine (d.out _ hA p).mono ?_
 rintro e w' ⟨rfl,f,hb⟩
 have r:Hid ((aL s).isSome=true→(∃t v l x,aL s=some (t,l,x)∧w'.rangeAt (w.heap.size+1+1+1) 2 (cmC t v x)∧qg w v∧dF w' v l)∧w'.cell? ⟨w.heap.size+1+1+1,1,none⟩=some (.slice none 0 0)):=ah (fun h=>by
  obtain ⟨⟨t,v,l,x,q1,q2,Q,S⟩,P⟩:=f h
  exact ⟨⟨t,v,l,x,q1,q2,fun g L=>Nat.le_trans b.out.size (Q g L),S⟩,P⟩)
 have o:=ah hb
 clear hA p f hb a d
 have H:=ah (b.out.trans o.out)
 have K:=ah z
 clear z
 go_wp2
 go_ret2
 exact zA j.out (Nat.lt_of_lt_of_le K.out o.out.size) r.out H.out
theorem xM (k:Int) (s:ByteArray) (w:World) :
  Calls prog 164 #[.agg #[.int .i64 k,.string s]] w fun e w'=>e= .returned (.bool (aB ⟨k,s⟩))∧Below w.heap.size w w':=by
 have d:=ah (fun w=>Am k s w)
 have a:Hid (∀o,Below w.heap.size w (w.alloc o)):=ah (fun o=>bal)
 go_enter func164,ntmps164
 go_wp2_with fail
 refine (d.out _).mono ?_
 intro e w1 h
 obtain ⟨⟨p,rfl,_,_⟩,hb⟩:=h
 have b:=ah ((a.out _).trans (hb.mono (a.out _).size))
 clear hb
 go_wp2
 go_ret
 exact ⟨rfl,b.out⟩
def okI (b:Bool):Int:=if b=true then 0 else 1
theorem BZ (k:Nat) (h:k=1∨k=2∨k=3) (w:World):(Instr.slice 9 (.string ⟨#[32,98,116,99]⟩) (some (.int .i64 (k:Int))) (some (.int .i64 ((k:Int)+1))) none).run prog w= .ok (.string (ofB [fD k])) w:=by
 rcases h with rfl|rfl|rfl
 ·exact kZ ⟨#[32,98,116,99]⟩ 1 1 (by decide) w
 ·exact kZ ⟨#[32,98,116,99]⟩ 2 1 (by decide) w
 exact kZ ⟨#[32,98,116,99]⟩ 3 1 (by decide) w
theorem qE {o:Ob} (h:aB o=true):(o.kind=1∨o.kind=2∨o.kind=3)∧o.body.size≤4096:=by
 unfold aB at h
 simp only [Bool.and_eq_true,decide_eq_true_eq] at h
 refine ⟨?_,h.1⟩
 have a:=h.2
 split at a
 ·exact .inl (by assumption)
 split at a
 ·exact .inr (.inl (by assumption))
 split at a
 ·exact .inr (.inr (by assumption))
 cases a
def IC (k:Int) (s:ByteArray) (w:World) (e:Ending) (w':World):Prop:=e= .returned (.tuple #[.string (if aB ⟨k,s⟩=true then ofB (bV ⟨k,s⟩) else ⟨#[]⟩),.int .i64 (okI (aB ⟨k,s⟩))])∧Below w.heap.size w w'
theorem Nf {k:Int} {s:ByteArray} {w w':World} (h:aB ⟨k,s⟩=false) (hb:Below w.heap.size w w'):IC k s w (.returned (.tuple #[.string ⟨#[]⟩,.int .i64 1])) w':=⟨by rw [h];rfl,hb⟩
theorem Kk {k:Int} {s q:ByteArray} {w w':World} (h:aB ⟨k,s⟩=true) (a:q=ofB (bV ⟨k,s⟩)) (hb:Below w.heap.size w w'):IC k s w (.returned (.tuple #[.string q,.int .i64 0])) w':=⟨by rw [h,a];rfl,hb⟩
theorem xP (k:Int) (s:ByteArray) (w:World) :
  Calls prog 93 #[.agg #[.int .i64 k,.string s]] w (IC k s w):=by
 have G:=ah (fun w=>xM k s w)
 have b:Hid (∀o,Below w.heap.size w (w.alloc o)):=ah (fun o=>bal)
 cases g:aB ⟨k,s⟩ with
 | false =>
  have i:=ah g
  rw [g] at G
  clear g
  go_enter func93,ntmps93
  go_wp2_with fail
  refine (G.out _).mono ?_
  rintro e w1 ⟨rfl,hb⟩
  have F:=ah ((b.out _).trans (hb.mono (b.out _).size))
  clear hb
  go_wp2
  go_ret2
  exact Nf i.out F.out
 | true =>
  obtain ⟨N,P⟩:=qE g
  have i:=ah g
  rw [g] at G
  clear g
  dsimp only at N P
  obtain ⟨n,rfl,O⟩:∃n:Nat,k=(n:Int)∧(n=1∨n=2∨n=3):=⟨k.toNat,by omega,by omega⟩
  have I:=fun w=>BZ n O w
  have R:(0:Int)≤n:=by omega
  have k3:(n:Int)≤3:=by omega
  clear N O
  go_enter func93,ntmps93
  go_wp2_with fail
  refine (G.out _).mono ?_
  rintro e w1 ⟨rfl,hb⟩
  have t:w.heap.size<w1.heap.size:=by have:=hb.size;simp at this;omega
  have Q:w1.cell? ⟨w.heap.size,0,none⟩=some (.int .i64 n):=by rw [hb.cell (p:=⟨w.heap.size,0,none⟩) (by simp),World.cell?_alloc_new];rfl
  have c1:w1.cell? ⟨w.heap.size,1,none⟩=some (.string s):=by rw [hb.cell (p:=⟨w.heap.size,1,none⟩) (by simp),World.cell?_alloc_new];rfl
  have F:=ah ((b.out _).trans (hb.mono (b.out _).size))
  clear hb
  go_wp2_with fail
  generalize j:fD (n:Int)=lt
  have u:(ofB [lt]).size=1:=by rw [aR];rfl
  have l:(ofB [lt]).data.toList=[lt]:=by rw [bq]
  have z:Wr w1.heap.size w1.heap.size [] ((w1.alloc (.cells #[.pointer none,.slice none 0 0] 193)).alloc (.cells #[.string (ofB [lt])] 9)) :=
   Wr.below (Lib.fresh_isBuilder 193 5 w1) bal
  have h:Below w1.heap.size w1 ((w1.alloc (.cells #[.pointer none,.slice none 0 0] 193)).alloc (.cells #[.string (ofB [lt])] 9)):=bal.alloc (by simp) _
  have C:((w1.alloc (.cells #[.pointer none,.slice none 0 0] 193)).alloc (.cells #[.string (ofB [lt])] 9)).cell? ⟨w1.heap.size+1,0,none⟩=some (.string (ofB [lt])):=by
   have:=World.cell?_alloc_new (w1.alloc (.cells #[.pointer none,.slice none 0 0] 193)) #[.string (ofB [lt])] 9 0
   rw [World.size_alloc] at this
   rw [this];rfl
  have f:=kS w1.heap.size w1.heap.size [] (w1.heap.size+1) (ofB [lt]) _ z C (by rw [u];simp) h.size
  rw [l,List.nil_append] at f
  have r:=ah h
  have K:=ah j
  clear j u l z h C
  refine f.mono ?_
  rintro e A ⟨rfl,D,x⟩
  have d:=ah (r.out.trans x)
  have c2:A.cell? ⟨w.heap.size,1,none⟩=some (.string s):=au c1 d.out t
  have J:=ah D
  have H:=d.out.size
  clear f D x r I Q c1
  go_wp2_with fail
  have a:Below A.heap.size A (A.alloc (.cells #[.string s] 9)):=bal
  have m:=o8 w1.heap.size w1.heap.size [lt] A.heap.size s _ (J.out.below a) (by rw [World.cell?_alloc_new];rfl) (by omega) (by simp) (by have:=a.size;omega)
  have q:=ah a
  clear a
  refine m.mono ?_
  rintro e w3 ⟨rfl,v,E⟩
  have M:=ah ((d.out.trans (q.out.mono H)).trans E)
  have y:=zM w1.heap.size w1.heap.size _ w3 v (by simp)
  clear m v E c2
  go_wp2_with fail
  refine y.mono ?_
  rintro e w4 ⟨rfl,B⟩
  have L:=ah (F.out.trans ((M.out.trans B).mono F.out.size))
  clear y B
  go_wp2
  go_ret2
  exact Kk i.out (by unfold bV;rw [K.out]) L.out
theorem dQ:(∀w,(zeroValue 42).run prog w= .ok (.agg (idC zid).toArray) w)∧ ∀w,(Instr.build 42 #[]).run prog w= .ok (.agg (idC zid).toArray) w :=
 ⟨fun w=>by kernel_rfl,fun w=>run_build w 42 #[] _ (by kernel_rfl)⟩
def rU (k:Int) (s:ByteArray) (w:World) (e:Ending) (w':World):Prop:=e= .returned (.tuple #[.agg (idC (if aB ⟨k,s⟩=true then idO ⟨k,s⟩ else zid)).toArray,.bool (aB ⟨k,s⟩)])∧Below w.heap.size w w'
theorem M6 {k:Int} {s:ByteArray} {w w':World} (h:aB ⟨k,s⟩=false) (hb:Below w.heap.size w w'):rU k s w (.returned (.tuple #[.agg (idC zid).toArray,.bool false])) w':=⟨by rw [h];rfl,hb⟩
theorem J7 {k:Int} {s:ByteArray} {x:List UInt8} {w w':World} (h:aB ⟨k,s⟩=true) (a:x=idO ⟨k,s⟩) (hb:Below w.heap.size w w'):rU k s w (.returned (.tuple #[.agg (idC x).toArray,.bool true])) w':=⟨by rw [h,a];rfl,hb⟩
theorem BQ (k:Int) (s:ByteArray) (w:World) (L:Laid w) :
  Calls prog 51 #[.agg #[.int .i64 k,.string s]] w (rU k s w):=by
 obtain ⟨S,N⟩:=dQ
 have b:(idC zid).length=32:=by rw [av,aV]
 have R:=ah (fun w=>xP k s w)
 have x:=aJ zid
 have H:Hid (∀w',aB ⟨k,s⟩=false→Below w.heap.size w w'→rU k s w (.returned (.tuple #[.agg (idC zid).toArray,.bool false])) w'):=ah (fun w' h hb=>M6 h hb)
 generalize idC zid=z at S N b x H
 obtain ⟨W0,a⟩:∃W0,W0=(w.alloc (.cells #[.int .i64 k,.string s] 33)).alloc (.cells z.toArray 42):=⟨_,rfl⟩
 have hA:W0.there (w.heap.size+1) 0 32:=by
  have:=(Arr.ofList (w.alloc (.cells #[.int .i64 k,.string s] 33)) z 42).there
  rw [World.size_alloc,b] at this;rw [a];exact this
 have o:Below w.heap.size w W0:=by rw [a];exact bal.alloc (by simp) _
 have u:W0.heap.size=w.heap.size+1+1:=by rw [a];simp
 have i:(prog.info? 42).map (·.size)=some 32:=by kernel_rfl
 have G:(prog.info? 42).map (·.size)=some z.length:=by rw [b];exact i
 have D:=ah o
 have U:=ah u
 have j:=ah b
 have Q:=ah x
 have T:=ah (L.below o)
 have y:Hid (∀w1,Below W0.heap.size W0 w1→w1.there (w.heap.size+1) 0 32):=ah (fun w1 hb=>gX hA hb (by rw [u];omega))
 have f:Hid (∀w1 cs,cs.length=32→Below W0.heap.size W0 w1→(w1.setCells (w.heap.size+1) 0 cs).rangeAt (w.heap.size+1) 0 cs∧Below w.heap.size w (w1.setCells (w.heap.size+1) 0 cs)):=ah (fun w1 cs V hb=> 
  ⟨World.rangeAt_setCells_same w1 _ 0 _ (by rw [V];exact y.out w1 hb),below_setCells _ (by omega) _ _ _ (D.out.trans (hb.mono D.out.size))⟩)
 clear o hA u b x L
 cases F:aB ⟨k,s⟩ with
 | false =>
  have d:=ah F
  clear F
  go_enter func51,ntmps51
  go_wp2_with fail
  rw [←a]
  clear a
  refine (R.out _).mono ?_
  intro e w1 h
  obtain ⟨rfl,hb⟩:=h
  rw [d.out]
  have A:=ah hb
  clear hb
  rw [if_neg (show ¬(false=true) by simp),show okI false=1 from rfl]
  go_wp2_with (refine aj rfl 42 _ _ rfl (w.heap.size+1) 0 z rfl rfl 32 j.out (y.out _ A.out) i Q.out ?_)
  refine aP rfl (w.heap.size+1) 0 rfl _ _ (f.out _ z j.out A.out).1 underlying42 rfl G rfl _ rfl (H.out _ d.out (f.out _ z j.out A.out).2)
 | true =>
  have d:=ah F
  have B:(ofB (bV ⟨k,s⟩)).size≤1000000000:=by
   rw [aR];unfold bV
   have:=(qE F).2
   have Y:=gG (n:=s.size) (by dsimp only at this;omega)
   simp at *;omega
  clear F
  go_enter func51,ntmps51
  go_wp2_with fail
  rw [←a]
  clear a
  refine (R.out _).mono ?_
  intro e w1 h
  obtain ⟨rfl,hb⟩:=h
  rw [d.out]
  have A:=ah hb
  have P:=ah (T.out.below hb)
  clear hb
  rw [if_pos rfl,show okI true=0 from rfl]
  have r:zu (ofB (bV ⟨k,s⟩))=idO ⟨k,s⟩:=P7 _
  have J:=fC ⟨k,s⟩
  generalize ofB (bV ⟨k,s⟩)=q at B r
  have l:=fun (W:World) (L:Laid W) (p:Nat) (X:W.cell? ⟨p,0,none⟩=some (.string q))=>Nv p 0 1 q W X L B
  rw [r] at l
  have M:=ah l
  have C:Hid (∀w',Below w.heap.size w w'→rU k s w (.returned (.tuple #[.agg (idC (idO ⟨k,s⟩)).toArray,.bool true])) w'):=ah (fun w' hb=>J7 d.out rfl hb)
  clear l r
  go_wp2_with fail
  refine (M.out _ (P.out.below bal) _ (by rw [World.cell?_alloc_new];rfl)).mono ?_
  rintro e Z ⟨rfl,E⟩
  have m:=ah (A.out.trans ((bal.trans (E.mono (by simp))).mono A.out.size))
  clear E
  have I:idV (idO ⟨k,s⟩)= .agg (idC (idO ⟨k,s⟩)).toArray:=rfl
  rw [I]
  clear I
  have g:(idC (idO ⟨k,s⟩)).length=32:=by rw [av,J]
  have t:=aJ (idO ⟨k,s⟩)
  generalize idC (idO ⟨k,s⟩)=cx at g t C
  have K:(prog.info? 42).map (·.size)=some cx.length:=by rw [g];exact i
  have v:=ah g
  have O:=ah t
  clear g t J
  go_wp2_with (refine aj rfl 42 _ _ rfl (w.heap.size+1) 0 cx rfl rfl 32 v.out (y.out _ m.out) i O.out ?_)
  refine aP rfl (w.heap.size+1) 0 rfl _ _ (f.out _ cx v.out m.out).1 underlying42 rfl K rfl _ rfl (C.out _ (f.out _ cx v.out m.out).2)
end
end Go.Proofs.YtlhcoanbhnphgaaGreatDoor
