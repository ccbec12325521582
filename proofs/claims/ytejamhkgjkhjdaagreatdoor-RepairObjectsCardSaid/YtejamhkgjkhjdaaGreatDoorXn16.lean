/- A part of this claim. -/
import Derived.Deep.CutRange
import Derived.Laws.EntriesVeiled
import Derived.Test.YtejamhkgjkhjdaaGreatDoorXn11
import Derived.Test.YtejamhkgjkhjdaaGreatDoorXn14
namespace Go.Proofs.YtejamhkgjkhjdaaGreatDoor
open Tryz
set_option maxHeartbeats 64000000
set_option maxRecDepth 100000
set_option linter.all false
section
open Go.RowKit
theorem Gu (p:Value) (w:World):Calls prog 157 #[p] w fun e w'=>e= .returned (.bool true)∧w'=w:=by
 go_enter func157,ntmps157
 go_wp2
 go_ret
 exact ⟨rfl,rfl⟩
theorem pJ (s:ByteArray) (w:World):Calls prog 33 #[.string s] w fun e w'=>e= .returned (.pointer (some ⟨w.heap.size,0,none⟩))∧w'=w.alloc (.cells #[.string s,.int .i64 0,.int .i64 0] 124):=by
 go_enter func33,ntmps33
 go_wp2
 go_ret
 exact ⟨rfl,rfl⟩
def xZ (a v:Value) (k:Nat):Value:=if k=0 then a else v
theorem Mr (a v u:Value):∀k,k<2→upd (xZ a v) 1 u k=xZ a u k:=by
 intro k b
 obtain h|h:k=0∨k=1:=by omega
 all_goals subst h;rfl
theorem Hu (a:Nat) (nm:ByteArray) (w:World):(Instr.build 228 #[(1,.int .i64 (a:Int)),(0,.string nm)]).run prog w= .ok (.agg (bW ⟨nm,a,zid⟩).toArray) w :=
 run_build w 228 _ _ (by kernel_rfl)
theorem Lx (nm:ByteArray) (b:Nat) (d:List UInt8) (h:d.length=32) (k:Nat) (f:k<34):(if 2≤k∧k<2+(idC d).length then (idC d).getD (k-2) undef else Bv ⟨nm,b,zid⟩ k)=Bv ⟨nm,b,d⟩ k:=by
 have:=Bu ⟨nm,b,d⟩ h k f
 rw [←this]
 dsimp only
 have e:(idC d).length=32:=by rw [aA,h]
 rw [e]
 obtain a|a|a:k=0∨k=1∨2≤k:=by omega
 ·subst a;rfl
 ·subst a;rfl
 rw [if_pos ⟨a,by omega⟩,if_pos ⟨a,by omega⟩]
def nI (w:World) (v:Value):Prop:=∀g,v.ownBlock=some g→w.heap.size≤g
structure TS (B rb b nb base:Nat) (ty:TypeId) (sz:Nat) (W0:World) (c fb:Nat → Value) (V:Value) (n:Nat) (xs:List Value) (W:World):Prop where
 a:Arr W rb 3 c
 f:Arr W b nb fb
 o:W.ownsRow base ty sz V n xs
 bl:Below B W0 W
section
variable {B rb b nb base:Nat} {ty:TypeId} {sz:Nat} {W0 W W':World} {c c' fb:Nat → Value} {V:Value} {n:Nat} {xs:List Value}
theorem TS.read (h:TS B rb b nb base ty sz W0 c fb V n xs W) (hA:Arr W' rb 3 c') (g:W.grownBy W' (some rb)) (d:rb≠b) (i:B≤rb) (e:rb<base):TS B rb b nb base ty sz W0 c' fb V n xs W' :=
 ⟨hA,h.f.grown g (Ne.symm d),fZ h.o g e,h.bl.grown g (by have:=h.a.lt (show 0<3 by omega);omega) (fun k j=>by cases j;exact i)⟩
theorem TS.below (h:TS B rb b nb base ty sz W0 c fb V n xs W) (hb:Below W.heap.size W W') (d:0<nb) (e:B≤rb):TS B rb b nb base ty sz W0 c fb V n xs W' :=
 ⟨h.a.below hb (h.a.lt (by omega)),h.f.below hb (h.f.lt d),own_below h.o hb,h.bl.trans (hb.mono (by have:=h.a.lt (show 0<3 by omega);omega))⟩
theorem TS.lt (h:TS B rb b nb base ty sz W0 c fb V n xs W):rb<W.heap.size:=h.a.lt (by omega)
theorem TS.ltb (h:TS B rb b nb base ty sz W0 c fb V n xs W) (a:0<nb):b<W.heap.size:=h.f.lt a
theorem TS.sets (h:TS B rb b nb base ty sz W0 c fb V n xs W) {E:Nat} (us:List Value) (o:Nat) (h1:E≠rb) (e:E≠b) (d:V.ownBlock=none∨V.ownBlock≠some E) (g:B≤E):TS B rb b nb base ty sz W0 c fb V n xs (W.setCells E o us) :=
 ⟨h.a.fG h1 us o,h.f.fG e us o,AA h.o d,below_setCells E g us o W h.bl⟩
end
theorem Gq (B rb b:Nat) (s:ByteArray) (w:World) (hr:Arr w rb 3 (rd0 s).c) (hb:Arr w b 2 (xZ (.pointer (some ⟨rb,0,none⟩)) (.slice none 0 0))) (m:B≤rb) (cI:B≤b) (Z:rb≠b) (hs:s.size≤100000) :
  Calls prog 158 #[.pointer (some ⟨b,0,none⟩)] w fun e w'=>e= .returned (.bool (bE s).isSome)∧(∃v,w'.cell? ⟨b,1,none⟩=some v∧nI w v∧((bE s).isSome=true→eG w' v ((bE s).getD [])))∧Below B w w':=by
 obtain ⟨zs,i0,hi,cY,bm,cH,a1,cU,bf⟩:=uN
 have ct:zs.size=34:=by rw [bf];simp
 have cQ:=ah ct
 have c8:=ah bf
 clear ct bf cU
 have Y:=hr.lt (by omega)
 have cS:=hb.lt (by omega)
 have cX:=ah hr
 have c6:=ah hb
 clear hr hb
 go_enter func158,ntmps158
 go_wp2
 go_loopw [] (fun wr=> ∃(r:Rd) (es:List Ent) (f:Nat) (v:Value),Arr wr rb 3 r.c∧Hid r.fine∧r.err≤4∧Hid (r.s=s)∧Hid (r.fH f es=(rd0 s).fH (s.size+1) [])∧Hid (r.err=0→r.s.size-r.pos<f∧es.length≤r.pos)∧Hid (∀e∈es,e.id.length=32)∧es.length≤100001∧Arr wr b 2 (xZ (.pointer (some ⟨rb,0,none⟩)) v)∧wr.ownsRow w.heap.size 228 34 v es.length (kL es)∧Below B w wr) (fun wr=>EP rb wr)
 case atStart=>exact ⟨rd0 s,[],s.size+1,_,cX.out,dz s (by omega),by show 0≤4;omega,rfl,rfl,(fun _=>⟨by show s.size-0<s.size+1;omega,Nat.zero_le _⟩),(fun e he=>by cases he),by simp,c6.out,World.ownsRow_nil _ _ _ _,Below.refl _ _⟩
 obtain ⟨wo,rfl⟩:∃wo:World,wo=wr:=⟨_,rfl⟩
 obtain ⟨r,es,f,v,hA,hf,h4,cn,hN,b0,aE,di,A,M,am⟩:=hrel
 have c0:wo.cell? ⟨b,0,none⟩=some (.pointer (some ⟨rb,0,none⟩)):=A.cell 0 (by omega)
 have ap:=ah (kP rb r wo hA hf.out)
 have de:=am.size
 obtain ⟨I,J,rfl⟩:=dL M
 have ab:=r.K6 h4
 by_cases hm:r.more=true
 ·obtain ⟨bh,dq⟩:=of_decide_eq_true hm
  obtain ⟨dl,dg⟩:=b0.out bh
  have a7:r.fin=5:=by rw [hm] at ab;exact of_decide_eq_true ab.symm
  rw [a7] at ap
  have cD:=ah (oH hA)
  have cM:=ah bh
  have bo:=ah (uL r hf.out)
  have l:Hid (r.entry=(((r.num 2).1.text 32).1.id.1,⟨((r.num 2).1.text 32).2,(r.num 2).2,((r.num 2).1.text 32).1.id.2⟩)):=ah rfl
  have a0:=ah (Rd.bK r 2 hf.out)
  have aq:=ah (Rd.dG _ 32 a0.out.1)
  have HA:=ah hA
  have HN:=ah (fun W (hA:Arr W rb 3 r.c)=>nM rb r 2 W hA hf.out (by omega))
  have HT:=ah (fun W (hA:Arr W rb 3 (r.num 2).1.c)=>jB rb _ 32 W hA a0.out.1 (by omega))
  have HI:=ah (fun W (hA:Arr W rb 3 ((r.num 2).1.text 32).1.c)=>xW rb _ W hA aq.out)
  have y:Hid ((((r.num 2).1.text 32).1.id.2).length=32):=ah (dX _)
  have bc:=ah (r.gD hf.out)
  have t:=ah (r.uM h4)
  have az:=ah (r.EZ)
  have ae:=ah (r.gX hf.out)
  have bp:Hid (r.fH f es=r.entry.1.fH (f-1) (es++[r.entry.2])):=ah (EY r f es hm (by omega))
  clear hm bh a7 ab
  generalize r.entry=en at l bo bc t az ae bp
  obtain ⟨r',e⟩:=en
  generalize r.num 2=x1 at l HN HT a0 HI y aq
  obtain ⟨r1,C⟩:=x1
  dsimp only at l HN HT a0 HI y aq
  generalize r1.text 32=x2 at l HT HI y aq
  obtain ⟨r2,nm⟩:=x2
  dsimp only at l HT HI y aq
  generalize r2.id=x3 at l HI y
  obtain ⟨r3,d⟩:=x3
  dsimp only at l HI y bc t az bo ae bp
  obtain ⟨rfl,rfl⟩:r'=r3∧e=⟨nm,C,d⟩:=by have:=l.out;injection this with h1 h2;exact ⟨h1,h2⟩
  clear l
  have ca:=ah A
  have HO:=ah M
  have b8:=ah am
  have df:rb<wo.heap.size:=by omega
  have c9:b<wo.heap.size:=by omega
  clear hA A M am
  go_wp2_with fail
  refine ap.out.mono ?_
  rintro e w1 ⟨rfl,bb⟩
  have N:Hid (TS B rb b 2 w.heap.size 228 34 w r.c (xZ (.pointer (some ⟨rb,0,none⟩)) (.slice I es.length J)) (.slice I es.length J) es.length (kL es) w1) :=
   ah (TS.below ⟨HA.out,ca.out,HO.out,b8.out⟩ bb (by omega) m)
  have cx:=oz N.out.o
  have dp:=bb.size
  have H:w1.cell? ⟨b,0,none⟩=some (.pointer (some ⟨rb,0,none⟩)):=N.out.f.cell 0 (by omega)
  have dn:=N.out.lt
  have ad:=N.out.ltb (by omega)
  have cP:=Hu C nm
  have cr:(prog.info? 228).map (·.size)=some 34:=by rw [hi];exact congrArg some bm
  have K:Hid (∀W:World,Arr (W.alloc (.cells zs 228)) W.heap.size 34 rC):=ah (fun W=>by
   rw [c8.out]
   exact (Arr.ofList W ((List.range 34).map rC) 228).congr fun k hk=>by simp at hk;simp [hk])
  have ag:Hid (∀W:World,Below W.heap.size W (W.alloc (.cells zs 228))):=ah (fun W=>bal)
  clear c0 bb HA ca HO b8 cx
  go_upto_region 2 with fail
  go_cut [3] from 4 to 36 (fun s3 wx=> ∃E,s3= .pointer (some ⟨E,0,none⟩)∧w1.heap.size≤E∧Hid ((Value.slice I es.length J).ownBlock=none∨(Value.slice I es.length J).ownBlock≠some E)∧Hid (TS B rb b 2 w.heap.size 228 34 w r2.c (xZ (.pointer (some ⟨rb,0,none⟩)) (.slice I es.length J)) (.slice I es.length J) es.length (kL es) wx)∧Hid (Arr wx E 34 (Bv ⟨nm,C,zid⟩)))
  case first =>
   have H:w1.drew.cell? ⟨b,0,none⟩=some (.pointer (some ⟨rb,0,none⟩)):=H
   have TD:Hid (TS B rb b 2 w.heap.size 228 34 w r.c (xZ (.pointer (some ⟨rb,0,none⟩)) (.slice I es.length J)) (.slice I es.length J) es.length (kL es) w1.drew) :=
    ah (N.out.below (Below.refl _ _).drew (by omega) m)
   refine wrL 12 (fun w'=>w'.cell? ⟨b,0,none⟩=some (.pointer (some ⟨rb,0,none⟩))) ?_
   refine WL.tk 0 H ?_
   refine WL.tk 1 H ?_
   refine WL.tk 2 H ?_
   refine WL.tk 3 H ?_
   refine WL.tk 5 H ?_
   refine WL.tk 6 H ?_
   refine WL.tk 7 H ?_
   refine WL.tk 8 H ?_
   refine WL.tw 4 11 ?_ ?_
   focus
    go_wp2_with fail
    refine (HN.out _ TD.out.a).mono ?_
    rintro e V ⟨rfl,A,R⟩
    have G:=ah (TD.out.read A R Z m Y)
    have ar:V.cell? ⟨b,0,none⟩=some (.pointer (some ⟨rb,0,none⟩)):=G.out.f.cell 0 (by omega)
    have cz:w1.heap.size≤V.heap.size:=R.size
    clear A R
    go_wp2
    refine ⟨ar,?_⟩
    refine WL.tw 9 11 ?_ ?_
    focus
     go_wp2_with fail
     refine (HT.out _ G.out.a).mono ?_
     rintro e w3 ⟨rfl,O,x⟩
     have P:=ah (G.out.read O x Z m Y)
     have aa:w3.cell? ⟨b,0,none⟩=some (.pointer (some ⟨rb,0,none⟩)):=P.out.f.cell 0 (by omega)
     have T4:=ah (P.out.below (ag.out w3) (by omega) m)
     have D:(w3.alloc (.cells zs 228)).cell? ⟨b,0,none⟩=some (.pointer (some ⟨rb,0,none⟩)):=T4.out.f.cell 0 (by omega)
     have t:=ah (K.out w3)
     have F:=oz P.out.o
     have S:w1.heap.size≤w3.heap.size:=by have:=x.size;omega
     clear O x
     go_wp2
     refine ⟨aa,?_⟩
     refine WL.take (i:=10) (v:=.agg (bW ⟨nm,C,zid⟩).toArray) rfl (by kernel_rfl) (by decide) (by decide +kernel) (by decide +kernel) (fun _ _ _ h=>h) rfl (by intro w' _;clear a1;go_simp;rfl) aa ?_
     simp only [Act.put,nz]
     clear aa
     refine WL.on 11 ?_
     go_wp2
     refine ⟨D,?_⟩
     refine WL.la 12 ?_
     obtain ⟨E,hE⟩:∃E,w3.heap.size=E:=⟨_,rfl⟩
     obtain ⟨w4,aw⟩:∃w4,w3.alloc (.cells zs 228)=w4:=⟨_,rfl⟩
     rw [aw,hE] at t
     rw [aw] at T4
     rw [hE] at S F
     simp only [hE,aw]
     clear hE aw D P
    rotate_left
    focus
     have ax:=ah (G.out.below (ag.out V) (by omega) m)
     have a8:(V.alloc (.cells zs 228)).cell? ⟨b,0,none⟩=some (.pointer (some ⟨rb,0,none⟩)):=ax.out.f.cell 0 (by omega)
     have an:=ah (K.out V)
     have F:=oz G.out.o
     have al:=G.out.ltb (by omega)
     have dm:=G.out.lt
     go_wp2
     refine ⟨a8,?_⟩
     refine WL.on 9 ?_
     go_wp2_with fail
     refine (HT.out _ ax.out.a).mono ?_
     rintro e w3 ⟨rfl,O,x⟩
     have T4:=ah (ax.out.read O x Z m Y)
     have t:=ah (an.out.grown x (by omega))
     have D:w3.cell? ⟨b,0,none⟩=some (.pointer (some ⟨rb,0,none⟩)):=T4.out.f.cell 0 (by omega)
     clear O x an ax
     go_wp2
     refine ⟨D,?_⟩
     refine WL.take (i:=10) (v:=.agg (bW ⟨nm,C,zid⟩).toArray) rfl (by kernel_rfl) (by decide) (by decide +kernel) (by decide +kernel) (fun _ _ _ h=>h) rfl (by intro w' _;clear a1;go_simp;rfl) D ?_
     simp only [Act.put,nz]
     refine WL.la 12 ?_
     have S:=cz
     obtain ⟨E,hE⟩:∃E,V.heap.size=E:=⟨_,rfl⟩
     obtain ⟨w4,rfl⟩:∃w4,w4=w3:=⟨_,rfl⟩
     rw [hE] at t S F
     simp only [hE]
     clear hE D a8
   rotate_left 2
   focus
    have F:=oz N.out.o
    have G:=ah ((N.out.below (ag.out w1) (by omega) m).below (Below.refl _ _).drew (by omega) m)
    have ar:(w1.alloc (.cells zs 228)).drew.cell? ⟨b,0,none⟩=some (.pointer (some ⟨rb,0,none⟩)):=G.out.f.cell 0 (by omega)
    have bx:=ah ((K.out w1).below (Below.refl _ _).drew ((K.out w1).lt (by omega)))
    go_wp2
    refine ⟨ar,?_⟩
    refine WL.on 4 ?_
    go_wp2_with fail
    refine (HN.out _ G.out.a).mono ?_
    rintro e V ⟨rfl,A,R⟩
    have P:=ah (G.out.read A R Z m Y)
    have an:=ah (bx.out.grown R (by omega))
    have aa:V.cell? ⟨b,0,none⟩=some (.pointer (some ⟨rb,0,none⟩)):=P.out.f.cell 0 (by omega)
    clear A R
    go_wp2
    refine ⟨aa,?_⟩
    refine WL.on 9 ?_
    go_wp2_with fail
    refine (HT.out _ P.out.a).mono ?_
    rintro e w4 ⟨rfl,O,x⟩
    have T4:=ah (P.out.read O x Z m Y)
    have t:=ah (an.out.grown x (by omega))
    have D:w4.cell? ⟨b,0,none⟩=some (.pointer (some ⟨rb,0,none⟩)):=T4.out.f.cell 0 (by omega)
    clear O x an P bx
    go_wp2
    refine ⟨D,?_⟩
    refine WL.take (i:=10) (v:=.agg (bW ⟨nm,C,zid⟩).toArray) rfl (by kernel_rfl) (by decide) (by decide +kernel) (by decide +kernel) (fun _ _ _ h=>h) rfl (by intro w' _;clear a1;go_simp;rfl) D ?_
    simp only [Act.put,nz]
    refine WL.la 12 ?_
    have S:w1.heap.size≤w1.heap.size:=Nat.le_refl _
    obtain ⟨E,hE⟩:∃E,E=w1.heap.size:=⟨_,rfl⟩
    rw [←hE] at t F
    rw [show w1.heap.size≤w1.heap.size↔w1.heap.size≤E by rw [hE]] at S
    simp only [←hE]
    clear hE D aa G ar
   all_goals
    clear N TD HN HT K ag
    (try clear G);(try clear cz);(try clear ar)
    have a5:E≠rb:=by omega
    have ba:E≠b:=by omega
    have a9:B≤E:=by omega
    have X:(bW ⟨nm,C,zid⟩).length=34:=by simp [bW,aA,bR]
    have cq:Arr (w4.setCells E 0 (bW ⟨nm,C,zid⟩)) E 34 (Bv ⟨nm,C,zid⟩):=by
     refine (t.out.setCells 0 (bW ⟨nm,C,zid⟩) (by rw [X];omega)).congr fun k hk=> ?_
     rw [X,if_pos ⟨by omega,by omega⟩];rfl
    have T5:=ah (T4.out.sets (bW ⟨nm,C,zid⟩) 0 a5 ba F a9)
    have b1:=ah t.out.there
    have cp:=ah X
    have bv:=ah (oV ⟨nm,C,zid⟩)
    have a3:=ah cq
    clear X cq T4 t
    refine aj rfl 228 _ _ rfl E 0 (bW ⟨nm,C,zid⟩) rfl rfl 34 cp.out b1.out cr bv.out ?_
    simp only [Act.put,nz]
    generalize w4.setCells E 0 (bW ⟨nm,C,zid⟩)=w5 at T5 a3
    go_wp2_with fail
    go_meet
    exact ⟨E,rfl,S,ah F,T5,a3⟩
  obtain ⟨E,rfl,S,cE,T5,a3⟩:=hcut
  have F:=cE.out
  obtain ⟨w5,rfl⟩:∃w5,w5=wc:=⟨_,rfl⟩
  have a5:E≠rb:=by omega
  have ba:E≠b:=by omega
  have a9:B≤E:=by omega
  have c5:w5.cell? ⟨b,0,none⟩=some (.pointer (some ⟨rb,0,none⟩)):=T5.out.f.cell 0 (by omega)
  clear K ag N HN HT cP
  go_wp2_with fail
  refine (HI.out _ T5.out.a).mono ?_
  rintro e w6 ⟨rfl,b3,bs⟩
  have T6:=ah (T5.out.read b3 bs Z m Y)
  have bk:=ah (a3.out.grown bs a5)
  have bz:(idC d).length=32:=by rw [aA,y.out]
  have T7:=ah (T6.out.sets (idC d) 2 a5 ba F a9)
  have cv:=(bk.out.setCells 2 (idC d) (by omega)).congr (fun k hk=>Lx nm C d y.out k hk)
  have bt:w6.there E 2 32:=fun j hj=>⟨by rw [bk.out.cell _ (by omega)];rfl,bk.out.free _ (by omega)⟩
  have ac:=cv.range
  rw [xI ⟨nm,C,d⟩ y.out] at ac
  have q:(bW ⟨nm,C,d⟩).length=34:=by simp [bW,aA,y.out]
  have cl:(prog.info? 228).map (·.size)=some (bW ⟨nm,C,d⟩).length:=by rw [q,hi];exact congrArg some bm
  have cb:=ah (oV ⟨nm,C,d⟩)
  have cd:=ah (uK es ⟨nm,C,d⟩)
  have cL:=ah bt
  have ci:=ah (bC d)
  have b6:=ah bz
  have dc:(prog.info? 143).map (·.size)=some 32:=by kernel_rfl
  generalize bW ⟨nm,C,d⟩=cs at ac q cl cb cd
  have cg:Hid (∀w,(sizeOf 228).run prog w= .ok cs.length w):=ah (fun w=>by rw [q];kernel_rfl)
  have bj:=ah q
  have cf:=ah (show 0<cs.length by rw [q];omega)
  have c4:=ah (show cs.length≤1000 by rw [q];omega)
  have cw:idV d= .agg (idC d).toArray:=rfl
  rw [cw]
  clear cw q bt bz cv b3 bs c5
  generalize da:idC d=us at T7 b6 ci ac
  clear da
  have f7:=T7.out.f.cell 1 (by omega)
  have cy:=T7.out.f.free 1 (by omega)
  obtain ⟨w7,be⟩:∃w7,w6.setCells E 2 us=w7:=⟨_,rfl⟩
  rw [be] at T7 ac f7 cy
  have cT:=ah be
  have cA:=ah ac
  clear be
  have cV:E<w7.heap.size:=World.block_lt_of_cell? w7 ⟨E,0,none⟩ (ac 0 (cs[0]'(by have:=cf.out;omega)) (by simp))
  go_wp2_with (refine aj rfl 143 _ _ rfl E 2 us rfl rfl 32 b6.out cL.out dc ci.out ?_)
  simp only [Act.put,nz]
  rw [cT.out]
  have U:=ah (T7.out.below (Below.refl _ _).drew (by omega) m)
  have Q:w7.drew.cell? ⟨b,1,none⟩=some (.slice I es.length J)∧w7.drew.rangeAt E 0 cs:=⟨f7,cA.out⟩
  refine wrL 10 (fun w'=>w'.cell? ⟨b,1,none⟩=some (.slice I es.length J)∧w'.rangeAt E 0 cs) ?_
  refine WL.tk 0 Q ?_
  refine WL.tk 1 Q ?_
  refine WL.tk 2 Q ?_
  refine WL.tk 3 Q ?_
  refine WL.tk 4 Q ?_
  refine WL.tk 5 Q ?_ (hy:=(fun w' cG=>oU 228 _ (cG.2) underlying228 rfl cl _ rfl rfl))
  refine WL.on 6 ?_
  refine aO rfl (.tmp 32) 139 228 rfl cs zs rfl underlying139 cg.out a1 cf.out c4.out ?_
  simp only [Act.put,nz]
  have L:=U.out.o.lt
  have af:w7.drew.heap.size=w7.heap.size:=rfl
  have a6:(Value.slice I es.length J).ownBlock≠some E:=by
   rcases F with h|h
   ·rw [h];simp
   exact h
  have b9:=U.out.a.alloc (by omega) (.cells cs.toArray 228)
  have bn:=U.out.f.alloc (by omega) (.cells cs.toArray 228)
  have ch:=U.out.o.alloc (.cells cs.toArray 228)
  have bd:=U.out.bl.alloc (by have:=U.out.lt;omega) (.cells cs.toArray 228)
  have S8:(w7.drew.alloc (.cells cs.toArray 228)).cell? ⟨b,1,none⟩=some (.slice I es.length J)∧(w7.drew.alloc (.cells cs.toArray 228)).rangeAt E 0 cs :=
   ⟨bn.cell 1 (by omega),ay cA.out ((Below.refl w7.heap.size w7).drew.alloc (Nat.le_refl _) _) cV⟩
  refine ⟨S8,?_⟩
  refine WL.on 7 ?_
  refine wpList_append_own _ rfl (.tmp 31) (.tmp 33) 139 rfl w.heap.size 228 i0 (.agg zs) 34 56 underlying139 hi cY bm cH cQ.out (by decide) _ es.length (kL es) rfl ch ⟨w7.heap.size,0,none⟩ 1 1 cs rfl bj.out (fun j u hj=>iP _ cs _ j u hj) cb.out (by unfold maxLen;omega) (by omega) (by rw [World.size_alloc,af];omega) ?_
  intro v' w9 z ai _
  obtain ⟨cC,cN,rfl⟩:=dL z
  have b5:=b9.jZ ai (fun e=>by have:=(L _ e).1;omega)
  have ao:=bn.jZ ai (fun e=>by have:=(L _ e).1;omega)
  have b2:=bd.grown ai (by have:=bd.size;rw [World.size_alloc,af];have:=U.out.bl.size;omega) (fun j hj=>by have:=(L j hj).1;omega)
  have S9:w9.cell? ⟨b,1,none⟩=some (.slice I es.length J)∧w9.rangeAt E 0 cs:=⟨ao.cell 1 (by omega),jc S8.2 ai a6⟩
  have b4:=ah (own_ne z cS)
  simp only [Act.put,nz]
  refine ⟨S9,?_⟩
  refine WL.tk 8 S9 ?_
  refine WL.tk 9 S9 ?_
  refine WL.la 10 ?_
  rw [←cd.out] at z
  have f9:=ao.free 1 (by omega)
  have g9:=ao.cell 1 (by omega)
  have cW:=ah z
  have ck:=ah b5
  have c7:=ah ao
  have cJ:=ah b2
  clear b9 bn ch bd S8 L af a6 z ai b5 ao b2 S9 Q f7 cy
  go_wp2
  have dd:r.s.size=s.size:=by rw [cn.out]
  have dj:=hf.out.pos
  go_roundw
  case rel =>
   refine ⟨r',es++[⟨nm,C,d⟩],f-1,.slice cC (es.length+1) cN,ck.out.far (p:=⟨b,1,none⟩) (by show b≠rb;omega) _,bc.out,t.out,az.out.trans cn.out,ah (bp.out.symm.trans hN.out),fun h0=> ?_,fun e he=> ?_,by simp;omega,(c7.out.set 1 (by omega) _).congr (Mr _ _ _),by rw [List.length_append];exact jR cW.out b4.out,cJ.out.setCell (p:=⟨b,1,none⟩) cI _⟩
   ·obtain ⟨_,_,q3,_⟩:=ae.out h0
    rw [az.out,List.length_append,List.length_singleton]
    omega
   rcases List.mem_append.1 he with h|h
   ·exact aE.out e h
   rw [List.mem_singleton.1 h];exact y.out
  rw [oH (ck.out.far (p:=⟨b,1,none⟩) (by show b≠rb;omega) _),cD.out,if_pos cM.out];exact bo.out
 have br:r.more=false:=by simpa using hm
 have a4:(rd0 s).fH (s.size+1) []=(r,es):=by rw [←hN.out];exact xH r f es br
 rw [Rd.uJ] at a4
 have e1:(iG s).1=r:=congrArg Prod.fst a4
 have e2:(iG s).2=es:=congrArg Prod.snd a4
 have a2:Hid (bE s=if r.fin=0∧dH es=true then some es else none):=by unfold Hid bE;rw [e1,e2]
 have cF:r.fin≠5:=by rw [br] at ab;exact of_decide_eq_false ab.symm
 have d5:((r.fin:Int)==5)=false:=by rw [beq_eq_false_iff_ne];omega
 have T:=ah (show TS B rb b 2 w.heap.size 228 34 w r.c (xZ (.pointer (some ⟨rb,0,none⟩)) (.slice I es.length J)) (.slice I es.length J) es.length (kL es) wo from ⟨hA,A,M,am⟩)
 have HW:=ah (fun W (hA:Arr W rb 3 r.c)=>kP rb r W hA hf.out)
 have bu:Hid (∀W,W.ownsRow w.heap.size 228 34 (.slice I es.length J) es.length (kL es)→eG W (.slice I es.length J) es):=ah (fun W h=>dF.gq (B:=w.heap.size) (e:=228) (sz:=34) (rows:=es.map bW) (fun r hr=>by
   obtain ⟨e,he,rfl⟩:=List.mem_map.1 hr
   simp [bW,aA,aE.out e he]) (by rw [List.length_map];exact h))
 have cR:Hid (r.err=0→ ∀e∈es,e.name.size≤1000000∧e.kind≤2∧e.id.length=32):=ah (fun h0 e he=>by
  have e0:(iG s).1.err=0:=by rw [e1];exact h0
  have ce:=Rd.nu (s.size+1) (rd0 s) (dz s (by omega)) e0
  have e3:((rd0 s).ents (s.size+1)).2=es:=e2
  rw [e3] at ce
  have:=ce e he
  exact ⟨by omega,by omega,aE.out e he⟩)
 have bi:Hid (r.fin=0→r.err=0):=ah (fun h=>(Rd.uE r h).1)
 have c9:b<wo.heap.size:=T.out.ltb (by omega)
 clear a4 hN hA A M am hm br ab ap b0 aE
 generalize r.fin=n at d5 cF a2 HW bi
 by_cases h0:n=0
 ·have HF:=ah (bi.out h0)
  have d0:((n:Int)==0)=true:=by rw [beq_iff_eq];omega
  have cm:=ah (fun W (h:eG W (.slice I es.length J) es)=>yN _ es W h (cR.out HF.out))
  have b7:Hid (bE s=if dH es=true then some es else none):=by
   unfold Hid;rw [a2.out]
   by_cases ht:dH es=true
   ·rw [if_pos ⟨h0,ht⟩,if_pos ht]
   rw [if_neg (fun h=>ht h.2),if_neg ht]
  clear h0 a2 bi
  generalize dH es=ok at cm b7
  go_wp2_with fail
  refine (HW.out _ T.out.a).mono ?_
  rintro e w1 ⟨rfl,ad⟩
  have N:=ah (T.out.below ad (by omega) m)
  have c1:w1.cell? ⟨b,0,none⟩=some (.pointer (some ⟨rb,0,none⟩)):=N.out.f.cell 0 (by omega)
  clear ad c0
  go_wp2_with fail
  refine (HW.out _ N.out.a).mono ?_
  rintro e V ⟨rfl,al⟩
  have G:=ah (N.out.below al (by omega) m)
  have c2:V.cell? ⟨b,1,none⟩=some (.slice I es.length J):=G.out.f.cell 1 (by omega)
  have db:=ah (bu.out V G.out.o)
  clear al c1
  go_wp2_with fail
  refine (cm.out V db.out).mono ?_
  rintro e w3 ⟨rfl,cj⟩
  have P:=ah (G.out.below cj (by omega) m)
  have c3:w3.cell? ⟨b,1,none⟩=some (.slice I es.length J):=P.out.f.cell 1 (by omega)
  clear cj
  go_wp2
  go_ret
  rw [b7.out]
  cases ok with
  | false=>exact ⟨rfl,⟨_,c3,fun g hg=>(P.out.o.lt g hg).1,fun h=>by cases h⟩,P.out.bl⟩
  | true=>exact ⟨rfl,⟨_,c3,fun g hg=>(P.out.o.lt g hg).1,fun _=>bu.out _ P.out.o⟩,P.out.bl⟩
 have d0:((n:Int)==0)=false:=by rw [beq_eq_false_iff_ne];omega
 have HR:Hid (bE s=none):=by unfold Hid;rw [a2.out,if_neg (fun h=>h0 h.1)]
 go_wp2_with fail
 refine (HW.out _ T.out.a).mono ?_
 rintro e w1 ⟨rfl,ad⟩
 have N:=ah (T.out.below ad (by omega) m)
 have c1:w1.cell? ⟨b,0,none⟩=some (.pointer (some ⟨rb,0,none⟩)):=N.out.f.cell 0 (by omega)
 clear ad c0
 go_wp2_with fail
 refine (HW.out _ N.out.a).mono ?_
 rintro e V ⟨rfl,al⟩
 have G:=ah (N.out.below al (by omega) m)
 have c2:V.cell? ⟨b,1,none⟩=some (.slice I es.length J):=G.out.f.cell 1 (by omega)
 go_wp2
 go_ret
 exact ⟨by rw [HR.out];rfl,⟨_,c2,fun g hg=>(G.out.o.lt g hg).1,fun h=>by rw [HR.out] at h;cases h⟩,G.out.bl⟩
def fP (rb:Nat) (t:List UInt8) (v:Value) (x:ByteArray) (k:Nat):Value:=if k=0 then .pointer (some ⟨rb,0,none⟩) else if k=1 then .slice none 0 0 else cmF t v x (k-2)
theorem fJ (rb:Nat) (t:List UInt8) (v:Value) (x:ByteArray) {k:Nat} (h:2≤k):fP rb t v x k=cmF t v x (k-2):=by unfold fP;rw [if_neg (by omega),if_neg (by omega)]
theorem LJ {rb:Nat} {t d:List UInt8} (h:t.length=32) (hd:d.length=32) (v:Value) (x:ByteArray):∀k,k<36→(if 2≤k∧k<2+(idC d).length then (idC d).getD (k-2) undef else fP rb t v x k)=fP rb d v x k:=by
 intro k f
 have g:(idC d).length=32:=by rw [aA,hd]
 by_cases a:2≤k
 ·rw [fJ rb t v x a,fJ rb d v x a]
  have:=Md h hd v x (k-2) (by omega)
  rw [←this]
  by_cases b:k<2+(idC d).length
  ·rw [if_pos ⟨a,b⟩,if_pos ⟨by omega,by omega⟩];rfl
  rw [if_neg (fun h=>b h.2),if_neg (fun h=>b (by omega))]
 rw [if_neg (fun h=>a h.1)]
 obtain e|e:k=0∨k=1:=by omega
 all_goals subst e;rfl
theorem LH {rb:Nat} {t:List UInt8} (h:t.length=32) (v u:Value) (x:ByteArray):∀k,k<36→upd (fP rb t v x) 34 u k=fP rb t u x k:=by
 intro k e
 by_cases d:2≤k
 ·have:=Mc h v u x (k-2) (by omega)
  rw [fJ rb t u x d,←this]
  unfold upd
  by_cases a:k=34
  ·subst a;simp
  rw [if_neg a,if_neg (show ¬k-2=32 by omega),fJ rb t v x d]
 obtain b|b:k=0∨k=1:=by omega
 all_goals subst b;rfl
theorem LG {rb:Nat} {t:List UInt8} (h:t.length=32) (v:Value) (x y:ByteArray):∀k,k<36→upd (fP rb t v x) 35 (.string y) k=fP rb t v y k:=by
 intro k e
 by_cases d:2≤k
 ·have:=Ma h v x y (k-2) (by omega)
  rw [fJ rb t v y d,←this]
  unfold upd
  by_cases a:k=35
  ·subst a;simp
  rw [if_neg a,if_neg (show ¬k-2=33 by omega),fJ rb t v x d]
 obtain b|b:k=0∨k=1:=by omega
 all_goals subst b;rfl
theorem oW {t:List UInt8} (rb:Nat) (h:t.length=32) (v:Value) (x:ByteArray):fP rb t v x 34=v:=by rw [fJ rb t v x (by omega)];exact jr h v x
theorem xR {w:World} {b rb:Nat} {t:List UInt8} {v:Value} {x:ByteArray} (h:t.length=32) (hA:Arr w b 36 (fP rb t v x)):w.rangeAt b 2 (cmC t v x):=by
 intro j u hu
 have a:j<34:=by
  have:=(List.getElem?_eq_some_iff.1 hu).1
  rwa [gP _ _ _ h] at this
 rw [hA.cell (2+j) (by omega),fJ rb t v x (by omega),Nat.add_sub_cancel_left]
 have e:=BQ h v x
 rw [←e,List.getElem?_map,List.getElem?_range a] at hu
 exact hu
theorem pE {P:Program} {ops:Array Oper} {rest:List Oper} {op:Oper} {a:Act} {w:World} {Q:Exit→Act→World→Prop} (e:Region.wanted op (yielded ops a.tmps)=true) (ty:TypeId) (x:Operand) (f:op.op= .load ty x)
  (b o:Nat) (hx:a.eval x= .pointer (some ⟨b,o,none⟩)) (cs:List Value) (d:TypeDesc) (g:w.rangeAt b o cs) (hu:P.underlying ty=some d) (hd:d.isRow=true) (hi:(P.info? ty).map (·.size)=some cs.length)
  (h:wpList P ops Q rest (a.put op.dst (.agg cs.toArray)) w):wpList P ops Q (op::rest) a w:=by
 simp only [wpList]
 rw [if_pos e]
 exact .inl (wp_load_mid ty x f b o hx cs d g hu hd hi h)
theorem KY {w:World} {B:Nat} {e:TypeId} {sz:Nat} {v:Value} {n:Nat} {xs:List Value} (h:w.ownsRow B e sz v n xs):KM v:=by
 intro f m c a
 rcases h.2 with ⟨h1,_⟩|⟨g,d,cur,h1,_,_,b,_⟩
 ·rw [h1] at a;cases a;exact Nat.le_refl _
 rw [h1] at a;cases a;exact b
theorem rA (B rb b:Nat) (s:ByteArray) (w:World) (hr:Arr w rb 3 (rd0 s).c) (hb:Arr w b 36 (fP rb zid (.slice none 0 0) ⟨#[]⟩)) (K:B≤rb) (ar:B≤b) (aq:rb≠b) (hs:s.size≤100000) :
  Calls prog 159 #[.pointer (some ⟨b,0,none⟩)] w fun e w'=>e= .returned (.bool (aH s).isSome)∧((aH s).isSome=true→(∃t v l x,aH s=some (t,l,x)∧w'.rangeAt b 2 (cmC t v x)∧nI w v∧dY w' v l)∧w'.cell? ⟨b,1,none⟩=some (.slice none 0 0))∧Below B w w':=by
 obtain ⟨zi,i0,hi,cb,b7,bz,a3,ai⟩:=gL
 have cg:=ah ai
 clear ai
 have an:=hr.lt (by omega)
 have bj:=hb.lt (by omega)
 have c0:w.cell? ⟨b,0,none⟩=some (.pointer (some ⟨rb,0,none⟩)):=hb.cell 0 (by omega)
 have HC:=ah hb
 have ao:=ah (dz s (show s.size≤1000000 by omega))
 have ab:=ah (xW rb (rd0 s) w hr ao.out)
 have X:=ah ((rd0 s).jW ao.out)
 have d:Hid ((rd0 s).id.2.length=32):=ah (dX _)
 have m:Hid ((rd0 s).commit=((((((rd0 s).id.1.num 4).1.ids ((rd0 s).id.1.num 4).2).1.text 64).1,(rd0 s).id.2,(((rd0 s).id.1.num 4).1.ids ((rd0 s).id.1.num 4).2).2,((((rd0 s).id.1.num 4).1.ids ((rd0 s).id.1.num 4).2).1.text 64).2))):=ah rfl
 have L:Hid (aH s=if (rd0 s).commit.1.fin=0∧bB (rd0 s).commit.2=true then some (rd0 s).commit.2 else none):=ah rfl
 have N:=ah ((rd0 s).qL ao.out)
 generalize (rd0 s).commit=cm at m L N
 generalize (rd0 s).id=x0 at ab X d m
 obtain ⟨r0,t⟩:=x0
 dsimp only at ab X d m
 clear hr hb
 go_enter func159,ntmps159
 go_wp2_with fail
 refine ab.out.mono ?_
 rintro e w1 ⟨rfl,bh,ap⟩
 have a2:(idC t).length=32:=by rw [aA,d.out]
 have ad:=HC.out.grown ap (by omega)
 have a0:w1.there b 2 32:=fun j hj=>⟨by rw [ad.cell _ (by omega)];rfl,ad.free _ (by omega)⟩
 have bd:=ah a0
 have aE:=ah (bh.fG (B:=b) (by omega) (idC t) 2)
 have aw:=ah ((ad.setCells 2 (idC t) (by omega)).congr (LJ bR d.out _ _))
 have R:=ah (below_setCells (B:=B) (a:=w) b ar (idC t) 2 w1 ((Below.refl B w).grown ap (by omega) (fun k hk=>by cases hk;omega)))
 have a8:=ah a2
 have bm:=ah (bC t)
 have ch:(prog.info? 143).map (·.size)=some 32:=by kernel_rfl
 clear bh ad ap a0 a2 HC ab c0
 have U:idV t= .agg (idC t).toArray:=rfl
 rw [U]
 clear U
 generalize ce:idC t=us at aE aw R a8 bm
 clear ce
 have Z:=ah (show TS B rb b 36 w.heap.size 143 32 w r0.c (fP rb t (.slice none 0 0) ⟨#[]⟩) (.slice none 0 0) 0 (dx []) (w1.setCells b 2 us) from ⟨aE.out,aw.out,World.ownsRow_nil _ _ _ _,R.out⟩)
 clear aE aw R
 have c2:(w1.setCells b 2 us).cell? ⟨b,0,none⟩=some (.pointer (some ⟨rb,0,none⟩)):=Z.out.f.cell 0 (by omega)
 have af:=ah (fun W (hA:Arr W rb 3 r0.c)=>nM rb r0 4 W hA X.out (by omega))
 have O:=ah (Rd.bK r0 4 X.out)
 generalize r0.num 4=x1 at af O m
 obtain ⟨z,n⟩:=x1
 dsimp only at af O m
 have cj:n≤4:=O.out.2
 have az:=ah O.out.1
 go_wp2_with (refine aj rfl 143 _ _ rfl b 2 us rfl rfl 32 a8.out bd.out ch bm.out ?_)
 refine (af.out _ Z.out.a).mono ?_
 rintro e w3 ⟨rfl,F,E⟩
 have ca:=ah (Z.out.read F E aq K an)
 clear F E Z af O c2 bd
 go_wp2
 have HL:Hid (∀k,((z.ids k).2).length=k):=ah (fun k=>Rd.rO k z)
 go_loopw [17] (fun i wr=> ∃(k:Nat) (v:Value),k≤n∧i= .int .i64 k∧Hid (TS B rb b 36 w.heap.size 143 32 w (z.ids k).1.c (fP rb t v ⟨#[]⟩) v k (dx (z.ids k).2) wr)) (fun i _=>(n-intOf i).toNat)
 case atStart=>exact ⟨0,.slice none 0 0,by omega,rfl,ca⟩
 obtain ⟨wo,rfl⟩:∃wo:World,wo=wr:=⟨_,rfl⟩
 obtain ⟨k,v,hk,rfl,T⟩:=hrel
 obtain ⟨H,I,rfl⟩:=dL T.out.o
 by_cases b5:k<n
 ·have d1:decide ((k:Int)<n)=true:=decide_eq_true (by omega)
  have d2:decide (k<n)=true:=decide_eq_true b5
  have TD:=ah (T.out.below (Below.refl _ _).drew (by omega) K)
  have q:wo.drew.cell? ⟨b,0,none⟩=some (.pointer (some ⟨rb,0,none⟩))∧wo.drew.cell? ⟨b,34,none⟩=some (.slice H k I) :=
   ⟨TD.out.f.cell 0 (by omega),by rw [TD.out.f.cell 34 (by omega),oW rb d.out]⟩
  have HI:=ah (xW rb (z.ids k).1 wo.drew TD.out.a (Rd.fE k z az.out))
  have ax:=ah (Rd.ug k z)
  clear T
  go_wp2
  refine wrL 16 (fun w'=>w'.cell? ⟨b,0,none⟩=some (.pointer (some ⟨rb,0,none⟩))∧w'.cell? ⟨b,34,none⟩=some (.slice H k I)) ?_
  refine WL.tk 0 q ?_
  refine WL.tk 1 q ?_
  refine WL.tk 2 q ?_
  refine WL.tk 3 q ?_
  refine WL.tk 4 q ?_
  refine WL.tk 5 q ?_
  refine WL.tk 6 q ?_
  refine WL.tk 7 q ?_
  refine WL.tk 8 q ?_
  refine WL.tk 9 q ?_
  refine WL.on 10 ?_
  go_wp2_with fail
  refine HI.out.mono ?_
  rintro e w3 ⟨rfl,F,E⟩
  have A:=ah (TD.out.read F E aq K an)
  have bn:w3.cell? ⟨b,0,none⟩=some (.pointer (some ⟨rb,0,none⟩))∧w3.cell? ⟨b,34,none⟩=some (.slice H k I) :=
   ⟨A.out.f.cell 0 (by omega),by rw [A.out.f.cell 34 (by omega),oW rb d.out]⟩
  have bx:=ah bn
  have am:(idC (z.ids k).1.id.2).length=32:=by rw [aA];exact dX _
  have Q:=bC (z.ids k).1.id.2
  have U:idV (z.ids k).1.id.2= .agg (idC (z.ids k).1.id.2).toArray:=rfl
  rw [U]
  clear U
  have a9:Hid (dx (z.ids (k+1)).2=dx (z.ids k).2++idC (z.ids k).1.id.2):=by unfold Hid;rw [ax.out];exact lY _ _
  have cd:Hid ((z.ids (k+1)).1=(z.ids k).1.id.1):=by unfold Hid;rw [ax.out]
  clear F E bn HI ax TD q
  generalize idC (z.ids k).1.id.2=V at am Q a9
  have aa:=ah am
  have bf:=ah Q
  have bi:Hid (∀w,(sizeOf 143).run prog w= .ok V.length w):=ah (fun w=>by rw [aa.out];kernel_rfl)
  clear am Q
  go_wp2
  refine ⟨bx.out,?_⟩
  refine WL.on 11 ?_
  refine aO rfl (.tmp 29) 106 143 rfl V zi rfl underlying106 bi.out a3 (by rw [aa.out];omega) (by rw [aa.out];omega) ?_
  simp only [Act.put,nz]
  have bt:=A.out.lt
  have C:=A.out.o.lt
  have bc:=A.out.a.alloc (by omega) (.cells V.toArray 143)
  have ac:=A.out.f.alloc (by omega) (.cells V.toArray 143)
  have bk:=A.out.o.alloc (.cells V.toArray 143)
  have a7:=A.out.bl.alloc (by have:=A.out.lt;omega) (.cells V.toArray 143)
  have S8:(w3.alloc (.cells V.toArray 143)).cell? ⟨b,0,none⟩=some (.pointer (some ⟨rb,0,none⟩))∧(w3.alloc (.cells V.toArray 143)).cell? ⟨b,34,none⟩=some (.slice H k I) :=
   ⟨ac.cell 0 (by omega),by rw [ac.cell 34 (by omega),oW rb d.out]⟩
  refine ⟨S8,?_⟩
  refine WL.on 12 ?_
  refine wpList_append_own _ rfl (.tmp 24) (.tmp 30) 106 rfl w.heap.size 143 i0 (.agg zi) 32 32 underlying106 hi cb b7 bz cg.out (by decide) _ k (dx (z.ids k).2) rfl bk ⟨w3.heap.size,0,none⟩ 1 1 V rfl aa.out (fun j u hj=>iP _ V _ j u hj) bf.out (by unfold maxLen;omega) (by omega) (by rw [World.size_alloc];have:=A.out.bl.size;omega) ?_
  intro v' w5 D ag _
  obtain ⟨b9,b6,rfl⟩:=dL D
  have a4:=bc.jZ ag (fun e=>by have:=(C _ e).1;omega)
  have S:=ac.jZ ag (fun e=>by have:=(C _ e).1;omega)
  have a1:=a7.grown ag (by rw [World.size_alloc];have:=A.out.lt;omega) (fun j hj=>by have:=(C j hj).1;omega)
  have Y:w5.cell? ⟨b,0,none⟩=some (.pointer (some ⟨rb,0,none⟩))∧w5.cell? ⟨b,34,none⟩=some (.slice H k I) :=
   ⟨S.cell 0 (by omega),by rw [S.cell 34 (by omega),oW rb d.out]⟩
  have bp:=ah (own_ne D bj)
  have f5:=S.free 34 (by omega)
  have b2:=ah a4
  have b3:=ah S
  have b0:=ah a1
  have bv:=ah D
  have b8:=ah Y
  simp only [Act.put,nz]
  refine ⟨Y,?_⟩
  clear bc ac bk a7 S8 C D ag a4 S a1 Y bt
  have Y:=b8.out
  refine WL.tk 13 Y ?_
  refine WL.tk 14 Y ?_
  refine WL.tk 15 Y ?_
  refine WL.la 16 ?_
  have g5:=Y.2
  clear Y
  go_wp2
  go_roundw
  case rel =>
   refine ⟨k+1,.slice b9 (k+1) b6,by omega,by go_num,ah ⟨?_,(b3.out.set 34 (by omega) _).congr (LH d.out _ _ _),?_,b0.out.setCell (p:=⟨b,34,none⟩) ar _⟩⟩
   ·rw [cd.out];exact b2.out.far (p:=⟨b,34,none⟩) (by show b≠rb;omega) _
   rw [a9.out];exact jR bv.out bp.out
  case measure=>simp [intOf];omega
 obtain rfl:k=n:=by omega
 have d1:decide ((k:Int)<k)=false:=decide_eq_false (by omega)
 have M:=ah (Rd.dG _ 64 (Rd.fE k z az.out))
 have HT:=ah (jB rb (z.ids k).1 64 wo T.out.a (Rd.fE k z az.out) (by omega))
 have G:=ah (Rd.rP k z)
 have ae:=HL.out k
 have c0:wo.cell? ⟨b,0,none⟩=some (.pointer (some ⟨rb,0,none⟩)):=T.out.f.cell 0 (by omega)
 generalize bu:z.ids k=x2 at HT m M G ae T
 obtain ⟨r2,l⟩:=x2
 dsimp only at HT m M G ae T
 clear bu
 generalize r2.text 64=x3 at HT m M
 obtain ⟨r3,x⟩:=x3
 dsimp only at HT m M
 obtain rfl:cm=(r3,t,l,x):=m.out
 dsimp only at L N
 clear m M
 have a6:=ah ae
 clear ae
 go_wp2_with fail
 refine HT.out.mono ?_
 rintro e w3 ⟨rfl,F,E⟩
 have A:=ah (T.out.read F E aq K an)
 have b1:=A.out.f.free 35 (by omega)
 have b4:=A.out.f.cell 35 (by omega)
 have T4:=ah (show TS B rb b 36 w.heap.size 143 32 w r3.c (fP rb t (.slice H k I) x) (.slice H k I) k (dx l) (w3.setCell ⟨b,35,none⟩ (.string x)) from
  ⟨A.out.a.far (p:=⟨b,35,none⟩) (by show b≠rb;omega) _,(A.out.f.set 35 (by omega) _).congr (LG d.out _ _ x),jR A.out.o (own_ne A.out.o bj),A.out.bl.setCell (p:=⟨b,35,none⟩) ar _⟩)
 have c4:(w3.setCell ⟨b,35,none⟩ (.string x)).cell? ⟨b,0,none⟩=some (.pointer (some ⟨rb,0,none⟩)):=T4.out.f.cell 0 (by omega)
 have br:=ah (fun W hA=>kP rb r3 W hA N.out)
 clear F E A c0
 go_wp2_with fail
 refine (br.out _ T4.out.a).mono ?_
 rintro e w4 ⟨rfl,bb⟩
 have T5:=ah (T4.out.below bb (by omega) K)
 clear bb c4 b4 b1 T4
 by_cases J:r3.fin=0
 ·have d0:((r3.fin:Int)==0)=true:=by rw [beq_iff_eq];omega
  have ba:Hid (aH s=if bB (t,l,x)=true then some (t,l,x) else none):=by
   unfold Hid;rw [L.out]
   by_cases ht:bB (t,l,x)=true
   ·rw [if_pos ⟨J,ht⟩,if_pos ht]
   rw [if_neg (fun h=>ht h.2),if_neg ht]
  have al:Hid (∀W,W.ownsRow w.heap.size 143 32 (.slice H k I) k (dx l)→dY W (.slice H k I) l):=ah (fun W h=>dF.gq (B:=w.heap.size) (e:=143) (sz:=32) (rows:=l.map idC) (fun r hr=>by
   obtain ⟨y,hy,rfl⟩:=List.mem_map.1 hr
   rw [aA];exact G.out y hy) (by rw [List.length_map,a6.out];exact h))
  have cf:l.length≤4:=by rw [a6.out];omega
  have be:=ah (fun W (h:W.ownsRow w.heap.size 143 32 (.slice H k I) k (dx l))=>AJ t (.slice H k I) l x W (al.out W h) d.out G.out (by omega) (KY h))
  have bs:=xR d.out T5.out.f
  have P:(cmC t (.slice H k I) x).length=34:=gP _ _ _ d.out
  have a5:(prog.info? 145).map (·.size)=some (cmC t (.slice H k I) x).length:=by rw [P];kernel_rfl
  have c5:w4.cell? ⟨b,0,none⟩=some (.pointer (some ⟨rb,0,none⟩)):=T5.out.f.cell 0 (by omega)
  clear J L N P cf
  generalize bB (t,l,x)=ok at ba be
  have ci:=ah bs
  clear bs
  go_wp2_with (refine pE rfl 145 _ rfl b 2 rfl (cmC t (.slice H k I) x) _ ci.out underlying145 rfl a5 ?_)
  refine (be.out w4 T5.out.o).mono ?_
  rintro e w5 ⟨rfl,bo⟩
  have T6:=ah (T5.out.below bo (by omega) K)
  clear bo c5
  go_wp2
  go_ret
  rw [ba.out]
  cases ok with
  | false=>exact ⟨rfl,fun h=>(by cases h),T6.out.bl⟩
  | true=>exact ⟨rfl,fun _=>⟨⟨t,_,l,x,rfl,xR d.out T6.out.f,fun g hg=>(T6.out.o.lt g hg).1,al.out _ T6.out.o⟩,T6.out.f.cell 1 (by omega)⟩,T6.out.bl⟩
 have d0:((r3.fin:Int)==0)=false:=by rw [beq_eq_false_iff_ne];omega
 have HR:Hid (aH s=none):=by unfold Hid;rw [L.out,if_neg (fun h=>J h.1)]
 clear J L N
 go_wp2
 go_ret
 rw [HR.out]
 exact ⟨rfl,fun h=>(by cases h),T5.out.bl⟩
def o8 (k:Int) (s:ByteArray) (w:World) (e:Ending) (w':World):Prop:=(∃p,e= .returned (.tuple #[p,.bool (av ⟨k,s⟩)]) ∧
 (av ⟨k,s⟩=true→k=2→ ∃b v,p= .pointer (some ⟨b,0,none⟩)∧b<w'.heap.size∧w'.cell? ⟨b,1,none⟩=some v∧nI w v∧eG w' v ((bE s).getD [])) ∧
 (av ⟨k,s⟩=true→k=3→ ∃b t v l x,p= .pointer (some ⟨b,0,none⟩)∧b<w'.heap.size∧aH s=some (t,l,x)∧w'.rangeAt b 2 (cmC t v x)∧nI w v∧dY w' v l) ∧
 (av ⟨k,s⟩=true→k≠2→ ∃b,p= .pointer (some ⟨b,0,none⟩)∧w'.cell? ⟨b,1,none⟩=some (.slice none 0 0)))∧Below w.heap.size w w'
theorem mU {k:Int} {s:ByteArray} {w w':World} (h:av ⟨k,s⟩=false) (p:Value) (hb:Below w.heap.size w w'):o8 k s w (.returned (.tuple #[p,.bool false])) w' :=
 ⟨⟨p,by rw [h],fun a=>(by rw [h] at a;cases a),fun a=>(by rw [h] at a;cases a),fun a=>(by rw [h] at a;cases a)⟩,hb⟩
theorem Aq {s:ByteArray} {w w':World} {b:Nat} (h:av ⟨1,s⟩=true) (d:w'.cell? ⟨b,1,none⟩=some (.slice none 0 0)) (hb:Below w.heap.size w w'):o8 1 s w (.returned (.tuple #[.pointer (some ⟨b,0,none⟩),.bool true])) w' :=
 ⟨⟨_,by rw [h],fun _ a=>(by cases a),fun _ a=>(by cases a),fun _ _=>⟨b,rfl,d⟩⟩,hb⟩
theorem Ap {s:ByteArray} {w w':World} {b:Nat} {v:Value} (h:av ⟨2,s⟩=(bE s).isSome) (e:w'.cell? ⟨b,1,none⟩=some v) (d:nI w v) (f:(bE s).isSome=true→eG w' v ((bE s).getD [])) (hb:Below w.heap.size w w') :
  o8 2 s w (.returned (.tuple #[.pointer (some ⟨b,0,none⟩),.bool (bE s).isSome])) w' :=
 ⟨⟨_,by rw [h],fun a _=>⟨b,v,rfl,World.block_lt_of_cell? w' _ e,e,d,f (by rw [←h];exact a)⟩,fun _ a=>(by cases a),fun _ a=>absurd rfl a⟩,hb⟩
theorem vL {s:ByteArray} {w w':World} {b:Nat} (h:av ⟨3,s⟩=(aH s).isSome) (f:b<w'.heap.size) (e:(aH s).isSome=true→(∃t v l x,aH s=some (t,l,x)∧w'.rangeAt b 2 (cmC t v x)∧nI w v∧dY w' v l)∧w'.cell? ⟨b,1,none⟩=some (.slice none 0 0)) (hb:Below w.heap.size w w') :
  o8 3 s w (.returned (.tuple #[.pointer (some ⟨b,0,none⟩),.bool (aH s).isSome])) w':=by
 refine ⟨⟨_,by rw [h],fun _ a=>(by cases a),fun a _=> ?_,fun a _=>⟨b,rfl,(e (by rw [←h];exact a)).2⟩⟩,hb⟩
 obtain ⟨⟨t,v,l,x,q1,q2,d,g⟩,_⟩:=e (by rw [←h];exact a)
 exact ⟨b,t,v,l,x,rfl,f,q1,q2,d,g⟩
theorem Ei (rb:Nat):(Value.pointer (some ⟨rb,0,none⟩):: .slice none 0 0::(cmC zid (.slice none 0 0) ⟨#[]⟩)).toArray= #[.pointer (some ⟨rb,0,none⟩),.slice none 0 0,.int .u8 0,.int .u8 0,.int .u8 0,.int .u8 0,.int .u8 0,.int .u8 0,.int .u8 0,.int .u8 0,.int .u8 0,.int .u8 0,.int .u8 0,.int .u8 0,.int .u8 0,.int .u8 0,.int .u8 0,.int .u8 0,.int .u8 0,.int .u8 0,.int .u8 0,.int .u8 0,.int .u8 0,.int .u8 0,.int .u8 0,.int .u8 0,.int .u8 0,.int .u8 0,.int .u8 0,.int .u8 0,.int .u8 0,.int .u8 0,.int .u8 0,.int .u8 0,.slice none 0 0,.string ⟨#[]⟩]:=by kernel_rfl
theorem BX (w:World) (rb:Nat) (e:TypeId):Arr (w.alloc (.cells #[.pointer (some ⟨rb,0,none⟩),.slice none 0 0,.int .u8 0,.int .u8 0,.int .u8 0,.int .u8 0,.int .u8 0,.int .u8 0,.int .u8 0,.int .u8 0,.int .u8 0,.int .u8 0,.int .u8 0,.int .u8 0,.int .u8 0,.int .u8 0,.int .u8 0,.int .u8 0,.int .u8 0,.int .u8 0,.int .u8 0,.int .u8 0,.int .u8 0,.int .u8 0,.int .u8 0,.int .u8 0,.int .u8 0,.int .u8 0,.int .u8 0,.int .u8 0,.int .u8 0,.int .u8 0,.int .u8 0,.int .u8 0,.slice none 0 0,.string ⟨#[]⟩] e)) w.heap.size 36 (fP rb zid (.slice none 0 0) ⟨#[]⟩):=by
 rw [←Ei]
 have h:=Arr.ofList w (Value.pointer (some ⟨rb,0,none⟩):: .slice none 0 0::(cmC zid (.slice none 0 0) ⟨#[]⟩)) e
 have b:(Value.pointer (some ⟨rb,0,none⟩):: .slice none 0 0::(cmC zid (.slice none 0 0) ⟨#[]⟩)).length=36:=by
  simp only [List.length_cons,gP _ _ _ bR]
 rw [b] at h
 refine h.congr fun k d=> ?_
 obtain a|a|a:k=0∨k=1∨2≤k:=by omega
 ·subst a;rfl
 ·subst a;rfl
 rw [fJ _ _ _ _ a]
 obtain ⟨j,rfl⟩:∃j,k=j+2:=⟨k-2,by omega⟩
 rfl
theorem KC {w:World} {b rb:Nat} (h:Arr w b 36 (fP rb zid (.slice none 0 0) ⟨#[]⟩)):Arr w b 2 (xZ (.pointer (some ⟨rb,0,none⟩)) (.slice none 0 0)) :=
 ⟨fun k d=>by
  have:=h.cell k (by omega)
  obtain a|a:k=0∨k=1:=by omega
  all_goals subst a;exact this,fun k d=>h.free k (by omega)⟩
theorem Gr (k:Int) (s:ByteArray) (w:World) :
  Calls prog 87 #[.agg #[.int .i64 k,.string s]] w (o8 k s w):=by
 have q:Hid (∀(m n:Obj),Below w.heap.size w ((w.alloc m).alloc n)):=ah (fun m n=>bal.alloc (by simp) _)
 have u:Hid (∀(m n y N:Obj),Below w.heap.size w ((((w.alloc m).alloc n).alloc y).alloc N)):=ah (fun m n y N=>((bal.alloc (by simp) _).alloc (by simp;omega) _).alloc (by simp;omega) _)
 have K:Hid (∀(m n y:Obj) (cs:Array Value) (t:TypeId),((((w.alloc m).alloc n).alloc y).alloc (.cells cs t)).cell? ⟨w.heap.size+1+1+1,1,none⟩=cs[1]?):=ah (fun m n y cs t=>by
  have h:=World.cell?_alloc_new (w:=((w.alloc m).alloc n).alloc y) cs t 1
  rw [World.size_alloc,World.size_alloc,World.size_alloc] at h
  exact h)
 by_cases h1:k<1
 ·have E:decide (k<1)=true:=decide_eq_true h1
  have j:Hid (av ⟨k,s⟩=false):=by
   unfold Hid av;rw [if_neg (show ¬k=1 by omega),if_neg (show ¬k=2 by omega),if_neg (show ¬k=3 by omega),Bool.and_false]
  go_enter func87,ntmps87
  go_wp2_with fail
  go_ret2
  exact mU j.out _ (q.out _ _)
 have E:decide (k<1)=false:=decide_eq_false h1
 by_cases A:3<k
 ·have F:decide (3<k)=true:=decide_eq_true A
  have j:Hid (av ⟨k,s⟩=false):=by
   unfold Hid av;rw [if_neg (show ¬k=1 by omega),if_neg (show ¬k=2 by omega),if_neg (show ¬k=3 by omega),Bool.and_false]
  go_enter func87,ntmps87
  go_wp2_with fail
  go_ret2
  exact mU j.out _ (q.out _ _)
 have F:decide (3<k)=false:=decide_eq_false A
 by_cases L:4096<s.size
 ·have R:decide ((4096:Int)<s.size)=true:=decide_eq_true (by omega)
  have j:Hid (av ⟨k,s⟩=false):=by unfold Hid av;rw [decide_eq_false (show ¬s.size≤4096 by omega),Bool.false_and]
  go_enter func87,ntmps87
  go_wp2_with fail
  go_ret2
  exact mU j.out _ (q.out _ _)
 have R:decide ((4096:Int)<s.size)=false:=decide_eq_false (by omega)
 have HS:Hid (av ⟨k,s⟩=(if k=1 then true else if k=2 then (bE s).isSome else if k=3 then (aH s).isSome else false)):=by
  unfold Hid av;rw [decide_eq_true (show s.size≤4096 by omega),Bool.true_and]
 have D:s.size≤100000:=by omega
 obtain rfl|rfl|rfl:k=1∨k=2∨k=3:=by omega
 ·have j:Hid (av ⟨1,s⟩=true):=by unfold Hid;rw [HS.out];rfl
  clear h1 A L HS E F
  go_enter func87,ntmps87
  go_wp2_with (go_at_call 33;refine (pJ s _).mono ?_;rintro e w' ⟨rfl,rfl⟩)
  refine (Gu _ _).mono ?_
  rintro e w' ⟨rfl,rfl⟩
  go_wp2
  go_ret2
  exact Aq j.out (K.out _ _ _ _ _) (u.out _ _ _ _)
 ·have j:Hid (av ⟨2,s⟩=(bE s).isSome):=by unfold Hid;rw [HS.out];rfl
  clear h1 A L E F HS
  have d:=ah (fun W (M:Arr W (w.heap.size+1+1) 3 (rd0 s).c) (hb:Arr W (w.heap.size+1+1+1) 36 (fP (w.heap.size+1+1) zid (.slice none 0 0) ⟨#[]⟩)) =>
   Gq w.heap.size _ _ s W M (KC hb) (by omega) (by omega) (by omega) D)
  go_enter func87,ntmps87
  go_wp2_with (go_at_call 33;refine (pJ s _).mono ?_;rintro e w' ⟨rfl,rfl⟩)
  obtain ⟨f,a⟩:∃f:World,f.heap.size=w.heap.size+1+1∧f=(w.alloc (.cells #[.int .i64 2,.string s] 24)).alloc (.cells #[.nilFunc,.func (.func 157) #[] #[],.func (.func 158) #[] #[],.func (.func 159) #[] #[]] 219):=⟨_,by simp,rfl⟩
  rw [←a.2]
  have hA:=(rF f s 124).alloc (by omega) (.cells #[.pointer (some ⟨w.heap.size+1+1,0,none⟩),.slice none 0 0,.int .u8 0,.int .u8 0,.int .u8 0,.int .u8 0,.int .u8 0,.int .u8 0,.int .u8 0,.int .u8 0,.int .u8 0,.int .u8 0,.int .u8 0,.int .u8 0,.int .u8 0,.int .u8 0,.int .u8 0,.int .u8 0,.int .u8 0,.int .u8 0,.int .u8 0,.int .u8 0,.int .u8 0,.int .u8 0,.int .u8 0,.int .u8 0,.int .u8 0,.int .u8 0,.int .u8 0,.int .u8 0,.int .u8 0,.int .u8 0,.int .u8 0,.int .u8 0,.slice none 0 0,.string ⟨#[]⟩] 221)
  have p:=BX (f.alloc (.cells #[.string s,.int .i64 0,.int .i64 0] 124)) (w.heap.size+1+1) 221
  rw [World.size_alloc,a.1] at p
  rw [a.1] at hA
  have b:=ah (u.out (.cells #[.int .i64 2,.string s] 24) (.cells #[.nilFunc,.func (.func 157) #[] #[],.func (.func 158) #[] #[],.func (.func 159) #[] #[]] 219) (.cells #[.string s,.int .i64 0,.int .i64 0] 124) (.cells #[.pointer (some ⟨w.heap.size+1+1,0,none⟩),.slice none 0 0,.int .u8 0,.int .u8 0,.int .u8 0,.int .u8 0,.int .u8 0,.int .u8 0,.int .u8 0,.int .u8 0,.int .u8 0,.int .u8 0,.int .u8 0,.int .u8 0,.int .u8 0,.int .u8 0,.int .u8 0,.int .u8 0,.int .u8 0,.int .u8 0,.int .u8 0,.int .u8 0,.int .u8 0,.int .u8 0,.int .u8 0,.int .u8 0,.int .u8 0,.int .u8 0,.int .u8 0,.int .u8 0,.int .u8 0,.int .u8 0,.int .u8 0,.int .u8 0,.slice none 0 0,.string ⟨#[]⟩] 221))
  rw [←a.2] at b
  refine (d.out _ hA p).mono ?_
  rintro e w' ⟨rfl,⟨v,C,z,i⟩,hb⟩
  have Q:=ah C
  have G:=ah (fun g J=>Nat.le_trans b.out.size (z g J))
  have r:=ah i
  have o:=ah hb
  clear hA p C z i hb a d
  have H:=ah (b.out.trans o.out)
  go_wp2
  go_ret2
  exact Ap j.out Q.out G.out r.out H.out
 have j:Hid (av ⟨3,s⟩=(aH s).isSome):=by unfold Hid;rw [HS.out];rfl
 clear h1 A L E F HS
 have d:=ah (fun W (M:Arr W (w.heap.size+1+1) 3 (rd0 s).c) (hb:Arr W (w.heap.size+1+1+1) 36 (fP (w.heap.size+1+1) zid (.slice none 0 0) ⟨#[]⟩)) =>
  rA w.heap.size _ _ s W M hb (by omega) (by omega) (by omega) D)
 go_enter func87,ntmps87
 go_wp2_with (go_at_call 33;refine (pJ s _).mono ?_;rintro e w' ⟨rfl,rfl⟩)
 obtain ⟨f,a⟩:∃f:World,f.heap.size=w.heap.size+1+1∧f=(w.alloc (.cells #[.int .i64 3,.string s] 24)).alloc (.cells #[.nilFunc,.func (.func 157) #[] #[],.func (.func 158) #[] #[],.func (.func 159) #[] #[]] 219):=⟨_,by simp,rfl⟩
 rw [←a.2]
 have hA:=(rF f s 124).alloc (by omega) (.cells #[.pointer (some ⟨w.heap.size+1+1,0,none⟩),.slice none 0 0,.int .u8 0,.int .u8 0,.int .u8 0,.int .u8 0,.int .u8 0,.int .u8 0,.int .u8 0,.int .u8 0,.int .u8 0,.int .u8 0,.int .u8 0,.int .u8 0,.int .u8 0,.int .u8 0,.int .u8 0,.int .u8 0,.int .u8 0,.int .u8 0,.int .u8 0,.int .u8 0,.int .u8 0,.int .u8 0,.int .u8 0,.int .u8 0,.int .u8 0,.int .u8 0,.int .u8 0,.int .u8 0,.int .u8 0,.int .u8 0,.int .u8 0,.int .u8 0,.slice none 0 0,.string ⟨#[]⟩] 221)
 have p:=BX (f.alloc (.cells #[.string s,.int .i64 0,.int .i64 0] 124)) (w.heap.size+1+1) 221
 rw [World.size_alloc,a.1] at p
 rw [a.1] at hA
 have b:=ah (u.out (.cells #[.int .i64 3,.string s] 24) (.cells #[.nilFunc,.func (.func 157) #[] #[],.func (.func 158) #[] #[],.func (.func 159) #[] #[]] 219) (.cells #[.string s,.int .i64 0,.int .i64 0] 124) (.cells #[.pointer (some ⟨w.heap.size+1+1,0,none⟩),.slice none 0 0,.int .u8 0,.int .u8 0,.int .u8 0,.int .u8 0,.int .u8 0,.int .u8 0,.int .u8 0,.int .u8 0,.int .u8 0,.int .u8 0,.int .u8 0,.int .u8 0,.int .u8 0,.int .u8 0,.int .u8 0,.int .u8 0,.int .u8 0,.int .u8 0,.int .u8 0,.int .u8 0,.int .u8 0,.int .u8 0,.int .u8 0,.int .u8 0,.int .u8 0,.int .u8 0,.int .u8 0,.int .u8 0,.int .u8 0,.int .u8 0,.int .u8 0,.int .u8 0,.slice none 0 0,.string ⟨#[]⟩] 221))
 rw [←a.2] at b
 have B:=p.lt (show 0<36 by omega)
 refine (d.out _ hA p).mono ?_
 rintro e w' ⟨rfl,i,hb⟩
 have r:Hid ((aH s).isSome=true→(∃t v l x,aH s=some (t,l,x)∧w'.rangeAt (w.heap.size+1+1+1) 2 (cmC t v x)∧nI w v∧dY w' v l)∧w'.cell? ⟨w.heap.size+1+1+1,1,none⟩=some (.slice none 0 0)):=ah (fun h=>by
  obtain ⟨⟨t,v,l,x,q1,q2,S,P⟩,O⟩:=i h
  exact ⟨⟨t,v,l,x,q1,q2,fun g J=>Nat.le_trans b.out.size (S g J),P⟩,O⟩)
 have o:=ah hb
 clear hA p i hb a d
 have H:=ah (b.out.trans o.out)
 have I:=ah B
 clear B
 go_wp2
 go_ret2
 exact vL j.out (Nat.lt_of_lt_of_le I.out o.out.size) r.out H.out
theorem tL (k:Int) (s:ByteArray) (w:World) :
  Calls prog 38 #[.agg #[.int .i64 k,.string s]] w fun e w'=>e= .returned (.bool (av ⟨k,s⟩))∧Below w.heap.size w w':=by
 have d:=ah (fun w=>Gr k s w)
 have a:Hid (∀o,Below w.heap.size w (w.alloc o)):=ah (fun o=>bal)
 go_enter func38,ntmps38
 go_wp2_with fail
 refine (d.out _).mono ?_
 intro e w1 h
 obtain ⟨⟨p,rfl,_,_⟩,hb⟩:=h
 have b:=ah ((a.out _).trans (hb.mono (a.out _).size))
 clear hb
 go_wp2
 go_ret
 exact ⟨rfl,b.out⟩
def okI (b:Bool):Int:=if b=true then 0 else 1
theorem yT (k:Nat) (h:k=1∨k=2∨k=3) (w:World):(Instr.slice 9 (.string ⟨#[32,98,116,99]⟩) (some (.int .i64 (k:Int))) (some (.int .i64 ((k:Int)+1))) none).run prog w= .ok (.string (ofB [dB k])) w:=by
 rcases h with rfl|rfl|rfl
 ·exact jF ⟨#[32,98,116,99]⟩ 1 1 (by decide) w
 ·exact jF ⟨#[32,98,116,99]⟩ 2 1 (by decide) w
 exact jF ⟨#[32,98,116,99]⟩ 3 1 (by decide) w
theorem nY {o:Ob} (h:av o=true):(o.kind=1∨o.kind=2∨o.kind=3)∧o.body.size≤4096:=by
 unfold av at h
 simp only [Bool.and_eq_true,decide_eq_true_eq] at h
 refine ⟨?_,h.1⟩
 have a:=h.2
 split at a
 ·exact .inl (by assumption)
 split at a
 ·exact .inr (.inl (by assumption))
 split at a
 ·exact .inr (.inr (by assumption))
 cases a
def Cg (k:Int) (s:ByteArray) (w:World) (e:Ending) (w':World):Prop:=e= .returned (.tuple #[.string (if av ⟨k,s⟩=true then ofB (bA ⟨k,s⟩) else ⟨#[]⟩),.int .i64 (okI (av ⟨k,s⟩))])∧Below w.heap.size w w'
theorem J2 {k:Int} {s:ByteArray} {w w':World} (h:av ⟨k,s⟩=false) (hb:Below w.heap.size w w'):Cg k s w (.returned (.tuple #[.string ⟨#[]⟩,.int .i64 1])) w':=⟨by rw [h];rfl,hb⟩
theorem Hl {k:Int} {s q:ByteArray} {w w':World} (h:av ⟨k,s⟩=true) (a:q=ofB (bA ⟨k,s⟩)) (hb:Below w.heap.size w w'):Cg k s w (.returned (.tuple #[.string q,.int .i64 0])) w':=⟨by rw [h,a];rfl,hb⟩
theorem mX (k:Int) (s:ByteArray) (w:World) :
  Calls prog 39 #[.agg #[.int .i64 k,.string s]] w (Cg k s w):=by
 have G:=ah (fun w=>tL k s w)
 have b:Hid (∀o,Below w.heap.size w (w.alloc o)):=ah (fun o=>bal)
 cases i:av ⟨k,s⟩ with
 | false =>
  have g:=ah i
  rw [i] at G
  clear i
  go_enter func39,ntmps39
  go_wp2_with fail
  refine (G.out _).mono ?_
  rintro e w1 ⟨rfl,hb⟩
  have F:=ah ((b.out _).trans (hb.mono (b.out _).size))
  clear hb
  go_wp2
  go_ret2
  exact J2 g.out F.out
 | true =>
  obtain ⟨N,Q⟩:=nY i
  have g:=ah i
  rw [i] at G
  clear i
  dsimp only at N Q
  obtain ⟨n,rfl,O⟩:∃n:Nat,k=(n:Int)∧(n=1∨n=2∨n=3):=⟨k.toNat,by omega,by omega⟩
  have M:=fun w=>yT n O w
  have S:(0:Int)≤n:=by omega
  have k3:(n:Int)≤3:=by omega
  clear N O
  go_enter func39,ntmps39
  go_wp2_with fail
  refine (G.out _).mono ?_
  rintro e w1 ⟨rfl,hb⟩
  have D:w.heap.size<w1.heap.size:=by have:=hb.size;simp at this;omega
  have P:w1.cell? ⟨w.heap.size,0,none⟩=some (.int .i64 n):=by rw [hb.cell (p:=⟨w.heap.size,0,none⟩) (by simp),World.cell?_alloc_new];rfl
  have c1:w1.cell? ⟨w.heap.size,1,none⟩=some (.string s):=by rw [hb.cell (p:=⟨w.heap.size,1,none⟩) (by simp),World.cell?_alloc_new];rfl
  have F:=ah ((b.out _).trans (hb.mono (b.out _).size))
  clear hb
  go_wp2_with fail
  generalize t:dB (n:Int)=lt
  have u:(ofB [lt]).size=1:=by rw [aK];rfl
  have j:(ofB [lt]).data.toList=[lt]:=by rw [aS]
  have x:Wr w1.heap.size w1.heap.size [] ((w1.alloc (.cells #[.pointer none,.slice none 0 0] 134)).alloc (.cells #[.string (ofB [lt])] 9)) :=
   Wr.below (Lib.fresh_isBuilder 134 5 w1) bal
  have f:Below w1.heap.size w1 ((w1.alloc (.cells #[.pointer none,.slice none 0 0] 134)).alloc (.cells #[.string (ofB [lt])] 9)):=bal.alloc (by simp) _
  have l:((w1.alloc (.cells #[.pointer none,.slice none 0 0] 134)).alloc (.cells #[.string (ofB [lt])] 9)).cell? ⟨w1.heap.size+1,0,none⟩=some (.string (ofB [lt])):=by
   have:=World.cell?_alloc_new (w1.alloc (.cells #[.pointer none,.slice none 0 0] 134)) #[.string (ofB [lt])] 9 0
   rw [World.size_alloc] at this
   rw [this];rfl
  have h:=iA w1.heap.size w1.heap.size [] (w1.heap.size+1) (ofB [lt]) _ x l (by rw [u];simp) f.size
  rw [j,List.nil_append] at h
  have z:=ah f
  have H:=ah t
  clear t u j x f l
  refine h.mono ?_
  rintro e m ⟨rfl,E,y⟩
  have d:=ah (z.out.trans y)
  have c2:m.cell? ⟨w.heap.size,1,none⟩=some (.string s):=au c1 d.out D
  have I:=ah E
  have L:=d.out.size
  clear h E y z M P c1
  go_wp2_with fail
  have a:Below m.heap.size m (m.alloc (.cells #[.string s] 9)):=bal
  have B:=mH w1.heap.size w1.heap.size [lt] m.heap.size s _ (I.out.below a) (by rw [World.cell?_alloc_new];rfl) (by omega) (by simp) (by have:=a.size;omega)
  have A:=ah a
  clear a
  refine B.mono ?_
  rintro e w3 ⟨rfl,r,C⟩
  have J:=ah ((d.out.trans (A.out.mono L)).trans C)
  have q:=pz w1.heap.size w1.heap.size _ w3 r (by simp)
  clear B r C c2
  go_wp2_with fail
  refine q.mono ?_
  rintro e R ⟨rfl,v⟩
  have K:=ah (F.out.trans ((J.out.trans v).mono F.out.size))
  clear q v
  go_wp2
  go_ret2
  exact Hl g.out (by unfold bA;rw [H.out]) K.out
theorem Bd:(∀w,(zeroValue 143).run prog w= .ok (.agg (idC zid).toArray) w)∧ ∀w,(Instr.build 143 #[]).run prog w= .ok (.agg (idC zid).toArray) w :=
 ⟨fun w=>by kernel_rfl,fun w=>run_build w 143 #[] _ (by kernel_rfl)⟩
def o9 (k:Int) (s:ByteArray) (w:World) (e:Ending) (w':World):Prop:=e= .returned (.tuple #[.agg (idC (if av ⟨k,s⟩=true then idO ⟨k,s⟩ else zid)).toArray,.bool (av ⟨k,s⟩)])∧Below w.heap.size w w'
theorem JV {k:Int} {s:ByteArray} {w w':World} (h:av ⟨k,s⟩=false) (hb:Below w.heap.size w w'):o9 k s w (.returned (.tuple #[.agg (idC zid).toArray,.bool false])) w':=⟨by rw [h];rfl,hb⟩
theorem GY {k:Int} {s:ByteArray} {x:List UInt8} {w w':World} (h:av ⟨k,s⟩=true) (a:x=idO ⟨k,s⟩) (hb:Below w.heap.size w w'):o9 k s w (.returned (.tuple #[.agg (idC x).toArray,.bool true])) w':=⟨by rw [h,a];rfl,hb⟩
theorem yM (k:Int) (s:ByteArray) (w:World) (L:Laid w) :
  Calls prog 111 #[.agg #[.int .i64 k,.string s]] w (o9 k s w):=by
 obtain ⟨T,O⟩:=Bd
 have d:(idC zid).length=32:=by rw [aA,bR]
 have R:=ah (fun w=>mX k s w)
 have x:=bC zid
 have I:Hid (∀w',av ⟨k,s⟩=false→Below w.heap.size w w'→o9 k s w (.returned (.tuple #[.agg (idC zid).toArray,.bool false])) w'):=ah (fun w' h hb=>JV h hb)
 generalize idC zid=A at T O d x I
 obtain ⟨W0,a⟩:∃W0,W0=(w.alloc (.cells #[.int .i64 k,.string s] 24)).alloc (.cells A.toArray 143):=⟨_,rfl⟩
 have hA:W0.there (w.heap.size+1) 0 32:=by
  have:=(Arr.ofList (w.alloc (.cells #[.int .i64 k,.string s] 24)) A 143).there
  rw [World.size_alloc,d] at this;rw [a];exact this
 have r:Below w.heap.size w W0:=by rw [a];exact bal.alloc (by simp) _
 have y:W0.heap.size=w.heap.size+1+1:=by rw [a];simp
 have i:(prog.info? 143).map (·.size)=some 32:=by kernel_rfl
 have F:(prog.info? 143).map (·.size)=some A.length:=by rw [d];exact i
 have D:=ah r
 have V:=ah y
 have t:=ah d
 have M:=ah x
 have S:=ah (L.below r)
 have o:Hid (∀w1,Below W0.heap.size W0 w1→w1.there (w.heap.size+1) 0 32):=ah (fun w1 hb=>qo hA hb (by rw [y];omega))
 have g:Hid (∀w1 cs,cs.length=32→Below W0.heap.size W0 w1→(w1.setCells (w.heap.size+1) 0 cs).rangeAt (w.heap.size+1) 0 cs∧Below w.heap.size w (w1.setCells (w.heap.size+1) 0 cs)):=ah (fun w1 cs X hb=> 
  ⟨World.rangeAt_setCells_same w1 _ 0 _ (by rw [X];exact o.out w1 hb),below_setCells _ (by omega) _ _ _ (D.out.trans (hb.mono D.out.size))⟩)
 clear r hA y d x L
 cases K:av ⟨k,s⟩ with
 | false =>
  have b:=ah K
  clear K
  go_enter func111,ntmps111
  go_wp2_with fail
  rw [←a]
  clear a
  refine (R.out _).mono ?_
  intro e w1 h
  obtain ⟨rfl,hb⟩:=h
  rw [b.out]
  have z:=ah hb
  clear hb
  rw [if_neg (show ¬(false=true) by simp),show okI false=1 from rfl]
  go_wp2_with (refine aj rfl 143 _ _ rfl (w.heap.size+1) 0 A rfl rfl 32 t.out (o.out _ z.out) i M.out ?_)
  refine aD rfl (w.heap.size+1) 0 rfl _ _ (g.out _ A t.out z.out).1 underlying143 rfl F rfl _ rfl (I.out _ b.out (g.out _ A t.out z.out).2)
 | true =>
  have b:=ah K
  have B:(ofB (bA ⟨k,s⟩)).size≤1000000000:=by
   rw [aK];unfold bA
   have:=(nY K).2
   have Y:=fC (n:=s.size) (by dsimp only at this;omega)
   simp at *;omega
  clear K
  go_enter func111,ntmps111
  go_wp2_with fail
  rw [←a]
  clear a
  refine (R.out _).mono ?_
  intro e w1 h
  obtain ⟨rfl,hb⟩:=h
  rw [b.out]
  have z:=ah hb
  have Q:=ah (S.out.below hb)
  clear hb
  rw [if_pos rfl,show okI true=0 from rfl]
  have v:vH (ofB (bA ⟨k,s⟩))=idO ⟨k,s⟩:=Mx _
  have C:=rQ ⟨k,s⟩
  generalize ofB (bA ⟨k,s⟩)=q at B v
  have j:=fun (W:World) (L:Laid W) (p:Nat) (U:W.cell? ⟨p,0,none⟩=some (.string q))=>Kg p 0 1 q W U L B
  rw [v] at j
  have P:=ah j
  have J:Hid (∀w',Below w.heap.size w w'→o9 k s w (.returned (.tuple #[.agg (idC (idO ⟨k,s⟩)).toArray,.bool true])) w'):=ah (fun w' hb=>GY b.out rfl hb)
  clear j v
  go_wp2_with fail
  refine (P.out _ (Q.out.below bal) _ (by rw [World.cell?_alloc_new];rfl)).mono ?_
  rintro e Z ⟨rfl,G⟩
  have l:=ah (z.out.trans ((bal.trans (G.mono (by simp))).mono z.out.size))
  clear G
  have H:idV (idO ⟨k,s⟩)= .agg (idC (idO ⟨k,s⟩)).toArray:=rfl
  rw [H]
  clear H
  have f:(idC (idO ⟨k,s⟩)).length=32:=by rw [aA,C]
  have m:=bC (idO ⟨k,s⟩)
  generalize idC (idO ⟨k,s⟩)=cx at f m J
  have E:(prog.info? 143).map (·.size)=some cx.length:=by rw [f];exact i
  have u:=ah f
  have N:=ah m
  clear f m C
  go_wp2_with (refine aj rfl 143 _ _ rfl (w.heap.size+1) 0 cx rfl rfl 32 u.out (o.out _ l.out) i N.out ?_)
  refine aD rfl (w.heap.size+1) 0 rfl _ _ (g.out _ cx u.out l.out).1 underlying143 rfl E rfl _ rfl (J.out _ (g.out _ cx u.out l.out).2)
end
end Go.Proofs.YtejamhkgjkhjdaaGreatDoor
