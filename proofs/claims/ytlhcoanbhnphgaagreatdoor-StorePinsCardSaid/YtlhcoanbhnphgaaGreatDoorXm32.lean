/- A part of this claim. -/
import Derived.Test.YtlhcoanbhnphgaaGreatDoorXm31
namespace Go.Proofs.YtlhcoanbhnphgaaGreatDoor
open Tryz
set_option maxHeartbeats 64000000
set_option maxRecDepth 100000
set_option linter.all false
section
open Go.RowKit Go.Maps
theorem O9 {α:Type} {enc:α→Value} {w:World} {b n:Nat} {f:Idl→Option α} (h:gu enc w b n f) {t e:TypeId} (d:prog.underlying t=some (.map 42 e)) (ty:TypeId):∃w',(Builtin.clear_ #[t] ty #[.map (some b)]).run prog w= .ok (.tuple #[]) w'∧bW w' b 0 []∧w.grownBy w' (some b):=by
 obtain ⟨D,⟨es,a,hb,F,j,k⟩,_⟩:=h
 refine ⟨{ w with heap:=w.heap.setIfInBounds b (.map #[] a) },?_,?_,?_⟩
 ·simp [Builtin.clear_,run_underlying d,MapKept.run_getObj_map hb,MapKept.run_setObj_map _ hb,Result.andThen]
 ·have g:gu vB { w with heap:=w.heap.setIfInBounds b (.map #[] a) } b 0 fun _=>none:=⟨.map [],⟨#[],a,(MapKept.heap_set hb).1,⟨by simp,MapKept.stamped_empty a,by simp⟩,Nat.le_refl _,rfl⟩,wU⟩
  exact ⟨g.ext fun x _=>by unfold gZ;simp,List.nodup_nil,fun _ h=>by cases h⟩
 exact ⟨rfl,rfl,rfl,by simp,fun i _ hi=>(MapKept.heap_set hb).2 i (fun e=>hi (by rw [e]))⟩
theorem mV {α:Type} {enc:α→Value} {w:World} {ops:Array Oper} {rest:List Oper} {o:Oper} {a:Act} {Q:Exit→Act→World→Prop} (q:o.guard=none) (m:Operand) (t e:TypeId) (i:o.op=Op.call { callee:=Callee.builtin Builtin.clear,args:=#[m],argTypes:=#[t] })
  (p:prog.underlying t=some (.map 42 e)) (b n:Nat) (f:Idl→Option α) (hm:a.eval m= .map (some b)) (d:gu enc w b n f)
  (k:∀w',bW w' b 0 []→w.grownBy w' (some b)→wpList prog ops Q rest (a.put o.dst (.tuple #[])) w'):wpList prog ops Q (o::rest) a w:=by
 refine wpList_plain q fun r h=> ?_
 obtain ⟨w',g,j,l⟩:=O9 d p o.type
 unfold Oper.wp
 simp [execOp,i,resolve,invoke,builtin,hm,g,Result.andThen]
 exact h _ _ (k w' j l)
section
variable {O:Nat → Prop} {N R M:Nat} {w:World} {q:Int} {L:LK} {sy:Nat → Bool} {B:Sb} {t l:List Rf} {n:Nat} {P:Nat → List Idl} {U:List Idl} {c:Nat} {F:List Ob}
def StA (O:Nat→Prop) (N R M:Nat) (q:Int) (L:LK) (sy:Nat→Bool) (B:Sb) (t l:List Rf) (n:Nat) (P:Nat→List Idl) (U:List Idl) (c:Nat) (F:List Ob) (w w':World):Prop :=
 ∃L',DV O N R M w' B.g q L' (if U=[] then sy else upN sy 0 true)∧SM O w' B t l n P [] c∧SL L' (if U=[] then sy else upN sy 0 true) t l F [] c∧(∀k x,k≠0→L' k x=L k x)∧Chg (fun j=> ¬O j∨j∈B.bl) w w'
theorem ng (hv:DV O N R M w B.g q L sy) (hm:SM O w B t l n P U c) (hl:SL L sy t l F U c) (hN:N≤1000000) (hU:U.length≤100000) :
  Calls prog 61 #[.pointer (some ⟨B.sb,0,none⟩)] w fun e w'=>e= .returned (.int .i64 0)∧StA O N R M q L sy B t l n P U c F w w':=by
 have aq:=ah (fun V (hb:Below w.heap.size w V)=>kC B.pt c U V (hm.below hb).put hU)
 have aa:Hid (∀V,Below w.heap.size w V→V.cell? ⟨B.sb,1,none⟩=some (.pointer (some ⟨B.g,0,none⟩))∧V.cell? ⟨B.sb,8,none⟩=some (.map (some B.pt))):=ah fun V hb=>⟨(hm.below hb).cell rfl,(hm.below hb).cell rfl⟩
 have HV:=ah hv
 have HM:=ah hm
 have i:=ah hl
 have ac:=ah hm.put.2.2
 have ap:=ah hN
 clear hv hm hl hN hU
 go_enter func61,ntmps61
 go_upto_region 1 with fail
 have a:=aa.out w.drew (Below.refl _ _).drew
 refine wrL 10 (fun x=>x.cell? ⟨B.sb,1,none⟩=some (.pointer (some ⟨B.g,0,none⟩))∧x.cell? ⟨B.sb,8,none⟩=some (.map (some B.pt))) ?_
 refine WL.tk 0 a ?_
 refine WL.tk 1 a ?_
 refine WL.tk 2 a ?_
 refine WL.tk 3 a ?_
 refine WL.tk 4 a ?_
 refine WL.tk 5 a ?_
 refine WL.tk 6 a ?_
 refine WL.tk 7 a ?_
 refine WL.on 8 ?_
 go_wp2_with fail
 refine (aq.out w.drew (Below.refl _ _).drew).mono ?_
 rintro e w1 ⟨v,m,rfl,hr,d,E,Z,ab⟩
 have u:=ah (bC ab)
 have ad:=aa.out w1 u.out
 obtain ⟨S,s⟩:∃S,Ou O w w1=S:=⟨_,rfl⟩
 have J:DV S N R M w1 B.g q L sy:=by rw [←s];exact HV.out.on u.out
 have z:Hid (∀j,O j→S j):=ah (fun j I=>by rw [←s];exact .inl I)
 have al:Hid (SM S w1 B t l n P U c):=ah ((HM.out.below u.out).sub z.out)
 have G:=ah (DW J ap.out v m hr (fun af k C=>by
  rw [←s]
  obtain ⟨ao,cap,e,_,h2⟩:=hr
  obtain ⟨b,off,e2,hb,_⟩:=h2 (by simpa using af)
  have p:=Z k C
  rw [e,e2] at C
  cases C
  exact .inr ⟨p,hb⟩) (fun x hx=>ac.out x ((d x).1 hx)) (fun x hx=>by
  obtain ⟨o,ho,e⟩:=i.out.up x ((d x).1 hx)
  obtain ⟨_,k,C⟩:=i.out.lo.on o ho
  rw [e] at C
  exact ⟨_,C⟩))
 have Y:=ah d
 have X:Hid (m=[]↔U=[]):=ah ⟨fun e=>List.eq_nil_of_length_eq_zero (by rw [←E,e];rfl),fun e=>List.eq_nil_of_length_eq_zero (by rw [E,e];rfl)⟩
 obtain ⟨va,vc,rfl,_,_⟩:=hr.open
 unfold PL at G
 clear ab hr d E Z J s a
 go_wp2_with fail
 refine ⟨ad,?_⟩
 refine WL.on 9 ?_
 go_wp2_with fail
 refine G.out.mono ?_
 rintro e w2 ⟨rfl,L',Q,K,D,p⟩
 have r:=ah (al.out.kp p)
 have an:=ah Q
 have f:=ah K
 have am:=ah D
 have ae:=ah p
 have H:w2.cell? ⟨B.sb,1,none⟩=some (.pointer (some ⟨B.g,0,none⟩))∧w2.cell? ⟨B.sb,8,none⟩=some (.map (some B.pt)):=⟨r.out.cell rfl,r.out.cell rfl⟩
 clear Q K D p ad G
 go_wp2_with fail
 refine ⟨H,?_⟩
 refine WL.la 10 ?_
 have c8:=H.2
 clear H
 go_wp2_with (refine mV rfl _ 70 4 rfl underlying70 B.pt c (gZ U) rfl r.out.put.1 ?_;intro w3 g1 g2)
 have A:=dO g2
 have W:B.pt∈B.bl:=by simp [Sb.bl]
 have T:Hid (StA O N R M q L sy B t l n P U c F w w3):=ah (by
  have ag:=HM.out.own _ W
  have ai:(if m=[] then sy else upN sy 0 true)=(if U=[] then sy else upN sy 0 true):=by
   by_cases e:U=[]
   ·rw [if_pos e,if_pos (X.out.2 e)]
   rw [if_neg e,if_neg (fun h=>e (X.out.1 h))]
  refine ⟨L',?_,((r.out.res HM.out).LQ (Nat.le_refl c) A (g1.mono (by omega))),⟨SmL.lof i.out.lo f.out,i.out.fc,i.out.nd,fun y=>by rw [f.out.oth 1 y (by decide)];exact i.out.pk y,?_,i.out.lc,by rw [f.out.oth 2 _ (by decide)];exact i.out.tm,i.out.ok,fun o ho _=> ?_,fun x hx=>(by cases hx),fun _=> ?_⟩,f.out.oth,((Chg.of_below u.out).trans (ae.out.mono fun j _ I=> .inl fun h=>I (z.out j h))).trans (A.mono fun j _ I=> .inr (by rw [I];exact W))⟩
  ·rw [←ai]
   exact (an.out.chg A (fun j I=>by rw [I];exact z.out _ ag)).sub z.out HV.out.ko
  ·obtain ⟨k,C⟩:=i.out.bk
   exact ⟨k,by rw [f.out.oth 2 _ (by decide)];exact C⟩
  ·by_cases hu:idO o∈U
   ·exact am.out _ ((Y.out _).2 hu)
   exact f.out.stf (i.out.uf o ho hu)
  by_cases e:U=[]
  ·rw [if_pos e];exact i.out.s0 e
  rw [if_neg e];exact aI ..)
 clear g1 g2 A
 go_wp2_with fail
 go_ret
 exact ⟨rfl,T.out⟩
end
theorem SM.zX {O:Nat→Prop} {w w':World} {B:Sb} {t l i f:List Rf} {n n':Nat} {P:Nat→List Idl} {U:List Idl} {c:Nat} (h:SM O w B t l n P U c) (b:Chg (fun j=> ¬O j∨j=B.ob) w w') {vt vl:Value} (hb:OpO O w' B.ob B.g vt vl i f n')
  (h1:i≠[]→ ∀k,vt.ownBlock=some k→k∉B.bl) (p:f≠[]→ ∀k,vl.ownBlock=some k→k∉B.bl):SM O w' { B with vt:=vt,vl:=vl } i f n' P U c:=by
 have nd:=h.nd
 have a:∀j,j∈[B.sb,B.hb,B.mp,B.pn 0,B.pn 1,B.pn 2,B.pn 3,B.hd,B.pt]→ ¬(¬O j∨j=B.ob):=fun j m d=>by
  have e:j∈B.bl:=by
   simp only [List.mem_cons,List.not_mem_nil,or_false] at m
   simp only [Sb.bl,List.mem_cons,List.not_mem_nil,or_false]
   rcases m with h|h|h|h|h|h|h|h|h<;>simp [h]
  rcases d with d|d
  ·exact d (h.own j e)
  subst d
  have o:(B.ob::[B.sb,B.hb,B.mp,B.pn 0,B.pn 1,B.pn 2,B.pn 3,B.hd,B.pt]).Nodup:=(List.Perm.swap B.ob B.sb [B.hb,B.mp,B.pn 0,B.pn 1,B.pn 2,B.pn 3,B.hd,B.pt]).nodup_iff.1 nd
  exact (List.nodup_cons.1 o).1 m
 exact ⟨h.box.chg b (a _ (by simp)),hb,h.shf.chg b (a _ (by simp)) (a _ (by simp)),fun k q=>(h.pin k q).chg b (a _ (by
  obtain rfl|rfl|rfl|rfl:k=0∨k=1∨k=2∨k=3:=by omega
  all_goals simp)),h.hid.chg b (a _ (by simp)),h.put.chg b (a _ (by simp)),h.own,h.nd,h1,p⟩
section
variable {O:Nat → Prop} {N R M:Nat} {w:World} {q:Int} {L:LK} {sy:Nat → Bool} {B:Sb} {t l:List Rf} {n:Nat} {P:Nat → List Idl} {U:List Idl} {c:Nat} {F:List Ob}
def SyA (O:Nat→Prop) (N R M:Nat) (q:Int) (L:LK) (sy:Nat→Bool) (B:Sb) (t l:List Rf) (P:Nat→List Idl) (U:List Idl) (c:Nat) (F:List Ob) (w w':World):Prop :=
 ∃L',DV O N R M w' B.g q L' (if U=[] then sy else upN sy 0 true)∧SM O w' B t l l.length P [] c∧SL L' (if U=[] then sy else upN sy 0 true) t l F [] c∧StF L' 2 bkN∧(∀k x,k≠0→ ¬(k=2∧x=bkN)→L' k x=L k x)∧Chg (fun j=> ¬O j∨j∈B.bl) w w'
theorem zV (J:DV O N R M w B.g q L sy) (hm:SM O w B t l n P U c) (H:SL L sy t l F U c) (I:N≤1000000) (G:U.length≤100000) :
  Calls prog 28 #[.pointer (some ⟨B.sb,0,none⟩)] w fun e w'=>e= .returned (.int .i64 0)∧SyA O N R M q L sy B t l P U c F w w':=by
 have HS:=ah (ng J hm H I G)
 clear J hm H I G
 go_enter func28,ntmps28
 go_wp2_with fail
 refine HS.out.mono ?_
 rintro e w1 ⟨rfl,L',m,b,h,s,u⟩
 obtain ⟨k,E⟩:=h.bk
 have Q:=ah (tK m b.bk E)
 have f:=ah b
 have a:=ah h
 have z:=ah s
 have C:=ah u
 have S:w1.cell? ⟨B.sb,0,none⟩=some (.pointer (some ⟨B.ob,0,none⟩)):=b.cell rfl
 clear m b h s u E HS
 go_wp2_with fail
 refine Q.out.mono ?_
 rintro e K ⟨rfl,p,v,i⟩
 have r:Hid (SyA O N R M q L sy B t l P U c F w K):=ah (by
  refine ⟨_,p,f.out.zX i v f.out.vt f.out.vl,⟨?_,a.out.fc,a.out.nd,fun y=>by rw [LK.aH (fun e=>absurd e.1 (by decide))];exact a.out.pk y,⟨_,LK.bT ..⟩,a.out.lc,by rw [LK.aH (fun e=>E9 bkN e.2)];exact a.out.tm,a.out.ok,fun o A hu=> ?_,a.out.up,a.out.s0⟩,StF.put _ _ _ _,fun j x D hx=>by rw [LK.aH hx];exact z.out j x D,C.out.trans (i.mono fun j _ D=>D.imp id fun e=>by rw [e];simp [Sb.bl])⟩
  ·exact ⟨fun o A=>by rw [LK.aH (fun e=>absurd e.1 (by decide))];exact a.out.lo.on o A,fun nm d hd=>a.out.lo.all nm d (by rw [LK.aH (fun e=>absurd e.1 (by decide))] at hd;exact hd)⟩
  intro d hd
  rw [LK.aH (fun e=>absurd e.1 (by decide))] at hd
  exact a.out.uf o A hu d hd)
 clear p v i
 go_wp2_with fail
 go_ret
 exact ⟨rfl,r.out⟩
theorem pq (hm:SM O w B t l n P U c) (k:t.length≤1000) (o:l.length≤1000) (x:ByteArray) (hx:x.size≤maxLen):Calls prog 26 #[.pointer (some ⟨B.sb,0,none⟩),.string x] w (dL (fZ t l x) w):=by
 obtain ⟨j,J,q⟩:=oP
 have b:Below w.heap.size w (w.alloc (.cells j 42)):=bal
 have s:Hid (ak (w.alloc (.cells j 42)) w.heap.size 42 j.toList):=ah (by have:=ak.new w 42 j.toList;simpa using this)
 have A:=ah b
 have h:=ah (yR _ B.ob _ B.vt B.vl t l n x (hm.below b).bk.op k o hx)
 have p:=ah (mX (t:=t) (l:=l) (x:=x) (fun r I=>(hm.bk.op.row.ok r I).2))
 have K:(w.alloc (.cells j 42)).cell? ⟨B.sb,0,none⟩=some (.pointer (some ⟨B.ob,0,none⟩)):=(hm.below b).cell rfl
 unfold dL at h
 obtain ⟨f,a⟩:∃c,idC (fZ t l x)=c:=⟨_,rfl⟩
 rw [a] at h
 have y:=ah a
 have g:Hid (f.length=32):=ah (by rw [←a,av,p.out])
 have E:Hid (∀v∈f,v.oneCell'=true):=ah (by rw [←a];exact aJ _)
 have G:(prog.info? 42).map (·.size)=some f.length:=by rw [g.out];exact cZ
 clear hm k o hx a b
 go_enter func26,ntmps26
 go_wp2_with fail
 refine h.out.mono ?_
 rintro e w1 ⟨rfl,i⟩
 have D:=bth A i
 replace s:=ah (s.out.below i)
 obtain ⟨H,d⟩:∃z,w1.setCells w.heap.size 0 f=z:=⟨_,rfl⟩
 have C:w1.there w.heap.size 0 32:=by have:=s.out.there;rwa [show j.toList.length=32 from by simpa using q] at this
 have F:H.rangeAt w.heap.size 0 f:=by rw [←d];exact (s.out.set (us:=f) (by rw [g.out];simpa using q.symm)).range
 have m:Hid (Below w.heap.size w H):=ah (by rw [←d];exact below_setCells _ (Nat.le_refl _) _ _ _ D.out)
 have u:=ah d
 clear d i
 go_wp2_with (refine aj rfl 42 _ _ rfl w.heap.size 0 f rfl rfl 32 g.out C cZ E.out ?_;rw [u.out])
 refine bK rfl w.heap.size 0 rfl f _ F underlying42 rfl G rfl ?_
 exact ⟨by rw [y.out],m.out⟩
theorem tX (hm:SM O w B t l n P U c) (i:Nat) (hi:i<4) (a:(P i).length≤100000):Calls prog 14 #[.pointer (some ⟨B.sb,0,none⟩),.int .i64 (i:Int)] w (mJ (P i) w):=by
 have d:=ah (fun W=>qB (.pointer (some ⟨B.sb,0,none⟩)) (i:Int) W)
 have f:q8 (i:Int)=true:=decide_eq_true ⟨by omega,by omega⟩
 rw [f] at d
 have h:=ah (kC (B.pn i) c (P i) w (hm.pin i hi) a)
 have o:w.cell? ⟨B.sb,3+i,none⟩=some (.map (some (B.pn i))):=hm.cell (by
  obtain rfl|rfl|rfl|rfl:i=0∨i=1∨i=2∨i=3:=by omega
  all_goals rfl)
 have k:(0:Int)≤(i:Int):=by omega
 have k1:(i:Int)<4:=by omega
 clear hm a f
 go_enter func14,ntmps14
 go_wp2_with fail
 refine (d.out w).mono ?_
 rintro e w1 ⟨rfl,rfl⟩
 go_wp2_with fail
 refine h.out.mono ?_
 rintro e j ⟨v,m,rfl,b⟩
 have g:=ah b
 clear b
 go_wp2_with fail
 go_ret
 exact ⟨_,m,rfl,g.out⟩
end
structure WKs (Bs:Nat) (w0 w:World) (wb sb vb mb:Nat) (qv lv:Value) (Q:List (Idl × Int)) (n:Nat) (ms:List Idl) (lk:List (Idl × Int)):Prop where
 box:ak w wb 257 [.iface 25 (.pointer (some ⟨sb,0,none⟩)),qv,.map (some vb),.map (some mb),lv]
 q:bQ w Bs 33 qv Q.length (chV Q)
 l:bQ w Bs 33 lv lk.length (chV lk)
 vis:jY w vb n
 mks:bW w mb n ms
 q32:∀ c ∈ Q,c.1.length = 32 ∧ 0 ≤ c.2 ∧ c.2 ≤ 3
 l32:∀ c ∈ lk,c.1.length = 32 ∧ 0 ≤ c.2 ∧ c.2 ≤ 3
 ge:Bs ≤ wb ∧ Bs ≤ vb ∧ Bs ≤ mb
 ne:wb ≠ vb ∧ wb ≠ mb ∧ vb ≠ mb
 qs:∀ k,qv.ownBlock = some k → k ≠ wb ∧ k ≠ vb ∧ k ≠ mb
 ls:∀ k,lv.ownBlock = some k → k ≠ wb ∧ k ≠ vb ∧ k ≠ mb ∧ qv.ownBlock ≠ some k
 bel:Below Bs w0 w
theorem bQ.olt {w:World} {B sz n:Nat} {v:Value} {xs:List Value} (h:bQ w B sz v n xs):∀g,v.ownBlock=some g→g<w.heap.size:=fun g e=>by
 rcases h.2 with ⟨rfl,_⟩|⟨g1,off,cap,rfl,_,a,_⟩
 ·cases e
 cases e;exact a
theorem bQ.chg {S:Nat→Prop} {w w':World} {B sz n:Nat} {v:Value} {xs:List Value} (h:bQ w B sz v n xs) (e:Chg S w w') (hS:∀g,v.ownBlock=some g→ ¬S g):bQ w' B sz v n xs:=by
 refine ⟨h.1,?_⟩
 rcases h.2 with l|⟨g,off,cap,rfl,k,i,d,b,a,m⟩
 ·exact .inl l
 have hb:=e.block g i (hS g rfl)
 exact .inr ⟨g,off,cap,rfl,k,Nat.lt_of_lt_of_le i e.size,d,b,fun j f=>⟨by rw [World.cell?_of_block hb];exact (a j f).1,by rw [World.frozen?_of_block hb];exact (a j f).2⟩,fun j u hu=>by rw [World.cell?_of_block hb];exact m j u hu⟩
theorem jY.chg {S:Nat→Prop} {w w':World} {b n:Nat} (h:jY w b n) (a:Chg S w w') (hb:¬S b):jY w' b n:=h.heap (a.block b h.lt hb)
section
variable {Bs:Nat} {w0 w w':World} {wb sb vb mb:Nat} {qv lv:Value} {Q:List (Idl × Int)} {n:Nat} {ms:List Idl} {lk:List (Idl × Int)}
theorem WKs.below (h:WKs Bs w0 w wb sb vb mb qv lv Q n ms lk) (hb:Below w.heap.size w w'):WKs Bs w0 w' wb sb vb mb qv lv Q n ms lk:=by
 have a:=h.box.lt
 exact ⟨h.box.below hb,h.q.below hb,h.l.below hb,h.vis.on hb,h.mks.on hb,h.q32,h.l32,h.ge,h.ne,h.qs,h.ls,h.bel.trans (hb.mono (by have:=h.ge.1;omega))⟩
theorem WKs.cell (h:WKs Bs w0 w wb sb vb mb qv lv Q n ms lk) {i:Nat} {v:Value} (a:([.iface 25 (.pointer (some ⟨sb,0,none⟩)),qv,.map (some vb),.map (some mb),lv]:List Value)[i]? = some v):w.cell? ⟨wb,i,none⟩=some v:=by
 have:=h.box.range i v a
 rwa [Nat.zero_add] at this
theorem WKs.Qa (h:WKs Bs w0 w wb sb vb mb qv lv Q n ms lk) {a:Value} {Q':List (Idl×Int)} (g:Chg (fun k=>qv.ownBlock=some k) w w') (s:bQ w' Bs 33 a Q'.length (chV Q')) (i:∀c∈Q',c.1.length=32∧0≤c.2∧c.2≤3) (m:∀k,a.ownBlock=some k→qv.ownBlock=some k∨w.heap.size≤k)
  (hb:Below Bs w w'):WKs Bs w0 (w'.setCell ⟨wb,1,none⟩ a) wb sb vb mb a lv Q' n ms lk:=by
 have j:ak w' wb 257 [.iface 25 (.pointer (some ⟨sb,0,none⟩)),qv,.map (some vb),.map (some mb),lv]:=h.box.chg g (fun e=>(h.qs _ e).1 rfl)
 have t:=h.box.lt
 have r:=h.vis.lt
 have q:=h.mks.lt
 have f:∀k,a.ownBlock=some k→k≠wb∧k≠vb∧k≠mb:=fun k b=>by
  rcases m k b with e|e
  ·exact h.qs k e
  exact ⟨by omega,by omega,by omega⟩
 have d:Chg (fun k=>k=wb) w' (w'.setCell ⟨wb,1,none⟩ a):=dB
 refine ⟨j.put 1 a,s.chg d (fun k b=>(f k b).1),(h.l.chg g (fun k b e=>(h.ls k b).2.2.2 e)).chg d (fun k b=>(h.ls k b).1),(h.vis.chg g (fun e=>(h.qs _ e).2.1 rfl)).chg d (fun e=>h.ne.1 e.symm),(h.mks.chg g (fun e=>(h.qs _ e).2.2 rfl)).chg d (fun e=>h.ne.2.1 e.symm),i,h.l32,h.ge,h.ne,f,fun k b=>⟨(h.ls k b).1,(h.ls k b).2.1,(h.ls k b).2.2.1,fun e=> ?_⟩,?_⟩
 ·rcases m k e with o|o
  ·exact (h.ls k b).2.2.2 o
  have:=h.l.olt k b;omega
 exact (h.bel.trans hb).setCell (p:=⟨wb,1,none⟩) h.ge.1 _
theorem WKs.Rh (h:WKs Bs w0 w wb sb vb mb qv lv Q n ms lk) {a:Value} {b:List (Idl×Int)} (i:Chg (fun k=>lv.ownBlock=some k) w w') (s:bQ w' Bs 33 a b.length (chV b)) (j:∀c∈b,c.1.length=32∧0≤c.2∧c.2≤3) (t:∀k,a.ownBlock=some k→lv.ownBlock=some k∨w.heap.size≤k)
  (hb:Below Bs w w'):WKs Bs w0 (w'.setCell ⟨wb,4,none⟩ a) wb sb vb mb qv a Q n ms b:=by
 have m:ak w' wb 257 [.iface 25 (.pointer (some ⟨sb,0,none⟩)),qv,.map (some vb),.map (some mb),lv]:=h.box.chg i (fun e=>(h.ls _ e).1 rfl)
 have u:=h.box.lt
 have r:=h.vis.lt
 have o:=h.mks.lt
 have l:=h.q.olt
 have g:∀k,a.ownBlock=some k→k≠wb∧k≠vb∧k≠mb∧qv.ownBlock≠some k:=fun k f=>by
  rcases t k f with e|e
  ·exact h.ls k e
  exact ⟨by omega,by omega,by omega,fun v=>by have:=l k v;omega⟩
 have d:Chg (fun k=>k=wb) w' (w'.setCell ⟨wb,4,none⟩ a):=dB
 exact ⟨m.put 4 a,(h.q.chg i (fun k f e=>(h.ls k e).2.2.2 f)).chg d (fun k f=>(h.qs k f).1),s.chg d (fun k f=>(g k f).1),(h.vis.chg i (fun e=>(h.ls _ e).2.1 rfl)).chg d (fun e=>h.ne.1 e.symm),(h.mks.chg i (fun e=>(h.ls _ e).2.2.1 rfl)).chg d (fun e=>h.ne.2.1 e.symm),h.q32,j,h.ge,h.ne,h.qs,g,(h.bel.trans hb).setCell (p:=⟨wb,4,none⟩) h.ge.1 _⟩
theorem WKs.Rb (h:WKs Bs w0 w wb sb vb mb qv lv Q n ms lk) (d:w.grownBy w' (some vb)) (f:jY w' vb (n+1)):WKs Bs w0 w' wb sb vb mb qv lv Q (n+1) ms lk:=by
 have a:=dO d
 exact ⟨h.box.chg a h.ne.1,h.q.chg a (fun k b=>(h.qs k b).2.1),h.l.chg a (fun k b=>(h.ls k b).2.1),f,(h.mks.mono (by omega)).chg a (fun e=>h.ne.2.2 e.symm),h.q32,h.l32,h.ge,h.ne,h.qs,h.ls,h.bel.grown d (by have:=h.ge.2.1;have:=h.vis.lt;omega) (fun j g=>by cases g;exact h.ge.2.1)⟩
theorem WKs.Rc (h:WKs Bs w0 w wb sb vb mb qv lv Q n ms lk) {a:List Idl} (e:w.grownBy w' (some mb)) (g:bW w' mb (n+1) a) (f:jY w vb (n+1)):WKs Bs w0 w' wb sb vb mb qv lv Q (n+1) a lk:=by
 have b:=dO e
 exact ⟨h.box.chg b h.ne.2.1,h.q.chg b (fun k d=>(h.qs k d).2.2),h.l.chg b (fun k d=>(h.ls k d).2.2.1),f.chg b h.ne.2.2,g,h.q32,h.l32,h.ge,h.ne,h.qs,h.ls,h.bel.grown e (by have:=h.ge.2.2;have:=h.mks.lt;omega) (fun j i=>by cases i;exact h.ge.2.2)⟩
theorem jY.mono {w:World} {b n n':Nat} (h:jY w b n) (d:n≤n'):jY w b n':=by obtain ⟨D,h1,a⟩:=h;exact ⟨D,h1.mono d,a⟩
end
theorem Kn {P:Program} {w:World} {a:Act} {oi:Oper} {t:TypeId} {x:Operand} {e v:Value} (d:oi.op= .build t #[(0,x)]) (hx:a.eval x=e) (b:(Instr.build t #[(0,e)]).run P w= .ok v w):(execOp a.eval oi).run P w= .ok (.value v) w:=by
 simp [execOp,d,hx,b,Result.andThen]
section
variable {Bs:Nat} {w0 w:World} {wb sb vb mb:Nat} {qv lv:Value} {Q:List (Idl × Int)} {n:Nat} {ms:List Idl} {lk:List (Idl × Int)}
theorem JN (h:WKs Bs w0 w wb sb vb mb qv lv Q n ms lk) (hQ:Q.length≤1000000) (x:Idl) (hx:x.length=32) (rb Y cap:Nat) (G:w.rangeAt rb Y (idC x)) (al:rb<Bs) :
  Calls prog 178 #[.pointer (some ⟨wb,0,none⟩),.slice (some ⟨rb,Y,none⟩) 1 cap] w fun e w'=>e= .returned (.tuple #[])∧ ∃ac,WKs Bs w0 w' wb sb vb mb ac lv (Q++[(x,0)]) n ms lk:=by
 obtain ⟨zi,ai,ab⟩:=oP
 obtain ⟨zc,U,ae⟩:=rJ
 have N:=ah cZ
 have ad:rb<w.heap.size:=by have:=h.ge.1;have:=h.box.lt;omega
 have E:=ah h
 have B:=ah hx
 have V:=ah hQ
 obtain ⟨F,A,rfl⟩:=h.q.iK
 obtain ⟨l,g⟩:∃z,idC x=z:=⟨_,rfl⟩
 have W:=ah g
 have J:Hid (l.length=32):=ah (by rw [←g,av,hx])
 have aa:Hid (∀u∈l,u.oneCell'=true):=ah (by rw [←g];exact aJ x)
 have T:(prog.info? 42).map (·.size)=some l.length:=by rw [J.out];exact cZ
 have y:Hid ((chC (x,0)).length=33):=ah (jJ hx)
 rw [g] at G
 have f1:=G
 clear h hQ G g hx
 go_enter func178,ntmps178
 go_wp2_with fail
 refine wp_loop_rounds 2 ?_
 rw [rounds_succ]
 go_upto_region 4 with (first|(refine wpList_load_mid rfl 42 _ rfl rb Y rfl l _ f1 underlying42 rfl T ?_)|(refine aD rfl 42 _ _ rfl zi l rfl rfl 32 J.out ab N.out aa.out ?_;intro wn S P ag))
 have K:Hid (Below w.heap.size w wn.drew):=ah P.drew
 have D:Hid (ak wn.drew w.heap.size 42 l):=ah S
 have C:=ah (E.out.below K.out)
 have b:wn.drew.cell? ⟨wb,1,none⟩=some (.slice F Q.length A)∧wn.drew.rangeAt w.heap.size 0 l:=⟨C.out.cell rfl,D.out.range⟩
 clear S P f1
 refine wrL 11 (fun x=>x.cell? ⟨wb,1,none⟩=some (.slice F Q.length A)∧x.rangeAt w.heap.size 0 l) ?_
 refine WL.tk 0 b ?_
 refine WL.tk 1 b ?_
 refine WL.tk 2 b ?_
 refine WL.tk 3 b ?_
 refine WL.tk 4 b ?_
 refine WL.tk 5 b ?_ (hy:=(fun w' X=>aM 42 _ (X.2) underlying42 rfl T _ rfl rfl))
 refine WL.take (i:=6) (v:=.agg (chC (x,0)).toArray) rfl (by kernel_rfl) (by decide) (by decide +kernel) (by decide +kernel) (fun _ _ _ h=>h) rfl (fun w' _=>Kn rfl rfl (by rw [←W.out];exact KL x B.out w')) b ?_
 simp only [Act.put,nz]
 refine WL.on 7 ?_
 refine aG rfl (.tmp 20) 255 259 rfl (chC (x,0)) zc rfl underlying255 (fun w=>by rw [y.out];kernel_rfl) U (by rw [y.out];omega) (by rw [y.out];omega) ?_
 simp only [Act.put,nz]
 obtain ⟨s,M⟩:∃z,wn.drew=z:=⟨_,rfl⟩
 rw [M] at K D C b ⊢
 have m:Below s.heap.size s (s.alloc (.cells (chC (x,0)).toArray 259)):=bal
 have I:Hid (ak (s.alloc (.cells (chC (x,0)).toArray 259)) s.heap.size 259 (chC (x,0))):=ah (ak.new s 259 (chC (x,0)))
 generalize s.alloc (.cells (chC (x,0)).toArray 259)=R at m I ⊢
 have a:=ah (C.out.below m)
 have t:=ah (D.out.below m)
 have H:R.cell? ⟨wb,1,none⟩=some (.slice F Q.length A)∧R.rangeAt w.heap.size 0 l:=⟨a.out.cell rfl,t.out.range⟩
 clear m b M
 refine ⟨H,?_⟩
 refine WL.on 8 ?_
 refine fV rfl _ _ rfl Bs (.slice F Q.length A) Q.length (chV Q) rfl a.out.q (some ⟨s.heap.size,0,none⟩) 1 1 [(x,0)] rfl rfl (fun r G=>by simp at G;rw [G];exact B.out) (fun _=>⟨_,rfl,fun j u hu=>by
  rw [Addr.add_mid]
  have:chV [(x,0)]=chC (x,0):=by simp [chV]
  rw [this] at hu
  exact I.out.range j u hu⟩) (by have:=V.out;omega) (by have:=a.out.ge.1;have:=a.out.box.lt;omega) ?_
 intro v' O g1 g2 g3
 simp only [Act.put,nz]
 have L:∀k,(Value.slice F Q.length A).ownBlock=some k→k<w.heap.size:=fun k p=>E.out.q.olt k p
 have d:Chg (fun k=>(Value.slice F Q.length A).ownBlock=some k) R O:=⟨g2.os,g2.tape,g2.output,g2.size,fun k p hn=>g2.block k p fun e=>hn e.symm⟩
 have o:Bs≤R.heap.size:=by have:=a.out.ge.1;have:=a.out.box.lt;omega
 have Z:Hid (WKs Bs w0 (O.setCell ⟨wb,1,none⟩ v') wb sb vb mb v' lv (Q++[(x,0)]) n ms lk):=ah (a.out.Qa d (by rw [List.length_append,vR];exact g1) (fun c hc=>by
  rcases List.mem_append.1 hc with h|h
  ·exact a.out.q32 c h
  ·simp at h;rw [h];exact ⟨B.out,(by show (0:Int)≤0;omega),(by show (0:Int)≤3;omega)⟩) (fun k p=>by
  rcases g3 with e|e
  ·exact .inl (by rw [←e];exact p)
  exact .inr (e k p)) ((Below.refl Bs R).grown g2 o (fun k p=>a.out.q.qb k p)))
 have af:=E.out.box.lt
 have f:O.cell? ⟨wb,1,none⟩=some (.slice F Q.length A)∧O.rangeAt w.heap.size 0 l:=⟨((a.out.box.chg d (fun e=>(a.out.qs _ e).1 rfl)).range 1 _ rfl),(t.out.chg d (fun e=>by have:=L _ e;omega)).range⟩
 have f7:O.frozen? ⟨wb,1,none⟩=false:=by have:=((a.out.box.chg d (fun e=>(a.out.qs _ e).1 rfl)).there 1 (by simp)).2;rwa [Nat.zero_add] at this
 obtain ⟨va,vc,rfl⟩:=g1.iK
 clear g1 g2 g3 d L o H
 refine ⟨f,?_⟩
 refine WL.tk 9 f ?_
 refine WL.tk 10 f ?_
 refine WL.la 11 ?_
 have c7:=f.1
 clear f
 go_wp2_with fail
 rw [rounds_succ]
 go_wp2_with fail
 go_end0
 exact ⟨rfl,_,Z.out⟩
end
theorem Ld (sb a b:Nat) (w:World):(Instr.build 257 #[(0,.iface 25 (.pointer (some ⟨sb,0,none⟩))),(2,.map (some a)),(3,.map (some b))]).run prog w= .ok (.agg #[.iface 25 (.pointer (some ⟨sb,0,none⟩)),.slice none 0 0,.map (some a),.map (some b),.slice none 0 0]) w:=run_build w 257 _ _ (by kernel_rfl)
theorem JI (sb:Nat) (x:Idl) (hx:x.length=32) (rb n cap:Nat) (w:World) (q:w.rangeAt rb n (idC x)) (l:rb<w.heap.size) :
  Calls prog 108 #[.iface 25 (.pointer (some ⟨sb,0,none⟩)),.slice (some ⟨rb,n,none⟩) 1 cap] w fun e w'=>e= .returned (.pointer (some ⟨w.heap.size+1+1,0,none⟩))∧ ∃qv,WKs w.heap.size w w' (w.heap.size+1+1) sb w.heap.size (w.heap.size+1) qv (.slice none 0 0) [(x,0)] 0 [] []:=by
 have r:=@run_makeMap prog
 have s:=ah (Ld sb)
 obtain ⟨W,b⟩:∃W,((w.alloc (.map #[] 0)).alloc (.map #[] 0)).alloc (.cells #[.iface 25 (.pointer (some ⟨sb,0,none⟩)),.slice none 0 0,.map (some w.heap.size),.map (some (w.heap.size+1)),.slice none 0 0] 257)=W:=⟨_,rfl⟩
 have a:Below w.heap.size w W:=by rw [←b];exact (bal.alloc (by simp) _).alloc (by simp;omega) _
 have f:((w.alloc (.map #[] 0)).alloc (.map #[] 0)).heap.size=w.heap.size+1+1:=by simp
 have d:(w.alloc (.map #[] 0)).heap.size=w.heap.size+1:=by simp
 have j:ak W (w.heap.size+1+1) 257 [.iface 25 (.pointer (some ⟨sb,0,none⟩)),.slice none 0 0,.map (some w.heap.size),.map (some (w.heap.size+1)),.slice none 0 0]:=by
  rw [←b,←f]
  exact ak.new _ 257 [.iface 25 (.pointer (some ⟨sb,0,none⟩)),.slice none 0 0,.map (some w.heap.size),.map (some (w.heap.size+1)),.slice none 0 0]
 have i:jY W w.heap.size 0:=by
  rw [←b]
  exact ((JL w).on bal).on bal
 have h:bW W (w.heap.size+1) 0 []:=by
  rw [←b,←d]
  exact (iY (w.alloc (.map #[] 0))).on bal
 have o:Hid (WKs w.heap.size w W (w.heap.size+1+1) sb w.heap.size (w.heap.size+1) (.slice none 0 0) (.slice none 0 0) [] 0 [] []):=ah ⟨j,iD _ _ _,iD _ _ _,i,h,fun c m=>(by cases m),fun c m=>(by cases m),⟨by omega,by omega,by omega⟩,⟨by omega,by omega,by omega⟩,fun k p=>(by cases p),fun k p=>(by cases p),a⟩
 have g:=ah (JN o.out (by simp) x hx rb n cap (ay q a l) l)
 have u:=ah b
 clear b a f d j i h q hx
 rw [List.nil_append] at g
 go_enter func108,ntmps108
 go_wp2_with fail
 rw [u.out]
 refine g.out.mono ?_
 rintro e w1 ⟨rfl,qv,h1⟩
 have t:=ah h1
 clear h1
 go_wp2_with fail
 go_ret
 exact ⟨rfl,_,t.out⟩
def zG (F:List Ob) (c:Idl×Int):Bool:=match gI F c.1 with
 | none=>false
 | some o=>decide (c.2=0∨c.2=o.kind)
def Iy (F:List Ob) (c:Idl×Int) (w:World) (e:Ending) (w':World):Prop:=(∃k s,e= .returned (.tuple #[.agg #[.int .i64 k,.string s],.bool (zG F c)])∧ ∀o,gI F c.1=some o→k=o.kind∧s=o.body)∧Below w.heap.size w w'
theorem MB {F:List Ob} {c:Idl×Int} {w w':World} (h:gI F c.1=none) (hb:Below w.heap.size w w'):Iy F c w (.returned (.tuple #[.agg #[.int .i64 0,.string ⟨#[]⟩],.bool false])) w':=⟨⟨0,⟨#[]⟩,by unfold zG;rw [h],fun o a=>by rw [h] at a;cases a⟩,hb⟩
theorem JJ {F:List Ob} {c:Idl×Int} {o:Ob} {b:Bool} {w w':World} (h:gI F c.1=some o) (d:decide (c.2=0∨c.2=o.kind)=b) (hb:Below w.heap.size w w'):Iy F c w (.returned (.tuple #[.agg #[.int .i64 o.kind,.string o.body],.bool b])) w':=⟨⟨o.kind,o.body,by unfold zG;rw [h,←d],fun e a=>by rw [h] at a;cases a;exact ⟨rfl,rfl⟩⟩,hb⟩
section
variable {Bs:Nat} {w0 w:World} {wb sb vb mb:Nat} {qv lv:Value} {Q:List (Idl × Int)} {n:Nat} {ms:List Idl} {lk:List (Idl × Int)} {F:List Ob}
theorem Mx (h:WKs Bs w0 w wb sb vb mb qv lv Q n ms lk) (c:Idl×Int) (hc:c.1.length=32)
  (HG:Hid (∀V,Below w.heap.size w V→Calls prog 12 #[.pointer (some ⟨sb,0,none⟩),.agg (idC c.1).toArray] V (oW (gI F c.1) V))) :
  Calls prog 223 #[.pointer (some ⟨wb,0,none⟩),.agg (chC c).toArray] w (Iy F c w):=by
 obtain ⟨W,hW⟩:∃W,(w.alloc (.cells (chC c).toArray 259)).alloc (.cells #[.int .i64 0,.string ⟨#[]⟩] 33)=W:=⟨_,rfl⟩
 have az:Below w.heap.size w W:=by rw [←hW];exact bal.alloc (by simp) _
 have a0:ak W w.heap.size 259 (chC c):=by rw [←hW];exact (ak.new w 259 (chC c)).below bal
 have aw:ak W (w.heap.size+1) 33 [.int .i64 0,.string ⟨#[]⟩]:=by
  rw [←hW]
  have:=ak.new (w.alloc (.cells (chC c).toArray 259)) 33 [.int .i64 0,.string ⟨#[]⟩]
  rwa [World.size_alloc] at this
 have M:=ah az
 have ac:=ah a0
 have aE:=ah aw
 have ai:Hid (∀V,Below w.heap.size w V→V.cell? ⟨wb,0,none⟩=some (.iface 25 (.pointer (some ⟨sb,0,none⟩)))):=ah fun V hb=>(h.below hb).cell rfl
 have ao:∀V:World,V.rangeAt w.heap.size 0 (chC c)→V.rangeAt w.heap.size 0 (idC c.1)∧V.cell? ⟨w.heap.size,32,none⟩=some (.int .i64 c.2):=fun V hr=>⟨fun j u hu=>hr j u (by unfold chC;rw [List.getElem?_append_left (List.getElem?_eq_some_iff.1 hu).1];exact hu),by
  have:=hr 32 (.int .i64 c.2) (by unfold chC;rw [List.getElem?_append_right (by rw [av,hc];omega),av,hc];rfl)
  rwa [Nat.zero_add] at this⟩
 have K:=ah ao
 have ax:(prog.info? 42).map (·.size)=some (idC c.1).length:=by rw [av,hc];exact cZ
 have HW:=ah hW
 have ar:Hid (w.heap.size+1<W.heap.size):=ah aw.lt
 have a7:=ah (fun (w':World) h hb=>MB (F:=F) (c:=c) (w:=w) (w':=w') h hb)
 have ap:=ah (fun o b (w':World) h h2 hb=>JJ (F:=F) (c:=c) (o:=o) (b:=b) (w:=w) (w':=w') h h2 hb)
 have C:=ah (fun V (hb:Below W.heap.size W V)=>HG.out V (M.out.trans (hb.mono M.out.size)))
 unfold oW at C
 clear h hc hW a0 aw az ao HG
 generalize a5:chC c=cc at ac K HW ⊢
 generalize a4:idC c.1=ci at K ax C
 clear a5 a4
 have a8:∀(a:Addr) (w:World),(method 440 25 (.pointer (some a)) "Get").run prog w= .ok (12,.pointer (some a)) w:=fun a w=>by kernel_rfl
 have A:Hid (∀V,Below W.heap.size W V→V.cell? ⟨wb,0,none⟩=some (.iface 25 (.pointer (some ⟨sb,0,none⟩)))∧V.rangeAt w.heap.size 0 ci):=ah fun V hb=>⟨ai.out V (M.out.trans (hb.mono M.out.size)),(K.out V (ac.out.below hb).range).1⟩
 have aq:Hid (∀V,Below W.heap.size W V→V.cell? ⟨w.heap.size,32,none⟩=some (.int .i64 c.2)):=ah fun V hb=>(K.out V (ac.out.below hb).range).2
 clear ai K
 go_enter func223,ntmps223
 go_upto_region 1 with fail
 rw [HW.out]
 cases hf:gI F c.1 with
 | none =>
  rw [hf] at C
  dsimp only at C
  have an:=ah hf
  clear hf
  have p:=A.out W.drew (Below.refl _ _).drew
  refine wrL 12 (fun x=>x.cell? ⟨wb,0,none⟩=some (.iface 25 (.pointer (some ⟨sb,0,none⟩)))∧x.rangeAt w.heap.size 0 ci) ?_
  refine WL.tk 0 p ?_
  refine WL.tk 1 p ?_
  refine WL.tk 2 p ?_
  refine WL.tk 3 p ?_
  refine WL.tk 4 p ?_
  refine WL.tk 5 p ?_ (hy:=(fun w' I=>aM 42 _ (I.2) underlying42 rfl ax _ rfl rfl))
  refine WL.tw 6 10 ?_ ?_
  focus
   go_wp2_with fail
   refine (C.out _ (Below.refl _ _).drew).mono ?_
   rintro e G ⟨rfl,al⟩
   have m:=ah (bC al)
   have f:=A.out G m.out
   have y:Hid (Below W.heap.size W (G.alloc (.cells #[.int .i64 0,.string ⟨#[]⟩] 33))):=ah (m.out.alloc m.out.size _)
   have l:=A.out _ y.out
   have q:Hid (ak (G.alloc (.cells #[.int .i64 0,.string ⟨#[]⟩] 33)) G.heap.size 33 (#[.int .i64 0,.string ⟨#[]⟩]:Array Value).toList):=ah (by have:=ak.new G 33 (#[.int .i64 0,.string ⟨#[]⟩]:Array Value).toList;simpa using this)
   have L:Hid (Below G.heap.size G (G.alloc (.cells #[.int .i64 0,.string ⟨#[]⟩] 33))):=ah bal
   have J:=m.out.size
   clear al
   go_wp2
   refine ⟨f,?_⟩
   refine WL.tk 7 f ?_
   refine WL.tk 8 f ?_
   refine WL.tk 9 f ?_
   refine WL.on 10 ?_
   go_wp2
   refine ⟨l,?_⟩
   obtain ⟨P,S⟩:∃P,G.heap.size=P:=⟨_,rfl⟩
   obtain ⟨R,ab⟩:∃R,G.alloc (.cells #[.int .i64 0,.string ⟨#[]⟩] 33)=R:=⟨_,rfl⟩
   rw [ab] at y l q L  ⊢
   rw [S] at q J 
   simp only [S]
   clear S ab f L
  rotate_left
  focus
   have m:Hid (Below W.heap.size W (W.alloc (.cells #[.int .i64 0,.string ⟨#[]⟩] 33)).drew):=ah (bal.drew)
   have ad:ak (W.alloc (.cells #[.int .i64 0,.string ⟨#[]⟩] 33)).drew W.heap.size 33 (#[.int .i64 0,.string ⟨#[]⟩]:Array Value).toList:=(show ak (W.alloc (.cells #[.int .i64 0,.string ⟨#[]⟩] 33)) W.heap.size 33 (#[.int .i64 0,.string ⟨#[]⟩]:Array Value).toList from by have:=ak.new W 33 (#[.int .i64 0,.string ⟨#[]⟩]:Array Value).toList;simpa using this)
   have f:=A.out _ m.out
   go_wp2
   refine ⟨f,?_⟩
   refine WL.on 6 ?_
   go_wp2_with fail
   refine (C.out _ m.out).mono ?_
   rintro e R ⟨rfl,Y⟩
   have q:=ah (ad.below Y)
   have y:=bth m Y
   have l:=A.out _ y.out
   have J:W.heap.size≤W.heap.size:=Nat.le_refl _
   clear Y ad
   go_wp2
   refine ⟨l,?_⟩
   refine WL.tk 7 l ?_
   refine WL.tk 8 l ?_
   refine WL.tk 9 l ?_
   obtain ⟨P,S⟩:∃P,P=W.heap.size:=⟨_,rfl⟩
   rw [←S] at q 
   have J:W.heap.size≤P:=by omega
   simp only [←S]
   clear S f
  all_goals
   refine WL.on 11 ?_
   refine aj rfl 33 _ _ rfl P 0 [.int .i64 0,.string ⟨#[]⟩] rfl rfl 2 rfl (by have:=q.out.there;simpa [] using this) eH (by intro v hv;simp at hv;rcases hv with rfl|rfl<;>rfl) ?_
   simp only [Act.put,nz]
   have t:=ah (below_setCells (B:=W.heap.size) (a:=W) P J [.int .i64 0,.string ⟨#[]⟩] 0 R y.out)
   have X:=ah (q.out.set (us:=[.int .i64 0,.string ⟨#[]⟩]) (by simp []))
   have ag:Hid (Chg (fun k=>k=P) R (R.setCells P 0 [.int .i64 0,.string ⟨#[]⟩])):=ah (fO P [.int .i64 0,.string ⟨#[]⟩] R)
   generalize R.setCells P 0 [.int .i64 0,.string ⟨#[]⟩]=r at t X ag
   have af:=A.out _ t.out
   refine ⟨af,?_⟩
   refine WL.la 12 ?_
   clear af l p q y
  all_goals
   have a3:=X.out.lt
   have Z:=X.out.range
   have c32:=aq.out r t.out
   have T:(prog.info? 33).map (·.size)=some ([.int .i64 0,.string ⟨#[]⟩]:List Value).length:=eH
   have U:=ah (aE.out.below t.out)
   have D:=ah (M.out.trans (t.out.mono M.out.size))
   clear t ag ac
   go_upto_region 2 with fail
   have E:=Z 0 _ rfl
   rw [Nat.zero_add] at E
   have s:Below r.heap.size r r.drew:=(Below.refl _ _).drew
   have d:r.drew.cell? ⟨w.heap.size,32,none⟩=some (.int .i64 c.2)∧r.drew.rangeAt P 0 [.int .i64 0,.string ⟨#[]⟩]∧r.drew.cell? ⟨P,0,none⟩=some (.int .i64 0):=⟨c32,Z,E⟩
   refine wrL 15 (fun x=>x.cell? ⟨w.heap.size,32,none⟩=some (.int .i64 c.2)∧x.rangeAt P 0 [.int .i64 0,.string ⟨#[]⟩]∧x.cell? ⟨P,0,none⟩=some (.int .i64 0)) ?_
   refine WL.tk 0 d ?_ (hy:=(fun w' I=>aM 33 _ (I.2.1) underlying33 rfl T _ rfl rfl))
   refine WL.tk 1 d ?_
   refine WL.tk 2 d ?_
   refine WL.skip (i:=3) rfl (by kernel_rfl) (by decide) (by decide +kernel) (by decide +kernel) (fun _ _ _ h=>h) rfl d ?_
   simp only [Act.put,nz]
   refine WL.skip (i:=4) rfl (by kernel_rfl) (by decide) (by decide +kernel) (by decide +kernel) (fun _ _ _ h=>h) rfl d ?_
   simp only [Act.put,nz]
   refine WL.skip (i:=5) rfl (by kernel_rfl) (by decide) (by decide +kernel) (by decide +kernel) (fun _ _ _ h=>h) rfl d ?_
   simp only [Act.put,nz]
   refine WL.skip (i:=6) rfl (by kernel_rfl) (by decide) (by decide +kernel) (by decide +kernel) (fun _ _ _ h=>h) rfl d ?_
   simp only [Act.put,nz]
   refine WL.skip (i:=7) rfl (by kernel_rfl) (by decide) (by decide +kernel) (by decide +kernel) (fun _ _ _ h=>h) rfl d ?_
   simp only [Act.put,nz]
   refine WL.skip (i:=8) rfl (by kernel_rfl) (by decide) (by decide +kernel) (by decide +kernel) (fun _ _ _ h=>h) rfl d ?_
   simp only [Act.put,nz]
   refine WL.skip (i:=9) rfl (by kernel_rfl) (by decide) (by decide +kernel) (by decide +kernel) (fun _ _ _ h=>h) rfl d ?_
   simp only [Act.put,nz]
   refine WL.skip (i:=10) rfl (by kernel_rfl) (by decide) (by decide +kernel) (by decide +kernel) (fun _ _ _ h=>h) rfl d ?_
   simp only [Act.put,nz]
   refine WL.skip (i:=11) rfl (by kernel_rfl) (by decide) (by decide +kernel) (by decide +kernel) (fun _ _ _ h=>h) rfl d ?_
   simp only [Act.put,nz]
   refine WL.skip (i:=12) rfl (by kernel_rfl) (by decide) (by decide +kernel) (by decide +kernel) (fun _ _ _ h=>h) rfl d ?_
   simp only [Act.put,nz]
   refine WL.tk 13 d ?_
   refine WL.on 14 ?_
   obtain ⟨H,g⟩:∃z,r.drew.setCells (w.heap.size+1) 0 [.int .i64 0,.string ⟨#[]⟩]=z:=⟨_,rfl⟩
   have N:=(U.out.below s).there
   have ae:H.rangeAt (w.heap.size+1) 0 [.int .i64 0,.string ⟨#[]⟩]:=by rw [←g];exact ((U.out.below s).set (us:=[.int .i64 0,.string ⟨#[]⟩]) rfl).range
   have am:Hid (Below w.heap.size w H):=ah (by rw [←g];exact below_setCells _ (by omega) _ _ _ (D.out.trans (s.mono D.out.size)))
   have a1:=ar.out
   have O:H.cell? ⟨w.heap.size,32,none⟩=some (.int .i64 c.2)∧H.rangeAt P 0 [.int .i64 0,.string ⟨#[]⟩]∧H.cell? ⟨P,0,none⟩=some (.int .i64 0):=by
    rw [←g]
    exact ⟨(World.cell?_setCells_out _ _ 0 r.drew _ (fun e _=>absurd e (by show ¬w.heap.size=w.heap.size+1;omega))).trans d.1,World.rangeAt_setCells_apart d.2.1 _ 0 _ (.inl (by omega)),(World.cell?_setCells_out _ _ 0 r.drew _ (fun e _=>absurd e (by show ¬P=w.heap.size+1;omega))).trans d.2.2⟩
   refine aj rfl 33 _ _ rfl (w.heap.size+1) 0 [.int .i64 0,.string ⟨#[]⟩] rfl rfl 2 rfl N eH (by intro v hv;simp at hv;rcases hv with rfl|rfl<;>rfl) ?_
   rw [g]
   simp only [Act.put,nz]
   refine ⟨O,?_⟩
   refine WL.la 15 ?_
   clear O d N g s E
   go_wp2_with fail
   refine aP rfl (w.heap.size+1) 0 rfl [.int .i64 0,.string ⟨#[]⟩] _ ae underlying33 rfl T rfl _ rfl ?_
   exact a7.out H an.out am.out
 | some o =>
  rw [hf] at C
  dsimp only at C
  have an:=ah hf
  have a2:Hid (obC o=[.int .i64 o.kind,.string o.body]):=ah rfl
  rw [a2.out] at C
  clear hf
  have p:=A.out W.drew (Below.refl _ _).drew
  refine wrL 12 (fun x=>x.cell? ⟨wb,0,none⟩=some (.iface 25 (.pointer (some ⟨sb,0,none⟩)))∧x.rangeAt w.heap.size 0 ci) ?_
  refine WL.tk 0 p ?_
  refine WL.tk 1 p ?_
  refine WL.tk 2 p ?_
  refine WL.tk 3 p ?_
  refine WL.tk 4 p ?_
  refine WL.tk 5 p ?_ (hy:=(fun w' I=>aM 42 _ (I.2) underlying42 rfl ax _ rfl rfl))
  refine WL.tw 6 10 ?_ ?_
  focus
   go_wp2_with fail
   refine (C.out _ (Below.refl _ _).drew).mono ?_
   rintro e G ⟨rfl,al⟩
   have m:=ah (bC al)
   have f:=A.out G m.out
   have y:Hid (Below W.heap.size W (G.alloc (.cells #[.int .i64 0,.string ⟨#[]⟩] 33))):=ah (m.out.alloc m.out.size _)
   have l:=A.out _ y.out
   have q:Hid (ak (G.alloc (.cells #[.int .i64 0,.string ⟨#[]⟩] 33)) G.heap.size 33 (#[.int .i64 0,.string ⟨#[]⟩]:Array Value).toList):=ah (by have:=ak.new G 33 (#[.int .i64 0,.string ⟨#[]⟩]:Array Value).toList;simpa using this)
   have L:Hid (Below G.heap.size G (G.alloc (.cells #[.int .i64 0,.string ⟨#[]⟩] 33))):=ah bal
   have J:=m.out.size
   clear al
   go_wp2
   refine ⟨f,?_⟩
   refine WL.tk 7 f ?_
   refine WL.tk 8 f ?_
   refine WL.tk 9 f ?_
   refine WL.on 10 ?_
   go_wp2
   refine ⟨l,?_⟩
   obtain ⟨P,S⟩:∃P,G.heap.size=P:=⟨_,rfl⟩
   obtain ⟨R,ab⟩:∃R,G.alloc (.cells #[.int .i64 0,.string ⟨#[]⟩] 33)=R:=⟨_,rfl⟩
   rw [ab] at y l q L  ⊢
   rw [S] at q J 
   simp only [S]
   clear S ab f L
  rotate_left
  focus
   have m:Hid (Below W.heap.size W (W.alloc (.cells #[.int .i64 0,.string ⟨#[]⟩] 33)).drew):=ah (bal.drew)
   have ad:ak (W.alloc (.cells #[.int .i64 0,.string ⟨#[]⟩] 33)).drew W.heap.size 33 (#[.int .i64 0,.string ⟨#[]⟩]:Array Value).toList:=(show ak (W.alloc (.cells #[.int .i64 0,.string ⟨#[]⟩] 33)) W.heap.size 33 (#[.int .i64 0,.string ⟨#[]⟩]:Array Value).toList from by have:=ak.new W 33 (#[.int .i64 0,.string ⟨#[]⟩]:Array Value).toList;simpa using this)
   have f:=A.out _ m.out
   go_wp2
   refine ⟨f,?_⟩
   refine WL.on 6 ?_
   go_wp2_with fail
   refine (C.out _ m.out).mono ?_
   rintro e R ⟨rfl,Y⟩
   have q:=ah (ad.below Y)
   have y:=bth m Y
   have l:=A.out _ y.out
   have J:W.heap.size≤W.heap.size:=Nat.le_refl _
   clear Y ad
   go_wp2
   refine ⟨l,?_⟩
   refine WL.tk 7 l ?_
   refine WL.tk 8 l ?_
   refine WL.tk 9 l ?_
   obtain ⟨P,S⟩:∃P,P=W.heap.size:=⟨_,rfl⟩
   rw [←S] at q 
   have J:W.heap.size≤P:=by omega
   simp only [←S]
   clear S f
  all_goals
   refine WL.on 11 ?_
   refine aj rfl 33 _ _ rfl P 0 [.int .i64 o.kind,.string o.body] rfl rfl 2 rfl (by have:=q.out.there;simpa [] using this) eH (by intro v hv;simp at hv;rcases hv with rfl|rfl<;>rfl) ?_
   simp only [Act.put,nz]
   have t:=ah (below_setCells (B:=W.heap.size) (a:=W) P J [.int .i64 o.kind,.string o.body] 0 R y.out)
   have X:=ah (q.out.set (us:=[.int .i64 o.kind,.string o.body]) (by simp []))
   have ag:Hid (Chg (fun k=>k=P) R (R.setCells P 0 [.int .i64 o.kind,.string o.body])):=ah (fO P [.int .i64 o.kind,.string o.body] R)
   generalize R.setCells P 0 [.int .i64 o.kind,.string o.body]=r at t X ag
   have af:=A.out _ t.out
   refine ⟨af,?_⟩
   refine WL.la 12 ?_
   clear af l p q y
  all_goals
   have a3:=X.out.lt
   have Z:=X.out.range
   have c32:=aq.out r t.out
   have T:(prog.info? 33).map (·.size)=some ([.int .i64 o.kind,.string o.body]:List Value).length:=eH
   have U:=ah (aE.out.below t.out)
   have D:=ah (M.out.trans (t.out.mono M.out.size))
   clear t ag ac
   go_upto_region 2 with fail
   by_cases aa:c.2=0
   ·have e0:(c.2==0)=true:=by rw [beq_iff_eq];exact aa
    have HK:Hid (decide (c.2=0∨c.2=o.kind)=true):=ah (decide_eq_true (.inl aa))
    clear aa
    have E:=Z 0 _ rfl
    rw [Nat.zero_add] at E
    have s:Below r.heap.size r r.drew:=(Below.refl _ _).drew
    have d:r.drew.cell? ⟨w.heap.size,32,none⟩=some (.int .i64 c.2)∧r.drew.rangeAt P 0 [.int .i64 o.kind,.string o.body]∧r.drew.cell? ⟨P,0,none⟩=some (.int .i64 o.kind):=⟨c32,Z,E⟩
    refine wrL 15 (fun x=>x.cell? ⟨w.heap.size,32,none⟩=some (.int .i64 c.2)∧x.rangeAt P 0 [.int .i64 o.kind,.string o.body]∧x.cell? ⟨P,0,none⟩=some (.int .i64 o.kind)) ?_
    refine WL.tk 0 d ?_ (hy:=(fun w' I=>aM 33 _ (I.2.1) underlying33 rfl T _ rfl rfl))
    refine WL.tk 1 d ?_
    refine WL.tk 2 d ?_
    refine WL.tk 3 d ?_
    refine WL.tk 4 d ?_
    refine WL.tk 5 d ?_
    refine WL.tk 6 d ?_
    refine WL.skip (i:=7) rfl (by kernel_rfl) (by decide) (by decide +kernel) (by decide +kernel) (fun _ _ _ h=>h) rfl d ?_
    simp only [Act.put,nz]
    refine WL.skip (i:=8) rfl (by kernel_rfl) (by decide) (by decide +kernel) (by decide +kernel) (fun _ _ _ h=>h) rfl d ?_
    simp only [Act.put,nz]
    refine WL.skip (i:=9) rfl (by kernel_rfl) (by decide) (by decide +kernel) (by decide +kernel) (fun _ _ _ h=>h) rfl d ?_
    simp only [Act.put,nz]
    refine WL.skip (i:=10) rfl (by kernel_rfl) (by decide) (by decide +kernel) (by decide +kernel) (fun _ _ _ h=>h) rfl d ?_
    simp only [Act.put,nz]
    refine WL.skip (i:=11) rfl (by kernel_rfl) (by decide) (by decide +kernel) (by decide +kernel) (fun _ _ _ h=>h) rfl d ?_
    simp only [Act.put,nz]
    refine WL.tk 12 d ?_
    refine WL.tk 13 d ?_
    refine WL.on 14 ?_
    obtain ⟨H,g⟩:∃z,r.drew.setCells (w.heap.size+1) 0 [.int .i64 o.kind,.string o.body]=z:=⟨_,rfl⟩
    have N:=(U.out.below s).there
    have ae:H.rangeAt (w.heap.size+1) 0 [.int .i64 o.kind,.string o.body]:=by rw [←g];exact ((U.out.below s).set (us:=[.int .i64 o.kind,.string o.body]) rfl).range
    have am:Hid (Below w.heap.size w H):=ah (by rw [←g];exact below_setCells _ (by omega) _ _ _ (D.out.trans (s.mono D.out.size)))
    have a1:=ar.out
    have O:H.cell? ⟨w.heap.size,32,none⟩=some (.int .i64 c.2)∧H.rangeAt P 0 [.int .i64 o.kind,.string o.body]∧H.cell? ⟨P,0,none⟩=some (.int .i64 o.kind):=by
     rw [←g]
     exact ⟨(World.cell?_setCells_out _ _ 0 r.drew _ (fun e _=>absurd e (by show ¬w.heap.size=w.heap.size+1;omega))).trans d.1,World.rangeAt_setCells_apart d.2.1 _ 0 _ (.inl (by omega)),(World.cell?_setCells_out _ _ 0 r.drew _ (fun e _=>absurd e (by show ¬P=w.heap.size+1;omega))).trans d.2.2⟩
    refine aj rfl 33 _ _ rfl (w.heap.size+1) 0 [.int .i64 o.kind,.string o.body] rfl rfl 2 rfl N eH (by intro v hv;simp at hv;rcases hv with rfl|rfl<;>rfl) ?_
    rw [g]
    simp only [Act.put,nz]
    refine ⟨O,?_⟩
    refine WL.la 15 ?_
    clear O d N g s E
    go_wp2_with fail
    refine aP rfl (w.heap.size+1) 0 rfl [.int .i64 o.kind,.string o.body] _ ae underlying33 rfl T rfl _ rfl ?_
    exact ap.out o true H an.out HK.out am.out
   have e0:(c.2==0)=false:=by rw [beq_eq_false_iff_ne];exact aa
   obtain ⟨bb,a6⟩:∃z,(c.2==o.kind)=z:=⟨_,rfl⟩
   have HK:Hid (decide (c.2=0∨c.2=o.kind)=bb):=ah (by
    rw [←a6]
    by_cases h:c.2=o.kind
    ·rw [decide_eq_true (.inr h),beq_iff_eq.2 h]
    rw [decide_eq_false (fun h2=>h2.elim aa h),beq_eq_false_iff_ne.2 h])
   clear aa
   have E:=Z 0 _ rfl
   rw [Nat.zero_add] at E
   have s:Below r.heap.size r r.drew:=(Below.refl _ _).drew
   have d:r.drew.cell? ⟨w.heap.size,32,none⟩=some (.int .i64 c.2)∧r.drew.rangeAt P 0 [.int .i64 o.kind,.string o.body]∧r.drew.cell? ⟨P,0,none⟩=some (.int .i64 o.kind):=⟨c32,Z,E⟩
   refine wrL 15 (fun x=>x.cell? ⟨w.heap.size,32,none⟩=some (.int .i64 c.2)∧x.rangeAt P 0 [.int .i64 o.kind,.string o.body]∧x.cell? ⟨P,0,none⟩=some (.int .i64 o.kind)) ?_
   refine WL.tk 0 d ?_ (hy:=(fun w' I=>aM 33 _ (I.2.1) underlying33 rfl T _ rfl rfl))
   refine WL.tk 1 d ?_
   refine WL.tk 2 d ?_
   refine WL.tk 3 d ?_
   refine WL.tk 4 d ?_
   refine WL.tk 5 d ?_
   refine WL.tk 6 d ?_
   refine WL.tk 7 d ?_
   refine WL.tk 8 d ?_
   refine WL.tk 9 d ?_
   refine WL.tk 10 d ?_
   refine WL.tk 11 d ?_
   refine WL.tk 12 d ?_
   refine WL.tk 13 d ?_
   refine WL.on 14 ?_
   obtain ⟨H,g⟩:∃z,r.drew.setCells (w.heap.size+1) 0 [.int .i64 o.kind,.string o.body]=z:=⟨_,rfl⟩
   have N:=(U.out.below s).there
   have ae:H.rangeAt (w.heap.size+1) 0 [.int .i64 o.kind,.string o.body]:=by rw [←g];exact ((U.out.below s).set (us:=[.int .i64 o.kind,.string o.body]) rfl).range
   have am:Hid (Below w.heap.size w H):=ah (by rw [←g];exact below_setCells _ (by omega) _ _ _ (D.out.trans (s.mono D.out.size)))
   have a1:=ar.out
   have O:H.cell? ⟨w.heap.size,32,none⟩=some (.int .i64 c.2)∧H.rangeAt P 0 [.int .i64 o.kind,.string o.body]∧H.cell? ⟨P,0,none⟩=some (.int .i64 o.kind):=by
    rw [←g]
    exact ⟨(World.cell?_setCells_out _ _ 0 r.drew _ (fun e _=>absurd e (by show ¬w.heap.size=w.heap.size+1;omega))).trans d.1,World.rangeAt_setCells_apart d.2.1 _ 0 _ (.inl (by omega)),(World.cell?_setCells_out _ _ 0 r.drew _ (fun e _=>absurd e (by show ¬P=w.heap.size+1;omega))).trans d.2.2⟩
   refine aj rfl 33 _ _ rfl (w.heap.size+1) 0 [.int .i64 o.kind,.string o.body] rfl rfl 2 rfl N eH (by intro v hv;simp at hv;rcases hv with rfl|rfl<;>rfl) ?_
   rw [g]
   simp only [Act.put,nz]
   refine ⟨O,?_⟩
   refine WL.la 15 ?_
   clear O d N g s E
   go_wp2_with fail
   refine aP rfl (w.heap.size+1) 0 rfl [.int .i64 o.kind,.string o.body] _ ae underlying33 rfl T rfl _ rfl ?_
   exact ap.out o bb H an.out HK.out am.out
end
def Q0 (F:List Ob) (c:Idl×Int) (Q:List (Idl×Int)) (ms:List Idl) (lk:List (Idl×Int)) (Q':List (Idl×Int)) (a:List Idl) (b:List (Idl×Int)):Prop :=
 (zG F c=false∧Q'=Q∧a=ms∧b=lk++[c])∨(zG F c=true∧c.1∈ms∧Q'=Q∧a=ms∧b=lk) ∨
 (zG F c=true∧c.1∉ms∧a=gJ ms c.1∧b=lk∧ ∃cs,Q'=Q++cs∧cs.length≤40∧ ∀o,gI F c.1=some o→o.kind=1→cs=[])
theorem WKs.more {Bs:Nat} {w0 w:World} {wb sb vb mb:Nat} {qv lv:Value} {Q:List (Idl×Int)} {n n':Nat} {ms:List Idl} {lk:List (Idl×Int)} (h:WKs Bs w0 w wb sb vb mb qv lv Q n ms lk) (a:n≤n'):WKs Bs w0 w wb sb vb mb qv lv Q n' ms lk:=⟨h.box,h.q,h.l,h.vis.mono a,h.mks.mono a,h.q32,h.l32,h.ge,h.ne,h.qs,h.ls,h.bel⟩
section
variable {Bs:Nat} {w0 w:World} {wb sb vb mb:Nat} {qv lv:Value} {Q:List (Idl × Int)} {n:Nat} {ms:List Idl} {lk:List (Idl × Int)} {F:List Ob}
theorem FW (h:WKs Bs w0 w wb sb vb mb qv lv Q n ms lk) (x:Idl) (B:Int) (hx:x.length=32) (h0:0≤B) (h3:B≤3) (hQ:Q.length≤1000000) (hn:n≤1000000) (a5:lk.length≤1000000)
  (HG:Hid (∀(y:Idl),y.length=32→ ∀V,Below Bs w0 V→Calls prog 12 #[.pointer (some ⟨sb,0,none⟩),.agg (idC y).toArray] V (oW (gI F y) V))) :
  Calls prog 179 #[.pointer (some ⟨wb,0,none⟩),.agg (chC (x,B)).toArray] w fun e w'=>e= .returned (.tuple #[])∧ ∃b3 b0 Q' bb a2,WKs Bs w0 w' wb sb vb mb b3 b0 Q' (n+2) bb a2∧Q0 F (x,B) Q ms lk Q' bb a2:=by
 obtain ⟨zc,bu,b8⟩:=rJ
 obtain ⟨W,hW⟩:∃W,w.alloc (.cells (chC (x,B)).toArray 259)=W:=⟨_,rfl⟩
 have a9:Below w.heap.size w W:=by rw [←hW];exact bal
 have bk:ak W w.heap.size 259 (chC (x,B)):=by rw [←hW];exact ak.new w 259 (chC (x,B))
 have aq:=ah bk
 have bj:=ah (h.below a9)
 have Y:=ah h
 have E:=ah hx
 have a3:=ah h0
 have a4:=ah h3
 have b5:=ah hQ
 have bp:=ah hn
 have bt:=ah a5
 have L:Hid ((chC (x,B)).length=33):=ah (jJ hx)
 have bx:=ah (vS (x,B))
 have ae:(prog.info? 259).map (·.size)=some (chC (x,B)).length:=by rw [L.out];exact x9
 have a0:(prog.info? 42).map (·.size)=some (idC x).length:=by rw [av,hx];exact cZ
 have aa:Hid (∀V:World,V.rangeAt w.heap.size 0 (chC (x,B))→V.rangeAt w.heap.size 0 (idC x)):=ah fun V hr j u hu=>hr j u (by unfold chC;rw [List.getElem?_append_left (List.getElem?_eq_some_iff.1 hu).1];exact hu)
 obtain ⟨qa,qc,rfl⟩:=h.q.iK
 obtain ⟨la,lc,rfl⟩:=h.l.iK
 have HW:=ah hW
 have cd:=h.box.lt
 clear h hx h0 h3 hQ hn a5 hW a9 bk
 obtain ⟨J,ao⟩:∃z,chC (x,B)=z:=⟨_,rfl⟩
 have aw:=ah ao
 rw [ao] at aq L bx ae aa HW ⊢
 clear ao
 go_enter func179,ntmps179
 go_upto_region 1 with fail
 rw [HW.out]
 have a:W.drew.cell? ⟨wb,2,none⟩=some (.map (some vb))∧W.drew.rangeAt w.heap.size 0 J:=⟨bj.out.cell rfl,aq.out.range⟩
 refine wrL 5 (fun y=>y.cell? ⟨wb,2,none⟩=some (.map (some vb))∧y.rangeAt w.heap.size 0 J) ?_
 refine WL.tk 0 a ?_
 refine WL.tk 1 a ?_
 refine WL.tk 2 a ?_
 refine WL.tk 3 a ?_
 refine WL.tk 4 a ?_ (hy:=(fun w' m=>aM 259 _ (m.2) underlying259 rfl ae _ rfl rfl))
 refine WL.la 5 ?_
 clear a
 obtain ⟨H,t⟩:∃z,W.drew=z:=⟨_,rfl⟩
 have d:Below W.heap.size W H:=by rw [←t];exact (Below.refl _ _).drew
 simp only [t]
 have D:=ah (bj.out.below d)
 have M:=ah (aq.out.below d)
 clear t d HW
 refine uV rfl _ _ _ 254 4 rfl underlying254 vb n rfl D.out.vis x B E.out a3.out (by have:=a4.out;omega) true (by rw [aw.out];rfl) rfl (by have:=bp.out;unfold maxLen;omega) ?_
 intro w1 g1 g2
 simp only [Act.put,nz]
 have b9:=Y.out.vis.lt
 have S:=ah (D.out.Rb g2 g1)
 have a1:=ah (M.out.chg (dO g2) (by omega))
 clear g1 g2
 have ab:=ah (Mx S.out (x,B) E.out (ah fun V hb=>HG.out x E.out V (S.out.bel.trans (hb.mono (by have:=S.out.ge.1;have:=S.out.box.lt;omega)))))
 have e1:=a1.out.range
 rw [aw.out] at ab
 unfold Iy at ab
 go_wp2_with (refine wpList_load_mid rfl 259 _ rfl w.heap.size 0 rfl J _ e1 underlying259 rfl ae ?_)
 refine ab.out.mono ?_
 rintro e K ⟨⟨k,s,rfl,bf⟩,ax⟩
 have bv:=ah bf
 have bs:=ah (S.out.below ax)
 have bh:=ah (a1.out.below ax)
 clear ax bf e1 ab
 go_upto_region 3 with fail
 have ad:Below K.heap.size K (K.alloc (.cells #[.int .i64 k,.string s] 33)):=bal
 have ar:ak (K.alloc (.cells #[.int .i64 k,.string s] 33)) K.heap.size 33 [.int .i64 k,.string s]:=ak.new K 33 [.int .i64 k,.string s]
 generalize K.alloc (.cells #[.int .i64 k,.string s] 33)=w3 at ad ar ⊢
 have T:=ah (bs.out.below ad)
 have X:=ah (bh.out.below ad)
 have bz:=ah ar
 have hP:w.heap.size<K.heap.size:=bh.out.lt
 clear ad ar
 cases U:zG F (x,B) with
 | false =>
  have Z:=ah U
  clear U
  go_upto_region 4 with fail
  have a:w3.drew.cell? ⟨wb,4,none⟩=some (.slice la lk.length lc)∧w3.drew.rangeAt w.heap.size 0 J:=⟨T.out.cell rfl,X.out.range⟩
  refine wrL 10 (fun y=>y.cell? ⟨wb,4,none⟩=some (.slice la lk.length lc)∧y.rangeAt w.heap.size 0 J) ?_
  refine WL.tk 0 a ?_
  refine WL.tk 1 a ?_
  refine WL.tk 2 a ?_
  refine WL.tk 3 a ?_
  refine WL.tk 4 a ?_
  refine WL.tk 5 a ?_ (hy:=(fun w' m=>aM 259 _ (m.2) underlying259 rfl ae _ rfl rfl))
  refine WL.on 6 ?_
  refine aG rfl (.tmp 25) 255 259 rfl J zc rfl underlying255 (fun w=>by rw [L.out];kernel_rfl) bu (by rw [L.out];omega) (by rw [L.out];omega) ?_
  simp only [Act.put,nz]
  have d:Below w3.heap.size w3 w3.drew:=(Below.refl _ _).drew
  obtain ⟨H,t⟩:∃z,w3.drew=z:=⟨_,rfl⟩
  rw [t] at d a ⊢
  have D:=ah (T.out.below d)
  have M:=ah (X.out.below d)
  have I:Below H.heap.size H (H.alloc (.cells J.toArray 259)):=bal
  have a6:Hid (ak (H.alloc (.cells J.toArray 259)) H.heap.size 259 J):=ah (ak.new H 259 J)
  generalize H.alloc (.cells J.toArray 259)=P at I a6 ⊢
  have b:=ah (D.out.below I)
  have ai:=ah (M.out.below I)
  have N:P.cell? ⟨wb,4,none⟩=some (.slice la lk.length lc)∧P.rangeAt w.heap.size 0 J:=⟨b.out.cell rfl,ai.out.range⟩
  clear I a t d
  refine ⟨N,?_⟩
  refine WL.on 7 ?_
  refine fV rfl _ _ rfl Bs (.slice la lk.length lc) lk.length (chV lk) rfl b.out.l (some ⟨H.heap.size,0,none⟩) 1 1 [(x,B)] rfl rfl (fun r hr=>by simp at hr;rw [hr];exact E.out) (fun _=>⟨_,rfl,fun j u hu=>by
   rw [Addr.add_mid]
   have:chV [(x,B)]=J:=by rw [←aw.out];simp [chV]
   rw [this] at hu
   exact a6.out.range j u hu⟩) (by have:=bt.out;omega) (by have:=b.out.ge.1;have:=b.out.box.lt;omega) ?_
  intro v' O g1 g2 g3
  simp only [Act.put,nz]
  have ba:∀k,(Value.slice la lk.length lc).ownBlock=some k→k<w.heap.size:=fun k G=>Y.out.l.olt k G
  have f:Chg (fun k=>(Value.slice la lk.length lc).ownBlock=some k) P O:=⟨g2.os,g2.tape,g2.output,g2.size,fun k G hn=>g2.block k G fun e=>hn e.symm⟩
  have C:Bs≤P.heap.size:=by have:=b.out.ge.1;have:=b.out.box.lt;omega
  have az:Hid (WKs Bs w0 (O.setCell ⟨wb,4,none⟩ v') wb sb vb mb (.slice qa Q.length qc) v' Q (n+1) ms (lk++[(x,B)])):=ah (b.out.Rh f (by rw [List.length_append,vR];exact g1) (fun c hc=>by
   rcases List.mem_append.1 hc with h|h
   ·exact b.out.l32 c h
   ·simp at h;rw [h];exact ⟨E.out,a3.out,a4.out⟩) (fun k G=>by
   rcases g3 with e|e
   ·exact .inl (by rw [←e];exact G)
   exact .inr (e k G)) ((Below.refl Bs P).grown g2 C (fun k G=>b.out.l.qb k G)))
  have p:O.cell? ⟨wb,4,none⟩=some (.slice la lk.length lc)∧O.rangeAt w.heap.size 0 J:=⟨((b.out.box.chg f (fun e=>(b.out.ls _ e).1 rfl)).range 4 _ rfl),(ai.out.chg f (fun e=>by have:=ba _ e;omega)).range⟩
  have f7:O.frozen? ⟨wb,4,none⟩=false:=by have:=((b.out.box.chg f (fun e=>(b.out.ls _ e).1 rfl)).there 4 (by simp)).2;rwa [Nat.zero_add] at this
  obtain ⟨va,vc,rfl⟩:=g1.iK
  clear g1 g2 g3 f ba C N
  refine ⟨p,?_⟩
  refine WL.tk 8 p ?_
  refine WL.tk 9 p ?_
  refine WL.la 10 ?_
  have c7:=p.1
  clear p
  go_wp2_with fail
  go_end0
  exact ⟨rfl,_,_,Q,ms,_,az.out.more (by omega),.inl ⟨Z.out,rfl,rfl,rfl⟩⟩
 | true =>
  have Z:=ah U
  clear U
  have A:∀V,bW V mb (n+1) ms→(Instr.lookup 69 (.map (some mb)) (.agg (idC x).toArray) false).run prog V= .ok (.bool (decide (x∈ms))) V:=fun V hs=>by
   have:=hs.1.look underlying69 (qm V) E.out
   unfold gZ at this
   by_cases hm:x∈ms
   ·rw [decide_eq_true hm];rw [if_pos hm] at this;exact this
   rw [decide_eq_false hm];rw [if_neg hm] at this;exact this
  obtain ⟨ci,aE⟩:∃z,idC x=z:=⟨_,rfl⟩
  have br:=ah aE
  rw [aE] at a0 aa A
  obtain ⟨mm,al⟩:∃z,decide (x∈ms)=z:=⟨_,rfl⟩
  rw [al] at A
  have bd:=ah al
  have d:Below w3.heap.size w3 w3.drew:=(Below.refl _ _).drew
  have a:w3.drew.cell? ⟨wb,3,none⟩=some (.map (some mb))∧w3.drew.rangeAt w.heap.size 0 ci∧(Instr.lookup 69 (.map (some mb)) (.agg ci.toArray) false).run prog w3.drew= .ok (.bool mm) w3.drew:=⟨T.out.cell rfl,aa.out _ X.out.range,A _ (T.out.below d).mks⟩
  clear aE al A
  go_upto_region 5 with fail
  refine wrL 8 (fun y=>y.cell? ⟨wb,3,none⟩=some (.map (some mb))∧y.rangeAt w.heap.size 0 ci∧(Instr.lookup 69 (.map (some mb)) (.agg ci.toArray) false).run prog y= .ok (.bool mm) y) ?_
  refine WL.tk 0 a ?_
  refine WL.tk 1 a ?_
  refine WL.tk 2 a ?_
  refine WL.tk 3 a ?_
  refine WL.tk 4 a ?_
  refine WL.tk 5 a ?_ (hy:=(fun w' m=>aM 42 _ (m.2.1) underlying42 rfl a0 _ rfl rfl))
  refine WL.take (i:=6) (v:=.bool mm) rfl (by kernel_rfl) (by decide) (by decide +kernel) (by decide +kernel) (fun _ _ _ h=>h) rfl (fun w' m=>ou rfl rfl rfl m.2.2) a ?_
  simp only [Act.put,nz]
  refine WL.tk 7 a ?_
  refine WL.la 8 ?_
  clear a
  obtain ⟨H,t⟩:∃z,w3.drew=z:=⟨_,rfl⟩
  rw [t] at d
  simp only [t]
  have D:=ah (T.out.below d)
  have M:=ah (X.out.below d)
  have b4:=ah (bz.out.below d)
  clear t d
  cases mm with
  | true =>
   have an:Hid (x∈ms):=ah (of_decide_eq_true bd.out)
   go_wp2_with fail
   go_end0
   exact ⟨rfl,_,_,Q,ms,lk,D.out.more (by omega),.inr (.inl ⟨Z.out,an.out,rfl,rfl,rfl⟩)⟩
  | false =>
   have an:Hid (x∉ms):=ah (of_decide_eq_false bd.out)
   go_upto_region 6 with fail
   have a:H.drew.cell? ⟨wb,3,none⟩=some (.map (some mb))∧H.drew.rangeAt w.heap.size 0 ci:=⟨D.out.cell rfl,aa.out _ M.out.range⟩
   refine wrL 6 (fun y=>y.cell? ⟨wb,3,none⟩=some (.map (some mb))∧y.rangeAt w.heap.size 0 ci) ?_
   refine WL.tk 0 a ?_
   refine WL.tk 1 a ?_
   refine WL.tk 2 a ?_
   refine WL.tk 3 a ?_
   refine WL.tk 4 a ?_
   refine WL.tk 5 a ?_ (hy:=(fun w' m=>aM 42 _ (m.2) underlying42 rfl a0 _ rfl rfl))
   refine WL.la 6 ?_
   clear a
   have d:Below H.heap.size H H.drew:=(Below.refl _ _).drew
   obtain ⟨we,ap⟩:∃z,H.drew=z:=⟨_,rfl⟩
   rw [ap] at d
   simp only [ap]
   have ac:=ah (D.out.below d)
   have b6:=ah (b4.out.below d)
   clear ap d
   refine bZ rfl _ _ _ 69 4 rfl underlying69 mb (n+1) (gZ ms) rfl ac.out.mks.1 x E.out true (by rw [br.out];rfl) rfl (by have:=bp.out;unfold maxLen;omega) ?_
   intro wf g1 g2
   simp only [Act.put,nz]
   have b1:=Y.out.mks.lt
   have bi:=ah (ac.out.Rc g2 (ac.out.mks.add E.out g1) (ac.out.vis.mono (by omega)))
   have a8:=ah (b6.out.chg (dO g2) (by omega))
   clear g1 g2 b1
   go_upto_region 7 with fail
   have bo:=ah (fun V=>zF k s V)
   unfold Oa at bo
   have h2:(prog.info? 33).map (·.size)=some ([.int .i64 k,.string s]:List Value).length:=eH
   have a:wf.drew.cell? ⟨wb,1,none⟩=some (.slice qa Q.length qc)∧wf.drew.rangeAt K.heap.size 0 [.int .i64 k,.string s]:=⟨bi.out.cell rfl,a8.out.range⟩
   refine wrL 10 (fun y=>y.cell? ⟨wb,1,none⟩=some (.slice qa Q.length qc)∧y.rangeAt K.heap.size 0 [.int .i64 k,.string s]) ?_
   refine WL.tk 0 a ?_
   refine WL.tk 1 a ?_
   refine WL.tk 2 a ?_
   refine WL.tk 3 a ?_
   refine WL.tk 4 a ?_
   refine WL.tk 5 a ?_ (hy:=(fun w' m=>aM 33 _ (m.2) underlying33 rfl h2 _ rfl rfl))
   refine WL.on 6 ?_
   go_wp2_with fail
   refine (bo.out wf.drew).mono ?_
   rintro e P ⟨cv,cs,rfl,am,af,bc,a7,I⟩
   have R:=bC I
   have b:=ah (bi.out.below R)
   have bm:=ah (a8.out.below R)
   have N:P.cell? ⟨wb,1,none⟩=some (.slice qa Q.length qc)∧P.rangeAt K.heap.size 0 [.int .i64 k,.string s]:=⟨b.out.cell rfl,bm.out.range⟩
   obtain ⟨ca,cb,rfl⟩:=am.iK
   have b7:=ah am
   have ag:=ah af
   have b2:=ah a7
   have be:=ah bc
   clear I R a am af a7 bc
   go_wp2_with fail
   refine ⟨N,?_⟩
   refine WL.on 7 ?_
   refine fV rfl _ _ rfl Bs (.slice qa Q.length qc) Q.length (chV Q) rfl b.out.q ca cs.length cb cs rfl rfl (fun r hr=>(ag.out r hr).1) (fun hp=>by
    rcases b7.out.2 with ⟨_,e⟩|⟨g,off,cap,e,_,_,_,_,_,hr⟩
    ·omega
    injection e with e _ _
    exact ⟨_,e,fun j u hu=>by rw [Addr.add_mid];exact hr j u hu⟩) (by have:=b5.out;have:=be.out;omega) (by have:=b.out.ge.1;have:=b.out.box.lt;omega) ?_
   intro v' O g1 g2 g3
   simp only [Act.put,nz]
   have bn:∀k,(Value.slice qa Q.length qc).ownBlock=some k→k<w.heap.size:=fun k G=>Y.out.q.olt k G
   have f:Chg (fun k=>(Value.slice qa Q.length qc).ownBlock=some k) P O:=⟨g2.os,g2.tape,g2.output,g2.size,fun k G hn=>g2.block k G fun e=>hn e.symm⟩
   have C:Bs≤P.heap.size:=by have:=b.out.ge.1;have:=b.out.box.lt;omega
   have az:Hid (WKs Bs w0 (O.setCell ⟨wb,1,none⟩ v') wb sb vb mb v' (.slice la lk.length lc) (Q++cs) (n+1+1) (gJ ms x) lk):=ah (b.out.Qa f (by rw [List.length_append,vR];exact g1) (fun c hc=>by
    rcases List.mem_append.1 hc with h|h
    ·exact b.out.q32 c h
    ·exact ag.out c h) (fun k G=>by
    rcases g3 with e|e
    ·exact .inl (by rw [←e];exact G)
    exact .inr (e k G)) ((Below.refl Bs P).grown g2 C (fun k G=>b.out.q.qb k G)))
   have p:O.cell? ⟨wb,1,none⟩=some (.slice qa Q.length qc)∧O.rangeAt K.heap.size 0 [.int .i64 k,.string s]:=⟨((b.out.box.chg f (fun e=>(b.out.qs _ e).1 rfl)).range 1 _ rfl),(bm.out.chg f (fun e=>by have:=bn _ e;omega)).range⟩
   have f7:O.frozen? ⟨wb,1,none⟩=false:=by have:=((b.out.box.chg f (fun e=>(b.out.qs _ e).1 rfl)).there 1 (by simp)).2;rwa [Nat.zero_add] at this
   obtain ⟨va,vc,rfl⟩:=g1.iK
   clear g1 g2 g3 f bn C N
   refine ⟨p,?_⟩
   refine WL.tk 8 p ?_
   refine WL.tk 9 p ?_
   refine WL.la 10 ?_
   have c7:=p.1
   clear p
   go_wp2_with fail
   go_end0
   exact ⟨rfl,_,_,_,_,lk,az.out,.inr (.inr ⟨Z.out,an.out,rfl,rfl,cs,rfl,be.out,fun o ho h1=>b2.out (by rw [(bv.out o ho).1];exact h1)⟩)⟩
end
def cntF (F:List Ob) (ms:List Idl):Nat:=((F.map idO).filter fun y=>decide (y∉ms)).length
theorem Qt {l:List Idl} {ms:List Idl} {x:Idl}:(l.filter fun y=>decide (y∉gJ ms x)).length≤(l.filter fun y=>decide (y∉ms)).length:=by
 induction l with
 | nil=>simp
 | cons a l ih =>
  rw [List.filter_cons,List.filter_cons]
  by_cases h:a∈ms
  ·rw [if_neg (by simp;exact dU.2 (.inr h)),if_neg (by simp;exact h)];exact ih
  rw [if_pos (show decide (a∉ms)=true by simp;exact h)]
  split
  ·rw [List.length_cons,List.length_cons];omega
  rw [List.length_cons];omega
theorem cnt_lt {l:List Idl} {ms:List Idl} {x:Idl} (hx:x∈l) (d:x∉ms):(l.filter fun y=>decide (y∉gJ ms x)).length<(l.filter fun y=>decide (y∉ms)).length:=by
 induction l with
 | nil=>cases hx
 | cons a l ih =>
  rw [List.filter_cons,List.filter_cons]
  by_cases e:a=x
  ·subst e
   rw [if_neg (by simp;exact dU.2 (.inl rfl)),if_pos (by simp;exact d),List.length_cons]
   have:=Qt (l:=l) (ms:=ms) (x:=a)
   omega
  have b:x∈l:=(List.mem_cons.1 hx).resolve_left (fun h=>e h.symm)
  have:=ih b
  by_cases h:a∈ms
  ·rw [if_neg (by simp;exact dU.2 (.inr h)),if_neg (by simp;exact h)];exact this
  rw [if_pos (show decide (a∉ms)=true by simp;exact h)]
  split
  ·rw [List.length_cons,List.length_cons];omega
  rw [List.length_cons];omega
theorem MR {F:List Ob} {c:Idl×Int} (h:zG F c=true):c.1∈F.map idO:=by
 unfold zG at h
 cases e:gI F c.1 with
 | none=>rw [e] at h;cases h
 | some o =>
  have h1:=List.find?_some e
  have a:=List.mem_of_find?_eq_some e
  simp at h1
  exact List.mem_map.2 ⟨o,a,h1⟩
def CR (Bs:Nat) (w0:World) (wb sb vb mb:Nat) (F:List Ob) (Gd:Prop) (x0:Idl) (K m:Nat) (w:World):Prop :=
 ∃qv lv Q n ms lk,WKs Bs w0 w wb sb vb mb qv lv Q n ms lk∧Q.length+41*cntF F ms=m∧lk.length+m≤K∧n+2*m≤2*K∧(Gd→(∀c∈Q,c=(x0,0))∧lk=[])∧ms.length+cntF F ms≤F.length
def OI (wb:Nat) (w:World):Nat:=match w.cell? ⟨wb,1,none⟩ with
 | some (.slice _ n _)=>n
 | _=>0
theorem Ig:prog.underlying 255=some (.slice (prog.elem 255)):=by kernel_rfl
theorem Di (W:World) (g off n cap:Nat) (h:n+1≤cap+1):(Instr.sliceAt 255 (.slice (some ⟨g,off,none⟩) (n+1) (cap+1)) (some (.int .i64 1)) none none).run prog W= .ok (.slice (some (if cap=0 then (⟨g,off,none⟩:Addr) else ⟨g,off+33,none⟩)) n cap) W:=by
 have b:(sizeOf (prog.elem 255)).run prog W= .ok 33 W:=by kernel_rfl
 rw [run_sliceAt_slice _ _ _ _ _ _ Ig,run_slice_l _ _ _ _ _ Ig _ _ (by omega) (by omega),b]
 show Result.ok _ W=_
 unfold sliced
 rw [show (1:Int).toNat=1 from rfl]
 by_cases a:cap=0
 ·subst a
  obtain rfl:n=0:=by omega
  rfl
 rw [if_neg (by omega),if_neg a]
 simp [Addr.add]
section
variable {Bs:Nat} {w0 w:World} {wb sb vb mb:Nat} {F:List Ob} {Gd:Prop} {x0:Idl} {K m:Nat}
theorem CR.done {Q:List (Idl×Int)} {n:Nat} {ms:List Idl} {lk:List (Idl×Int)} {c:Idl×Int} {w':World} {f b:Value} {Q':List (Idl×Int)} {a:List Idl} {j:List (Idl×Int)}
  (i:Gd→ ∃o,gI F x0=some o∧o.kind=1) (hm:(Q.length+1)+41*cntF F ms=m) (A:lk.length+m≤K) (C:n+2*m≤2*K) (p:Gd→(∀d∈c::Q,d=(x0,0))∧lk=[]) (r:ms.length+cntF F ms≤F.length)
  (h:WKs Bs w0 w' wb sb vb mb f b Q' (n+2) a j) (z:Q0 F c Q ms lk Q' a j):∃v,v<m∧CR Bs w0 wb sb vb mb F Gd x0 K v w':=by
 rcases z with ⟨h1,rfl,rfl,rfl⟩|⟨h1,l,rfl,rfl,rfl⟩|⟨h1,l,rfl,rfl,cs,rfl,y,k⟩
 ·refine ⟨Q'.length+41*cntF F a,by omega,f,b,_,_,_,_,h,rfl,by rw [List.length_append];simp;omega,by omega,fun g=> ?_,r⟩
  obtain ⟨q,x⟩:=p g
  obtain ⟨o,t,_⟩:=i g
  have u:=q c (List.mem_cons_self ..)
  unfold zG at h1
  rw [u,t] at h1
  simp at h1
 ·exact ⟨Q'.length+41*cntF F a,by omega,f,b,_,_,_,_,h,rfl,by omega,by omega,fun g=>⟨fun d hd=>(p g).1 d (List.mem_cons_of_mem _ hd),(p g).2⟩,r⟩
 have B:=cnt_lt (MR h1) l
 refine ⟨(Q++cs).length+41*cntF F (gJ ms c.1),?_,f,b,_,_,_,_,h,rfl,?_,?_,fun g=> ?_,?_⟩
 ·rw [List.length_append];unfold cntF at hm ⊢;omega
 ·rw [List.length_append];unfold cntF at hm ⊢;omega
 ·rw [List.length_append];unfold cntF at hm ⊢;omega
 ·obtain ⟨q,x⟩:=p g
  obtain ⟨o,t,s⟩:=i g
  have u:=q c (List.mem_cons_self ..)
  have:=k o (by rw [u];exact t) s
  rw [this,List.append_nil]
  exact ⟨fun d hd=>q d (List.mem_cons_of_mem _ hd),x⟩
 unfold gJ
 rw [if_neg l,List.length_cons]
 have e:cntF F (gJ ms c.1)=cntF F (c.1::ms):=by unfold gJ;rw [if_neg l]
 unfold cntF at e r ⊢
 omega
theorem JH (h:CR Bs w0 wb sb vb mb F Gd x0 K m w) (hK:K≤400000) (k:Gd→ ∃o,gI F x0=some o∧o.kind=1)
  (HG:Hid (∀(y:Idl),y.length=32→ ∀V,Below Bs w0 V→Calls prog 12 #[.pointer (some ⟨sb,0,none⟩),.agg (idC y).toArray] V (oW (gI F y) V))) :
  Calls prog 109 #[.pointer (some ⟨wb,0,none⟩)] w fun e w'=> ∃b t,e= .returned (.bool b)∧CR Bs w0 wb sb vb mb F Gd x0 K t w'∧t≤m∧(b=false→t<m):=by
 obtain ⟨zc,bk,am⟩:=rJ
 have al:=ah x9
 have a5:=ah k
 have a8:=ah hK
 have a3:=ah h
 clear h k hK
 go_enter func109,ntmps109
 go_wp2_with fail
 go_loopw [] (fun wr=> ∃t,t≤m∧Hid (CR Bs w0 wb sb vb mb F Gd x0 K t wr)) (fun wr=>OI wb wr)
 case atStart=>exact ⟨m,Nat.le_refl _,a3⟩
 obtain ⟨r,rfl⟩:∃r:World,r=wr:=⟨_,rfl⟩
 obtain ⟨t,a2,HR⟩:=hrel
 obtain ⟨qv,lv,Q,n,ms,lk,s,hm,hk,hn,hg,hz⟩:=HR.out
 cases Q with
 | nil =>
  obtain ⟨qa,qc,rfl⟩:=s.q.iK
  have c1:r.cell? ⟨wb,1,none⟩=some (.slice qa 0 qc):=s.cell rfl
  clear s hm hk hn hg hz
  go_wp2_with fail
  go_ret
  exact ⟨true,t,rfl,HR.out,a2,fun h=>by cases h⟩
 | cons c Q =>
  obtain ⟨x,A⟩:=c
  obtain ⟨hx,h0,h3⟩:=s.q32 (x,A) (List.mem_cons_self ..)
  dsimp only at hx h0 h3
  have B:(chC (x,A)).length=33:=jJ hx
  have H:chV ((x,A)::Q)=chC (x,A)++chV Q:=by simp [chV]
  have hq:=s.q
  rw [H,List.length_cons] at hq
  obtain ⟨g,off,cap,rfl,a7,aq,bc,ba,N,hcut⟩:=hq.cut B
  obtain ⟨p,hp⟩:∃p,(if cap=0 then (⟨g,off,none⟩:Addr) else ⟨g,off+33,none⟩)=p:=⟨_,rfl⟩
  have az:=hcut p hp.symm
  have ap:(Value.slice (some p) Q.length cap).ownBlock=(Value.slice (some ⟨g,off,none⟩) (Q.length+1) (cap+1)).ownBlock:=by
   rw [←hp]
   split<;>rfl
  have Y:∀W,(Instr.sliceAt 255 (.slice (some ⟨g,off,none⟩) (Q.length+1) (cap+1)) (some (.int .i64 1)) none none).run prog W= .ok (.slice (some p) Q.length cap) W:=fun W=>by rw [←hp];exact Di W g off Q.length cap (by omega)
  have HM:Hid ((Q.length+1)+41*cntF F ms=t):=ah (by rw [←hm,List.length_cons])
  have C:=ah hk
  have O:=ah hn
  have I:=ah hg
  have aE:=ah hz
  have aw:=ah hx
  have ac:=ah h0
  have ae:=ah h3
  have an:=ah s
  have bd:=ah az
  have a6:=ah ap
  obtain ⟨qn,X⟩:∃z,Q.length+1=z:=⟨_,rfl⟩
  rw [X] at Y
  have a4:=ah Y
  have c1:r.cell? ⟨wb,1,none⟩=some (.slice (some ⟨g,off,none⟩) qn (cap+1)):=by rw [←X];exact s.cell rfl
  have k1:(0:Int)<(qn:Int):=by omega
  have d1:decide ((0:Int)<(qn:Int))=true:=decide_eq_true k1
  have k2:0<qn:=by omega
  have bh:g<r.heap.size:=aq
  have be:=ah X
  have aa:=ah B
  have ag:=ah (vS (x,A))
  have E:(prog.info? 259).map (·.size)=some (chC (x,A)).length:=by rw [B];exact x9
  have bo:=s.box.lt
  have bj:=s.vis.lt
  obtain ⟨G,R⟩:∃z,chC (x,A)=z:=⟨_,rfl⟩
  have ax:=ah R
  rw [R] at N aa ag E
  clear hx h0 h3 H hq hcut ap Y hm hk hn hg hz s az hp R B a7 aq bc ba
  go_upto_region 3 with (first|(refine wpList_load_mid rfl 259 _ rfl g off rfl G _ N underlying259 rfl E ?_)|(refine aD rfl 259 _ _ rfl zc G rfl rfl 33 aa.out am al.out ag.out ?_;intro wn S U br))
  have u:=ah (an.out.below U)
  have bt:=ah S
  have bf:=ah (bd.out.below U)
  have c2:wn.cell? ⟨wb,1,none⟩=some (.slice (some ⟨g,off,none⟩) qn (cap+1)):=by rw [←be.out];exact u.out.cell rfl
  have f2:wn.frozen? ⟨wb,1,none⟩=false:=by have:=(u.out.box.there 1 (by simp)).2;rwa [Nat.zero_add] at this
  have D:Hid (WKs Bs w0 (wn.setCell ⟨wb,1,none⟩ (.slice (some p) Q.length cap)) wb sb vb mb (.slice (some p) Q.length cap) lv Q n ms lk):=ah (u.out.Qa (Chg.refl _ _) bf.out (fun d hd=>u.out.q32 d (List.mem_cons_of_mem _ hd)) (fun j hj=> .inl (a6.out▸hj)) (Below.refl _ _))
  have P:Hid (ak (wn.setCell ⟨wb,1,none⟩ (.slice (some p) Q.length cap)) r.heap.size 259 G):=ah (S.chg (dB (b:=wb)) (by omega))
  clear U S c1 N
  go_upto_region 4 with (refine iW rfl 255 _ _ rfl _ _ rfl rfl _ (a4.out _) ?_)
  obtain ⟨w4,ad⟩:∃z,wn.setCell ⟨wb,1,none⟩ (.slice (some p) Q.length cap)=z:=⟨_,rfl⟩
  rw [ad] at D P ⊢
  clear ad c2 f2
  have l:Below w4.heap.size w4 w4.drew:=(Below.refl _ _).drew
  obtain ⟨bb,M⟩:=(D.out.below l).vis.look underlying254 (qm w4.drew) aw.out ac.out (by have:=ae.out;omega:A≤100)
  rw [ax.out] at M
  have a:w4.drew.cell? ⟨wb,2,none⟩=some (.map (some vb))∧w4.drew.rangeAt r.heap.size 0 G∧(Instr.lookup 254 (.map (some vb)) (.agg G.toArray) false).run prog w4.drew= .ok (.bool bb) w4.drew:=⟨D.out.cell rfl,P.out.range,M⟩
  clear M
  refine wrL 6 (fun y=>y.cell? ⟨wb,2,none⟩=some (.map (some vb))∧y.rangeAt r.heap.size 0 G∧(Instr.lookup 254 (.map (some vb)) (.agg G.toArray) false).run prog y= .ok (.bool bb) y) ?_
  refine WL.tk 0 a ?_
  refine WL.tk 1 a ?_
  refine WL.tk 2 a ?_
  refine WL.tk 3 a ?_
  refine WL.tk 4 a ?_ (hy:=(fun w' T=>aM 259 _ (T.2.1) underlying259 rfl E _ rfl rfl))
  refine WL.take (i:=5) (v:=.bool bb) rfl (by kernel_rfl) (by decide) (by decide +kernel) (by decide +kernel) (fun _ _ _ h=>h) rfl (fun w' T=>ou rfl rfl rfl T.2.2) a ?_
  simp only [Act.put,nz]
  refine WL.la 6 ?_
  clear a
  obtain ⟨wd,J⟩:∃z,w4.drew=z:=⟨_,rfl⟩
  rw [J] at l
  simp only [J]
  have L:=ah (D.out.below l)
  have a1:=ah (P.out.below l)
  clear J l
  cases bb with
  | true =>
   have f:Hid (CR Bs w0 wb sb vb mb F Gd x0 K (Q.length+41*cntF F ms) wd):=ah ⟨_,_,_,_,_,_,L.out,rfl,by have:=HM.out;have:=C.out;omega,by have:=HM.out;have:=O.out;omega,fun k=>⟨fun d hd=>(I.out k).1 d (List.mem_cons_of_mem _ hd),(I.out k).2⟩,aE.out⟩
   have cD:wd.cell? ⟨wb,1,none⟩=some (.slice (some p) Q.length cap):=L.out.cell rfl
   have cO:r.cell? ⟨wb,1,none⟩=some (.slice (some ⟨g,off,none⟩) (Q.length+1) (cap+1)):=an.out.cell rfl
   have ab:OI wb wd<OI wb r:=by unfold OI;rw [cD,cO];exact Nat.lt_succ_self _
   have a9:=ah ab
   clear cD cO ab
   go_wp2_with fail
   go_roundw
   case rel=>exact ⟨_,by have:=HM.out;omega,f⟩
   case measure=>exact a9.out
  | false =>
   have bp:=a8.out
   have ao:=ah (FW L.out x A aw.out ac.out ae.out (by have:=HM.out;have:=C.out;omega) (by have:=O.out;omega) (by have:=C.out;omega) HG)
   rw [ax.out] at ao
   have e0:=a1.out.range
   go_wp2_with (refine wpList_load_mid rfl 259 _ rfl r.heap.size 0 rfl G _ e0 underlying259 rfl E ?_)
   refine ao.out.mono ?_
   rintro e w5 ⟨rfl,bs,bm,Q',bn,bi,af,Z⟩
   obtain ⟨m2,a0,ai⟩:=CR.done a5.out HM.out C.out O.out I.out aE.out af Z
   have f:=ah ai
   have ar:=ah a0
   clear af Z ai a0
   go_wp2_with fail
   go_ret
   exact ⟨false,m2,rfl,f.out,by have:=ar.out;omega,fun _=>by have:=ar.out;omega⟩
end
theorem Pd {l:List (Idl×Int)} (b:∀c∈l,c.1.length=32) {i j:Nat} (hi:i<l.length) (g:j<33):(chC l[i])[j]? = (chV l)[i*33+j]?:=by
 induction l generalizing i with
 | nil=>simp at hi
 | cons a l ih =>
  have d:(chC a).length=33:=jJ (b a (List.mem_cons_self ..))
  have e:chV (a::l)=chC a++chV l:=by simp [chV]
  cases i with
  | zero =>
   rw [e,Nat.zero_mul,Nat.zero_add,List.getElem?_append_left (by omega)]
   rfl
  | succ i =>
   rw [e,List.getElem?_append_right (by rw [d,Nat.succ_mul];omega),d,show (i+1)*33+j-33=i*33+j from by omega,←ih (fun c f=>b c (List.mem_cons_of_mem _ f)) (by simpa using hi)]
   rfl
section
variable {Bs:Nat} {w0 w:World} {wb sb vb mb:Nat} {qv lv:Value} {Q:List (Idl × Int)} {n:Nat} {ms:List Idl} {lk:List (Idl × Int)} {F:List Ob} {Gd:Prop} {x0:Idl} {K m:Nat}
theorem DT (h:WKs Bs w0 w wb sb vb mb qv lv Q n ms lk) (a:ms.length≤100000):Calls prog 110 #[.pointer (some ⟨wb,0,none⟩)] w (mJ ms w):=by
 have c3:w.cell? ⟨wb,3,none⟩=some (.map (some mb)):=h.cell rfl
 have d:=ah (uE mb n ms w h.mks a)
 clear h
 go_enter func110,ntmps110
 go_wp2_with fail
 refine d.out.mono ?_
 rintro e w1 ⟨v,m,rfl,h1⟩
 have b:=ah h1
 clear h1
 go_wp2_with fail
 go_ret
 exact ⟨_,m,rfl,b.out⟩
def PK (lk:List (Idl×Int)) (w:World) (e:Ending) (w':World):Prop:=∃v m,e= .returned v∧dF w' v m∧(lk=[]↔m=[])∧Below w.heap.size w w'
theorem BU (h:WKs Bs w0 w wb sb vb mb qv lv Q n ms lk) (hl:lk.length≤100000):Calls prog 111 #[.pointer (some ⟨wb,0,none⟩)] w (PK lk w):=by
 obtain ⟨zc,am,J⟩:=rJ
 have an:=@run_makeMap prog
 have H:=ah x9
 obtain ⟨la,lc,rfl⟩:=h.l.iK
 obtain ⟨W,R⟩:∃W,w.alloc (.map #[] 0)=W:=⟨_,rfl⟩
 have i:Below w.heap.size w W:=by rw [←R];exact bal
 have I:bW W w.heap.size 0 []:=by rw [←R];exact iY w
 have Y:=ah i
 have ab:=ah I
 have HW:=ah R
 have r:=h.below i
 have c4:W.cell? ⟨wb,4,none⟩=some (.slice la lk.length lc):=r.cell rfl
 have ad:=ah r.l
 have ai:=ah h.l.olt
 have a:=ah h.l32
 have G:=ah hl
 have aw:lk.length≤9223372036854775807:=by omega
 have ag:=ah (fun k S V (hs:bW V w.heap.size k S) (hl:S.length≤100000)=>uE w.heap.size k S V hs hl)
 clear h r R i I
 go_enter func111,ntmps111
 go_upto_region 4 with fail
 rw [HW.out]
 clear HW
 go_wp2_with fail
 go_loopw [14] (fun q wr=> ∃(k:Nat) (S:List Idl),k≤lk.length∧S.length≤k∧q= .int .i64 k∧Hid (bW wr w.heap.size k S)∧Hid (0<k→S≠[])∧Hid (Below w.heap.size w wr)∧Hid (Chg (fun b=>b=w.heap.size) W wr)) (fun q _=>(lk.length-intOf q).toNat)
 case atStart=>exact ⟨0,[],by omega,by simp,rfl,ab,ah (fun h=>absurd h (by omega)),Y,ah (Chg.refl _ _)⟩
 obtain ⟨f,rfl⟩:∃f:World,f=wr:=⟨_,rfl⟩
 obtain ⟨k,S,hk,K,rfl,HS,HN,M,HC⟩:=hrel
 by_cases t:k<lk.length
 ·have hq:=ad.out.chg HC.out (fun g hg=>by have:=ai.out g hg;omega)
  rcases hq.2 with ⟨_,e⟩|⟨g,off,cap,e,aq,ar,ao,ap,aa,T⟩
  ·omega
  injection e with e1 _ e2
  subst e1 e2
  obtain ⟨hx,h0,h3⟩:=a.out lk[k] (List.getElem_mem t)
  have o:(chV lk).length=lk.length*33:=Il (fun c hc=>(a.out c hc).1)
  have P:f.rangeAt g (off+k*33) (chC lk[k]):=fun j u hu=>by
   have hj:j<33:=by have:=(List.getElem?_eq_some_iff.1 hu).1;rw [jJ hx] at this;exact this
   have:=T (k*33+j) u (by rw [←Pd (fun c hc=>(a.out c hc).1) t hj];exact hu)
   rwa [←Nat.add_assoc] at this
  clear T aa hq o
  generalize lk[k]=c at P hx h0 h3
  obtain ⟨x,C⟩:=c
  dsimp only at hx h0 h3
  have L:(prog.info? 259).map (·.size)=some (chC (x,C)).length:=by rw [jJ hx];exact x9
  have ac:(prog.info? 42).map (·.size)=some (idC x).length:=by rw [av,hx];exact cZ
  have v:Hid ((chC (x,C)).length=33):=ah (jJ hx)
  have E:=ah (vS (x,C))
  have d:Hid (∀V:World,V.rangeAt f.heap.size 0 (chC (x,C))→V.rangeAt f.heap.size 0 (idC x)):=ah fun V T j u hu=>T j u (by unfold chC;rw [List.getElem?_append_left (List.getElem?_eq_some_iff.1 hu).1];exact hu)
  have k0:(0:Int)≤k:=by omega
  have k1:(k:Int)<lk.length:=by omega
  have d1:decide ((k:Int)<lk.length)=true:=decide_eq_true k1
  have y:=ah hx
  obtain ⟨cc,N⟩:∃z,chC (x,C)=z:=⟨_,rfl⟩
  rw [N] at P L v E d
  clear N hx h0 h3
  go_upto_region 7 with (first|(refine wpList_load_mid rfl 259 _ rfl g (off+k*33) rfl cc _ P underlying259 rfl L ?_)|(refine aD rfl 259 _ _ rfl zc cc rfl rfl 33 v.out J H.out E.out ?_;intro wn O s ax))
  have m:=ah s
  have A:=ah (HS.out.on s)
  have e0:=d.out wn O.range
  clear s O P
  refine wp_region_lit ?_
  refine aW rfl (.map (some w.heap.size)) (by first|rfl|(go_simp;done)|(go_simp;rfl)) ?_
  simp only [Act.put,nz]
  refine aW rfl (.pointer (some ⟨f.heap.size,0,none⟩)) (by first|rfl|(go_simp;done)|(go_simp;rfl)) ?_
  simp only [Act.put,nz]
  refine wpList_load_mid rfl 42 _ rfl f.heap.size 0 rfl (idC x) _ e0 underlying42 rfl ac ?_
  simp only [Act.put,nz]
  refine bZ rfl _ _ _ 69 4 rfl underlying69 w.heap.size k (gZ S) rfl A.out.1 x y.out true rfl rfl (by have:=G.out;unfold maxLen;omega) ?_
  intro w5 g1 g2
  simp only [Act.put,nz]
  have U:=ah (A.out.add y.out g1)
  have af:=M.out.size
  have X:=ah ((M.out.trans (m.out.mono M.out.size)).grown g2 (by have:=m.out.size;omega) (fun j hj=>by cases hj;exact Nat.le_refl _))
  have Z:Hid (Chg (fun b=>b=w.heap.size) W w5):=ah (HC.out.trans ((Chg.of_below m.out).trans (dO g2)))
  have ae:(gJ S x).length≤k+1:=by
   unfold gJ
   split
   ·omega
   rw [List.length_cons];omega
  clear g1 g2 af e0
  go_wp2_with fail
  go_roundw
  case rel=>exact ⟨k+1,gJ S x,by omega,ae,by go_num,U,ah (fun _=>Iq),X,Z⟩
  case measure=>simp [intOf];omega
 obtain rfl:k=lk.length:=by omega
 have d1:decide ((lk.length:Int)<lk.length)=false:=decide_eq_false (by omega)
 have al:=ah (ag.out lk.length S f HS.out (by have:=G.out;omega))
 have HE:Hid (lk=[]↔S=[]):=ah ⟨fun e=>by
  have:S.length≤0:=by rw [e] at K;exact K
  exact List.eq_nil_of_length_eq_zero (by omega),fun e=>by
  by_cases h:lk=[]
  ·exact h
  exact absurd e (HN.out (by have:lk.length≠0:=fun e=>h (List.eq_nil_of_length_eq_zero e);omega))⟩
 clear HS HN
 go_wp2_with fail
 refine al.out.mono ?_
 rintro e w5 ⟨v5,m5,rfl,D,_,p,_,F⟩
 have B:Hid (PK lk w (.returned v5) w5):=ah ⟨v5,m5,rfl,D,HE.out.trans ⟨fun e=>List.eq_nil_of_length_eq_zero (by rw [p,e];rfl),fun e=>List.eq_nil_of_length_eq_zero (by rw [←p,e];rfl)⟩,M.out.trans (F.mono M.out.size)⟩
 clear D p F
 go_wp2_with fail
 go_ret
 exact B.out
end
theorem MQ {R:Nat→Prop} (h:∃m,R m):∃m,R m∧ ∀k,R k→m≤k:=by
 obtain ⟨m,hm⟩:=h
 induction m using Nat.strongRecOn with
 | _ m ih =>
  by_cases h:∃k,k<m∧R k
  ·obtain ⟨k,b,d⟩:=h
   exact ih k b d
  exact ⟨m,hm,fun k b=>Nat.le_of_not_lt fun a=>h ⟨k,a,b⟩⟩
theorem xV {R:Nat→Prop} (h:∃m,R m):R (Classical.epsilon fun m=>R m∧ ∀k,R k→m≤k)∧ ∀k,R k→(Classical.epsilon fun m=>R m∧ ∀k,R k→m≤k)≤k:=Classical.epsilon_spec (p:=fun m=>R m∧ ∀k,R k→m≤k) (MQ h)
def N9 (F:List Ob) (x:Idl) (w:World) (e:Ending) (w':World):Prop:=∃v1 v2 a,e= .returned (.tuple #[v1,v2])∧dF w' v2 a∧((∃o,gI F x=some o∧o.kind=1)→a=[])∧Below w.heap.size w w'
theorem FY (F:List Ob) (sb:Nat) (x:Idl) (hx:x.length=32) (rb ro cap:Nat) (w:World) (hr:w.rangeAt rb ro (idC x)) (M:rb<w.heap.size) (hF:F.length≤900)
  (HG:Hid (∀(y:Idl),y.length=32→ ∀V,Below w.heap.size w V→Calls prog 12 #[.pointer (some ⟨sb,0,none⟩),.agg (idC y).toArray] V (oW (gI F y) V))) :
  Calls prog 60 #[.iface 25 (.pointer (some ⟨sb,0,none⟩)),.slice (some ⟨rb,ro,none⟩) 1 cap] w (N9 F x w):=by
 have HN:=ah (JI sb x hx rb ro cap w hr M)
 obtain ⟨Gd,n⟩:∃Gd:Prop,(∃o,gI F x=some o∧o.kind=1)=Gd:=⟨_,rfl⟩
 have B:Hid (Gd→ ∃o,gI F x=some o∧o.kind=1):=ah (by rw [←n];exact id)
 have aa:cntF F []≤900:=by
  unfold cntF
  have:=List.length_filter_le (fun y=>decide (y∉([]:List Idl))) (F.map idO)
  rw [List.length_map] at this
  omega
 have A:cntF F []≤F.length:=by
  unfold cntF
  have:=List.length_filter_le (fun y=>decide (y∉([]:List Idl))) (F.map idO)
  rwa [List.length_map] at this
 obtain ⟨K,J⟩:∃K,1+41*cntF F []=K:=⟨_,rfl⟩
 have HK:Hid (K≤40000):=ah (by omega)
 have f:Hid (∀W wb vb mb qv,WKs w.heap.size w W wb sb vb mb qv (.slice none 0 0) [(x,0)] 0 [] []→CR w.heap.size w wb sb vb mb F Gd x K K W):=ah fun W wb vb mb qv h=>⟨_,_,_,_,_,_,h,J,by simp,by omega,fun _=>⟨fun c hc=>by simpa using hc,rfl⟩,by simpa using A⟩
 have S:=ah (fun W wb vb mb m (h:CR w.heap.size w wb sb vb mb F Gd x K m W)=>JH h (by have:=HK.out;omega) B.out HG)
 have U:=ah hF
 have Z:Hid (∀v1 v2 O w',dF w' v2 O→(Gd→O=[])→Below w.heap.size w w'→N9 F x w (.returned (.tuple #[v1,v2])) w'):=ah fun v1 v2 O w' h1 Q h3=>⟨v1,v2,O,rfl,h1,by rw [n];exact Q,h3⟩
 clear hx hr M hF HG n B aa A J
 go_enter func60,ntmps60
 go_wp2_with fail
 refine HN.out.mono ?_
 rintro e w1 ⟨rfl,qv,h1⟩
 have I:=ah (f.out _ _ _ _ _ h1)
 clear h1 HN f
 obtain ⟨wb,i⟩:∃z,w.heap.size+1+1=z:=⟨_,rfl⟩
 obtain ⟨mb,u⟩:∃z,w.heap.size+1=z:=⟨_,rfl⟩
 rw [i,u] at I
 simp only [i]
 clear i u
 go_wp2_with fail
 go_loopw [] (fun wr=>Hid (∃m,CR w.heap.size w wb sb w.heap.size mb F Gd x K m wr)) (fun wr=>Classical.epsilon fun m=>CR w.heap.size w wb sb w.heap.size mb F Gd x K m wr∧ ∀k,CR w.heap.size w wb sb w.heap.size mb F Gd x K k wr→m≤k)
 case atStart=>exact ah ⟨K,I.out⟩
 obtain ⟨C,rfl⟩:∃C:World,C=wr:=⟨_,rfl⟩
 have l:=xV hrel.out
 obtain ⟨m0,j⟩:∃z,(Classical.epsilon fun m=>CR w.heap.size w wb sb w.heap.size mb F Gd x K m C∧ ∀k,CR w.heap.size w wb sb w.heap.size mb F Gd x K k C→m≤k)=z:=⟨_,rfl⟩
 rw [j] at l
 have ac:=ah j
 have ai:=ah l.1
 clear l j hrel
 refine ?_
 go_wp2_with fail
 refine (S.out C wb _ mb m0 ai.out).mono ?_
 rintro e w2 ⟨b,P,rfl,H,X,r⟩
 have a:=ah H
 have ab:=ah r
 clear H r X
 cases b with
 | false =>
  go_wp2_with fail
  go_roundw
  case rel=>exact ah ⟨P,a.out⟩
  rw [ac.out]
  have h1:=(xV (R:=fun m=>CR w.heap.size w wb sb w.heap.size mb F Gd x K m w2) ⟨P,a.out⟩).2 P a.out
  have Q:=ab.out (by trivial)
  exact Nat.lt_of_le_of_lt h1 Q
 | true =>
  obtain ⟨an,am,Q2,n2,al,ao,d,ad,af,T,D,ae⟩:=a.out
  have s:=ah (DT d (by have:=U.out;omega))
  have v:=ah (fun V (hb:Below w2.heap.size w2 V)=>BU (d.below hb) (by have:=HK.out;omega))
  have ag:=ah d.bel
  have Y:=ah (fun g=>(D g).2)
  clear d ad af T D ae
  go_wp2_with fail
  refine s.out.mono ?_
  rintro e w3 ⟨v3,m3,rfl,_,_,_,_,p⟩
  have N:=bth ag p
  have q:=ah (v.out w3 p)
  clear p v s
  go_wp2_with fail
  refine q.out.mono ?_
  rintro e w4 ⟨v4,m4,rfl,E,L,G⟩
  have t:=ah (Z.out v3 v4 m4 w4 E (fun g=>L.1 (Y.out g)) (N.out.trans (G.mono N.out.size)))
  clear E L G
  go_wp2_with fail
  go_ret2
  exact t.out
theorem KP {x:ByteArray} (h:aN x=true):aO [] [(x,zid)]=true:=by
 unfold aO dD
 simp [eF,fB,pO,dP,jQ,mQ,h]
theorem SL.G6 {L:LK} {sy:Nat→Bool} {t l:List Rf} {F:List Ob} {U:List Idl} {c:Nat} {d:ByteArray×Nat} {r:Rf} (h:SL L sy t l F U c) (g:aO t (l++[r])=true) (hd:L 2 bkN=some d):SL (L.put 2 bkN (some (d.1++ofB (kN r),d.2))) sy t (l++[r]) F U (c+1):=by
 obtain ⟨m,hm⟩:=h.bk
 have b:∀x,L.put 2 bkN (some (d.1++ofB (kN r),d.2)) 0 x=L 0 x:=fun x=>LK.aH (by omega)
 have k:=h.fc
 have p:=h.lc
 refine ⟨⟨fun o f=> ?_,fun nm d' a=>h.lo.all nm d' (by rwa [b] at a)⟩,by omega,h.nd,fun y=>by rw [LK.aH (by omega)];exact h.pk y,⟨d.2,?_⟩,by simp;omega,?_,g,fun o f i d' a=>h.uf o f i d' (by rwa [b] at a),h.up,h.s0⟩
 ·obtain ⟨h1,n,j⟩:=h.lo.on o f
  exact ⟨h1,n,by rw [b];exact j⟩
 ·rw [LK.bT]
  rw [hm] at hd
  obtain rfl:=Option.some.inj hd
  dsimp only
  rw [←dX]
  unfold iU
  simp
 rw [LK.aH (fun e=>absurd e.2 (by decide +kernel))];exact h.tm
theorem eP.QU {S:Nat→Prop} {w w':World} (h:eP w) (a:Chg S w w') (hS:∀b,b<5→ ¬S b):eP w':=by
 have e:=h.laid.lt
 have hb:Below 5 w w':=⟨a.os,a.tape,a.output,a.size,fun k d=>a.block k (Nat.lt_of_lt_of_le d e) (hS k d)⟩
 exact h.jX hb (Nat.le_refl _)
section
variable {O:Nat → Prop} {N R M:Nat} {w:World} {q:Int} {L:LK} {sy:Nat → Bool} {B:Sb} {t l:List Rf} {n:Nat} {P:Nat → List Idl} {U:List Idl} {c:Nat} {F:List Ob}
def UpA (O:Nat→Prop) (N R M:Nat) (q:Int) (L:LK) (B:Sb) (t:List Rf) (n:Nat) (P:Nat→List Idl) (c:Nat) (F:List Ob) (b:List Rf) (U':List Idl) (L':LK) (sy':Nat→Bool) (w w':World):Prop :=
 ∃O' a,DV O' N R M w' a.g q L' sy'∧SM O' w' a t b n P U' c∧SL L' sy' t b F U' (c+1)∧a.sb=B.sb∧a.g=B.g∧a.bl=B.bl∧(∀k x,k≠0→ ¬(k=2∧x=bkN)→L' k x=L k x)∧(∀j,O j→O' j)∧(∀j,O' j→O j∨w.heap.size≤j)∧Chg (fun j=> ¬O j∨j∈B.bl) w w'
def rR (O:Nat→Prop) (N R M:Nat) (q:Int) (L:LK) (sy:Nat→Bool) (B:Sb) (t l:List Rf) (n:Nat) (P:Nat→List Idl) (U:List Idl) (c:Nat) (F:List Ob) (r:Rf) (old:Idl) (w:World) (e:Ending) (w':World):Prop :=
 ∃(a:Int) (b:List Rf) (U':List Idl) (L':LK) (sy':Nat→Bool),e= .returned (.int .i64 a)∧UpA O N R M q L B t n P c F b U' L' sy' w w' ∧
  ((a=0∧b=l++[r]∧U'=[]∧sy'=(if U=[] then sy else upN sy 0 true))∨(a≠0∧b=l∧((U'=U∧sy'=sy)∨(U'=[]∧sy'=(if U=[] then sy else upN sy 0 true))))) ∧
  (aN r.1=true→fZ t l r.1=old→(r.2=zid∨ ∃o,gI F r.2=some o∧o.kind=1)→aO t (l++[r])=true→a=0)
theorem tV (hv:DV O N R M w B.g q L sy) (hG:eP w) (h5:∀b∈B.bl,5≤b) (hm:SM O w B t l n P U c) (hl:SL L sy t l F U c) (hN:N+R≤800000) (hU:U.length≤100000) (hc:c≤90) (hM:(ofB (iU t l)).size+81≤M) (bn:M≤1000000) (hq:3*(N*M)+M≤q) (cm:q≤1000000000) (r:Rf) (old:Idl) (hr:r.1.size≤1000) (ax:r.2.length=32) (ai:old.length=32) :
  Calls prog 25 #[.pointer (some ⟨B.sb,0,none⟩),.string r.1,.agg (idC old).toArray,.agg (idC r.2).toArray] w (rR O N R M q L sy B t l n P U c F r old w):=by
 obtain ⟨bz,cD⟩:=dQ
 obtain ⟨W,hW⟩:∃W,(w.alloc (.cells (idC old).toArray 42)).alloc (.cells (idC r.2).toArray 42)=W:=⟨_,rfl⟩
 have bo:Below w.heap.size w W:=by rw [←hW];exact bal.alloc (by simp) _
 have cQ:ak W w.heap.size 42 (idC old):=by rw [←hW];exact (ak.new w 42 (idC old)).below bal
 have cM:ak W (w.heap.size+1) 42 (idC r.2):=by
  rw [←hW]
  have:=ak.new (w.alloc (.cells (idC old).toArray 42)) 42 (idC r.2)
  rwa [World.size_alloc] at this
 obtain ⟨bv,cJ,cN⟩:=fQ hl.ok
 have G:Hid (∀w' (ae:Int),ae≠0→Below w.heap.size w w'→(aN r.1=true→fZ t l r.1=old→(r.2=zid∨ ∃o,gI F r.2=some o∧o.kind=1)→aO t (l++[r])=true→ae=0)→rR O N R M q L sy B t l n P U c F r old w (.returned (.int .i64 ae)) w'):=ah fun w' ae hc hb cd =>
  ⟨ae,l,U,L,sy,rfl,⟨O,B,hv.below hb,hm.below hb,hl.more (by omega),rfl,rfl,rfl,fun _ _ _ _=>rfl,fun _ h=>h,fun _ h=> .inl h,Chg.of_below hb⟩,.inr ⟨hc,rfl,.inl ⟨rfl,rfl⟩⟩,cd⟩
 have cy:=ah bo
 have b6:=ah cQ
 have b7:=ah cM
 have Z:=ah (uh (.slice none 0 0) (.slice none 0 0) [] [] (r.1,zid) W (nP W) hr aV (by simp) (by simp) (hG.below bo).crc (hG.below bo).laid.lt)
 unfold Bg at Z
 have b9:=ah (fun V (hb:Below w.heap.size w V)=>pq (hm.below hb) (by omega) (by omega) r.1 (by unfold maxLen;omega))
 unfold dL at b9
 have cO:=ah (mX (t:=t) (l:=l) (x:=r.1) (fun r hr=>(hm.bk.op.row.ok r hr).2))
 have ab:(prog.info? 42).map (·.size)=some (idC old).length:=by rw [av,ai];exact cZ
 have K:(prog.info? 42).map (·.size)=some (idC r.2).length:=by rw [av,ax];exact cZ
 have ar:=ah (fun W=>gM (fZ t l r.1) old cO.out ai W)
 have af:=ah (fun W=>gM r.2 zid ax aV W)
 have HW:=ah hW
 have a9:aO [] []=true:=Qg
 rw [a9,Bool.true_and] at Z
 clear hW bo cQ cM
 cases an:aN r.1 with
 | false =>
  rw [an] at Z
  have bs:=ah an
  have f:=ah (fun w' hb=>G.out w' 1 (by decide) hb (fun h=>by rw [bs.out] at h;cases h))
  clear hv hG hm hl hN hU hc hM bn hq cm hr ax ai an a9 bv cJ cN h5 G
  generalize idC old=co at b6 ab HW ar ⊢
  generalize idC r.2=ci at b7 K HW af ⊢
  generalize idC zid=cz at cD bz Z af
  go_enter func25,ntmps25
  go_upto_region 1 with fail
  rw [HW.out]
  clear HW
  go_wp2_with fail
  refine Z.out.mono ?_
  rintro e w1 ⟨rfl,ao⟩
  have cf:=bth cy ao
  clear ao
  go_upto_region 4 with fail
  have J:Below w1.heap.size w1 (w1.alloc (.cells #[.slice none 0 0,.slice none 0 0] 51)):=bal
  generalize w1.alloc (.cells #[.slice none 0 0,.slice none 0 0] 51)=w2 at J ⊢
  have a6:=bth cf J
  clear J
  go_wp2_with fail
  go_ret
  exact f.out w2 a6.out
 | true =>
  rw [an] at Z
  have bx:=KP an
  simp only [List.nil_append,bx,↓reduceIte] at Z
  clear bx
  obtain ⟨dm,cU⟩:=hl.bk
  have da:=ah (yU hl.ok (fun r hr=>(hm.bk.op.row.ok r hr).2))
  have bs:=ah an
  have cT:Hid (¬fZ t l r.1=old→ ∀w',Below w.heap.size w w'→rR O N R M q L sy B t l n P U c F r old w (.returned (.int .i64 12)) w'):=ah (fun cY w' hb=>G.out w' 12 (by decide) hb (fun _ h _ _=>absurd h cY))
  have c0:Hid (∀m2:List Idl,((∃o,gI F r.2=some o∧o.kind=1)→m2=[])→m2≠[]→r.2≠zid→ ∀w',Below w.heap.size w w'→rR O N R M q L sy B t l n P U c F r old w (.returned (.int .i64 13)) w'):=ah (fun m2 h1 h2 h3 w' hb=>G.out w' 13 (by decide) hb (fun _ _ h _=>absurd (h1 (h.resolve_left h3)) h2))
  have HG:=ah (fun V (hb:Below w.heap.size w V)=>wR (hv.below hb) (hG.below hb) (hm.below hb) hl (by omega) bn)
  have a8:=ah (fun (rb ro cap:Nat) V (hb:Below w.heap.size w V) (hr:V.rangeAt rb ro (idC r.2)) (cV:rb<V.heap.size)=>FY F B.sb r.2 ax rb ro cap V hr cV (by have:=hl.fc;omega) (ah fun y hy V2 J=>HG.out V2 (hb.trans (J.mono hb.size)) y hy))
  unfold N9 at a8
  have cr:Hid (∀V,Below w.heap.size w V→ ∃OX:Nat→Prop,DV OX N R M V B.g q L sy∧SM OX V B t l n P U c∧(∀j,O j→OX j)∧(∀j,OX j→O j∨w.heap.size≤j)∧ ∀j,w.heap.size≤j→j<V.heap.size→OX j):=ah (fun V hb=>⟨Ou O w V,hv.on hb,(hm.below hb).sub fun j i=> .inl i,fun j i=> .inl i,fun j i=>i.imp id (·.1),fun j h1 h2=> .inr ⟨h1,h2⟩⟩)
  have I:Hid (∀j∈B.bl,O j∧j<w.heap.size):=ah (fun j i=>⟨hm.own j i,hv.olt j (hm.own j i)⟩)
  have cH:=ah hU
  have H5:=ah h5
  have b3:=ah hl
  have ct:=ah hG
  have cF:=ah hv.ko
  have bh:Hid (N+R≤800000∧M≤1000000∧3*(N*M)+M≤q∧q≤1000000000∧(ofB (iU t l)).size+81≤M∧l.length≤c∧r.1.size≤1000∧r.2.length=32∧old.length=32):=ah ⟨hN,bn,hq,cm,hM,hl.lc,hr,ax,ai⟩
  have dc:Hid (l.length≤c):=ah hl.lc
  clear hv hG hm hl hN hU hc hM bn hq cm hr ax ai a9 cU bv cJ cN h5 G HG
  obtain ⟨co,ca⟩:∃z,idC old=z:=⟨_,rfl⟩
  obtain ⟨ci,bi⟩:∃z,idC r.2=z:=⟨_,rfl⟩
  obtain ⟨cz,cq⟩:∃z,idC zid=z:=⟨_,rfl⟩
  obtain ⟨cv,cI⟩:∃z,idC (fZ t l r.1)=z:=⟨_,rfl⟩
  have cA:=ah ca
  have cs:=ah bi
  have b5:Hid (ci.length=32):=ah (by rw [←bi,av];exact bh.out.2.2.2.2.2.2.2.1)
  have c9:Hid (∀v∈ci,v.oneCell'=true):=ah (by rw [←bi];exact aJ _)
  rw [ca] at b6 ab HW ar ⊢
  rw [bi] at b7 K HW af a8 ⊢
  rw [cq] at cD bz Z af
  rw [cI] at b9 ar
  clear ca bi cq cI an
  go_enter func25,ntmps25
  go_upto_region 1 with fail
  rw [HW.out]
  clear HW
  go_wp2_with fail
  refine Z.out.mono ?_
  rintro e w1 ⟨⟨v1,v2,rfl,cg,_,_⟩,ao⟩
  have cf:=bth cy ao
  obtain ⟨a1,c1,cW,_⟩:=cg.tab.open
  obtain ⟨a2,c2,c3,_⟩:=cg.log.open
  subst cW c3
  have X0:=ah (b6.out.below ao)
  have X1:=ah (b7.out.below ao)
  clear ao cg
  go_upto_region 4 with fail
  obtain ⟨w2,cj⟩:∃W,w1.alloc (.cells #[.slice a1 0 c1,.slice a2 1 c2] 51)=W:=⟨_,rfl⟩
  rw [cj]
  have J:Below w1.heap.size w1 w2:=by rw [←cj];exact bal
  have a6:=bth cf J
  replace X0:=ah (X0.out.below J)
  replace X1:=ah (X1.out.below J)
  clear cj J
  go_upto_region 6 with fail
  have a:w2.drew.rangeAt w.heap.size 0 co:=X0.out.range
  refine wrL 4 (fun x=>x.rangeAt w.heap.size 0 co) ?_
  refine WL.tk 0 a ?_
  refine WL.tk 1 a ?_
  refine WL.tk 3 a ?_ (hy:=(fun w' Y=>aM 42 _ (Y) underlying42 rfl ab _ rfl rfl))
  refine WL.on 2 ?_
  go_wp2_with fail
  refine (b9.out w2.drew a6.out.drew).mono ?_
  rintro e w3 ⟨rfl,br⟩
  have bm:=ah (a6.out.trans ((bC br).mono a6.out.size))
  replace X0:=ah (X0.out.below (bC br))
  replace X1:=ah (X1.out.below (bC br))
  have cE:w3.rangeAt w.heap.size 0 co:=X0.out.range
  have cC:=ar.out
  clear br a
  go_wp2_with fail
  refine ⟨cE,?_⟩
  refine WL.la 4 ?_
  by_cases aw:fZ t l r.1=old
  rotate_left
  ·have a0:(fZ t l r.1==old)=false:=by simp [aw]
   rw [a0] at cC
   have f:=ah (cT.out aw _ bm.out)
   clear aw a0
   go_wp2_with fail
   go_ret
   exact f.out
  have a0:(fZ t l r.1==old)=true:=by simp [aw]
  rw [a0] at cC
  have b1:=ah aw
  clear aw a0 cE
  have cx:=af.out
  have cp:=X1.out.range
  cases hz:(r.2==zid) with
  | true =>
   rw [hz] at cx
   clear hz
   go_upto_region 8 with fail
   go_wp2_with (refine wpList_load_mid rfl 42 _ rfl (w.heap.size+1) 0 rfl ci _ cp underlying42 rfl K ?_)
   obtain ⟨OX,be,bj,aa,ac,A⟩:=cr.out w3 bm.out
   have cb:=ah (ng be bj b3.out (by have:=bh.out.1;omega) cH.out)
   have d:Hid ((∀j,O j→OX j)∧(∀j,OX j→O j∨w.heap.size≤j)∧OX w.heap.size∧OX (w.heap.size+1)):=ah ⟨aa,ac,A _ (by omega) (by have h1:=X1.out.lt;omega),A _ (by omega) (by have h1:=X1.out.lt;omega)⟩
   clear be bj aa ac A
   go_wp2_with fail
   refine cb.out.mono ?_
   rintro e S ⟨rfl,L',ag,X,Q,a4,C⟩
   have ce:Hid (eP S):=ah ((ct.out.below bm.out).QU C fun b hb hx=>hx.elim (fun h=>h (d.out.1 b (cF.out b hb))) fun h=>by have:=H5.out b h;omega)
   have Y0:=ah (X0.out.chg C (fun h=>h.elim (fun h=>h d.out.2.2.1) fun h=>by have:=(I.out _ h).2;omega))
   have Y1:=ah (X1.out.chg C (fun h=>h.elim (fun h=>h d.out.2.2.2) fun h=>by have:=(I.out _ h).2;omega))
   have az:Hid (Chg (fun j=> ¬O j∨j∈B.bl) w S):=ah ((Chg.of_below bm.out).trans (C.mono fun j hl i=>i.elim (fun i=> .inl fun ho=>i (d.out.1 j ho)) .inr))
   have cX:=ah ag
   have m:=ah X
   have aE:=ah Q
   have bd:=ah a4
   have p:=bh.out
   obtain ⟨dn,ap⟩:=Q.bk
   have bc:=ah (uL (ag.below (Below.refl _ _).drew) (ce.out.below (Below.refl _ _).drew) (X.below (Below.refl _ _).drew).bk r old p.2.2.2.2.2.2.1 p.2.2.2.2.2.2.2.1 b1.out p.2.2.2.2.2.2.2.2 Q.ok bs.out ap p.2.2.2.2.1 p.2.1 p.2.2.1 p.2.2.2.1)
   have c6:S.cell? ⟨B.sb,0,none⟩=some (.pointer (some ⟨B.ob,0,none⟩)):=X.cell rfl
   have cl:=ah ap
   rw [cA.out,cs.out] at bc
   clear ag X Q a4 C p ap
   go_upto_region 15 with fail
   have a:S.drew.cell? ⟨B.sb,0,none⟩=some (.pointer (some ⟨B.ob,0,none⟩))∧S.drew.rangeAt w.heap.size 0 co∧S.drew.rangeAt (w.heap.size+1) 0 ci:=⟨c6,Y0.out.range,Y1.out.range⟩
   refine wrL 8 (fun x=>x.cell? ⟨B.sb,0,none⟩=some (.pointer (some ⟨B.ob,0,none⟩))∧x.rangeAt w.heap.size 0 co∧x.rangeAt (w.heap.size+1) 0 ci) ?_
   refine WL.tk 0 a ?_
   refine WL.tk 1 a ?_
   refine WL.tk 2 a ?_
   refine WL.tk 3 a ?_
   refine WL.tk 4 a ?_
   refine WL.tk 5 a ?_ (hy:=(fun w' Y=>aM 42 _ (Y.2.1) underlying42 rfl ab _ rfl rfl))
   refine WL.tk 6 a ?_ (hy:=(fun w' Y=>aM 42 _ (Y.2.2) underlying42 rfl K _ rfl rfl))
   refine WL.on 7 ?_
   go_wp2_with fail
   refine bc.out.mono ?_
   rintro e w7 D
   have s:=D.2
   have cc:B.sb≠B.ob:=by
    have:=m.out.nd
    simp only [Sb.bl,List.nodup_cons,List.mem_cons,not_or] at this
    exact this.1.1
   have a5:B.ob∈B.bl:=by simp [Sb.bl]
   have bf:w7.cell? ⟨B.sb,0,none⟩=some (.pointer (some ⟨B.ob,0,none⟩))∧w7.rangeAt w.heap.size 0 co∧w7.rangeAt (w.heap.size+1) 0 ci:=by
    have ai:=(I.out _ a5).2
    have ck:=(m.out.below (Below.refl _ _).drew).box.chg s (fun h=>h.elim (fun h=>h (m.out.own _ (by simp [Sb.bl]))) cc)
    have h0:=(ak.below Y0.out (Below.refl _ _).drew).chg s (fun h=>h.elim (fun h=>h d.out.2.2.1) (fun h=>by omega))
    have h1:=(ak.below Y1.out (Below.refl _ _).drew).chg s (fun h=>h.elim (fun h=>h d.out.2.2.2) (fun h=>by omega))
    exact ⟨ck.range 0 _ rfl,h0.range,h1.range⟩
   have ad:=m.out.bk.ob
   have T:Chg (fun j=> ¬O j∨j∈B.bl) w w7:=(az.out.trans (Chg.of_below (Below.refl _ _).drew)).trans (s.mono fun j hl i=>i.elim (fun i=> .inl fun ho=>i (d.out.1 j ho)) fun h=> .inr (h▸a5))
   have cn:w.heap.size≤S.heap.size:=az.out.size
   cases u:aO t (l++[r]) with
   | true =>
    obtain ⟨⟨rfl,O7,v1,v2,H,E,am,al,a7,bb⟩,_⟩:=(by simpa only [oZ,u,↓reduceIte] using D)
    have f:Hid (rR O N R M q L sy B t l n P U c F r old w (.returned (.int .i64 0)) w7):=ah (by
     refine ⟨0,l++[r],[],_,_,rfl,⟨O7,{ B with vt:=v1,vl:=v2 },H,(SM.zX ((m.out.below (Below.refl _ _).drew).sub am) (s.mono fun j hl i=>i.imp (fun i ho=>(al j ho).elim i (fun h=>absurd h (by omega))) id) E (fun hn k hk aq=> ?_) fun hn k hk aq=> ?_),aE.out.G6 u cl.out,rfl,rfl,rfl,fun k x h0 h2=>(LK.aH h2).trans (bd.out k x h0),fun j i=>am j (d.out.1 j i),fun j i=> ?_,T⟩,.inl ⟨rfl,rfl,rfl,rfl⟩,fun _ _ _ _=>rfl⟩
     ·have h1:=a7 hn k hk
      have h2:=(I.out k aq).2
      have h3:S.heap.size≤k:=h1
      omega
     ·have h1:=bb k hk
      have h2:=(I.out k aq).2
      have h3:S.heap.size≤k:=h1
      omega
     rcases al j i with h|h
     ·exact d.out.2.1 j h
     exact .inr (Nat.le_trans cn h))
    clear D s H E am al a7 bb u T a ad
    go_wp2_with fail
    refine ⟨bf,?_⟩
    refine WL.la 8 ?_
    go_wp2_with fail
    go_ret
    exact f.out
   | false =>
    obtain ⟨⟨rfl,H,E⟩,_⟩:=(by simpa only [oZ,u,Bool.false_eq_true,↓reduceIte] using D)
    have f:Hid (rR O N R M q L sy B t l n P U c F r old w (.returned (.int .i64 18)) w7):=ah (by
     refine ⟨18,l,[],_,_,rfl,⟨OX,B,H,(SM.zX (m.out.below (Below.refl _ _).drew) s E m.out.vt m.out.vl),aE.out.more (by omega),rfl,rfl,rfl,fun k x h0 _=>bd.out k x h0,d.out.1,d.out.2.1,T⟩,.inr ⟨by decide,rfl,.inr ⟨rfl,rfl⟩⟩,fun _ _ _ h=>by rw [u] at h;cases h⟩)
    clear D s H E u T a ad
    go_wp2_with fail
    refine ⟨bf,?_⟩
    refine WL.la 8 ?_
    go_wp2_with fail
    go_ret
    exact f.out
  | false =>
   rw [hz] at cx
   have c5:Hid (r.2≠zid):=ah (by intro e;rw [e] at hz;simp at hz)
   clear hz
   have b0:∀w,(sizeOf 42).run prog w= .ok ci.length w:=by
    rw [b5.out];intro w;kernel_rfl
   obtain ⟨cS,_,_,_,_,_,bu,_⟩:=eu
   have cw:0<ci.length:=by rw [b5.out];omega
   have cG:ci.length≤1000:=by rw [b5.out];omega
   go_upto_region 8 with fail
   go_wp2_with (first|(refine wpList_load_mid rfl 42 _ rfl (w.heap.size+1) 0 rfl ci _ cp underlying42 rfl K ?_)|(refine aG rfl _ 44 42 rfl ci cS rfl underlying44 b0 bu cw cG ?_))
   have a3:Below w3.heap.size w3 (w3.alloc (.cells ci.toArray 42)):=bal
   have ch:=(ak.new w3 42 ci).range
   have b8:w3.heap.size<(w3.alloc (.cells ci.toArray 42)).heap.size:=by simp
   generalize w3.alloc (.cells ci.toArray 42)=w4 at a3 ch b8 ⊢
   have cK:=bth bm a3
   replace X0:=ah (X0.out.below a3)
   replace X1:=ah (X1.out.below a3)
   have b2:=ah (a8.out w3.heap.size 0 1 w4 cK.out ch b8)
   clear a3 ch b8 b0 bu cw cG cp
   go_wp2_with fail
   refine b2.out.mono ?_
   rintro e w5 ⟨y1,y2,m2,rfl,b4,cP,bt⟩
   have bp:=bth cK bt
   replace X0:=ah (X0.out.below bt)
   replace X1:=ah (X1.out.below bt)
   obtain ⟨ya,yc,cR,cL,_⟩:=b4.open
   subst cR
   unfold maxLen at cL
   have c7:=ah cP
   clear bt b4 cP b2
   by_cases ba:m2=[]
   ·have c4:m2.length=0:=by rw [ba];rfl
    rw [c4] at cL ⊢
    clear ba
    obtain ⟨OX,be,bj,aa,ac,A⟩:=cr.out w5 bp.out
    have cb:=ah (ng be bj b3.out (by have:=bh.out.1;omega) cH.out)
    have d:Hid ((∀j,O j→OX j)∧(∀j,OX j→O j∨w.heap.size≤j)∧OX w.heap.size∧OX (w.heap.size+1)):=ah ⟨aa,ac,A _ (by omega) (by have h1:=X1.out.lt;omega),A _ (by omega) (by have h1:=X1.out.lt;omega)⟩
    clear be bj aa ac A
    go_wp2_with fail
    refine cb.out.mono ?_
    rintro e S ⟨rfl,L',ag,X,Q,a4,C⟩
    have ce:Hid (eP S):=ah ((ct.out.below bp.out).QU C fun b hb hx=>hx.elim (fun h=>h (d.out.1 b (cF.out b hb))) fun h=>by have:=H5.out b h;omega)
    have Y0:=ah (X0.out.chg C (fun h=>h.elim (fun h=>h d.out.2.2.1) fun h=>by have:=(I.out _ h).2;omega))
    have Y1:=ah (X1.out.chg C (fun h=>h.elim (fun h=>h d.out.2.2.2) fun h=>by have:=(I.out _ h).2;omega))
    have az:Hid (Chg (fun j=> ¬O j∨j∈B.bl) w S):=ah ((Chg.of_below bp.out).trans (C.mono fun j hl i=>i.elim (fun i=> .inl fun ho=>i (d.out.1 j ho)) .inr))
    have cX:=ah ag
    have m:=ah X
    have aE:=ah Q
    have bd:=ah a4
    have p:=bh.out
    obtain ⟨dn,ap⟩:=Q.bk
    have bc:=ah (uL (ag.below (Below.refl _ _).drew) (ce.out.below (Below.refl _ _).drew) (X.below (Below.refl _ _).drew).bk r old p.2.2.2.2.2.2.1 p.2.2.2.2.2.2.2.1 b1.out p.2.2.2.2.2.2.2.2 Q.ok bs.out ap p.2.2.2.2.1 p.2.1 p.2.2.1 p.2.2.2.1)
    have c6:S.cell? ⟨B.sb,0,none⟩=some (.pointer (some ⟨B.ob,0,none⟩)):=X.cell rfl
    have cl:=ah ap
    rw [cA.out,cs.out] at bc
    clear ag X Q a4 C p ap
    go_upto_region 15 with fail
    have a:S.drew.cell? ⟨B.sb,0,none⟩=some (.pointer (some ⟨B.ob,0,none⟩))∧S.drew.rangeAt w.heap.size 0 co∧S.drew.rangeAt (w.heap.size+1) 0 ci:=⟨c6,Y0.out.range,Y1.out.range⟩
    refine wrL 8 (fun x=>x.cell? ⟨B.sb,0,none⟩=some (.pointer (some ⟨B.ob,0,none⟩))∧x.rangeAt w.heap.size 0 co∧x.rangeAt (w.heap.size+1) 0 ci) ?_
    refine WL.tk 0 a ?_
    refine WL.tk 1 a ?_
    refine WL.tk 2 a ?_
    refine WL.tk 3 a ?_
    refine WL.tk 4 a ?_
    refine WL.tk 5 a ?_ (hy:=(fun w' Y=>aM 42 _ (Y.2.1) underlying42 rfl ab _ rfl rfl))
    refine WL.tk 6 a ?_ (hy:=(fun w' Y=>aM 42 _ (Y.2.2) underlying42 rfl K _ rfl rfl))
    refine WL.on 7 ?_
    go_wp2_with fail
    refine bc.out.mono ?_
    rintro e w7 D
    have s:=D.2
    have cc:B.sb≠B.ob:=by
     have:=m.out.nd
     simp only [Sb.bl,List.nodup_cons,List.mem_cons,not_or] at this
     exact this.1.1
    have a5:B.ob∈B.bl:=by simp [Sb.bl]
    have bf:w7.cell? ⟨B.sb,0,none⟩=some (.pointer (some ⟨B.ob,0,none⟩))∧w7.rangeAt w.heap.size 0 co∧w7.rangeAt (w.heap.size+1) 0 ci:=by
     have ai:=(I.out _ a5).2
     have ck:=(m.out.below (Below.refl _ _).drew).box.chg s (fun h=>h.elim (fun h=>h (m.out.own _ (by simp [Sb.bl]))) cc)
     have h0:=(ak.below Y0.out (Below.refl _ _).drew).chg s (fun h=>h.elim (fun h=>h d.out.2.2.1) (fun h=>by omega))
     have h1:=(ak.below Y1.out (Below.refl _ _).drew).chg s (fun h=>h.elim (fun h=>h d.out.2.2.2) (fun h=>by omega))
     exact ⟨ck.range 0 _ rfl,h0.range,h1.range⟩
    have ad:=m.out.bk.ob
    have T:Chg (fun j=> ¬O j∨j∈B.bl) w w7:=(az.out.trans (Chg.of_below (Below.refl _ _).drew)).trans (s.mono fun j hl i=>i.elim (fun i=> .inl fun ho=>i (d.out.1 j ho)) fun h=> .inr (h▸a5))
    have cn:w.heap.size≤S.heap.size:=az.out.size
    cases u:aO t (l++[r]) with
    | true =>
     obtain ⟨⟨rfl,O7,v1,v2,H,E,am,al,a7,bb⟩,_⟩:=(by simpa only [oZ,u,↓reduceIte] using D)
     have f:Hid (rR O N R M q L sy B t l n P U c F r old w (.returned (.int .i64 0)) w7):=ah (by
      refine ⟨0,l++[r],[],_,_,rfl,⟨O7,{ B with vt:=v1,vl:=v2 },H,(SM.zX ((m.out.below (Below.refl _ _).drew).sub am) (s.mono fun j hl i=>i.imp (fun i ho=>(al j ho).elim i (fun h=>absurd h (by omega))) id) E (fun hn k hk aq=> ?_) fun hn k hk aq=> ?_),aE.out.G6 u cl.out,rfl,rfl,rfl,fun k x h0 h2=>(LK.aH h2).trans (bd.out k x h0),fun j i=>am j (d.out.1 j i),fun j i=> ?_,T⟩,.inl ⟨rfl,rfl,rfl,rfl⟩,fun _ _ _ _=>rfl⟩
      ·have h1:=a7 hn k hk
       have h2:=(I.out k aq).2
       have h3:S.heap.size≤k:=h1
       omega
      ·have h1:=bb k hk
       have h2:=(I.out k aq).2
       have h3:S.heap.size≤k:=h1
       omega
      rcases al j i with h|h
      ·exact d.out.2.1 j h
      exact .inr (Nat.le_trans cn h))
     clear D s H E am al a7 bb u T a ad
     go_wp2_with fail
     refine ⟨bf,?_⟩
     refine WL.la 8 ?_
     go_wp2_with fail
     go_ret
     exact f.out
    | false =>
     obtain ⟨⟨rfl,H,E⟩,_⟩:=(by simpa only [oZ,u,Bool.false_eq_true,↓reduceIte] using D)
     have f:Hid (rR O N R M q L sy B t l n P U c F r old w (.returned (.int .i64 18)) w7):=ah (by
      refine ⟨18,l,[],_,_,rfl,⟨OX,B,H,(SM.zX (m.out.below (Below.refl _ _).drew) s E m.out.vt m.out.vl),aE.out.more (by omega),rfl,rfl,rfl,fun k x h0 _=>bd.out k x h0,d.out.1,d.out.2.1,T⟩,.inr ⟨by decide,rfl,.inr ⟨rfl,rfl⟩⟩,fun _ _ _ h=>by rw [u] at h;cases h⟩)
     clear D s H E u T a ad
     go_wp2_with fail
     refine ⟨bf,?_⟩
     refine WL.la 8 ?_
     go_wp2_with fail
     go_ret
     exact f.out
   have f:=ah (c0.out m2 c7.out ba c5.out _ bp.out)
   have db:(0:Int)<m2.length:=by
    have:m2.length≠0:=fun h=>ba (List.eq_nil_of_length_eq_zero h)
    omega
   have c8:0<m2.length:=by omega
   clear ba
   go_wp2_with fail
   go_ret
   exact f.out
end
theorem gY {S:Nat→Prop} {w0 w w':World} (hb:Below w0.heap.size w0 w) (a:Chg S w w') (hS:∀j,j<w0.heap.size→ ¬S j):Below w0.heap.size w0 w' :=
 hb.trans ⟨a.os,a.tape,a.output,a.size,fun j b=>a.block j (Nat.lt_of_lt_of_le b hb.size) (hS j b)⟩
theorem OH {L:LK} {k:Nat} {x:ByteArray} {v:ByteArray×Nat} (h:L k x=some v):L.put k x (some v)=L:=by
 funext j y
 by_cases e:j=k∧y=x
 ·obtain ⟨rfl,rfl⟩:=e
  rw [LK.bT,h]
 rw [LK.aH e]
theorem LG (sy:Nat→Bool) (b:sy 0=true):SL (lkN.put 2 bkN (some (bk0,bk0.size))) sy [] [] [] [] 0 where
 lo:=⟨fun o a=>(by cases a),fun nm d hd=>by rw [LK.aH (by omega)] at hd;cases hd⟩
 fc:=by simp
 nd:=by simp
 pk:=fun y=>by rw [LK.aH (by omega)];rfl
 bk:=⟨_,LK.bT _ _ _ _⟩
 lc:=by simp
 tm:=by rw [LK.aH (fun e=>absurd e.2 (by decide +kernel))];rfl
 ok:=Qg
 uf:=fun o a=>(by cases a)
 up:=fun x hx=>(by cases hx)
 s0:=fun _=>b
theorem QD:fZ [] [] mnN=zid:=by decide +kernel
theorem QC:fZ [] [rA] mnN=xA:=by decide +kernel
theorem Px:gI [oA] xA=some oA:=by
 unfold gI
 rw [List.find?_cons_of_pos (by rw [idA];simp)]
theorem Rl (W:World) (a:eP W):Calls prog 74 #[.string bk1] W fun e w'=> ∃v,qh v bk1.size W e w'∧qj W w' (.slice none 0 0) v [] [rA]:=by
 have h:=Qc bk1 _ _ W (by have:=QH;omega) a.crc (Nat.lt_of_lt_of_le (by decide) a.laid.lt) Q6 Bl.1 Bl.2 (dG _ (by decide)) QF (dG _ Q8) OA.1 ⟨Mk.1,Mk.2.1,Mk.2.2⟩ (by rw [OA.2];decide +kernel) (by rw [OA.2];exact QM) QE
 rw [OA.2,QH.2] at h
 exact h
theorem EM (w:World) (hG:eP w):Calls prog 6 #[] w fun e w'=>e= .returned (.bool true)∧Below w.heap.size w w':=by
 have h5:=hG.laid.lt
 have cr:=ah (Ep 10000 w hG)
 have A:=ah hG
 have H5:=ah h5
 clear hG h5
 go_enter func6,ntmps6
 go_wp2_with fail
 refine cr.out.mono ?_
 rintro e w1 ⟨rfl,a7,cA⟩
 have N:=Nu (M:=1000) a7 cA H5.out
 have aa:=ah a7.bel
 obtain ⟨g,hg⟩:∃g,w.heap.size+1=g:=⟨_,rfl⟩
 rw [hg] at N
 rw [hg]
 have cj:5≤w1.heap.size:=Nat.le_trans H5.out aa.out.size
 have E:=NT N (A.out.below aa.out) (by omega) rfl rfl (by omega) (by omega) (by decide) (by omega)
 have cP:=ah (sH E N.olt (by omega) (fun y=>by rw [LK.aH (by omega)];rfl))
 have cS:=ah cj
 have c9:=ah N
 clear a7 cA N hg E cj cr
 go_wp2_with fail
 refine cP.out.mono ?_
 rintro e w2 ⟨O2,B,rfl,rfl,Y,bh,cm,b7,ct,P⟩
 have cd:=ah (gY aa.out cm (fun j q L=>L q))
 have bn:∀b∈B.bl,5≤b:=fun b hb=>Nat.le_trans cS.out (P b hb)
 have ae:Hid (∀b∈B.bl,w.heap.size≤b∧b<w2.heap.size):=ah fun b hb=>⟨Nat.le_trans aa.out.size (P b hb),Y.olt b (bh.own b hb)⟩
 have cG:=LG (upN (fun _=>true) 2 true) rfl
 have Q:=ah (Da Y (A.out.below cd.out) bh cG (by omega) (by omega) 1 1 ⟨#[97,98]⟩ (fun _=>by decide) (by omega) (by decide) (by omega) (by omega))
 have bj:Hid ((∀j,j<w.heap.size→O2 j)∧ ∀j,O2 j→j<w2.heap.size):=ah ⟨b7,Y.olt⟩
 have c6:=ah bn
 unfold qd at Q
 have cM:(q8 1&&aB (⟨1,⟨#[97,98]⟩⟩:Ob))=true:=by decide +kernel
 simp only [cM,↓reduceIte] at Q
 have bc:idO (⟨1,⟨#[97,98]⟩⟩:Ob)=xA:=idA
 have b8:=eu
 have cU:=ah (And.intro dQ.1 dQ.2)
 have bv:Hid ((idC zid).toArray.size=32):=ah (by simp [av,aV])
 have bb:Hid ((idC xA).length=32):=ah (by rw [av];exact EW)
 have bz:=ah (aJ xA)
 have cl:=dQ.2
 have ai:=dQ.1
 have r:(prog.info? 42).map (·.size)=some (idC xA).length:=by rw [bb.out];exact cZ
 have c2:∀W,(Instr.build 33 #[(0,.int .i64 1),(1,.string ⟨#[97,98]⟩)]).run prog W= .ok (.agg #[.int .i64 1,.string ⟨#[97,98]⟩]) W:=fun W=>run_build W 33 _ _ (by kernel_rfl)
 obtain ⟨cx,T⟩:∃z,idC xA=z:=⟨_,rfl⟩
 obtain ⟨cz,aw⟩:∃z,idC zid=z:=⟨_,rfl⟩
 have ab:=ah T
 have cR:=ah aw
 rw [bc,T] at Q
 rw [T] at bb bz r
 rw [aw] at cl ai bv
 clear Y bh cG cm b7 ct P bn cM T aw cU b8
 go_upto_region 5 with fail
 go_wp2_with fail
 refine Q.out.mono ?_
 rintro e w3 ⟨rfl,cf⟩
 have co:=ah cf
 clear cf Q
 go_upto_region 6 with (refine aD rfl 42 _ _ rfl cz.toArray cx rfl rfl 32 bb.out bv.out cZ bz.out ?_;intro w4 J U c3)
 obtain ⟨N3,R3,L3,cT,F3,U3,bi,ck,cN,ba,bu,R,be⟩:=co.out
 obtain ⟨rfl,rfl,_,rfl,rfl⟩:F3=[oA]∧U3=[xA]∧True∧L3=(lkN.put 2 bkN (some (bk0,bk0.size))).put 0 (dh xA) (some (iG oA,0))∧cT=upN (upN (fun _=>true) 2 true) 0 false:=by
  rcases R with ⟨_,_,h,_⟩|⟨h1,h2,_,h4,h5⟩
  ·cases h
  rw [bc] at h2 h4
  exact ⟨h1,h2,trivial,h4,h5⟩
 rw [bc] at ba
 have a8:=((cN.mono (N':=2) (R':=4) bi ck (Nat.le_refl _)).on U)
 have bf:SM (Ou O2 w3 w4) w4 B [] [] 0 (upN (fun _=>[]) 1 [xA]) [xA] 3:=(ba.below U).sub (fun b hb=>(.inl hb:Ou O2 w3 w4 b))
 have c7:=ah (gY cd.out be (fun j q L=>L.elim (fun h=>h (bj.out.1 j q)) (fun h=>absurd (ae.out j h).1 (by omega))))
 have cy:=bth c7 U
 have c4:=be.size
 have n:Hid ((∀j,j<w.heap.size→Ou O2 w3 w4 j)∧Ou O2 w3 w4 w3.heap.size∧w3.heap.size∉B.bl):=ah ⟨fun j q=> .inl (bj.out.1 j q),.inr ⟨Nat.le_refl _,J.lt⟩,fun h=>absurd (ae.out _ h).2 (by omega)⟩
 obtain ⟨ib,a2⟩:∃b,w3.heap.size=b:=⟨_,rfl⟩
 generalize Ou O2 w3 w4=O4 at a8 bf n
 rw [a2] at J n
 rw [a2]
 have ce:=ah J
 have b0:SL ((lkN.put 2 bkN (some (bk0,bk0.size))).put 0 (dh xA) (some (iG oA,0))) (upN (upN (fun _=>true) 2 true) 0 false) [] [] [oA] [xA] 3:=bu
 have O:=ah (tV a8 (A.out.below cy.out) c6.out bf b0 (by omega) (by simp) (by omega) (by have:=I4.1;unfold bk0 at this;omega) (by omega) (by decide) (by omega) rA zid (by decide) (by decide) aV)
 unfold rR at O
 simp only [show rA.2=xA from rfl,show rA.1=mnN from rfl] at O
 rw [ab.out,cR.out] at O
 have cv:=J.range
 clear R cN ba bu be U c3 a8 bf b0 c4 a2 J co bi ck
 go_wp2_with (refine wpList_load_mid rfl 42 _ rfl ib 0 rfl cx _ cv underlying42 rfl r ?_)
 refine O.out.mono ?_
 rintro e w5 ⟨c8,l5,U5,L5,c1,rfl,⟨O5,B5,bm,ch,cw,aq,cc,I,cI,az,br,a6⟩,R,K⟩
 obtain rfl:=K Rn QD (.inr ⟨oA,Px,rfl⟩) QM
 obtain ⟨rfl,rfl,rfl⟩:l5=[rA]∧U5=[]∧c1=upN (upN (upN (fun _=>true) 2 true) 0 false) 0 true:=by
  rcases R with ⟨_,h1,h2,h3⟩|⟨h,_⟩
  ·exact ⟨h1,h2,by rw [h3,if_neg (by simp)]⟩
  exact absurd rfl h
 have cW:=ah (gY cy.out a6 (fun j q L=>L.elim (fun h=>h (n.out.1 j q)) (fun h=>absurd (ae.out j h).1 (by omega))))
 have cC:=ah (ce.out.chg a6 (fun h=>h.elim (fun h=>h n.out.2.1) n.out.2.2))
 have p:Hid ((∀j,j<w.heap.size→O5 j)∧O5 ib∧ib∉B5.bl):=ah ⟨fun j q=>az j (n.out.1 j q),az ib n.out.2.1,by rw [I];exact n.out.2.2⟩
 have cL:Hid (∀b∈B5.bl,w.heap.size≤b):=ah (fun b hb=>(ae.out b (I▸hb)).1)
 rw [←aq]
 rw [←cc]
 have cK:=ah (zV bm (ch.more (c':=4) (by omega)) cw (by omega) (by simp))
 have cQ:Hid (∀y,¬(2=2∧y=bkN)→L5 2 y=none):=ah fun y hy=>by
  rw [cI 2 y (by omega) hy,LK.aH (by omega),LK.aH hy];rfl
 clear R K bm ch cw aq cc I cI az br a6 O
 go_wp2_with fail
 refine cK.out.mono ?_
 rintro e w6 ⟨rfl,L6,a9,cq,C,a0,b3,a5⟩
 rw [if_pos rfl] at a9 C
 have b6:=ah (gY cW.out a5 (fun j q L=>L.elim (fun h=>h (p.out.1 j q)) (fun h=>absurd (cL.out j h) (by omega))))
 have cb:=ah (cC.out.chg a5 (fun h=>h.elim (fun h=>h p.out.2.1) p.out.2.2))
 have bt:=ah (Gu a9 (fun k hk=>by
   obtain rfl|rfl|rfl:k=0∨k=1∨k=2:=by omega
   all_goals rfl) (fun k x d hk hd=>by
   obtain rfl|rfl|rfl:k=0∨k=1∨k=2:=by omega
   ·obtain ⟨o,ho,rfl⟩:=C.lo.all x d hd
    exact C.uf o ho (by simp) d hd
   ·rw [C.pk x] at hd;cases hd
   by_cases e:x=bkN
   ·subst e;exact a0 d hd
   rw [b3 2 x (by omega) (fun h=>e h.2),cQ.out x (fun h=>e h.2)] at hd;cases hd) (A.out.below b6.out) (by omega) (by omega))
 have ca:=ah cq
 have S:=ah C
 have cE:=ah a0
 clear a9 cq C a0 b3 a5 cK
 go_wp2_with fail
 refine bt.out.mono ?_
 rintro e w7 ⟨rfl,ax,ac⟩
 have bx:=ah (gY b6.out ac (fun j q L=>L (p.out.1 j q)))
 have b5:=ah (cb.out.chg ac (fun h=>h p.out.2.1))
 have b4:=ah (ca.out.kp ac)
 obtain ⟨n7,F⟩:=S.out.bk
 obtain rfl:n7=bk1.size:=cE.out _ F
 replace F:L6 2 bkN=some (bk1,bk1.size):=F
 have E:=Qw ax (by omega) (s:=bk1) (l:=[rA]) F (A.out.below bx.out) Rl
 rw [OH F] at E
 have ag:=ah (sH E ax.olt (by omega) S.out.pk)
 clear ax ac E F bt
 go_wp2_with fail
 refine ag.out.mono ?_
 rintro e w8 ⟨O8,B8,rfl,cn,a4,bd,Z,c0,cD,cH⟩
 have cF:=ah (gY bx.out Z (fun j q L=>L (p.out.1 j q)))
 have b2:=ah (b5.out.chg Z (fun h=>h p.out.2.1))
 have cs:=ah (b4.out.kp Z)
 have bp:=ah bd
 rw [←cn] at a4
 have G:=ah (wR a4 (A.out.below cF.out) (bd.more (c':=4) (by omega)) S.out (by omega) (by omega) xA EW)
 unfold oW at G
 rw [Px] at G
 dsimp only at G
 rw [ab.out] at G
 have ap:=b2.out.range
 have c5:(prog.info? 33).map (·.size)=some 2:=by kernel_rfl
 have af:=nV oA
 clear cn a4 bd Z c0 cD cH ag
 go_wp2_with (refine wpList_load_mid rfl 42 _ rfl ib 0 rfl cx _ ap underlying42 rfl r ?_)
 refine G.out.mono ?_
 rintro e w9 ⟨rfl,cJ⟩
 have cg:=ah cJ
 clear cJ G ap
 go_upto_region 10 with (refine aD rfl 33 _ _ rfl #[.int .i64 0,.string ⟨#[]⟩] (obC oA) rfl rfl 2 rfl rfl c5 af ?_;intro i u am bo)
 obtain ⟨gb,bs⟩:∃b,w9.heap.size=b:=⟨_,rfl⟩
 rw [bs] at u ⊢
 have H:Below w8.heap.size w8 i:=cg.out.trans (am.mono cg.out.size)
 have al:=bth cF H
 have a1:=b2.out.below H
 have aE:=ah (fun V (hb:Below i.heap.size i V)=>pq ((bp.out.below H).below hb) (by simp) (by simp) mnN (by decide))
 unfold dL at aE
 rw [QC,ab.out] at aE
 have cY:=ah (fun V (hb:Below i.heap.size i V)=>tX ((cs.out.below H).below hb) 1 (by omega) (by decide))
 have b9:=ah u
 have ci:=ah a1
 have he:=kG EW (rfl:xA=xA)
 rw [ab.out] at he
 have a:i.drew.rangeAt ib 0 cx∧i.drew.cell? ⟨gb,1,none⟩=some (.string ⟨#[97,98]⟩):=⟨a1.range,by have:=u.range 1 (.string ⟨#[97,98]⟩) rfl;exact this⟩
 clear H a1 u am bo bs bp cs b4 ca S cE ce cC cb b5 af cl ai c2
 refine wrL 34 (fun x=>x.rangeAt ib 0 cx∧x.cell? ⟨gb,1,none⟩=some (.string ⟨#[97,98]⟩)) ?_
 refine WL.tk 0 a ?_
 refine WL.tk 1 a ?_
 refine WL.tk 2 a ?_
 refine WL.tk 3 a ?_
 refine WL.tk 4 a ?_
 refine WL.tk 5 a ?_
 refine WL.tk 6 a ?_
 refine WL.tk 7 a ?_
 refine WL.tk 8 a ?_
 refine WL.tk 9 a ?_
 refine WL.tk 10 a ?_
 refine WL.tk 11 a ?_
 refine WL.tk 12 a ?_
 refine WL.tk 13 a ?_
 refine WL.tk 14 a ?_
 refine WL.tk 15 a ?_
 refine WL.tk 16 a ?_
 refine WL.tk 17 a ?_
 refine WL.tk 18 a ?_
 refine WL.tk 19 a ?_
 refine WL.tk 20 a ?_
 refine WL.tk 21 a ?_
 refine WL.tk 22 a ?_
 refine WL.tk 23 a ?_
 refine WL.tk 25 a ?_ (hy:=(fun w' cX=>aM 42 _ (cX.1) underlying42 rfl r _ rfl rfl))
 refine WL.on 24 ?_
 go_wp2_with fail
 refine (aE.out i.drew (Below.refl _ _).drew).mono ?_
 rintro e a3 ⟨rfl,ao⟩
 have X:=bC ao
 have D:a3.rangeAt ib 0 cx∧a3.cell? ⟨gb,1,none⟩=some (.string ⟨#[97,98]⟩):=⟨(ci.out.below X).range,by have:=(b9.out.below X).range 1 (.string ⟨#[97,98]⟩) rfl;exact this⟩
 have f:=ah X
 clear ao X a
 go_wp2_with fail
 refine ⟨D,?_⟩
 refine WL.tk 26 D ?_
 refine WL.tk 27 D ?_
 refine WL.tk 28 D ?_
 refine WL.tk 29 D ?_
 refine WL.on 30 ?_
 go_wp2_with fail
 refine (cY.out a3 f.out).mono ?_
 rintro e b1 ⟨v,m,rfl,ar,_,cp,_,t⟩
 obtain ⟨ya,yc,cO,_⟩:=ar.open
 subst cO
 have an:m.length=1:=cp
 have ad:b1.rangeAt ib 0 cx∧b1.cell? ⟨gb,1,none⟩=some (.string ⟨#[97,98]⟩):=⟨(ci.out.below (f.out.trans (t.mono f.out.size))).range,by have:=(b9.out.below (f.out.trans (t.mono f.out.size))).range 1 (.string ⟨#[97,98]⟩) rfl;exact this⟩
 have cV:=ah (al.out.trans ((f.out.trans (t.mono f.out.size)).mono al.out.size))
 rw [an]
 clear D t cp an ar
 go_wp2_with fail
 refine ⟨ad,?_⟩
 refine WL.tk 31 ad ?_
 refine WL.tk 32 ad ?_
 refine WL.tk 33 ad ?_
 refine WL.la 34 ?_
 go_wp2_with fail
 go_ret
 exact ⟨rfl,cV.out⟩
structure Ac where
 k:Int
 s:Int
 n:Int
 nm:ByteArray
 ok:Int
 ob:ByteArray
 wr:Bool
 pa:Option Addr
 pn:Nat
 pc:Nat
def acL (a:Ac):List Value:=[.int .i64 a.k,.int .i64 a.s,.int .i64 a.n,.string a.nm,.int .i64 a.ok,.string a.ob,.bool a.wr,.slice a.pa a.pn a.pc]
theorem Cy (a:Ac):(acL a).length=8:=rfl
theorem Po (a:Ac):∀v∈acL a,v.oneCell'=true:=fun v b=>by
 simp only [acL,List.mem_cons,List.not_mem_nil,or_false] at b
 rcases b with rfl|rfl|rfl|rfl|rfl|rfl|rfl|rfl<;>rfl
theorem Cb:(prog.info? 36).map (·.size)=some 8:=by kernel_rfl
theorem Pn:∃a:Array Value,(∀w,(zeroValue 36).run prog w= .ok (.agg a) w)∧a.size=8:=⟨#[.int .i64 0,.int .i64 0,.int .i64 0,.string ⟨#[]⟩,.int .i64 0,.string ⟨#[]⟩,.bool false,.slice none 0 0],fun w=>by kernel_rfl,rfl⟩
def o7 (w:World) (v:Value) (l:List Ac):Prop:=bM w v 8 (l.map acL)
theorem o7.below {w w':World} {v:Value} {l:List Ac} (h:o7 w v l) (hb:Below w.heap.size w w'):o7 w' v l:=bM.below h hb
theorem o7.open {w:World} {v:Value} {l:List Ac} (h:o7 w v l):∃d cap,v= .slice d l.length cap∧l.length≤maxLen∧(l≠[]→ ∃b off,d=some ⟨b,off,none⟩∧b<w.heap.size∧ ∀k (g:k<l.length),w.rangeAt b (off+k*8) (acL l[k])):=by
 obtain ⟨d,cap,e,hm,i⟩:=h
 rw [List.length_map] at e hm
 refine ⟨d,cap,e,hm,fun f=> ?_⟩
 obtain ⟨b,off,j,hb,a⟩:=i (by simpa using f)
 refine ⟨b,off,j,hb,fun k g=> ?_⟩
 have:=a k (by rw [List.length_map];exact g)
 rw [List.getElem_map] at this
 exact this
def idZ (o:Ob):List UInt8:=if aB o=true then idO o else zid
theorem vN (o:Ob):(idZ o).length=32:=by
 unfold idZ
 split
 ·exact fC o
 exact aV
theorem Dn {k:Int} {s:ByteArray} (h:aB ⟨k,s⟩=true):s.size≤4096:=by
 unfold aB at h
 rw [Bool.and_eq_true,decide_eq_true_eq] at h
 exact h.1
theorem vJ (k:Int) (s:ByteArray) (w:World):Calls prog 13 #[.agg #[.int .i64 k,.string s]] w (dL (idZ ⟨k,s⟩) w):=by
 obtain ⟨zi,i0,_,_,_,_,J,X⟩:=eu
 obtain ⟨G,P⟩:=dQ
 obtain ⟨W,A⟩:∃W,(w.alloc (.cells #[.int .i64 k,.string s] 33)).alloc (.cells (idC zid).toArray 42)=W:=⟨_,rfl⟩
 have D:Below w.heap.size w W:=by rw [←A];exact bal.alloc (by simp) _
 have u:ak W w.heap.size 33 [.int .i64 k,.string s]:=by rw [←A];exact (ak.new w 33 [.int .i64 k,.string s]).below bal
 have x:ak W (w.heap.size+1) 42 (idC zid):=by
  rw [←A]
  have:=ak.new (w.alloc (.cells #[.int .i64 k,.string s] 33)) 42 (idC zid)
  rwa [World.size_alloc] at this
 have L:=ah D
 have K:=ah u
 have E:=ah x
 have Z:=ah (fun V=>Fy k s V)
 have T:=ah (fun (h:aB ⟨k,s⟩=true) V=>LY k s V (by have:=Dn h;omega))
 have Q:(prog.info? 33).map (·.size)=some ([.int .i64 k,.string s]:List Value).length:=by kernel_rfl
 have b:Hid ((idC zid).length=32):=ah (by rw [av,aV])
 have B:=ah (aJ zid)
 obtain ⟨o,l⟩:∃z,idC zid=z:=⟨_,rfl⟩
 have N:=ah l
 rw [l] at G P A E b B x
 have Y:=ah A
 clear l A J D
 have R:=u.range
 clear u x
 go_enter func13,ntmps13
 go_upto_region 1 with fail
 rw [Y.out]
 go_wp2_with (refine wpList_load_mid rfl 33 _ rfl w.heap.size 0 rfl [.int .i64 k,.string s] _ R underlying33 rfl Q ?_)
 refine (Z.out W).mono ?_
 rintro e w1 ⟨rfl,j⟩
 have q:=bth L j
 have d:=ah (E.out.below j)
 have U:=(K.out.below j).range
 clear j R
 cases F:aB ⟨k,s⟩ with
 | false =>
  obtain ⟨C,a⟩:∃z,w1.setCells (w.heap.size+1) 0 o=z:=⟨_,rfl⟩
  have p:w1.there (w.heap.size+1) 0 32:=by have:=d.out.there;rwa [b.out] at this
  have t:C.rangeAt (w.heap.size+1) 0 o:=by rw [←a];exact (d.out.set (us:=o) rfl).range
  have y:(prog.info? 42).map (·.size)=some o.length:=by rw [b.out];exact bR
  have f:Hid (dL (idZ ⟨k,s⟩) w (.returned (.agg o.toArray)) C):=ah ⟨by unfold idZ;rw [F,←N.out];rfl,by rw [←a];exact below_setCells _ (by omega) _ _ _ q.out⟩
  have m:=ah a
  clear a F
  go_wp2_with (refine aj rfl 42 _ _ rfl (w.heap.size+1) 0 o rfl rfl 32 b.out p bR B.out ?_;rw [m.out])
  refine bK rfl (w.heap.size+1) 0 rfl o _ t underlying42 rfl y rfl ?_
  exact f.out
 | true =>
  have I:=ah (T.out F)
  obtain ⟨i,g⟩:∃z,idC (idO ⟨k,s⟩)=z:=⟨_,rfl⟩
  have n:Hid (i.length=32):=ah (by rw [←g,av,fC])
  have O:Hid (∀v∈i,v.oneCell'=true):=ah (by rw [←g];exact aJ _)
  have M:Hid (idC (idZ ⟨k,s⟩)=i):=ah (by unfold idZ;rw [if_pos F];exact g)
  rw [g] at I
  clear g F T
  go_wp2_with (refine wpList_load_mid rfl 33 _ rfl w.heap.size 0 rfl [.int .i64 k,.string s] _ U underlying33 rfl Q ?_)
  refine (I.out w1).mono ?_
  rintro e S ⟨rfl,r⟩
  have H:=ah (d.out.below r)
  obtain ⟨C,a⟩:∃z,S.setCells (w.heap.size+1) 0 i=z:=⟨_,rfl⟩
  have p:S.there (w.heap.size+1) 0 32:=by have:=H.out.there;rwa [b.out] at this
  have t:C.rangeAt (w.heap.size+1) 0 i:=by rw [←a];exact (H.out.set (us:=i) (by rw [b.out,n.out])).range
  have y:(prog.info? 42).map (·.size)=some i.length:=by rw [n.out];exact bR
  have f:Hid (dL (idZ ⟨k,s⟩) w (.returned (.agg i.toArray)) C):=ah ⟨by rw [M.out],by rw [←a];exact below_setCells _ (by omega) _ _ _ (q.out.trans (r.mono q.out.size))⟩
  have m:=ah a
  clear a r U
  go_wp2_with (refine aj rfl 42 _ _ rfl (w.heap.size+1) 0 i rfl rfl 32 n.out p bR O.out ?_;rw [m.out])
  refine bK rfl (w.heap.size+1) 0 rfl i _ t underlying42 rfl y rfl ?_
  exact f.out
def grB (a:Ac):Bool:=decide (100<a.nm.size) || decide (100<a.pn) || decide (3000<a.ob.size)
theorem Nc (a:Ac) (w:World):Calls prog 10 #[.agg (acL a).toArray] w fun e w'=>e= .returned (.bool (grB a))∧Below w.heap.size w w':=by
 obtain ⟨k,s,n,nm,ok,ob,wr,pa,pn,pc⟩:=a
 obtain ⟨W,h⟩:∃W,w.alloc (.cells #[.int .i64 k,.int .i64 s,.int .i64 n,.string nm,.int .i64 ok,.string ob,.bool wr,.slice pa pn pc] 36)=W:=⟨_,rfl⟩
 have d:Hid (Below w.heap.size w W):=ah (by rw [←h];exact bal)
 have b:ak W w.heap.size 36 [.int .i64 k,.int .i64 s,.int .i64 n,.string nm,.int .i64 ok,.string ob,.bool wr,.slice pa pn pc]:=by rw [←h];exact ak.new w 36 _
 have c3:W.cell? ⟨w.heap.size,3,none⟩=some (.string nm):=b.range 3 _ rfl
 have c5:W.cell? ⟨w.heap.size,5,none⟩=some (.string ob):=b.range 5 _ rfl
 have m:W.cell? ⟨w.heap.size,7,none⟩=some (.slice pa pn pc):=b.range 7 _ rfl
 have i:=ah h
 clear b h
 unfold acL
 by_cases h1:100<nm.size
 ·have f:Hid (grB ⟨k,s,n,nm,ok,ob,wr,pa,pn,pc⟩=true):=ah (by unfold grB;simp [h1])
  have l:decide ((100:Int)<nm.size)=true:=decide_eq_true (by omega)
  clear h1
  go_enter func10,ntmps10
  go_upto_region 1 with fail
  rw [i.out]
  go_wp2_with fail
  go_ret
  exact ⟨by rw [f.out];rfl,d.out⟩
 have l:decide ((100:Int)<nm.size)=false:=decide_eq_false (by omega)
 by_cases g:100<pn
 ·have f:Hid (grB ⟨k,s,n,nm,ok,ob,wr,pa,pn,pc⟩=true):=ah (by unfold grB;simp [g])
  have j:decide ((100:Int)<pn)=true:=decide_eq_true (by omega)
  clear h1 g
  go_enter func10,ntmps10
  go_upto_region 1 with fail
  rw [i.out]
  go_wp2_with fail
  go_ret
  exact ⟨by rw [f.out];rfl,d.out⟩
 have j:decide ((100:Int)<pn)=false:=decide_eq_false (by omega)
 have f:Hid (grB ⟨k,s,n,nm,ok,ob,wr,pa,pn,pc⟩=decide ((3000:Int)<ob.size)):=ah (by unfold grB;simp [h1,g];omega)
 clear h1 g
 go_enter func10,ntmps10
 go_upto_region 1 with fail
 rw [i.out]
 go_wp2_with fail
 go_ret
 exact ⟨by rw [f.out];rfl,d.out⟩
def sU (wr:Bool) (x:List UInt8):List UInt8:=if wr=true then (match x with|[]=>[]|v::r=>(v+1)::r) else x
theorem DF (wr:Bool) (x:List UInt8):(sU wr x).length=x.length:=by
 unfold sU
 split
 ·cases x<;>rfl
 rfl
theorem DX (a:Ac) (x:List UInt8) (hx:x.length=32) (w:World):Calls prog 36 #[.agg (acL a).toArray,.agg (idC x).toArray] w (dL (sU a.wr x) w):=by
 obtain ⟨O,T⟩:=dQ
 obtain ⟨W,i⟩:∃W,((w.alloc (.cells (acL a).toArray 36)).alloc (.cells (idC x).toArray 42)).alloc (.cells (idC zid).toArray 42)=W:=⟨_,rfl⟩
 have q:Below w.heap.size w ((w.alloc (.cells (acL a).toArray 36)).alloc (.cells (idC x).toArray 42)):=bal.alloc (by simp) _
 have k:Below w.heap.size w W:=by rw [←i];exact q.alloc q.size _
 have J:ak W w.heap.size 36 (acL a):=by rw [←i];exact ((ak.new w 36 (acL a)).below bal).below bal
 have h:ak W (w.heap.size+1) 42 (idC x):=by
  rw [←i]
  have:=(ak.new (w.alloc (.cells (acL a).toArray 36)) 42 (idC x))
  rw [World.size_alloc] at this
  exact this.below bal
 have H:ak W (w.heap.size+1+1) 42 (idC zid):=by
  rw [←i]
  have:=ak.new ((w.alloc (.cells (acL a).toArray 36)).alloc (.cells (idC x).toArray 42)) 42 (idC zid)
  rwa [World.size_alloc,World.size_alloc] at this
 have P:=ah k
 have C:=ah h
 have s:=ah H
 have X:W.cell? ⟨w.heap.size,6,none⟩=some (.bool a.wr):=J.range 6 _ rfl
 have m:Hid ((idC zid).length=32):=ah (by rw [av,aV])
 obtain ⟨cz,y⟩:∃z,idC zid=z:=⟨_,rfl⟩
 rw [y] at O T i s m
 obtain ⟨ca,o⟩:∃z,acL a=z:=⟨_,rfl⟩
 rw [o] at i
 rw [o]
 cases t:a.wr with
 | false =>
  have Q:Hid (sU false x=x):=ah (by unfold sU;simp)
  rw [t] at X
  obtain ⟨d,b⟩:∃z,idC x=z:=⟨_,rfl⟩
  have B:=ah b
  have f:Hid (d.length=32):=ah (by rw [←b,av,hx])
  have G:Hid (∀v∈d,v.oneCell'=true):=ah (by rw [←b];exact aJ _)
  rw [b] at i C
  rw [b]
  have n:(prog.info? 42).map (·.size)=some d.length:=by rw [f.out];exact bR
  have U:=C.out.range
  obtain ⟨K,e⟩:∃z,W.setCells (w.heap.size+1+1) 0 d=z:=⟨_,rfl⟩
  have D:W.there (w.heap.size+1+1) 0 32:=by have:=s.out.there;rwa [m.out] at this
  have E:K.rangeAt (w.heap.size+1+1) 0 d:=by rw [←e];exact (s.out.set (us:=d) (by rw [m.out,f.out])).range
  have l:Hid (dL (sU false x) w (.returned (.agg d.toArray)) K):=ah ⟨by rw [Q.out,B.out],by rw [←e];exact below_setCells _ (by omega) _ _ _ P.out⟩
  have A:=ah e
  have V:=ah i
  clear b y o i e k J h H q t
  go_enter func36,ntmps36
  go_upto_region 1 with fail
  rw [V.out]
  go_wp2_with (first|(refine wpList_load_mid rfl 42 _ rfl (w.heap.size+1) 0 rfl d _ U underlying42 rfl n ?_)|(refine aj rfl 42 _ _ rfl (w.heap.size+1+1) 0 d rfl rfl 32 f.out D bR G.out ?_;rw [A.out]))
  refine bK rfl (w.heap.size+1+1) 0 rfl d _ E underlying42 rfl n rfl ?_
  exact l.out
 | true =>
  match x,hx with
  | v::r,hx =>
  rw [t] at X
  have Q:Hid (sU true (v::r)=(v+1)::r):=ah (by unfold sU;simp)
  have f0:W.cell? ⟨w.heap.size+1,0,none⟩=some (.int .u8 (v.toNat:Int)):=h.range 0 _ rfl
  have g0:W.frozen? ⟨w.heap.size+1,0,none⟩=false:=by have:=(h.there 0 (by rw [av];simp)).2;rwa [Nat.zero_add] at this
  have S:IntKind.u8.wrap ((v.toNat:Int)+1)=((v+1).toNat:Int):=by rw [wrap_u8',UInt8.toNat_add];simp
  obtain ⟨M,p⟩:∃z,W.setCell ⟨w.heap.size+1,0,none⟩ (.int .u8 ((v+1).toNat:Int))=z:=⟨_,rfl⟩
  have I:ak M (w.heap.size+1) 42 (idC ((v+1)::r)):=by rw [←p];exact h.put 0 (.int .u8 ((v+1).toNat:Int))
  have g:Chg (fun j=>j=w.heap.size+1) W M:=by
   rw [←p]
   exact ⟨rfl,rfl,rfl,by simp,fun j Y Z=>Below.heap_setCell _ _ _ _ Z⟩
  have u:=ah (s.out.chg g (by omega))
  have R:Hid (Below w.heap.size w M):=ah (k.trans ⟨g.os,g.tape,g.output,g.size,fun j Y=>g.block j (Nat.lt_of_lt_of_le Y k.size) (by omega)⟩)
  obtain ⟨d,b⟩:∃z,idC ((v+1)::r)=z:=⟨_,rfl⟩
  have B:=ah b
  have f:Hid (d.length=32):=ah (by rw [←b,av];exact hx)
  have G:Hid (∀v∈d,v.oneCell'=true):=ah (by rw [←b];exact aJ _)
  rw [b] at I
  obtain ⟨cx,F⟩:∃z,idC (v::r)=z:=⟨_,rfl⟩
  rw [F] at i
  rw [F]
  have n:(prog.info? 42).map (·.size)=some d.length:=by rw [f.out];exact bR
  have U:=I.range
  obtain ⟨K,e⟩:∃z,M.setCells (w.heap.size+1+1) 0 d=z:=⟨_,rfl⟩
  have D:M.there (w.heap.size+1+1) 0 32:=by have:=u.out.there;rwa [m.out] at this
  have E:K.rangeAt (w.heap.size+1+1) 0 d:=by rw [←e];exact (u.out.set (us:=d) (by rw [m.out,f.out])).range
  have l:Hid (dL (sU true (v::r)) w (.returned (.agg d.toArray)) K):=ah ⟨by rw [Q.out,B.out],by rw [←e];exact below_setCells _ (by omega) _ _ _ R.out⟩
  have A:=ah e
  have V:=ah i
  have N:=ah p
  obtain ⟨vn,L⟩:∃z:Int,((v+1).toNat:Int)=z:=⟨_,rfl⟩
  rw [L] at S N
  clear b y o F i e k J h H q t g I p L C
  go_enter func36,ntmps36
  go_upto_region 1 with fail
  rw [V.out]
  go_upto_region 3 with fail
  rw [N.out]
  go_wp2_with (first|(refine wpList_load_mid rfl 42 _ rfl (w.heap.size+1) 0 rfl d _ U underlying42 rfl n ?_)|(refine aj rfl 42 _ _ rfl (w.heap.size+1+1) 0 d rfl rfl 32 f.out D bR G.out ?_;rw [A.out]))
  refine bK rfl (w.heap.size+1+1) 0 rfl d _ E underlying42 rfl n rfl ?_
  exact l.out
end
end Go.Proofs.YtlhcoanbhnphgaaGreatDoor
