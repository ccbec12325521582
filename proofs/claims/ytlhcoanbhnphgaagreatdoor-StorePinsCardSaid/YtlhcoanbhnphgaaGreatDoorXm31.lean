/- A part of this claim. -/
import Derived.Test.YtlhcoanbhnphgaaGreatDoorShelf9
import Derived.Test.YtlhcoanbhnphgaaGreatDoorXm26
import Derived.Test.YtlhcoanbhnphgaaGreatDoorXm27
import Derived.Test.YtlhcoanbhnphgaaGreatDoorXm30
namespace Go.Proofs.YtlhcoanbhnphgaaGreatDoor
open Tryz
set_option maxHeartbeats 64000000
set_option maxRecDepth 100000
set_option linter.all false
section
open Go.RowKit Go.Maps Go.Shelf
def bkN:ByteArray:=⟨#[98,111,111,107]⟩
theorem bM.QT {S:Nat→Prop} {w w':World} {v:Value} {sz:Nat} {rows:List (List Value)} (h:bM w v sz rows) (e:Chg S w w') (d:rows≠[]→ ∀b,v.ownBlock=some b→ ¬S b):bM w' v sz rows:=by
 obtain ⟨k,cap,rfl,hm,g⟩:=h
 refine ⟨k,cap,rfl,hm,fun f=> ?_⟩
 obtain ⟨b,off,rfl,hb,a⟩:=g f
 refine ⟨b,off,rfl,Nat.lt_of_lt_of_le hb e.size,fun i hi j u hu=> ?_⟩
 rw [World.cell?_of_block (e.block b hb (d f b rfl))]
 exact a i hi j u hu
theorem dw.chg {S:Nat→Prop} {w w':World} {v:Value} {l:List Rf} (h:dw w v l) (d:Chg S w w') (a:l≠[]→ ∀b,v.ownBlock=some b→ ¬S b):dw w' v l:=bM.QT h d fun f=>a fun e=>f (by rw [e];rfl)
theorem dw.olt {w:World} {v:Value} {l:List Rf} (h:dw w v l) (f:l≠[]) {k:Nat} (a:v.ownBlock=some k):k<w.heap.size:=by
 obtain ⟨i,cap,e,_,d⟩:=h
 obtain ⟨b,off,g,hb,_⟩:=d (by simpa using f)
 rw [e,g] at a
 cases a
 exact hb
theorem OpB.chg {S:Nat→Prop} {w w':World} {b:Nat} {d vt vl:Value} {t l:List Rf} {n:Nat} (h:OpB w b d vt vl t l n) (a:Chg S w w') (hb:¬S b) (f:t≠[]→ ∀k,vt.ownBlock=some k→ ¬S k) (e:l≠[]→ ∀k,vl.ownBlock=some k→ ¬S k):OpB w' b d vt vl t l n :=
 ⟨h.box.chg a hb,⟨h.row.tab.chg a f,h.row.log.chg a e,h.row.capt,h.row.capl,h.row.ok⟩⟩
structure OpO (O:Nat → Prop) (w:World) (b g:Nat) (vt vl:Value) (t l:List Rf) (n:Nat):Prop where
 op:OpB w b (.pointer (some ⟨g,0,none⟩)) vt vl t l n
 ob:O b
 ot:t ≠ [] → ∀ k,vt.ownBlock = some k → O k ∧ k ≠ b
 ol:l ≠ [] → ∀ k,vl.ownBlock = some k → O k ∧ k ≠ b
theorem OpO.chg {O S:Nat→Prop} {w w':World} {b g:Nat} {vt vl:Value} {t l:List Rf} {n:Nat} (h:OpO O w b g vt vl t l n) (e:Chg S w w') (hS:∀k,S k→ ¬O k):OpO O w' b g vt vl t l n :=
 ⟨h.op.chg e (fun h1=>hS _ h1 h.ob) (fun a k d h1=>hS _ h1 (h.ot a k d).1) (fun a k d h1=>hS _ h1 (h.ol a k d).1),h.ob,h.ot,h.ol⟩
theorem OpO.kp {O:Nat→Prop} {w w':World} {b g:Nat} {vt vl:Value} {t l:List Rf} {n:Nat} (h:OpO O w b g vt vl t l n) (a:Kp O w w'):OpO O w' b g vt vl t l n:=h.chg a fun _ h=>h
theorem OpO.below {O:Nat→Prop} {w w':World} {b g:Nat} {vt vl:Value} {t l:List Rf} {n:Nat} (h:OpO O w b g vt vl t l n) (hb:Below w.heap.size w w'):OpO O w' b g vt vl t l n:=⟨h.op.below hb,h.ob,h.ot,h.ol⟩
theorem OpO.sub {O O':Nat→Prop} {w:World} {b g:Nat} {vt vl:Value} {t l:List Rf} {n:Nat} (h:OpO O w b g vt vl t l n) (e:∀b,O b→O' b):OpO O' w b g vt vl t l n:=⟨h.op,e _ h.ob,fun a k d=>⟨e _ (h.ot a k d).1,(h.ot a k d).2⟩,fun a k d=>⟨e _ (h.ol a k d).1,(h.ol a k d).2⟩⟩
theorem tK {O:Nat→Prop} {N R M:Nat} {w:World} {g:Nat} {q:Int} {L:LK} {sy:Nat→Bool} {b:Nat} {vt vl:Value} {t l:List Rf} {n:Nat} {d:ByteArray×Nat} (G:DV O N R M w g q L sy) (D:OpO O w b g vt vl t l n) (F:L 2 bkN=some d) :
  Calls prog 65 #[.pointer (some ⟨b,0,none⟩)] w fun e w'=>e= .returned (.int .i64 0)∧DV O N R M w' g q (L.put 2 bkN (some (d.1,d.1.size))) sy∧OpO O w' b g vt vl t l l.length∧Chg (fun k=> ¬O k∨k=b) w w':=by
 have HS:=ah (sF G (k:=2) (x:=bkN) (by omega) (by decide) F)
 have H:=ah D
 have J:w.cell? ⟨b,0,none⟩=some (.pointer (some ⟨g,0,none⟩)):=D.op.box.range 0 _ rfl
 have p:bG 2=⟨#[114,101,102]⟩:=rfl
 rw [p] at HS
 unfold bkN at HS
 clear G D F p
 go_enter func65,ntmps65
 go_wp2_with fail
 refine HS.out.mono ?_
 rintro e w1 ⟨rfl,s,m⟩
 have a:=ah (H.out.kp m)
 obtain ⟨la,lc,e,_,_⟩:=a.out.op.row.log.open
 subst e
 have j:=a.out.op.box.range
 have c2:w1.cell? ⟨b,2,none⟩=some (.slice la l.length lc):=j 2 _ rfl
 have I:w1.cell? ⟨b,3,none⟩=some (.int .i64 (n:Int)):=j 3 _ rfl
 have g3:w1.frozen? ⟨b,3,none⟩=false:=by have:=(a.out.op.box.there 3 (by simp)).2;rwa [Nat.zero_add] at this
 obtain ⟨u,i⟩:∃z,w1.setCell ⟨b,3,none⟩ (.int .i64 (l.length:Int))=z:=⟨_,rfl⟩
 have B:=ah i
 have y:Hid (ak u b 128 [.pointer (some ⟨g,0,none⟩),vt,.slice la l.length lc,.int .i64 (l.length:Int)]):=ah (by
  rw [←i]
  have E:w1.heap[b]? = some (.cells #[.pointer (some ⟨g,0,none⟩),vt,.slice la l.length lc,.int .i64 (n:Int)] 128 (0,0)):=a.out.op.box
  show (w1.heap.modify b _)[b]? = _
  rw [Array.getElem?_modify,if_pos rfl,E]
  rfl)
 have f:Hid (Chg (fun k=>k=b) w1 u):=ah (by
  rw [←i]
  exact ⟨rfl,rfl,rfl,by simp,fun k o r=>Below.heap_setCell _ _ _ _ r⟩)
 have v:Hid (OpO O u b g vt (.slice la l.length lc) t l l.length):=ah (by
  have h:=a.out
  exact ⟨⟨y.out,⟨h.op.row.tab.chg f.out (fun r k o=>(h.ot r k o).2),h.op.row.log.chg f.out (fun r k o=>(h.ol r k o).2),h.op.row.capt,h.op.row.capl,h.op.row.ok⟩⟩,h.ob,h.ot,h.ol⟩)
 have A:=ah (s.chg f.out (fun k o=>by rw [o];exact a.out.ob))
 have C:Hid (Chg (fun k=> ¬O k∨k=b) w u):=ah ((m.mono fun k _ h=> .inl h).trans (f.out.mono fun k _ h=> .inr h))
 clear i j s m
 go_wp2_with fail
 go_ret
 rw [B.out]
 exact ⟨rfl,A.out,v.out,C.out⟩
theorem LK.Ov (L:LK) (k:Nat) (x:ByteArray) (a b:Option (ByteArray×Nat)):(L.put k x a).put k x b=L.put k x b:=by
 funext j y
 unfold LK.put
 split<;>rfl
theorem lZ:aU bkN=true∧aU (bD bkN)=true:=by decide +kernel
def ET (O:Nat→Prop) (N R M:Nat) (g:Nat) (q:Int) (L:LK) (sy:Nat→Bool) (l:List Rf) (w:World) (e:Ending) (w':World):Prop :=
 ∃O' ob v,e= .returned (.tuple #[.pointer (some ⟨ob,0,none⟩),.int .i64 0])∧DV O' N R M w' g q L sy∧OpO O' w' ob g (.slice none 0 0) v [] l l.length∧Kp O w w'∧(∀b,O b→O' b)∧(∀b,O' b→O b∨w.heap.size≤b)∧w.heap.size≤ob
theorem Ip {O:Nat→Prop} {N R M:Nat} {w w3 w4 w5:World} {g:Nat} {q:Int} {L:LK} {sy:Nat→Bool} {ob:Nat} {v:Value} {l:List Rf} (r:DV O N R M w3 g q L sy) (p:∀b,O b→b<w.heap.size) (u:w.heap.size≤w3.heap.size) (e:Below w3.heap.size w3 w4) (i:qj w3 w4 (.slice none 0 0) v [] l)
  (o:w4.heap.size=ob) (a:w4.alloc (.cells #[.pointer (some ⟨g,0,none⟩),.slice none 0 0,v,.int .i64 0] 128)=w5) :
  ∃O',DV O' N R M w5 g q L sy∧OpO O' w5 ob g (.slice none 0 0) v [] l 0∧(∀b,O b→O' b)∧(∀b,O' b→O b∨w.heap.size≤b)∧ ¬O ob:=by
 have d:Below w4.heap.size w4 w5:=by rw [←a];exact bal
 have t:w5.heap.size=w4.heap.size+1:=by rw [←a];simp
 have j:ak w5 ob 128 [.pointer (some ⟨g,0,none⟩),.slice none 0 0,v,.int .i64 0]:=by rw [←o,←a];exact ak.new w4 128 [.pointer (some ⟨g,0,none⟩),.slice none 0 0,v,.int .i64 0]
 have s:=e.size
 refine ⟨Ou (Ou O w3 w4) w4 w5,(r.on e).on d,⟨⟨j,i.1.below d⟩,.inr ⟨by omega,by omega⟩,fun f=>absurd rfl f,fun f k m=> ?_⟩,fun b hb=> .inl (.inl hb),fun b hb=> ?_,fun h=> ?_⟩
 ·have h1:=i.1.log.olt f m
  have n:=i.2.2 k m
  exact ⟨.inl (.inr ⟨n,h1⟩),by omega⟩
 ·rcases hb with (hb|hb)|hb
  ·exact .inl hb
  ·exact .inr (by omega)
  exact .inr (by omega)
 have:=p ob h;omega
theorem open_row {w:World} {v:Value} {l:List Rf} (h:dw w v l):∃a c,v= .slice a l.length c:=by
 obtain ⟨a,c,e,_,_⟩:=h
 exact ⟨a,c,by rw [e,List.length_map]⟩
theorem xO (g:Nat) (v:Value) (w:World):(Instr.build 128 #[(0,.pointer (some ⟨g,0,none⟩)),(1,.agg #[.slice none 0 0,v])]).run prog w= .ok (.agg #[.pointer (some ⟨g,0,none⟩),.slice none 0 0,v,.int .i64 0]) w:=run_build w 128 _ _ (by kernel_rfl)
section
variable {O:Nat → Prop} {N R M:Nat} {w:World} {g:Nat} {q:Int} {L:LK} {sy:Nat → Bool}
theorem NT (y:DV O N R M w g q L sy) (v:eP w) (hN:N+R≤900000) (hs:L 2 bkN=none) (ht:L 2 (bD bkN)=none) (hM:7≤M) (F:M≤1048576) (hq:3*((N+1)*M)+7≤q) (E:q≤1000000000) :
  Calls prog 35 #[.pointer (some ⟨g,0,none⟩)] w (ET O (N+1) (R+2) M g q (L.put 2 bkN (some (bk0,bk0.size))) (upN sy 2 true) [] w):=by
 have f:=sG y (k:=2) (x:=bkN) (by omega) (by omega) lZ.1
 rw [hs] at f
 unfold N8 at f
 have p:=ah f
 have S:Hid (∀W,Below w.heap.size w W→Calls prog 72 #[.agg #[.slice none 0 0,.slice none 0 0]] W fun e w'=>e= .returned (.tuple #[.string bk0,.int .i64 0])∧Below W.heap.size W w'):=ah fun W hb=>by
  refine (oL _ _ [] [] W (nP W) (v.below hb).crc (v.below hb).laid.lt).mono ?_
  intro e w' h
  unfold ES at h
  rw [Qg] at h
  exact h
 have T:Hid (∀W,Below w.heap.size w W→Calls prog 73 #[.pointer (some ⟨g,0,none⟩),.string ⟨#[114,101,102]⟩,.string ⟨#[98,111,111,107]⟩,.string bk0] W (Bc O (N+1) (R+2) M g q (L.put 2 bkN (some (bk0,bk0.size))) (upN sy 2 true) W)):=ah fun W hb =>
  xG (k:=2) (nm:=bkN) (data:=bk0) (y.below hb) (by omega) hN lZ.2 lZ.1 ht (by rw [I4.1];exact hM) F (by rw [I4.1];exact hq) E
 have n:Hid (∀W,eP W→Calls prog 74 #[.string bk0] W (qh (.slice none 0 0) bk0.size W)):=ah fun W v=>by
  have h:=Qd bk0 (rd0 ⟨#[0]⟩) W (by rw [I4.1];omega) v.crc (by have:=v.laid.lt;omega) Q7 Bl.1 Bl.2 (dG _ (by decide)) QG
  rw [I4.2] at h
  exact h
 have HG:=ah (fun W (hk:Kp O w W)=>v.kp hk y.ko)
 have HE:=ah (fun (w3 w4 w5:World) (ob:Nat) (h1:DV O (N+1) (R+2) M w3 g q (L.put 2 bkN (some (bk0,bk0.size))) (upN sy 2 true)) o r Z h5=>Ip (l:=[]) (ob:=ob) (w4:=w4) (w5:=w5) h1 y.olt o r ⟨nP w4,fun _ h=>(by cases h),fun _ h=>(by cases h)⟩ Z h5)
 have P:Hid (∀(O':Nat→Prop) (W:World) (ob:Nat),DV O' (N+1) (R+2) M W g q (L.put 2 bkN (some (bk0,bk0.size))) (upN sy 2 true)→OpO O' W ob g (.slice none 0 0) (.slice none 0 0) [] [] 0→Calls prog 65 #[.pointer (some ⟨ob,0,none⟩)] W fun e w'=>e= .returned (.int .i64 0)∧DV O' (N+1) (R+2) M w' g q (L.put 2 bkN (some (bk0,bk0.size))) (upN sy 2 true)∧OpO O' w' ob g (.slice none 0 0) (.slice none 0 0) [] [] 0∧Chg (fun k=> ¬O' k∨k=ob) W w'):=ah fun O' W ob h1 o=>by
  refine (tK h1 o (LK.bT ..)).mono ?_
  rintro e w' ⟨rfl,r,Z⟩
  rw [LK.Ov] at r
  exact ⟨rfl,r,Z⟩
 have u:bk0.size=7:=I4.1
 have ae:=ah u
 have ad:=ah y.olt
 have af:=ah (xO g (.slice none 0 0))
 unfold qh at n
 rw [u] at n
 have H:bG 2=⟨#[114,101,102]⟩:=rfl
 rw [H] at p
 unfold bkN at p
 obtain ⟨bz,d⟩:∃b,bk0=b:=⟨_,rfl⟩
 rw [d] at S T n u
 have Y:=ah d
 clear y v hs ht hM F hq E f H d
 go_enter func35,ntmps35
 go_wp2_with fail
 refine p.out.mono ?_
 rintro e w1 ⟨rfl,V⟩
 have G:=ah V
 clear V
 go_wp2_with fail
 refine (S.out w1 G.out).mono ?_
 rintro e w2 ⟨rfl,I⟩
 have D:=bth G I
 clear I
 go_wp2_with fail
 refine (T.out w2 D.out).mono ?_
 rintro e w3 ⟨rfl,t,C⟩
 rw [←Y.out] at t
 have aa:=ah t
 have m:=ah ((Kp.of D.out).trans C)
 clear t C
 go_wp2_with fail
 refine (n.out w3 (HG.out w3 m.out)).mono ?_
 rintro e w4 ⟨rfl,Q⟩
 have s:=ah Q
 clear Q
 go_wp2_with fail
 have a:Below w3.heap.size w3 (w4.alloc (.cells #[.slice none 0 0,.slice none 0 0] 51)):=s.out.alloc s.out.size _
 obtain ⟨w5,i⟩:∃z,(w4.alloc (.cells #[.slice none 0 0,.slice none 0 0] 51)).alloc (.cells #[.pointer (some ⟨g,0,none⟩),.slice none 0 0,.slice none 0 0,.int .i64 0] 128)=z:=⟨_,rfl⟩
 have K:Below w3.heap.size w3 w5:=by rw [←i];exact a.alloc a.size _
 obtain ⟨O',hd,ho,h1,o,r⟩:=HE.out w3 _ w5 (w4.heap.size+1) aa.out m.out.size a (by simp) i
 have ab:=ah (m.out.trans (Kp.of K))
 have ac:=ah (P.out O' w5 _ hd ho)
 have X:=ah (And.intro h1 (And.intro o r))
 rw [i]
 clear a i K hd ho h1 o r HE P
 refine ac.out.mono ?_
 rintro e w6 ⟨rfl,J,U,A⟩
 have B:Hid (ET O (N+1) (R+2) M g q (L.put 2 bkN (some (bk0,bk0.size))) (upN sy 2 true) [] w (.returned (.tuple #[.pointer (some ⟨w4.heap.size+1,0,none⟩),.int .i64 0])) w6):=ah ⟨O',w4.heap.size+1,.slice none 0 0,rfl,J,U,ab.out.trans (A.mono fun j _ hj hO=>hj.elim (fun h=>h (X.out.1 j hO)) (fun h=>X.out.2.2 (h▸hO))),X.out.1,X.out.2.1,by have h1:=m.out.size;have o:=s.out.size;omega⟩
 clear J U A
 go_wp2_with fail
 go_ret2
 exact B.out
theorem Qw (S:DV O N R M w g q L sy) (hN:N+R≤900000) {s:ByteArray} {n:Nat} {l:List Rf} (T:L 2 bkN=some (s,n)) (hG:eP w)
  (D:∀W,eP W→Calls prog 74 #[.string s] W fun e w'=> ∃v,qh v s.size W e w'∧qj W w' (.slice none 0 0) v [] l) :
  Calls prog 35 #[.pointer (some ⟨g,0,none⟩)] w (ET O N R M g q (L.put 2 bkN (some (s,s.size))) sy l w):=by
 have d:=sG S (k:=2) (x:=bkN) (by omega) (by omega) lZ.1
 rw [T] at d
 unfold N8 at d
 have o:=ah d
 have I:=ah D
 have m:=ah S
 have X:=ah hG
 have Z:=ah (fun (w3 w4 w5:World) (ob:Nat) (v:Value) (h1:DV O N R M w3 g q L sy) i J hr h4 h5=>Ip (l:=l) (v:=v) (ob:=ob) (w:=w) (w3:=w3) (w4:=w4) (w5:=w5) h1 S.olt i J hr h4 h5)
 have F:Hid (∀(O':Nat→Prop) (W:World) (ob:Nat) (v:Value),DV O' N R M W g q L sy→OpO O' W ob g (.slice none 0 0) v [] l 0→Calls prog 65 #[.pointer (some ⟨ob,0,none⟩)] W fun e w'=>e= .returned (.int .i64 0)∧DV O' N R M w' g q (L.put 2 bkN (some (s,s.size))) sy∧OpO O' w' ob g (.slice none 0 0) v [] l l.length∧Chg (fun k=> ¬O' k∨k=ob) W w'):=ah fun O' W ob v h1 i=>tK h1 i T
 unfold qh at I
 have d1:decide ((s.size:Int)<(s.size:Int))=false:=decide_eq_false (by omega)
 have B:bG 2=⟨#[114,101,102]⟩:=rfl
 rw [B] at o
 unfold bkN at o
 have aa:Hid (∀(v:Value) (w:World),(Instr.build 128 #[(0,.pointer (some ⟨g,0,none⟩)),(1,.agg #[.slice none 0 0,v])]).run prog w= .ok (.agg #[.pointer (some ⟨g,0,none⟩),.slice none 0 0,v,.int .i64 0]) w):=ah (xO g)
 clear S hG T d B D
 go_enter func35,ntmps35
 go_wp2_with fail
 refine o.out.mono ?_
 rintro e w3 ⟨rfl,b⟩
 have ab:=ah b
 replace m:=ah (m.out.below b)
 have t:=ah (Kp.of (O:=O) b)
 replace X:=ah (X.out.below b)
 clear b
 go_wp2_with fail
 refine (I.out w3 X.out).mono ?_
 rintro e w4 ⟨v,⟨rfl,G⟩,p⟩
 have r:=ah G
 have u:=ah p
 obtain ⟨K,P,rfl⟩:=open_row p.1.log
 clear G p
 go_wp2_with fail
 have a:Below w3.heap.size w3 (w4.alloc (.cells #[.slice none 0 0,.slice K l.length P] 51)):=r.out.alloc r.out.size _
 obtain ⟨w5,f⟩:∃z,(w4.alloc (.cells #[.slice none 0 0,.slice K l.length P] 51)).alloc (.cells #[.pointer (some ⟨g,0,none⟩),.slice none 0 0,.slice K l.length P,.int .i64 0] 128)=z:=⟨_,rfl⟩
 have E:Below w3.heap.size w3 w5:=by rw [←f];exact a.alloc a.size _
 obtain ⟨O',hd,ho,h1,i,J⟩:=Z.out w3 _ w5 (w4.heap.size+1) _ m.out t.out.size a ⟨u.out.1.below bal,u.out.2⟩ (by simp) f
 have U:=ah (t.out.trans (Kp.of E))
 have V:=ah (F.out O' w5 _ _ hd ho)
 have Q:=ah (And.intro h1 (And.intro i J))
 rw [f]
 clear a f E hd ho h1 i J Z F
 refine V.out.mono ?_
 rintro e w6 ⟨rfl,C,H,y⟩
 have A:Hid (ET O N R M g q (L.put 2 bkN (some (s,s.size))) sy l w (.returned (.tuple #[.pointer (some ⟨w4.heap.size+1,0,none⟩),.int .i64 0])) w6):=ah ⟨O',w4.heap.size+1,.slice K l.length P,rfl,C,H,U.out.trans (y.mono fun j _ hj Y=>hj.elim (fun h=>h (Q.out.1 j Y)) (fun h=>Q.out.2.2 (h▸Y))),Q.out.1,Q.out.2.1,by have h1:=t.out.size;have i:=r.out.size;omega⟩
 clear C H y
 go_wp2_with fail
 go_ret2
 exact A.out
end
theorem gB.chg {S:Nat→Prop} {w w':World} {vt vl:Value} {t l:List Rf} (h:gB w vt vl t l) (a:Chg S w w') (d:t≠[]→ ∀k,vt.ownBlock=some k→ ¬S k) (b:l≠[]→ ∀k,vl.ownBlock=some k→ ¬S k):gB w' vt vl t l:=⟨h.tab.chg a d,h.log.chg a b,h.capt,h.capl,h.ok⟩
theorem OpB.mid {w:World} {b:Nat} {d vt vl:Value} {t l:List Rf} {n:Nat} (h:OpB w b d vt vl t l n):w.rangeAt b 1 [vt,vl]:=fun j u hu=>by
 have:=h.box.range (j+1) u (by
  match j,hu with
  | 0,hu=>exact hu
  | 1,hu=>exact hu
  | j+2,hu=>simp at hu)
 rwa [show 0+(j+1)=1+j from by omega] at this
section
variable {O:Nat → Prop} {N R M:Nat} {w:World} {g:Nat} {q:Int} {L:LK} {sy:Nat → Bool} {b:Nat} {vt vl:Value} {t l:List Rf} {n:Nat} {d:ByteArray × Nat}
def oZ (O:Nat→Prop) (N R M:Nat) (g:Nat) (q:Int) (L:LK) (sy:Nat→Bool) (b:Nat) (vt vl:Value) (t l:List Rf) (n:Nat) (d:ByteArray×Nat) (r:Rf) (w:World) (e:Ending) (w':World):Prop :=
 (if aO t (l++[r])=true then e= .returned (.int .i64 0)∧ ∃O' v1 v2,DV O' N R M w' g q (L.put 2 bkN (some (d.1++ofB (kN r),d.2))) sy∧OpO O' w' b g v1 v2 t (l++[r]) n∧(∀k,O k→O' k)∧(∀k,O' k→O k∨w.heap.size≤k)∧(t≠[]→ ∀k,v1.ownBlock=some k→w.heap.size≤k)∧ ∀k,v2.ownBlock=some k→w.heap.size≤k
 else e= .returned (.int .i64 18)∧DV O N R M w' g q L sy∧OpO O w' b g vt vl t l n)∧Chg (fun k=> ¬O k∨k=b) w w'
theorem uL (hv:DV O N R M w g q L sy) (hG:eP w) (ho:OpO O w b g vt vl t l n) (r:Rf) (old:List UInt8) (hr:r.1.size≤1000) (a5:r.2.length=32) (a9:fZ t l r.1=old) (a0:old.length=32) (bh:aO t l=true) (am:aN r.1=true) (hs:L 2 bkN=some d) (hM:d.1.size+81≤M) (b9:M≤1000000) (hq:3*(N*M)+M≤q) (b1:q≤1000000000) :
  Calls prog 62 #[.pointer (some ⟨b,0,none⟩),.string r.1,.agg (idC old).toArray,.agg (idC r.2).toArray] w (oZ O N R M g q L sy b vt vl t l n d r w):=by
 obtain ⟨bp,ch,b4⟩:=fQ bh
 obtain ⟨W,hW⟩:∃W,(w.alloc (.cells (idC old).toArray 42)).alloc (.cells (idC r.2).toArray 42)=W:=⟨_,rfl⟩
 have X:Below w.heap.size w W:=by rw [←hW];exact bal.alloc (by simp) _
 have bi:ak W w.heap.size 42 (idC old):=by rw [←hW];exact (ak.new w 42 (idC old)).below bal
 have bf:ak W (w.heap.size+1) 42 (idC r.2):=by
  rw [←hW]
  have:=ak.new (w.alloc (.cells (idC old).toArray 42)) 42 (idC r.2)
  rwa [World.size_alloc] at this
 have bu:=ah X
 have bm:=ah bi
 have bn:=ah bf
 have cp:=ah (ho.below X)
 have aE:=ah (fun V (hb:Below W.heap.size W V)=>yR V b _ vt vl t l n r.1 ((ho.below X).below hb).op (by omega) (by omega) (by unfold maxLen;omega))
 rw [a9] at aE
 unfold dL at aE
 have ao:=ah (fun V (hb:Below W.heap.size W V)=>uh vt vl t l r V ((ho.below X).below hb).op.row hr a5 (by omega) (by omega) ((hG.below X).below hb).crc ((hG.below X).below hb).laid.lt)
 unfold Bg at ao
 rw [bh,am] at ao
 have b7:=vO (r:=r) (by
  unfold aN at am
  rw [Bool.and_eq_true,decide_eq_true_eq] at am
  exact am.2.2) a5
 have ce:=ah hv
 have cm:Hid (∀V,Below w.heap.size w V→Calls prog 113 #[.pointer (some ⟨g,0,none⟩),.string ⟨#[114,101,102]⟩,.string ⟨#[98,111,111,107]⟩,.string (ofB (kN r))] V (yY (Ou O w V) N R M g q (L.put 2 bkN (some (d.1++ofB (kN r),d.2))) sy V)):=ah fun V hb =>
  tT (k:=2) (x:=bkN) (hv.on hb) (by omega) lZ.1 hs (ofB (kN r)) (by rw [aR];omega) (by omega) (by rw [aR];omega) b1
 have cf:=ah hv.olt
 have ap:=ah ho
 have ck:∀w,(Op.equalIn 10000 42 (.agg (idC old).toArray) (.agg (idC old).toArray)).run prog w= .ok true w:=by
  have:=gM old old a0 a0
  simpa using this
 have a8:(prog.info? 42).map (·.size)=some (idC old).length:=by rw [av,a0];exact bR
 have ag:(prog.info? 42).map (·.size)=some (idC r.2).length:=by rw [av,a5];exact bR
 have br:=ah (show ∀e w',oZ O N R M g q L sy b vt vl t l n d r w e w'↔oZ O N R M g q L sy b vt vl t l n d r w e w' from fun _ _=>Iff.rfl)
 obtain ⟨at_,ct,cj⟩:=open_row ho.op.row.tab
 obtain ⟨al,cl,cc⟩:=open_row ho.op.row.log
 subst cj cc
 have ax:∀V,Below W.heap.size W V→V.rangeAt b 1 [.slice at_ t.length ct,.slice al l.length cl]:=fun V hb =>
  ((ho.below X).below hb).op.mid
 have HW:=ah hW
 have cq:=ah bN
 clear hv hG ho hr a9 a0 bh am hs hM b9 hq b1 b7 bp ch b4 a5
 generalize b6:idC old=co at bi bm aE ck a8 HW
 generalize cn:idC r.2=ci at bf bn ao ag HW
 clear b6 cn hW br
 have be:Hid (∀V,Below W.heap.size W V→V.rangeAt w.heap.size 0 co∧V.rangeAt (w.heap.size+1) 0 ci∧V.rangeAt b 1 [.slice at_ t.length ct,.slice al l.length cl]):=ah fun V hb=>⟨(bm.out.below hb).range,(bn.out.below hb).range,ax V hb⟩
 clear ax bi bf
 go_enter func62,ntmps62
 go_upto_region 3 with fail
 rw [HW.out]
 have a3:=be.out W.drew (Below.refl _ _).drew
 refine wrL 5 (fun x=>x.rangeAt w.heap.size 0 co∧x.rangeAt (w.heap.size+1) 0 ci∧x.rangeAt b 1 [.slice at_ t.length ct,.slice al l.length cl]) ?_
 refine WL.tk 0 a3 ?_
 refine WL.tk 1 a3 ?_
 refine WL.tk 3 a3 ?_ (hy:=(fun w' J=>aM 42 _ (J.1) underlying42 rfl a8 _ rfl rfl))
 refine WL.on 2 ?_
 go_wp2_with fail
 refine (aE.out _ (Below.refl _ _).drew).mono ?_
 rintro e w1 ⟨rfl,bz⟩
 have ac:=ah (bC bz)
 have bb:=be.out w1 ac.out
 clear bz a3
 go_wp2_with fail
 refine ⟨bb,?_⟩
 refine WL.tk 4 bb ?_
 refine WL.la 5 ?_
 clear bb
 go_upto_region 5 with fail
 have af:=ah (bu.out.trans (ac.out.mono bu.out.size))
 have o:Hid (∀V,Below w1.heap.size w1 V→V.rangeAt w.heap.size 0 co∧V.rangeAt (w.heap.size+1) 0 ci∧V.rangeAt b 1 [.slice at_ t.length ct,.slice al l.length cl]):=ah (fun V hb=>be.out V (ac.out.trans (hb.mono ac.out.size)))
 have G:=ah (fun V (hb:Below w1.heap.size w1 V)=>ao.out V (ac.out.trans (hb.mono ac.out.size)))
 have bx:(prog.info? 51).map (·.size)=some ([.slice at_ t.length ct,.slice al l.length cl]:List Value).length:=bN
 obtain ⟨F,a7⟩:∃z,l++[r]=z:=⟨_,rfl⟩
 rw [a7] at G
 have bs:=ah a7
 have cd:Hid (F≠[]):=ah (by rw [←a7];simp)
 clear ao a7
 cases C:aO t F with
 | false =>
  rw [C] at G
  have bc:=ah C
  clear C
  have y:=o.out w1.drew (Below.refl _ _).drew
  refine wrL 14 (fun x=>x.rangeAt w.heap.size 0 co∧x.rangeAt (w.heap.size+1) 0 ci∧x.rangeAt b 1 [.slice at_ t.length ct,.slice al l.length cl]) ?_
  refine WL.tk 0 y ?_
  refine WL.tk 1 y ?_
  refine WL.tk 2 y ?_
  refine WL.tk 3 y ?_ (hy:=(fun w' J=>aM 51 _ (J.2.2) underlying51 rfl bx _ rfl rfl))
  refine WL.tk 4 y ?_
  refine WL.tk 5 y ?_ (hy:=(fun w' J=>aM 42 _ (J.2.1) underlying42 rfl ag _ rfl rfl))
  refine WL.tw 6 11 ?_ ?_
  focus
   go_wp2_with fail
   refine (G.out _ (Below.refl _ _).drew).mono ?_
   rintro e E ⟨rfl,ar⟩
   have p:=ah (bC ar)
   have m:=o.out E p.out
   have A:Hid (Below w1.heap.size w1 (E.alloc (.cells #[.slice none 0 0,.slice none 0 0] 51))):=ah (p.out.alloc p.out.size _)
   have i:=o.out _ A.out
   have u:Hid (ak (E.alloc (.cells #[.slice none 0 0,.slice none 0 0] 51)) E.heap.size 51 (#[.slice none 0 0,.slice none 0 0]:Array Value).toList):=ah (by have:=ak.new E 51 (#[.slice none 0 0,.slice none 0 0]:Array Value).toList;simpa using this)
   have I:Hid (Below E.heap.size E (E.alloc (.cells #[.slice none 0 0,.slice none 0 0] 51))):=ah bal
   have H:=p.out.size
   clear ar
   go_wp2
   refine ⟨m,?_⟩
   refine WL.tk 7 m ?_
   refine WL.tk 8 m ?_
   refine WL.tk 9 m ?_
   refine WL.tk 10 m ?_
   refine WL.on 11 ?_
   go_wp2
   refine ⟨i,?_⟩
   obtain ⟨P,S⟩:∃P,E.heap.size=P:=⟨_,rfl⟩
   obtain ⟨Q,ae⟩:∃Q,E.alloc (.cells #[.slice none 0 0,.slice none 0 0] 51)=Q:=⟨_,rfl⟩
   rw [ae] at A i u I  ⊢
   rw [S] at u H 
   simp only [S]
   clear S ae m I
  rotate_left
  focus
   have p:Hid (Below w1.heap.size w1 (w1.alloc (.cells #[.slice none 0 0,.slice none 0 0] 51)).drew):=ah (bal.drew)
   have aq:ak (w1.alloc (.cells #[.slice none 0 0,.slice none 0 0] 51)).drew w1.heap.size 51 (#[.slice none 0 0,.slice none 0 0]:Array Value).toList:=(show ak (w1.alloc (.cells #[.slice none 0 0,.slice none 0 0] 51)) w1.heap.size 51 (#[.slice none 0 0,.slice none 0 0]:Array Value).toList from by have:=ak.new w1 51 (#[.slice none 0 0,.slice none 0 0]:Array Value).toList;simpa using this)
   have m:=o.out _ p.out
   go_wp2
   refine ⟨m,?_⟩
   refine WL.on 6 ?_
   go_wp2_with fail
   refine (G.out _ p.out).mono ?_
   rintro e Q ⟨rfl,Y⟩
   have u:=ah (aq.below Y)
   have A:=bth p Y
   have i:=o.out _ A.out
   have H:w1.heap.size≤w1.heap.size:=Nat.le_refl _
   clear Y aq
   go_wp2
   refine ⟨i,?_⟩
   refine WL.tk 7 i ?_
   refine WL.tk 8 i ?_
   refine WL.tk 9 i ?_
   refine WL.tk 10 i ?_
   obtain ⟨P,S⟩:∃P,P=w1.heap.size:=⟨_,rfl⟩
   rw [←S] at u 
   have H:w1.heap.size≤P:=by omega
   simp only [←S]
   clear S m
  all_goals
   refine WL.on 12 ?_
   refine aj rfl 51 _ _ rfl P 0 [.slice none 0 0,.slice none 0 0] rfl rfl 2 rfl (by have:=u.out.there;simpa [] using this) bN (by intro v hv;simp at hv;rw [hv];rfl) ?_
   simp only [Act.put,nz]
   have K:=ah (below_setCells (B:=w1.heap.size) (a:=w1) P H [.slice none 0 0,.slice none 0 0] 0 Q A.out)
   have Z:=ah (u.out.set (us:=[.slice none 0 0,.slice none 0 0]) (by simp []))
   have ad:Hid (Chg (fun k=>k=P) Q (Q.setCells P 0 [.slice none 0 0,.slice none 0 0])):=ah (fO P [.slice none 0 0,.slice none 0 0] Q)
   generalize Q.setCells P 0 [.slice none 0 0,.slice none 0 0]=w8 at K Z ad
   have T:=o.out _ K.out
   refine ⟨T,?_⟩
   refine WL.tk 13 T ?_
   refine WL.la 14 ?_
   clear T i y u A
  all_goals
   have U:=ah (af.out.trans (K.out.mono af.out.size))
   clear Z ad K H
   go_wp2_with fail
   go_ret
   unfold oZ
   rw [bs.out,bc.out]
   exact ⟨⟨rfl,ce.out.below U.out,ap.out.below U.out⟩,Chg.of_below U.out⟩
 | true =>
  rw [C] at G
  have bc:=ah C
  clear C
  have y:=o.out w1.drew (Below.refl _ _).drew
  refine wrL 14 (fun x=>x.rangeAt w.heap.size 0 co∧x.rangeAt (w.heap.size+1) 0 ci∧x.rangeAt b 1 [.slice at_ t.length ct,.slice al l.length cl]) ?_
  refine WL.tk 0 y ?_
  refine WL.tk 1 y ?_
  refine WL.tk 2 y ?_
  refine WL.tk 3 y ?_ (hy:=(fun w' J=>aM 51 _ (J.2.2) underlying51 rfl bx _ rfl rfl))
  refine WL.tk 4 y ?_
  refine WL.tk 5 y ?_ (hy:=(fun w' J=>aM 42 _ (J.2.1) underlying42 rfl ag _ rfl rfl))
  refine WL.tw 6 11 ?_ ?_
  focus
   go_wp2_with fail
   refine (G.out _ (Below.refl _ _).drew).mono ?_
   rintro e E ⟨⟨v1,v2,rfl,s⟩,ar⟩
   have p:=ah (bC ar)
   have m:=o.out E p.out
   have A:Hid (Below w1.heap.size w1 (E.alloc (.cells #[.slice none 0 0,.slice none 0 0] 51))):=ah (p.out.alloc p.out.size _)
   have i:=o.out _ A.out
   have u:Hid (ak (E.alloc (.cells #[.slice none 0 0,.slice none 0 0] 51)) E.heap.size 51 (#[.slice none 0 0,.slice none 0 0]:Array Value).toList):=ah (by have:=ak.new E 51 (#[.slice none 0 0,.slice none 0 0]:Array Value).toList;simpa using this)
   have I:Hid (Below E.heap.size E (E.alloc (.cells #[.slice none 0 0,.slice none 0 0] 51))):=ah bal
   obtain ⟨a1,c1,rfl⟩:=open_row s.1.tab
   obtain ⟨a2,c2,rfl⟩:=open_row s.1.log
   have az:=ah (s.1.below I.out)
   have bd:Hid (FrB w1.heap.size (.slice a1 t.length c1)∧FrB w1.heap.size (.slice a2 F.length c2)):=ah s.2
   have aw:Hid ((t≠[]→ ∀k,(Value.slice a1 t.length c1).ownBlock=some k→ ¬k=E.heap.size)∧(F≠[]→ ∀k,(Value.slice a2 F.length c2).ownBlock=some k→ ¬k=E.heap.size)):=ah ⟨fun D k f=>by have:=s.1.tab.olt D f;omega,fun D k f=>by have:=s.1.log.olt D f;omega⟩
   clear s
   have H:=p.out.size
   clear ar
   go_wp2
   refine ⟨m,?_⟩
   refine WL.tk 7 m ?_
   refine WL.tk 8 m ?_
   refine WL.tk 9 m ?_
   refine WL.tk 10 m ?_
   refine WL.on 11 ?_
   go_wp2
   refine ⟨i,?_⟩
   obtain ⟨P,S⟩:∃P,E.heap.size=P:=⟨_,rfl⟩
   obtain ⟨Q,ae⟩:∃Q,E.alloc (.cells #[.slice none 0 0,.slice none 0 0] 51)=Q:=⟨_,rfl⟩
   rw [ae] at A i u I az ⊢
   rw [S] at u H aw
   simp only [S]
   clear S ae m I
  rotate_left
  focus
   have p:Hid (Below w1.heap.size w1 (w1.alloc (.cells #[.slice none 0 0,.slice none 0 0] 51)).drew):=ah (bal.drew)
   have aq:ak (w1.alloc (.cells #[.slice none 0 0,.slice none 0 0] 51)).drew w1.heap.size 51 (#[.slice none 0 0,.slice none 0 0]:Array Value).toList:=(show ak (w1.alloc (.cells #[.slice none 0 0,.slice none 0 0] 51)) w1.heap.size 51 (#[.slice none 0 0,.slice none 0 0]:Array Value).toList from by have:=ak.new w1 51 (#[.slice none 0 0,.slice none 0 0]:Array Value).toList;simpa using this)
   have m:=o.out _ p.out
   go_wp2
   refine ⟨m,?_⟩
   refine WL.on 6 ?_
   go_wp2_with fail
   refine (G.out _ p.out).mono ?_
   rintro e Q ⟨⟨v1,v2,rfl,s⟩,Y⟩
   have u:=ah (aq.below Y)
   have A:=bth p Y
   have i:=o.out _ A.out
   obtain ⟨a1,c1,rfl⟩:=open_row s.1.tab
   obtain ⟨a2,c2,rfl⟩:=open_row s.1.log
   have az:=ah s.1
   have bj:(w1.alloc (.cells #[.slice none 0 0,.slice none 0 0] 51)).drew.heap.size=w1.heap.size+1:=by simp
   have bd:Hid (FrB w1.heap.size (.slice a1 t.length c1)∧FrB w1.heap.size (.slice a2 F.length c2)):=ah ⟨fun k f=>by have:=s.2.1 k f;omega,fun k f=>by have:=s.2.2 k f;omega⟩
   have aw:Hid ((t≠[]→ ∀k,(Value.slice a1 t.length c1).ownBlock=some k→ ¬k=w1.heap.size)∧(F≠[]→ ∀k,(Value.slice a2 F.length c2).ownBlock=some k→ ¬k=w1.heap.size)):=ah ⟨fun D k f=>by have:=s.2.1 k f;omega,fun D k f=>by have:=s.2.2 k f;omega⟩
   clear s bj
   have H:w1.heap.size≤w1.heap.size:=Nat.le_refl _
   clear Y aq
   go_wp2
   refine ⟨i,?_⟩
   refine WL.tk 7 i ?_
   refine WL.tk 8 i ?_
   refine WL.tk 9 i ?_
   refine WL.tk 10 i ?_
   obtain ⟨P,S⟩:∃P,P=w1.heap.size:=⟨_,rfl⟩
   rw [←S] at u aw
   have H:w1.heap.size≤P:=by omega
   simp only [←S]
   clear S m
  all_goals
   refine WL.on 12 ?_
   refine aj rfl 51 _ _ rfl P 0 [.slice a1 t.length c1,.slice a2 F.length c2] rfl rfl 2 rfl (by have:=u.out.there;simpa [] using this) bN (by intro v hv;simp at hv;rcases hv with rfl|rfl<;>rfl) ?_
   simp only [Act.put,nz]
   have K:=ah (below_setCells (B:=w1.heap.size) (a:=w1) P H [.slice a1 t.length c1,.slice a2 F.length c2] 0 Q A.out)
   have Z:=ah (u.out.set (us:=[.slice a1 t.length c1,.slice a2 F.length c2]) (by simp []))
   have ad:Hid (Chg (fun k=>k=P) Q (Q.setCells P 0 [.slice a1 t.length c1,.slice a2 F.length c2])):=ah (fO P [.slice a1 t.length c1,.slice a2 F.length c2] Q)
   generalize Q.setCells P 0 [.slice a1 t.length c1,.slice a2 F.length c2]=w8 at K Z ad
   have T:=o.out _ K.out
   refine ⟨T,?_⟩
   refine WL.tk 13 T ?_
   refine WL.la 14 ?_
   clear T i y u A
  all_goals
   have U:=ah (af.out.trans (K.out.mono af.out.size))
   have ai:=ah (az.out.chg ad.out aw.out.1 aw.out.2)
   have b2:=ah (ap.out.below U.out)
   have d0:w8.cell? ⟨b,0,none⟩=some (.pointer (some ⟨g,0,none⟩)):=b2.out.op.box.range 0 _ rfl
   have ba:=ah af.out.size
   clear ad az K
   go_wp2_with fail
   refine (cm.out w8 U.out).mono ?_
   rintro e w9 ⟨rfl,b3,an⟩
   have b8:=Z.out.lt
   have b5:=ah (Z.out.kp an (.inr ⟨Nat.le_trans ba.out H,b8⟩))
   have ab:t≠[]→ ∀k,(Value.slice a1 t.length c1).ownBlock=some k→w.heap.size≤k∧k<w8.heap.size:=fun D k f=>⟨Nat.le_trans ba.out (bd.out.1 k f),ai.out.tab.olt D f⟩
   have aa:F≠[]→ ∀k,(Value.slice a2 F.length c2).ownBlock=some k→w.heap.size≤k∧k<w8.heap.size:=fun D k f=>⟨Nat.le_trans ba.out (bd.out.2 k f),ai.out.log.olt D f⟩
   have b4:b<w.heap.size:=cf.out b ap.out.ob
   have bt:=ah (ai.out.chg an (fun D k f h=>h (.inr (ab D k f))) (fun D k f h=>h (.inr (aa D k f))))
   have bo:=ah ((b2.out.sub (O':=Ou O w w8) fun k f=> .inl f).kp an)
   obtain ⟨WE,a4⟩:∃z,w9.setCells b 1 [.slice a1 t.length c1,.slice a2 F.length c2]=z:=⟨_,rfl⟩
   have a6:Chg (fun k=>k=b) w9 WE:=by
    rw [←a4]
    have h:=bP w9 b 1 [.slice a1 t.length c1,.slice a2 F.length c2]
    exact ⟨h.os,h.tape,h.output,h.size,fun k f D=>h.block k f (fun e=>D (Option.some.inj e))⟩
   have b0:ak WE b 128 [.pointer (some ⟨g,0,none⟩),.slice a1 t.length c1,.slice a2 F.length c2,.int .i64 (n:Int)]:=by
    rw [←a4]
    exact (bo.out.op.box.put 1 (.slice a1 t.length c1)).put 2 (.slice a2 F.length c2)
   have bv:w9.there b 1 2:=fun j hj=>by
    have:=bo.out.op.box.there (1+j) (by simp;omega)
    rwa [Nat.zero_add] at this
   have e9:=b5.out.range
   have ca:(prog.info? 51).map (·.size)=some ([.slice a1 t.length c1,.slice a2 F.length c2]:List Value).length:=bN
   have bk:Hid (oZ O N R M g q L sy b (.slice at_ t.length ct) (.slice al l.length cl) t l n d r w (.returned (.int .i64 0)) WE):=ah (by
    unfold oZ
    rw [bs.out,bc.out]
    refine ⟨⟨rfl,Ou O w w8,_,_,b3.chg a6 (fun j hj=>hj ▸ .inl ap.out.ob),⟨⟨b0,bt.out.chg a6 (fun D k f e=> ?_) (fun D k f e=> ?_)⟩,.inl ap.out.ob,fun D k f=>⟨.inr (ab D k f),?_⟩,fun D k f=>⟨.inr (aa D k f),?_⟩⟩,fun k f=> .inl f,fun k f=>f.imp id fun h=>h.1,fun D k f=>(ab D k f).1,fun k f=>(aa cd.out k f).1⟩,(Chg.of_below U.out).trans ((an.mono fun k _ f=> .inl fun h=>f (.inl h)).trans (a6.mono fun k _ f=> .inr f))⟩
    ·have:=(ab D k f).1;omega
    ·have:=(aa D k f).1;omega
    ·have:=(ab D k f).1;omega
    have:=(aa D k f).1;omega)
   have cg:=ah a4
   have cb:=ah bv
   clear a4 a6 b0 bv ab aa b3 an d0
   go_wp2_with (first|(refine wpList_load_mid rfl 51 _ rfl P 0 rfl [.slice a1 t.length c1,.slice a2 F.length c2] _ e9 underlying51 rfl ca ?_)|(refine aj rfl 51 _ _ rfl b 1 [.slice a1 t.length c1,.slice a2 F.length c2] rfl rfl 2 rfl cb.out bN (by intro v hv;simp at hv;rcases hv with rfl|rfl<;>rfl) ?_;rw [cg.out]))
   go_ret
   exact bk.out
end
end
section
open Go.RowKit Go.Maps Go.Sort Go.Shelf
theorem F7 (mb:Option Nat) (w:World):Calls prog 137 #[.map mb] w fun e w'=>e= .returned (.func (.func 201) #[] #[.pointer (some ⟨w.heap.size,0,none⟩)])∧w'=w.alloc (.cells #[.map mb] 132) :=
 callsIn_wide.1 (AnyZ.keys_in Tryz.keysP Fence.wide 5 trivial rfl mb w)
theorem Bv {α:Type} {enc:α→Value} (b n:Nat) (f:ByteArray→Option α) (l:List ByteArray) (w:World) (hm:aZ enc w b n f) (m:n≤1000000) (y:rV l) (q:∀x,x.size≤maxLen→((f x).isSome=true↔x∈l)) (o:∀x∈l,x.size≤maxLen) :
  Calls prog 119 #[.func (.func 201) #[] #[.pointer (some ⟨w.heap.size,0,none⟩)]] (w.alloc (.cells #[.map (some b)] 132)) fun e w'=> ∃v,e= .returned v∧mg w' v l∧Below w.heap.size w w':=by
 obtain ⟨D,a,j⟩:=hm
 have k:=a.lt
 have p:Maps.size D≤1000000:=Nat.le_trans a.size_le m
 have i:SeqGives Fence.wide 2 prog 201 #[.pointer (some ⟨w.heap.size,0,none⟩)] encStr (fun ss=>ss.Perm (strKeys D)) (Maps.size D) (w.alloc (.cells #[.map (some b)] 132)) :=
  AnyZ.keys_gives (ρ:=Tryz.keysP_ren) { Tryz.keysP with } Fence.wide _ trivial rfl (by omega) w.heap.size b n D _ (by simp) (by simp) (by
   obtain ⟨es,g,hb,t,j,u⟩:=a
   exact ⟨es,g,(Below.heap_alloc _ _ b k).trans hb,t,j,u⟩)
 have h:=callsIn_wide.1 (AnyZ.sorted_in Tryz.sortedS Fence.wide 5 trivial trivial trivial trivial rfl (by omega) (LD _) (enters_of func189 (by kernel_rfl) rfl) 201 #[.pointer (some ⟨w.heap.size,0,none⟩)] trivial (enters_of func201 (by kernel_rfl) rfl) _ _ (by unfold maxLen;omega) (by omega) _ i)
 refine h.mono ?_
 rintro e w' ⟨v,ss,r,hS,d,_,hb⟩
 obtain ⟨s,z⟩:=uF a j y q o hS
 rw [s,z] at d
 refine ⟨v,r,mg.iE d,((Below.refl _ w).alloc (Nat.le_refl _) _).trans (hb.mono (by simp))⟩
def iO (w:World) (b m:Nat):Prop:=ak w b 134 [.map (some m)]∧aZ bF w m 0 fun _=>none
theorem iO.below {w w':World} {b m:Nat} (h:iO w b m) (hb:Below w.heap.size w w'):iO w' b m:=⟨h.1.below hb,h.2.on hb⟩
theorem wP (b m:Nat) (w:World) (h:iO w b m):Calls prog 77 #[.pointer (some ⟨b,0,none⟩)] w fun e w'=> ∃v,e= .returned v∧mg w' v []∧Below w.heap.size w w':=by
 obtain ⟨hx,hm⟩:=h
 have k:w.cell? ⟨b,0,none⟩=some (.map (some m)):=hx.range 0 _ rfl
 have HS:=ah (Bv m 0 (fun _=>(none:Option Nat)) [] w hm (by omega) List.Pairwise.nil (fun x _=>by simp) (fun x hx=>by cases hx))
 have i:=ah (F7 (some m) w)
 obtain ⟨W,f⟩:∃W,w.alloc (.cells #[.map (some m)] 132)=W:=⟨_,rfl⟩
 rw [f] at HS i
 clear f hx hm
 go_enter func77,ntmps77
 go_wp2_with fail
 refine i.out.mono ?_
 rintro e l ⟨rfl,rfl⟩
 go_wp2_with fail
 refine HS.out.mono ?_
 rintro e w3 ⟨v,rfl,g,a⟩
 have d:=ah a
 have j:=ah g
 clear g a
 go_wp2_with fail
 go_ret
 exact ⟨v,rfl,j.out,d.out⟩
theorem Je (m:Nat) (w:World):(Instr.build 134 #[(0,.map (some m))]).run prog w= .ok (.agg #[.map (some m)]) w:=run_build w 134 _ _ (by kernel_rfl)
section
variable {O:Nat → Prop} {N R M:Nat} {w:World} {g:Nat} {q:Int} {L:LK} {sy:Nat → Bool}
theorem Og (h:DV O N R M w g q L sy) (a:N+R≤1000000) (h1:∀y,L 1 y=none):Calls prog 70 #[.pointer (some ⟨g,0,none⟩),.string ⟨#[112,97,99,107]⟩] w fun e w'=> ∃v,e= .returned v∧mg w' v []∧Below w.heap.size w w':=by
 obtain ⟨d,b,f,i⟩:=h.at2 a
 exact tH g d mF 1 [] w b (by decide) rfl List.Pairwise.nil (fun y=>by rw [f 1 y (by omega)];unfold LK.dk;rw [h1];simp) (fun y hy=>by cases hy)
theorem JX (h:DV O N R M w g q L sy) (m:N+R≤1000000) (h1:∀y,L 1 y=none):Calls prog 55 #[.pointer (some ⟨g,0,none⟩)] w fun e w'=>e= .returned (.pointer (some ⟨w.heap.size+1,0,none⟩))∧iO w' (w.heap.size+1) w.heap.size∧Below w.heap.size w w':=by
 have l:=@run_makeMap prog
 have j:=ah (Je w.heap.size)
 have b:Hid (Below w.heap.size w ((w.alloc (.map #[] 0)).alloc (.cells #[.map (some w.heap.size)] 134))):=ah (bal.alloc (by simp) _)
 have k:=ah (fun W (hb:Below w.heap.size w W)=>Og (h.below hb) m h1)
 have f:Hid (iO ((w.alloc (.map #[] 0)).alloc (.cells #[.map (some w.heap.size)] 134)) (w.heap.size+1) w.heap.size):=ah (by
  have hm:aZ bF (w.alloc (.map #[] 0)) w.heap.size 0 fun _=>(none:Option Nat):=nX w
  have hb:=ak.new (w.alloc (.map #[] 0)) 134 [.map (some w.heap.size)]
  rw [World.size_alloc] at hb
  exact ⟨hb,hm.on bal⟩)
 clear h h1
 go_enter func55,ntmps55
 go_wp2_with fail
 refine (k.out _ b.out).mono ?_
 rintro e w1 ⟨v,rfl,n,a⟩
 obtain ⟨o,cap,rfl,_,_⟩:=n
 have i:=bth b a
 have d:=ah (f.out.below a)
 clear a
 go_wp2_with fail
 refine wp_loop_rounds 1 ?_
 rw [rounds_succ]
 go_wp2_with fail
 go_ret
 exact ⟨rfl,d.out,i.out⟩
end
theorem Fq (b m:Nat) (x:List UInt8) (w:World) (h:iO w b m):Calls prog 38 #[.pointer (some ⟨b,0,none⟩),.agg (idC x).toArray] w fun e w'=>e= .returned (.tuple #[.agg #[.int .i64 0,.string ⟨#[]⟩],.bool false])∧Below w.heap.size w w':=by
 have s:=FQ
 obtain ⟨W0,a⟩:∃W,(w.alloc (.cells (idC x).toArray 42)).alloc (.cells #[.int .i64 0,.string ⟨#[]⟩] 33)=W:=⟨_,rfl⟩
 have g:Hid (Below w.heap.size w W0):=ah (by rw [←a];exact bal.alloc (by simp) _)
 have l:Hid (ak W0 (w.heap.size+1) 33 [.int .i64 0,.string ⟨#[]⟩]):=ah (by
  rw [←a]
  have:=ak.new (w.alloc (.cells (idC x).toArray 42)) 33 [.int .i64 0,.string ⟨#[]⟩]
  rwa [World.size_alloc] at this)
 have HS:=ah (wP b m W0 (h.below g.out))
 have j:=ah a
 clear a h
 generalize idC x=cx at j ⊢
 go_enter func38,ntmps38
 go_upto_region 1 with fail
 rw [j.out]
 go_wp2_with fail
 refine HS.out.mono ?_
 rintro e w1 ⟨v,rfl,k,d⟩
 obtain ⟨u,cap,rfl,_,_⟩:=k
 have q:=bth g d
 have i:=ah (l.out.below d)
 clear d
 go_wp2_with fail
 refine wp_loop_rounds 1 ?_
 rw [rounds_succ]
 go_upto_region 11 with fail
 refine wp_region_lit ?_
 refine aW rfl (.agg #[.int .i64 0,.string ⟨#[]⟩]) (by first|rfl|(go_simp;done)|(go_simp;rfl)) ?_
 simp only [Act.put,nz]
 obtain ⟨r,f⟩:∃z,w1.setCells (w.heap.size+1) 0 [.int .i64 0,.string ⟨#[]⟩]=z:=⟨_,rfl⟩
 have n:r.rangeAt (w.heap.size+1) 0 [.int .i64 0,.string ⟨#[]⟩]:=by rw [←f];exact (i.out.set (us:=[.int .i64 0,.string ⟨#[]⟩]) rfl).range
 have o:Hid (Below w.heap.size w r):=ah (by rw [←f];exact below_setCells _ (by omega) _ _ _ q.out)
 have p:=i.out.there
 have t:(prog.info? 33).map (·.size)=some ([.int .i64 0,.string ⟨#[]⟩]:List Value).length:=eH
 refine aj rfl 33 _ _ rfl (w.heap.size+1) 0 [.int .i64 0,.string ⟨#[]⟩] rfl rfl 2 rfl p eH (by intro v k;simp at k;rcases k with rfl|rfl<;>rfl) ?_
 rw [f]
 simp only [Act.put,nz]
 go_wp2_with fail
 refine aP rfl (w.heap.size+1) 0 rfl [.int .i64 0,.string ⟨#[]⟩] _ n underlying33 rfl t rfl _ rfl ?_
 exact ⟨rfl,o.out⟩
theorem Fp (b m:Nat) (w:World) (h:iO w b m):Calls prog 58 #[.pointer (some ⟨b,0,none⟩)] w fun e w'=>e= .returned (.slice none 0 0)∧Below w.heap.size w w':=by
 have HS:=ah (wP b m w h)
 have f:Hid (∀w,Calls prog 46 #[.slice none 0 0,.func (.func 105) #[] #[]] w fun e w'=>e= .returned (.tuple #[])∧w'=w):=ah fun w =>
  AnyF.slices_SortFunc_none (P:=prog) (ρ:=Tryz.sortI_ren) { Tryz.sortI with } none 0 (.func (.func 105) #[] #[]) w
 have d:Hid (∀w,Calls prog 49 #[.slice none 0 0] w fun e w'=>e= .returned (.slice none 0 0)∧w'=w):=ah fun w=>by
  go_enter func49,ntmps49
  go_wp2_with fail
  go_ret
  exact ⟨rfl,rfl⟩
 clear h
 go_enter func58,ntmps58
 go_wp2_with fail
 refine HS.out.mono ?_
 rintro e w1 ⟨v,rfl,i,a⟩
 obtain ⟨k,cap,rfl,_,_⟩:=i
 have g:=ah a
 clear a
 go_wp2_with fail
 refine wp_loop_rounds 1 ?_
 rw [rounds_succ]
 go_wp2_with fail
 refine (f.out _).mono ?_
 rintro e j ⟨rfl,rfl⟩
 go_wp2_with fail
 refine (d.out _).mono ?_
 rintro e w3 ⟨rfl,rfl⟩
 go_wp2_with fail
 go_ret
 exact ⟨rfl,g.out⟩
end
section
open Go.RowKit Go.Maps
section
variable {O:Nat → Prop} {N R M:Nat} {w:World} {g:Nat} {q:Int} {L:LK} {sy:Nat → Bool}
theorem StF.put (L:LK) (k:Nat) (x d:ByteArray):StF (L.put k x (some (d,d.size))) k x:=fun e a=>by
 rw [LK.bT] at a
 have:=Option.some.inj a
 rw [←this]
def PL (O:Nat→Prop) (N R M:Nat) (g:Nat) (q:Int) (L:LK) (sy:Nat→Bool) (l:List (List UInt8)) (w:World) (e:Ending) (w':World):Prop :=
 e= .returned (.int .i64 0)∧ ∃L',DV O N R M w' g q L' (if l=[] then sy else upN sy 0 true)∧SmL L L'∧(∀x∈l,StF L' 0 (dh x))∧Kp O w w'
theorem DW (z:DV O N R M w g q L sy) (hN:N≤1000000) (v:Value) (l:List (List UInt8)) (hr:dF w v l) (P:l≠[]→ ∀k,v.ownBlock=some k→O k) (T:∀x∈l,x.length=32) (hl:∀x∈l,∃d,L 0 (dh x)=some d) :
  Calls prog 112 #[.pointer (some ⟨g,0,none⟩),v] w (PL O N R M g q L sy l w):=by
 obtain ⟨zi,an,ae⟩:=oP
 have D:=ah (fun W (hk:Kp O w W)=>(show dF W v l from bM.QT hr hk (fun hn b hb h=>h (P (fun e=>hn (by rw [e];rfl)) b hb))))
 obtain ⟨ao,cap,rfl,ad,_⟩:=hr.open
 have HL:=ah hl
 have af:=ah T
 have t:=ah cZ
 have ab:=ah z
 have ac:=ah (fun x hx W=>nY x hx W)
 clear hl T hr P z
 unfold maxLen at ad
 go_enter func112,ntmps112
 go_wp2_with fail
 go_loopw [10] (fun u wr=> ∃(k:Nat) (L':LK),k≤l.length∧u= .int .i64 k∧Hid (DV O N R M wr g q L' sy)∧Hid (SmL L L')∧Hid (∀x∈l.take k,StF L' 0 (dh x))∧Hid (Kp O w wr)) (fun u _=>(l.length-intOf u).toNat)
 case atStart=>exact ⟨0,L,by omega,rfl,ab,ah (SmL.refl L),ah (fun x hx=>by simp at hx),ah (Kp.refl _ _)⟩
 obtain ⟨y,rfl⟩:∃y:World,y=wr:=⟨_,rfl⟩
 obtain ⟨k,L',hk,rfl,HD,HS,HF,X⟩:=hrel
 obtain ⟨ap,al,Q,_,z⟩:=(D.out y X.out).open
 injection Q with Q _ e3
 subst e3
 by_cases f:k<l.length
 ·obtain ⟨b2,off,e2,ai,n⟩:=z (by intro e;rw [e] at f;simp at f)
  rw [e2] at Q
  subst Q
  have f1:=n k f
  have hid:=af.out l[k] (List.getElem_mem f)
  obtain ⟨d,hd⟩:=HL.out l[k] (List.getElem_mem f)
  obtain ⟨d',r⟩:∃d',L' 0 (dh l[k])=some d':=by
   have V:=HS.out.dk 0 (dh l[k])
   unfold LK.dk at V
   rw [hd] at V
   cases e:L' 0 (dh l[k]) with
   | none=>rw [e] at V;cases V
   | some d'=>exact ⟨d',rfl⟩
  have s:=ah (fun W (hb:Below y.heap.size y W)=>sF (HD.out.below hb) (k:=0) (x:=dh l[k]) (by omega) (Ib hid) r)
  have K:Hid (∀U:LK,StF U 0 (dh l[k])→(∀x∈l.take k,StF U 0 (dh x))→ ∀x∈l.take (k+1),StF U 0 (dh x)):=ah (fun U h1 h2 x hx=>by
   rw [List.take_succ_eq_append_getElem f] at hx
   rcases List.mem_append.1 hx with h|h
   ·exact h2 x h
   simp at h;rw [h];exact h1)
  clear n z e2 hd
  generalize l[k]=p at f1 hid r s K
  have i:(prog.info? 42).map (·.size)=some (idC p).length:=by rw [av,hid];exact t.out
  have I:=ah (aJ p)
  have k0:(0:Int)≤k:=by omega
  have k1:(k:Int)<l.length:=by omega
  have d1:decide ((k:Int)<l.length)=true:=decide_eq_true k1
  have A:Hid ((idC p).length=32):=ah (by rw [av,hid])
  have E:=ah (fun W=>ac.out p hid W)
  have H:=ah r
  unfold dh at s
  have o:bG 0=⟨#[108,111,111,115,101]⟩:=rfl
  rw [o] at s
  clear hid r o
  go_upto_region 4 with (first|(refine wpList_load_mid rfl 42 _ rfl b2 (off+k*32) rfl (idC p) _ f1 underlying42 rfl i ?_)|(refine aD rfl 42 _ _ rfl zi (idC p) rfl rfl 32 A.out ae t.out I.out ?_;intro wn S J am))
  have aa:=ah J
  have e0:=S.range
  clear f1 J S
  generalize idC p=ci at E i I A e0
  go_wp2_with (refine wpList_load_mid rfl 42 _ rfl y.heap.size 0 rfl ci _ e0 underlying42 rfl i ?_)
  refine (E.out wn).mono ?_
  rintro e w2 ⟨rfl,G⟩
  have B:=bth aa G
  clear G e0
  go_wp2_with fail
  refine (s.out w2 B.out).mono ?_
  rintro e w3 ⟨rfl,j,m⟩
  have a:Hid (DV O N R M w3 g q (L'.put 0 (dh p) (some (d'.1,d'.1.size))) sy∧SmL L (L'.put 0 (dh p) (some (d'.1,d'.1.size)))∧(∀x∈l.take (k+1),StF (L'.put 0 (dh p) (some (d'.1,d'.1.size))) 0 (dh x))∧Kp O w w3):=ah
   ⟨j,HS.out.trans (SmL.sync H.out),K.out _ (StF.put _ _ _ _) (fun x hx=>(SmL.sync H.out).stf (HF.out x hx)),X.out.trans ((Kp.of B.out).trans m)⟩
  clear j m
  go_wp2_with fail
  go_roundw
  case rel=>exact ⟨k+1,_,by omega,by go_num,ah a.out.1,ah a.out.2.1,ah a.out.2.2.1,ah a.out.2.2.2⟩
  case measure=>simp [intOf];omega
 obtain rfl:k=l.length:=by omega
 have d1:decide ((l.length:Int)<l.length)=false:=decide_eq_false (by omega)
 have F:Hid (∀x∈l,StF L' 0 (dh x)):=ah (by have:=HF.out;rwa [List.take_length] at this)
 clear Q z HF
 by_cases Y:l=[]
 ·subst Y
  go_wp2_with fail
  go_ret
  exact ⟨rfl,L',by rw [if_pos rfl];exact HD.out,HS.out,F.out,X.out⟩
 have Z:l.length≠0:=fun e=>Y (List.eq_nil_of_length_eq_zero e)
 have d0:((l.length:Int)==0)=false:=by rw [beq_eq_false_iff_ne];omega
 have C:=ah (zR HD.out (k:=0) (by omega) hN)
 have o:bG 0=⟨#[108,111,111,115,101]⟩:=rfl
 rw [o] at C
 clear o
 have ag:=ah Y
 clear Y Z
 go_wp2_with fail
 refine C.out.mono ?_
 rintro e w3 ⟨rfl,j,m⟩
 have a:Hid (DV O N R M w3 g q L' (upN sy 0 true)∧Kp O w w3):=ah ⟨j,X.out.trans m⟩
 clear j m
 go_wp2_with fail
 go_ret
 exact ⟨rfl,L',by rw [if_neg ag.out];exact a.out.1,HS.out,F.out,a.out.2⟩
end
theorem oH {w:World} {ops:Array Oper} {rest:List Oper} {g f:Oper} {a:Act} {Q:Exit→Act→World→Prop} (J:g.guard=none) (K:f.guard=none) (x s:Operand) (k2:Nat) (D:g.op= .buildSlice 44 1 #[(0,x)]) (m:g.dst=some k2)
  (q:f.op= .call { callee:=.builtin .append,args:=#[s,.tmp k2],argTypes:=#[44,44] }) (C:k2<a.tmps.size) (c:Idl) (E:c.length=32) (hx:a.eval x= .agg (idC c).toArray)
  (base:Nat) (v:Value) (n:Nat) (l:List Idl) (I:∀u,(a.put (some k2) u).eval s=v) (e:bQ w base 32 v n (dx l)) (N:n≤1000000) (t:base≤w.heap.size)
  (h:∀i w' u,bQ w' base 32 i (n+1) (dx (l++[c]))→(∀B,B≤w.heap.size→(∀k,v.ownBlock=some k→B≤k)→Below B w w')→wpList prog ops Q rest ((a.put (some k2) u).put f.dst i) w'):wpList prog ops Q (g::f::rest) a w:=by
 obtain ⟨G,L,hi,A,p,z,o,y⟩:=eu
 have d:(idC c).length=32:=by rw [av,E]
 refine aG J x 44 42 D (idC c) G hx underlying44 (fun w=>by rw [d];kernel_rfl) o (by omega) (by omega) ?_
 rw [m]
 have F:=ak.new w 42 (idC c)
 have b:Below w.heap.size w (w.alloc (.cells (idC c).toArray 42)):=bal
 have r:(w.alloc (.cells (idC c).toArray 42)).heap.size=w.heap.size+1:=by simp
 generalize w.alloc (.cells (idC c).toArray 42)=W at F b r ⊢
 refine dM K s (.tmp k2) 44 q base 42 L (.agg G) 32 32 underlying44 hi A p z y (by decide) v n (dx l) (I _) (e.below b) (some ⟨w.heap.size,0,none⟩) 1 1 (idC c) (by simp [Act.put,Act.eval,C]) (by rw [d]) (fun _=>⟨_,rfl,fun j u hu=>by
  rw [Addr.add_mid]
  exact F.range j u hu⟩) (aJ c) (by unfold maxLen;omega) (by omega) (by omega) ?_
 intro i w' g1 g2 g3
 rw [←nZ] at g1
 refine h i w' _ g1 (fun B H M=>(b.mono H).trans ?_)
 exact (Below.refl B W).grown g2 (by omega) M
section
variable {O:Nat → Prop} {N R M:Nat} {w:World} {g:Nat} {q:Int} {L:LK} {sy:Nat → Bool}
theorem Ki {d:Dk} {x:List UInt8} {n:Nat} (h:gy d x= .inl n):n=6∨n=17:=by
 unfold gy at h
 cases e:d 0 (ofB (bY x)) with
 | none=>rw [e] at h;injection h with h;omega
 | some b =>
  rw [e] at h
  dsimp only at h
  cases a:mK (ofB (bY x)) b with
  | none=>rw [a] at h;injection h with h;omega
  | some o=>rw [a] at h;cases h
def PN (N:Nat) (w:World) (e:Ending) (w':World):Prop:=∃v m,e= .returned v∧bQ w' w.heap.size 32 v m.length (dx m)∧(∀x∈m,x.length=32)∧m.length≤N∧Below w.heap.size w w'
theorem J2 (hv:DV O N R M w g q L sy) (hN:N+R≤1000000) (hM:M≤1000000) (hG:eP w):Calls prog 57 #[.pointer (some ⟨g,0,none⟩)] w (PN N w):=by
 obtain ⟨zi,a9,a4⟩:=oP
 obtain ⟨d,T,X,a2⟩:=hv.at2 hN
 obtain ⟨ns,Z,ag,S,ae⟩:=hv.names (k:=0) (by omega)
 have Y:=ah (tH g d iA 0 ns w T (by decide) rfl Z (fun y=>by rw [ae,X 0 y (by omega)]) (fun y hy=>by have:=dR (S y hy);omega))
 have a7:=ah (fun W (hb:Below w.heap.size w W) x hx=>wC (x:=x) (hv.below hb) hN hM (hG.below hb) hx)
 have ab:=ah (fun s W=>IV s W)
 have G:=ah cZ
 have ar:=ah ag
 clear hv T X a2 Z S ae ag hG
 unfold yZ at ab
 go_enter func57,ntmps57
 go_wp2_with fail
 refine Y.out.mono ?_
 rintro e w1 ⟨v,rfl,az,am⟩
 obtain ⟨ao,cap,rfl,a6,F⟩:=az
 have A:=ah am
 have aw:=ah F
 unfold maxLen at a6
 clear am F Y
 go_wp2_with fail
 go_loopw [3,13] (fun s3 H wr=> ∃(k:Nat) (m:List Idl),k≤ns.length∧m.length≤k∧H= .int .i64 k∧Hid (bQ wr w1.heap.size 32 s3 m.length (dx m))∧Hid (∀x∈m,x.length=32)∧Hid (Below w1.heap.size w1 wr)) (fun _ H _=>(ns.length-intOf H).toNat)
 case atStart=>exact ⟨0,[],by omega,by simp,rfl,ah (iD _ _ _),ah (fun x hx=>by cases hx),ah (Below.refl _ _)⟩
 obtain ⟨wo,rfl⟩:∃wo:World,wo=wr:=⟨_,rfl⟩
 obtain ⟨k,m,hk,a1,rfl,U,HM,r⟩:=hrel
 by_cases I:k<ns.length
 ·obtain ⟨b2,off,rfl,ai,z⟩:=aw.out (by intro e;rw [e] at I;simp at I)
  have f1:=au (z k I) r.out ai
  clear z
  generalize ns[k]=nm at f1
  have k0:(0:Int)≤k:=by omega
  have k1:(k:Int)<ns.length:=by omega
  have d1:decide ((k:Int)<ns.length)=true:=decide_eq_true k1
  have E:=Li nm
  have D:=ah E
  have aa:=ah (fun W=>ab.out nm W)
  have i:(prog.info? 42).map (·.size)=some (idC (wG nm)).length:=by rw [av,E];exact G.out
  have aq:=ah (aJ (wG nm))
  have ac:Hid ((idC (wG nm)).length=32):=ah (by rw [av,E])
  have Q:=ah (fun W (hb:Below wo.heap.size wo W)=>a7.out W (A.out.trans ((r.out.trans (hb.mono r.out.size)).mono A.out.size)) (wG nm) D.out)
  clear E
  generalize wG nm=J at D aa i aq ac Q
  go_wp2_with fail
  refine (aa.out wo).mono ?_
  rintro e w2 ⟨rfl,ap⟩
  have a0:=ah ap
  clear ap f1
  go_upto_region 6 with (refine aD rfl 42 _ _ rfl zi (idC J) rfl rfl 32 ac.out a4 G.out aq.out ?_;intro wn af al ba)
  have C:=bth a0 al
  have p:=ah af
  clear al af
  cases bb:wF nm with
  | false =>
   have t:=ah (r.out.trans (C.out.mono r.out.size))
   have b:=ah (U.out.below C.out)
   go_wp2_with fail
   go_roundw
   case rel=>exact ⟨k+1,m,by omega,by omega,by go_num,b,HM,t⟩
   case measure=>simp [intOf];omega
  | true =>
   have P:=p.out.range
   have a:=ah (Q.out wn C.out)
   unfold uS at a
   cases B:gy L.dk J with
   | inl n =>
    rw [B] at a
    dsimp only at a
    have a5:=Ki B
    have d2:((n:Int)==0)=false:=by rw [beq_eq_false_iff_ne];omega
    clear B a5
    go_wp2_with (refine wpList_load_mid rfl 42 _ rfl w2.heap.size 0 rfl (idC J) _ P underlying42 rfl i ?_)
    refine a.out.mono ?_
    rintro e w4 ⟨rfl,j⟩
    have K:=bth C j
    clear j P
    go_upto_region 8 with fail
    have f:Below w4.heap.size w4 (w4.alloc (.cells #[.int .i64 0,.string ⟨#[]⟩] 33)):=bal
    generalize w4.alloc (.cells #[.int .i64 0,.string ⟨#[]⟩] 33)=w5 at f ⊢
    have l:=bth K f
    have t:=ah (r.out.trans (l.out.mono r.out.size))
    have b:=ah (U.out.below l.out)
    clear f
    go_wp2_with fail
    go_roundw
    case rel=>exact ⟨k+1,m,by omega,by omega,by go_num,b,HM,t⟩
    case measure=>simp [intOf];omega
   | inr o =>
    rw [B] at a
    dsimp only at a
    have ad:=ah (nV o)
    have V:Hid ((obC o).length=2):=ah rfl
    clear B
    generalize obC o=co at a ad V
    go_wp2_with (refine wpList_load_mid rfl 42 _ rfl w2.heap.size 0 rfl (idC J) _ P underlying42 rfl i ?_)
    refine a.out.mono ?_
    rintro e w4 ⟨rfl,j⟩
    have K:=bth C j
    replace p:=ah (p.out.below j)
    clear j P
    go_upto_region 8 with (refine aD rfl 33 _ _ rfl #[.int .i64 0,.string ⟨#[]⟩] co rfl rfl 2 V.out rfl eH ad.out ?_;intro w5 a3 f bc)
    have l:=bth K f
    replace p:=ah (p.out.below f)
    have an:=ah (l.out.size)
    have b:=ah (U.out.below l.out)
    have P:=p.out.range
    clear f a3
    go_upto_region 9 with fail
    refine wp_region_lit ?_
    refine aW rfl u3 (by first|rfl|(go_simp;done)|(go_simp;rfl)) ?_
    simp only [Act.put,nz]
    refine wpList_load_mid rfl 42 _ rfl w2.heap.size 0 rfl (idC J) _ P underlying42 rfl i ?_
    simp only [Act.put,nz]
    refine oH rfl rfl _ _ 34 rfl rfl rfl (by simp) J D.out rfl w1.heap.size u3 m.length m (fun _=>rfl) b.out (by have:=ar.out;omega) (by have:=an.out;have:=r.out.size;omega) ?_
    intro v' w' u g1 g2
    simp only [Act.put,nz]
    have ax:=ah g1
    have a8:=ah (r.out.trans ((l.out.mono r.out.size).trans (g2 w1.heap.size (by have:=an.out;have:=r.out.size;omega) U.out.qb)))
    clear g1 g2
    go_wp2_with fail
    go_roundw
    case rel=>exact ⟨k+1,m++[J],by omega,by rw [List.length_append];simp;omega,by go_num,ah (by rw [List.length_append];exact ax.out),ah (fun x hx=>by
     rcases List.mem_append.1 hx with h|h
     ·exact HM.out x h
     simp at h;rw [h];exact D.out),a8⟩
    case measure=>simp [intOf];omega
 obtain rfl:k=ns.length:=by omega
 have d1:decide ((ns.length:Int)<ns.length)=false:=decide_eq_false (by omega)
 have aE:=ah (Nat.le_trans a1 ar.out)
 have t:=ah (A.out.trans (r.out.mono A.out.size))
 have b:=ah (U.out.base A.out.size)
 go_wp2_with fail
 go_ret
 exact ⟨_,m,rfl,b.out,HM.out,aE.out,t.out⟩
end
structure Sb where
 sb:Nat
 ob:Nat
 g:Nat
 hb:Nat
 mp:Nat
 pn:Nat → Nat
 hd:Nat
 pt:Nat
 vt:Value
 vl:Value
def Sb.cells (B:Sb):List Value:=[.pointer (some ⟨B.ob,0,none⟩),.pointer (some ⟨B.g,0,none⟩),.pointer (some ⟨B.hb,0,none⟩),.map (some (B.pn 0)),.map (some (B.pn 1)),.map (some (B.pn 2)),.map (some (B.pn 3)),.map (some B.hd),.map (some B.pt)]
def Sb.bl (B:Sb):List Nat:=[B.sb,B.ob,B.hb,B.mp,B.pn 0,B.pn 1,B.pn 2,B.pn 3,B.hd,B.pt]
structure SM (O:Nat → Prop) (w:World) (B:Sb) (t l:List Rf) (n:Nat) (P:Nat → List Idl) (U:List Idl) (c:Nat):Prop where
 box:ak w B.sb 74 B.cells
 bk:OpO O w B.ob B.g B.vt B.vl t l n
 shf:iO w B.hb B.mp
 pin:∀ k,k < 4 → bW w (B.pn k) c (P k)
 hid:bW w B.hd c []
 put:bW w B.pt c U
 own:∀ b ∈ B.bl,O b
 nd:B.bl.Nodup
 vt:t ≠ [] → ∀ k,B.vt.ownBlock = some k → k ∉ B.bl
 vl:l ≠ [] → ∀ k,B.vl.ownBlock = some k → k ∉ B.bl
structure SL (L:LK) (sy:Nat → Bool) (t l:List Rf) (F:List Ob) (U:List Idl) (c:Nat):Prop where
 lo:LoF L F
 fc:F.length ≤ c
 nd:(F.map idO).Nodup
 pk:∀ y,L 1 y = none
 bk:∃ m,L 2 bkN = some (ofB (iU t l),m)
 lc:l.length ≤ c
 tm:L 2 (bD bkN) = none
 ok:aO t l = true
 uf:∀ o ∈ F,idO o ∉ U → StF L 0 (dh (idO o))
 up:∀ x ∈ U,∃ o ∈ F,idO o = x
 s0:U = [] → sy 0 = true
section
variable {O:Nat → Prop} {w w':World} {B:Sb} {t l:List Rf} {n:Nat} {P:Nat → List Idl} {U:List Idl} {c:Nat}
theorem bW.chg {w w':World} {b n:Nat} {l:List Idl} {S:Nat→Prop} (h:bW w b n l) (a:Chg S w w') (hb:¬S b):bW w' b n l:=h.heap (a.block b h.lt hb)
theorem iO.chg {w w':World} {b m:Nat} {S:Nat→Prop} (h:iO w b m) (a:Chg S w w') (hb:¬S b) (hm:¬S m):iO w' b m:=⟨h.1.chg a hb,h.2.chg a hm⟩
theorem SM.chg {S:Nat→Prop} (h:SM O w B t l n P U c) (a:Chg S w w') (hS:∀b,S b→ ¬O b):SM O w' B t l n P U c:=by
 have d:∀b∈B.bl,¬S b:=fun b hb e=>hS b e (h.own b hb)
 exact ⟨h.box.chg a (d _ (by simp [Sb.bl])),h.bk.chg a hS,h.shf.chg a (d _ (by simp [Sb.bl])) (d _ (by simp [Sb.bl])),fun k f=>(h.pin k f).chg a (d _ (by
  obtain rfl|rfl|rfl|rfl:k=0∨k=1∨k=2∨k=3:=by omega
  all_goals simp [Sb.bl])),h.hid.chg a (d _ (by simp [Sb.bl])),h.put.chg a (d _ (by simp [Sb.bl])),h.own,h.nd,h.vt,h.vl⟩
theorem SM.kp (h:SM O w B t l n P U c) (a:Kp O w w'):SM O w' B t l n P U c:=h.chg a fun _ h=>h
theorem SM.below (h:SM O w B t l n P U c) (hb:Below w.heap.size w w'):SM O w' B t l n P U c:=h.chg (Chg.of_below hb:Chg (fun _=>False) w w') fun _ h=>h.elim
theorem SM.sub {O':Nat→Prop} (h:SM O w B t l n P U c) (a:∀b,O b→O' b):SM O' w B t l n P U c:=⟨h.box,h.bk.sub a,h.shf,h.pin,h.hid,h.put,fun b hb=>a b (h.own b hb),h.nd,h.vt,h.vl⟩
theorem SM.more {c':Nat} (h:SM O w B t l n P U c) (a:c≤c'):SM O w B t l n P U c':=⟨h.box,h.bk,h.shf,fun k b=>(h.pin k b).mono a,h.hid.mono a,h.put.mono a,h.own,h.nd,h.vt,h.vl⟩
theorem SL.more {L:LK} {sy:Nat→Bool} {F:List Ob} {c':Nat} (h:SL L sy t l F U c) (a:c≤c'):SL L sy t l F U c':=⟨h.lo,Nat.le_trans h.fc a,h.nd,h.pk,h.bk,Nat.le_trans h.lc a,h.tm,h.ok,h.uf,h.up,h.s0⟩
theorem SM.cell (h:SM O w B t l n P U c) {i:Nat} {v:Value} (a:B.cells[i]? = some v):w.cell? ⟨B.sb,i,none⟩=some v:=by
 have:=h.box.range i v a
 rwa [Nat.zero_add] at this
theorem SM.lt (h:SM O w B t l n P U c):B.sb<w.heap.size:=h.box.lt
end
theorem ou {P:Program} {w:World} {a:Act} {oi:Oper} {t:TypeId} {m x:Operand} {b:Bool} {f e v:Value} (d:oi.op= .lookup t m x b) (hm:a.eval m=f) (hx:a.eval x=e) (h:(Instr.lookup t f e b).run P w= .ok v w):(execOp a.eval oi).run P w= .ok (.value v) w:=by
 unfold execOp
 simp only [d,hm,hx,Sem.run_bind,h,Result.andThen_ok]
 rfl
theorem yU {t l:List Rf} (h:aO t l=true) (b:∀r∈t++l,r.2.length=32):(ofB (iU t l)).size≤1137+81*l.length:=by
 obtain ⟨h1,d,g⟩:=fQ h
 have e:=Na (t:=t) (fun r a=>⟨h1 r (List.mem_append.2 (.inl a)),b r (List.mem_append.2 (.inl a))⟩) (by omega)
 have i:=om (f:=kN) (n:=81) (l:=l) (fun r a=>vO (h1 r (List.mem_append.2 (.inr a))) (b r (List.mem_append.2 (.inr a))))
 rw [aR]
 unfold iU
 rw [List.length_append]
 omega
def gI (F:List Ob) (x:Idl):Option Ob:=F.find? fun o=>decide (idO o=x)
theorem Ng {L:LK} {F:List Ob} (h:LoF L F) {x:Idl} (hx:x.length=32):gy L.dk x=(match gI F x with|none=> .inl 6|some o=> .inr o):=by
 cases e:gI F x with
 | none =>
  refine h.not (fun _ _ _=>rfl) hx fun o b d=> ?_
  have:=List.find?_eq_none.1 e o b
  simp [d] at this
 | some o =>
  have h1:=List.find?_some e
  have a:=List.mem_of_find?_eq_some e
  simp at h1
  rw [←h1]
  exact h.get (fun _ _ _=>rfl) a
section
variable {O:Nat → Prop} {N R M:Nat} {w:World} {q:Int} {L:LK} {sy:Nat → Bool} {B:Sb} {t l:List Rf} {n:Nat} {P:Nat → List Idl} {U:List Idl} {c:Nat} {F:List Ob}
def oW (r:Option Ob) (w:World) (e:Ending) (w':World):Prop :=
 (match r with
 | none=>e= .returned (.tuple #[.agg #[.int .i64 0,.string ⟨#[]⟩],.bool false])
 | some o=>e= .returned (.tuple #[.agg (obC o).toArray,.bool true]))∧Below w.heap.size w w'
theorem LJ {r:Option Ob} {w w':World} (h:r=none) (hb:Below w.heap.size w w'):oW r w (.returned (.tuple #[.agg #[.int .i64 0,.string ⟨#[]⟩],.bool false])) w':=⟨by rw [h],hb⟩
theorem Jf {r:Option Ob} {o:Ob} {a:List Value} {w w':World} (h:r=some o) (b:obC o=a) (hb:Below w.heap.size w w'):oW r w (.returned (.tuple #[.agg a.toArray,.bool true])) w':=⟨by rw [h,←b],hb⟩
theorem qm (w:World):(zeroValue 4).run prog w= .ok (.bool false) w:=by kernel_rfl
theorem wR (hv:DV O N R M w B.g q L sy) (hG:eP w) (hm:SM O w B t l n P U c) (hl:SL L sy t l F U c) (hN:N+R≤1000000) (hM:M≤1000000) (x:Idl) (hx:x.length=32) :
  Calls prog 12 #[.pointer (some ⟨B.sb,0,none⟩),.agg (idC x).toArray] w (oW (gI F x) w):=by
 obtain ⟨W,hW⟩:∃W,(w.alloc (.cells (idC x).toArray 42)).alloc (.cells #[.int .i64 0,.string ⟨#[]⟩] 33)=W:=⟨_,rfl⟩
 have bs:Below w.heap.size w W:=by rw [←hW];exact bal.alloc (by simp) _
 have a6:ak W w.heap.size 42 (idC x):=by rw [←hW];exact (ak.new w 42 (idC x)).below bal
 have bh:ak W (w.heap.size+1) 33 [.int .i64 0,.string ⟨#[]⟩]:=by
  rw [←hW]
  have:=ak.new (w.alloc (.cells (idC x).toArray 42)) 33 [.int .i64 0,.string ⟨#[]⟩]
  rwa [World.size_alloc] at this
 have E:=ah bs
 have az:=ah a6
 have a7:=ah bh
 have ao:=ah (fun V (hb:Below w.heap.size w V)=>wC (x:=x) (hv.below hb) hN hM (hG.below hb) hx)
 have a8:=Ng hl.lo hx
 unfold uS at ao
 rw [a8] at ao
 have bd:∀V,Below w.heap.size w V→ ∀H,idC x=H→(Instr.lookup 70 (.map (some B.hd)) (.agg H.toArray) false).run prog V= .ok (.bool false) V:=fun V hb H he=>by
  have:=(hm.below hb).hid.1.look underlying70 (qm V) hx
  rw [←he]
  unfold gZ at this
  exact this
 have a0:=ah (fun V (hb:Below w.heap.size w V)=>Fq B.hb B.mp x V (hm.below hb).shf)
 have aw:∀V,Below w.heap.size w V→V.cell? ⟨B.sb,1,none⟩=some (.pointer (some ⟨B.g,0,none⟩))∧V.cell? ⟨B.sb,2,none⟩=some (.pointer (some ⟨B.hb,0,none⟩))∧V.cell? ⟨B.sb,7,none⟩=some (.map (some B.hd)):=fun V hb=>⟨(hm.below hb).cell rfl,(hm.below hb).cell rfl,(hm.below hb).cell rfl⟩
 have al:(prog.info? 42).map (·.size)=some (idC x).length:=by rw [av,hx];exact cZ
 have bp:Hid (B.sb<w.heap.size):=ah hm.lt
 have HW:=ah hW
 have bj:=ah (fun o X (w':World) (h:gI F x=some o) (hc:obC o=X) hb=>Jf (w:=w) (w':=w') h hc hb)
 have br:=ah (fun (w':World) (h:gI F x=none) hb=>LJ (w:=w) (w':=w') h hb)
 clear hv hG hm hl hx hW a8
 generalize bm:idC x=H at a6 az ao a0 al HW ⊢
 have bi:=ah (fun V hb=>bd V hb H bm)
 clear bm bd
 have bf:Hid (∀V,Below W.heap.size W V→V.rangeAt w.heap.size 0 H∧V.cell? ⟨B.sb,1,none⟩=some (.pointer (some ⟨B.g,0,none⟩))∧V.cell? ⟨B.sb,2,none⟩=some (.pointer (some ⟨B.hb,0,none⟩))∧V.cell? ⟨B.sb,7,none⟩=some (.map (some B.hd))∧(Instr.lookup 70 (.map (some B.hd)) (.agg H.toArray) false).run prog V= .ok (.bool false) V):=ah (fun V hb=>⟨(az.out.below hb).range,(aw V (E.out.trans (hb.mono E.out.size))).1,(aw V (E.out.trans (hb.mono E.out.size))).2.1,(aw V (E.out.trans (hb.mono E.out.size))).2.2,bi.out V (E.out.trans (hb.mono E.out.size))⟩)
 clear aw a6 bh bi
 go_enter func12,ntmps12
 go_upto_region 1 with fail
 rw [HW.out]
 have j:=bf.out W.drew (Below.refl _ _).drew
 refine wrL 9 (fun x=>x.rangeAt w.heap.size 0 H∧x.cell? ⟨B.sb,1,none⟩=some (.pointer (some ⟨B.g,0,none⟩))∧x.cell? ⟨B.sb,2,none⟩=some (.pointer (some ⟨B.hb,0,none⟩))∧x.cell? ⟨B.sb,7,none⟩=some (.map (some B.hd))∧(Instr.lookup 70 (.map (some B.hd)) (.agg H.toArray) false).run prog x= .ok (.bool false) x) ?_
 refine WL.tk 0 j ?_
 refine WL.tk 1 j ?_
 refine WL.tk 2 j ?_
 refine WL.tk 3 j ?_
 refine WL.tk 4 j ?_
 refine WL.tk 5 j ?_
 refine WL.tk 6 j ?_
 refine WL.tk 7 j ?_ (hy:=(fun w' G=>aM 42 _ (G.1) underlying42 rfl al _ rfl rfl))
 refine WL.take (i:=8) (v:=.bool false) rfl (by kernel_rfl) (by decide) (by decide +kernel) (by decide +kernel) (fun _ _ _ h=>h) rfl (fun w' G=>ou rfl rfl rfl G.2.2.2.2) j ?_
 simp only [Act.put,nz]
 refine WL.la 9 ?_
 clear j
 obtain ⟨w1,a3⟩:∃z,W.drew=z:=⟨_,rfl⟩
 have ag:Below W.heap.size W w1:=by rw [←a3];exact (Below.refl _ _).drew
 simp only [a3]
 have Q:=bth E ag
 have af:=ah (a7.out.below ag)
 have b:Hid (∀V,Below w1.heap.size w1 V→V.rangeAt w.heap.size 0 H∧V.cell? ⟨B.sb,1,none⟩=some (.pointer (some ⟨B.g,0,none⟩))∧V.cell? ⟨B.sb,2,none⟩=some (.pointer (some ⟨B.hb,0,none⟩))∧V.cell? ⟨B.sb,7,none⟩=some (.map (some B.hd))∧(Instr.lookup 70 (.map (some B.hd)) (.agg H.toArray) false).run prog V= .ok (.bool false) V):=ah (fun V hb=>bf.out V (ag.trans (hb.mono ag.size)))
 have s:=ah (fun V (hb:Below w1.heap.size w1 V)=>ao.out V (Q.out.trans (hb.mono Q.out.size)))
 have bk:=ah (fun V (hb:Below w1.heap.size w1 V)=>a0.out V (Q.out.trans (hb.mono Q.out.size)))
 have bc:w.heap.size+1<w1.heap.size:=af.out.lt
 have bx:=ah bc
 clear a3 ag a7 az ao a0 bc HW
 go_upto_region 3 with fail
 cases ab:gI F x with
 | none =>
  rw [ab] at s
  dsimp only at s
  have aE:=ah ab
  clear ab
  have y:=b.out w1.drew (Below.refl _ _).drew
  refine wrL 11 (fun x=>x.rangeAt w.heap.size 0 H∧x.cell? ⟨B.sb,1,none⟩=some (.pointer (some ⟨B.g,0,none⟩))∧x.cell? ⟨B.sb,2,none⟩=some (.pointer (some ⟨B.hb,0,none⟩))∧x.cell? ⟨B.sb,7,none⟩=some (.map (some B.hd))∧(Instr.lookup 70 (.map (some B.hd)) (.agg H.toArray) false).run prog x= .ok (.bool false) x) ?_
  refine WL.tk 0 y ?_
  refine WL.tk 1 y ?_
  refine WL.tk 2 y ?_
  refine WL.tk 3 y ?_
  refine WL.tk 4 y ?_ (hy:=(fun w' G=>aM 42 _ (G.1) underlying42 rfl al _ rfl rfl))
  refine WL.tw 5 9 ?_ ?_
  focus
   go_wp2_with fail
   refine (s.out _ (Below.refl _ _).drew).mono ?_
   rintro e A ⟨rfl,an⟩
   have f:=ah (bC an)
   have m:=b.out A f.out
   have u:Hid (Below w1.heap.size w1 (A.alloc (.cells #[.int .i64 0,.string ⟨#[]⟩] 33))):=ah (f.out.alloc f.out.size _)
   have d:=b.out _ u.out
   have p:Hid (ak (A.alloc (.cells #[.int .i64 0,.string ⟨#[]⟩] 33)) A.heap.size 33 (#[.int .i64 0,.string ⟨#[]⟩]:Array Value).toList):=ah (by have:=ak.new A 33 (#[.int .i64 0,.string ⟨#[]⟩]:Array Value).toList;simpa using this)
   have S:Hid (Below A.heap.size A (A.alloc (.cells #[.int .i64 0,.string ⟨#[]⟩] 33))):=ah bal
   have D:=f.out.size
   clear an
   go_wp2
   refine ⟨m,?_⟩
   refine WL.tk 6 m ?_
   refine WL.tk 7 m ?_
   refine WL.tk 8 m ?_
   refine WL.on 9 ?_
   go_wp2
   refine ⟨d,?_⟩
   obtain ⟨P,Y⟩:∃P,A.heap.size=P:=⟨_,rfl⟩
   obtain ⟨J,ac⟩:∃J,A.alloc (.cells #[.int .i64 0,.string ⟨#[]⟩] 33)=J:=⟨_,rfl⟩
   rw [ac] at u d p S  ⊢
   rw [Y] at p D 
   simp only [Y]
   clear Y ac m S
  rotate_left
  focus
   have f:Hid (Below w1.heap.size w1 (w1.alloc (.cells #[.int .i64 0,.string ⟨#[]⟩] 33)).drew):=ah (bal.drew)
   have ai:ak (w1.alloc (.cells #[.int .i64 0,.string ⟨#[]⟩] 33)).drew w1.heap.size 33 (#[.int .i64 0,.string ⟨#[]⟩]:Array Value).toList:=(show ak (w1.alloc (.cells #[.int .i64 0,.string ⟨#[]⟩] 33)) w1.heap.size 33 (#[.int .i64 0,.string ⟨#[]⟩]:Array Value).toList from by have:=ak.new w1 33 (#[.int .i64 0,.string ⟨#[]⟩]:Array Value).toList;simpa using this)
   have m:=b.out _ f.out
   go_wp2
   refine ⟨m,?_⟩
   refine WL.on 5 ?_
   go_wp2_with fail
   refine (s.out _ f.out).mono ?_
   rintro e J ⟨rfl,aa⟩
   have p:=ah (ai.below aa)
   have u:=bth f aa
   have d:=b.out _ u.out
   have D:w1.heap.size≤w1.heap.size:=Nat.le_refl _
   clear aa ai
   go_wp2
   refine ⟨d,?_⟩
   refine WL.tk 6 d ?_
   refine WL.tk 7 d ?_
   refine WL.tk 8 d ?_
   obtain ⟨P,Y⟩:∃P,P=w1.heap.size:=⟨_,rfl⟩
   rw [←Y] at p 
   have D:w1.heap.size≤P:=by omega
   simp only [←Y]
   clear Y m
  all_goals
   refine WL.on 10 ?_
   refine aj rfl 33 _ _ rfl P 0 [.int .i64 0,.string ⟨#[]⟩] rfl rfl 2 rfl (by have:=p.out.there;simpa [] using this) eH (by intro v hv;simp at hv;rcases hv with rfl|rfl<;>rfl) ?_
   simp only [Act.put,nz]
   have r:=ah (below_setCells (B:=w1.heap.size) (a:=w1) P D [.int .i64 0,.string ⟨#[]⟩] 0 J u.out)
   have ad:=ah (p.out.set (us:=[.int .i64 0,.string ⟨#[]⟩]) (by simp []))
   have am:Hid (Chg (fun k=>k=P) J (J.setCells P 0 [.int .i64 0,.string ⟨#[]⟩])):=ah (fO P [.int .i64 0,.string ⟨#[]⟩] J)
   generalize J.setCells P 0 [.int .i64 0,.string ⟨#[]⟩]=w8 at r ad am
   have ae:=b.out _ r.out
   refine ⟨ae,?_⟩
   refine WL.la 11 ?_
   clear ae d y p u
  all_goals
   have ar:=ah (Q.out.trans (r.out.mono Q.out.size))
   have ap:=ah (af.out.below r.out)
   have ax:Hid (∀V,Below w8.heap.size w8 V→V.rangeAt w.heap.size 0 H∧V.cell? ⟨B.sb,1,none⟩=some (.pointer (some ⟨B.g,0,none⟩))∧V.cell? ⟨B.sb,2,none⟩=some (.pointer (some ⟨B.hb,0,none⟩))∧V.cell? ⟨B.sb,7,none⟩=some (.map (some B.hd))∧(Instr.lookup 70 (.map (some B.hd)) (.agg H.toArray) false).run prog V= .ok (.bool false) V):=ah (fun V hb=>b.out V (r.out.trans (hb.mono r.out.size)))
   have bo:=ah (fun V (hb:Below w8.heap.size w8 V)=>bk.out V (r.out.trans (hb.mono r.out.size)))
   clear ad am r D
   go_upto_region 6 with fail
   have T:=ax.out w8.drew (Below.refl _ _).drew
   have j:=And.intro T.1 (And.intro T.2.1 (And.intro T.2.2.1 (And.intro T.2.2.2.1 trivial)))
   clear T
   refine wrL 9 (fun x=>x.rangeAt w.heap.size 0 H∧x.cell? ⟨B.sb,1,none⟩=some (.pointer (some ⟨B.g,0,none⟩))∧x.cell? ⟨B.sb,2,none⟩=some (.pointer (some ⟨B.hb,0,none⟩))∧x.cell? ⟨B.sb,7,none⟩=some (.map (some B.hd))∧True) ?_
   refine WL.tk 0 j ?_
   refine WL.tk 1 j ?_
   refine WL.tk 2 j ?_
   refine WL.tk 3 j ?_
   refine WL.tk 4 j ?_ (hy:=(fun w' G=>aM 42 _ (G.1) underlying42 rfl al _ rfl rfl))
   refine WL.on 5 ?_
   go_wp2_with fail
   refine (bo.out _ (Below.refl _ _).drew).mono ?_
   rintro e wb ⟨rfl,ba⟩
   have a4:=ah (bC ba)
   have I:=ax.out wb a4.out
   have K:=And.intro I.1 (And.intro I.2.1 (And.intro I.2.2.1 (And.intro I.2.2.2.1 trivial)))
   clear I
   have bb:=ah (ap.out.below a4.out)
   clear ba j
   go_wp2_with fail
   refine ⟨K,?_⟩
   refine WL.tk 6 K ?_
   refine WL.tk 7 K ?_
   refine WL.on 8 ?_
   obtain ⟨WE,C⟩:∃z,wb.setCells (w.heap.size+1) 0 [.int .i64 0,.string ⟨#[]⟩]=z:=⟨_,rfl⟩
   have aq:=bb.out.there
   have a5:WE.rangeAt (w.heap.size+1) 0 [.int .i64 0,.string ⟨#[]⟩]:=by rw [←C];exact (bb.out.set (us:=[.int .i64 0,.string ⟨#[]⟩]) rfl).range
   have a2:Hid (Below w.heap.size w WE):=ah (by rw [←C];exact below_setCells _ (by omega) _ _ _ (ar.out.trans (a4.out.mono ar.out.size)))
   have bn:WE.rangeAt w.heap.size 0 H∧WE.cell? ⟨B.sb,1,none⟩=some (.pointer (some ⟨B.g,0,none⟩))∧WE.cell? ⟨B.sb,2,none⟩=some (.pointer (some ⟨B.hb,0,none⟩))∧WE.cell? ⟨B.sb,7,none⟩=some (.map (some B.hd))∧True:=by
    have bv:=bp.out
    rw [←C]
    exact ⟨World.rangeAt_setCells_apart K.1 _ 0 _ (.inl (by omega)),(World.cell?_setCells_out _ _ 0 wb _ (fun e _=>absurd e (by show ¬B.sb=_;omega))).trans K.2.1,(World.cell?_setCells_out _ _ 0 wb _ (fun e _=>absurd e (by show ¬B.sb=_;omega))).trans K.2.2.1,(World.cell?_setCells_out _ _ 0 wb _ (fun e _=>absurd e (by show ¬B.sb=_;omega))).trans K.2.2.2.1,trivial⟩
   have h2:(prog.info? 33).map (·.size)=some ([.int .i64 0,.string ⟨#[]⟩]:List Value).length:=eH
   refine aj rfl 33 _ _ rfl (w.heap.size+1) 0 [.int .i64 0,.string ⟨#[]⟩] rfl rfl 2 rfl aq eH (by intro v hv;simp at hv;rcases hv with rfl|rfl<;>rfl) ?_
   rw [C]
   simp only [Act.put,nz]
   refine ⟨bn,?_⟩
   refine WL.la 9 ?_
   clear bn K aq C
   go_wp2_with fail
   refine aP rfl (w.heap.size+1) 0 rfl [.int .i64 0,.string ⟨#[]⟩] _ a5 underlying33 rfl h2 rfl _ rfl ?_
   exact br.out WE aE.out a2.out
 | some o =>
  rw [ab] at s
  dsimp only at s
  have aE:=ah ab
  have Z:Hid ((obC o).length=2):=ah rfl
  have a1:=ah (nV o)
  clear ab
  generalize a9:obC o=X at s Z a1
  have bu:=ah a9
  clear a9
  have y:=b.out w1.drew (Below.refl _ _).drew
  refine wrL 11 (fun x=>x.rangeAt w.heap.size 0 H∧x.cell? ⟨B.sb,1,none⟩=some (.pointer (some ⟨B.g,0,none⟩))∧x.cell? ⟨B.sb,2,none⟩=some (.pointer (some ⟨B.hb,0,none⟩))∧x.cell? ⟨B.sb,7,none⟩=some (.map (some B.hd))∧(Instr.lookup 70 (.map (some B.hd)) (.agg H.toArray) false).run prog x= .ok (.bool false) x) ?_
  refine WL.tk 0 y ?_
  refine WL.tk 1 y ?_
  refine WL.tk 2 y ?_
  refine WL.tk 3 y ?_
  refine WL.tk 4 y ?_ (hy:=(fun w' G=>aM 42 _ (G.1) underlying42 rfl al _ rfl rfl))
  refine WL.tw 5 9 ?_ ?_
  focus
   go_wp2_with fail
   refine (s.out _ (Below.refl _ _).drew).mono ?_
   rintro e A ⟨rfl,an⟩
   have f:=ah (bC an)
   have m:=b.out A f.out
   have u:Hid (Below w1.heap.size w1 (A.alloc (.cells #[.int .i64 0,.string ⟨#[]⟩] 33))):=ah (f.out.alloc f.out.size _)
   have d:=b.out _ u.out
   have p:Hid (ak (A.alloc (.cells #[.int .i64 0,.string ⟨#[]⟩] 33)) A.heap.size 33 (#[.int .i64 0,.string ⟨#[]⟩]:Array Value).toList):=ah (by have:=ak.new A 33 (#[.int .i64 0,.string ⟨#[]⟩]:Array Value).toList;simpa using this)
   have S:Hid (Below A.heap.size A (A.alloc (.cells #[.int .i64 0,.string ⟨#[]⟩] 33))):=ah bal
   have D:=f.out.size
   clear an
   go_wp2
   refine ⟨m,?_⟩
   refine WL.tk 6 m ?_
   refine WL.tk 7 m ?_
   refine WL.tk 8 m ?_
   refine WL.on 9 ?_
   go_wp2
   refine ⟨d,?_⟩
   obtain ⟨P,Y⟩:∃P,A.heap.size=P:=⟨_,rfl⟩
   obtain ⟨J,ac⟩:∃J,A.alloc (.cells #[.int .i64 0,.string ⟨#[]⟩] 33)=J:=⟨_,rfl⟩
   rw [ac] at u d p S  ⊢
   rw [Y] at p D 
   simp only [Y]
   clear Y ac m S
  rotate_left
  focus
   have f:Hid (Below w1.heap.size w1 (w1.alloc (.cells #[.int .i64 0,.string ⟨#[]⟩] 33)).drew):=ah (bal.drew)
   have ai:ak (w1.alloc (.cells #[.int .i64 0,.string ⟨#[]⟩] 33)).drew w1.heap.size 33 (#[.int .i64 0,.string ⟨#[]⟩]:Array Value).toList:=(show ak (w1.alloc (.cells #[.int .i64 0,.string ⟨#[]⟩] 33)) w1.heap.size 33 (#[.int .i64 0,.string ⟨#[]⟩]:Array Value).toList from by have:=ak.new w1 33 (#[.int .i64 0,.string ⟨#[]⟩]:Array Value).toList;simpa using this)
   have m:=b.out _ f.out
   go_wp2
   refine ⟨m,?_⟩
   refine WL.on 5 ?_
   go_wp2_with fail
   refine (s.out _ f.out).mono ?_
   rintro e J ⟨rfl,aa⟩
   have p:=ah (ai.below aa)
   have u:=bth f aa
   have d:=b.out _ u.out
   have D:w1.heap.size≤w1.heap.size:=Nat.le_refl _
   clear aa ai
   go_wp2
   refine ⟨d,?_⟩
   refine WL.tk 6 d ?_
   refine WL.tk 7 d ?_
   refine WL.tk 8 d ?_
   obtain ⟨P,Y⟩:∃P,P=w1.heap.size:=⟨_,rfl⟩
   rw [←Y] at p 
   have D:w1.heap.size≤P:=by omega
   simp only [←Y]
   clear Y m
  all_goals
   refine WL.on 10 ?_
   refine aj rfl 33 _ _ rfl P 0 X rfl rfl 2 Z.out (by have:=p.out.there;simpa [Z.out] using this) eH a1.out ?_
   simp only [Act.put,nz]
   have r:=ah (below_setCells (B:=w1.heap.size) (a:=w1) P D X 0 J u.out)
   have ad:=ah (p.out.set (us:=X) (by simp [Z.out]))
   have am:Hid (Chg (fun k=>k=P) J (J.setCells P 0 X)):=ah (fO P X J)
   generalize J.setCells P 0 X=w8 at r ad am
   have ae:=b.out _ r.out
   refine ⟨ae,?_⟩
   refine WL.la 11 ?_
   clear ae d y p u
  all_goals
   have ar:=ah (Q.out.trans (r.out.mono Q.out.size))
   have ap:=ah (af.out.below r.out)
   have e9:=ad.out.range
   have be:(prog.info? 33).map (·.size)=some X.length:=by rw [Z.out];exact eH
   obtain ⟨WE,C⟩:∃z,w8.setCells (w.heap.size+1) 0 X=z:=⟨_,rfl⟩
   have aq:=ap.out.there
   have a5:WE.rangeAt (w.heap.size+1) 0 X:=by rw [←C];exact (ap.out.set (us:=X) (by rw [Z.out];rfl)).range
   have a2:Hid (Below w.heap.size w WE):=ah (by rw [←C];exact below_setCells _ (by omega) _ _ _ ar.out)
   have bt:=ah C
   clear am r C
   go_wp2_with (first|(refine wpList_load_mid rfl 33 _ rfl P 0 rfl X _ e9 underlying33 rfl be ?_)|(refine aj rfl 33 _ _ rfl (w.heap.size+1) 0 X rfl rfl 2 Z.out aq eH a1.out ?_;rw [bt.out]))
   refine aP rfl (w.heap.size+1) 0 rfl X _ a5 underlying33 rfl be rfl _ rfl ?_
   exact bj.out o X WE aE.out bu.out a2.out
end
end
section
open Go.RowKit Go.Maps Go.Shelf
theorem bQ.iK {w:World} {B sz n:Nat} {v:Value} {xs:List Value} (h:bQ w B sz v n xs):∃a c,v= .slice a n c:=by
 rcases h.2 with ⟨rfl,rfl⟩|⟨g,off,cap,rfl,_⟩
 ·exact ⟨_,_,rfl⟩
 exact ⟨_,_,rfl⟩
theorem Nb (n:Nat) (r:n≤100000) (w:World):Calls prog 101 #[.slice none 0 0,.int .i64 (n:Int)] w fun e w'=> ∃v,e= .returned v∧bQ w' w.heap.size 32 v 0 []∧Below w.heap.size w w':=by
 obtain ⟨m,q,hi,k,f,i,l,d⟩:=eu
 by_cases o:n=0
 ·subst o
  have h:=Any8.slices_Grow_room Tryz.growI none 0 0 0 w (Nat.le_refl _) (by omega) (by omega) (Nat.le_refl _)
  refine h.mono ?_
  rintro e w' ⟨rfl,rfl⟩
  exact ⟨_,rfl,iD _ _ _,Below.refl _ _⟩
 have h:=Any8.slices_Grow_grow Tryz.growI q (.agg m) hi k (by rw [f];decide) none 0 0 n [] w (Nat.le_refl _) (by omega) (by rw [i];omega) (by omega) (by simp) (fun _=>rfl) (fun a p=>by cases p)
 refine h.mono ?_
 rintro e w' ⟨rfl,rfl⟩
 have b:=grownCap_ge w (0+n) 0 42
 have g:=grownCap_le_maxLen w (0+n) 0 42 (by unfold maxLen;omega)
 refine ⟨_,rfl,⟨rfl,.inr ⟨w.heap.size,0,grownCap w (0+n) 0 42,rfl,Nat.le_refl _,?_,Nat.zero_le _,g,?_,fun j u hu=>by simp at hu⟩⟩,?_⟩
 ·show w.heap.size<(w.drew.alloc _).heap.size
  rw [World.size_alloc]
  exact Nat.lt_succ_self _
 ·refine there_alloc w.drew _ _ ?_
  simp [Builtin.zeroCells,Value.cells,d]
  have:n*32+(grownCap w n 0 42-n)*32=grownCap w n 0 42*32:=by
   rw [Nat.zero_add] at b
   rw [←Nat.add_mul];congr 1;omega
  exact this
 exact (Below.refl w.heap.size w).drew.alloc (Nat.le_refl _) _
theorem Gv (b:Nat) (v1:Value) (m:List Idl) (w:World) (J:w.cell? ⟨b,0,none⟩=some v1) (c1:w.cell? ⟨b,1,none⟩=some (.slice none 0 0)) (F:dF w v1 m) (i:∀x∈m,x.length=32) (hm:m.length≤100000) :
  Calls prog 56 #[.slice (some ⟨b,0,none⟩) 2 2] w fun e w'=> ∃v,e= .returned v∧bQ w' w.heap.size 32 v m.length (dx m)∧Below w.heap.size w w':=by
 obtain ⟨K,L,hi,z,n,y,M,t⟩:=eu
 have s:=World.block_lt_of_cell? w _ J
 have k:=ah (fun V (hb:Below w.heap.size w V)=>dF.flat (show dF V v1 m from bM.below F hb) i)
 obtain ⟨Q,cap,rfl,_,_⟩:=F.open
 have j:=ah (Nb m.length hm w)
 have N:IntKind.i64.wrap (m.length:Int)=(m.length:Int):=IntWalk.i64_in _ (by omega)
 have q1:decide ((m.length:Int)<0)=false:=decide_eq_false (by omega)
 have C:=ah (fun V (hb:Below w.heap.size w V)=>au J hb s)
 have q:=ah (fun V (hb:Below w.heap.size w V)=>au c1 hb s)
 have p:=ah (nJ m i)
 have E:=ah (MW m)
 have d:=ah hm
 clear F i hm
 go_enter func56,ntmps56
 go_wp2_with fail
 refine wp_loop_rounds 3 ?_
 rw [rounds_succ]
 go_wp2_with fail
 rw [rounds_succ]
 go_wp2_with fail
 rw [rounds_succ]
 go_wp2_with fail
 refine j.out.mono ?_
 rintro e w1 ⟨v,rfl,A,a⟩
 have g:=ah a
 have r:=ah A
 have R:=C.out w1 a
 have S:=q.out w1 a
 obtain ⟨vo,vc,rfl⟩:=A.iK
 obtain ⟨O,I,G,l⟩:=k.out w1 a
 injection G with G _ e2
 subst G e2
 have D:=ah l
 clear a A l j N q1
 go_wp2_with fail
 refine wp_loop_rounds 3 ?_
 rw [rounds_succ]
 go_wp2_with (refine dM rfl _ _ 44 rfl w.heap.size 42 L (.agg K) 32 32 underlying44 hi z n y t (by decide) _ 0 [] rfl r.out Q m.length cap (dx m) rfl p.out D.out E.out (by have:=d.out;unfold maxLen;omega) (by have:=d.out;omega) g.out.size ?_;intro v2 T g1 g2 g3)
 rw [Nat.zero_add,List.nil_append] at g1
 have o:=ah g1
 have f:=ah (g.out.grown g2 g.out.size r.out.qb)
 have P:=q.out T f.out
 obtain ⟨X,Y,rfl⟩:=g1.iK
 clear g1 g2 g3 R S
 go_wp2_with fail
 rw [rounds_succ]
 go_wp2_with (refine dM rfl _ _ 44 rfl w.heap.size 42 L (.agg K) 32 32 underlying44 hi z n y t (by decide) _ m.length (dx m) rfl o.out none 0 0 [] rfl rfl (fun h=>absurd h (by decide)) (fun u hu=>by cases hu) (by have:=d.out;unfold maxLen;omega) (by have:=d.out;omega) f.out.size ?_;intro W w3 g1 g2 g3)
 rw [Nat.add_zero,List.append_nil] at g1
 have B:=ah g1
 have H:=ah (f.out.grown g2 f.out.size o.out.qb)
 obtain ⟨Z,U,rfl⟩:=g1.iK
 clear g1 g2 g3 P
 go_wp2_with fail
 rw [rounds_succ]
 go_wp2_with fail
 go_ret
 exact ⟨_,rfl,B.out,H.out⟩
end
section
open Go.RowKit Go.Maps
theorem Ai {S:Nat→Prop} {w w':World} {b o:Nat} {cs:List Value} (h:w.rangeAt b o cs) (a:Chg S w w') (d:b<w.heap.size) (hb:¬S b):w'.rangeAt b o cs:=fun j v e=>by
 rw [World.cell?_of_block (a.block b d hb)]
 exact h j v e
section
variable {O:Nat → Prop} {N R M:Nat} {w:World} {q:Int} {L:LK} {sy:Nat → Bool} {B:Sb} {t l:List Rf} {n:Nat} {P:Nat → List Idl} {U:List Idl} {c:Nat} {F:List Ob}
def PI (N:Nat) (w:World) (e:Ending) (w':World):Prop:=∃v m,e= .returned v∧dF w' v m∧m.length≤N∧Below w.heap.size w w'
theorem LH (hv:DV O N R M w B.g q L sy) (hG:eP w) (hm:SM O w B t l n P U c) (hN:N+R≤1000000) (cc:N≤1000) (hM:M≤1000000):Calls prog 23 #[.pointer (some ⟨B.sb,0,none⟩)] w (PI N w):=by
 obtain ⟨zi,cd,b3⟩:=oP
 have cb:=@run_makeMap prog
 obtain ⟨W,hW⟩:∃W,w.alloc (.map #[] 0)=W:=⟨_,rfl⟩
 have a9:Below w.heap.size w W:=by rw [←hW];exact bal
 have aw:bW W w.heap.size 0 []:=by rw [←hW];exact iY w
 have H:=ah a9
 have al:=ah aw
 have cg:Hid (w.heap.size<W.heap.size):=ah aw.lt
 have ad:=ah (fun V (hb:Below w.heap.size w V)=>J2 (hv.below hb) hN hM (hG.below hb))
 have a2:=ah (fun V (hb:Below w.heap.size w V)=>Fp B.hb B.mp V (hm.below hb).shf)
 have bu:=ah (fun k S V (hs:bW V w.heap.size k S) (hl:S.length≤1000)=>kC w.heap.size k S V hs (by omega))
 have bc:=ah hm
 have A:Hid (∀V,Below w.heap.size w V→V.cell? ⟨B.sb,1,none⟩=some (.pointer (some ⟨B.g,0,none⟩))∧V.cell? ⟨B.sb,2,none⟩=some (.pointer (some ⟨B.hb,0,none⟩))):=ah (fun V hb=>⟨(hm.below hb).cell rfl,(hm.below hb).cell rfl⟩)
 have HW:=ah hW
 have aa:=ah cZ
 unfold PN at ad
 clear hv hG hm hW aw a9
 go_enter func23,ntmps23
 go_upto_region 4 with fail
 rw [HW.out]
 have d:=A.out W.drew H.out.drew
 refine tN 14 (fun x=>x.cell? ⟨B.sb,1,none⟩=some (.pointer (some ⟨B.g,0,none⟩))∧x.cell? ⟨B.sb,2,none⟩=some (.pointer (some ⟨B.hb,0,none⟩))) (by kernel_rfl) (by kernel_rfl) ?_
 refine WN.take (i:=0) (v:=?_) rfl (by kernel_rfl) (by decide) (by decide +kernel) (by decide +kernel) (fun _ _ _ h=>h) rfl ?_ d ?_
 rotate_left
 ·(intro w' a;(try dsimp only at a);go_simp;(try with_reducible rfl))
 simp only [Act.put,nz]
 refine WN.take (i:=1) (v:=?_) rfl (by kernel_rfl) (by decide) (by decide +kernel) (by decide +kernel) (fun _ _ _ h=>h) rfl ?_ d ?_
 rotate_left
 ·(intro w' a;(try dsimp only at a);go_simp;(try with_reducible rfl))
 simp only [Act.put,nz]
 refine WN.take (i:=2) (v:=?_) rfl (by kernel_rfl) (by decide) (by decide +kernel) (by decide +kernel) (fun _ _ _ h=>h) rfl ?_ d ?_
 rotate_left
 ·(intro w' a;(try dsimp only at a);go_simp;(try with_reducible rfl))
 simp only [Act.put,nz]
 refine WN.take (i:=3) (v:=?_) rfl (by kernel_rfl) (by decide) (by decide +kernel) (by decide +kernel) (fun _ _ _ h=>h) rfl ?_ d ?_
 rotate_left
 ·(intro w' a;(try dsimp only at a);go_simp;(try with_reducible rfl))
 simp only [Act.put,nz]
 refine WN.take (i:=5) (v:=?_) rfl (by kernel_rfl) (by decide) (by decide +kernel) (by decide +kernel) (fun _ _ _ h=>h) rfl ?_ d ?_
 rotate_left
 ·(intro w' a;(try dsimp only at a);go_simp;(try with_reducible rfl))
 simp only [Act.put,nz]
 refine WN.take (i:=6) (v:=?_) rfl (by kernel_rfl) (by decide) (by decide +kernel) (by decide +kernel) (fun _ _ _ h=>h) rfl ?_ d ?_
 rotate_left
 ·(intro w' a;(try dsimp only at a);go_simp;(try with_reducible rfl))
 simp only [Act.put,nz]
 refine WN.take (i:=7) (v:=?_) rfl (by kernel_rfl) (by decide) (by decide +kernel) (by decide +kernel) (fun _ _ _ h=>h) rfl ?_ d ?_
 rotate_left
 ·(intro w' a;(try dsimp only at a);go_simp;(try with_reducible rfl))
 simp only [Act.put,nz]
 refine WN.take (i:=8) (v:=?_) rfl (by kernel_rfl) (by decide) (by decide +kernel) (by decide +kernel) (fun _ _ _ h=>h) rfl ?_ d ?_
 rotate_left
 ·(intro w' a;(try dsimp only at a);go_simp;(try with_reducible rfl))
 simp only [Act.put,nz]
 refine WN.take (i:=13) (v:=?_) rfl (by kernel_rfl) (by decide) (by decide +kernel) (by decide +kernel) (fun _ _ _ h=>h) rfl ?_ d ?_
 rotate_left
 ·(intro w' a;(try dsimp only at a);go_simp;(try with_reducible rfl))
 simp only [Act.put,nz]
 refine WL.on 4 ?_
 go_wp2_with fail
 refine (ad.out W.drew H.out.drew).mono ?_
 rintro e w1 ⟨v,m,rfl,hq,aq,bb,ap⟩
 have cf:w.heap.size<W.heap.size:=by have:=al.out.lt;exact this
 have I:=ah (H.out.trans ((bC ap).mono H.out.size))
 have ab:=ah (al.out.on (bC ap))
 have az:=ah (hq.row aq)
 have r:=ah aq
 have F:=ah bb
 obtain ⟨T,Z,rfl⟩:=hq.iK
 have a7:=A.out w1 I.out
 clear ap hq aq bb d
 go_wp2_with fail
 refine ⟨a7,?_⟩
 refine WL.on 9 ?_
 go_wp2_with fail
 refine (a2.out w1 I.out).mono ?_
 rintro e C ⟨rfl,K⟩
 have ai:=bth I K
 have ac:=ah (ab.out.on K)
 have a4:=ah (show dF C (.slice T m.length Z) m from bM.below az.out K)
 have bi:=A.out C ai.out
 clear K a7 az
 go_wp2_with fail
 refine ⟨bi,?_⟩
 refine WL.on 10 ?_
 go_wp2_with fail
 have o:=ah (ak.new C 44 [.slice T m.length Z,.slice none 0 0])
 have y:Below C.heap.size C (C.alloc (.cells #[.slice T m.length Z,.slice none 0 0] 44)):=bal
 have o:Hid (ak (C.alloc (.cells #[.slice T m.length Z,.slice none 0 0] 44)) C.heap.size 44 [.slice T m.length Z,.slice none 0 0]):=ah o.out
 generalize C.alloc (.cells #[.slice T m.length Z,.slice none 0 0] 44)=w3 at y o ⊢
 have ax:=bth ai y
 have s:=ah (ac.out.on y)
 have b8:Hid (w.heap.size<w3.heap.size):=ah s.out.lt
 have bd:=ah (Gv C.heap.size (.slice T m.length Z) m w3 (o.out.range 0 _ rfl) (o.out.range 1 _ rfl) (show dF w3 (.slice T m.length Z) m from bM.below a4.out y) r.out (by have:=F.out;omega))
 have a1:=A.out w3 ax.out
 clear y bi a4
 refine ⟨a1,?_⟩
 refine WL.on 11 ?_
 go_wp2_with fail
 refine bd.out.mono ?_
 rintro e w4 ⟨v4,rfl,D,ag⟩
 have bh:=bth ax ag
 have bj:=ah (s.out.on ag)
 have bs:=ah (D.row r.out)
 have bn:=ah D.qb
 obtain ⟨ya,yc,rfl⟩:=D.iK
 have af:=A.out w4 bh.out
 clear ag a1 bd D o
 go_wp2_with fail
 refine ⟨af,?_⟩
 refine WN.take (i:=12) (v:=?_) rfl (by kernel_rfl) (by decide) (by decide +kernel) (by decide +kernel) (fun _ _ _ h=>h) rfl ?_ af ?_
 rotate_left
 ·(intro w' a;(try dsimp only at a);go_simp;(try with_reducible rfl))
 simp only [Act.put,nz]
 refine WN.done rfl (by decide +kernel) ?_
 clear af al ab ac s ad a2 I ai
 obtain ⟨_,_,e1,ca,Y⟩:=bs.out.open
 injection e1 with e1 _ e3
 subst e1 e3
 have br:=ah Y
 clear Y
 unfold maxLen at ca
 go_wp2_with fail
 go_loopw [22] (fun an wr=> ∃(k:Nat) (S:List Idl),k≤m.length∧S.length≤k∧an= .int .i64 k∧Hid (bW wr w.heap.size k S)∧Hid (Below w.heap.size w wr)∧Hid (Chg (fun b=>b=w.heap.size) w4 wr)) (fun an _=>(m.length-intOf an).toNat)
 case atStart=>exact ⟨0,[],by omega,by simp,rfl,bj,bh,ah (Chg.refl _ _)⟩
 obtain ⟨wo,rfl⟩:∃wo:World,wo=wr:=⟨_,rfl⟩
 obtain ⟨k,S,hk,b1,rfl,HS,HB,HC⟩:=hrel
 by_cases E:k<m.length
 ·obtain ⟨b2,off,rfl,be,u⟩:=br.out (by intro e;rw [e] at E;simp at E)
  have f1:=u k E
  have hid:=r.out m[k] (List.getElem_mem E)
  have ba:¬b2=w.heap.size:=by have h1:=bn.out b2 rfl;have h2:=ax.out.size;have h3:=b8.out;omega
  have f2:=Ai f1 HC.out be ba
  clear u f1 ba
  generalize m[k]=X at f2 hid
  have f:(prog.info? 42).map (·.size)=some (idC X).length:=by rw [av,hid];exact aa.out
  have bm:=ah (aJ X)
  have k0:(0:Int)≤k:=by omega
  have k1:(k:Int)<m.length:=by omega
  have d1:decide ((k:Int)<m.length)=true:=decide_eq_true k1
  have a5:Hid ((idC X).length=32):=ah (by rw [av,hid])
  have a3:=ah hid
  have a6:∀V,Below w.heap.size w V→ ∀p,idC X=p→(Instr.lookup 70 (.map (some B.hd)) (.agg p.toArray) false).run prog V= .ok (.bool false) V:=fun V hb p he=>by
   have:=(bc.out.below hb).hid.1.look underlying70 (qm V) hid
   rw [←he]
   unfold gZ at this
   exact this
  obtain ⟨p,Q⟩:∃z,idC X=z:=⟨_,rfl⟩
  have b4:=ah (fun V hb=>a6 V hb p Q)
  have bo:=ah Q
  rw [Q] at f2 f bm a5
  clear hid a6 Q
  go_upto_region 7 with (first|(refine wpList_load_mid rfl 42 _ rfl b2 (off+k*32) rfl p _ f2 underlying42 rfl f ?_)|(refine aD rfl 42 _ _ rfl zi p rfl rfl 32 a5.out b3 aa.out bm.out ?_;intro wn am J ce))
  have b6:=ah J
  have b7:=ah am
  have b5:=ah (HS.out.on J)
  have ao:Below w.heap.size w wn.drew:=(HB.out.trans (J.mono HB.out.size)).drew
  have d:wn.drew.cell? ⟨B.sb,7,none⟩=some (.map (some B.hd))∧wn.drew.rangeAt wo.heap.size 0 p∧(Instr.lookup 70 (.map (some B.hd)) (.agg p.toArray) false).run prog wn.drew= .ok (.bool false) wn.drew:=⟨(bc.out.below ao).cell rfl,am.range,b4.out _ ao⟩
  clear J am f2 ao
  refine wrL 6 (fun x=>x.cell? ⟨B.sb,7,none⟩=some (.map (some B.hd))∧x.rangeAt wo.heap.size 0 p∧(Instr.lookup 70 (.map (some B.hd)) (.agg p.toArray) false).run prog x= .ok (.bool false) x) ?_
  refine WL.tk 0 d ?_
  refine WL.tk 1 d ?_
  refine WL.tk 2 d ?_
  refine WL.tk 3 d ?_
  refine WL.tk 4 d ?_ (hy:=(fun w' a=>aM 42 _ (a.2.1) underlying42 rfl f _ rfl rfl))
  refine WL.take (i:=5) (v:=.bool false) rfl (by kernel_rfl) (by decide) (by decide +kernel) (by decide +kernel) (fun _ _ _ h=>h) rfl (fun w' a=>ou rfl rfl rfl a.2.2) d ?_
  simp only [Act.put,nz]
  refine WL.la 6 ?_
  clear d
  obtain ⟨wd,ae⟩:∃z,wn.drew=z:=⟨_,rfl⟩
  have G:Below wn.heap.size wn wd:=by rw [←ae];exact (Below.refl _ _).drew
  simp only [ae]
  have ar:=bth b6 G
  have a0:=ah (b5.out.on G)
  have e0:=(b7.out.below G).range
  clear ae G
  go_upto_region 8 with fail
  refine wp_region_lit ?_
  refine aW rfl (.map (some w.heap.size)) (by first|rfl|(go_simp;done)|(go_simp;rfl)) ?_
  simp only [Act.put,nz]
  refine wpList_load_mid rfl 42 _ rfl wo.heap.size 0 rfl p _ e0 underlying42 rfl f ?_
  simp only [Act.put,nz]
  refine bZ rfl _ _ _ 70 4 rfl underlying70 w.heap.size k (gZ S) rfl a0.out.1 X a3.out true (by rw [bo.out];rfl) rfl (by have:=F.out;unfold maxLen;omega) ?_
  intro w5 g1 g2
  simp only [Act.put,nz]
  have bx:=ah (a0.out.add a3.out g1)
  have b0:=HB.out.size
  have bz:=ah ((HB.out.trans (ar.out.mono HB.out.size)).grown g2 (by have:=ar.out.size;omega) (fun j hj=>by cases hj;exact Nat.le_refl _))
  have bp:Hid (Chg (fun b=>b=w.heap.size) w4 w5):=ah (HC.out.trans ((Chg.of_below ar.out).trans ⟨g2.os,g2.tape,g2.output,g2.size,fun j hj hn=>g2.block j hj (fun e=>hn (Option.some.inj e))⟩))
  have b9:(gJ S X).length≤k+1:=by
   unfold gJ
   split
   ·omega
   rw [List.length_cons];omega
  clear g1 g2 b0 e0
  go_wp2_with fail
  go_roundw
  case rel=>exact ⟨k+1,gJ S X,by omega,b9,by go_num,bx,bz,bp⟩
  case measure=>simp [intOf];omega
 obtain rfl:k=m.length:=by omega
 have d1:decide ((m.length:Int)<m.length)=false:=decide_eq_false (by omega)
 have bv:=ah (bu.out m.length S wo HS.out (by have:=F.out;omega))
 have bt:=ah (Nat.le_trans b1 F.out)
 clear HS
 go_wp2_with fail
 refine bv.out.mono ?_
 rintro e w5 ⟨v5,m5,rfl,a8,_,bf,_,bk⟩
 have aE:Hid (PI N w (.returned v5) w5):=ah ⟨v5,m5,rfl,a8,by rw [bf];exact bt.out,HB.out.trans (bk.mono HB.out.size)⟩
 clear a8 bf bk
 go_wp2_with fail
 go_ret
 exact aE.out
end
section
variable {O:Nat → Prop} {w w':World} {B:Sb} {t l:List Rf} {n:Nat} {P P':Nat → List Idl} {U U':List Idl} {c c':Nat}
theorem SM.one {x:Nat} (h:SM O w B t l n P U c) (f:Chg (fun b=>b=x) w w') (hx:x∈[B.pn 0,B.pn 1,B.pn 2,B.pn 3,B.hd,B.pt])
  (j:∀k,k<4→bW w' (B.pn k) c' (P' k)) (m:bW w' B.hd c' []) (hu:bW w' B.pt c' U'):SM O w' B t l n P' U' c':=by
 have nd:∀a∈[B.sb,B.ob,B.hb,B.mp],∀b∈[B.pn 0,B.pn 1,B.pn 2,B.pn 3,B.hd,B.pt],a≠b:=(List.nodup_append.1 (show ([B.sb,B.ob,B.hb,B.mp]++[B.pn 0,B.pn 1,B.pn 2,B.pn 3,B.hd,B.pt]).Nodup from h.nd)).2.2
 have d:x∈B.bl:=List.mem_append.2 (.inr hx:x∈[B.sb,B.ob,B.hb,B.mp]∨_)
 refine ⟨h.box.chg f (nd B.sb (by simp) x hx),⟨h.bk.op.chg f (nd B.ob (by simp) x hx) (fun g k i e=> ?_) (fun g k i e=> ?_),h.bk.ob,h.bk.ot,h.bk.ol⟩,h.shf.chg f (nd B.hb (by simp) x hx) (nd B.mp (by simp) x hx),j,m,hu,h.own,h.nd,h.vt,h.vl⟩
 ·exact h.vt g k i (by rw [show k=x from e];exact d)
 exact h.vl g k i (by rw [show k=x from e];exact d)
theorem SM.Rm (h:SM O w B t l n P U c) {i k:Nat} (hi:i<4) (e:k<4) (a:i≠k):B.pn i≠B.pn k:=by
 have nd:=(List.nodup_append.1 (show ([B.sb,B.ob,B.hb,B.mp]++[B.pn 0,B.pn 1,B.pn 2,B.pn 3,B.hd,B.pt]).Nodup from h.nd)).2.1
 simp only [List.nodup_cons,List.mem_cons,List.not_mem_nil,not_or,or_false] at nd
 obtain ⟨⟨a1,a2,a3,_⟩,⟨b,d,_⟩,⟨c1,_⟩,_⟩:=nd
 clear h
 obtain rfl|rfl|rfl|rfl:i=0∨i=1∨i=2∨i=3:=by omega
 all_goals
  obtain rfl|rfl|rfl|rfl:k=0∨k=1∨k=2∨k=3:=by omega
  all_goals first|exact absurd rfl a|assumption|exact Ne.symm (by assumption)
theorem SM.Md (h:SM O w B t l n P U c) {i:Nat} (hi:i<4):B.pn i≠B.hd∧B.pn i≠B.pt∧B.hd≠B.pt:=by
 have nd:=(List.nodup_append.1 (show ([B.sb,B.ob,B.hb,B.mp]++[B.pn 0,B.pn 1,B.pn 2,B.pn 3,B.hd,B.pt]).Nodup from h.nd)).2.1
 simp only [List.nodup_cons,List.mem_cons,List.not_mem_nil,not_or,or_false] at nd
 obtain ⟨⟨_,_,_,a4,a5⟩,⟨_,_,f,d⟩,⟨_,c4,c5⟩,⟨e,b⟩,a,_⟩:=nd
 clear h
 obtain rfl|rfl|rfl|rfl:i=0∨i=1∨i=2∨i=3:=by omega
 ·exact ⟨a4,a5,a⟩
 ·exact ⟨f,d,a⟩
 ·exact ⟨c4,c5,a⟩
 exact ⟨e,b,a⟩
theorem vI {B:Sb} {i:Nat} (hi:i<4):B.pn i∈[B.pn 0,B.pn 1,B.pn 2,B.pn 3,B.hd,B.pt]:=by
 obtain rfl|rfl|rfl|rfl:i=0∨i=1∨i=2∨i=3:=by omega
 all_goals simp
theorem SM.Fw (h:SM O w B t l n P U c) {i:Nat} (hi:i<4) {S:List Idl} (a:c≤c') (d:Chg (fun b=>b=B.pn i) w w') (g:bW w' (B.pn i) c' S):SM O w' B t l n (upN P i S) U c':=by
 obtain ⟨j,m,o⟩:=h.Md hi
 refine h.one d (vI hi) (fun k f=> ?_) ((h.hid.mono a).chg d (fun e=>j e.symm)) ((h.put.mono a).chg d (fun e=>m e.symm))
 by_cases e:k=i
 ·subst e;rw [aI];exact g
 rw [aF e]
 exact ((h.pin k f).mono a).chg d (h.Rm f hi e)
theorem SM.LQ (h:SM O w B t l n P U c) {S:List Idl} (a:c≤c') (d:Chg (fun b=>b=B.pt) w w') (f:bW w' B.pt c' S):SM O w' B t l n P S c':=by
 refine h.one d (by simp) (fun k e=>((h.pin k e).mono a).chg d (h.Md e).2.1) ((h.hid.mono a).chg d (h.Md (i:=0) (by omega)).2.2) f
theorem SM.Qb (h:SM O w B t l n P U c) (a:c≤c') (d:Chg (fun b=>b=B.hd) w w') (f:bW w' B.hd c' []):SM O w' B t l n P U c':=by
 refine h.one d (by simp) (fun k e=>((h.pin k e).mono a).chg d (h.Md e).1) f ((h.put.mono a).chg d (h.Md (i:=0) (by omega)).2.2.symm)
theorem dO {w w':World} {b:Nat} (g2:w.grownBy w' (some b)):Chg (fun j=>j=b) w w':=⟨g2.os,g2.tape,g2.output,g2.size,fun j d a=>g2.block j d (fun e=>a (Option.some.inj e))⟩
end
def q8 (s:Int):Bool:=decide (0≤s∧s<4)
theorem qB (p:Value) (s:Int) (w:World):Calls prog 41 #[p,.int .i64 s] w fun e w'=>e= .returned (.bool (q8 s))∧w'=w:=by
 by_cases h1:0≤s
 ·by_cases b:s<4
  ·have d:decide (0≤s)=true:=decide_eq_true h1
   have f:decide (s<4)=true:=decide_eq_true b
   have a:Hid (q8 s=true):=ah (decide_eq_true ⟨h1,b⟩)
   go_enter func41,ntmps41
   go_wp2_with fail
   go_ret
   exact ⟨by rw [a.out];rfl,rfl⟩
  have d:decide (0≤s)=true:=decide_eq_true h1
  have f:decide (s<4)=false:=decide_eq_false b
  have a:Hid (q8 s=false):=ah (decide_eq_false fun h=>b h.2)
  go_enter func41,ntmps41
  go_wp2_with fail
  go_ret
  exact ⟨by rw [a.out];rfl,rfl⟩
 have d:decide (0≤s)=false:=decide_eq_false h1
 have a:Hid (q8 s=false):=ah (decide_eq_false fun h=>h1 h.1)
 go_enter func41,ntmps41
 go_wp2_with fail
 go_ret
 exact ⟨by rw [a.out];rfl,rfl⟩
theorem Iq {l:List Idl} {x:Idl}:gJ l x≠[]:=fun e=>by
 have:=(dU (l:=l) (x:=x) (y:=x)).2 (.inl rfl)
 rw [e] at this;cases this
theorem SL.put {L:LK} {sy:Nat→Bool} {t l:List Rf} {F:List Ob} {U:List Idl} {c:Nat} (h:SL L sy t l F U c) {o:Ob} (i:aB o=true) (f:gI F (idO o)=none):SL (L.put 0 (dh (idO o)) (some (iG o,0))) (upN sy 0 false) t l (o::F) (gJ U (idO o)) (c+1):=by
 have b:∀p∈F,idO p≠idO o:=fun p a e=>by
  have:=List.find?_eq_none.1 f p a
  simp [e] at this
 refine ⟨h.lo.add i b 0,by rw [List.length_cons];have:=h.fc;omega,List.nodup_cons.2 ⟨fun hm=> ?_,h.nd⟩,fun y=>by rw [LK.aH (fun e=>absurd e.1 (by decide))];exact h.pk y,?_,Nat.le_trans h.lc (by omega),by rw [LK.aH (fun e=>absurd e.1 (by decide))];exact h.tm,h.ok,fun p a hx=> ?_,fun y hy=> ?_,fun e=>absurd e Iq⟩
 ·obtain ⟨p,a,e⟩:=List.mem_map.1 hm
  exact b p a e
 ·obtain ⟨m,hm⟩:=h.bk
  exact ⟨m,by rw [LK.aH (fun e=>absurd e.1 (by decide))];exact hm⟩
 ·rcases List.mem_cons.1 a with rfl|a
  ·exact absurd (dU.2 (.inl rfl)) hx
  intro d hd
  rw [LK.aH (fun e=>b p a (yt (fC _) (fC _) e.2))] at hd
  exact h.uf p a (fun g=>hx (dU.2 (.inr g))) d hd
 rcases dU.1 hy with rfl|hy
 ·exact ⟨o,List.mem_cons_self ..,rfl⟩
 obtain ⟨p,a,e⟩:=h.up y hy
 exact ⟨p,List.mem_cons_of_mem _ a,e⟩
theorem SM.res {O b:Nat→Prop} {w w':World} {B:Sb} {t l:List Rf} {n n':Nat} {P P':Nat→List Idl} {U U':List Idl} {c c':Nat} (a:SM b w' B t l n' P' U' c') (h:SM O w B t l n P U c):SM O w' B t l n' P' U' c' :=
 ⟨a.box,⟨a.bk.op,h.bk.ob,h.bk.ot,h.bk.ol⟩,a.shf,a.pin,a.hid,a.put,h.own,h.nd,h.vt,h.vl⟩
section
variable {O:Nat → Prop} {N R M:Nat} {w:World} {q:Int} {L:LK} {sy:Nat → Bool} {B:Sb} {t l:List Rf} {n:Nat} {P:Nat → List Idl} {U:List Idl} {c:Nat} {F:List Ob}
def Bd (O:Nat→Prop) (N R M:Nat) (q:Int) (B:Sb) (t l:List Rf) (n:Nat) (P:Nat→List Idl) (c:Nat) (F:List Ob) (L:LK) (sy:Nat→Bool) (U:List Idl) (i:Nat) (o:Ob) (w w':World):Prop :=
 ∃N' R' L' sy' a U',N'≤N+1∧R'≤R+2∧DV O N' R' M w' B.g q L' sy'∧SM O w' B t l n (upN P i (gJ (P i) (idO o))) U' (c+3)∧SL L' sy' t l a U' (c+3)∧((a=F∧U'=U∧(gI F (idO o)).isSome=true∧L'=L∧sy'=sy)∨(a=o::F∧U'=gJ U (idO o)∧gI F (idO o)=none∧L'=L.put 0 (dh (idO o)) (some (iG o,0))∧sy'=upN sy 0 false))∧Chg (fun j=> ¬O j∨j∈B.bl) w w'
def qd (O:Nat→Prop) (N R M:Nat) (q:Int) (B:Sb) (t l:List Rf) (n:Nat) (P:Nat→List Idl) (c:Nat) (F:List Ob) (L:LK) (sy:Nat→Bool) (U:List Idl) (s:Int) (o:Ob) (w:World) (e:Ending) (w':World):Prop :=
 if (q8 s&&aB o)=true then e= .returned (.tuple #[.agg (idC (idO o)).toArray,.int .i64 0])∧Bd O N R M q B t l n P c F L sy U s.toNat o w w'
 else e= .returned (.tuple #[.agg (idC zid).toArray,.int .i64 1])∧Below w.heap.size w w'
theorem Da (hv:DV O N R M w B.g q L sy) (hG:eP w) (hm:SM O w B t l n P U c) (hl:SL L sy t l F U c) (hN:N+R≤800000) (b9:N≤100) (s k:Int) (b:ByteArray) (hM:aB ⟨k,b⟩=true→b.size+12≤M) (bp:M≤1000000) (hq:3*((N+1)*M)+M≤q) (cr:q≤1000000000) (hc:c≤900) :
  Calls prog 19 #[.pointer (some ⟨B.sb,0,none⟩),.int .i64 s,.agg #[.int .i64 k,.string b]] w (qd O N R M q B t l n P c F L sy U s ⟨k,b⟩ w):=by
 obtain ⟨cH,cI⟩:=dQ
 have D:Hid ((idC zid).length=32):=ah (by rw [av,aV])
 have br:=ah (aJ zid)
 obtain ⟨A,bi⟩:∃z,idC zid=z:=⟨_,rfl⟩
 rw [bi] at cH cI D br
 obtain ⟨W,hW⟩:∃W,(w.alloc (.cells #[.int .i64 k,.string b] 33)).alloc (.cells A.toArray 42)=W:=⟨_,rfl⟩
 have ck:Below w.heap.size w W:=by rw [←hW];exact bal.alloc (by simp) _
 have cw:ak W w.heap.size 33 [.int .i64 k,.string b]:=by rw [←hW];exact (ak.new w 33 [.int .i64 k,.string b]).below bal
 have cN:ak W (w.heap.size+1) 42 A:=by
  rw [←hW]
  have:=ak.new (w.alloc (.cells #[.int .i64 k,.string b] 33)) 42 A
  rwa [World.size_alloc] at this
 have ce:=ah ck
 have J:=ah cw
 have a:=ah cN
 have H:=ah (BQ k b W (hG.below ck).laid)
 unfold rU at H
 have bc:=ah (fun V=>qB (.pointer (some ⟨B.sb,0,none⟩)) s V)
 have ap:=ah cZ
 have b4:(prog.info? 42).map (·.size)=some A.length:=by rw [D.out];exact cZ
 have h2:(prog.info? 33).map (·.size)=some ([.int .i64 k,.string b]:List Value).length:=eH
 have e0:=cw.range
 have HW:=ah hW
 have cV:=ah bi
 clear hW ck cw cN
 cases a7:q8 s&&aB ⟨k,b⟩ with
 | false =>
  have ab:Hid (∀w',Below w.heap.size w w'→qd O N R M q B t l n P c F L sy U s ⟨k,b⟩ w (.returned (.tuple #[.agg A.toArray,.int .i64 1])) w'):=ah fun w' hb=>by
   unfold qd
   rw [a7,←bi]
   exact ⟨rfl,hb⟩
  clear hv hG hm hl hN b9 hM bp hq cr hc bi
  have cn:(if aB ⟨k,b⟩=true then idO ⟨k,b⟩ else zid).length=32:=by split;exact fC _;exact aV
  generalize (if aB ⟨k,b⟩=true then idO ⟨k,b⟩ else zid)=y at H cn
  have Q:Hid ((idC y).length=32):=ah (by rw [av,cn])
  have ae:=ah (aJ y)
  clear cn
  generalize idC y=cy at H Q ae
  cases hh:q8 s with
  | false =>
   rw [hh] at bc
   clear a7 hh
   go_enter func19,ntmps19
   go_upto_region 1 with fail
   rw [HW.out]
   clear HW
   go_wp2_with (refine wpList_load_mid rfl 33 _ rfl w.heap.size 0 rfl [.int .i64 k,.string b] _ e0 underlying33 rfl h2 ?_)
   refine H.out.mono ?_
   rintro e w1 ⟨rfl,Y⟩
   have ad:=bth ce Y
   replace a:=ah (a.out.below Y)
   clear Y H e0 J
   go_upto_region 4 with (refine aD rfl 42 _ _ rfl A.toArray cy rfl rfl 32 Q.out (by simpa using D.out) ap.out ae.out ?_;intro w2 a2 Z cO)
   have ao:=bth ad Z
   replace a:=ah (a.out.below Z)
   clear Z a2
   go_wp2_with fail
   refine (bc.out w2).mono ?_
   rintro e w3 ⟨rfl,rfl⟩
   go_upto_region 5 with fail
   obtain ⟨WE,v⟩:∃z,w3.setCells (w.heap.size+1) 0 A=z:=⟨_,rfl⟩
   have a6:WE.rangeAt (w.heap.size+1) 0 A:=by rw [←v];exact (a.out.set (us:=A) rfl).range
   have cg:Hid (Below w.heap.size w WE):=ah (by rw [←v];exact below_setCells _ (by omega) _ _ _ ao.out)
   have a1:w3.there (w.heap.size+1) 0 32:=by have:=a.out.there;rwa [D.out] at this
   refine wp_region_lit ?_
   refine aW rfl (.agg A.toArray) (by go_simp) ?_
   simp only [Act.put,nz]
   refine aj rfl 42 _ _ rfl (w.heap.size+1) 0 A rfl rfl 32 D.out a1 cZ br.out ?_
   rw [v]
   simp only [Act.put,nz]
   go_wp2_with fail
   refine aP rfl (w.heap.size+1) 0 rfl A _ a6 underlying42 rfl b4 rfl _ rfl ?_
   exact ab.out WE cg.out
  | true =>
   rw [hh,Bool.true_and] at a7
   rw [hh] at bc
   rw [a7] at H
   clear a7 hh
   go_enter func19,ntmps19
   go_upto_region 1 with fail
   rw [HW.out]
   clear HW
   go_wp2_with (refine wpList_load_mid rfl 33 _ rfl w.heap.size 0 rfl [.int .i64 k,.string b] _ e0 underlying33 rfl h2 ?_)
   refine H.out.mono ?_
   rintro e w1 ⟨rfl,Y⟩
   have ad:=bth ce Y
   replace a:=ah (a.out.below Y)
   clear Y H e0 J
   go_upto_region 4 with (refine aD rfl 42 _ _ rfl A.toArray cy rfl rfl 32 Q.out (by simpa using D.out) ap.out ae.out ?_;intro w2 a2 Z cO)
   have ao:=bth ad Z
   replace a:=ah (a.out.below Z)
   clear Z a2
   go_wp2_with fail
   refine (bc.out w2).mono ?_
   rintro e w3 ⟨rfl,rfl⟩
   go_upto_region 5 with fail
   obtain ⟨WE,v⟩:∃z,w3.setCells (w.heap.size+1) 0 A=z:=⟨_,rfl⟩
   have a6:WE.rangeAt (w.heap.size+1) 0 A:=by rw [←v];exact (a.out.set (us:=A) rfl).range
   have cg:Hid (Below w.heap.size w WE):=ah (by rw [←v];exact below_setCells _ (by omega) _ _ _ ao.out)
   have a1:w3.there (w.heap.size+1) 0 32:=by have:=a.out.there;rwa [D.out] at this
   refine wp_region_lit ?_
   refine aW rfl (.agg A.toArray) (by go_simp) ?_
   simp only [Act.put,nz]
   refine aj rfl 42 _ _ rfl (w.heap.size+1) 0 A rfl rfl 32 D.out a1 cZ br.out ?_
   rw [v]
   simp only [Act.put,nz]
   go_wp2_with fail
   refine aP rfl (w.heap.size+1) 0 rfl A _ a6 underlying42 rfl b4 rfl _ rfl ?_
   exact ab.out WE cg.out
 | true =>
  rw [Bool.and_eq_true] at a7
  obtain ⟨hh,hr⟩:=a7
  rw [hh] at bc
  rw [hr] at H
  simp only [if_true] at H
  obtain ⟨i,hi,rfl⟩:∃i:Nat,i<4∧s=(i:Int):=by
   unfold q8 at hh
   rw [decide_eq_true_eq] at hh
   exact ⟨s.toNat,by omega,by omega⟩
  have ab:Hid (∀w',Bd O N R M q B t l n P c F L sy U i ⟨k,b⟩ w w'→qd O N R M q B t l n P c F L sy U (i:Int) ⟨k,b⟩ w (.returned (.tuple #[.agg (idC (idO ⟨k,b⟩)).toArray,.int .i64 0])) w'):=ah fun w' hb=>by
   unfold qd
   rw [hh,hr]
   exact ⟨rfl,hb⟩
  have a4:(idO ⟨k,b⟩).length=32:=fC _
  have bo:=ah (fun V (hb:Below w.heap.size w V)=>wR (hv.below hb) (hG.below hb) (hm.below hb) hl (by omega) bp (idO ⟨k,b⟩) a4)
  have cd:=ah (fun V (hb:Below w.heap.size w V)=>LH (hv.below hb) (hG.below hb) (hm.below hb) (by omega) (by omega) bp)
  have a8:Hid (gI F (idO ⟨k,b⟩)=none→ ∀w5,Below w.heap.size w w5→ ∀V,Below w5.heap.size w5 V→Calls prog 52 #[.pointer (some ⟨B.g,0,none⟩),.agg #[.int .i64 k,.string b]] V (IB (Ou (Ou O w w5) w5 V) (N+1) (R+2) M B.g q (L.put 0 (dh (idO ⟨k,b⟩)) (some (iG ⟨k,b⟩,0))) (upN sy 0 false) (idO ⟨k,b⟩) V)):=ah fun hf w5 h5 V hb=>by
   have hn:∀p∈F,idO p≠idO ⟨k,b⟩:=fun p hp e=>by
    have:=List.find?_eq_none.1 hf p hp
    simp [e] at this
   exact MF ((hv.on h5).on hb) (hG.below (h5.trans (hb.mono h5.size))) k b hr (by omega) bp (hl.lo.non a4 hn) (hl.lo.tmp a4) (hM hr) hq cr
  have b7:=ah (hl.more (c':=c+3) (by omega))
  have bu:=ah (fun hf=>(hl.put hr hf).more (c':=c+3) (by omega))
  have HV:=ah hv
  have HM:=ah hm
  have a0:=ah hv.olt
  have cj:=ah hv.ko
  have cR:=ah b9
  have cp:=ah hc
  have ar:=ah a4
  have k0:(0:Int)≤(i:Int):=by omega
  have k1:(i:Int)<4:=by omega
  have cF:Hid (∀V G n' P' U' c',SM G V B t l n' P' U' c'→V.cell? ⟨B.sb,3+i,none⟩=some (.map (some (B.pn i)))):=ah fun V G n' P' U' c' h=>h.cell (by
   obtain rfl|rfl|rfl|rfl:i=0∨i=1∨i=2∨i=3:=by omega
   all_goals rfl)
  have Q:Hid ((idC (idO ⟨k,b⟩)).length=32):=ah (by rw [av,a4])
  have ae:=ah (aJ (idO ⟨k,b⟩))
  clear hv hG hm hl hN b9 hM bp hq cr hc bi hr hh cV cI
  obtain ⟨x,hx⟩:∃x,idO ⟨k,b⟩=x:=⟨_,rfl⟩
  have cb:=ah hx
  rw [hx] at H bo a8 Q ae ar a4 ab bu
  obtain ⟨X,ct⟩:∃z,idC x=z:=⟨_,rfl⟩
  have bk:=ah ct
  rw [ct] at H bo Q ae ab
  have ag:(prog.info? 42).map (·.size)=some X.length:=by rw [Q.out];exact cZ
  clear hx ct a4
  go_enter func19,ntmps19
  go_upto_region 1 with fail
  rw [HW.out]
  clear HW
  go_wp2_with (refine wpList_load_mid rfl 33 _ rfl w.heap.size 0 rfl [.int .i64 k,.string b] _ e0 underlying33 rfl h2 ?_)
  refine H.out.mono ?_
  rintro e w1 ⟨rfl,Y⟩
  have ad:=bth ce Y
  replace J:=ah (J.out.below Y)
  replace a:=ah (a.out.below Y)
  clear Y H e0
  go_upto_region 4 with (refine aD rfl 42 _ _ rfl A.toArray X rfl rfl 32 Q.out (by simpa using D.out) ap.out ae.out ?_;intro w2 a2 Z cO)
  have ao:=bth ad Z
  replace J:=ah (J.out.below Z)
  replace a:=ah (a.out.below Z)
  have o:=ah a2
  have e2:=a2.range
  clear Z a2
  go_wp2_with fail
  refine (bc.out w2).mono ?_
  rintro e w3 ⟨rfl,rfl⟩
  go_wp2_with (refine wpList_load_mid rfl 42 _ rfl w1.heap.size 0 rfl X _ e2 underlying42 rfl ag ?_)
  refine (bo.out w3 ao.out).mono ?_
  intro e w4 bt
  unfold oW at bt
  cases hf:gI F x with
  | some o' =>
   rw [hf] at bt
   obtain ⟨rfl,am⟩:=bt
   have bv:=bth ao am
   replace a:=ah (a.out.below am)
   replace o:=ah (o.out.below am)
   have cE:=ah (nV o')
   have bx:Hid ((obC o').length=2):=ah rfl
   have cc:=ah hf
   clear am e2 J bo cd a8 hf
   generalize obC o'=co at cE bx
   go_upto_region 7 with (refine aD rfl 33 _ _ rfl #[.int .i64 0,.string ⟨#[]⟩] co rfl rfl 2 bx.out rfl eH cE.out ?_;intro wt cS I cX)
   have b3:=bth bv I
   replace a:=ah (a.out.below I)
   replace o:=ah (o.out.below I)
   clear cS I
   obtain ⟨G,aa⟩:∃G,Ou O w wt=G:=⟨_,rfl⟩
   have az:Hid (DV G N R M wt B.g q L sy):=ah (by rw [←aa];exact HV.out.on b3.out)
   have K:Hid (SM G wt B t l n P U c):=ah (by rw [←aa];exact (HM.out.below b3.out).sub fun j r=> .inl r)
   have S:Hid ((∀j,O j→G j)∧G (w.heap.size+1)∧G w1.heap.size):=ah (by rw [←aa];exact ⟨fun j r=> .inl r,.inr ⟨by omega,a.out.lt⟩,.inr ⟨ad.out.size,o.out.lt⟩⟩)
   have a5:Hid (Chg (fun j=> ¬O j∨j∈B.bl) w wt):=ah (Chg.of_below b3.out)
   have bn:Hid (∀w',DV O N R M w' B.g q L sy→SM O w' B t l n (upN P i (gJ (P i) x)) U (c+3)→Chg (fun j=> ¬O j∨j∈B.bl) w w'→Bd O N R M q B t l n P c F L sy U i ⟨k,b⟩ w w'):=ah fun w' h1 h2 h3=>by
    unfold Bd
    rw [cb.out]
    exact ⟨N,R,L,sy,F,U,by omega,by omega,h1,h2,b7.out,.inl ⟨rfl,rfl,by rw [cc.out];rfl,rfl,rfl⟩,h3⟩
   clear aa bv ao b3
   go_upto_region 15 with fail
   have d:wt.drew.cell? ⟨B.sb,3+i,none⟩=some (.map (some (B.pn i)))∧wt.drew.rangeAt w1.heap.size 0 X:=⟨cF.out wt G _ _ _ _ K.out,o.out.range⟩
   refine wrL 7 (fun x=>x.cell? ⟨B.sb,3+i,none⟩=some (.map (some (B.pn i)))∧x.rangeAt w1.heap.size 0 X) ?_
   refine WL.tk 0 d ?_
   refine WL.tk 1 d ?_
   refine WL.tk 2 d ?_
   refine WL.tk 3 d ?_
   refine WL.tk 4 d ?_
   refine WL.tk 5 d ?_
   refine WL.tk 6 d ?_ (hy:=(fun w' af=>aM 42 _ (af.2) underlying42 rfl ag _ rfl rfl))
   refine WL.la 7 ?_
   clear d
   obtain ⟨wd,E⟩:∃z,wt.drew=z:=⟨_,rfl⟩
   have m:Below wt.heap.size wt wd:=by rw [←E];exact (Below.refl _ _).drew
   simp only [E]
   replace az:=ah (az.out.below m)
   replace K:=ah (K.out.below m)
   replace a:=ah (a.out.below m)
   replace o:=ah (o.out.below m)
   replace a5:=ah (a5.out.trans (Chg.of_below m))
   clear E m
   refine bZ rfl _ _ _ 70 4 rfl underlying70 (B.pn i) (c) (gZ (P i)) rfl (K.out.pin i hi).1 x ar.out true (by rw [bk.out];rfl) rfl (by have:=cp.out;unfold maxLen;omega) ?_
   intro w9 g1 g2
   simp only [Act.put,nz]
   have f:=dO g2
   have u:B.pn i∈B.bl:=List.mem_append.2 (.inr (vI hi):B.pn i∈[B.sb,B.ob,B.hb,B.mp]∨_)
   have bm:=a0.out _ (HM.out.own _ u)
   have ch:=ad.out.size
   have ac:=ah ((K.out.Fw hi (c':=c+3) (by omega) f (((K.out.pin i hi).add ar.out g1).mono (by omega))).res HM.out)
   have aw:=ah (az.out.chg f (fun j r=>by rw [r];exact S.out.1 _ (HM.out.own _ u)))
   replace a:=ah (a.out.chg f (by omega))
   replace o:=ah (o.out.chg f (by omega))
   have ca:=ah (a5.out.trans (f.mono fun j _ r=> .inr (by rw [r];exact u)))
   have e2:=o.out.range
   obtain ⟨WE,v⟩:∃z,w9.setCells (w.heap.size+1) 0 X=z:=⟨_,rfl⟩
   have ai:Chg (fun j=>j=w.heap.size+1) w9 WE:=by rw [←v];exact fO _ _ _
   have a6:WE.rangeAt (w.heap.size+1) 0 X:=by rw [←v];exact (a.out.set (us:=X) (by rw [D.out,Q.out])).range
   have a1:w9.there (w.heap.size+1) 0 32:=by have:=a.out.there;rwa [D.out] at this
   have aE:¬O (w.heap.size+1):=fun h=>by have:=a0.out _ h;omega
   have bj:=ah (bn.out WE ((aw.out.chg ai (fun j r=>by rw [r];exact S.out.2.1)).sub S.out.1 cj.out) (ac.out.chg ai (fun j r=>by rw [r];exact aE)) (ca.out.trans (ai.mono fun j _ r=> .inl (by rw [r];exact aE))))
   have cl:=ah v
   clear g1 g2 f ai v aE bn
   go_wp2_with (first|(refine wpList_load_mid rfl 42 _ rfl w1.heap.size 0 rfl X _ e2 underlying42 rfl ag ?_)|(refine aj rfl 42 _ _ rfl (w.heap.size+1) 0 X rfl rfl 32 Q.out a1 ap.out ae.out ?_;rw [cl.out]))
   refine aP rfl (w.heap.size+1) 0 rfl X _ a6 underlying42 rfl ag rfl _ rfl ?_
   exact ab.out WE bj.out
  | none =>
   rw [hf] at bt
   obtain ⟨rfl,am⟩:=bt
   have cc:=ah hf
   have b6:=ah (a8.out hf)
   have cL:=ah (bu.out hf)
   clear e2 bo a8 bu b7 hf
   go_upto_region 8 with fail
   have I:Below w4.heap.size w4 (w4.alloc (.cells #[.int .i64 0,.string ⟨#[]⟩] 33)):=bal
   generalize w4.alloc (.cells #[.int .i64 0,.string ⟨#[]⟩] 33)=cU at I ⊢
   have al:=am.trans (I.mono am.size)
   have bv:=bth ao al
   replace J:=ah (J.out.below al)
   replace a:=ah (a.out.below al)
   replace o:=ah (o.out.below al)
   clear am I al
   go_wp2_with fail
   refine (cd.out cU bv.out).mono ?_
   rintro e w5 ⟨v5,m5,rfl,cK,cT,I⟩
   obtain ⟨va,vc,rfl,_,_⟩:=cK.open
   have b2:=bth bv I
   replace J:=ah (J.out.below I)
   replace a:=ah (a.out.below I)
   replace o:=ah (o.out.below I)
   have cW:decide ((200:Int)≤(m5.length:Int))=false:=decide_eq_false (by have:=cR.out;omega)
   clear cK cT I cd
   obtain ⟨G,aa⟩:∃G,Ou O w w5=G:=⟨_,rfl⟩
   have b5:Hid (SM G w5 B t l n P U c):=ah (by rw [←aa];exact (HM.out.below b2.out).sub fun j r=> .inl r)
   have S:Hid ((∀j,O j→G j)∧G (w.heap.size+1)∧G w1.heap.size):=ah (by rw [←aa];exact ⟨fun j r=> .inl r,.inr ⟨by omega,a.out.lt⟩,.inr ⟨ad.out.size,o.out.lt⟩⟩)
   have cM:Hid (G w.heap.size):=ah (by rw [←aa];exact .inr ⟨Nat.le_refl _,J.out.lt⟩)
   have cG:Hid (∀j,G j→j<w5.heap.size):=ah (fun j r=>by
    rw [←aa] at r
    rcases r with h|h
    ·have:=a0.out j h;have:=b2.out.size;omega
    exact h.2)
   have be:=ah (b6.out w5 b2.out)
   rw [aa] at be
   unfold IB at be
   rw [bk.out] at be
   obtain ⟨LP,b0⟩:∃z,L.put 0 (dh (idO ⟨k,b⟩)) (some (iG ⟨k,b⟩,0))=z:=⟨_,rfl⟩
   rw [cb.out] at b0
   have cJ:=ah b0
   rw [b0] at be
   have bf:Hid (∀V,Kp G w5 V→V.cell? ⟨B.sb,1,none⟩=some (.pointer (some ⟨B.g,0,none⟩))∧V.rangeAt w.heap.size 0 [.int .i64 k,.string b]):=ah fun V hk=>⟨(b5.out.kp hk).cell rfl,(J.out.kp hk cM.out).range⟩
   have bx:Hid (A.toArray.size=32):=ah (by simpa using D.out)
   clear aa b0 b6
   go_upto_region 10 with fail
   have d:=bf.out w5.drew (Kp.of (Below.refl _ _).drew)
   refine wrL 11 (fun x=>x.cell? ⟨B.sb,1,none⟩=some (.pointer (some ⟨B.g,0,none⟩))∧x.rangeAt w.heap.size 0 [.int .i64 k,.string b]) ?_
   refine WL.tk 0 d ?_
   refine WL.tk 1 d ?_
   refine WL.tk 2 d ?_
   refine WL.tk 3 d ?_
   refine WL.tk 4 d ?_ (hy:=(fun w' af=>aM 33 _ (af.2) underlying33 rfl h2 _ rfl rfl))
   refine WL.tw 5 9 ?_ ?_
   focus
    go_wp2_with fail
    refine (be.out w5.drew (Below.refl _ _).drew).mono ?_
    rintro e w6 ⟨rfl,cA,cC⟩
    have a9:Kp G w5 w6:=(Kp.of ((Below.refl _ w5).drew)).trans (cC.sub fun b _ h=> .inl h)
    have cv:Below w6.heap.size w6 (w6.alloc (.cells A.toArray 42)):=bal
    have bb:Hid (Kp G w5 (w6.alloc (.cells A.toArray 42))):=ah (a9.trans (Kp.of cv))
    have an:=bf.out w6 a9
    have ax:=bf.out _ bb.out
    have ba:Hid ((w6.alloc (.cells A.toArray 42)).there w6.heap.size 0 32):=ah (there_alloc w6 A.toArray 42 bx.out)
    have bh:Hid (∃OY:Nat→Prop,DV OY (N+1) (R+2) M (w6.alloc (.cells A.toArray 42)) B.g q LP (upN sy 0 false)∧(∀j,G j→OY j)∧OY w6.heap.size):=ah ⟨Ou (Ou G w5 w5.drew) w6 _,cA.on cv,fun j r=> .inl (.inl r),.inr ⟨Nat.le_refl _,by simp⟩⟩
    have cQ:w5.heap.size≤w6.heap.size:=a9.size
    clear a9 cv cA cC
    go_wp2
    refine ⟨an,?_⟩
    refine WL.tk 6 an ?_
    refine WL.tk 7 an ?_
    refine WL.tk 8 an ?_
    refine WL.on 9 ?_
    go_wp2
    refine ⟨ax,?_⟩
    obtain ⟨P2,hP⟩:∃P2,w6.heap.size=P2:=⟨_,rfl⟩
    obtain ⟨w7,cx⟩:∃w7,w6.alloc (.cells A.toArray 42)=w7:=⟨_,rfl⟩
    rw [cx] at bb ax ba bh ⊢
    rw [hP] at ba bh cQ
    simp only [hP]
    clear hP cx an
   rotate_left
   focus
    have cf:Below w5.heap.size w5 (w5.alloc (.cells A.toArray 42)).drew:=bal.drew
    have b8:ak (w5.alloc (.cells A.toArray 42)).drew w5.heap.size 42 A:=(show ak (w5.alloc (.cells A.toArray 42)) w5.heap.size 42 A from ak.new w5 42 A)
    have an:=bf.out _ (Kp.of cf)
    have cq:=ah cf
    have bs:=ah b8
    clear cf b8
    go_wp2
    refine ⟨an,?_⟩
    refine WL.on 5 ?_
    go_wp2_with fail
    refine (be.out _ cq.out).mono ?_
    rintro e w7 ⟨rfl,cP,cm⟩
    have cs:w5.heap.size<(w5.alloc (.cells A.toArray 42)).drew.heap.size:=bs.out.lt
    have bb:Hid (Kp G w5 w7):=ah ((Kp.of cq.out).trans (cm.sub fun b _ h=> .inl h))
    have ax:=bf.out _ bb.out
    have ba:Hid (w7.there w5.heap.size 0 32):=ah (by have:=(bs.out.kp cm (.inr ⟨Nat.le_refl _,cs⟩)).there;rwa [D.out] at this)
    have bh:Hid (∃OY:Nat→Prop,DV OY (N+1) (R+2) M w7 B.g q LP (upN sy 0 false)∧(∀j,G j→OY j)∧OY w5.heap.size):=ah ⟨_,cP,fun j r=> .inl r,.inr ⟨Nat.le_refl _,cs⟩⟩
    clear cP cm cs cq bs
    go_wp2
    refine ⟨ax,?_⟩
    refine WL.tk 6 ax ?_
    refine WL.tk 7 ax ?_
    refine WL.tk 8 ax ?_
    obtain ⟨P2,hP⟩:∃P2,P2=w5.heap.size:=⟨_,rfl⟩
    rw [←hP] at ba bh
    have cQ:w5.heap.size≤P2:=by omega
    simp only [←hP]
    clear hP an
   all_goals
    refine WL.on 10 ?_
    refine aj rfl 42 _ _ rfl P2 0 X rfl rfl 32 Q.out ba.out cZ ae.out ?_
    simp only [Act.put,nz]
    have bz:=fO P2 X w7
    generalize w7.setCells P2 0 X=w8 at bz ⊢
    have bd:Hid (Kp G w5 w8):=ah (bb.out.trans (bz.mono fun j _ r hO=>by have:=cG.out j hO;omega))
    have b1:Hid (DV G (N+1) (R+2) M w8 B.g q LP (upN sy 0 false)):=ah (by
     obtain ⟨OY,h1,h2,h3⟩:=bh.out
     exact (h1.chg bz (fun j r=>by rw [r];exact h3)).sub h2 (fun j r=>S.out.1 j (cj.out j r)))
    have cD:=bf.out _ bd.out
    refine ⟨cD,?_⟩
    refine WL.la 11 ?_
    have a3:=ah (b5.out.kp bd.out)
    have T:=ah (a.out.kp bd.out S.out.2.1)
    have C:=ah (o.out.kp bd.out S.out.2.2)
    have aq:Hid (Chg (fun j=> ¬O j∨j∈B.bl) w w8):=ah ((Chg.of_below b2.out).trans (bd.out.mono fun j _ r=> .inl fun h=>r (S.out.1 j h)))
    clear bz cD ax d bb ba bh bd
    go_upto_region 13 with fail
    have d:w8.drew.cell? ⟨B.sb,8,none⟩=some (.map (some B.pt))∧w8.drew.rangeAt w1.heap.size 0 X:=⟨a3.out.cell rfl,C.out.range⟩
    refine wrL 5 (fun x=>x.cell? ⟨B.sb,8,none⟩=some (.map (some B.pt))∧x.rangeAt w1.heap.size 0 X) ?_
    refine WL.tk 0 d ?_
    refine WL.tk 1 d ?_
    refine WL.tk 2 d ?_
    refine WL.tk 3 d ?_
    refine WL.tk 4 d ?_ (hy:=(fun w' af=>aM 42 _ (af.2) underlying42 rfl ag _ rfl rfl))
    refine WL.la 5 ?_
    clear d
    obtain ⟨wd,E⟩:∃z,w8.drew=z:=⟨_,rfl⟩
    have m:Below w8.heap.size w8 wd:=by rw [←E];exact (Below.refl _ _).drew
    simp only [E]
    replace b1:=ah (b1.out.below m)
    replace a3:=ah (a3.out.below m)
    replace T:=ah (T.out.below m)
    replace C:=ah (C.out.below m)
    replace aq:=ah (aq.out.trans (Chg.of_below m))
    clear E m
    refine bZ rfl _ _ _ 70 4 rfl underlying70 B.pt c (gZ U) rfl a3.out.put.1 x ar.out true (by rw [bk.out];rfl) rfl (by have:=cp.out;unfold maxLen;omega) ?_
    intro w9 g1 g2
    simp only [Act.put,nz]
    have f:=dO g2
    have u:B.pt∈B.bl:=by simp [Sb.bl]
    have bm:=a0.out _ (HM.out.own _ u)
    have ch:=ad.out.size
    have ac:=ah (a3.out.LQ (c':=c+1) (by omega) f (a3.out.put.add ar.out g1))
    have aw:=ah (b1.out.chg f (fun j r=>by rw [r];exact S.out.1 _ (HM.out.own _ u)))
    replace T:=ah (T.out.chg f (by omega))
    replace C:=ah (C.out.chg f (by omega))
    replace aq:=ah (aq.out.trans (f.mono fun j _ r=> .inr (by rw [r];exact u)))
    clear g1 g2 f u bm a3 b1
    go_upto_region 14 with fail
    have d:w9.drew.cell? ⟨B.sb,7,none⟩=some (.map (some B.hd))∧w9.drew.rangeAt w1.heap.size 0 X:=⟨ac.out.cell rfl,C.out.range⟩
    refine wrL 5 (fun x=>x.cell? ⟨B.sb,7,none⟩=some (.map (some B.hd))∧x.rangeAt w1.heap.size 0 X) ?_
    refine WL.tk 0 d ?_
    refine WL.tk 1 d ?_
    refine WL.tk 2 d ?_
    refine WL.tk 3 d ?_
    refine WL.tk 4 d ?_ (hy:=(fun w' af=>aM 42 _ (af.2) underlying42 rfl ag _ rfl rfl))
    refine WL.la 5 ?_
    clear d
    obtain ⟨wd,E⟩:∃z,w9.drew=z:=⟨_,rfl⟩
    have m:Below w9.heap.size w9 wd:=by rw [←E];exact (Below.refl _ _).drew
    simp only [E]
    replace aw:=ah (aw.out.below m)
    replace ac:=ah (ac.out.below m)
    replace T:=ah (T.out.below m)
    replace C:=ah (C.out.below m)
    replace aq:=ah (aq.out.trans (Chg.of_below m))
    clear E m
    refine uZ rfl _ _ 70 4 rfl underlying70 B.hd (c+1) (gZ []) rfl ac.out.hid.1 x ar.out (by rw [bk.out];rfl) ?_
    intro wt g1 g2
    simp only [Act.put,nz]
    have f:=dO g2
    have u:B.hd∈B.bl:=by simp [Sb.bl]
    have bm:=a0.out _ (HM.out.own _ u)
    have K:=ah (ac.out.Qb (c':=c+1) (by omega) f (ac.out.hid.del g1))
    have az:=ah (aw.out.chg f (fun j r=>by rw [r];exact S.out.1 _ (HM.out.own _ u)))
    clear a o
    have a:=ah (T.out.chg f (by omega))
    have o:=ah (C.out.chg f (by omega))
    have a5:=ah (aq.out.trans (f.mono fun j _ r=> .inr (by rw [r];exact u)))
    have bn:Hid (∀w',DV O (N+1) (R+2) M w' B.g q LP (upN sy 0 false)→SM O w' B t l n (upN P i (gJ (P i) x)) (gJ U x) (c+3)→Chg (fun j=> ¬O j∨j∈B.bl) w w'→Bd O N R M q B t l n P c F L sy U i ⟨k,b⟩ w w'):=ah fun w' h1 h2 h3=>by
     unfold Bd
     rw [cb.out,cJ.out]
     refine ⟨N+1,R+2,LP,upN sy 0 false,⟨k,b⟩::F,gJ U x,by omega,by omega,h1,h2,?_,.inr ⟨rfl,rfl,cc.out,rfl,rfl⟩,h3⟩
     have:=cL.out
     rw [cJ.out] at this
     exact this
    clear g1 g2 f u bm ac aw aq T C ch
    go_upto_region 15 with fail
    have d:wt.drew.cell? ⟨B.sb,3+i,none⟩=some (.map (some (B.pn i)))∧wt.drew.rangeAt w1.heap.size 0 X:=⟨cF.out wt G _ _ _ _ K.out,o.out.range⟩
    refine wrL 7 (fun x=>x.cell? ⟨B.sb,3+i,none⟩=some (.map (some (B.pn i)))∧x.rangeAt w1.heap.size 0 X) ?_
    refine WL.tk 0 d ?_
    refine WL.tk 1 d ?_
    refine WL.tk 2 d ?_
    refine WL.tk 3 d ?_
    refine WL.tk 4 d ?_
    refine WL.tk 5 d ?_
    refine WL.tk 6 d ?_ (hy:=(fun w' af=>aM 42 _ (af.2) underlying42 rfl ag _ rfl rfl))
    refine WL.la 7 ?_
    clear d
    obtain ⟨wd,E⟩:∃z,wt.drew=z:=⟨_,rfl⟩
    have m:Below wt.heap.size wt wd:=by rw [←E];exact (Below.refl _ _).drew
    simp only [E]
    replace az:=ah (az.out.below m)
    replace K:=ah (K.out.below m)
    replace a:=ah (a.out.below m)
    replace o:=ah (o.out.below m)
    replace a5:=ah (a5.out.trans (Chg.of_below m))
    clear E m
    refine bZ rfl _ _ _ 70 4 rfl underlying70 (B.pn i) (c+1) (gZ (P i)) rfl (K.out.pin i hi).1 x ar.out true (by rw [bk.out];rfl) rfl (by have:=cp.out;unfold maxLen;omega) ?_
    intro w9 g1 g2
    simp only [Act.put,nz]
    have f:=dO g2
    have u:B.pn i∈B.bl:=List.mem_append.2 (.inr (vI hi):B.pn i∈[B.sb,B.ob,B.hb,B.mp]∨_)
    have bm:=a0.out _ (HM.out.own _ u)
    have ch:=ad.out.size
    have ac:=ah ((K.out.Fw hi (c':=c+3) (by omega) f (((K.out.pin i hi).add ar.out g1).mono (by omega))).res HM.out)
    have aw:=ah (az.out.chg f (fun j r=>by rw [r];exact S.out.1 _ (HM.out.own _ u)))
    replace a:=ah (a.out.chg f (by omega))
    replace o:=ah (o.out.chg f (by omega))
    have ca:=ah (a5.out.trans (f.mono fun j _ r=> .inr (by rw [r];exact u)))
    have e2:=o.out.range
    obtain ⟨WE,v⟩:∃z,w9.setCells (w.heap.size+1) 0 X=z:=⟨_,rfl⟩
    have ai:Chg (fun j=>j=w.heap.size+1) w9 WE:=by rw [←v];exact fO _ _ _
    have a6:WE.rangeAt (w.heap.size+1) 0 X:=by rw [←v];exact (a.out.set (us:=X) (by rw [D.out,Q.out])).range
    have a1:w9.there (w.heap.size+1) 0 32:=by have:=a.out.there;rwa [D.out] at this
    have aE:¬O (w.heap.size+1):=fun h=>by have:=a0.out _ h;omega
    have bj:=ah (bn.out WE ((aw.out.chg ai (fun j r=>by rw [r];exact S.out.2.1)).sub S.out.1 cj.out) (ac.out.chg ai (fun j r=>by rw [r];exact aE)) (ca.out.trans (ai.mono fun j _ r=> .inl (by rw [r];exact aE))))
    have cl:=ah v
    clear g1 g2 f ai v aE bn
    go_wp2_with (first|(refine wpList_load_mid rfl 42 _ rfl w1.heap.size 0 rfl X _ e2 underlying42 rfl ag ?_)|(refine aj rfl 42 _ _ rfl (w.heap.size+1) 0 X rfl rfl 32 Q.out a1 ap.out ae.out ?_;rw [cl.out]))
    refine aP rfl (w.heap.size+1) 0 rfl X _ a6 underlying42 rfl ag rfl _ rfl ?_
    exact ab.out WE bj.out
end
section
variable {O:Nat → Prop} {N R M:Nat} {w:World} {g:Nat} {q:Int} {L:LK} {sy:Nat → Bool}
theorem I9 (p:DV O N R M w g q L sy) (t:N+R≤1000000) (m:∀y,L 1 y=none) (sb:Nat) (cs:List Value) (hx:ak w sb 74 cs) (h1:cs[1]? = some (.pointer (some ⟨g,0,none⟩))) (n:2<cs.length) :
  Calls prog 22 #[.pointer (some ⟨sb,0,none⟩)] w fun e w'=>e= .returned (.tuple #[])∧ak w' sb 74 (cs.set 2 (.pointer (some ⟨w.heap.size+1,0,none⟩)))∧iO w' (w.heap.size+1) w.heap.size∧Chg (fun j=>j=sb) w w':=by
 have s:=ah (JX p t m)
 have o:=ah hx
 have r:=ah n
 have c1:w.cell? ⟨sb,1,none⟩=some (.pointer (some ⟨g,0,none⟩)):=by have:=hx.range 1 _ h1;rwa [Nat.zero_add] at this
 clear p m h1 n hx
 go_enter func22,ntmps22
 go_wp2_with fail
 refine s.out.mono ?_
 rintro e w1 ⟨rfl,h,d⟩
 have a:=ah (o.out.below d)
 have u:=o.out.lt
 have f:=r.out
 obtain ⟨l,i⟩:∃v,cs[2]? = some v:=⟨_,List.getElem?_eq_getElem f⟩
 have c2:w1.cell? ⟨sb,2,none⟩=some l:=by have:=a.out.range 2 _ i;rwa [Nat.zero_add] at this
 have x:w1.frozen? ⟨sb,2,none⟩=false:=by have:=(a.out.there 2 (by omega)).2;rwa [Nat.zero_add] at this
 have k:Hid (ak (w1.setCell ⟨sb,2,none⟩ (.pointer (some ⟨w.heap.size+1,0,none⟩))) sb 74 (cs.set 2 (.pointer (some ⟨w.heap.size+1,0,none⟩)))∧iO (w1.setCell ⟨sb,2,none⟩ (.pointer (some ⟨w.heap.size+1,0,none⟩))) (w.heap.size+1) w.heap.size∧Chg (fun j=>j=sb) w (w1.setCell ⟨sb,2,none⟩ (.pointer (some ⟨w.heap.size+1,0,none⟩)))):=ah
  ⟨a.out.put 2 _,h.chg (dB (b:=sb)) (by omega) (by omega),(Chg.of_below d).trans dB⟩
 clear d h i f
 go_wp2_with fail
 go_end0
 exact ⟨rfl,k.out⟩
end
def FM (a k j:Nat):Value:=if j<k then .map (some (a+3+j)) else .map none
def opC (ob g a k:Nat):List Value:=[.pointer (some ⟨ob,0,none⟩),.pointer (some ⟨g,0,none⟩),.pointer none,FM a k 0,FM a k 1,FM a k 2,FM a k 3,.map (some a),.map (some (a+1))]
theorem Mj (ob g a k:Nat) (b:k<4):(opC ob g a k).set (3+k) (.map (some (a+3+k)))=opC ob g a (k+1):=by
 obtain rfl|rfl|rfl|rfl:k=0∨k=1∨k=2∨k=3:=by omega
 all_goals simp [opC,FM]
theorem Oy (ob g a k:Nat) (b:k<4):(opC ob g a k)[3+k]? = some (.map none):=by
 obtain rfl|rfl|rfl|rfl:k=0∨k=1∨k=2∨k=3:=by omega
 all_goals simp [opC,FM]
structure OpenSt (W:World) (ob g a k:Nat) (w:World):Prop where
 box:ak w (a + 2) 74 (opC ob g a k)
 size:w.heap.size = a + 3 + k
 pin:∀ j,j < k → bW w (a + 3 + j) 0 []
 hid:bW w a 0 []
 put:bW w (a + 1) 0 []
 bel:Chg (fun j => j = a + 2) W w
theorem DV.onC {O S:Nat→Prop} {N R M:Nat} {w w':World} {g:Nat} {q:Int} {L:LK} {sy:Nat→Bool} (h:DV O N R M w g q L sy) (d:Chg S w w') (hS:∀b,S b→O b):DV (Ou O w w') N R M w' g q L sy:=by
 obtain ⟨p,m,h1,e⟩:=h
 exact ⟨p,m,(h1.chg d hS).own (fun b a=>a.elim (fun a=>Nat.lt_of_lt_of_le (h1.olt b a) d.size) (·.2)) (fun b a=>a.imp id fun f hx=>absurd (h1.lt hx) (by omega)) (fun b hb=> .inl (h1.ko b hb)),e⟩
theorem LC (ob g a b:Nat) (w:World):(Instr.build 74 #[(0,.pointer (some ⟨ob,0,none⟩)),(1,.pointer (some ⟨g,0,none⟩)),(4,.map (some a)),(5,.map (some b))]).run prog w= .ok (.agg #[.pointer (some ⟨ob,0,none⟩),.pointer (some ⟨g,0,none⟩),.pointer none,.map none,.map none,.map none,.map none,.map (some a),.map (some b)]) w:=run_build w 74 _ _ (by kernel_rfl)
section
variable {O:Nat → Prop} {N R M:Nat} {w:World} {g:Nat} {q:Int} {L:LK} {sy:Nat → Bool} {l:List Rf}
def PG (O:Nat→Prop) (N R M:Nat) (g:Nat) (q:Int) (L:LK) (sy:Nat→Bool) (l:List Rf) (w:World) (e:Ending) (w':World):Prop :=
 ∃O' B,e= .returned (.tuple #[.pointer (some ⟨B.sb,0,none⟩),.int .i64 0])∧B.g=g∧DV O' N R M w' g q L sy∧SM O' w' B [] l l.length (fun _=>[]) [] 0∧Kp O w w'∧(∀b,O b→O' b)∧(∀b,O' b→O b∨w.heap.size≤b)∧ ∀b∈B.bl,w.heap.size≤b
theorem sH (hB:Calls prog 35 #[.pointer (some ⟨g,0,none⟩)] w (ET O N R M g q L sy l w)) (H:∀b,O b→b<w.heap.size) (hN:N+R≤1000000) (hp:∀y,L 1 y=none) :
  Calls prog 8 #[.pointer (some ⟨g,0,none⟩)] w (PG O N R M g q L sy l w):=by
 have ar:=@run_makeMap prog
 have V:=ah hB
 have ag:=ah H
 have HP:=ah hp
 have am:=ah (LC)
 clear hB H hp
 go_enter func8,ntmps8
 go_wp2_with fail
 refine V.out.mono ?_
 rintro e w3 ⟨O1,ob,v,rfl,T,Y,S,ab,K,F⟩
 have E:=ah T
 have p:=ah Y
 have ac:=ah S
 have Z:=ah (And.intro ab K)
 have ad:=ah F
 have ae:=am.out ob g w3.heap.size (w3.heap.size+1)
 clear T Y S ab K F V
 go_upto_region 5 with fail
 obtain ⟨W,G⟩:∃z,((w3.alloc (.map #[] 0)).alloc (.map #[] 0)).alloc (.cells #[.pointer (some ⟨ob,0,none⟩),.pointer (some ⟨g,0,none⟩),.pointer none,.map none,.map none,.map none,.map none,.map (some w3.heap.size),.map (some (w3.heap.size+1))] 74)=z:=⟨_,rfl⟩
 have P:Below w3.heap.size w3 W:=by rw [←G];exact (bal.alloc (by simp) _).alloc (by simp;omega) _
 have t:(w3.alloc (.map #[] 0)).heap.size=w3.heap.size+1:=by simp
 have A:((w3.alloc (.map #[] 0)).alloc (.map #[] 0)).heap.size=w3.heap.size+1+1:=by simp
 have o:Hid (OpenSt W ob g w3.heap.size 0 W):=ah ⟨by
   rw [←G,show w3.heap.size+2=w3.heap.size+1+1 from rfl,←A]
   exact ak.new _ 74 (opC ob g w3.heap.size 0),by rw [←G];simp,fun j B=>absurd B (by omega),by
   rw [←G];exact ((iY w3).on bal).on bal,by
   rw [←G]
   have:=(iY (w3.alloc (.map #[] 0))).on (bal (x:=.cells #[.pointer (some ⟨ob,0,none⟩),.pointer (some ⟨g,0,none⟩),.pointer none,.map none,.map none,.map none,.map none,.map (some w3.heap.size),.map (some (w3.heap.size+1))] 74))
   rw [t] at this
   exact this,Chg.refl _ _⟩
 have X:=ah P
 rw [G]
 obtain ⟨a,ha⟩:∃z,w3.heap.size=z:=⟨_,rfl⟩
 have HA:=ah ha
 rw [ha] at o
 simp only [ha]
 clear G P t A ae ha
 go_wp2_with fail
 go_loopw [22] (fun D wr=> ∃k:Nat,k≤4∧D= .int .i64 k∧Hid (OpenSt W ob g a k wr)) (fun D _=>(4-intOf D).toNat)
 case atStart=>exact ⟨0,by omega,rfl,o⟩
 obtain ⟨d,rfl⟩:∃d:World,d=wr:=⟨_,rfl⟩
 obtain ⟨k,hk,rfl,HS⟩:=hrel
 by_cases I:k<4
 ·have k0:(0:Int)≤k:=by omega
  have k1:(k:Int)<4:=by omega
  have d1:decide ((k:Int)<4)=true:=decide_eq_true k1
  have m:Below d.heap.size d (d.alloc (.map #[] 0)):=bal
  have n:=ah (HS.out.box.below m)
  have cA:(d.alloc (.map #[] 0)).cell? ⟨a+2,3+k,none⟩=some (.map none):=by have:=n.out.range (3+k) _ (Oy ob g a k I);rwa [Nat.zero_add] at this
  have fA:(d.alloc (.map #[] 0)).frozen? ⟨a+2,3+k,none⟩=false:=by have:=(n.out.there (3+k) (by simp [opC];omega)).2;rwa [Nat.zero_add] at this
  have r:=HS.out.size
  have HN:Hid (OpenSt W ob g a (k+1) ((d.alloc (.map #[] 0)).setCell ⟨a+2,3+k,none⟩ (.map (some (a+3+k))))):=ah ⟨by
    rw [←Mj ob g a k I];exact n.out.put (3+k) _,by simp [World.setCell];omega,fun j B=>by
    by_cases e:j=k
    ·subst e
     have:=(iY d).chg (dB (b:=a+2) (i:=3+j) (v:=.map (some (a+3+j)))) (by omega)
     rw [r] at this
     exact this
    exact ((HS.out.pin j (by omega)).on m).chg (dB (b:=a+2)) (by omega),(HS.out.hid.on m).chg (dB (b:=a+2)) (by omega),(HS.out.put.on m).chg (dB (b:=a+2)) (by omega),(HS.out.bel.trans (Chg.of_below m)).trans (dB (b:=a+2))⟩
  have ap:=ah r
  clear m n
  rw [←r] at HN
  clear r
  go_wp2_with fail
  go_roundw
  case rel=>exact ⟨k+1,by omega,by go_num,HN⟩
  case measure=>simp [intOf];omega
 obtain rfl:k=4:=by omega
 have d1:decide ((4:Int)<4)=false:=rfl
 have h3:=HA.out
 have f:=E.out.olt
 have J:DV (Ou O1 w3 W) N R M W g q L sy:=E.out.on X.out
 have aa:=o.out.size
 have C:DV (Ou (Ou O1 w3 W) W d) N R M d g q L sy:=J.onC HS.out.bel (fun b hb=> .inr ⟨by omega,by omega⟩)
 have ai:=ah (I9 C hN HP.out (a+2) (opC ob g a 4) HS.out.box rfl (by simp [opC]))
 have al:=ah C
 clear J C h3 f aa
 go_wp2_with fail
 refine ai.out.mono ?_
 rintro e w5 ⟨rfl,U,s,h⟩
 have Q:Hid (PG O N R M g q L sy l w (.returned (.tuple #[.pointer (some ⟨a+2,0,none⟩),.int .i64 0])) w5):=ah (by
  have h3:=HA.out
  have f:=E.out.olt
  have aa:=o.out.size
  have aw:=HS.out.size
  have ax:=ac.out.size
  have ao:=s.2.lt
  have an:=s.1.lt
  have aq:=f ob p.out.ob
  have af:DV (Ou (Ou (Ou O1 w3 W) W d) d w5) N R M w5 g q L sy:=al.out.onC h (fun b hb=> .inl (.inr ⟨by omega,by omega⟩))
  have u:Chg (fun j=>j=a+2) w3 w5:=((Chg.of_below X.out).trans HS.out.bel).trans h
  refine ⟨Ou (Ou (Ou O1 w3 W) W d) d w5,⟨a+2,ob,g,d.heap.size+1,d.heap.size,fun j=>a+3+j,a,a+1,.slice none 0 0,v⟩,rfl,rfl,af,⟨?_,?_,s,fun j B=>(HS.out.pin j B).chg h (by show ¬a+3+j=a+2;omega),HS.out.hid.chg h (by show ¬a=a+2;omega),HS.out.put.chg h (by show ¬a+1=a+2;omega),fun b hb=> ?_,?_,fun hn=>absurd rfl hn,fun hn j B=> ?_⟩,ac.out.trans (u.mono fun j hl B H=> ?_),fun b hb=> .inl (.inl (.inl (Z.out.1 b hb))),fun b hb=> ?_,fun b hb=> ?_⟩
  ·have:(opC ob g a 4).set 2 (.pointer (some ⟨d.heap.size+1,0,none⟩))=Sb.cells ⟨a+2,ob,g,d.heap.size+1,d.heap.size,fun j=>a+3+j,a,a+1,.slice none 0 0,v⟩:=by simp [opC,FM,Sb.cells]
   rw [←this]
   exact U
  ·exact (p.out.chg u (fun j B H=>by have:=f j H;omega)).sub (fun b hb=> .inl (.inl (.inl hb)))
  ·simp [Sb.bl] at hb
   rcases hb with rfl|rfl|rfl|rfl|rfl|rfl|rfl|rfl|rfl|rfl
   ·exact .inl (.inl (.inr ⟨by omega,by omega⟩))
   ·exact .inl (.inl (.inl p.out.ob))
   ·exact .inr ⟨by omega,an⟩
   ·exact .inr ⟨by omega,ao⟩
   ·exact .inl (.inr ⟨by omega,by omega⟩)
   ·exact .inl (.inr ⟨by omega,by omega⟩)
   ·exact .inl (.inr ⟨by omega,by omega⟩)
   ·exact .inl (.inr ⟨by omega,by omega⟩)
   ·exact .inl (.inl (.inr ⟨by omega,by omega⟩))
   exact .inl (.inl (.inr ⟨by omega,by omega⟩))
  ·simp [Sb.bl]
   omega
  ·obtain ⟨h1,h2⟩:=p.out.ol hn j B
   have:=f j h1
   simp [Sb.bl]
   omega
  ·have:=ag.out j H
   omega
  ·rcases hb with ((hb|hb)|hb)|hb
   ·exact Z.out.2 b hb
   ·exact .inr (by omega)
   ·exact .inr (by omega)
   exact .inr (by omega)
  have F:=ad.out
  simp [Sb.bl] at hb
  rcases hb with rfl|rfl|rfl|rfl|rfl|rfl|rfl|rfl|rfl|rfl<;>omega)
 clear U s h
 go_wp2_with fail
 go_ret2
 exact Q.out
end
end
end Go.Proofs.YtlhcoanbhnphgaaGreatDoor
