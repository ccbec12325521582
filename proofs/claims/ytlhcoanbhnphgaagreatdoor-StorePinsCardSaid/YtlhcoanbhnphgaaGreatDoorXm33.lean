/- A part of this claim. -/
import Derived.Test.YtlhcoanbhnphgaaGreatDoorXm32
namespace Go.Proofs.YtlhcoanbhnphgaaGreatDoor
open Tryz
set_option maxHeartbeats 64000000
set_option maxRecDepth 100000
set_option linter.all false
section
open Go.RowKit Go.Maps
theorem EP {w:World} {b o:Nat} {a:Ac} (h:w.rangeAt b o (acL a)):w.rangeAt b (o+4) [.int .i64 a.ok,.string a.ob]:=fun j u hu=>by
 have:=h (4+j) u (by
  match j,hu with
  | 0,hu=>exact hu
  | 1,hu=>exact hu
  | j+2,hu=>simp at hu)
 rwa [←Nat.add_assoc] at this
def GR (w:World) (e:Ending) (w':World):Prop:=∃n:Nat,e= .returned (.int .i64 (n:Int))∧Below w.heap.size w w'
theorem EF (v:Value) (l:List Ac) (w:World) (N:o7 w v l):Calls prog 34 #[v] w (GR w):=by
 obtain ⟨ao,cap,rfl,L,N⟩:=N.open
 unfold maxLen at L
 have HV:=ah N
 have h2:∀(a:Int) (s:ByteArray),(prog.info? 33).map (·.size)=some [Value.int .i64 a,Value.string s].length:=fun a s=>by kernel_rfl
 have H2:=ah h2
 obtain ⟨M,U⟩:=dQ
 clear N h2
 go_enter func34,ntmps34
 go_wp2_with fail
 go_loopw [3,4,5] (fun S Q _ wr=> ∃i m:Nat,i≤l.length∧i≤60∧m≤60*i∧Q= .int .i64 i∧S= .int .i64 m∧Below w.heap.size w wr) (fun _ Q _ _=>(l.length-intOf Q).toNat)
 case atStart=>exact ⟨0,0,by omega,by omega,by omega,rfl,rfl,Below.refl _ _⟩
 obtain ⟨K,rfl⟩:∃K:World,K=wr:=⟨_,rfl⟩
 obtain ⟨i,m,hi,ab,hm,rfl,rfl,hb⟩:=hrel
 have J:=ah hb
 by_cases x:i<l.length∧i<60
 ·have d1:decide ((i:Int)<l.length)=true:=decide_eq_true (by omega)
  have d2:decide ((i:Int)<60)=true:=decide_eq_true (by omega)
  obtain ⟨b,off,rfl,Y,A⟩:=HV.out (by intro e;rw [e] at x;simp at x)
  have HC:=ah (fun j (hj:j<l.length) (w':World) (W:Below w.heap.size w w')=>EP (ay (A j hj) W Y))
  clear hb A
  go_wp2_with fail
  go_loopw [3,5] (fun S P wr=> ∃k B:Nat,k≤i∧B≤60*i+k∧P= .int .i64 k∧S= .int .i64 B∧Below K.heap.size K wr) (fun _ P _=>(i-intOf P).toNat)
  case atStart=>exact ⟨0,m,by omega,by omega,rfl,rfl,Below.refl _ _⟩
  obtain ⟨wi,rfl⟩:∃wi:World,wi=wr:=⟨_,rfl⟩
  obtain ⟨k,B,hk,ac,rfl,rfl,g⟩:=hrel
  by_cases G:k<i
  ·have F:Below w.heap.size w wi:=J.out.trans (g.mono J.out.size)
   have X:i<l.length:=x.1
   have T:k<l.length:=by omega
   have q:=HC.out i X wi F
   have r:=HC.out k T wi F
   have aa:b<wi.heap.size:=by have:=F.size;omega
   have k0:(0:Int)≤i:=by omega
   have k1:(i:Int)<l.length:=by omega
   have m0:(0:Int)≤k:=by omega
   have m1:(k:Int)<l.length:=by omega
   have dk:decide ((k:Int)<i)=true:=decide_eq_true (by omega)
   have O:decide (k<i)=true:=decide_eq_true G
   have wk:IntKind.i64.wrap ((k:Int)+1)=(k:Int)+1:=IntWalk.i64_in _ (by omega)
   have wm:IntKind.i64.wrap ((B:Int)+1)=(B:Int)+1:=IntWalk.i64_in _ (by omega)
   have s1:=H2.out l[i].ok l[i].ob
   have s2:=H2.out l[k].ok l[k].ob
   have d:=ah (fun w=>vJ l[i].ok l[i].ob w)
   have f:=ah (fun w=>vJ l[k].ok l[k].ob w)
   unfold dL at d f
   have t:=ah (fun (R:DL (⟨l[i].ok,l[i].ob⟩:Ob) ⟨l[k].ok,l[k].ob⟩=false) w=>JF (a:=⟨l[i].ok,l[i].ob⟩) (b:=⟨l[k].ok,l[k].ob⟩) R w)
   have u:=ah (fun (R:DL (⟨l[i].ok,l[i].ob⟩:Ob) ⟨l[k].ok,l[k].ob⟩=true) w=>Ml (a:=⟨l[i].ok,l[i].ob⟩) (b:=⟨l[k].ok,l[k].ob⟩) R w)
   have y:=vN ⟨l[i].ok,l[i].ob⟩
   have C:=vN ⟨l[k].ok,l[k].ob⟩
   dsimp only at t u
   have E:=ah (And.intro x G)
   clear F x G
   cases D:DL ⟨l[i].ok,l[i].ob⟩ ⟨l[k].ok,l[k].ob⟩ with
   | false =>
    have h:=t.out D
    generalize l[i].ok=ka at q d s1 y h
    generalize l[i].ob=sa at q d s1 y h
    generalize l[k].ok=kb at r f s2 C h
    generalize l[k].ob=sb at r f s2 C h
    clear D t u
    go_wp2_with fail
    refine wbq ?_
    repeat (go_big_quiet_step ((go_at_call 13;with_reducible exact aA (d.out _))))
    refine aY 33 _ _ rfl rfl rfl q (by omega) underlying33 rfl s1 ?_
    simp only [Act.put,nz]
    repeat (go_big_quiet_step ((go_at_call 13;with_reducible exact aA (d.out _))))
    refine aY 33 _ _ rfl rfl rfl r (by omega) underlying33 rfl s2 ?_
    simp only [Act.put,nz]
    repeat (go_big_quiet_step ((go_at_call 13;with_reducible exact aA (d.out _))))
    refine wpQuiet_nil ?_
    intro V n
    have p:=ah (g.trans (n.mono g.size))
    clear g n q r h
    have:=E.out
    go_wp2_with fail
    go_roundw
    case rel=>exact ⟨k+1,B,by omega,by omega,by go_num,rfl,p.out⟩
    case measure=>simp [intOf];omega
   | true =>
    have h:=u.out D
    clear D t u
    have hid:=fun w=>gM _ _ y C w
    have o:=fun w=>gM _ _ y aV w
    generalize idZ ⟨l[i].ok,l[i].ob⟩=Z at d y hid o
    generalize idZ ⟨l[k].ok,l[k].ob⟩=xb at f C hid
    generalize l[i].ok=ka at q d s1 h
    generalize l[i].ob=sa at q d s1 h
    generalize l[k].ok=kb at r f s2 h
    generalize l[k].ob=sb at r f s2 h
    obtain ⟨cz,I⟩:∃z,idC zid=z:=⟨_,rfl⟩
    rw [I] at M U
    simp only [I] at o
    clear I
    generalize (Z==xb)=e1 at hid
    generalize (Z==zid)=e2 at o
    generalize idC Z=ua at d hid o
    generalize idC xb=ub at f hid
    cases e1 with
    | false =>
     clear o
     go_wp2_with fail
     refine wbq ?_
     repeat (go_big_quiet_step ((first|(go_at_call 13;with_reducible exact aA (d.out _))|(go_at_call 13;with_reducible exact aA (f.out _)))))
     refine aY 33 _ _ rfl rfl rfl q (by omega) underlying33 rfl s1 ?_
     simp only [Act.put,nz]
     repeat (go_big_quiet_step ((first|(go_at_call 13;with_reducible exact aA (d.out _))|(go_at_call 13;with_reducible exact aA (f.out _)))))
     refine aY 33 _ _ rfl rfl rfl r (by omega) underlying33 rfl s2 ?_
     simp only [Act.put,nz]
     repeat (go_big_quiet_step ((first|(go_at_call 13;with_reducible exact aA (d.out _))|(go_at_call 13;with_reducible exact aA (f.out _)))))
     refine aY 33 _ _ rfl rfl rfl q (by omega) underlying33 rfl s1 ?_
     simp only [Act.put,nz]
     repeat (go_big_quiet_step ((first|(go_at_call 13;with_reducible exact aA (d.out _))|(go_at_call 13;with_reducible exact aA (f.out _)))))
     refine aY 33 _ _ rfl rfl rfl r (by omega) underlying33 rfl s2 ?_
     simp only [Act.put,nz]
     repeat (go_big_quiet_step ((first|(go_at_call 13;with_reducible exact aA (d.out _))|(go_at_call 13;with_reducible exact aA (f.out _)))))
     refine wpQuiet_nil ?_
     intro V n
     have p:=ah (g.trans (n.mono g.size))
     clear g n q r h hid
     have:=E.out
     go_wp2_with fail
     go_roundw
     case rel=>exact ⟨k+1,B,by omega,by omega,by go_num,rfl,p.out⟩
     case measure=>simp [intOf];omega
    | true =>
     cases e2 with
     | true =>
      go_wp2_with fail
      refine wbq ?_
      repeat (go_big_quiet_step ((first|(go_at_call 13;with_reducible exact aA (d.out _))|(go_at_call 13;with_reducible exact aA (f.out _)))))
      refine aY 33 _ _ rfl rfl rfl q (by omega) underlying33 rfl s1 ?_
      simp only [Act.put,nz]
      repeat (go_big_quiet_step ((first|(go_at_call 13;with_reducible exact aA (d.out _))|(go_at_call 13;with_reducible exact aA (f.out _)))))
      refine aY 33 _ _ rfl rfl rfl r (by omega) underlying33 rfl s2 ?_
      simp only [Act.put,nz]
      repeat (go_big_quiet_step ((first|(go_at_call 13;with_reducible exact aA (d.out _))|(go_at_call 13;with_reducible exact aA (f.out _)))))
      refine aY 33 _ _ rfl rfl rfl q (by omega) underlying33 rfl s1 ?_
      simp only [Act.put,nz]
      repeat (go_big_quiet_step ((first|(go_at_call 13;with_reducible exact aA (d.out _))|(go_at_call 13;with_reducible exact aA (f.out _)))))
      refine aY 33 _ _ rfl rfl rfl r (by omega) underlying33 rfl s2 ?_
      simp only [Act.put,nz]
      repeat (go_big_quiet_step ((first|(go_at_call 13;with_reducible exact aA (d.out _))|(go_at_call 13;with_reducible exact aA (f.out _)))))
      refine aY 33 _ _ rfl rfl rfl q (by omega) underlying33 rfl s1 ?_
      simp only [Act.put,nz]
      repeat (go_big_quiet_step ((first|(go_at_call 13;with_reducible exact aA (d.out _))|(go_at_call 13;with_reducible exact aA (f.out _)))))
      refine wpQuiet_nil ?_
      intro V n
      have p:=ah (g.trans (n.mono g.size))
      clear g n q r h hid o
      have:=E.out
      go_wp2_with fail
      go_roundw
      case rel=>exact ⟨k+1,B,by omega,by omega,by go_num,rfl,p.out⟩
      case measure=>simp [intOf];omega
     | false =>
      go_wp2_with fail
      refine wbq ?_
      repeat (go_big_quiet_step ((first|(go_at_call 13;with_reducible exact aA (d.out _))|(go_at_call 13;with_reducible exact aA (f.out _)))))
      refine aY 33 _ _ rfl rfl rfl q (by omega) underlying33 rfl s1 ?_
      simp only [Act.put,nz]
      repeat (go_big_quiet_step ((first|(go_at_call 13;with_reducible exact aA (d.out _))|(go_at_call 13;with_reducible exact aA (f.out _)))))
      refine aY 33 _ _ rfl rfl rfl r (by omega) underlying33 rfl s2 ?_
      simp only [Act.put,nz]
      repeat (go_big_quiet_step ((first|(go_at_call 13;with_reducible exact aA (d.out _))|(go_at_call 13;with_reducible exact aA (f.out _)))))
      refine aY 33 _ _ rfl rfl rfl q (by omega) underlying33 rfl s1 ?_
      simp only [Act.put,nz]
      repeat (go_big_quiet_step ((first|(go_at_call 13;with_reducible exact aA (d.out _))|(go_at_call 13;with_reducible exact aA (f.out _)))))
      refine aY 33 _ _ rfl rfl rfl r (by omega) underlying33 rfl s2 ?_
      simp only [Act.put,nz]
      repeat (go_big_quiet_step ((first|(go_at_call 13;with_reducible exact aA (d.out _))|(go_at_call 13;with_reducible exact aA (f.out _)))))
      refine aY 33 _ _ rfl rfl rfl q (by omega) underlying33 rfl s1 ?_
      simp only [Act.put,nz]
      repeat (go_big_quiet_step ((first|(go_at_call 13;with_reducible exact aA (d.out _))|(go_at_call 13;with_reducible exact aA (f.out _)))))
      refine wpQuiet_nil ?_
      intro V n
      have p:=ah (g.trans (n.mono g.size))
      clear g n q r h hid o
      have:=E.out
      go_wp2_with fail
      go_roundw
      case rel=>exact ⟨k+1,B+1,by omega,by omega,by go_num,by go_num,p.out⟩
      case measure=>simp [intOf];omega
  have dk:decide ((k:Int)<i)=false:=decide_eq_false (by omega)
  have O:decide (k<i)=false:=decide_eq_false G
  have ad:IntKind.i64.wrap ((i:Int)+1)=(i:Int)+1:=IntWalk.i64_in _ (by omega)
  have p:=bth J g
  clear g
  go_wp2_with fail
  go_roundw
  case rel=>exact ⟨i+1,B,by omega,by omega,by omega,by go_num,rfl,p.out⟩
  case measure=>simp [intOf];omega
 have H:Hid (GR w (.returned (.int .i64 (m:Int))) K):=ah ⟨m,rfl,hb⟩
 by_cases h1:i<l.length
 ·have d1:decide ((i:Int)<l.length)=true:=decide_eq_true (by omega)
  have d2:decide ((i:Int)<60)=false:=decide_eq_false (by omega)
  clear hb
  go_wp2_with fail
  go_ret
  exact H.out
 have d1:decide ((i:Int)<l.length)=false:=decide_eq_false (by omega)
 clear hb
 go_wp2_with fail
 go_ret
 exact H.out
def BoA (w:World) (e:Ending) (w':World):Prop:=∃b:Bool,e= .returned (.bool b)∧Below w.heap.size w w'
theorem EG (v:Value) (l:List Ac) (w:World) (a:o7 w v l):Calls prog 7 #[v] w (BoA w):=by
 have b:=ah (EF v l w a)
 unfold GR at b
 obtain ⟨d,cap,rfl,_,_⟩:=a.open
 clear a
 go_enter func7,ntmps7
 go_wp2_with fail
 refine b.out.mono ?_
 rintro e w1 ⟨n,rfl,hb⟩
 go_wp2_with fail
 go_ret
 exact ⟨_,rfl,hb⟩
end
section
open Go.RowKit Go.Maps Go.Shelf
section
variable {O:Nat → Prop} {N R M:Nat} {w:World} {g:Nat} {q:Int} {L:LK} {sy:Nat → Bool} {b:Nat} {vt vl:Value} {t l:List Rf} {n:Nat}
def IE (O:Nat→Prop) (N R M:Nat) (g:Nat) (q:Int) (L:LK) (sy:Nat→Bool) (b:Nat) (t l:List Rf) (k:Nat) (w:World) (e:Ending) (w':World):Prop :=
 e= .returned (.int .i64 0)∧ ∃O' v1 v2 W V,dD t (l.take k)=some V∧W.Perm V∧jh W∧DV O' (N+1) (R+2) M w' g q (L.put 2 bkN (some (ofB (iU W (l.drop k)),(ofB (iU W (l.drop k))).size))) (upN sy 2 true)∧OpO O' w' b g v1 v2 W (l.drop k) (l.drop k).length∧(∀j,O j→O' j)∧(∀j,O' j→O j∨w.heap.size≤j)∧(∀j,v1.ownBlock=some j→w.heap.size≤j)∧(∀j,v2.ownBlock=some j→w.heap.size≤j)∧Chg (fun j=> ¬O j∨j=b) w w'
theorem KO (F:DV O N R M w g q L sy) (hG:eP w) (ho:OpO O w b g vt vl t l n) (m:Int) (k:Nat) (hk:(k:Int)=l.length-max 0 (min m l.length)) (aE:aO t l=true) (bb:L 2 (bD bkN)=none) (hN:N+R≤900000) (hM:1137+81*l.length≤M) (bm:M≤1000000) (hq:3*((N+1)*M)+M≤q) (bi:q≤1000000000) :
  Calls prog 67 #[.pointer (some ⟨b,0,none⟩),.int .i64 m] w (IE O N R M g q L sy b t l k w):=by
 have H:=ah (BJ vt vl t l m k w ho.op.row hk)
 unfold Ir at H
 rw [aE] at H
 have Q:=ah (fun v1 v2 W V (hb:Below w.heap.size w V) (h:gB V v1 v2 W (l.drop k))=>oL v1 v2 W (l.drop k) V h ((hG.below hb).crc) ((hG.below hb).laid.lt))
 unfold ES at Q
 have an:Hid (∀V (W:List Rf),Below w.heap.size w V→aO W (l.drop k)=true→(∀r∈W++l.drop k,r.2.length=32)→Calls prog 73 #[.pointer (some ⟨g,0,none⟩),.string ⟨#[114,101,102]⟩,.string ⟨#[98,111,111,107]⟩,.string (ofB (iU W (l.drop k)))] V (Bc (Ou O w V) (N+1) (R+2) M g q (L.put 2 bkN (some (ofB (iU W (l.drop k)),(ofB (iU W (l.drop k))).size))) (upN sy 2 true) V)):=ah fun V W hb hw b0=>by
  have h1:=yU hw b0
  have h2:(l.drop k).length≤l.length:=by rw [List.length_drop];omega
  exact xG (k:=2) (nm:=bkN) (F.on hb) (by omega) hN lZ.2 lZ.1 bb (by omega) (by omega) (by omega) bi
 have bs:=ah F.olt
 have E:=ah ho
 have bv:=ah aE
 have bc:Hid (∀W V,dD t (l.take k)=some V→W.Perm V→ ∀r∈W++l.drop k,r.2.length=32):=ah fun W V h1 h2 r hr=>by
  have ba:=ho.op.row.ok
  rcases List.mem_append.1 hr with hr|hr
  ·exact tL (fun x hx=>(ba x (by
    rcases List.mem_append.1 hx with h|h
    ·exact List.mem_append.2 (.inl h)
    exact List.mem_append.2 (.inr (List.mem_of_mem_take h)))).2) h1 r (h2.mem_iff.1 hr)
  exact (ba r (List.mem_append.2 (.inr (List.mem_of_mem_drop hr)))).2
 obtain ⟨at_,ct,bx⟩:=open_row ho.op.row.tab
 obtain ⟨al,cl,bp⟩:=open_row ho.op.row.log
 subst bx bp
 have ac:=ho.op.mid
 have bo:(prog.info? 51).map (·.size)=some ([.slice at_ t.length ct,.slice al l.length cl]:List Value).length:=bN
 clear F hG ho aE bb hN hM bm hq bi hk
 go_enter func67,ntmps67
 go_wp2_with (refine wpList_load_mid rfl 51 _ rfl b 1 rfl [.slice at_ t.length ct,.slice al l.length cl] _ ac underlying51 rfl bo ?_)
 refine H.out.mono ?_
 rintro e w1 ⟨h,bf⟩
 simp only [↓reduceIte] at h
 obtain ⟨v1,v2,W,V,rfl,hV,hp,am,C⟩:=h
 have ai:=ah (And.intro hV (And.intro hp am))
 have ax:=ah (GY bv.out hV hp am)
 have bd:=ah bf
 have B:=ah C.2
 obtain ⟨a1,c1,e1⟩:=open_row C.1.tab
 obtain ⟨a2,c2,e2⟩:=open_row C.1.log
 subst e1 e2
 have bh:=ah (bc.out W V hV hp)
 have ad:=ah C.1
 obtain ⟨d,U⟩:∃z,l.drop k=z:=⟨_,rfl⟩
 have bk:=ah U
 rw [U] at ad bh ax an Q B
 simp only [U]
 have a9:(prog.info? 51).map (·.size)=some ([.slice a1 W.length c1,.slice a2 d.length c2]:List Value).length:=bN
 clear bf hV hp am C H U ac
 go_upto_region 4 with (refine aD rfl 51 _ _ rfl #[.slice none 0 0,.slice none 0 0] [.slice a1 W.length c1,.slice a2 d.length c2] rfl rfl 2 rfl rfl bN (by intro v F;simp at F;rcases F with rfl|rfl<;>rfl) ?_;intro w2 ar az bz)
 have a7:=bth bd az
 have ab:=ah (ad.out.below az)
 have D:=ah ar
 have e2:=ar.range
 have aq:Hid (w.heap.size≤w1.heap.size):=ah bd.out.size
 obtain ⟨P,hP⟩:∃P,w1.heap.size=P:=⟨_,rfl⟩
 rw [hP] at e2 D aq
 simp only [hP]
 have ag:=ah (Q.out _ _ W w2 a7.out ab.out)
 rw [ax.out] at ag
 clear ar az bz hP Q ad
 go_wp2_with (refine wpList_load_mid rfl 51 _ rfl P 0 rfl [.slice a1 W.length c1,.slice a2 d.length c2] _ e2 underlying51 rfl a9 ?_)
 refine ag.out.mono ?_
 rintro e w3 ⟨h,S⟩
 simp only [↓reduceIte] at h
 subst h
 have X:=bth a7 S
 have A:=ah (ab.out.below S)
 replace D:=ah (D.out.below S)
 have d0:w3.cell? ⟨b,0,none⟩=some (.pointer (some ⟨g,0,none⟩)):=(E.out.below X.out).op.box.range 0 _ rfl
 have Z:=ah (an.out w3 W X.out ax.out bh.out)
 obtain ⟨dt,T⟩:∃z,ofB (iU W d)=z:=⟨_,rfl⟩
 have bj:=ah T
 rw [T] at Z
 simp only [T]
 clear S e2 T an ag
 go_wp2_with fail
 refine Z.out.mono ?_
 rintro e w4 ⟨rfl,J,o⟩
 have y:=ah (D.out.kp o (.inr ⟨aq.out,D.out.lt⟩))
 obtain ⟨wd,af⟩:∃z,w4.drew=z:=⟨_,rfl⟩
 have G:Below w4.heap.size w4 wd:=by rw [←af];exact (Below.refl _ _).drew
 replace y:=ah (y.out.below G)
 replace J:=J.below G
 replace o:=o.trans (Kp.of G)
 have a4:=ah af
 have u:W≠[]→ ∀j,(Value.slice a1 W.length c1).ownBlock=some j→w.heap.size≤j∧j<w3.heap.size:=fun f j a=>⟨B.out.1 j a,A.out.tab.olt f a⟩
 have s:d≠[]→ ∀j,(Value.slice a2 d.length c2).ownBlock=some j→w.heap.size≤j∧j<w3.heap.size:=fun f j a=>⟨B.out.2 j a,A.out.log.olt f a⟩
 have b2:b<w.heap.size:=bs.out b E.out.ob
 have a5:=ah (A.out.chg o (fun f j a h=>h (.inr (u f j a))) (fun f j a h=>h (.inr (s f j a))))
 have be:=ah ((((E.out.below X.out).sub (O':=Ou O w w3) fun j a=> .inl a)).kp o)
 have bt:¬P=b:=by have:=aq.out;omega
 obtain ⟨w5,I⟩:∃z,wd.setCells b 1 [.slice a1 W.length c1,.slice a2 d.length c2]=z:=⟨_,rfl⟩
 have ap:Chg (fun j=>j=b) wd w5:=by
  rw [←I]
  have h:=bP wd b 1 [.slice a1 W.length c1,.slice a2 d.length c2]
  exact ⟨h.os,h.tape,h.output,h.size,fun j a f=>h.block j a (fun e=>f (Option.some.inj e))⟩
 have p:ak w5 b 128 [.pointer (some ⟨g,0,none⟩),.slice a1 W.length c1,.slice a2 d.length c2,.int .i64 (n:Int)]:=by
  rw [←I]
  exact (be.out.op.box.put 1 (.slice a1 W.length c1)).put 2 (.slice a2 d.length c2)
 have a8:wd.there b 1 2:=fun j a=>by
  have:=be.out.op.box.there (1+j) (by simp;omega)
  rwa [Nat.zero_add] at this
 obtain ⟨w6,K⟩:∃z,w5.setCell ⟨b,3,none⟩ (.int .i64 (d.length:Int))=z:=⟨_,rfl⟩
 have a6:Chg (fun j=>j=b) w5 w6:=by
  rw [←K]
  exact ⟨rfl,rfl,rfl,by simp,fun j a f=>Below.heap_setCell _ _ _ _ f⟩
 have Y:ak w6 b 128 [.pointer (some ⟨g,0,none⟩),.slice a1 W.length c1,.slice a2 d.length c2,.int .i64 (d.length:Int)]:=by
  rw [←K]
  exact p.put 3 (.int .i64 (d.length:Int))
 have ae:=y.out.chg ap bt
 have f3:w5.cell? ⟨b,3,none⟩=some (.int .i64 (n:Int)):=p.range 3 _ rfl
 have g3:w5.frozen? ⟨b,3,none⟩=false:=by have:=(p.there 3 (by simp)).2;rwa [Nat.zero_add] at this
 have aa:IE O N R M g q L sy b t l k w (.returned (.int .i64 0)) w6:=by
  unfold IE
  rw [bk.out]
  have aw:=ap.trans a6
  have a0:=J
  rw [←bj.out] at a0
  refine ⟨rfl,Ou O w w3,_,_,W,V,ai.out.1,ai.out.2.1,ai.out.2.2,a0.chg aw (fun j a=>a ▸ .inl E.out.ob),⟨⟨Y,a5.out.chg aw (fun f j a e=> ?_) (fun f j a e=> ?_)⟩,.inl E.out.ob,fun f j a=>⟨.inr (u f j a),?_⟩,fun f j a=>⟨.inr (s f j a),?_⟩⟩,fun j a=> .inl a,fun j a=>a.imp id fun h=>h.1,fun j a=>B.out.1 j a,fun j a=>B.out.2 j a,(Chg.of_below X.out).trans ((o.mono fun j _ a=> .inl fun h=>a (.inl h)).trans (aw.mono fun j _ a=> .inr a))⟩
  ·have:=(u f j a).1;omega
  ·have:=(s f j a).1;omega
  ·have:=(u f j a).1;omega
  have:=(s f j a).1;omega
 have a3:=ah aa
 have b1:=ah I
 have br:=ah K
 have bn:=ah a8
 have i:wd.rangeAt P 0 [.slice a1 W.length c1,.slice a2 d.length c2]∧wd.cell? ⟨P,1,none⟩=some (.slice a2 d.length c2):=⟨y.out.range,by have:=y.out.range 1 (.slice a2 d.length c2) rfl;exact this⟩
 have ao:w5.rangeAt P 0 [.slice a1 W.length c1,.slice a2 d.length c2]∧w5.cell? ⟨P,1,none⟩=some (.slice a2 d.length c2):=⟨ae.range,by have:=ae.range 1 (.slice a2 d.length c2) rfl;exact this⟩
 rw [←a4.out] at i
 clear G af aa I K a8 u s J o ap a6 p Y ae d0
 go_upto_region 10 with fail
 refine wrL 11 (fun x=>x.rangeAt P 0 [.slice a1 W.length c1,.slice a2 d.length c2]∧x.cell? ⟨P,1,none⟩=some (.slice a2 d.length c2)) ?_
 refine WL.tk 0 i ?_
 refine WL.tk 1 i ?_
 refine WL.tk 2 i ?_ (hy:=(fun w' bu=>aM 51 _ (bu.1) underlying51 rfl a9 _ rfl rfl))
 refine WL.tk 3 i ?_
 refine WL.tk 4 i ?_
 refine WL.tk 5 i ?_
 refine WL.tk 6 i ?_
 refine WL.tk 7 i ?_
 refine WL.on 8 ?_
 rw [a4.out]
 refine aj rfl 51 _ _ rfl b 1 [.slice a1 W.length c1,.slice a2 d.length c2] rfl rfl 2 rfl bn.out bN (by intro v F;simp at F;rcases F with rfl|rfl<;>rfl) ?_
 rw [b1.out]
 simp only [Act.put,nz]
 go_wp2_with fail
 refine ⟨ao,?_⟩
 refine WL.tk 9 ao ?_
 refine WL.tk 10 ao ?_
 refine WL.la 11 ?_
 go_wp2_with fail
 go_ret
 rw [br.out]
 exact a3.out
end
section
variable {O:Nat → Prop} {N R M:Nat} {w:World} {q:Int} {L:LK} {sy:Nat → Bool} {B:Sb} {t l:List Rf} {n:Nat} {P:Nat → List Idl} {U:List Idl} {c:Nat} {F:List Ob}
theorem SL.trim {W:List Rf} {k m:Nat} (h:SL L sy t l F U c) (f:aO W (l.drop k)=true):SL (L.put 2 bkN (some (ofB (iU W (l.drop k)),m))) (upN sy 2 true) W (l.drop k) F U c:=by
 have b:∀v x,(L.put 2 bkN v) 0 x=L 0 x:=fun v x=>LK.aH (by omega)
 have j:=h.lc
 refine ⟨⟨fun o d=> ?_,fun nm d' a=>h.lo.all nm d' (by rwa [b] at a)⟩,h.fc,h.nd,fun y=>by rw [LK.aH (by omega)];exact h.pk y,⟨m,LK.bT ..⟩,by rw [List.length_drop];omega,?_,f,fun o d g d' a=>h.uf o d g d' (by rwa [b] at a),h.up,fun hu=>by rw [aF (by omega)];exact h.s0 hu⟩
 ·obtain ⟨h1,n,i⟩:=h.lo.on o d
  exact ⟨h1,n,by rw [b];exact i⟩
 rw [LK.aH (fun e=>absurd e.2 (by decide +kernel))];exact h.tm
def TmA (O:Nat→Prop) (N R M:Nat) (q:Int) (B:Sb) (P:Nat→List Idl) (U:List Idl) (c:Nat) (F:List Ob) (w:World) (e:Ending) (w':World):Prop :=
 e= .returned (.int .i64 0)∧ ∃O' a d b L' sy',DV O' (N+1) (R+2) M w' a.g q L' sy'∧SM O' w' a d b b.length P U c∧SL L' sy' d b F U c∧a.sb=B.sb∧a.g=B.g∧a.bl=B.bl∧(∀j,O j→O' j)∧(∀j,O' j→O j∨w.heap.size≤j)∧Chg (fun j=> ¬O j∨j∈B.bl) w w'
theorem I6 (D:DV O N R M w B.g q L sy) (X:eP w) (hm:SM O w B t l n P U c) (p:SL L sy t l F U c) (T:N+R≤900000) (Y:1137+81*c≤M) (o:M≤1000000) (H:3*((N+1)*M)+M≤q) (i:q≤1000000000) (m:Int) :
  Calls prog 30 #[.pointer (some ⟨B.sb,0,none⟩),.int .i64 m] w (TmA O N R M q B P U c F w):=by
 have v:=p.lc
 have C:=ah (KO D X hm.bk m (l.length-max 0 (min m l.length)).toNat (by omega) p.ok p.tm T (by omega) o H i)
 unfold IE at C
 generalize (l.length-max 0 (min m l.length)).toNat=k at C
 have c0:w.cell? ⟨B.sb,0,none⟩=some (.pointer (some ⟨B.ob,0,none⟩)):=hm.cell rfl
 have S:=ah hm
 have J:=ah p
 have z:=ah D.olt
 clear D X hm p T Y o H i v
 go_enter func30,ntmps30
 go_wp2_with fail
 refine C.out.mono ?_
 rintro e w1 ⟨rfl,O',v1,v2,W,V,G,I,d,u,b,h1,x,Q,K,A⟩
 have f:Hid (TmA O N R M q B P U c F w (.returned (.int .i64 0)) w1):=ah (by
  have y:Chg (fun j=> ¬O' j∨j=B.ob) w w1:=A.mono (fun j a h=>h.imp (fun r Z=>r ((x j Z).resolve_right (by omega))) id)
  have s:∀j,j∈B.bl→j<w.heap.size:=fun j a=>z.out j (S.out.own j a)
  have E:=(S.out.sub h1).zX y b (fun _ j a r=>by have:=Q j a;have:=s j r;omega) (fun _ j a r=>by have:=K j a;have:=s j r;omega)
  exact ⟨rfl,O',{ B with vt:=v1,vl:=v2 },W,_,_,_,u,E,J.out.trim (GY J.out.ok G I d),rfl,rfl,rfl,h1,x,A.mono fun j _ h=>h.imp id fun e=>by rw [e];simp [Sb.bl]⟩)
 clear G I d u b h1 x Q K A
 go_wp2_with fail
 go_ret
 exact f.out
end
end
section
open Go.RowKit Go.Maps
structure Qy (w0:World) (a b r na nb:Nat) (Sa Sb Sc Lr:List Idl) (w:World):Prop where
 dst:bW w a (na + (Sb.length - Lr.length)) Sc
 rng:bX vB w b r nb (gZ Sb) Lr
 mem:∀ x,(x ∈ Sc ∨ x ∈ Lr) ↔ (x ∈ Sa ∨ x ∈ Sb)
 le:Lr.length ≤ Sb.length
 cnt:Sc.length + Lr.length ≤ Sa.length + Sb.length
 grow:w0.grownBy w (some a)
 fresh:w0.heap.size ≤ r
def PO (a na:Nat) (Sa Sb:List Idl) (w:World) (e:Ending) (w':World):Prop:=e= .returned (.tuple #[])∧ ∃b,bW w' a (na+Sb.length) b∧(∀x,x∈b↔(x∈Sa∨x∈Sb))∧b.length≤Sa.length+Sb.length∧w.grownBy w' (some a)
theorem rQ (l:List Idl) (x:Idl):(gJ l x).length≤l.length+1:=by
 unfold gJ
 split
 ·omega
 rw [List.length_cons];omega
theorem Ke {w0 w w':World} {r a:Nat} (h:w0.grownBy w (some a)) (b:w.grownBy w' (some r)) (g:w0.heap.size≤r):w0.grownBy w' (some a) :=
 ⟨b.os.trans h.os,b.tape.trans h.tape,b.output.trans h.output,Nat.le_trans h.size b.size,fun k f d=>(b.block k (Nat.lt_of_lt_of_le f h.size) (fun e=>by have:=Option.some.inj e;omega)).trans (h.block k f d)⟩
theorem J8 (a b na nb:Nat) (Sa Sb:List Idl) (w:World) (N:a≠b) (ha:bW w a na Sa) (hb:bW w b nb Sb) (hl:Sb.length≤100000) (S:na≤1000000) :
  Calls prog 43 #[.map (some a),.map (some b)] w (PO a na Sa Sb w):=by
 obtain ⟨zi,am,ag⟩:=oP
 have HA:=ah ha
 have v:=ah hb
 have af:=ah hl
 have ad:=ah S
 have aa:=ah N
 have p:=ah cZ
 clear ha hb hl S N
 go_enter func43,ntmps43
 go_wp2_with (refine vX (enc:=vB) rfl _ 70 4 rfl underlying70 b nb (gZ Sb) Sb rfl v.out.1 v.out.2.1 v.out.2.2 (fun x _=>sJ) ?_)
 intro w2 m D V
 obtain ⟨d,H⟩:∃d,w.heap.size=d:=⟨_,rfl⟩
 have W:Hid (Qy w a b d na nb Sa Sb Sa Sb w2):=ah ⟨by rw [Nat.sub_self];exact HA.out.heap (D.block a HA.out.lt (by simp)),by rw [←H];exact m,fun _=>Iff.rfl,Nat.le_refl _,Nat.le_refl _,pV D _,by omega⟩
 rw [H]
 clear m D V H
 go_upto_region 1 with fail
 go_loopw [4,5] (fun _ _ wr=> ∃Sc Lr,Qy w a b d na nb Sa Sb Sc Lr wr) (fun _ _ wr=>wr.rangeLeft b d)
 case atStart=>exact ⟨Sa,Sb,W.out⟩
 obtain ⟨U,rfl⟩:∃U:World,U=wr:=⟨_,rfl⟩
 obtain ⟨Sc,Lr,F⟩:=hrel
 have f:=ah F
 have s:=F.rng
 clear F
 go_wp2_with (refine zm (enc:=vB) rfl _ rfl b d nb (gZ Sb) Lr rfl s ?_ ?_)
 ·intro ae
  subst ae
  clear s
  have L:Hid (PO a na Sa Sb w (.returned (.tuple #[])) U):=ah ⟨rfl,Sc,by have:=f.out.dst;simpa using this,fun x=>by have:=f.out.mem x;simpa using this,by have:=f.out.cnt;simpa using this,f.out.grow⟩
  go_wp2_with fail
  go_end0
  exact L.out
 intro x
 refine ⟨fun w3 _ _ q=>absurd q (by unfold gZ;split<;>simp),?_⟩
 intro w3 B hx q o k r Z M
 have n:¬d=a:=fun e=>by have h1:=f.out.fresh;have Y:=HA.out.lt;omega
 have P:=List.length_pos_of_mem B
 have ab:Hid (bW w3 a (na+(Sb.length-Lr.length)) Sc):=ah (f.out.dst.heap (r.block a f.out.dst.lt (fun e=>n (Option.some.inj e).symm)))
 have i:=ah o
 have Q:=ah k
 have ac:=ah (Ke f.out.grow r f.out.fresh)
 have K:=ah hx
 have g:=ah (And.intro B P)
 have u:Hid ((idC x).length=32):=ah (by rw [av,hx])
 have O:=ah (aJ x)
 have l:(prog.info? 42).map (·.size)=some (idC x).length:=by rw [u.out];exact p.out
 obtain ⟨ci,C⟩:∃z,idC x=z:=⟨_,rfl⟩
 have X:=ah C
 rw [C] at M u O l
 clear B q o k r Z s hx C P
 go_upto_region 3 with (refine aD rfl 42 _ _ rfl zi ci rfl rfl 32 u.out ag p.out O.out ?_;intro wn T E al)
 have e0:=T.range
 have J:=ah (ab.out.on E)
 have j:=ah E
 have R:na+(Sb.length-Lr.length)<maxLen:=by have h1:=ad.out;have Y:=af.out;unfold maxLen;omega
 clear T E
 go_wp2_with (first|(refine wpList_load_mid rfl 42 _ rfl w3.heap.size 0 rfl ci _ e0 underlying42 rfl l ?_)|(refine bZ (enc:=vB) rfl _ _ _ 70 4 rfl underlying70 a _ (gZ Sc) rfl J.out.1 x K.out true (by rw [X.out];rfl) rfl R ?_;intro w5 g1 g2))
 have t:some d≠some a:=fun e=>n (Option.some.inj e)
 have I:some b≠some a:=fun e=>aa.out (Option.some.inj e).symm
 have G:=ah (i.out.on j.out)
 have A:Hid (Qy w a b d na nb Sa Sb (gJ Sc x) (Lr.erase x) w5):=ah ⟨by
   have h1:=J.out.add K.out g1
   have Y:=g.out
   have h3:=f.out.le
   have h4:=List.length_erase_of_mem Y.1
   have e:na+(Sb.length-Lr.length)+1=na+(Sb.length-(Lr.erase x).length):=by omega
   rw [e] at h1
   exact h1,G.out.grown g2 I t,fun y=>by
   rw [←f.out.mem y,dU,List.Nodup.mem_erase_iff f.out.rng.nodup]
   by_cases e:y=x
   ·subst e;exact ⟨fun _=> .inr g.out.1,fun _=> .inl (.inl rfl)⟩
   ·exact ⟨fun h=>h.elim (fun h=>h.elim (fun h=>absurd h e) .inl) (fun h=> .inr h.2),fun h=>h.elim (fun h=> .inl (.inr h)) (fun h=> .inr ⟨e,h⟩)⟩,by
   have h3:=f.out.le
   have h4:=List.length_erase_of_mem g.out.1
   omega,by
   have h3:=f.out.cnt
   have h4:=List.length_erase_of_mem g.out.1
   have h5:=rQ Sc x
   have h6:=g.out.2
   omega,by
   have h1:w.grownBy wn (some a):=ac.out.trans (pV (jw j.out) _)
   exact h1.trans g2,f.out.fresh⟩
 have ai:Hid (w5.rangeLeft b d<U.rangeLeft b d):=ah (by
  have e:w5.rangeLeft b d=wn.rangeLeft b d:=iC (g2.block b G.out.map.lt I) (g2.block d G.out.lt t)
  have e2:wn.rangeLeft b d=w3.rangeLeft b d:=iC (j.out.block b i.out.map.lt) (j.out.block d i.out.lt)
  rw [e,e2];exact Q.out)
 clear g1 g2 t I R e0
 simp only [Act.put]
 go_wp2_with fail
 go_roundw
 case rel=>exact ⟨_,_,A.out⟩
 case measure=>exact ai.out
end
section
open Go.RowKit Go.Maps Go.Shelf
theorem Gm (n:Nat) (r:n≤100000) (w:World):Calls prog 88 #[.slice none 0 0,.int .i64 (n:Int)] w fun e w'=> ∃v,e= .returned v∧bQ w' w.heap.size 33 v 0 []∧Below w.heap.size w w':=by
 obtain ⟨m,l,d⟩:=Ca
 obtain ⟨q,hi,k,f,i⟩:=info_parts l
 by_cases o:n=0
 ·subst o
  have h:=Any8.slices_Grow_room Tryz.growR none 0 0 0 w (Nat.le_refl _) (by omega) (by omega) (Nat.le_refl _)
  refine h.mono ?_
  rintro e w' ⟨rfl,rfl⟩
  exact ⟨_,rfl,iD _ _ _,Below.refl _ _⟩
 have h:=Any8.slices_Grow_grow Tryz.growR q (.agg m) hi k (by rw [f];decide) none 0 0 n [] w (Nat.le_refl _) (by omega) (by rw [i];omega) (by omega) (by simp) (fun _=>rfl) (fun a p=>by cases p)
 refine h.mono ?_
 rintro e w' ⟨rfl,rfl⟩
 have b:=grownCap_ge w (0+n) 0 93
 have g:=grownCap_le_maxLen w (0+n) 0 93 (by unfold maxLen;omega)
 refine ⟨_,rfl,⟨rfl,.inr ⟨w.heap.size,0,grownCap w (0+n) 0 93,rfl,Nat.le_refl _,?_,Nat.zero_le _,g,?_,fun j u hu=>by simp at hu⟩⟩,?_⟩
 ·show w.heap.size<(w.drew.alloc _).heap.size
  rw [World.size_alloc]
  exact Nat.lt_succ_self _
 ·refine there_alloc w.drew _ _ ?_
  simp [Builtin.zeroCells,Value.cells,d]
  have:n*33+(grownCap w n 0 93-n)*33=grownCap w n 0 93*33:=by
   rw [Nat.zero_add] at b
   rw [←Nat.add_mul];congr 1;omega
  exact this
 exact (Below.refl w.heap.size w).drew.alloc (Nat.le_refl _) _
theorem Ev (b:Nat) (v1 v2:Value) (t l:List Rf) (w:World) (N:w.cell? ⟨b,0,none⟩=some v1) (c1:w.cell? ⟨b,1,none⟩=some v2) (D:dw w v1 t) (I:dw w v2 l) (m:∀r∈t++l,r.2.length=32) (hm:t.length+l.length≤100000) :
  Calls prog 45 #[.slice (some ⟨b,0,none⟩) 2 2] w fun e w'=> ∃v,e= .returned v∧bQ w' w.heap.size 33 v (t++l).length (rfV (t++l))∧Below w.heap.size w w':=by
 obtain ⟨P,J,u⟩:=Ca
 obtain ⟨Q,hi,q,s,B⟩:=info_parts J
 have A:=World.block_lt_of_cell? w _ N
 have f:∀r∈t,r.2.length=32:=fun r H=>m r (List.mem_append.2 (.inl H))
 have a:∀r∈l,r.2.length=32:=fun r H=>m r (List.mem_append.2 (.inr H))
 obtain ⟨X,Z,rfl,_,_⟩:=D.open
 obtain ⟨U,cb,rfl,_,_⟩:=I.open
 have HT:=ah (fun V (hb:Below w.heap.size w V)=>(D.below hb).flat f)
 have R:=ah (fun V (hb:Below w.heap.size w V)=>(I.below hb).flat a)
 have j:=ah (fun V=>Gm (t.length+l.length) hm V)
 have S:IntKind.i64.wrap (t.length:Int)=(t.length:Int):=IntWalk.i64_in _ (by omega)
 have q1:decide ((t.length:Int)<0)=false:=decide_eq_false (by omega)
 have q2:IntKind.i64.wrap ((t.length:Int)+(l.length:Int))=((t.length+l.length:Nat):Int):=by rw [IntWalk.i64_in _ (by omega)];omega
 have M:decide (((t.length+l.length:Nat):Int)<0)=false:=decide_eq_false (by omega)
 have F:=ah (fun V (hb:Below w.heap.size w V)=>au N hb A)
 have y:=ah (fun V (hb:Below w.heap.size w V)=>au c1 hb A)
 have o:=ah (qF f)
 have p:=ah (qF a)
 have G:=ah (BF t)
 have K:=ah (BF l)
 have g:=ah hm
 obtain ⟨nn,k⟩:∃n,t.length+l.length=n:=⟨_,rfl⟩
 have aa:=ah k
 rw [k] at q2 M j
 clear m hm D I f a k
 go_enter func45,ntmps45
 go_wp2_with fail
 refine wp_loop_rounds 3 ?_
 rw [rounds_succ]
 go_wp2_with fail
 rw [rounds_succ]
 go_wp2_with fail
 rw [rounds_succ]
 go_wp2_with fail
 refine (j.out w).mono ?_
 rintro e w1 ⟨v,rfl,C,i⟩
 have h:=ah i
 have z:=ah C
 have Y:=F.out w1 i
 have d1:=y.out w1 i
 obtain ⟨vo,vc,rfl⟩:=C.iK
 clear i C j S q1 q2 M
 go_wp2_with fail
 refine wp_loop_rounds 3 ?_
 rw [rounds_succ]
 go_wp2_with (refine dM rfl _ _ 49 rfl w.heap.size 93 Q (.agg P) 33 48 underlying49 hi q s B u (by decide) _ 0 [] rfl z.out X t.length Z (rfV t) rfl o.out (HT.out w1 h.out) G.out (by have:=g.out;unfold maxLen;omega) (by have:=g.out;omega) h.out.size ?_;intro v2 O g1 g2 g3)
 rw [Nat.zero_add,List.nil_append] at g1
 have x:=ah g1
 have d:=ah (h.out.grown g2 h.out.size z.out.qb)
 have W:=y.out O d.out
 obtain ⟨uo,uc,rfl⟩:=g1.iK
 clear g1 g2 g3 Y d1
 go_wp2_with fail
 rw [rounds_succ]
 go_wp2_with (refine dM rfl _ _ 49 rfl w.heap.size 93 Q (.agg P) 33 48 underlying49 hi q s B u (by decide) _ t.length (rfV t) rfl x.out U l.length cb (rfV l) rfl p.out (R.out O d.out) K.out (by have:=g.out;unfold maxLen;omega) (by have:=g.out;omega) d.out.size ?_;intro T w3 g1 g2 g3)
 have E:Hid (bQ w3 w.heap.size 33 T (t++l).length (rfV (t++l))):=ah (by rw [G9,List.length_append];exact g1)
 have L:=ah (d.out.grown g2 d.out.size x.out.qb)
 obtain ⟨xo,xc,rfl⟩:=g1.iK
 clear g1 g2 g3 W
 go_wp2_with fail
 rw [rounds_succ]
 go_wp2_with fail
 go_ret
 exact ⟨_,rfl,E.out,L.out⟩
end
section
open Go.RowKit Go.Maps
theorem rY {P:Program} {w w':World} {ops:Array Oper} {rest:List Oper} {o:Oper} {a:Act} {Q:Exit→Act→World→Prop} (g:o.guard=none) (m:Operand) (t:TypeId) (e:o.op=Op.call { callee:=Callee.builtin Builtin.clear,args:=#[m],argTypes:=#[t] })
  (v:Value) (hm:a.eval m=v) (b:(Builtin.clear_ #[t] o.type #[v]).run P w= .ok (.tuple #[]) w') (f:wpList P ops Q rest (a.put o.dst (.tuple #[])) w'):wpList P ops Q (o::rest) a w:=by
 refine wpList_plain g fun h d=> ?_
 unfold Oper.wp
 simp [execOp,e,resolve,invoke,builtin,hm,b,Result.andThen]
 exact d _ _ f
theorem EU (n:Nat):(Builtin.zeroCells #[.int .u8 0,.int .u8 0,.int .u8 0,.int .u8 0,.int .u8 0,.int .u8 0,.int .u8 0,.int .u8 0,.int .u8 0,.int .u8 0,.int .u8 0,.int .u8 0,.int .u8 0,.int .u8 0,.int .u8 0,.int .u8 0,.int .u8 0,.int .u8 0,.int .u8 0,.int .u8 0,.int .u8 0,.int .u8 0,.int .u8 0,.int .u8 0,.int .u8 0,.int .u8 0,.int .u8 0,.int .u8 0,.int .u8 0,.int .u8 0,.int .u8 0,.int .u8 0] n).toList=List.replicate (n*32) (.int .u8 0):=by
 rw [show (#[.int .u8 0,.int .u8 0,.int .u8 0,.int .u8 0,.int .u8 0,.int .u8 0,.int .u8 0,.int .u8 0,.int .u8 0,.int .u8 0,.int .u8 0,.int .u8 0,.int .u8 0,.int .u8 0,.int .u8 0,.int .u8 0,.int .u8 0,.int .u8 0,.int .u8 0,.int .u8 0,.int .u8 0,.int .u8 0,.int .u8 0,.int .u8 0,.int .u8 0,.int .u8 0,.int .u8 0,.int .u8 0,.int .u8 0,.int .u8 0,.int .u8 0,.int .u8 0]:Array Value)=Array.replicate 32 (.int .u8 0) from rfl]
 apply List.ext_getElem
 ·simp [Builtin.zeroCells]
 intro i h1 b
 have a:i%32<32:=Nat.mod_lt _ (by decide)
 simp [Builtin.zeroCells,a]
theorem KI {w:World} {b o n:Nat} (c:Nat) (ty:TypeId) (i:0<n) (g:w.there b o (n*32)):(Builtin.clear_ #[44] ty #[.slice (some ⟨b,o,none⟩) n c]).run prog w= .ok (.tuple #[]) (w.setCells b o (List.replicate (n*32) (.int .u8 0))):=by
 have a:∀w,(zeroValue 42).run prog w= .ok (.agg #[.int .u8 0,.int .u8 0,.int .u8 0,.int .u8 0,.int .u8 0,.int .u8 0,.int .u8 0,.int .u8 0,.int .u8 0,.int .u8 0,.int .u8 0,.int .u8 0,.int .u8 0,.int .u8 0,.int .u8 0,.int .u8 0,.int .u8 0,.int .u8 0,.int .u8 0,.int .u8 0,.int .u8 0,.int .u8 0,.int .u8 0,.int .u8 0,.int .u8 0,.int .u8 0,.int .u8 0,.int .u8 0,.int .u8 0,.int .u8 0,.int .u8 0,.int .u8 0]) w:=fun w=>by kernel_rfl
 have d:=run_storeCells_cells (P:=prog) b o (List.replicate (n*32) (.int .u8 0)) 0 w (fun j f=>by rw [Nat.add_zero];exact (g j (by simpa using f)).1) (fun j f=>by rw [Nat.add_zero];exact (g j (by simpa using f)).2) (by intro v h;rw [List.eq_of_mem_replicate h];rfl)
 simp only [Nat.add_zero] at d
 obtain ⟨m,rfl⟩:∃m,n=m+1:=⟨n-1,by omega⟩
 have e:=EU (m+1)
 generalize (#[.int .u8 0,.int .u8 0,.int .u8 0,.int .u8 0,.int .u8 0,.int .u8 0,.int .u8 0,.int .u8 0,.int .u8 0,.int .u8 0,.int .u8 0,.int .u8 0,.int .u8 0,.int .u8 0,.int .u8 0,.int .u8 0,.int .u8 0,.int .u8 0,.int .u8 0,.int .u8 0,.int .u8 0,.int .u8 0,.int .u8 0,.int .u8 0,.int .u8 0,.int .u8 0,.int .u8 0,.int .u8 0,.int .u8 0,.int .u8 0,.int .u8 0,.int .u8 0]:Array Value)=k at a e
 simp [Builtin.clear_,run_underlying underlying44,a,Value.cells,e,d]
structure mU (w wr:World) (g off cap:Nat) (l cur:List Idl) (i k:Nat):Prop where
 gr:w.grownBy wr (some g)
 th:wr.there g off (cap * 32)
 at_:∀ j (h:j < cur.length),wr.rangeAt g (off + j * 32) (idC cur[j])
 len:cur.length = l.length
 c32:∀ x ∈ cur,x.length = 32
 rest:∀ j,i ≤ j + 1 → cur[j]? = l[j]?
 mem:∀ x,x ∈ cur.take k ↔ x ∈ l.take i
 k1:1 ≤ k
 ki:k < i
 gl:g < wr.heap.size
theorem nQ {l:List Idl} {i:Nat} {x:Idl} (h:l[i]? = some x):l.take (i+1)=l.take i++[x]:=by
 obtain ⟨hi,rfl⟩:=List.getElem?_eq_some_iff.1 h
 exact List.take_succ_eq_append_getElem hi
theorem mU.skip {w wr:World} {g off cap:Nat} {l cur:List Idl} {i k:Nat} (h:mU w wr g off cap l cur i k) {x:Idl} (hx:l[i]? = some x) (hy:l[i-1]? = some x):mU w wr g off cap l cur (i+1) k:=by
 refine ⟨h.gr,h.th,h.at_,h.len,h.c32,fun j d=>h.rest j (by omega),fun y=> ?_,h.k1,Nat.lt_succ_of_lt h.ki,h.gl⟩
 rw [h.mem y,nQ hx,List.mem_append,List.mem_singleton]
 have hm:x∈l.take i:=by
  have a:=h.k1
  have b:=h.ki
  refine List.mem_of_getElem? (i:=i-1) ?_
  rw [List.getElem?_take,if_pos (by omega),hy]
 constructor
 ·intro h;exact .inl h
 rintro (h|rfl)
 ·exact h
 exact hm
theorem mU.keep {w wr:World} {g off cap:Nat} {l cur:List Idl} {i k:Nat} (h:mU w wr g off cap l cur i k) {x:Idl} (hx:l[i]? = some x) (b:x.length=32) (q:l.length≤cap) {f:World} (d:Below wr.heap.size wr f):mU w (f.setCells g (off+k*32) (idC x)) g off cap l (cur.set k x) (i+1) (k+1):=by
 have t:=h.ki
 have r:i<l.length:=(List.getElem?_eq_some_iff.1 hx).1
 have o:k<cur.length:=by rw [h.len];omega
 have a:(idC x).length=32:=by rw [av,b]
 have n:=gX h.th d h.gl
 refine ⟨(h.gr.trans (show wr.grownBy f (some g) from ⟨d.os,d.tape,d.output,d.size,fun k u _=>d.block k u⟩)).trans (bP f g _ _),World.there_setCells n _ _ _,fun j p=> ?_,by rw [List.length_set,h.len],fun y hy=> ?_,fun j p=> ?_,fun y=> ?_,by omega,by omega,?_⟩
 ·rw [List.length_set] at p
  rw [List.getElem_set]
  by_cases e:k=j
  ·subst e
   rw [if_pos rfl]
   exact World.rangeAt_setCells_same f g _ _ fun m hm=>by
    have:=n (k*32+m) (by
     rw [a] at hm
     have:(k+1)*32≤cap*32:=Nat.mul_le_mul_right _ (by rw [h.len] at o;omega)
     rw [Nat.succ_mul] at this
     omega)
    rwa [←Nat.add_assoc] at this
  rw [if_neg e]
  refine World.rangeAt_setCells_apart (ay (h.at_ j p) d h.gl) g _ _ (.inr ?_)
  have h1:(idC cur[j]).length=32:=by rw [av,h.c32 _ (List.getElem_mem p)]
  rw [h1,a]
  rcases Nat.lt_or_gt_of_ne e with e|e
  ·right
   have:(k+1)*32≤j*32:=Nat.mul_le_mul_right _ e
   rw [Nat.succ_mul] at this
   omega
  left
  have:(j+1)*32≤k*32:=Nat.mul_le_mul_right _ e
  rw [Nat.succ_mul] at this
  omega
 ·rcases List.mem_or_eq_of_mem_set hy with hy|rfl
  ·exact h.c32 y hy
  exact b
 ·rw [List.getElem?_set_ne (by omega)]
  exact h.rest j (by omega)
 ·have s:(cur.set k x).take (k+1)=cur.take k++[x]:=by
   rw [nQ (show (cur.set k x)[k]? = some x from by rw [List.getElem?_set_self o]),List.take_set_of_le (Nat.le_refl _)]
  rw [s,nQ hx,List.mem_append,List.mem_append,h.mem y]
 rw [show (f.setCells g (off+k*32) (idC x)).heap.size=f.heap.size from nR _ _ _ _]
 exact Nat.lt_of_lt_of_le h.gl d.size
def zh (B:Nat) (q:Value) (l:List Idl) (w:World) (e:Ending) (w':World):Prop:=∃v m,e= .returned v∧bQ w' B 32 v m.length (dx m)∧(∀x,x∈m↔x∈l)∧(∀x∈m,x.length=32)∧w.grownBy w' q.ownBlock∧m.length≤l.length
theorem mU.at' {w wr:World} {g off cap:Nat} {l cur:List Idl} {i k:Nat} (h:mU w wr g off cap l cur i k) {j:Nat} {x:Idl} (hx:cur[j]? = some x):wr.rangeAt g (off+j*32) (idC x):=by
 obtain ⟨a,rfl⟩:=List.getElem?_eq_some_iff.1 hx
 exact h.at_ j a
theorem mU.below {w wr b:World} {g off cap:Nat} {l cur:List Idl} {i k:Nat} (h:mU w wr g off cap l cur i k) (a:Below wr.heap.size wr b):mU w b g off cap l cur i k :=
 ⟨h.gr.trans (show wr.grownBy b (some g) from ⟨a.os,a.tape,a.output,a.size,fun k e _=>a.block k e⟩),gX h.th a h.gl,fun j d=>ay (h.at_ j d) a h.gl,h.len,h.c32,h.rest,h.mem,h.k1,h.ki,Nat.lt_of_lt_of_le h.gl a.size⟩
theorem mU.done {w wr:World} {B g off cap:Nat} {l cur:List Idl} {k:Nat} (h:mU w wr g off cap l cur l.length k) (m:B≤g) (f:l.length≤cap) (d:cap≤maxLen) (e:List Value) :
  bQ (wr.setCells g (off+k*32) e) B 32 (.slice (some ⟨g,off,none⟩) k cap) (cur.take k).length (dx (cur.take k))∧(∀x,x∈cur.take k↔x∈l)∧(∀x∈cur.take k,x.length=32)∧w.grownBy (wr.setCells g (off+k*32) e) (some g):=by
 have n:=h.ki
 have i:=h.len
 have a:∀x∈cur.take k,x.length=32:=fun x hx=>h.c32 x (List.mem_of_mem_take hx)
 have b:(cur.take k).length=k:=by rw [List.length_take];omega
 refine ⟨⟨nJ _ a,.inr ⟨g,off,cap,by rw [b],m,?_,by omega,d,World.there_setCells h.th _ _ _,?_⟩⟩,fun x=> ?_,a,h.gr.trans (bP wr g _ _)⟩
 ·rw [nR];exact h.gl
 ·refine World.rangeAt_setCells_apart (H6 _ a (fun j o=> ?_)) g _ _ (.inr (.inl (by rw [nJ _ a,b];exact Nat.le_refl _)))
  rw [List.getElem_take]
  exact h.at_ j (by rw [b] at o;omega)
 rw [h.mem x,List.take_length]
theorem Ew (B:Nat) (q:Value) (l:List Idl) (w:World) (P:bQ w B 32 q l.length (dx l)) (hl:∀x∈l,x.length=32) (hn:l.length≤1000000) :
  Calls prog 49 #[q] w (zh B q l w):=by
 by_cases h2:l.length<2
 ·have d0:decide ((l.length:Int)<2)=true:=decide_eq_true (by omega)
  have HA:Hid (zh B q l w (.returned q) w):=ah ⟨q,l,rfl,P,fun _=>Iff.rfl,hl,World.grownBy.refl _ _,Nat.le_refl _⟩
  obtain ⟨ao,c,rfl⟩:=P.iK
  clear P
  go_enter func49,ntmps49
  go_wp2_with fail
  go_ret
  exact HA.out
 rcases P.2 with ⟨_,h0⟩|⟨g,off,cap,rfl,hB,hg,a4,ap,M,hr⟩
 ·omega
 have ag:∀j (h:j<l.length),w.rangeAt g (off+j*32) (idC l[j]):=by
  obtain ⟨ao,c,e,_,hc⟩:=(P.row hl).open
  injection e with e1 _ _
  obtain ⟨b,o,e2,_,T⟩:=hc (by intro e;rw [e] at h2;simp at h2)
  rw [←e1] at e2
  cases e2
  exact T
 have d0:decide ((l.length:Int)<2)=false:=decide_eq_false (by omega)
 have HA:Hid (zh B (.slice (some ⟨g,off,none⟩) l.length cap) l w (.returned (.slice (some ⟨g,off,none⟩) l.length cap)) w):=ah ⟨_,l,rfl,P,fun _=>Iff.rfl,hl,World.grownBy.refl _ _,Nat.le_refl _⟩
 have aa:=ah ag
 have HL:=ah hl
 have a1:=ah M
 have HG:=ah hg
 have J:=ah (And.intro a4 (And.intro ap hB))
 have HQ:=ah P
 have H2:=ah h2
 clear P hl hr M ag hB ap
 go_enter func49,ntmps49
 go_wp2_with fail
 go_loopw [3] (fun i wr=> ∃k:Nat,i= .int .i64 k∧1≤k∧k≤l.length∧Below w.heap.size w wr) (fun i _=>(l.length-intOf i).toNat)
 case atStart=>exact ⟨1,rfl,by omega,by omega,Below.refl _ _⟩
 obtain ⟨wi,rfl⟩:∃wi:World,wi=wr:=⟨_,rfl⟩
 obtain ⟨k,rfl,ax,hk,hb⟩:=hrel
 have HB:=ah hb
 have al:=hb.size
 by_cases S:k<l.length
 ·have C:=ay (aa.out k S) hb HG.out
  have D:=ay (aa.out (k-1) (by omega)) hb HG.out
  obtain ⟨x,hx⟩:∃x,l[k]=x:=⟨_,rfl⟩
  obtain ⟨y,hy⟩:∃y,l[k-1]=y:=⟨_,rfl⟩
  rw [hx] at C
  rw [hy] at D
  have s:x.length=32:=by rw [←hx];exact HL.out _ (List.getElem_mem S)
  have v:y.length=32:=by rw [←hy];exact HL.out _ (List.getElem_mem _)
  have f:=dZ (us:=idC x) (by rw [av,s])
  have p:=dZ (us:=idC y) (by rw [av,v])
  have r:=gM x y s v
  have u:Hid (l[k]? = some x∧l[k-1]? = some y):=ah ⟨by rw [List.getElem?_eq_getElem S,hx],by rw [List.getElem?_eq_getElem (by omega),hy]⟩
  have I:Hid ((x==y)=decide (x=y)):=ah (by by_cases h:x=y<;>simp [h])
  have k0:(0:Int)≤k:=by omega
  have k1:(k:Int)<l.length:=by omega
  have e1:IntKind.i64.wrap ((k:Int)-1)=((k-1:Nat):Int):=by rw [IntWalk.i64_in _ (by omega)];omega
  have e2:IntKind.i64.wrap ((k:Int)+1)=(k:Int)+1:=IntWalk.i64_in _ (by omega)
  have k2:((k-1:Nat):Int)<l.length:=by omega
  have k3:(0:Int)≤((k-1:Nat):Int):=by omega
  have d1:decide ((k:Int)<l.length)=true:=decide_eq_true k1
  clear hx hy s v hb
  generalize idC x=ux at C f r
  generalize idC y=uy at D p r
  generalize (x==y)=R at r I
  cases R with
  | false =>
   go_wp2_with fail
   refine wbq ?_
   repeat (go_big_quiet_step (fail))
   refine aY 42 _ _ rfl rfl rfl C (by omega) underlying42 rfl f ?_
   simp only [Act.put,nz]
   repeat (go_big_quiet_step (fail))
   refine aY 42 _ _ rfl rfl rfl D (by omega) underlying42 rfl p ?_
   simp only [Act.put,nz]
   repeat (go_big_quiet_step (fail))
   refine wpQuiet_nil ?_
   intro wq d
   have aE:=ah (HB.out.trans (d.mono al))
   clear d C D r
   go_wp2_with fail
   go_roundw
   case rel=>exact ⟨k+1,by go_num,by omega,by omega,aE.out⟩
   case measure=>simp [intOf];omega
  | true =>
   have H:x=y:=of_decide_eq_true I.out.symm
   go_wp2_with fail
   refine wbq ?_
   repeat (go_big_quiet_step (fail))
   refine aY 42 _ _ rfl rfl rfl C (by omega) underlying42 rfl f ?_
   simp only [Act.put,nz]
   repeat (go_big_quiet_step (fail))
   refine aY 42 _ _ rfl rfl rfl D (by omega) underlying42 rfl p ?_
   simp only [Act.put,nz]
   repeat (go_big_quiet_step (fail))
   refine wpQuiet_nil ?_
   intro wq d
   have az:¬cap=k:=by omega
   have hcut:∀W,(Instr.sliceAt 44 (.slice (some (⟨g,off,none⟩:Addr)) l.length cap) (some (.int .i64 k)) none none).run prog W= .ok (.slice (some ⟨g,off+k*32,none⟩) (l.length-k) (cap-k)) W:=fun W=>by
    rw [qC W (some (⟨g,off,none⟩:Addr)) l.length cap k (by omega),if_neg az,Option.map_some,Addr.add_mid]
   obtain ⟨n2,X⟩:∃z,l.length-k=z:=⟨_,rfl⟩
   rw [X] at hcut
   have a0:Hid (mU w wq g off cap l l (k+1) k):=ah (by
    have t:=HB.out.trans (d.mono al)
    refine ⟨⟨t.os,t.tape,t.output,t.size,fun j hj _=>t.block j hj⟩,gX a1.out t HG.out,fun j hj=>ay (aa.out j hj) t HG.out,rfl,HL.out,fun _ _=>rfl,fun z=> ?_,ax,Nat.lt_succ_self _,Nat.lt_of_lt_of_le HG.out t.size⟩
    rw [nQ u.out.1,List.mem_append,List.mem_singleton]
    constructor
    ·intro h;exact .inl h
    rintro (h|rfl)
    ·exact h
    refine List.mem_of_getElem? (i:=k-1) ?_
    rw [List.getElem?_take,if_pos (by omega),u.out.2,H])
   have an:=ah X
   clear d C D r H X
   go_wp2_with (refine iW rfl 44 _ _ rfl _ _ rfl rfl _ (hcut _) ?_)
   go_loopw [3,5] (fun v3 v5 wr=> ∃(a k2:Nat) (cur:List Idl),v3= .int .i64 a∧v5= .int .i64 k2∧1≤k2∧k2≤n2∧Hid (mU w wr g off cap l cur (k+k2) a)) (fun _ v5 _=>(n2-intOf v5).toNat)
   case atStart=>exact ⟨k,1,l,rfl,rfl,by omega,by have:=an.out;omega,a0⟩
   obtain ⟨Q,rfl⟩:∃Q:World,Q=wr:=⟨_,rfl⟩
   obtain ⟨a,k2,cur,rfl,rfl,a9,a7,E⟩:=hrel
   have ad:=E.out.ki
   have ac:=an.out
   by_cases a5:k2<n2
   ·obtain ⟨x2,N⟩:∃z,l[k+k2]? = some z:=⟨_,List.getElem?_eq_getElem (by omega)⟩
    obtain ⟨y2,L⟩:∃z,l[k+(k2-1)]? = some z:=⟨_,List.getElem?_eq_getElem (by omega)⟩
    have C:=E.out.at' ((E.out.rest _ (by omega)).trans N)
    have D:=E.out.at' ((E.out.rest _ (by omega)).trans L)
    rw [Nat.add_mul,←Nat.add_assoc] at C D
    have s:x2.length=32:=HL.out _ (List.mem_of_getElem? N)
    have v:y2.length=32:=HL.out _ (List.mem_of_getElem? L)
    have f:=dZ (us:=idC x2) (by rw [av,s])
    have p:=dZ (us:=idC y2) (by rw [av,v])
    have r:=gM x2 y2 s v
    have u:Hid (l[k+k2]? = some x2∧l[k+k2-1]? = some y2∧x2.length=32):=ah ⟨N,by rw [show k+k2-1=k+(k2-1) by omega];exact L,s⟩
    have I:Hid ((x2==y2)=decide (x2=y2)):=ah (by by_cases h:x2=y2<;>simp [h])
    have ba:=ah E.out.gl
    have af:Hid ((idC x2).length=32):=ah (by rw [av,s])
    have ar:=ah (aJ x2)
    have k0:(0:Int)≤k2:=by omega
    have k1:(k2:Int)<n2:=by omega
    have e1:IntKind.i64.wrap ((k2:Int)-1)=((k2-1:Nat):Int):=by rw [IntWalk.i64_in _ (by omega)];omega
    have e2:IntKind.i64.wrap ((k2:Int)+1)=(k2:Int)+1:=IntWalk.i64_in _ (by omega)
    have e3:IntKind.i64.wrap ((a:Int)+1)=(a:Int)+1:=IntWalk.i64_in _ (by omega)
    have a8:((k2-1:Nat):Int)<n2:=by omega
    have k3:(0:Int)≤((k2-1:Nat):Int):=by omega
    have k4:(0:Int)≤(a:Int):=by omega
    have k5:(a:Int)<l.length:=by omega
    have d1:decide ((k2:Int)<n2)=true:=decide_eq_true k1
    have Z:=E.out.gl
    have ae:Hid (∀V,Below Q.heap.size Q V→V.there g (off+a*32) 32):=ah fun V hb m hm=>by
     have:=(gX E.out.th hb E.out.gl) (a*32+m) (by
      have:(a+1)*32≤cap*32:=Nat.mul_le_mul_right _ (by have:=J.out.1;omega)
      rw [Nat.succ_mul] at this
      omega)
     rwa [←Nat.add_assoc] at this
    clear N L s v ac ad
    generalize aq:idC x2=ux at C f r af ar
    have aw:=ah aq
    clear aq
    generalize idC y2=uy at D p r
    generalize (x2==y2)=R at r I
    cases R with
    | true =>
     have H:x2=y2:=of_decide_eq_true I.out.symm
     have a2:=ah (E.out.skip u.out.1 (by rw [H];exact u.out.2.1))
     clear H
     go_wp2_with fail
     refine wbq ?_
     repeat (go_big_quiet_step (fail))
     refine aY 42 _ _ rfl rfl rfl C (by omega) underlying42 rfl f ?_
     simp only [Act.put,nz]
     repeat (go_big_quiet_step (fail))
     refine aY 42 _ _ rfl rfl rfl D (by omega) underlying42 rfl p ?_
     simp only [Act.put,nz]
     repeat (go_big_quiet_step (fail))
     refine wpQuiet_nil ?_
     intro wq d
     have U:Hid (mU w wq g off cap l cur (k+(k2+1)) a):=ah (a2.out.below d)
     clear d C D r Z
     go_wp2_with fail
     go_roundw
     case rel=>exact ⟨a,k2+1,cur,by go_num,by go_num,by omega,by omega,U⟩
     case measure=>simp [intOf];omega
    | false =>
     go_wp2_with fail
     refine wbq ?_
     repeat (go_big_quiet_step (fail))
     refine aY 42 _ _ rfl rfl rfl C (by omega) underlying42 rfl f ?_
     simp only [Act.put,nz]
     repeat (go_big_quiet_step (fail))
     refine aY 42 _ _ rfl rfl rfl D (by omega) underlying42 rfl p ?_
     simp only [Act.put,nz]
     repeat (go_big_quiet_step (fail))
     refine wpQuiet_nil ?_
     intro wq d
     have f3:=ay C d Z
     have M:=ae.out wq d
     obtain ⟨WE,A⟩:∃z,wq.setCells g (off+a*32) ux=z:=⟨_,rfl⟩
     have U:Hid (mU w WE g off cap l (cur.set a x2) (k+(k2+1)) (a+1)):=ah (by
      have:=E.out.keep u.out.1 u.out.2.2 J.out.1 d
      rw [aw.out,A] at this
      exact this)
     have a3:=ah A
     clear d C D r Z A
     go_wp2_with (first|(refine wpList_load_mid rfl 42 _ rfl g (off+k*32+k2*32) rfl ux _ f3 underlying42 rfl f ?_)|(refine aj rfl 42 _ _ rfl g (off+a*32) ux rfl rfl 32 af.out M cZ ar.out ?_;rw [a3.out]))
     go_roundw
     case rel=>exact ⟨a+1,k2+1,cur.set a x2,by go_num,by go_num,by omega,by omega,U⟩
     case measure=>simp [intOf];omega
   have ai:k+k2=l.length:=by omega
   have O:mU w Q g off cap l cur l.length a:=by rw [←ai];exact E.out
   have a6:a<l.length:=O.ki
   have d1:decide ((k2:Int)<n2)=false:=decide_eq_false (by omega)
   have am:¬cap=a:=by omega
   have G:∀W,(Instr.sliceAt 44 (.slice (some (⟨g,off,none⟩:Addr)) l.length cap) (some (.int .i64 a)) none none).run prog W= .ok (.slice (some ⟨g,off+a*32,none⟩) (l.length-a) (cap-a)) W:=fun W=>by
    rw [qC W (some (⟨g,off,none⟩:Addr)) l.length cap a (by omega),if_neg am,Option.map_some,Addr.add_mid]
   have Y:=fun W=>Fx W (some (⟨g,off,none⟩:Addr)) l.length cap a (by omega)
   have K:=fun ty=>KI (w:=Q) (b:=g) (o:=off+a*32) (n:=l.length-a) (cap-a) ty (by omega) (fun m hm=>by
    have:=O.th (a*32+m) (by
     have:(a+(l.length-a))*32≤cap*32:=Nat.mul_le_mul_right _ (by omega)
     rw [Nat.add_mul] at this
     omega)
    rwa [←Nat.add_assoc] at this)
   obtain ⟨h1,h2,h3,h4⟩:=O.done J.out.2.2 J.out.1 J.out.2.1 (List.replicate ((l.length-a)*32) (.int .u8 0))
   obtain ⟨WE,A⟩:∃z,Q.setCells g (off+a*32) (List.replicate ((l.length-a)*32) (.int .u8 0))=z:=⟨_,rfl⟩
   rw [A] at h1 h4
   simp only [A] at K
   have F:Hid (zh B (.slice (some ⟨g,off,none⟩) l.length cap) l w (.returned (.slice (some ⟨g,off,none⟩) a cap)) WE):=ah ⟨_,cur.take a,rfl,h1,h2,h3,h4,by rw [List.length_take];omega⟩
   obtain ⟨n3,ab⟩:∃z,l.length-a=z:=⟨_,rfl⟩
   rw [ab] at K G
   clear h1 h2 h3 h4 A O ai ab
   go_wp2_with (first|(refine iW rfl 44 _ _ rfl _ _ rfl rfl _ (G _) ?_)|(refine rY rfl _ 44 rfl _ rfl (K _) ?_)|(refine ku rfl 44 _ _ rfl _ _ rfl rfl _ (Y _) ?_))
   go_ret
   exact F.out
 have d1:decide ((k:Int)<l.length)=false:=decide_eq_false (by omega)
 have F:Hid (zh B (.slice (some ⟨g,off,none⟩) l.length cap) l w (.returned (.slice (some ⟨g,off,none⟩) l.length cap)) wi):=ah ⟨_,l,rfl,HQ.out.below hb,fun _=>Iff.rfl,HL.out,⟨hb.os,hb.tape,hb.output,hb.size,fun j hj _=>hb.block j hj⟩,Nat.le_refl _⟩
 clear hb
 go_wp2_with fail
 go_ret
 exact F.out
def kK (l:List Rf):List Idl:=(l.map (·.2)).filter fun x=>decide (x≠zid)
theorem Aa (l:List Rf) (r:Rf):kK (l++[r])=kK l++(if r.2=zid then [] else [r.2]):=by
 unfold kK
 rw [List.map_append,List.filter_append]
 congr 1
 by_cases e:r.2=zid
 ·rw [if_pos e];simp [e]
 rw [if_neg e];simp [e]
theorem LV (l:List Rf):(kK l).length≤l.length:=by
 unfold kK
 exact Nat.le_trans (List.length_filter_le _ _) (by simp)
theorem Oq {l:List Rf} (h:∀r∈l,r.2.length=32):∀x∈kK l,x.length=32:=fun x hx=>by
 obtain ⟨r,a,rfl⟩:=List.mem_map.1 (List.mem_filter.1 hx).1
 exact h r a
def sO (t l:List Rf):List Idl:=if aO t l=true then kK (t++l) else []
def ER (t l:List Rf) (w:World) (e:Ending) (w':World):Prop:=∃v m,e= .returned v∧dF w' v m∧(∀x,x∈m↔x∈sO t l)∧(∀x∈m,x.length=32)∧(∀k,v.ownBlock=some k→w.heap.size≤k)∧m.length≤116∧Below w.heap.size w w'
theorem Cw {w:World} {vt vl:Value} {t l:List Rf} (h:gB w vt vl t l):∀r∈t++l,r.2.length=32:=fun r a=>(h.ok r a).2
theorem oK (vt vl:Value) (t l:List Rf) (w:World) (h:gB w vt vl t l):Calls prog 17 #[.agg #[vt,vl]] w (ER t l w):=by
 obtain ⟨n,i,bh,_,_⟩:=h.tab.open
 obtain ⟨g,j,be,_,_⟩:=h.log.open
 subst bh be
 obtain ⟨zr,bn,a5⟩:=iB
 obtain ⟨aE,bi⟩:=dQ
 obtain ⟨W,hW⟩:∃W,w.alloc (.cells #[.slice n t.length i,.slice g l.length j] 51)=W:=⟨_,rfl⟩
 have ax:Hid (Below w.heap.size w W):=ah (by rw [←hW];exact bal)
 have ai:ak W w.heap.size 51 [.slice n t.length i,.slice g l.length j]:=by rw [←hW];exact ak.new w 51 [.slice n t.length i,.slice g l.length j]
 have a0:=ah (dH (.slice n t.length i) (.slice g l.length j) t l W (h.below ax.out))
 unfold PS at a0
 have HH:=ah h
 have v:=ah (Cw h)
 have HX:=ah ai
 have HW:=ah hW
 have h2:(prog.info? 51).map (·.size)=some ([.slice n t.length i,.slice g l.length j]:List Value).length:=bN
 have Y:=ai.range
 clear h ai hW
 go_enter func17,ntmps17
 go_upto_region 1 with fail
 rw [HW.out]
 go_wp2_with (refine wpList_load_mid rfl 51 _ rfl w.heap.size 0 rfl [.slice n t.length i,.slice g l.length j] _ Y underlying51 rfl h2 ?_)
 refine a0.out.mono ?_
 rintro e w1 ⟨rfl,G⟩
 have Z:=bth ax G
 cases ag:aO t l with
 | false =>
  have q:Hid (ER t l w (.returned (.slice none 0 0)) w1):=ah ⟨_,[],rfl,⟨none,0,rfl,by simp,fun h=>absurd rfl h⟩,fun x=>by unfold sO;rw [ag];simp,by simp,fun k hk=>(by cases hk),by simp,Z.out⟩
  go_wp2_with fail
  go_ret
  exact q.out
 | true =>
  obtain ⟨p,a2,ba⟩:=fQ ag
  have a4:Hid (sO t l=kK (t++l)):=ah (by unfold sO;rw [if_pos ag])
  have c0:w1.cell? ⟨w.heap.size,0,none⟩=some (.slice n t.length i):=(HX.out.below G).range 0 _ rfl
  have c1:w1.cell? ⟨w.heap.size,1,none⟩=some (.slice g l.length j):=(HX.out.below G).range 1 _ rfl
  have am:Hid (t.length≤16∧l.length≤100):=ah ⟨a2,ba⟩
  clear G p a2 ba Y
  have s:=ah (HH.out.below Z.out)
  go_upto_region 4 with fail
  go_wp2_with fail
  have D:Below w1.heap.size w1 (w1.alloc (.cells #[.slice n t.length i,.slice g l.length j] 49)):=bal
  have H:ak (w1.alloc (.cells #[.slice n t.length i,.slice g l.length j] 49)) w1.heap.size 49 [.slice n t.length i,.slice g l.length j]:=ak.new w1 49 [.slice n t.length i,.slice g l.length j]
  generalize w1.alloc (.cells #[.slice n t.length i,.slice g l.length j] 49)=w3 at D H ⊢
  have bk:=bth Z D
  have aa:=ah (Ev w1.heap.size (.slice n t.length i) (.slice g l.length j) t l w3 (H.range 0 _ rfl) (H.range 1 _ rfl) (s.out.tab.below D) (s.out.log.below D) v.out (by have:=am.out;omega))
  have U:Hid ((t++l).length≤116):=ah (by have:=am.out;rw [List.length_append];omega)
  generalize t++l=R at aa v a4 U
  clear D H c0 c1 HH s HX
  refine aa.out.mono ?_
  rintro e w4 ⟨v4,rfl,ap,aq⟩
  have ac:=bth bk aq
  obtain ⟨rb,rc,rfl,_,I⟩:=(ap.rf v.out).1.open
  have bd:=ah I
  clear aq ap I aa
  go_wp2_with fail
  go_loopw [3,16] (fun s3 ab wr=> ∃k:Nat,k≤R.length∧ab= .int .i64 k∧Hid (bQ wr w4.heap.size 32 s3 (kK (R.take k)).length (dx (kK (R.take k))))∧Hid (Below w4.heap.size w4 wr)) (fun _ ab _=>(R.length-intOf ab).toNat)
  case atStart=>exact ⟨0,by omega,rfl,ah (iD _ _ _),ah (Below.refl _ _)⟩
  obtain ⟨T,rfl⟩:∃T:World,T=wr:=⟨_,rfl⟩
  obtain ⟨k,hk,rfl,HQ,HB⟩:=hrel
  have B:Hid ((kK (R.take k)).length≤116):=ah (by have h1:=LV (R.take k);have h2:=U.out;rw [List.length_take] at h1;omega)
  have C:Hid (∀x∈kK (R.take k),x.length=32):=ah (Oq fun r hr=>v.out r (List.mem_of_mem_take hr))
  by_cases y:k<R.length
  ·obtain ⟨b2,off,rfl,a3,A⟩:=bd.out (by intro e;rw [e] at y;simp at y)
   have f1:=ay (A k y) HB.out a3
   have hid:=v.out R[k] (List.getElem_mem y)
   have af:Hid (R.take (k+1)=R.take k++[R[k]]):=ah (List.take_succ_eq_append_getElem y)
   clear A
   generalize R[k]=d at f1 hid af
   have L:(prog.info? 93).map (·.size)=some (rfC d).length:=by rw [d9 hid];exact gT
   have a9:=ah (jG d)
   have ar:Hid ((rfC d).length=33):=ah (d9 hid)
   have N:=ah (fun (V:World) b o (h:V.rangeAt b o (rfC d))=>Pq h)
   have k0:(0:Int)≤k:=by omega
   have k1:(k:Int)<R.length:=by omega
   have bp:=U.out
   have d1:decide ((k:Int)<R.length)=true:=decide_eq_true k1
   have bf:=ah hid
   have f:=dZ (us:=idC d.2) (by rw [av,hid])
   have a7:=fun w=>gM d.2 zid hid aV w
   obtain ⟨cf,Q⟩:∃z,rfC d=z:=⟨_,rfl⟩
   obtain ⟨ci,E⟩:∃z,idC d.2=z:=⟨_,rfl⟩
   obtain ⟨cz,O⟩:∃z,idC zid=z:=⟨_,rfl⟩
   have bc:=ah E
   have ad:Hid ((d.2==zid)=decide (d.2=zid)):=ah (by by_cases h:d.2=zid<;>simp [h])
   rw [Q] at f1 L a9 ar
   simp only [Q,E] at N
   rw [E] at f
   simp only [E,O] at a7
   rw [O] at bi aE
   clear hid Q E O
   generalize (d.2==zid)=bb at a7 ad
   go_upto_region 7 with (first|(refine wpList_load_mid rfl 93 _ rfl b2 (off+k*33) rfl cf _ f1 underlying93 rfl L ?_)|(refine aD rfl 93 _ _ rfl zr cf rfl rfl 33 ar.out a5 gT a9.out ?_;intro wn a1 p br))
   have Y:=N.out wn T.heap.size 0 a1.range
   rw [Nat.zero_add] at Y
   have a8:=bth HB p
   have ae:=ah (HQ.out.below p)
   have a6:Hid (w4.heap.size≤wn.heap.size):=ah (Nat.le_trans HB.out.size p.size)
   clear p a1 f1
   cases bb with
   | true =>
    have HE:Hid (kK (R.take (k+1))=kK (R.take k)):=ah (by rw [af.out,Aa,if_pos (of_decide_eq_true ad.out.symm),List.append_nil])
    go_wp2_with (refine wpList_load_mid rfl 42 _ rfl T.heap.size 1 rfl ci _ Y underlying42 rfl f ?_)
    go_roundw
    case rel=>exact ⟨k+1,by omega,by go_num,ah (by rw [HE.out];exact ae.out),a8⟩
    case measure=>simp [intOf];omega
   | false =>
    have HE:Hid (kK (R.take (k+1))=kK (R.take k)++[d.2]):=ah (by rw [af.out,Aa,if_neg (of_decide_eq_false ad.out.symm)])
    go_upto_region 8 with (refine wpList_load_mid rfl 42 _ rfl T.heap.size 1 rfl ci _ Y underlying42 rfl f ?_)
    go_wp2_with (first|(refine wpList_load_mid rfl 42 _ rfl T.heap.size 1 rfl ci _ Y underlying42 rfl f ?_)|(refine oH rfl rfl _ _ 27 rfl rfl rfl (by simp [Act.put]) d.2 bf.out (by rw [bc.out];rfl) w4.heap.size u3 (kK (R.take k)).length (kK (R.take k)) (fun _=>rfl) ae.out (by have:=B.out;omega) a6.out ?_;intro v' w' u g1 g2))
    have bj:Hid (bQ w' w4.heap.size 32 v' (kK (R.take (k+1))).length (dx (kK (R.take (k+1))))):=ah (by rw [HE.out,List.length_append];exact g1)
    have F:=ah (a8.out.trans (g2 w4.heap.size a6.out ae.out.qb))
    clear g1 g2
    go_wp2_with fail
    go_roundw
    case rel=>exact ⟨k+1,by omega,by go_num,bj,F⟩
    case measure=>simp [intOf];omega
  obtain rfl:k=R.length:=by omega
  have d1:decide ((R.length:Int)<R.length)=false:=decide_eq_false (by omega)
  have hq:=HQ.out
  rw [List.take_length] at hq B C
  have an:=ah hq
  have M:=ah (xZ 47 QX w4.heap.size u3 (kK R) T hq C.out (by have:=B.out;omega))
  obtain ⟨xo,xc,rfl⟩:=hq.iK
  clear hq HQ
  go_wp2_with fail
  refine M.out.mono ?_
  rintro e w5 ⟨rfl,m,hp,_,P,aw⟩
  have X:=hp.length_eq
  rw [←X] at P
  have J:∀x∈m,x.length=32:=fun x hx=>C.out x (hp.mem_iff.1 hx)
  have F:=ah (HB.out.grown aw HB.out.size an.out.qb)
  have K:=ah (Ew w4.heap.size _ m w5 P J (by have:=B.out;omega))
  have HP:=ah hp
  rw [X] at K
  clear hp P aw X M J
  go_wp2_with fail
  refine K.out.mono ?_
  rintro e w6 ⟨v6,m6,rfl,S,al,a,az,bm⟩
  have q:Hid (ER t l w (.returned v6) w6):=ah ⟨v6,m6,rfl,S.row a,fun x=>by rw [a4.out,al,HP.out.mem_iff],a,fun k hk=>Nat.le_trans ac.out.size (S.qb k hk),by have h1:=HP.out.length_eq;have h2:=B.out;omega,ac.out.trans ((F.out.grown az F.out.size an.out.qb).mono ac.out.size)⟩
  clear S al a az
  go_wp2_with fail
  go_ret
  exact q.out
section
variable {O:Nat → Prop} {N R M:Nat} {w:World} {q:Int} {L:LK} {sy:Nat → Bool} {B:Sb} {t l:List Rf} {n:Nat} {P:Nat → List Idl} {U:List Idl} {c:Nat} {F:List Ob}
theorem z8 (hm:SM O w B t l n P U c) (p:t.length≤1000) (u:l.length≤1000):Calls prog 18 #[.pointer (some ⟨B.sb,0,none⟩)] w (zl t l w):=by
 obtain ⟨W,r⟩:∃W,w.alloc (.cells #[.slice none 0 0,.slice none 0 0] 51)=W:=⟨_,rfl⟩
 have d:Below w.heap.size w W:=by rw [←r];exact bal
 have o:Hid (W.heap.size=w.heap.size+1):=ah (by rw [←r];simp)
 have H:Hid (ak W w.heap.size 51 [.slice none 0 0,.slice none 0 0]):=ah (by rw [←r];exact ak.new w 51 [.slice none 0 0,.slice none 0 0])
 have y:=ah (Bb W B.ob (.pointer (some ⟨B.g,0,none⟩)) B.vt B.vl t l n (hm.below d).bk.op p u)
 have J:W.cell? ⟨B.sb,0,none⟩=some (.pointer (some ⟨B.ob,0,none⟩)):=(hm.below d).cell rfl
 have f:=ah d
 have I:=ah r
 clear hm p u d r
 go_enter func18,ntmps18
 go_upto_region 1 with fail
 rw [I.out]
 go_wp2_with fail
 refine y.out.mono ?_
 rintro e w1 ⟨v1,v2,rfl,a,i⟩
 obtain ⟨a1,c1,rfl⟩:=open_row a.1.tab
 obtain ⟨a2,c2,rfl⟩:=open_row a.1.log
 obtain ⟨x,b⟩:∃z,w1.setCells w.heap.size 0 [.slice a1 t.length c1,.slice a2 l.length c2]=z:=⟨_,rfl⟩
 have s:Chg (fun j=>j=w.heap.size) w1 x:=by rw [←b];exact fO _ _ _
 have m:=H.out.below i
 have C:=m.there
 have E:x.rangeAt w.heap.size 0 [.slice a1 t.length c1,.slice a2 l.length c2]:=by rw [←b];exact (m.set (us:=[.slice a1 t.length c1,.slice a2 l.length c2]) rfl).range
 have q:Hid (zl t l w (.returned (.agg #[.slice a1 t.length c1,.slice a2 l.length c2])) x):=ah ⟨_,_,rfl,⟨a.1.chg s (fun _ k h e=>by have h1:=a.2.1 k h;have G:=o.out;omega) (fun _ k h e=>by have h1:=a.2.2 k h;have G:=o.out;omega),fun k h=>Nat.le_trans f.out.size (a.2.1 k h),fun k h=>Nat.le_trans f.out.size (a.2.2 k h)⟩,by
  rw [←b]
  exact below_setCells _ (Nat.le_refl _) _ _ _ (f.out.trans (i.mono f.out.size))⟩
 have D:(prog.info? 51).map (·.size)=some ([.slice a1 t.length c1,.slice a2 l.length c2]:List Value).length:=bN
 have A:=ah b
 clear b s m a i
 go_wp2_with (refine aj rfl 51 _ _ rfl w.heap.size 0 [.slice a1 t.length c1,.slice a2 l.length c2] rfl rfl 2 rfl C bN (by intro v F;simp at F;rcases F with rfl|rfl<;>rfl) ?_;rw [A.out])
 refine bK rfl w.heap.size 0 rfl [.slice a1 t.length c1,.slice a2 l.length c2] _ E underlying51 rfl D rfl ?_
 exact q.out
def UnA (O:Nat→Prop) (B:Sb) (t l:List Rf) (n:Nat) (P:Nat→List Idl) (U:List Idl) (c:Nat) (s:Int) (w:World) (e:Ending) (w':World):Prop :=
 if q8 s=true then e= .returned (.int .i64 0)∧SM O w' B t l n (upN P s.toNat []) U c∧w.grownBy w' (some (B.pn s.toNat)) else e= .returned (.int .i64 1)∧w'=w
theorem nD (hm:SM O w B t l n P U c) {i:Nat} (hi:i<4):w.cell? ⟨B.sb,3+i,none⟩=some (.map (some (B.pn i))):=hm.cell (by
 obtain rfl|rfl|rfl|rfl:i=0∨i=1∨i=2∨i=3:=by omega
 all_goals rfl)
theorem Fb (hm:SM O w B t l n P U c) (s:Int):Calls prog 24 #[.pointer (some ⟨B.sb,0,none⟩),.int .i64 s] w (UnA O B t l n P U c s w):=by
 have d:=ah (fun W=>qB (.pointer (some ⟨B.sb,0,none⟩)) s W)
 cases b:q8 s with
 | false =>
  rw [b] at d
  have a:Hid (UnA O B t l n P U c s w (.returned (.int .i64 1)) w):=ah (by unfold UnA;rw [b];exact ⟨rfl,rfl⟩)
  clear hm b
  go_enter func24,ntmps24
  go_wp2_with fail
  refine (d.out w).mono ?_
  rintro e w1 ⟨rfl,rfl⟩
  go_wp2_with fail
  go_ret
  exact a.out
 | true =>
  rw [b] at d
  have k:=of_decide_eq_true b
  obtain ⟨i,rfl⟩:∃i:Nat,s=(i:Int):=⟨s.toNat,by omega⟩
  have hi:i<4:=by omega
  have j:=nD hm hi
  have g:Hid (∀w',bW w' (B.pn i) 0 []→w.grownBy w' (some (B.pn i))→UnA O B t l n P U c (i:Int) w (.returned (.int .i64 0)) w'):=ah fun w' h1 h=>by
   unfold UnA
   rw [b]
   exact ⟨rfl,hm.Fw hi (Nat.le_refl _) (dO h) (h1.mono (Nat.zero_le _)),h⟩
  have f:=ah (hm.pin i hi)
  have o:(0:Int)≤(i:Int):=by omega
  have k1:(i:Int)<4:=by omega
  clear hm b k
  go_enter func24,ntmps24
  go_wp2_with fail
  refine (d.out w).mono ?_
  rintro e w1 ⟨rfl,rfl⟩
  go_wp2_with (refine mV (enc:=vB) rfl _ 70 4 rfl underlying70 (B.pn i) c (gZ (P i)) rfl f.out.1 ?_;intro m g1 g2)
  have a:=ah (g.out m g1 g2)
  clear g1 g2 j
  go_wp2_with fail
  go_ret
  exact a.out
def mM (P:Nat→List Idl) (s:Int):List Idl:=if q8 s=true then P s.toNat else []
theorem Bu (hm:SM O w B t l n P U c) (s:Int) (d:∀i,i<4→(P i).length≤100000):Calls prog 14 #[.pointer (some ⟨B.sb,0,none⟩),.int .i64 s] w (mJ (mM P s) w):=by
 cases a:q8 s with
 | true =>
  have g:=of_decide_eq_true a
  obtain ⟨i,rfl⟩:∃i:Nat,s=(i:Int):=⟨s.toNat,by omega⟩
  have hi:i<4:=by omega
  have e:mM P (i:Int)=P i:=by unfold mM;rw [if_pos a];rfl
  rw [e]
  exact tX hm i hi (d i hi)
 | false =>
  have b:=ah (fun W=>qB (.pointer (some ⟨B.sb,0,none⟩)) s W)
  rw [a] at b
  have e:mM P s=[]:=by unfold mM;rw [a];rfl
  rw [e]
  clear hm a e
  go_enter func14,ntmps14
  go_wp2_with fail
  refine (b.out w).mono ?_
  rintro e w1 ⟨rfl,rfl⟩
  go_wp2_with fail
  go_ret
  exact ⟨_,[],rfl,⟨none,0,rfl,by simp,fun h=>absurd rfl h⟩,fun _=>Iff.rfl,rfl,fun k f=>(by cases f),Below.refl _ _⟩
end
section
variable {O:Nat → Prop} {N R M:Nat} {w:World} {q:Int} {L:LK} {sy:Nat → Bool} {B:Sb} {t l:List Rf} {n:Nat} {P:Nat → List Idl} {U:List Idl} {c:Nat} {F:List Ob}
def Rk (P:Nat→List Idl) (t l:List Rf) (x:Idl):Prop:=x∈sO t l∨ ∃i,i<4∧x∈P i
def Iu (P:Nat→List Idl) (t l:List Rf) (w:World) (e:Ending) (w':World):Prop:=∃v m,e= .returned v∧dF w' v m∧(∀x,x∈m↔Rk P t l x)∧(∀x∈m,x.length=32)∧Below w.heap.size w w'
def AlS (a:Nat) (k c:Nat) (P:Nat→List Idl) (t l:List Rf) (w0 w:World):Prop:=∃S n,bW w a n S∧n≤116+k*c∧S.length≤116+k*c∧(∀x,x∈S↔(x∈sO t l∨ ∃i,i<k∧x∈P i))∧Below a w0 w
theorem AlS.next {a k c:Nat} {P:Nat→List Idl} {t l:List Rf} {w0 w:World} {B:Sb} {O:Nat→Prop} {n:Nat} {U:List Idl} (h:AlS a k c P t l w0 w) (d:w0.heap.size=a) (hm:SM O w0 B t l n P U c) (f:k<4) (v:(P k).length≤c) (g:c≤1000) :
  Calls prog 43 #[.map (some a),.map (some (B.pn k))] w fun e w'=>e= .returned (.tuple #[])∧AlS a (k+1) c P t l w0 w':=by
 obtain ⟨S,n',p,u,C,hx,hb⟩:=h
 have m:=(hm.pin k f).lt
 have b:bW w (B.pn k) c (P k):=(hm.pin k f).heap (hb.block _ (by omega))
 have A:k*c≤4*1000:=Nat.mul_le_mul (by omega) g
 refine (J8 a (B.pn k) n' c S (P k) w (by omega) p b (by omega) (by omega)).mono ?_
 rintro e w' ⟨rfl,o,h1,q,y,r⟩
 have z:(k+1)*c=k*c+c:=Nat.succ_mul k c
 refine ⟨rfl,o,n'+(P k).length,h1,by omega,by omega,fun x=> ?_,hb.grown r (by rw [←d];exact hb.size) (fun j s=>by cases s;exact Nat.le_refl _)⟩
 rw [q,hx]
 constructor
 ·rintro ((h|⟨i,hi,h⟩)|h)
  ·exact .inl h
  ·exact .inr ⟨i,by omega,h⟩
  exact .inr ⟨k,by omega,h⟩
 rintro (h|⟨i,hi,h⟩)
 ·exact .inl (.inl h)
 by_cases e:i=k
 ·subst e;exact .inr h
 exact .inl (.inr ⟨i,by omega,h⟩)
theorem Fh (hm:SM O w B t l n P U c) (a6:aO t l=true) (hp:∀i,i<4→(P i).length≤c) (hc:c≤1000):Calls prog 16 #[.pointer (some ⟨B.sb,0,none⟩)] w (Iu P t l w):=by
 obtain ⟨zi,b3,bp⟩:=oP
 have bz:=@run_makeMap prog
 obtain ⟨_,bo,bx⟩:=fQ a6
 obtain ⟨W,hW⟩:∃W,w.alloc (.map #[] 0)=W:=⟨_,rfl⟩
 have an:Below w.heap.size w W:=by rw [←hW];exact bal
 have a5:bW W w.heap.size 0 []:=by rw [←hW];exact iY w
 have ae:=ah an
 have af:=ah a5
 have HM:=ah hm
 have C:=ah (fun V (hb:Below w.heap.size w V)=>z8 (hm.below hb) (by omega) (by omega))
 have r:Hid (∀k V,k<4→AlS w.heap.size k c P t l w V→Calls prog 43 #[.map (some w.heap.size),.map (some (B.pn k))] V fun e w'=>e= .returned (.tuple #[])∧AlS w.heap.size (k+1) c P t l w w'):=ah fun k V hk h=>h.next rfl hm hk (hp k hk) hc
 have br:Hid (∀V,Below w.heap.size w V→V.rangeAt B.sb 3 [.map (some (B.pn 0)),.map (some (B.pn 1)),.map (some (B.pn 2)),.map (some (B.pn 3))]):=ah fun V hb j u hu=>by
  match j,hu with
  | 0,hu=>cases hu;exact nD (hm.below hb) (i:=0) (by omega)
  | 1,hu=>cases hu;exact nD (hm.below hb) (i:=1) (by omega)
  | 2,hu=>cases hu;exact nD (hm.below hb) (i:=2) (by omega)
  | 3,hu=>cases hu;exact nD (hm.below hb) (i:=3) (by omega)
  | j+4,hu=>simp at hu
 have HW:=ah hW
 have y:=ah cZ
 have bu:=ah hc
 have b1:Hid (B.sb<w.heap.size):=ah hm.lt
 unfold zl at C
 clear hm a6 hp hc bo bx a5 an hW
 go_enter func16,ntmps16
 go_upto_region 4 with fail
 rw [HW.out]
 go_wp2_with fail
 refine (C.out W ae.out).mono ?_
 rintro e w1 ⟨v1,v2,rfl,aw,I⟩
 have ar:=bth ae I
 have p:=ah (af.out.on I)
 have F:=ah (oK v1 v2 t l w1 aw.1)
 unfold ER at F
 clear aw I C
 go_wp2_with fail
 refine F.out.mono ?_
 rintro e w2 ⟨v3,m,rfl,hr,a2,A,ag,aq,L⟩
 have bd:=bth ar L
 have a0:=ah (p.out.on L)
 have bk:Hid (∀k,v3.ownBlock=some k→w.heap.size<k):=ah fun k hk=>by have h1:=ag k hk;have h2:=p.out.lt;omega
 have a7:=ah a2
 have Y:=ah A
 have ad:=ah aq
 obtain ⟨va,vc,rfl,_,s⟩:=hr.open
 have ba:=ah s
 clear hr a2 A ag aq L s F af p ar
 go_wp2_with fail
 go_loopw [15] (fun D wr=> ∃(k:Nat) (S:List Idl),k≤m.length∧S.length≤k∧D= .int .i64 k∧Hid (bW wr w.heap.size k S)∧Hid (∀x,x∈S↔x∈m.take k)∧Hid (Below w.heap.size w wr)∧Hid (Chg (fun b=>b=w.heap.size) w2 wr)) (fun D _=>(m.length-intOf D).toNat)
 case atStart=>exact ⟨0,[],by omega,by simp,rfl,a0,ah (by simp),bd,ah (Chg.refl _ _)⟩
 obtain ⟨N,rfl⟩:∃N:World,N=wr:=⟨_,rfl⟩
 obtain ⟨k,S,hk,b7,rfl,HS,E,HB,HC⟩:=hrel
 have b0:=ad.out
 by_cases d:k<m.length
 ·obtain ⟨b2,off,rfl,ax,f⟩:=ba.out (by intro e;rw [e] at d;simp at d)
  have f1:=f k d
  have hid:=Y.out m[k] (List.getElem_mem d)
  have ao:¬b2=w.heap.size:=by have h1:=bk.out b2 rfl;omega
  have f2:=Ai f1 HC.out ax ao
  have a4:Hid (m.take (k+1)=m.take k++[m[k]]):=ah (List.take_succ_eq_append_getElem d)
  clear f f1 ao
  generalize m[k]=q at f2 hid a4
  have g:(prog.info? 42).map (·.size)=some (idC q).length:=by rw [av,hid];exact y.out
  have a3:=ah (aJ q)
  have k0:(0:Int)≤k:=by omega
  have k1:(k:Int)<m.length:=by omega
  have d1:decide ((k:Int)<m.length)=true:=decide_eq_true k1
  have ac:Hid ((idC q).length=32):=ah (by rw [av,hid])
  have aa:=ah hid
  obtain ⟨ci,M⟩:∃z,idC q=z:=⟨_,rfl⟩
  have a8:=ah M
  rw [M] at f2 g a3 ac
  clear hid M
  go_upto_region 7 with (first|(refine wpList_load_mid rfl 42 _ rfl b2 (off+k*32) rfl ci _ f2 underlying42 rfl g ?_)|(refine aD rfl 42 _ _ rfl zi ci rfl rfl 32 ac.out bp y.out a3.out ?_;intro wn al H b6))
  have J:=ah H
  have aE:=ah (HS.out.on H)
  have e0:=al.range
  clear H al f2
  go_wp2_with (first|(refine wpList_load_mid rfl 42 _ rfl N.heap.size 0 rfl ci _ e0 underlying42 rfl g ?_)|(refine bZ (enc:=vB) rfl _ _ _ 70 4 rfl underlying70 w.heap.size k (gZ S) rfl aE.out.1 q aa.out true (by rw [a8.out];rfl) rfl (by have:=ad.out;unfold maxLen;omega) ?_;intro w5 g1 g2))
  have bi:=ah (aE.out.add aa.out g1)
  have bj:=ah ((HB.out.trans (J.out.mono HB.out.size)).grown g2 (by have h1:=J.out.size;have h2:=HB.out.size;omega) (fun j hj=>by cases hj;exact Nat.le_refl _))
  have a9:Hid (Chg (fun b=>b=w.heap.size) w2 w5):=ah (HC.out.trans ((Chg.of_below J.out).trans ⟨g2.os,g2.tape,g2.output,g2.size,fun j hj hn=>g2.block j hj (fun e=>hn (Option.some.inj e))⟩))
  have T:Hid (∀x,x∈gJ S q↔x∈m.take (k+1)):=ah fun x=>by
   rw [a4.out,List.mem_append,List.mem_singleton,dU,E.out]
   exact Or.comm
  have bv:(gJ S q).length≤k+1:=Nat.le_trans (rQ S q) (by omega)
  clear g1 g2 e0
  go_wp2_with fail
  go_roundw
  case rel=>exact ⟨k+1,gJ S q,by omega,bv,by go_num,bi,T,bj,a9⟩
  case measure=>simp [intOf];omega
 obtain rfl:k=m.length:=by omega
 have d1:decide ((m.length:Int)<m.length)=false:=decide_eq_false (by omega)
 have bs:Hid (AlS w.heap.size 0 c P t l w N):=ah ⟨S,m.length,HS.out,by omega,by omega,fun x=>by
  rw [E.out,List.take_length,a7.out]
  constructor
  ·intro h;exact .inl h
  rintro (h|⟨i,hi,_⟩)
  ·exact h
  omega,HB.out⟩
 have Q:=br.out N HB.out
 clear HS E HC
 have h4:(prog.info? 72).map (·.size)=some ([.map (some (B.pn 0)),.map (some (B.pn 1)),.map (some (B.pn 2)),.map (some (B.pn 3))]:List Value).length:=by kernel_rfl
 go_wp2_with (refine wpList_load_mid rfl 72 _ rfl B.sb 3 rfl [.map (some (B.pn 0)),.map (some (B.pn 1)),.map (some (B.pn 2)),.map (some (B.pn 3))] _ Q underlying72 rfl h4 ?_)
 clear Q
 have o:=fun (i:Nat) (hi:i<4) v hv W=>jN 72 70 4 underlying72 (fun _=>by kernel_rfl) (fun _=>by kernel_rfl) [.map (some (B.pn 0)),.map (some (B.pn 1)),.map (some (B.pn 2)),.map (some (B.pn 3))] W i hi v hv
 have b8:∀W,(Instr.index 72 (.agg #[.map (some (B.pn 0)),.map (some (B.pn 1)),.map (some (B.pn 2)),.map (some (B.pn 3))]) (.int .i64 0)).run prog W= .ok (.map (some (B.pn 0))) W:=o 0 (by omega) _ rfl
 have b9:∀W,(Instr.index 72 (.agg #[.map (some (B.pn 0)),.map (some (B.pn 1)),.map (some (B.pn 2)),.map (some (B.pn 3))]) (.int .i64 1)).run prog W= .ok (.map (some (B.pn 1))) W:=o 1 (by omega) _ rfl
 have b5:∀W,(Instr.index 72 (.agg #[.map (some (B.pn 0)),.map (some (B.pn 1)),.map (some (B.pn 2)),.map (some (B.pn 3))]) (.int .i64 2)).run prog W= .ok (.map (some (B.pn 2))) W:=o 2 (by omega) _ rfl
 have b4:∀W,(Instr.index 72 (.agg #[.map (some (B.pn 0)),.map (some (B.pn 1)),.map (some (B.pn 2)),.map (some (B.pn 3))]) (.int .i64 3)).run prog W= .ok (.map (some (B.pn 3))) W:=o 3 (by omega) _ rfl
 clear o
 refine wp_loop_rounds 5 ?_
 rw [rounds_succ]
 go_wp2_with fail
 refine (r.out 0 N (by omega) bs.out).mono ?_
 rintro e x1 ⟨rfl,ap⟩
 have bc:=ah ap
 clear ap
 go_wp2_with fail
 rw [rounds_succ]
 go_wp2_with fail
 refine (r.out 1 x1 (by omega) bc.out).mono ?_
 rintro e x2 ⟨rfl,am⟩
 have bm:=ah am
 clear am
 go_wp2_with fail
 rw [rounds_succ]
 go_wp2_with fail
 refine (r.out 2 x2 (by omega) bm.out).mono ?_
 rintro e x3 ⟨rfl,X⟩
 have bt:=ah X
 clear X
 go_wp2_with fail
 rw [rounds_succ]
 go_wp2_with fail
 refine (r.out 3 x3 (by omega) bt.out).mono ?_
 rintro e x4 ⟨rfl,bn⟩
 obtain ⟨S4,n4,K,bf,bb,ab,Z⟩:=bn
 have bh:=ah (kC w.heap.size n4 S4 x4 K (by have:=bu.out;omega))
 have be:=ah ab
 have az:=ah Z
 have G:=ah K.2.2
 clear K bf bb ab Z
 go_wp2_with fail
 rw [rounds_succ]
 go_wp2_with fail
 refine bh.out.mono ?_
 rintro e x5 ⟨v5,m5,rfl,ai,a,_,_,a1⟩
 have R:Hid (Iu P t l w (.returned v5) x5):=ah ⟨v5,m5,rfl,ai,fun x=>by rw [a,be.out];rfl,fun x hx=>G.out x ((a x).1 hx),az.out.trans (a1.mono az.out.size)⟩
 clear ai a a1
 go_wp2_with fail
 go_ret
 exact R.out
end
def PSt (K:Nat→Prop) (sb i:Nat) (P:Nat→List Idl) (t l:List Rf) (w:World):Prop :=
 ∃O N R L sy B n U c F,N≤i+1∧R≤2*i+4∧c≤3*i∧(∀k,(P k).length≤i)∧U.length≤i∧B.sb=sb∧DV O N R 8400 w B.g 1000000 L sy∧SM O w B t l n P U c∧SL L sy t l F U c∧(∀j,K j→O j∧j∉B.bl)∧ ∀j∈B.bl,5≤j
section
variable {K:Nat → Prop} {sb i:Nat} {P:Nat → List Idl} {t l:List Rf} {w w':World}
theorem PSt.new (h:PSt K sb i P t l w) (hb:Below w.heap.size w w'):PSt (Ou K w w') sb i P t l w':=by
 obtain ⟨O,N,R,L,sy,B,n,U,c,F,h1,g,r,m,p,k,e,hm,q,d,o⟩:=h
 refine ⟨Ou O w w',N,R,L,sy,B,n,U,c,F,h1,g,r,m,p,k,e.on hb,(hm.below hb).sub fun b hb=> .inl hb,q,fun j a=> ?_,o⟩
 rcases a with a|a
 ·exact ⟨.inl (d j a).1,(d j a).2⟩
 exact ⟨.inr a,fun f=>by have:=e.olt j (hm.own j f);omega⟩
theorem PSt.below (h:PSt K sb i P t l w) (hb:Below w.heap.size w w'):PSt K sb i P t l w':=by
 obtain ⟨O,N,R,L,sy,B,n,U,c,F,h1,b,m,e,g,d,j,hm,k,a,f⟩:=h
 exact ⟨O,N,R,L,sy,B,n,U,c,F,h1,b,m,e,g,d,j.below hb,hm.below hb,k,a,f⟩
theorem PSt.sub {a:Nat→Prop} (h:PSt K sb i P t l w) (e:∀j,a j→K j):PSt a sb i P t l w:=by
 obtain ⟨O,N,R,L,sy,B,n,U,c,F,h1,d,r,g,m,f,o,hm,q,b,k⟩:=h
 exact ⟨O,N,R,L,sy,B,n,U,c,F,h1,d,r,g,m,f,o,hm,q,fun j p=>b j (e j p),k⟩
theorem PSt.more {a:Nat} (h:PSt K sb i P t l w) (hi:i≤a):PSt K sb a P t l w:=by
 obtain ⟨O,N,R,L,sy,B,n,U,c,F,h1,m,p,e,o,d,g,hm,j,b,f⟩:=h
 exact ⟨O,N,R,L,sy,B,n,U,c,F,by omega,by omega,by omega,fun k=>Nat.le_trans (e k) hi,by omega,d,g,hm,j,b,f⟩
theorem PSt.ok (h:PSt K sb i P t l w):aO t l=true:=by
 obtain ⟨O,N,R,L,sy,B,n,U,c,F,h1,d,m,f,j,e,k,hm,a,b,g⟩:=h
 exact a.ok
theorem FX {N:Nat} (h:N≤30):(N+1)*8400≤31*8400:=Nat.mul_le_mul_right _ (by omega)
theorem PSt.put (h:PSt K sb i P t l w) (J:eP w) (hi:i≤29) (s k:Int) (b:ByteArray) :
  Calls prog 19 #[.pointer (some ⟨sb,0,none⟩),.int .i64 s,.agg #[.int .i64 k,.string b]] w fun e w' =>
   ∃(x:List UInt8) (a:Int) (P':Nat→List Idl),x.length=32∧e= .returned (.tuple #[.agg (idC x).toArray,.int .i64 a])∧PSt K sb (i+1) P' t l w'∧(a=0→idZ ⟨k,b⟩∈mM P' s)∧Chg (fun j=> ¬K j) w w':=by
 obtain ⟨O,N,R,L,sy,B,n,U,c,F,h1,G,H,q,I,rfl,C,hm,A,m,y⟩:=h
 have E:=FX (N:=N) (by omega)
 refine (Da C J hm A (by omega) (by omega) s k b (fun z=>by have:=Dn z;omega) (by omega) (by omega) (by omega) (by omega)).mono ?_
 intro e w' g
 unfold qd at g
 split at g
 ·next hh =>
  rw [Bool.and_eq_true] at hh
  obtain ⟨rfl,N',R',L',sy',D,U',M,z,v,r,p,o,u⟩:=g
  refine ⟨_,0,_,fC _,rfl,⟨O,N',R',L',sy',B,n,U',c+3,D,by omega,by omega,by omega,fun k'=> ?_,?_,rfl,v,r,p,m,y⟩,fun _=> ?_,u.mono fun j _ d f=> ?_⟩
  ·by_cases e:k'=s.toNat
   ·subst e;rw [aI];exact Nat.le_trans (rQ _ _) (by have:=q s.toNat;omega)
   rw [aF e];exact Nat.le_trans (q k') (by omega)
  ·rcases o with ⟨_,h,_⟩|⟨_,h,_⟩
   ·rw [h];omega
   rw [h];exact Nat.le_trans (rQ _ _) (by omega)
  ·unfold mM idZ
   rw [if_pos hh.1,if_pos hh.2,aI,dU]
   exact .inl rfl
  rcases d with d|d
  ·exact d (m j f).1
  exact (m j f).2 d
 obtain ⟨rfl,hb⟩:=g
 exact ⟨_,1,P,aV,rfl,(PSt.below ⟨O,N,R,L,sy,B,n,U,c,F,h1,G,H,q,I,rfl,C,hm,A,m,y⟩ hb).more (by omega),fun h=>absurd h (by decide),Chg.of_below hb⟩
theorem PSt.upd (h:PSt K sb i P t l w) (T:eP w) (hi:i≤29) (r:Rf) (old:Idl) (J:r.1.size≤1000) (u:r.2.length=32) (v:old.length=32) :
  Calls prog 25 #[.pointer (some ⟨sb,0,none⟩),.string r.1,.agg (idC old).toArray,.agg (idC r.2).toArray] w fun e w' =>
   ∃(a:Int) (y:List Rf),e= .returned (.int .i64 a)∧PSt K sb (i+1) P t y w'∧Chg (fun j=> ¬K j) w w':=by
 obtain ⟨O,N,R,L,sy,B,n,U,c,F,h1,V,W,E,X,rfl,Q,hm,z,g,A⟩:=h
 have D:=FX (N:=N) (by omega)
 have G:N*8400≤(N+1)*8400:=Nat.mul_le_mul_right _ (by omega)
 have H:=yU z.ok (Cw hm.bk.op.row)
 have C:=z.lc
 refine (tV Q T A hm z (by omega) (by omega) (by omega) (by omega) (by omega) (by omega) (by omega) r old J u v).mono ?_
 rintro e w' ⟨a,y,U',L',sy',rfl,⟨O',I,x,s,o,q,Y,d,_,p,S,M⟩,m,_⟩
 refine ⟨a,y,rfl,⟨O',N,R,L',sy',I,n,U',c+1,F,by omega,by omega,by omega,fun k=>Nat.le_trans (E k) (by omega),?_,q,x,s.more (by omega),o,fun j b=>⟨p j (g j b).1,by rw [d];exact (g j b).2⟩,fun j b=>A j (d▸b)⟩,M.mono fun j _ b f=> ?_⟩
 ·rcases m with ⟨_,_,h,_⟩|⟨_,_,h⟩
  ·rw [h];simp
  rcases h with ⟨h,_⟩|⟨h,_⟩
  ·rw [h];omega
  rw [h];simp
 rcases b with b|b
 ·exact b (g j f).1
 exact (g j f).2 b
theorem PSt.syn (h:PSt K sb i P t l w) (hi:i≤29) :
  Calls prog 28 #[.pointer (some ⟨sb,0,none⟩)] w fun e w'=> ∃a:Int,e= .returned (.int .i64 a)∧PSt K sb (i+1) P t l w'∧Chg (fun j=> ¬K j) w w':=by
 obtain ⟨O,N,R,L,sy,B,n,U,c,F,h1,v,y,q,x,rfl,s,hm,u,o,r⟩:=h
 refine (zV s hm u (by omega) (by omega)).mono ?_
 rintro e w' ⟨rfl,L',g,m,f,_,_,p⟩
 refine ⟨0,rfl,⟨O,N,R,L',_,B,l.length,[],c,F,by omega,by omega,by omega,fun k=>Nat.le_trans (q k) (by omega),by simp,rfl,g,m,f,o,r⟩,p.mono fun j _ b d=> ?_⟩
 rcases b with b|b
 ·exact b (o j d).1
 exact (o j d).2 b
theorem PSt.trm (h:PSt K sb i P t l w) (H:eP w) (hi:i≤29) (m:Int) :
  Calls prog 30 #[.pointer (some ⟨sb,0,none⟩),.int .i64 m] w fun e w'=> ∃(b:Int) (v o:List Rf),e= .returned (.int .i64 b)∧PSt K sb (i+1) P v o w'∧Chg (fun j=> ¬K j) w w':=by
 obtain ⟨O,N,R,L,sy,B,n,U,c,F,h1,I,J,z,M,rfl,E,hm,C,g,x⟩:=h
 have y:=FX (N:=N) (by omega)
 refine (I6 E H hm C (by omega) (by omega) (by omega) (by omega) (by omega) m).mono ?_
 rintro e w' ⟨rfl,O',A,v,o,L',sy',u,s,p,r,Q,d,q,G,D⟩
 refine ⟨0,v,o,rfl,⟨O',N+1,R+2,L',sy',A,o.length,U,c,F,by omega,by omega,by omega,fun k=>Nat.le_trans (z k) (by omega),by omega,r,u,s,p,fun j a=>⟨q j (g j a).1,by rw [d];exact (g j a).2⟩,fun j a=>x j (d▸a)⟩,D.mono fun j _ a f=> ?_⟩
 rcases a with a|a
 ·exact a (g j f).1
 exact (g j f).2 a
theorem PSt.unp (h:PSt K sb i P t l w) (s:Int) :
  Calls prog 24 #[.pointer (some ⟨sb,0,none⟩),.int .i64 s] w fun e w'=> ∃(a:Int) (P':Nat→List Idl),e= .returned (.int .i64 a)∧PSt K sb (i+1) P' t l w'∧(a=0→mM P' s=[])∧Chg (fun j=> ¬K j) w w':=by
 obtain ⟨O,N,R,L,sy,B,n,U,c,F,h1,x,A,q,y,rfl,v,hm,u,o,r⟩:=h
 refine (Fb hm s).mono ?_
 intro e w' d
 unfold UnA at d
 split at d
 ·next hh =>
  obtain ⟨rfl,m,z⟩:=d
  have g:s.toNat<4:=by have:=of_decide_eq_true hh;omega
  have b:B.pn s.toNat∈B.bl:=List.mem_append.2 (.inr (vI g):B.pn s.toNat∈[B.sb,B.ob,B.hb,B.mp]∨_)
  have p:=dO z
  refine ⟨0,_,rfl,⟨O,N,R,L,sy,B,n,U,c,F,by omega,by omega,by omega,fun k'=> ?_,by omega,rfl,v.chg p (fun j f=>by rw [f];exact hm.own _ b),m,u,o,r⟩,fun _=> ?_,p.mono fun j _ f k=>(o j k).2 (by rw [f];exact b)⟩
  ·by_cases e:k'=s.toNat
   ·subst e;rw [aI];simp
   rw [aF e];exact Nat.le_trans (q k') (by omega)
  unfold mM
  rw [if_pos hh,aI]
 obtain ⟨rfl,rfl⟩:=d
 exact ⟨1,P,rfl,PSt.more (i:=i) ⟨O,N,R,L,sy,B,n,U,c,F,h1,x,A,q,y,rfl,v,hm,u,o,r⟩ (by omega),fun h=>absurd h (by decide),Chg.refl _ _⟩
theorem PSt.val (h:PSt K sb i P t l w) (x:ByteArray) (hx:x.size≤maxLen):Calls prog 26 #[.pointer (some ⟨sb,0,none⟩),.string x] w (dL (fZ t l x) w)∧(fZ t l x).length=32:=by
 obtain ⟨O,N,R,L,sy,B,n,U,c,F,h1,f,o,g,k,rfl,m,hm,d,e,j⟩:=h
 obtain ⟨_,b,a⟩:=fQ d.ok
 exact ⟨pq hm (by omega) (by omega) x hx,mX (Cw hm.bk.op.row)⟩
theorem PSt.pin (h:PSt K sb i P t l w) (hi:i≤30) (s:Int):Calls prog 14 #[.pointer (some ⟨sb,0,none⟩),.int .i64 s] w (mJ (mM P s) w)∧ ∀x∈mM P s,x.length=32:=by
 obtain ⟨O,N,R,L,sy,B,n,U,c,F,h1,e,o,b,g,rfl,j,hm,m,d,f⟩:=h
 refine ⟨Bu hm s (fun k _=>by have:=b k;omega),fun x hx=> ?_⟩
 unfold mM at hx
 split at hx
 ·next hh =>
  have a:s.toNat<4:=by have:=of_decide_eq_true hh;omega
  exact (hm.pin s.toNat a).2.2 x hx
 cases hx
theorem PSt.rts (h:PSt K sb i P t l w) (hi:i≤30):Calls prog 16 #[.pointer (some ⟨sb,0,none⟩)] w (Iu P t l w):=by
 obtain ⟨O,N,R,L,sy,B,n,U,c,F,h1,e,m,a,g,rfl,j,hm,b,d,f⟩:=h
 exact Fh (hm.more (c':=90) (by omega)) b.ok (fun k _=>by have:=a k;omega) (by omega)
theorem PSt.bok (h:PSt K sb i P t l w):Calls prog 18 #[.pointer (some ⟨sb,0,none⟩)] w (zl t l w):=by
 obtain ⟨O,N,R,L,sy,B,n,U,c,F,h1,f,o,g,k,rfl,m,hm,d,e,j⟩:=h
 obtain ⟨_,b,a⟩:=fQ d.ok
 exact z8 hm (by omega) (by omega)
end
def DoA (K:Nat→Prop) (sb i:Nat) (a:Ac) (w:World) (e:Ending) (w':World):Prop :=
 ∃(b:Int) (P':Nat→List Idl) (d f:List Rf),e= .returned (.int .i64 b)∧PSt K sb (i+1) P' d f w'∧(b=0→Int.tmod a.k 10=0→idZ ⟨a.ok,a.ob⟩∈mM P' a.s)∧(b=0→Int.tmod a.k 10=5→mM P' a.s=[])∧Chg (fun j=> ¬K j) w w'
theorem DoA.from {K:Nat→Prop} {sb i:Nat} {a:Ac} {w W w':World} {b:Int} {P':Nat→List Idl} {e d:List Rf} (hb:Below w.heap.size w W) (h:PSt (Ou K w W) sb (i+1) P' e d w') (n:b=0→Int.tmod a.k 10=0→idZ ⟨a.ok,a.ob⟩∈mM P' a.s) (l:b=0→Int.tmod a.k 10=5→mM P' a.s=[]) (f:Chg (fun j=> ¬Ou K w W j) W w'):DoA K sb i a w (.returned (.int .i64 b)) w' :=
 ⟨b,P',e,d,rfl,h.sub fun _ m=> .inl m,n,l,(Chg.of_below hb).trans (f.mono fun _ _ g o=>g (.inl o))⟩
theorem Nn {P:Program} {w:World} {a:Act} {oi:Oper} {t:TypeId} {v:Value} (b:oi.op= .build t #[]) (h:(Instr.build t #[]).run P w= .ok v w):(execOp a.eval oi).run P w= .ok (.value v) w:=by
 unfold execOp
 simp only [b,List.map_toArray,List.map_nil,Sem.run_bind,h,Result.andThen_ok]
 rfl
theorem Qs {K:Nat→Prop} {sb i:Nat} {P:Nat→List Idl} {t l:List Rf} {w:World} (a:Ac) (h:PSt K sb i P t l w) (hG:eP w) (hi:i≤29) (hg:grB a=false) :
  Calls prog 11 #[.pointer (some ⟨sb,0,none⟩),.agg (acL a).toArray] w (DoA K sb i a w):=by
 obtain ⟨zi,a6,a1⟩:=oP
 obtain ⟨am,an⟩:=dQ
 have al:a.nm.size≤100:=by
  unfold grB at hg
  simp only [Bool.or_eq_false_iff,decide_eq_false_iff_not] at hg
  omega
 obtain ⟨W,hW⟩:∃W,w.alloc (.cells (acL a).toArray 36)=W:=⟨_,rfl⟩
 have Z:Below w.heap.size w W:=by rw [←hW];exact bal
 have J:ak W w.heap.size 36 (acL a):=by rw [←hW];exact ak.new w 36 (acL a)
 have G:=ah Z
 have D:=ah J
 have m:=ah (h.new Z)
 have Y:=ah (hG.below Z)
 have HI:=ah hi
 have H:=ah al
 have c0:W.cell? ⟨w.heap.size,0,none⟩=some (.int .i64 a.k):=J.range 0 _ rfl
 have c1:W.cell? ⟨w.heap.size,1,none⟩=some (.int .i64 a.s):=J.range 1 _ rfl
 have c2:W.cell? ⟨w.heap.size,2,none⟩=some (.int .i64 a.n):=J.range 2 _ rfl
 have co:=EP J.range
 rw [Nat.zero_add] at co
 have h2:(prog.info? 33).map (·.size)=some ([.int .i64 a.ok,.string a.ob]:List Value).length:=by kernel_rfl
 obtain ⟨ca,U⟩:∃z,acL a=z:=⟨_,rfl⟩
 rw [U] at hW
 rw [U]
 have HW:=ah hW
 have u:=ah U
 clear h hG hi hg al Z J U hW
 go_enter func11,ntmps11
 go_upto_region 1 with fail
 rw [HW.out]
 go_upto_region 2 with fail
 obtain ⟨r,hr⟩:∃r,a.k.tmod 10=r:=⟨_,rfl⟩
 rw [hr]
 have L:=ah hr
 clear hr c0
 by_cases X:r=0
 ·subst X
  have ag:=ah (m.out.put Y.out HI.out a.s a.ok a.ob)
  clear c2
  go_wp2_with (refine wpList_load_mid rfl 33 _ rfl w.heap.size 4 rfl [.int .i64 a.ok,.string a.ob] _ co underlying33 rfl h2 ?_)
  refine ag.out.mono ?_
  rintro e w1 ⟨x,f,P',hx,rfl,g,aq,p⟩
  have ai:Hid ((idC x).length=32):=ah (by rw [av,hx])
  have ar:=ah (aJ x)
  have aw:=ah g
  have az:=ah aq
  have HC:=ah p
  obtain ⟨ci,I⟩:∃z,idC x=z:=⟨_,rfl⟩
  rw [I] at ai ar
  simp only [I]
  clear g aq p I hx ag co
  go_upto_region 4 with (refine aD rfl 42 _ _ rfl zi ci rfl rfl 32 ai.out a1 bR ar.out ?_;intro w2 a0 q a2)
  have b:Hid (DoA K sb i a w (.returned (.int .i64 f)) w2):=ah (DoA.from G.out (aw.out.below q) (fun h _=>az.out h) (fun _ h=>by rw [L.out] at h;cases h) (HC.out.trans (Chg.of_below q)))
  clear a0 q a2
  go_wp2_with fail
  go_ret
  exact b.out
 by_cases r1:r=1
 ·subst r1
  clear X c1 c2
  have c3:W.cell? ⟨w.heap.size,3,none⟩=some (.string a.nm):=by have:=D.out.range 3 (.string a.nm) rfl;exact this
  have h8:(prog.info? 36).map (·.size)=some ca.length:=by rw [←u.out,Cy];exact Cb
  obtain ⟨ad,y⟩:=m.out.val a.nm (by have:=H.out;unfold maxLen;omega)
  have a5:=ah y
  have E:=ah (fun V (hb:Below W.heap.size W V)=>((m.out.below hb).val a.nm (by have:=H.out;unfold maxLen;omega)).1)
  unfold dL at E
  have j:=ah (fun V=>DX a (fZ t l a.nm) y V)
  unfold dL at j
  have ac:=ah (fun V=>vJ a.ok a.ob V)
  unfold dL at ac
  have o:=ah (fun V (hb:Below W.heap.size W V)=>(m.out.below hb).upd (Y.out.below hb) HI.out (a.nm,idZ ⟨a.ok,a.ob⟩) (sU a.wr (fZ t l a.nm)) (show a.nm.size≤1000 by have:=H.out;omega) (vN _) (by rw [DF];exact y))
  have B:Hid (∀V,Below W.heap.size W V→V.rangeAt w.heap.size 0 ca∧V.rangeAt w.heap.size 4 [.int .i64 a.ok,.string a.ob]∧V.cell? ⟨w.heap.size,3,none⟩=some (.string a.nm)):=ah fun V hb=>by
   have hx:=D.out.below hb
   have e4:=EP hx.range
   rw [Nat.zero_add] at e4
   have T:=hx.range
   rw [u.out] at T
   exact ⟨T,e4,by have:=hx.range 3 (.string a.nm) rfl;exact this⟩
  dsimp only at o
  rw [u.out] at j
  obtain ⟨cv,N⟩:∃z,idC (fZ t l a.nm)=z:=⟨_,rfl⟩
  obtain ⟨a4,C⟩:∃z,idC (sU a.wr (fZ t l a.nm))=z:=⟨_,rfl⟩
  obtain ⟨ci,I⟩:∃z,idC (idZ ⟨a.ok,a.ob⟩)=z:=⟨_,rfl⟩
  rw [N] at E j
  rw [C] at j o
  rw [I] at ac o
  have d:=B.out W.drew (Below.refl _ _).drew
  clear ad y N C I c3 co
  go_upto_region 6 with fail
  refine wrL 13 (fun x=>x.rangeAt w.heap.size 0 ca∧x.rangeAt w.heap.size 4 [.int .i64 a.ok,.string a.ob]∧x.cell? ⟨w.heap.size,3,none⟩=some (.string a.nm)) ?_
  refine WL.tk 0 d ?_
  refine WL.tk 1 d ?_
  refine WL.tk 2 d ?_
  refine WL.tk 3 d ?_ (hy:=(fun w' O=>aM 36 _ (O.1) underlying36 rfl h8 _ rfl rfl))
  refine WL.tk 4 d ?_
  refine WL.tk 5 d ?_
  refine WL.tk 6 d ?_
  refine WL.tk 9 d ?_
  refine WL.tk 10 d ?_ (hy:=(fun w' O=>aM 33 _ (O.2.1) underlying33 rfl h2 _ rfl rfl))
  refine WL.on 7 ?_
  go_wp2_with fail
  refine (E.out W.drew (Below.refl _ _).drew).mono ?_
  rintro e w1 ⟨rfl,S⟩
  have Q:=ah (bC S)
  have M:=B.out w1 Q.out
  clear S d
  go_wp2_with fail
  refine ⟨M,?_⟩
  refine WL.on 8 ?_
  go_wp2_with fail
  refine (j.out w1).mono ?_
  rintro e w2 ⟨rfl,q⟩
  have F:=bth Q q
  have R:=B.out w2 F.out
  clear q M
  go_wp2_with fail
  refine ⟨R,?_⟩
  refine WL.on 11 ?_
  go_wp2_with fail
  refine (ac.out w2).mono ?_
  rintro e w3 ⟨rfl,ao⟩
  have aa:=bth F ao
  have af:=B.out w3 aa.out
  clear ao R
  go_wp2_with fail
  refine ⟨af,?_⟩
  refine WL.on 12 ?_
  go_wp2_with fail
  refine (o.out w3 aa.out).mono ?_
  rintro e w4 ⟨f,l',rfl,g,p⟩
  have A:ak w4 w.heap.size 36 (acL a):=(D.out.below aa.out).chg p (fun h=>h (.inr ⟨Nat.le_refl _,by have:=D.out.lt;exact this⟩))
  have ab:w4.rangeAt w.heap.size 0 ca∧w4.rangeAt w.heap.size 4 [.int .i64 a.ok,.string a.ob]∧w4.cell? ⟨w.heap.size,3,none⟩=some (.string a.nm):=by
   have e4:=EP A.range
   rw [Nat.zero_add] at e4
   have T:=A.range
   rw [u.out] at T
   exact ⟨T,e4,by have:=A.range 3 (.string a.nm) rfl;exact this⟩
  have b:Hid (DoA K sb i a w (.returned (.int .i64 f)) w4):=ah (DoA.from G.out g (fun _ h=>by rw [L.out] at h;cases h) (fun _ h=>by rw [L.out] at h;cases h) ((Chg.of_below aa.out).trans p))
  clear g p A af
  go_wp2_with fail
  refine ⟨ab,?_⟩
  refine WL.la 13 ?_
  go_wp2_with fail
  go_ret
  exact b.out
 by_cases r2:r=2
 ·subst r2
  clear X r1 c1 c2
  have h8:(prog.info? 36).map (·.size)=some ca.length:=by rw [←u.out,Cy];exact Cb
  obtain ⟨ad,y⟩:=m.out.val a.nm (by have:=H.out;unfold maxLen;omega)
  have E:=ah (fun V (hb:Below W.heap.size W V)=>((m.out.below hb).val a.nm (by have:=H.out;unfold maxLen;omega)).1)
  unfold dL at E
  have j:=ah (fun V=>DX a (fZ t l a.nm) y V)
  unfold dL at j
  have o:=ah (fun V (hb:Below W.heap.size W V)=>(m.out.below hb).upd (Y.out.below hb) HI.out (a.nm,zid) (sU a.wr (fZ t l a.nm)) (show a.nm.size≤1000 by have:=H.out;omega) aV (by rw [DF];exact y))
  have B:Hid (∀V,Below W.heap.size W V→V.rangeAt w.heap.size 0 ca∧V.cell? ⟨w.heap.size,3,none⟩=some (.string a.nm)):=ah fun V hb=>by
   have hx:=D.out.below hb
   have T:=hx.range
   rw [u.out] at T
   exact ⟨T,by have:=hx.range 3 (.string a.nm) rfl;exact this⟩
  dsimp only at o
  rw [u.out] at j
  obtain ⟨cv,N⟩:∃z,idC (fZ t l a.nm)=z:=⟨_,rfl⟩
  obtain ⟨a4,C⟩:∃z,idC (sU a.wr (fZ t l a.nm))=z:=⟨_,rfl⟩
  obtain ⟨cz,ae⟩:∃z,idC zid=z:=⟨_,rfl⟩
  rw [N] at E j
  rw [C] at j o
  rw [ae] at am an o
  have d:=B.out W.drew (Below.refl _ _).drew
  clear ad y N C ae co
  go_upto_region 8 with fail
  refine wrL 11 (fun x=>x.rangeAt w.heap.size 0 ca∧x.cell? ⟨w.heap.size,3,none⟩=some (.string a.nm)) ?_
  refine WL.tk 0 d ?_
  refine WL.tk 1 d ?_
  refine WL.tk 2 d ?_
  refine WL.tk 3 d ?_ (hy:=(fun w' O=>aM 36 _ (O.1) underlying36 rfl h8 _ rfl rfl))
  refine WL.tk 4 d ?_
  refine WL.tk 5 d ?_
  refine WL.tk 6 d ?_
  refine WL.take (i:=9) (v:=.agg cz.toArray) rfl (by kernel_rfl) (by decide) (by decide +kernel) (by decide +kernel) (fun _ _ _ h=>h) rfl (fun w' _=>Nn rfl (an w')) d ?_
  simp only [Act.put,nz]
  refine WL.on 7 ?_
  go_wp2_with fail
  refine (E.out W.drew (Below.refl _ _).drew).mono ?_
  rintro e w1 ⟨rfl,S⟩
  have Q:=ah (bC S)
  have M:=B.out w1 Q.out
  clear S d
  go_wp2_with fail
  refine ⟨M,?_⟩
  refine WL.on 8 ?_
  go_wp2_with fail
  refine (j.out w1).mono ?_
  rintro e w2 ⟨rfl,q⟩
  have F:=bth Q q
  have R:=B.out w2 F.out
  clear q M
  go_wp2_with fail
  refine ⟨R,?_⟩
  refine WL.on 10 ?_
  go_wp2_with fail
  refine (o.out w2 F.out).mono ?_
  rintro e w4 ⟨f,l',rfl,g,p⟩
  have A:ak w4 w.heap.size 36 (acL a):=(D.out.below F.out).chg p (fun h=>h (.inr ⟨Nat.le_refl _,by have:=D.out.lt;exact this⟩))
  have ab:w4.rangeAt w.heap.size 0 ca∧w4.cell? ⟨w.heap.size,3,none⟩=some (.string a.nm):=by
   have T:=A.range
   rw [u.out] at T
   exact ⟨T,by have:=A.range 3 (.string a.nm) rfl;exact this⟩
  have b:Hid (DoA K sb i a w (.returned (.int .i64 f)) w4):=ah (DoA.from G.out g (fun _ h=>by rw [L.out] at h;cases h) (fun _ h=>by rw [L.out] at h;cases h) ((Chg.of_below F.out).trans p))
  clear g p A R
  go_wp2_with fail
  refine ⟨ab,?_⟩
  refine WL.la 11 ?_
  go_wp2_with fail
  go_ret
  exact b.out
 by_cases r3:r=3
 ·subst r3
  have a3:=ah (m.out.syn HI.out)
  clear X r1 r2 c1 c2 co
  go_wp2_with fail
  refine a3.out.mono ?_
  rintro e w1 ⟨f,rfl,g,p⟩
  have b:Hid (DoA K sb i a w (.returned (.int .i64 f)) w1):=ah (DoA.from G.out g (fun _ h=>by rw [L.out] at h;cases h) (fun _ h=>by rw [L.out] at h;cases h) p)
  clear g p
  go_wp2_with fail
  go_ret
  exact b.out
 by_cases r4:r=4
 ·subst r4
  have aE:=ah (m.out.trm Y.out HI.out a.n)
  clear X r1 r2 r3 c1 co
  go_wp2_with fail
  refine aE.out.mono ?_
  rintro e w1 ⟨f,t',l',rfl,g,p⟩
  have b:Hid (DoA K sb i a w (.returned (.int .i64 f)) w1):=ah (DoA.from G.out g (fun _ h=>by rw [L.out] at h;cases h) (fun _ h=>by rw [L.out] at h;cases h) p)
  clear g p
  go_wp2_with fail
  go_ret
  exact b.out
 by_cases r5:r=5
 ·subst r5
  have ax:=ah (m.out.unp a.s)
  clear X r1 r2 r3 r4 c2 co
  go_wp2_with fail
  refine ax.out.mono ?_
  rintro e w1 ⟨f,P',rfl,g,ap,p⟩
  have b:Hid (DoA K sb i a w (.returned (.int .i64 f)) w1):=ah (DoA.from G.out g (fun _ h=>by rw [L.out] at h;cases h) (fun h _=>ap h) p)
  clear g p ap
  go_wp2_with fail
  go_ret
  exact b.out
 have d0:(r==0)=false:=by simpa using X
 have d1:(r==1)=false:=by simpa using r1
 have d2:(r==2)=false:=by simpa using r2
 have d3:(r==3)=false:=by simpa using r3
 have d4:(r==4)=false:=by simpa using r4
 have d5:(r==5)=false:=by simpa using r5
 have b:Hid (DoA K sb i a w (.returned (.int .i64 0)) W):=ah (DoA.from G.out (m.out.more (by omega)) (fun _ h=>absurd (L.out.symm.trans h) X) (fun _ h=>absurd (L.out.symm.trans h) r5) (Chg.refl _ _))
 clear X r1 r2 r3 r4 r5 c1 c2 co
 go_wp2_with fail
 go_ret
 exact b.out
theorem F8 {K:Nat→Prop} {w0 w w':World} (hb:Below w0.heap.size w0 w) (a:Chg (fun j=> ¬K j) w w') (d:∀j,j<w0.heap.size→K j):Below w0.heap.size w0 w':=gY hb a fun j e b=>b (d j e)
theorem Ow {w3 w4:World} {K:Nat→Prop} {O:Nat→Prop} {B:Sb} (h:DV O (0+1) (0+2) 8400 w4 B.g 1000000 (lkN.put 2 bkN (some (bk0,bk0.size))) (upN (fun _=>true) 2 true)) (hm:SM O w4 B [] [] 0 (fun _=>[]) [] 0) (e:∀j,K j→O j∧j<w3.heap.size) (a:∀b∈B.bl,w3.heap.size≤b) (i:5≤w3.heap.size):PSt K B.sb 0 (fun _=>[]) [] [] w4 :=
 ⟨O,1,2,_,_,B,0,[],0,[],by omega,by omega,by omega,by simp,by simp,rfl,h,hm,LG _ rfl,fun j d=>⟨(e j d).1,fun f=>by have h1:=(e j d).2;have k:=a j f;omega⟩,fun j d=>Nat.le_trans i (a j d)⟩
theorem Mc {P:Nat→List Idl} {s:Int} {x:Idl} (h:x∈mM P s):∃i,i<4∧x∈P i:=by
 unfold mM at h
 split at h
 ·next hh=>exact ⟨s.toNat,by have:=of_decide_eq_true hh;omega,h⟩
 cases h
theorem wO (va:Value) (l:List Ac) (w:World) (hv:o7 w va l) (hG:eP w):Calls prog 4 #[va] w fun e w'=>e= .returned (.bool true)∧Below w.heap.size w w':=by
 obtain ⟨za,de,c5⟩:=Pn
 have h5:=hG.laid.lt
 have aw:=ah (fun V (hb:Below w.heap.size w V)=>EM V (hG.below hb))
 have a7:=ah (fun V (hb:Below w.heap.size w V)=>EG va l V (hv.below hb))
 unfold BoA at a7
 have cp:=ah (fun V (hb:Below w.heap.size w V)=>Ep 1000000 V (hG.below hb))
 have HG:=ah hG
 have H5:=ah h5
 obtain ⟨ao,cap,rfl,cd,aa⟩:=hv.open
 unfold maxLen at cd
 have cQ:=ah aa
 clear hv hG h5 aa
 go_enter func4,ntmps4
 go_wp2_with fail
 refine (aw.out w (Below.refl _ _)).mono ?_
 rintro e w1 ⟨rfl,cx⟩
 have cr:=ah cx
 clear cx
 go_wp2_with fail
 refine (a7.out w1 cr.out).mono ?_
 rintro e w2 ⟨b,rfl,cI⟩
 have G:=bth cr cI
 clear cI a7
 cases b with
 | true =>
  go_wp2_with fail
  refine (aw.out w2 G.out).mono ?_
  rintro e w3 ⟨rfl,cw⟩
  have C:=bth G cw
  clear cw
  go_wp2_with fail
  go_ret
  exact ⟨rfl,C.out⟩
 | false =>
  go_wp2_with fail
  refine (cp.out w2 G.out).mono ?_
  rintro e w3 ⟨rfl,bo,cz⟩
  have b5:5≤w2.heap.size:=Nat.le_trans H5.out G.out.size
  have ax:=Nu (M:=8400) bo cz b5
  have C:=ah (G.out.trans (bo.bel.mono G.out.size))
  obtain ⟨g,hg⟩:∃g,w2.heap.size+1=g:=⟨_,rfl⟩
  rw [hg] at ax
  rw [hg]
  have cK:5≤w3.heap.size:=Nat.le_trans H5.out C.out.size
  have ac:=NT ax (HG.out.below C.out) (by omega) rfl rfl (by omega) (by omega) (by decide) (by omega)
  have b9:=ah (sH ac ax.olt (by omega) (fun y=>by rw [LK.aH (by omega)];rfl))
  have cR:=ah cK
  have bv:Hid (∀j,j<w.heap.size→j<w2.heap.size∧j<w3.heap.size):=ah fun j N=>⟨Nat.lt_of_lt_of_le N G.out.size,Nat.lt_of_lt_of_le N C.out.size⟩
  clear bo cz ax hg ac cK b5 cp
  go_wp2_with fail
  refine b9.out.mono ?_
  rintro e w4 ⟨O2,B,rfl,cl,bp,cL,ai,cg,cq,cN⟩
  rw [←cl] at bp
  have bt:=ah (gY C.out ai (fun j N hn=>hn (bv.out j N).1))
  obtain ⟨K,hK⟩:∃K:Nat→Prop,(fun j=>j<w.heap.size)=K:=⟨_,rfl⟩
  have cX:Hid (∀j,j<w.heap.size→K j):=ah fun j N=>by rw [←hK];exact N
  have cj:=ah (Ow (K:=K) bp cL (fun j N=>by rw [←hK] at N;exact ⟨cg j (bv.out j N).1,(bv.out j N).2⟩) cN cR.out)
  obtain ⟨sb,bd⟩:∃sb,B.sb=sb:=⟨_,rfl⟩
  rw [bd] at cj
  rw [bd]
  clear cl bp cL ai cg cq cN hK bd b9
  go_wp2_with fail
  go_loopw [5] (fun s5 wr=> ∃(i:Nat) (P:Nat→List Idl) (t lg:List Rf),i≤l.length∧i≤30∧s5= .int .i64 i∧Hid (PSt K sb i P t lg wr)∧Hid (Below w.heap.size w wr)) (fun s5 _=>(l.length-intOf s5).toNat)
  case atStart=>exact ⟨0,_,_,_,by omega,by omega,rfl,cj,bt⟩
  obtain ⟨wi,rfl⟩:∃wi:World,wi=wr:=⟨_,rfl⟩
  obtain ⟨i,P,t,lg,hi,db,rfl,HS,HB⟩:=hrel
  by_cases R:i<l.length∧i<30
  ·have d1:decide ((i:Int)<l.length)=true:=decide_eq_true (by omega)
   have d2:decide ((i:Int)<30)=true:=decide_eq_true (by omega)
   have d3:decide (i<30)=true:=decide_eq_true (by omega)
   obtain ⟨b2,off,rfl,ct,a2⟩:=cQ.out (by intro e;rw [e] at R;simp at R)
   have da:i<l.length:=R.1
   have dd:i<30:=R.2
   have f1:=ay (a2 i da) HB.out ct
   have k0:(0:Int)≤i:=by omega
   have k1:(i:Int)<l.length:=by omega
   have wk:IntKind.i64.wrap ((i:Int)+1)=(i:Int)+1:=IntWalk.i64_in _ (by omega)
   have cJ:Hid ((i<l.length∧i<30)∧True):=ah ⟨R,trivial⟩
   clear a2
   obtain ⟨a,ha⟩:∃a,l[i]=a:=⟨_,rfl⟩
   rw [ha] at f1
   have bx:=ah (fun V=>Nc a V)
   have a0:Hid ((acL a).length=8):=ah (Cy a)
   have cA:=ah (Po a)
   have h8:(prog.info? 36).map (·.size)=some (acL a).length:=Cb
   have bc:=ah (fun (K':Nat→Prop) V (h:PSt K' sb i P t lg V) (hG:eP V) (hg:grB a=false)=>Qs a h hG (by omega) hg)
   obtain ⟨ca,a9⟩:∃z,acL a=z:=⟨_,rfl⟩
   rw [a9] at f1 bx a0 cA h8 bc
   have ce:=ah a9
   clear ha a9 R
   go_upto_region 12 with (first|(refine wpList_load_mid rfl 36 _ rfl b2 (off+i*8) rfl ca _ f1 underlying36 rfl h8 ?_)|(refine aD rfl 36 _ _ rfl za ca rfl rfl 8 a0.out c5 Cb cA.out ?_;intro wn bj ac c4))
   have e0:=bj.range
   have c9:=ah bj
   have c8:=ah ac
   clear bj ac c4 f1
   go_wp2_with (refine wpList_load_mid rfl 36 _ rfl wi.heap.size 0 rfl ca _ e0 underlying36 rfl h8 ?_)
   refine (bx.out wn).mono ?_
   rintro e x1 ⟨rfl,T⟩
   have U:=bth c8 T
   have H:=ah (c9.out.below T)
   clear T e0 bx
   cases b6:grB a with
   | true =>
    have c6:Hid (PSt K sb (i+1) P t lg x1):=ah ((HS.out.below U.out).more (by omega))
    have o:=ah (HB.out.trans (U.out.mono HB.out.size))
    have:=cJ.out
    go_wp2_with fail
    go_roundw
    case rel=>exact ⟨i+1,P,t,lg,by omega,by omega,by go_num,c6,o⟩
    case measure=>simp [intOf];omega
   | false =>
    have e1:=H.out.range
    have HD:=ah (bc.out (Ou K wi x1) x1 (HS.out.new U.out) (HG.out.below (HB.out.trans (U.out.mono HB.out.size))) b6)
    unfold DoA at HD
    clear bc b6
    go_wp2_with (refine wpList_load_mid rfl 36 _ rfl wi.heap.size 0 rfl ca _ e1 underlying36 rfl h8 ?_)
    refine HD.out.mono ?_
    rintro e x2 ⟨I,P',t',be,rfl,cM,cv,b8,hc⟩
    have b0:=ah cM
    have HQ:=ah (And.intro cv b8)
    have W:=ah (H.out.chg hc (fun h=>h (.inr ⟨Nat.le_refl _,by have:=H.out.lt;exact this⟩)))
    have Y:=ah (F8 (HB.out.trans (U.out.mono HB.out.size)) hc (fun j N=> .inl (cX.out j N)))
    have c1:x2.cell? ⟨wi.heap.size,1,none⟩=some (.int .i64 a.s):=by have h:=W.out;rw [←ce.out] at h;exact h.range 1 _ rfl
    have bf:=ah (b0.out.pin (by omega) a.s)
    clear cM cv b8 hc HD e1 H
    go_wp2_with fail
    refine bf.out.1.mono ?_
    rintro e x3 ⟨vp,mp,rfl,bs,bu,a1,_,A⟩
    have a5:=ah A
    have cc:=ah (b0.out.below A)
    have ab:=ah (Y.out.trans (A.mono Y.out.size))
    have cC:=ah (W.out.below A)
    have cy:=ah bs
    have ch:=ah bu
    have ck:=ah a1
    have p:Hid (∀x∈mp,x.length=32):=ah fun x hx=>bf.out.2 x ((bu x).1 hx)
    obtain ⟨pa,pc,rfl,_,_⟩:=bs.open
    clear bs bu a1 A c1 bf b0 Y W
    go_upto_region 15 with fail
    go_cut [76] from 50 to 76 (fun cU wx=>cU= .bool false∧Hid (Below x3.heap.size x3 wx))
    case first =>
     have e0:ak x3 wi.heap.size 36 (acL a):=by have h:=cC.out;rw [←ce.out] at h;exact h
     have c0:x3.cell? ⟨wi.heap.size,0,none⟩=some (.int .i64 a.k):=e0.range 0 _ rfl
     have co:=EP e0.range
     rw [Nat.zero_add] at co
     have cV:(prog.info? 33).map (·.size)=some ([.int .i64 a.ok,.string a.ob]:List Value).length:=by kernel_rfl
     have a8:=ah (fun V=>vJ a.ok a.ob V)
     unfold dL at a8
     have S:=ah (fun V (hb:Below x3.heap.size x3 V)=>G7 (.slice pa mp.length pc) mp (idZ ⟨a.ok,a.ob⟩) V (bM.below cy.out hb) p.out (vN _))
     obtain ⟨ci,F⟩:∃z,idC (idZ ⟨a.ok,a.ob⟩)=z:=⟨_,rfl⟩
     rw [F] at a8 S
     have cE:Hid (I=0→a.k.tmod 10=0→mp.contains (idZ ⟨a.ok,a.ob⟩)=true):=ah fun h1 h2=>List.contains_iff_mem.2 ((ch.out _).2 (HQ.out.1 h1 h2))
     have cm:Hid (I=0→a.k.tmod 10=5→mp.length=0):=ah fun h1 h2=>by rw [ck.out,HQ.out.2 h1 h2];rfl
     obtain ⟨r,hr⟩:∃r,a.k.tmod 10=r:=⟨_,rfl⟩
     rw [hr] at cE cm
     have bm:Hid (Below x3.heap.size x3 x3):=ah (Below.refl _ _)
     clear e0 F
     by_cases a6:I=0
     ·subst a6
      by_cases an:r=0
      ·subst an
       have E:=cE.out rfl rfl
       rw [E] at S
       clear E
       go_wp2_with (refine aX rfl 33 _ rfl wi.heap.size 4 rfl [.int .i64 a.ok,.string a.ob] _ co underlying33 rfl cV ?_)
       refine (a8.out x3).mono ?_
       rintro e y1 ⟨rfl,cn⟩
       have cs:=ah cn
       clear cn
       go_wp2_with fail
       refine (S.out y1 cs.out).mono ?_
       rintro e y2 ⟨rfl,cb⟩
       have cO:=bth cs cb
       have dn:=au c0 cO.out (World.block_lt_of_cell? _ _ c0)
       clear cb
       go_wp2_with fail
       go_meet
       exact ⟨rfl,cO⟩
      by_cases bk:r=5
      ·subst bk
       have c2:=cm.out rfl rfl
       have dl:decide ((0:Int)<(mp.length:Int))=false:=decide_eq_false (by omega)
       have di:decide (0<mp.length)=false:=decide_eq_false (by omega)
       clear c2 an
       go_wp2_with fail
       go_meet
       exact ⟨rfl,bm⟩
      have d0:(r==0)=false:=by simpa using an
      have d5:(r==5)=false:=by simpa using bk
      clear an bk
      go_wp2_with fail
      go_meet
      exact ⟨rfl,bm⟩
     have dc:(I==0)=false:=by simpa using a6
     clear a6
     go_wp2_with fail
     go_meet
     exact ⟨rfl,bm⟩
    obtain ⟨rfl,aq⟩:=hcut
    have cT:=ah (a5.out.trans (aq.out.mono a5.out.size))
    have bb:=ah (cc.out.below aq.out)
    have cF:=ah (ab.out.trans (aq.out.mono ab.out.size))
    have br:=ah (bb.out.rts (by omega))
    unfold Iu at br
    clear cy ch ck p HQ a5 cT
    go_wp2_with fail
    refine br.out.mono ?_
    rintro e z1 ⟨vr,mr,rfl,ap,b7,az,b1⟩
    have J:=ah (bb.out.below b1)
    have aE:=bth cF b1
    have df:=ah ap
    have cG:=ah b7
    have S:=ah (fun x (hx:x.length=32) V (hb:Below z1.heap.size z1 V)=>G7 vr mr x V (bM.below ap hb) az hx)
    obtain ⟨ra,rc,rfl,_,_⟩:=ap.open
    clear ap b7 az b1 br bb cF aq cc ab
    go_wp2_with fail
    go_loopw [10] (fun bn wr=> ∃k:Nat,k≤4∧bn= .int .i64 k∧Hid (Below z1.heap.size z1 wr)) (fun bn _=>(4-intOf bn).toNat)
    case atStart=>exact ⟨0,by omega,rfl,ah (Below.refl _ _)⟩
    obtain ⟨cf,rfl⟩:∃cf:World,cf=wr:=⟨_,rfl⟩
    obtain ⟨k,hk,rfl,am⟩:=hrel
    have dm:IntKind.i64.wrap ((k:Int)+1)=(k:Int)+1:=IntWalk.i64_in _ (by omega)
    by_cases ai:k<4
    ·have dk:decide ((k:Int)<4)=true:=decide_eq_true (by omega)
     have cY:decide (k<4)=true:=decide_eq_true ai
     have cD:=ah ((J.out.below am.out).pin (by omega) (k:Int))
     go_wp2_with fail
     refine cD.out.1.mono ?_
     rintro e z2 ⟨vq,q,rfl,ae,O,_,_,Z⟩
     have Q:=bth am Z
     have bz:=ah O
     have p:Hid (∀x∈q,x.length=32):=ah fun x hx=>cD.out.2 x ((O x).1 hx)
     obtain ⟨qa,qc,rfl,ag,m⟩:=ae.open
     unfold maxLen at ag
     have b4:=ah m
     clear ae O Z m
     go_wp2_with fail
     go_loopw [12] (fun bi wr=> ∃j:Nat,j≤q.length∧bi= .int .i64 j∧Hid (Below z2.heap.size z2 wr)) (fun bi _=>(q.length-intOf bi).toNat)
     case atStart=>exact ⟨0,by omega,rfl,ah (Below.refl _ _)⟩
     obtain ⟨wj,rfl⟩:∃wj:World,wj=wr:=⟨_,rfl⟩
     obtain ⟨j,N,rfl,v⟩:=hrel
     by_cases f:j<q.length
     ·have dj:decide ((j:Int)<q.length)=true:=decide_eq_true (by omega)
      have j0:(0:Int)≤j:=by omega
      have j1:(j:Int)<q.length:=by omega
      have c7:IntKind.i64.wrap ((j:Int)+1)=(j:Int)+1:=IntWalk.i64_in _ (by omega)
      obtain ⟨b3,al,rfl,X,d⟩:=b4.out (by intro e;rw [e] at f;simp at f)
      have f3:=ay (d j f) v.out X
      have u:q[j]∈q:=List.getElem_mem f
      obtain ⟨x,hx⟩:∃x,q[j]=x:=⟨_,rfl⟩
      rw [hx] at f3 u
      have n:=p.out x u
      have E:mr.contains x=true:=List.contains_iff_mem.2 ((cG.out x).2 (.inr (Mc ((bz.out x).1 u))))
      have HI:=ah (S.out x n wj (Q.out.trans (v.out.mono Q.out.size)))
      rw [E] at HI
      have D:=dZ (us:=idC x) (by rw [av,n])
      obtain ⟨ci,F⟩:∃z,idC x=z:=⟨_,rfl⟩
      rw [F] at f3 D HI
      have HJ:=ah f
      clear d hx u n E F f
      go_wp2_with (refine wpList_load_mid rfl 42 _ rfl b3 (al+j*32) rfl ci _ f3 underlying42 rfl D ?_)
      refine HI.out.mono ?_
      rintro e z3 ⟨rfl,af⟩
      have C:=bth v af
      have:=HJ.out
      clear af f3
      go_wp2_with fail
      go_roundw
      case rel=>exact ⟨j+1,by omega,by go_num,C⟩
      case measure=>simp [intOf];omega
     have dj:decide ((j:Int)<q.length)=false:=decide_eq_false (by omega)
     have o:=ah (Q.out.trans (v.out.mono Q.out.size))
     go_wp2_with fail
     go_roundw
     case rel=>exact ⟨k+1,by omega,by go_num,o⟩
     case measure=>simp [intOf];omega
    have dk:decide ((k:Int)<4)=false:=decide_eq_false (by omega)
    have cY:decide (k<4)=false:=decide_eq_false ai
    have cP:=ah ((J.out.below am.out).bok)
    have dg:=ah J.out.ok
    unfold zl at cP
    go_wp2_with fail
    refine cP.out.mono ?_
    rintro e z2 ⟨v1,v2,rfl,ar,Z⟩
    have Q:=bth am Z
    have a4:=ah (oK v1 v2 t' be z2 ar.1)
    unfold ER at a4
    obtain ⟨y1,y2,rfl,_,_⟩:=ar.1.tab.open
    obtain ⟨y3,y4,rfl,_,_⟩:=ar.1.log.open
    clear ar Z
    go_wp2_with fail
    refine a4.out.mono ?_
    rintro e z3 ⟨vq,q,rfl,ae,O,a3,_,c3,af⟩
    have L:=bth Q af
    have bz:=ah O
    have p:=ah a3
    obtain ⟨qa,qc,rfl,ag,m⟩:=ae.open
    unfold maxLen at ag
    have b4:=ah m
    clear ae O af m a3 c3
    go_wp2_with fail
    go_loopw [14] (fun bh wr=> ∃j:Nat,j≤q.length∧bh= .int .i64 j∧Hid (Below z3.heap.size z3 wr)) (fun bh _=>(q.length-intOf bh).toNat)
    case atStart=>exact ⟨0,by omega,rfl,ah (Below.refl _ _)⟩
    obtain ⟨wj,rfl⟩:∃wj:World,wj=wr:=⟨_,rfl⟩
    obtain ⟨j,N,rfl,v⟩:=hrel
    by_cases f:j<q.length
    ·have dj:decide ((j:Int)<q.length)=true:=decide_eq_true (by omega)
     have j0:(0:Int)≤j:=by omega
     have j1:(j:Int)<q.length:=by omega
     have c7:IntKind.i64.wrap ((j:Int)+1)=(j:Int)+1:=IntWalk.i64_in _ (by omega)
     obtain ⟨b3,al,rfl,X,d⟩:=b4.out (by intro e;rw [e] at f;simp at f)
     have f3:=ay (d j f) v.out X
     have u:q[j]∈q:=List.getElem_mem f
     obtain ⟨x,hx⟩:∃x,q[j]=x:=⟨_,rfl⟩
     rw [hx] at f3 u
     have n:=p.out x u
     have E:mr.contains x=true:=List.contains_iff_mem.2 ((cG.out x).2 (.inl ((bz.out x).1 u)))
     have HI:=ah (S.out x n wj (L.out.trans (v.out.mono L.out.size)))
     rw [E] at HI
     have D:=dZ (us:=idC x) (by rw [av,n])
     obtain ⟨ci,F⟩:∃z,idC x=z:=⟨_,rfl⟩
     rw [F] at f3 D HI
     have HJ:=ah f
     clear d hx u n E F f
     go_wp2_with (refine wpList_load_mid rfl 42 _ rfl b3 (al+j*32) rfl ci _ f3 underlying42 rfl D ?_)
     refine HI.out.mono ?_
     rintro e z4 ⟨rfl,cH⟩
     have bt:=bth v cH
     have:=HJ.out
     clear cH f3
     go_wp2_with fail
     go_roundw
     case rel=>exact ⟨j+1,by omega,by go_num,bt⟩
     case measure=>simp [intOf];omega
    have dj:decide ((j:Int)<q.length)=false:=decide_eq_false (by omega)
    have o:=ah (L.out.trans (v.out.mono L.out.size))
    have cS:Hid (PSt K sb (i+1) P' t' be wj):=ah ((J.out.below o.out).sub fun _ h=> .inl h)
    have cW:=ah (aE.out.trans (o.out.mono aE.out.size))
    have:=cJ.out
    go_wp2_with fail
    go_roundw
    case rel=>exact ⟨i+1,P',t',be,by omega,by omega,by go_num,cS,cW⟩
    case measure=>simp [intOf];omega
  have o:=ah HB.out
  by_cases h1:i<l.length
  ·have d1:decide ((i:Int)<l.length)=true:=decide_eq_true (by omega)
   have d2:decide ((i:Int)<30)=false:=decide_eq_false (by omega)
   have d3:decide (i<30)=false:=decide_eq_false (by omega)
   go_wp2_with fail
   refine (aw.out wi o.out).mono ?_
   rintro e x1 ⟨rfl,ad⟩
   have ba:=bth o ad
   clear ad
   go_wp2_with fail
   go_ret
   exact ⟨rfl,ba.out⟩
  have d1:decide ((i:Int)<l.length)=false:=decide_eq_false (by omega)
  go_wp2_with fail
  refine (aw.out wi o.out).mono ?_
  rintro e x1 ⟨rfl,ad⟩
  have ba:=bth o ad
  clear ad
  go_wp2_with fail
  go_ret
  exact ⟨rfl,ba.out⟩
end
end Go.Proofs.YtlhcoanbhnphgaaGreatDoor
