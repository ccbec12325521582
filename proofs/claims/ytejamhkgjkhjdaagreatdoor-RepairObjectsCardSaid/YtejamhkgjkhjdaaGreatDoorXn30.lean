/- A part of this claim. -/
import Derived.Test.YtejamhkgjkhjdaaGreatDoorXn29
namespace Go.Proofs.YtejamhkgjkhjdaaGreatDoor
open Tryz
set_option maxHeartbeats 64000000
set_option maxRecDepth 100000
set_option linter.all false
section
open Go.RowKit
theorem FQ (s:ByteArray) (i j:Nat) (h1:i≤j) (a:j≤s.size) (w:World):(Instr.slice 9 (.string s) (some (.int .i64 (i:Int))) (some (.int .i64 (j:Int))) none).run prog w= .ok (.string (s.extract i j)) w:=by
 simp [Instr.slice,run_underlying underlying9,Instr.sliceBounds,Instr.sliceBound,asIntOf]
 rw [if_pos a,if_pos h1]
theorem I4 (s:ByteArray) (k:Nat) (h:k≤s.size) (w:World):(Instr.slice 9 (.string s) none (some (.int .i64 (k:Int))) none).run prog w= .ok (.string (s.extract 0 k)) w:=by
 simp [Instr.slice,run_underlying underlying9,Instr.sliceBounds,Instr.sliceBound,asIntOf]
 intro a
 omega
theorem IZ (s:ByteArray) (k:Nat) (h:k≤s.size) (w:World):(Instr.slice 9 (.string s) (some (.int .i64 (k:Int))) none none).run prog w= .ok (.string (s.extract k s.size)) w:=by
 simp [Instr.slice,run_underlying underlying9,Instr.sliceBounds,Instr.sliceBound,asIntOf]
 intro a
 omega
theorem J8 (s:ByteArray) (i j:Nat) (h:i≤j):(s.extract i j).data.toList=(s.data.toList.take j).drop i:=by
 have e:j=i+(j-i):=by omega
 rw [show s.extract i j=s.extract i (i+(j-i)) from by rw [←e],extract_drop,List.drop_take]
theorem J9 (s:ByteArray) (k:Nat) (h:k≤s.size):(s.extract k s.size).data.toList=s.data.toList.drop k:=by
 rw [J8 s k _ h,List.take_of_length_le (by simp)]
theorem Ig (k:Int) (s:ByteArray) (d:av ⟨k,s⟩=false) (w:World):Calls prog 13 #[.agg #[.int .i64 k,.string s]] w fun e w'=>e= .returned (.tuple #[.string ⟨#[]⟩,.int .i64 1])∧Below w.heap.size w w':=by
 have hF:=fun w=>mX k s w
 unfold Cg at hF
 rw [d] at hF
 simp only [show okI false=1 from rfl,Bool.false_eq_true,if_false] at hF
 have f:=ah hF
 have a:Hid (∀o,Below w.heap.size w (w.alloc o)):=ah (fun o=>bal)
 clear hF d
 go_enter func13,ntmps13
 go_wp2_with fail
 refine (f.out _).mono ?_
 rintro e w1 ⟨rfl,hb⟩
 have b:=ah ((a.out _).trans (hb.mono (a.out _).size))
 clear hb
 go_wp2_with fail
 go_ret2
 exact ⟨rfl,b.out⟩
theorem F7:av ⟨0,⟨#[]⟩⟩=false:=by decide +kernel
theorem KH (s t:ByteArray):(s.toList==t.toList)=decide (s=t):=lK s t
theorem kT (b:ByteArray) (w:World) (hb:b.size≤100000) (hG:cu w):Calls prog 5 #[.string b] w (vk (lq b) w):=by
 have ar:=yO
 obtain ⟨W0,J⟩:∃W,w.alloc (.cells #[.int .i64 0,.string ⟨#[]⟩] 24)=W:=⟨_,rfl⟩
 have P:Hid (ak W0 w.heap.size 24 [.int .i64 0,.string ⟨#[]⟩]):=ah (by rw [←J];exact ak.new w 24 [.int .i64 0,.string ⟨#[]⟩])
 have I:Hid (Below w.heap.size w W0):=ah (by rw [←J];exact bal)
 have u:=ah bM
 have HG:=ah hG
 have X:=ah J
 clear J hG
 have z:Hid (∀W,Below w.heap.size w W→ak W w.heap.size 24 [.int .i64 0,.string ⟨#[]⟩]→Below w.heap.size w (W.setCells w.heap.size 0 [.int .i64 0,.string ⟨#[]⟩])∧ak (W.setCells w.heap.size 0 [.int .i64 0,.string ⟨#[]⟩]) w.heap.size 24 [.int .i64 0,.string ⟨#[]⟩]):=ah fun W h1 Y =>
  ⟨below_setCells _ (Nat.le_refl _) _ _ _ h1,Y.set rfl⟩
 have R:(prog.info? 24).map (·.size)=some ([.int .i64 0,.string ⟨#[]⟩]:List Value).length:=bM
 by_cases h8:b.size<8
 ·have y:Hid (lq b=none):=ah (by unfold lq;rw [if_pos h8])
  have d1:(b.size:Int)<8:=by omega
  have l:W0.there w.heap.size 0 2:=P.out.there
  obtain ⟨r,a⟩:∃r,W0.setCells w.heap.size 0 [.int .i64 0,.string ⟨#[]⟩]=r:=⟨_,rfl⟩
  have A:=ah (z.out W0 I.out P.out)
  rw [a] at A
  have j:=ah a
  clear a h8
  go_enter func5,ntmps5
  go_upto_region 1 with fail
  rw [X.out]
  go_wp2_with (refine aj rfl 24 _ _ rfl w.heap.size 0 [.int .i64 0,.string ⟨#[]⟩] rfl rfl 2 rfl l u.out (by intro v M;simp at M;rcases M with rfl|rfl<;>rfl) ?_;rw [j.out])
  have i:=A.out.2.range
  (try simp only [Exit.inBlock,Exit.then])
  refine aD rfl w.heap.size 0 rfl [.int .i64 0,.string ⟨#[]⟩] _ i underlying24 rfl R rfl _ rfl ?_
  exact iM y.out A.out.1
 have d1:¬(b.size:Int)<8:=by omega
 have aq:IntKind.i64.wrap ((b.size:Int)-4)=(b.size:Int)-4:=IntWalk.i64_in _ (by omega)
 have C:=FQ b 4 (b.size-4) (by omega) (by omega)
 rw [show ((b.size-4:Nat):Int)=(b.size:Int)-4 from by omega,show ((4:Nat):Int)=4 from rfl] at C
 have N:(b.extract 4 (b.size-4)).data.toList=(b.data.toList.take (b.size-4)).drop 4:=J8 b 4 _ (by omega)
 have Q:(b.extract 4 (b.size-4)).size≤1000000:=by
  rw [Lib.size_eq,N,List.length_drop,List.length_take,Array.length_toList]
  show min _ b.size-4≤_
  omega
 have D:Hid (lq b=match aR (b.extract 4 (b.size-4)).data.toList with|none=>none|some o=>if aZ o=b then some o else none):=ah (by
  rw [N];unfold lq;rw [if_neg h8];rfl)
 have O:=ah (fun o=>KH (aZ o) b)
 generalize b.extract 4 (b.size-4)=s at C Q D
 have ai:=ah C
 clear N h8
 go_enter func5,ntmps5
 go_upto_region 1 with fail
 rw [X.out]
 have C:=ai.out
 have ab:=ah (qD s W0 Q (HG.out.below I.out).max)
 go_wp2_with fail
 refine ab.out.mono ?_
 rintro e w3 q
 have ag:=ah (P.out.below q.1)
 have am:=ah (I.out.trans (q.1.mono I.out.size))
 obtain ⟨o,c,rfl,an⟩:∃(o:Ob) (c:Nat),e= .returned (.tuple #[.agg (obC o).toArray,.int .i64 (c:Int)])∧((c=0∧aR s.data.toList=some o)∨(c=2∧aR s.data.toList=none∧o=ob0)):=by
  rcases q.2 with ⟨o,h1,Y⟩|⟨h1,Y⟩
  ·exact ⟨o,0,Y,.inl ⟨rfl,h1⟩⟩
  exact ⟨ob0,2,Y,.inr ⟨rfl,h1,rfl⟩⟩
 have ad:=ah (there_alloc (n:=2) w3 #[.int .i64 0,.string ⟨#[]⟩] 24 rfl)
 obtain ⟨V,H⟩:∃W,(w3.alloc (.cells #[.int .i64 0,.string ⟨#[]⟩] 24)).setCells w3.heap.size 0 (obC o)=W:=⟨_,rfl⟩
 have p:Hid (ak V w3.heap.size 24 (obC o)):=ah (by rw [←H];exact (ak.new w3 24 [.int .i64 0,.string ⟨#[]⟩]).set rfl)
 have S:Below w3.heap.size w3 V:=by rw [←H];exact below_setCells _ (Nat.le_refl _) _ _ _ bal
 have ac:=ah (ag.out.below S)
 have T:=bth am S
 have x:=p.out.range
 have h:(prog.info? 24).map (·.size)=some (obC o).length:=bM
 have f:=ah (jd o)
 have d:Hid ((obC o).length=2):=ah rfl
 have K:=ah H
 have ap:=ah (HG.out.below T.out).crc
 clear q H S C Q ab
 rcases an with ⟨rfl,t⟩|⟨rfl,t,rfl⟩
 ·have m:=ah (show Calls prog 13 #[.agg (obC o).toArray] V _ from tX o.kind o.body (om t) V ap.out)
  have B:Hid (lq b=if aZ o=b then some o else none):=ah (by rw [D.out,t])
  have g0:=O.out o
  have aa:aZ ⟨o.kind,o.body⟩=aZ o:=rfl
  rw [aa] at m
  generalize F:obC o=E at x h f d K p m ⊢
  have ae:=ah F
  clear t aa F D O
  generalize aZ o=lb at m B g0
  go_upto_region 4 with (refine aj rfl 24 _ _ rfl w3.heap.size 0 E rfl rfl 2 d.out ad.out u.out f.out ?_;rw [K.out])
  go_wp2_with (refine wpList_load_mid rfl 24 _ rfl w3.heap.size 0 rfl E _ x underlying24 rfl h ?_)
  refine m.out.mono ?_
  rintro e G ⟨rfl,g⟩
  have k:=ah (ac.out.below g)
  have L:=bth T g
  have Z:=ah (p.out.below g)
  clear g x
  by_cases U:lb=b
  ·rw [decide_eq_true U] at g0
   have al:Hid (lq b=some o):=ah (by rw [B.out,if_pos U])
   have r5:=Z.out.range
   have l:G.there w.heap.size 0 2:=k.out.there
   obtain ⟨r,a⟩:∃r,G.setCells w.heap.size 0 E=r:=⟨_,rfl⟩
   have af:Hid (ak r w.heap.size 24 E):=ah (by rw [←a];exact k.out.set (by rw [d.out];rfl))
   have ao:Hid (Below w.heap.size w r):=ah (by rw [←a];exact below_setCells _ (Nat.le_refl _) _ _ _ L.out)
   have j:=ah a
   clear a U
   go_wp2_with (first
    | refine wpList_load_mid rfl 24 _ rfl w3.heap.size 0 rfl E _ r5 underlying24 rfl h ?_
    | (refine aj rfl 24 _ _ rfl w.heap.size 0 E rfl rfl 2 d.out l u.out f.out ?_;rw [j.out]))
   have i:=af.out.range
   (try simp only [Exit.inBlock,Exit.then])
   refine aD rfl w.heap.size 0 rfl E _ i underlying24 rfl h rfl _ rfl ?_
   exact wV al.out ae.out ao.out
  rw [decide_eq_false U] at g0
  have y:Hid (lq b=none):=ah (by rw [B.out,if_neg U])
  have l:G.there w.heap.size 0 2:=k.out.there
  obtain ⟨r,a⟩:∃r,G.setCells w.heap.size 0 [.int .i64 0,.string ⟨#[]⟩]=r:=⟨_,rfl⟩
  have A:=ah (z.out G L.out k.out)
  rw [a] at A
  have j:=ah a
  clear a U h
  go_wp2_with (refine aj rfl 24 _ _ rfl w.heap.size 0 [.int .i64 0,.string ⟨#[]⟩] rfl rfl 2 rfl l u.out (by intro v M;simp at M;rcases M with rfl|rfl<;>rfl) ?_;rw [j.out])
  have i:=A.out.2.range
  (try simp only [Exit.inBlock,Exit.then])
  refine aD rfl w.heap.size 0 rfl [.int .i64 0,.string ⟨#[]⟩] _ i underlying24 rfl R rfl _ rfl ?_
  exact iM y.out A.out.1
 have m:=ah (show Calls prog 13 #[.agg (obC ob0).toArray] V _ from Ig 0 ⟨#[]⟩ F7 V)
 have y:Hid (lq b=none):=ah (by rw [D.out,t])
 generalize F:obC ob0=E at x h f d K p m ⊢
 clear t F D O
 go_upto_region 4 with (refine aj rfl 24 _ _ rfl w3.heap.size 0 E rfl rfl 2 d.out ad.out u.out f.out ?_;rw [K.out])
 go_wp2_with (refine wpList_load_mid rfl 24 _ rfl w3.heap.size 0 rfl E _ x underlying24 rfl h ?_)
 refine m.out.mono ?_
 rintro e G ⟨rfl,g⟩
 have k:=ah (ac.out.below g)
 have L:=bth T g
 clear g x h
 have l:G.there w.heap.size 0 2:=k.out.there
 obtain ⟨r,a⟩:∃r,G.setCells w.heap.size 0 [.int .i64 0,.string ⟨#[]⟩]=r:=⟨_,rfl⟩
 have A:=ah (z.out G L.out k.out)
 rw [a] at A
 have j:=ah a
 clear a
 go_wp2_with (refine aj rfl 24 _ _ rfl w.heap.size 0 [.int .i64 0,.string ⟨#[]⟩] rfl rfl 2 rfl l u.out (by intro v M;simp at M;rcases M with rfl|rfl<;>rfl) ?_;rw [j.out])
 have i:=A.out.2.range
 (try simp only [Exit.inBlock,Exit.then])
 refine aD rfl w.heap.size 0 rfl [.int .i64 0,.string ⟨#[]⟩] _ i underlying24 rfl R rfl _ rfl ?_
 exact iM y.out A.out.1
def wG:ByteArray:=⟨#[83,76,79,49]⟩
theorem Mq (b:ByteArray):(unS b).size≤b.size:=by
 unfold unS
 cases hu:bH b.data.toList with
 | none=>exact Nat.zero_le _
 | some l =>
  show (ofB l).size≤_
  rw [aK]
  unfold bH at hu
  split at hu
  ·cases hu
   rw [List.length_take]
   have:b.data.toList.length=b.size:=by simp
   omega
  cases hu
theorem Lb {b:ByteArray} (h:gV b=false):jL b=none:=by
 unfold jL
 unfold gV at h
 cases hu:bH b.data.toList with
 | none=>rfl
 | some l=>rw [hu] at h;cases h
theorem K9 {b:ByteArray} (h:(unS b).size<4):jL b=none:=by
 unfold jL
 unfold unS at h
 cases hu:bH b.data.toList with
 | none=>rfl
 | some l =>
  rw [hu] at h
  change (ofB l).size<4 at h
  rw [aK] at h
  dsimp only
  rw [if_neg]
  intro e
  have:=congrArg List.length e
  rw [List.length_take] at this
  change _=4 at this
  omega
theorem K8 {b:ByteArray} (d:gV b=true) (h:4≤(unS b).size):jL b=if (unS b).extract 0 4=wG then aR ((unS b).extract 4 (unS b).size).data.toList else none:=by
 unfold jL
 unfold gV at d
 have f:=ko (unS b) 4
 have i:=J9 (unS b) 4 h
 have e:((unS b).extract 0 4=wG)↔(unS b).data.toList.take 4=fU:=by
  rw [←f]
  exact ⟨fun h=>by rw [h];rfl,fun h=>gU (by rw [h];rfl)⟩
 cases hu:bH b.data.toList with
 | none=>rw [hu] at d;cases d
 | some l =>
  dsimp only
  rw [i]
  have g:(unS b).data.toList=l:=by
   unfold unS
   rw [hu]
   exact aS l
  rw [g] at e ⊢
  by_cases a:l.take 4=fU
  ·rw [if_pos a,if_pos (e.2 a)]
  rw [if_neg a,if_neg (fun h=>a (e.1 h))]
theorem vJ (b:ByteArray) (w:World) (hb:b.size≤1000000):Calls prog 6 #[.string b] w (vk (jL b) w):=by
 have af:=yO
 obtain ⟨W0,K⟩:∃W,w.alloc (.cells #[.int .i64 0,.string ⟨#[]⟩] 24)=W:=⟨_,rfl⟩
 have H:Hid (ak W0 w.heap.size 24 [.int .i64 0,.string ⟨#[]⟩]):=ah (by rw [←K];exact ak.new w 24 [.int .i64 0,.string ⟨#[]⟩])
 have J:Hid (Below w.heap.size w W0):=ah (by rw [←K];exact bal)
 have y:=ah (Ac b W0 (by omega))
 have ae:(unS b).size≤1000000:=Nat.le_trans (Mq b) hb
 have E:=ah bM
 have G:=ah K
 have i:=ah (Lb (b:=b))
 have x:=ah (K9 (b:=b))
 have l:=ah (K8 (b:=b))
 clear K hb
 generalize unS b=us at y ae x l
 generalize gV b=u at y i l
 have P:((us.extract 0 4).toList==wG.toList)=decide (us.extract 0 4=wG):=KH _ _
 rw [show wG.toList=[83,76,79,49] from by rw [ByteArray.toList_eq];rfl] at P
 have D:=ah (fun (h:4≤us.size) w=>I4 us 4 h w)
 have B:=ah (fun (h:4≤us.size) w=>IZ us 4 h w)
 have z:4≤us.size→(us.extract 4 us.size).size≤1000000:=fun h=>by
  rw [Lib.size_eq,J9 us 4 h,List.length_drop]
  have:us.data.toList.length=us.size:=by simp
  omega
 generalize us.extract 0 4=t at P l D
 generalize us.extract 4 us.size=s at l B z
 have I:(prog.info? 24).map (·.size)=some ([.int .i64 0,.string ⟨#[]⟩]:List Value).length:=bM
 have n:Hid (∀W,Below w.heap.size w W→ak W w.heap.size 24 [.int .i64 0,.string ⟨#[]⟩]→ ∀cs:List Value,cs.length=2→Below w.heap.size w (W.setCells w.heap.size 0 cs)∧ak (W.setCells w.heap.size 0 cs) w.heap.size 24 cs):=ah fun W h1 h2 cs hc =>
  ⟨below_setCells _ (Nat.le_refl _) _ _ _ h1,h2.set hc⟩
 cases u with
 | false =>
  have q:Hid (jL b=none):=ah (i.out rfl)
  clear l x i P z
  go_enter func6,ntmps6
  go_upto_region 1 with fail
  rw [G.out]
  go_wp2_with fail
  refine y.out.mono ?_
  rintro e w1 ⟨rfl,d⟩
  have g:=ah (H.out.below d)
  have p:=bth J d
  clear d
  have m:w1.there w.heap.size 0 2:=g.out.there
  obtain ⟨r,a⟩:∃r,w1.setCells w.heap.size 0 [.int .i64 0,.string ⟨#[]⟩]=r:=⟨_,rfl⟩
  have j:=ah (n.out w1 p.out g.out [.int .i64 0,.string ⟨#[]⟩] rfl)
  rw [a] at j
  have f:=ah a
  clear a
  go_wp2_with (refine aj rfl 24 _ _ rfl w.heap.size 0 [.int .i64 0,.string ⟨#[]⟩] rfl rfl 2 rfl m E.out (by intro v A;simp at A;rcases A with rfl|rfl<;>rfl) ?_;rw [f.out])
  have k:=j.out.2.range
  (try simp only [Exit.inBlock,Exit.then])
  refine aD rfl w.heap.size 0 rfl [.int .i64 0,.string ⟨#[]⟩] _ k underlying24 rfl I rfl _ rfl ?_
  exact iM q.out j.out.1
 | true =>
  by_cases h4:us.size<4
  ·have d1:(us.size:Int)<4:=by omega
   have q:Hid (jL b=none):=ah (x.out h4)
   clear l x i P z h4
   go_enter func6,ntmps6
   go_upto_region 1 with fail
   rw [G.out]
   go_wp2_with fail
   refine y.out.mono ?_
   rintro e w1 ⟨rfl,d⟩
   have g:=ah (H.out.below d)
   have p:=bth J d
   clear d
   have m:w1.there w.heap.size 0 2:=g.out.there
   obtain ⟨r,a⟩:∃r,w1.setCells w.heap.size 0 [.int .i64 0,.string ⟨#[]⟩]=r:=⟨_,rfl⟩
   have j:=ah (n.out w1 p.out g.out [.int .i64 0,.string ⟨#[]⟩] rfl)
   rw [a] at j
   have f:=ah a
   clear a
   go_wp2_with (refine aj rfl 24 _ _ rfl w.heap.size 0 [.int .i64 0,.string ⟨#[]⟩] rfl rfl 2 rfl m E.out (by intro v A;simp at A;rcases A with rfl|rfl<;>rfl) ?_;rw [f.out])
   have k:=j.out.2.range
   (try simp only [Exit.inBlock,Exit.then])
   refine aD rfl w.heap.size 0 rfl [.int .i64 0,.string ⟨#[]⟩] _ k underlying24 rfl I rfl _ rfl ?_
   exact iM q.out j.out.1
  have d1:¬(us.size:Int)<4:=by omega
  have F:4≤us.size:=by omega
  have Y:=D.out F
  have V:=B.out F
  have R:=l.out rfl F
  have hs:=z F
  rw [show ((4:Nat):Int)=4 from rfl] at Y V
  clear D B
  by_cases Q:t=wG
  ·rw [decide_eq_true Q] at P
   rw [if_pos Q] at R
   have HL:=ah R
   clear R Q l x i z
   go_enter func6,ntmps6
   go_upto_region 1 with fail
   rw [G.out]
   go_wp2_with fail
   refine y.out.mono ?_
   rintro e w1 ⟨rfl,d⟩
   have g:=ah (H.out.below d)
   have p:=bth J d
   clear d
   have ad:=ah (Ai s w1 hs)
   go_wp2_with fail
   refine ad.out.mono ?_
   rintro e X ⟨O,U⟩
   have N:=ah (g.out.below O)
   have T:=bth p O
   clear O
   have m:X.there w.heap.size 0 2:=N.out.there
   rcases U with ⟨o,C,rfl⟩|⟨C,rfl⟩
   ·have ac:Hid (jL b=some o):=ah (by rw [HL.out,C])
    have L:=ah (jd o)
    have M:Hid ((obC o).length=2):=ah rfl
    have Z:(prog.info? 24).map (·.size)=some (obC o).length:=bM
    obtain ⟨r,a⟩:∃r,X.setCells w.heap.size 0 (obC o)=r:=⟨_,rfl⟩
    have j:=ah (n.out X T.out N.out (obC o) rfl)
    rw [a] at j
    have f:=ah a
    clear a C
    generalize S:obC o=co at L M Z f j ⊢
    have aa:=ah S
    clear S
    go_wp2_with (refine aj rfl 24 _ _ rfl w.heap.size 0 co rfl rfl 2 M.out m E.out L.out ?_;rw [f.out])
    have k:=j.out.2.range
    (try simp only [Exit.inBlock,Exit.then])
    refine aD rfl w.heap.size 0 rfl co _ k underlying24 rfl Z rfl _ rfl ?_
    exact wV ac.out aa.out j.out.1
   have q:Hid (jL b=none):=ah (by rw [HL.out,C])
   obtain ⟨r,a⟩:∃r,X.setCells w.heap.size 0 [.int .i64 0,.string ⟨#[]⟩]=r:=⟨_,rfl⟩
   have j:=ah (n.out X T.out N.out [.int .i64 0,.string ⟨#[]⟩] rfl)
   rw [a] at j
   have f:=ah a
   clear a C
   have ab:obC ob0=[.int .i64 0,.string ⟨#[]⟩]:=rfl
   rw [ab]
   go_wp2_with (refine aj rfl 24 _ _ rfl w.heap.size 0 [.int .i64 0,.string ⟨#[]⟩] rfl rfl 2 rfl m E.out (by intro v A;simp at A;rcases A with rfl|rfl<;>rfl) ?_;rw [f.out])
   have k:=j.out.2.range
   (try simp only [Exit.inBlock,Exit.then])
   refine aD rfl w.heap.size 0 rfl [.int .i64 0,.string ⟨#[]⟩] _ k underlying24 rfl I rfl _ rfl ?_
   exact iM q.out j.out.1
  rw [decide_eq_false Q] at P
  rw [if_neg Q] at R
  have q:Hid (jL b=none):=ah (R)
  clear l x i R Q z
  go_enter func6,ntmps6
  go_upto_region 1 with fail
  rw [G.out]
  go_wp2_with fail
  refine y.out.mono ?_
  rintro e w1 ⟨rfl,d⟩
  have g:=ah (H.out.below d)
  have p:=bth J d
  clear d
  have m:w1.there w.heap.size 0 2:=g.out.there
  obtain ⟨r,a⟩:∃r,w1.setCells w.heap.size 0 [.int .i64 0,.string ⟨#[]⟩]=r:=⟨_,rfl⟩
  have j:=ah (n.out w1 p.out g.out [.int .i64 0,.string ⟨#[]⟩] rfl)
  rw [a] at j
  have f:=ah a
  clear a
  go_wp2_with (refine aj rfl 24 _ _ rfl w.heap.size 0 [.int .i64 0,.string ⟨#[]⟩] rfl rfl 2 rfl m E.out (by intro v A;simp at A;rcases A with rfl|rfl<;>rfl) ?_;rw [f.out])
  have k:=j.out.2.range
  (try simp only [Exit.inBlock,Exit.then])
  refine aD rfl w.heap.size 0 rfl [.int .i64 0,.string ⟨#[]⟩] _ k underlying24 rfl I rfl _ rfl ?_
  exact iM q.out j.out.1
theorem Ak (k:Int) (s:ByteArray) (w:World) (l:s.size≤100000):Calls prog 8 #[.agg #[.int .i64 k,.string s]] w fun e w'=>e= .returned (.string (aZ ⟨k,s⟩))∧Below w.heap.size w w':=by
 have h:=ah (fun w=>CP k s w (by omega))
 have f:(ofB (bA ⟨k,s⟩)).size≤1000000:=by
  have h1:=jJ (o:=⟨k,s⟩) (by show s.size<128^3;omega)
  have n:(aZ ⟨k,s⟩).size=4+(bA ⟨k,s⟩).length+4:=by unfold aZ;rw [aK,iB,List.length_append];rfl
  have q:(aZ ⟨k,s⟩).size≤s.size+12:=h1
  rw [aK]
  omega
 have i:ofB (bS (⟨#[83,76,79,49]⟩++ofB (bA ⟨k,s⟩):ByteArray).data.toList)=aZ ⟨k,s⟩:=by
  rw [jN,aS];rfl
 have a:(⟨#[83,76,79,49]⟩++ofB (bA ⟨k,s⟩):ByteArray).size≤1000000000:=by
  rw [ByteArray.size_append]
  show 4+_≤_
  omega
 have HS:=ah (fun w=>wL (⟨#[83,76,79,49]⟩++ofB (bA ⟨k,s⟩)) w a)
 rw [i] at HS
 generalize aZ ⟨k,s⟩=p at HS ⊢
 generalize ofB (bA ⟨k,s⟩)=fb at HS h a
 have j:∀W,(Op.stringOp .add ⟨#[83,76,79,49]⟩ fb).run prog W= .ok (.string (⟨#[83,76,79,49]⟩++fb)) W:=fun W=>run_string_add_sum W _ _ (by rw [ByteArray.size_append] at a;omega)
 have b:Hid (∀o,Below w.heap.size w (w.alloc o)):=ah (fun o=>bal)
 clear f i a l
 go_enter func8,ntmps8
 go_wp2_with fail
 refine (h.out _).mono ?_
 rintro e w1 ⟨rfl,hb⟩
 have g:=ah ((b.out _).trans (hb.mono (b.out _).size))
 clear hb
 go_wp2_with fail
 refine (HS.out w1).mono ?_
 rintro e m ⟨rfl,hb⟩
 have d:=bth g hb
 clear hb
 go_wp2_with fail
 go_ret
 exact ⟨rfl,d.out⟩
end
section
open Go.RowKit Go.Maps
theorem Ao (x:ByteArray) (w:World):Calls prog 119 #[.string x] w fun e w'=> ∃b,e= .returned (.func (.func 182) #[] #[.pointer (some ⟨b,0,none⟩)])∧w'.cell? ⟨b,0,none⟩=some (.string x)∧Below w.heap.size w w':=by
 obtain ⟨W,a⟩:∃W,w.alloc (.cells #[.string x] 9)=W:=⟨_,rfl⟩
 have g:Hid (Below w.heap.size w W):=ah (by rw [←a];exact bal)
 have f:Hid (W.cell? ⟨w.heap.size,0,none⟩=some (.string x)):=ah (by rw [←a];exact (ak.new w 9 [.string x]).range 0 _ rfl)
 have d:=ah a
 clear a
 go_enter func119,ntmps119
 go_wp2_with fail
 rw [d.out]
 go_ret
 exact ⟨_,rfl,f.out,g.out⟩
def rmF (f:ByteArray→Option Nat) (x y:ByteArray):Option Nat:=if y=x then none else f y
theorem yF (sn h n:Nat) (x:ByteArray) (f:ByteArray→Option Nat) (w:World) (hm:aP aT w sn n f) (c1:w.cell? ⟨h,0,none⟩=some (.string x)) (hx:x.size≤maxLen) :
  Calls prog 182 #[.map (some sn),.pointer (some ⟨h,0,none⟩)] w fun e w'=>e= .returned (.tuple #[])∧aP aT w' sn n (rmF f x)∧w.grownBy w' (some sn):=by
 have i:=ah hm
 clear hm
 go_enter func182,ntmps182
 go_wp2_with (refine kG (enc:=aT) rfl _ _ 53 50 rfl underlying53 sn n _ rfl i.out x hx rfl ?_)
 intro j b a
 have d:=ah b
 have g:=ah a
 clear b a
 go_wp2_with fail
 go_end0
 exact ⟨rfl,d.out,g.out⟩
theorem Gw {N:Nat} {f:ByteArray→Option Nat} {x:ByteArray} (h:dI N f):dI N (rmF f x):=by
 obtain ⟨l,h1,d,a,b⟩:=h
 refine ⟨l.filter fun y=>decide (y≠x),h1.filter _,Nat.le_trans (List.length_filter_le _ _) d,fun y hy=>a y (List.mem_filter.1 hy).1,fun y=> ?_⟩
 unfold rmF
 rw [List.mem_filter,decide_eq_true_iff]
 by_cases e:y=x
 ·simp [e]
 rw [if_neg e,b]
 exact ⟨fun h=>⟨h,e⟩,fun h=>h.1⟩
section
variable {O:Nat → Prop} {N R M:Nat} {w:World} {g:Nat} {q:Int} {L:LK} {sy:Nat → Bool} {p:Pl} {m:Dm}
theorem BF (w:World) (h:DS O N R M w g q p m) {k fb:Nat} (a:k<3) (Y:N+R≤900000) {x:ByteArray} (hx:aJ x=true) (F:m.seen k x=some fb) :
  Calls prog 65 #[.pointer (some ⟨g,0,none⟩),.string (aU k),.string x] w fun e w'=>e= .returned (.int .i64 0)∧ ∃E,DS O N (R+1) M w' g q { p with pd:=upN p.pd k E } { m with seen:=upN m.seen k (rmF (m.seen k) x) }∧Kp O w w':=by
 obtain ⟨W,B⟩:∃W,w.alloc (.cells #[.string x] 9)=W:=⟨_,rfl⟩
 have i:Below w.heap.size w W:=by rw [←B];exact bal
 have u:W.cell? ⟨w.heap.size,0,none⟩=some (.string x):=by rw [←B];exact (ak.new w 9 [.string x]).range 0 _ rfl
 have U:=bT hx
 have C:=ah (gF W (h.below i) a (some ⟨w.heap.size,0,none⟩) 1 1 (by have:=jG w.heap.size x W u (by omega);rwa [hx] at this))
 have n:=ah h
 have P:=ah i
 have L:=ah B
 have d:x.size≤maxLen:=by unfold maxLen;omega
 generalize H:aU k=dn at C ⊢
 clear h H B i u
 go_enter func65,ntmps65
 go_wp2_with fail
 rw [L.out]
 refine C.out.mono ?_
 rintro e w1 ⟨rfl,t⟩
 have o:=bth P t
 have j:=n.out.below o.out
 have v:=(j.seen k a).1.look underlying53 (eH w1) (x:=x) d
 rw [F] at v
 dsimp only [Option.map,Option.getD,aT] at v
 have X:w1.cell? ⟨p.dir k,0,none⟩=some (.map (some (p.sn k))):=ak.range (j.dir k a) 0 _ rfl
 have s:=ah (Ao x w1)
 have G:=ah d
 have HS:=ah F
 clear t C P d F hx j L
 go_wp2_with fail
 refine s.out.mono ?_
 rintro e I ⟨T,rfl,J,r⟩
 have l:=bth o r
 have Q:=ah (nC w I n.out l.out a (N':=N) (Nat.le_refl N) (by omega) (f:=rmF (m.seen k) x) (dt:=m.dat) 182 #[.pointer (some ⟨T,0,none⟩)] (enters_of func182 (by kernel_rfl) rfl)
  ((yF (p.sn k) T (N+R) x (m.seen k) I ((n.out.below l.out).seen k a).1 J G.out).mono fun e w' h=>⟨h.1,(by
   obtain ⟨D,q1,q2⟩:=h.2.1
   exact ⟨D,q1.mono (by omega),q2⟩),h.2.2⟩) (Gw (n.out.seen k a).2) (fun _ _=>rfl)
  (fun y b hy=>by
   unfold rmF at hy
   split at hy
   ·cases hy
   exact .inl ⟨y,hy⟩)
  (fun y z b hy A=>by
   unfold rmF at hy A
   split at hy
   ·cases hy
   split at A
   ·cases A
   exact (n.out.one k k y z b a a hy A).2))
 clear J r s
 go_wp2_with fail
 refine Q.out.mono ?_
 rintro e w3 ⟨rfl,E,S,K⟩
 have V:=ah (And.intro S K)
 clear S K Q
 go_wp2_with fail
 go_ret
 exact ⟨rfl,E,V.out⟩
theorem qj {k:Nat} {x:ByteArray} {d:ByteArray×Nat} (h:DV O N R M w g q L sy) (o:k<3) (s:N+R≤900000) (hx:aJ x=true) (r:L k x=some d) :
  Calls prog 65 #[.pointer (some ⟨g,0,none⟩),.string (aU k),.string x] w (nH O N (R+1) M g q (L.put k x none) (upN sy k false) w):=by
 obtain ⟨p,m,h1,l,u⟩:=h
 obtain ⟨b,hb,rfl⟩:=lS ((l k x o).symm.trans r)
 refine (BF w h1 o s hx hb).mono ?_
 rintro e w' ⟨rfl,y,t,v⟩
 refine ⟨rfl,⟨_,_,t,fun j z f=> ?_,fun j f i=> ?_⟩,v⟩
 ·show LK.put _ k x none j z=(upN m.seen k (rmF (m.seen k) x) j z).map m.dat
  by_cases a:j=k
  ·subst a
   rw [aQ]
   unfold rmF
   by_cases n:z=x
   ·subst n
    rw [LK.bG,if_pos rfl];rfl
   rw [LK.aV (fun h=>n h.2),if_neg n,l j z f]
  rw [aL a,LK.aV (fun h=>a h.1),l j z f]
 show m.sett j=upN m.seen k (rmF (m.seen k) x) j
 by_cases a:j=k
 ·rw [a,aQ] at i;cases i
 rw [aL a] at i ⊢;exact u j f i
end
theorem aP.le {α:Type} {enc:α→Value} {w:World} {b n n':Nat} {f:ByteArray→Option α} (h:aP enc w b n f) (a:n≤n'):aP enc w b n' f:=by
 obtain ⟨D,h1,d⟩:=h;exact ⟨D,h1.mono a,d⟩
abbrev FiF:=Nat→ByteArray→Option Nat
structure OfX (q:Int) (n:Nat) (L:List Fl) (F:FiF) (w0 w:World):Prop where
 size:n + 11 ≤ w.heap.size
 map:aP aT w n 3 fun x => (aW x).map fun j => n + 4 + 3 * j
 dsk:ak w (n + 1) 49 [.map (some n),.int .i64 q,.int .i64 0,.bool false,.bool false]
 dirs:∀ j,j < 3 → ak w (n + 4 + 3 * j) 56 [.map (some (n + 2 + 3 * j)),.map (some (n + 3 + 3 * j)),.slice none 0 0]
 seen:∀ j,j < 3 → aP aT w (n + 2 + 3 * j) L.length (F j) ∧ dI L.length (F j)
 sett:∀ j,j < 3 → ∃ m g,aP aT w (n + 3 + 3 * j) m g
 file:∀ j x b,j < 3 → F j x = some b → ∃ s,qb L j x = some s ∧ n + 11 ≤ b ∧ lM w b (s,s.size)
 gone:∀ j x,j < 3 → F j x = none → qb L j x = none
 one:∀ i j x y b,i < 3 → j < 3 → F i x = some b → F j y = some b → i = j ∧ x = y
 bel:Below n w0 w
theorem OfX.below {q:Int} {n:Nat} {L:List Fl} {F:FiF} {w0 w w':World} (h:OfX q n L F w0 w) (hb:Below w.heap.size w w'):OfX q n L F w0 w' where
 size:=Nat.le_trans h.size hb.size
 map:=h.map.on hb
 dsk:=h.dsk.below hb
 dirs:=fun j a=>(h.dirs j a).below hb
 seen:=fun j a=>⟨(h.seen j a).1.on hb,(h.seen j a).2⟩
 sett:=fun j a=>by obtain ⟨m,g,h1⟩:=h.sett j a;exact ⟨m,g,h1.on hb⟩
 file:=fun j x b a e=>by obtain ⟨s,h1,f,d⟩:=h.file j x b a e;exact ⟨s,h1,f,ak.below d hb⟩
 gone:=h.gone
 one:=h.one
 bel:=h.bel.trans (hb.mono (by have:=h.size;omega))
theorem OfX.skip {q:Int} {n:Nat} {L:List Fl} {F:FiF} {f:Fl} {w0 w:World} (h:OfX q n L F w0 w) (d:∀j,dP f j=false):OfX q n (L++[f]) F w0 w:=by
 have e:∀j,qb (L++[f]) j=qb L j:=fun j=>by funext x;rw [nE,d,if_neg (by simp)]
 exact ⟨h.size,h.map,h.dsk,h.dirs,fun j a=>⟨(h.seen j a).1.le (by simp),(h.seen j a).2.mono (by simp)⟩,h.sett,fun j x b a=>by rw [e];exact h.file j x b a,fun j x a=>by rw [e];exact h.gone j x a,h.one,h.bel⟩
def yL (F:FiF) (j:Nat) (x:ByteArray) (b:Nat):FiF:=fun i y=>if i=j∧y=x then some b else F i y
theorem KW {F:FiF} {j:Nat} {x:ByteArray} {b:Nat}:yL F j x b j=fun y=>if y=x then some b else F j y:=by funext y;unfold yL;simp
theorem Jd {F:FiF} {i j:Nat} {x:ByteArray} {b:Nat} (h:i≠j):yL F j x b i=F i:=by funext y;unfold yL;rw [if_neg (fun e=>h e.1)]
theorem OfX.put {q:Int} {n:Nat} {L:List Fl} {F:FiF} {f:Fl} {w0 w W w':World} (h:OfX q n L F w0 w) {j:Nat} (H:j<3) (t:∀i,dP f i=decide (i=j)) (E:aJ f.name=true)
  (G:Below w.heap.size w W) (d:lM W w.heap.size (f.data,f.data.size)) (hm:aP aT w' (n+2+3*j) (L.length+1) fun y=>if y=f.name then some w.heap.size else F j y) (v:W.grownBy w' (some (n+2+3*j))):OfX q n (L++[f]) (yL F j f.name w.heap.size) w0 w':=by
 have h1:=h.below G
 have A:=h.size
 have a:Chg (fun k=>k=n+2+3*j) W w':=Chg.dW v (fun k e=>(Option.some.inj e).symm)
 have p:∀i x b,i<3→F i x=some b→b<w.heap.size:=fun i x b hi e=>by obtain ⟨s,_,_,B⟩:=h.file i x b hi e;exact ak.lt B
 have z:(L++[f]).length=L.length+1:=by simp
 refine ⟨Nat.le_trans h1.size v.size,h1.map.chg a (by omega),h1.dsk.chg a (by omega),fun i hi=>(h1.dirs i hi).chg a (by omega),fun i hi=> ?_,fun i hi=> ?_,fun i x b hi e=> ?_,fun i x hi e=> ?_,fun i k x y b hi u o l=> ?_,Chg.below h1.bel a (by have:=h1.size;omega) (fun k e=>by omega)⟩
 ·by_cases e:i=j
  ·subst e
   rw [KW,z]
   exact ⟨hm,(h1.seen i hi).2.put E⟩
  rw [Jd e,z]
  exact ⟨((h1.seen i hi).1.le (by omega)).chg a (by omega),(h1.seen i hi).2.mono (by omega)⟩
 ·obtain ⟨m,g,r⟩:=h1.sett i hi
  exact ⟨m,g,r.chg a (by omega)⟩
 ·rw [nE,t]
  unfold yL at e
  by_cases c:i=j∧x=f.name
  ·rw [if_pos c] at e
   cases e
   rw [if_pos ⟨decide_eq_true c.1,c.2.symm⟩]
   exact ⟨f.data,rfl,A,ak.chg d a (by omega)⟩
  rw [if_neg c] at e
  rw [if_neg (fun h=>c ⟨of_decide_eq_true h.1,h.2.symm⟩)]
  obtain ⟨s,r,C,D⟩:=h1.file i x b hi e
  exact ⟨s,r,C,ak.chg D a (by omega)⟩
 ·rw [nE,t]
  unfold yL at e
  by_cases c:i=j∧x=f.name
  ·rw [if_pos c] at e;cases e
  rw [if_neg c] at e
  rw [if_neg (fun h=>c ⟨of_decide_eq_true h.1,h.2.symm⟩)]
  exact h.gone i x hi e
 unfold yL at o l
 by_cases c1:i=j∧x=f.name
 ·rw [if_pos c1] at o
  by_cases c2:k=j∧y=f.name
  ·exact ⟨c1.1.trans c2.1.symm,c1.2.trans c2.2.symm⟩
  rw [if_neg c2] at l
  have:=p k y b u l
  have:=Option.some.inj o
  omega
 rw [if_neg c1] at o
 by_cases c2:k=j∧y=f.name
 ·rw [if_pos c2] at l
  have:=p i x b hi o
  have:=Option.some.inj l
  omega
 rw [if_neg c2] at l
 exact h.one i k x y b hi u o l
theorem OfX.first {q:Int} {n:Nat} {w0 w:World} (h:Eo n 3 w0 w) (hx:ak w (n+1) 49 [.map (some n),.int .i64 q,.int .i64 0,.bool false,.bool false]):OfX q n [] (fun _ _=>none) w0 w :=
 ⟨by have:=h.size;omega,h.map.ext fun x _=>by
  cases d:aW x with
  | none=>rfl
  | some j=>dsimp only;rw [if_pos (bO d).1];rfl,hx,h.dirs,fun j a=>⟨(h.seen j a).1,[],List.nodup_nil,by simp,(by intro x hx;cases hx),by intro x;simp⟩,fun j a=>⟨_,_,(h.seen j a).2⟩,fun j x b a e=>(by cases e),fun j x a _=>rfl,fun i j x y b hi a e=>(by cases e),h.bel⟩
theorem OfX.settled {q:Int} {n:Nat} {L:List Fl} {F:FiF} {w0 W w:World} (h:OfX q n L F w0 W) (a:Chg (vS n W.heap.size) W w)
  (hd:∀j,j<3→ak w (n+4+3*j) 56 [.map (some (n+2+3*j)),.map (some (n+3+3*j)),.slice none 0 0]) (i:∀j,j<3→ ∃m g,aP aT w (n+3+3*j) m g):OfX q n L F w0 w:=by
 have r:=h.size
 refine ⟨Nat.le_trans r a.size,h.map.chg a (by unfold vS;omega),h.dsk.chg a (by unfold vS;omega),hd,fun j d=>⟨(h.seen j d).1.chg a (by unfold vS;omega),(h.seen j d).2⟩,i,fun j x b d e=> ?_,h.gone,h.one,Chg.below h.bel a (by omega) (fun k p=>by unfold vS at p;omega)⟩
 obtain ⟨s,o,l,f⟩:=h.file j x b d e
 exact ⟨s,o,l,ak.chg f a (by have:=ak.lt f;unfold vS;omega)⟩
def lkF (L:List Fl):LK:=fun k x=>(qb L k x).map fun s=>(s,s.size)
theorem OfX.dv {q:Int} {n M:Nat} {L:List Fl} {F:FiF} {w0 w:World} (h:OfX q n L F w0 w) (u:∀j,j<3→aP aT w (n+3+3*j) L.length (F j)) (A:∀f∈L,f.data.size≤M) (G:5≤n):DV (fun b=>b<n) L.length 0 M w (n+1) q (lkF L) (fun _=>true):=by
 have hd:∀b,∃d:ByteArray×Nat,∀j x,j<3→F j x=some b→ ∃s,qb L j x=some s∧d=(s,s.size):=fun b=>by
  by_cases c:∃j x,j<3∧F j x=some b
  ·obtain ⟨j,x,g,e⟩:=c
   obtain ⟨s,m,_⟩:=h.file j x b g e
   refine ⟨(s,s.size),fun i y hi t=> ?_⟩
   obtain ⟨rfl,rfl⟩:=h.one j i x y b g hi e t
   exact ⟨s,m,rfl⟩
  exact ⟨(⟨#[]⟩,0),fun j x g e=>absurd ⟨j,x,g,e⟩ c⟩
 obtain ⟨dt,l⟩:=Classical.axiomOfChoice hd
 refine ⟨⟨n,fun k=>n+4+3*k,fun k=>n+2+3*k,fun k=>n+3+3*k,fun _=> .slice none 0 0⟩,⟨F,F,dt⟩,?_,fun k x a=> ?_,fun k a _=>rfl⟩
 ·have E:=h.size
  refine ⟨h.dsk,h.map,fun k a=>h.dirs k a,fun k a=>⟨0,[],World.ownsRow_nil _ _ _ _,Nat.le_refl _⟩,fun k j b a g e=>(by cases e),fun k a=>h.seen k a,fun k a=>⟨u k a,(h.seen k a).2⟩,fun k x b a e=> ?_,fun k j x y b a g B t=>h.one k j x y b a g B t,⟨?_,?_,fun k a=>⟨?_,?_,?_⟩,fun k b a e=>(by cases e)⟩,fun k a=>⟨?_,?_⟩,fun k j a g=> ?_,fun k j a g e=> ?_,fun k j a g e=> ?_,fun k j a g e=> ?_,fun b hb=> ?_,fun b hb=> ?_⟩
  ·have e:F k x=some b:=by rcases e with e|e<;>exact e
   obtain ⟨s,m,C,v⟩:=h.file k x b a e
   obtain ⟨D,o,r⟩:=l b k x a e
   rw [m] at o
   cases o
   obtain ⟨f,z,_,_,p⟩:=xM m
   dsimp only
   rw [r]
   exact ⟨v,by omega,by rw [←p];exact A f z,Nat.le_refl _⟩
  all_goals (try dsimp only at *)
  all_goals omega
 show lkF L k x=(F k x).map dt
 unfold lkF
 cases e:F k x with
 | none=>rw [h.gone k x a e];rfl
 | some b =>
  obtain ⟨s,o,r⟩:=l b k x a e
  rw [o]
  exact congrArg some r.symm
structure LpX (n:Nat) (W:World) (m:Nat) (F:FiF) (Lr:List ByteArray) (w:World):Prop where
 chg:Chg (vS n W.heap.size) W w
 dirs:∀ j,j < 3 → ak w (n + 4 + 3 * j) 56 [.map (some (n + 2 + 3 * j)),.map (some (n + 3 + 3 * j)),.slice none 0 0]
 sett:∀ j,j < 3 → ∃ m g,aP aT w (n + 3 + 3 * j) m g
 done:∀ j,j < 3 → aU j ∉ Lr → aP aT w (n + 3 + 3 * j) m (F j)
 rng:RangeT aT w n W.heap.size 3 (fun x => (aW x).map fun j => n + 4 + 3 * j) Lr
theorem Kk:∀ {j:Nat},j<3→aU j∈[bI,iZ,iR]:=by
 intro j a
 match j,a with
 | 0,_=>simp [aU]
 | 1,_=>simp [aU]
 | 2,_=>simp [aU]
theorem Kl {i j:Nat} (hi:i<3) (a:j<3) (h:aU i=aU j):i=j:=by
 have:=congrArg aW h
 rw [eO hi,eO a] at this
 exact Option.some.inj this
theorem BG (q:Int) (M:Nat) (v:Value) (l:List Fl) (w:World) (hv:pq w v l) (ho:Nw l) (hl:l.length≤1000000) (hM:∀f∈l,f.data.size≤M) (hG:cu w):Calls prog 7 #[.int .i64 q,v] w fun e w'=>e= .returned (.pointer (some ⟨w.heap.size+1,0,none⟩))∧DV (fun b=>b<w.heap.size) l.length 0 M w' (w.heap.size+1) q (lkF l) (fun _=>true)∧Below w.heap.size w w':=by
 have h5:=hG.laid.lt
 have a9:=hv
 obtain ⟨ao,cc,rfl,aw,hv⟩:=hv.open
 have HV:=ah a9
 have HO:=ah ho
 have HL:=ah hl
 have b0:=ah hM
 have H5:=ah h5
 have HN:=ah (Ki q w hG)
 have cg:=DY
 clear hv a9 ho hl hG hM h5
 obtain ⟨n,R⟩:∃n,w.heap.size=n:=⟨_,rfl⟩
 rw [R] at HN H5 ⊢
 have bo:=ah R
 clear R
 go_enter func7,ntmps7
 go_wp2_with fail
 refine HN.out.mono ?_
 rintro e w1 ⟨rfl,bb,D⟩
 have bm:Hid (OfX q n [] (fun _ _=>none) w w1):=ah (OfX.first bb D)
 clear bb D
 go_upto_region 3 with fail
 go_loopw [8,15] (fun _ i wr=> ∃(k:Nat) (F:FiF),k≤l.length∧i= .int .i64 (k:Int)∧Hid (OfX q n (l.take k) F w wr)) (fun _ i _=>(l.length-intOf i).toNat)
 case atStart=>exact ⟨0,_,by omega,rfl,bm⟩
 obtain ⟨a,rfl⟩:∃a:World,a=wr:=⟨_,rfl⟩
 obtain ⟨k,F,hk,rfl,HS⟩:=hrel
 by_cases L:k<l.length
 ·have af:=HS.out.bel
  rw [←bo.out] at af
  obtain ⟨ca,b9,e2,_,a1⟩:=(HV.out.below af).open
  cases e2
  obtain ⟨g,off,rfl,cd,I⟩:=a1 (by intro e;rw [e] at L;simp at L)
  have C:=I k L
  have k0:(0:Int)≤k:=by omega
  have k1:(k:Int)<l.length:=by omega
  have wk:IntKind.i64.wrap ((k:Int)+1)=(k:Int)+1:=IntWalk.i64_in _ (by unfold maxLen at aw;omega)
  have G:=ah (HO.out l[k] (List.getElem_mem L))
  have B:=ah (List.take_succ_eq_append_getElem L)
  generalize l[k]=f at C G B
  have c0:a.cell? ⟨g,off+k*3,none⟩=some (.string f.dir):=C 0 _ rfl
  have c1:a.cell? ⟨g,off+k*3+1,none⟩=some (.string f.name):=C 1 _ rfl
  have c2:a.cell? ⟨g,off+k*3+2,none⟩=some (.string f.data):=C 2 _ rfl
  clear I a1 C af
  have bl:=ah (there_alloc (n:=3) a #[.string ⟨#[]⟩,.string ⟨#[]⟩,.string ⟨#[]⟩] 32 rfl)
  have a8:=ah (ak.new a 32 [.string ⟨#[]⟩,.string ⟨#[]⟩,.string ⟨#[]⟩])
  obtain ⟨W,hW⟩:∃W,(a.alloc (.cells #[.string ⟨#[]⟩,.string ⟨#[]⟩,.string ⟨#[]⟩] 32)).setCells a.heap.size 0 (flC f)=W:=⟨_,rfl⟩
  have D:ak W a.heap.size 32 (flC f):=by rw [←hW];exact a8.out.set rfl
  have a6:Below a.heap.size a W:=by rw [←hW];exact below_setCells _ (Nat.le_refl _) _ _ _ bal
  have HX:=ah D
  have H:=ah (HS.out.below a6)
  have ce:=HS.out.size
  have HW:=ah hW
  have br:=ah oK
  have cf:Hid (a.heap.size<W.heap.size):=ah D.lt
  clear hW D a6 a8
  go_upto_region 5 with (refine aj rfl 32 _ _ rfl a.heap.size 0 (flC f) rfl rfl 3 rfl bl.out br.out (by intro v hv;unfold flC at hv;simp at hv;rcases hv with rfl|rfl|rfl<;>rfl) ?_;rw [HW.out])
  have E:=ah (fun (w':World) (h:aP aT w' n 3 fun x=>(aW x).map fun j=>n+4+3*j)=>h.look underlying47 (rW w') (x:=f.dir) G.out.1)
  have d:W.drew.cell? ⟨n+1,0,none⟩=some (.map (some n))∧W.drew.cell? ⟨a.heap.size,0,none⟩=some (.string f.dir)∧aP aT W.drew n 3 fun x=>(aW x).map fun j=>n+4+3*j :=
   ⟨H.out.dsk.range 0 _ rfl,HX.out.range 0 _ rfl,H.out.map.on (Below.refl _ _).drew⟩
  cases hw:aW f.dir with
  | none =>
   rw [hw] at E
   dsimp only [Option.map,Option.getD] at E
   have o:Hid (OfX q n (l.take (k+1)) F w W.drew):=ah (by
    rw [B.out]
    exact (H.out.below (Below.refl _ _).drew).skip fun j=>by unfold dP;rw [hw];rfl)
   clear hw
   refine wrL 7 (fun w'=>w'.cell? ⟨n+1,0,none⟩=some (.map (some n))∧w'.cell? ⟨a.heap.size,0,none⟩=some (.string f.dir)∧aP aT w' n 3 fun x=>(aW x).map fun j=>n+4+3*j) ?_
   refine WL.tk 0 d ?_
   refine WL.tk 1 d ?_
   refine WL.tk 2 d ?_
   refine WL.tk 3 d ?_
   refine WL.tk 4 d ?_
   refine WL.tk 5 d ?_
   refine WL.take (i:=6) (v:=.pointer none) rfl (by kernel_rfl) (by decide) (by decide +kernel) (by decide +kernel) (fun _ _ _ h=>h) rfl (fun w' ag=>uG 47 (.tmp 22) (.tmp 24) rfl (.map (some n)) (.string f.dir) _ rfl rfl (E.out w' ag.2.2)) d ?_
   simp only [Act.put,nz]
   refine WL.la 7 ?_
   go_wp2_with fail
   go_roundw
   case rel=>exact ⟨k+1,_,by omega,by go_num,o⟩
   case measure=>simp [intOf];omega
  | some j =>
   rw [hw] at E
   dsimp only [Option.map,Option.getD,aT] at E
   have r:=(bO hw).1
   have aE:Hid (∀i,dP f i=(decide (i=j)&&aJ f.name)):=ah (fun i=>by
    unfold dP
    rw [hw,decide_eq_true (show f.data.size≤1048576 by have:=G.out.2.2;omega),Bool.and_true]
    congr 1
    simp only [Option.some.injEq]
    exact decide_eq_decide.2 ⟨Eq.symm,Eq.symm⟩)
   have P:=ah (xJ f.name W.drew (by have:=G.out.2.1;omega))
   have e1:W.drew.cell? ⟨a.heap.size,1,none⟩=some (.string f.name):=HX.out.range 1 _ rfl
   clear hw
   refine wrL 7 (fun w'=>w'.cell? ⟨n+1,0,none⟩=some (.map (some n))∧w'.cell? ⟨a.heap.size,0,none⟩=some (.string f.dir)∧aP aT w' n 3 fun x=>(aW x).map fun j=>n+4+3*j) ?_
   refine WL.tk 0 d ?_
   refine WL.tk 1 d ?_
   refine WL.tk 2 d ?_
   refine WL.tk 3 d ?_
   refine WL.tk 4 d ?_
   refine WL.tk 5 d ?_
   refine WL.take (i:=6) (v:=.pointer (some ⟨n+4+3*j,0,none⟩)) rfl (by kernel_rfl) (by decide) (by decide +kernel) (by decide +kernel) (fun _ _ _ h=>h) rfl (fun w' ag=>uG 47 (.tmp 22) (.tmp 24) rfl (.map (some n)) (.string f.dir) _ rfl rfl (E.out w' ag.2.2)) d ?_
   simp only [Act.put,nz]
   refine WL.la 7 ?_
   cases A:aJ f.name with
   | false =>
    rw [A] at P
    go_wp2_with fail
    refine P.out.mono ?_
    rintro e t ⟨rfl,K⟩
    have o:Hid (OfX q n (l.take (k+1)) F w t):=ah (by
     rw [B.out]
     exact (H.out.below ((Below.refl _ _).drew.trans K)).skip fun j=>by rw [aE.out,A,Bool.and_false])
    clear K A
    go_wp2_with fail
    go_roundw
    case rel=>exact ⟨k+1,_,by omega,by go_num,o⟩
    case measure=>simp [intOf];omega
   | true =>
    rw [A] at P
    have a3:Hid (∀i,dP f i=decide (i=j)):=ah (fun i=>by rw [aE.out,A,Bool.and_true])
    have a5:=ah A
    have cb:(f.data.size:Int)≤1048576:=by have:=G.out.2.2;omega
    clear A
    go_wp2_with fail
    refine P.out.mono ?_
    rintro e t ⟨rfl,K⟩
    have ba:Hid (Below W.heap.size W t):=ah ((Below.refl _ _).drew.trans K)
    have N:=ah (HX.out.below ba.out)
    have S:=ah (H.out.below ba.out)
    have d2:t.cell? ⟨a.heap.size,2,none⟩=some (.string f.data):=N.out.range 2 _ rfl
    clear K
    go_upto_region 7 with fail
    have T:=(S.out.seen j r).1
    have bz:Hid (aJ f.name=true):=a5
    have bc:Hid ((l.take k).length≤k):=ah (by rw [List.length_take];omega)
    obtain ⟨kk,ae⟩:∃kk,(l.take k).length=kk:=⟨_,rfl⟩
    rw [ae] at T bc
    have b5:=ah ae
    have bj:=ah T
    have p:t.drew.cell? ⟨n+4+3*j,0,none⟩=some (.map (some (n+2+3*j)))∧t.drew.cell? ⟨a.heap.size,1,none⟩=some (.string f.name)∧t.drew.cell? ⟨a.heap.size,2,none⟩=some (.string f.data)∧aP aT t.drew (n+2+3*j) kk (F j) :=
     ⟨(S.out.dirs j r).range 0 _ rfl,N.out.range 1 _ rfl,N.out.range 2 _ rfl,T.on (Below.refl _ _).drew⟩
    clear ae T
    refine wrL 13 (fun w'=>w'.cell? ⟨n+4+3*j,0,none⟩=some (.map (some (n+2+3*j)))∧w'.cell? ⟨a.heap.size,1,none⟩=some (.string f.name)∧w'.cell? ⟨a.heap.size,2,none⟩=some (.string f.data)∧aP aT w' (n+2+3*j) kk (F j)) ?_
    refine WL.tk 0 p ?_
    refine WL.tk 1 p ?_
    refine WL.tk 2 p ?_
    refine WL.tk 3 p ?_
    refine WL.tk 4 p ?_
    refine WL.tk 5 p ?_
    refine WL.tk 6 p ?_
    refine WL.tk 7 p ?_
    refine WL.tk 8 p ?_
    refine WL.tk 9 p ?_
    refine WL.tk 10 p ?_
    refine WL.tk 11 p ?_
    refine WL.on 12 ?_
    go_wp2_with fail
    have u:Below t.heap.size t (t.alloc (.cells #[.string f.data,.int .i64 (f.data.size:Int)] 52)).drew:=bal.drew
    have am:lM (t.alloc (.cells #[.string f.data,.int .i64 (f.data.size:Int)] 52)).drew t.heap.size (f.data,f.data.size):=ak.new t 52 [.string f.data,.int .i64 (f.data.size:Int)]
    obtain ⟨W9,bd⟩:∃W,(t.alloc (.cells #[.string f.data,.int .i64 (f.data.size:Int)] 52)).drew=W:=⟨_,rfl⟩
    rw [bd] at u am ⊢
    have ai:W9.cell? ⟨n+4+3*j,0,none⟩=some (.map (some (n+2+3*j)))∧W9.cell? ⟨a.heap.size,1,none⟩=some (.string f.name)∧W9.cell? ⟨a.heap.size,2,none⟩=some (.string f.data)∧aP aT W9 (n+2+3*j) kk (F j) :=
     ⟨((S.out.dirs j r).below u).range 0 _ rfl,(N.out.below u).range 1 _ rfl,(N.out.below u).range 2 _ rfl,bj.out.on u⟩
    have b3:=ah am
    have bn:=ah u
    clear bd am u
    refine ⟨ai,?_⟩
    refine WL.la 13 ?_
    have b1:=ah ai.2.2.2
    have a7:f.name.size≤maxLen:=by have:=G.out.2.1;unfold maxLen;omega
    have a2:kk<maxLen:=by have h1:=bc.out;have h2:=HL.out;unfold maxLen;omega
    clear ai
    go_wp2_with (refine fQ (enc:=aT) rfl _ _ _ 53 50 rfl underlying53 (n+2+3*j) kk (F j) rfl b1.out f.name a7 t.heap.size rfl rfl a2 ?_)
    intro w' hm hg _
    have o:Hid (OfX q n (l.take (k+1)) (yL F j f.name t.heap.size) w w'):=ah (by
     rw [B.out]
     rw [←b5.out] at hm
     exact S.out.put r a3.out bz.out bn.out b3.out hm hg)
    clear hm hg a7 a2
    go_wp2_with fail
    go_roundw
    case rel=>exact ⟨k+1,_,by omega,by go_num,o⟩
    case measure=>simp [intOf];omega
 obtain rfl:k=l.length:=by omega
 rw [List.take_length] at HS
 have d0:a.cell? ⟨n+1,0,none⟩=some (.map (some n)):=HS.out.dsk.range 0 _ rfl
 have bu:Hid (∀x:ByteArray,x.size≤maxLen→(((aW x).map fun j=>n+4+3*j).isSome=true↔x∈[bI,iZ,iR])):=ah (fun x _=>by
  rw [Option.isSome_map]
  unfold aW
  by_cases h1:x=bI
  ·rw [if_pos h1];simp [h1]
  rw [if_neg h1]
  by_cases h2:x=iZ
  ·rw [if_pos h2];simp [h2]
  rw [if_neg h2]
  by_cases h3:x=iR
  ·rw [if_pos h3];simp [h3]
  rw [if_neg h3];simp [h1,h2,h3])
 go_wp2_with (refine fq (enc:=aT) rfl _ 47 46 rfl underlying47 n 3 _ [bI,iZ,iR] rfl HS.out.map (by decide) (by decide) bu.out ?_)
 intro t ab Q b7
 obtain ⟨C,ap⟩:∃C,a.heap.size=C:=⟨_,rfl⟩
 have ax:Hid (Chg (vS n a.heap.size) a t):=ah (Chg.dW Q (fun k e=>by cases e))
 have ar:Hid (LpX n a l.length F [bI,iZ,iR] t):=ah ⟨ax.out,fun j r=>(HS.out.dirs j r).kept Q (by simp),fun j r=>by
  obtain ⟨m,g,h1⟩:=HS.out.sett j r
  exact ⟨m,g,h1.grown Q (by simp)⟩,fun j r R=>absurd (Kk r) R,ab⟩
 rw [ap] at ax ⊢
 have X:=ah ap
 clear ab Q b7 ap d0
 go_upto_region 10 with fail
 go_loopw [10] (fun _ wr=> ∃Lr,Hid (LpX n a l.length F Lr wr)) (fun _ wr=>wr.rangeLeft n C)
 case atStart=>exact ⟨_,ar⟩
 obtain ⟨wl,rfl⟩:∃wl:World,wl=wr:=⟨_,rfl⟩
 obtain ⟨Lr,B⟩:=hrel
 have Y:=B.out.rng
 rw [X.out] at Y
 go_wp2_with (refine gH (enc:=aT) rfl _ rfl n C 3 _ Lr rfl Y ?_ ?_)
 ·intro bh
  clear Y
  have hE:=HS.out.settled B.out.chg B.out.dirs B.out.sett
  have o:=ah (And.intro (hE.dv (M:=M) (fun j r=>B.out.done j r (by rw [bh];simp)) b0.out H5.out) hE.bel)
  clear hE
  go_wp2_with fail
  go_ret
  exact ⟨rfl,o.out⟩
 intro x c w3 _ _ j al b2 ac ad J _ b8
 subst b2
 have r:=(bO al).1
 have V:n+11≤C:=by rw [←X.out];exact HS.out.size
 have an:Chg (vS n a.heap.size) a w3:=B.out.chg.trans (Chg.dW J (fun k e=> .inl (by rw [X.out];exact (Option.some.inj e).symm)))
 have U:∀j,j<3→ak w3 (n+4+3*j) 56 [.map (some (n+2+3*j)),.map (some (n+3+3*j)),.slice none 0 0]:=fun i hi=>(B.out.dirs i hi).kept J (fun e=>by have:=Option.some.inj e;omega)
 have Z:∀j,j<3→ ∃m g,aP aT w3 (n+3+3*j) m g:=fun i hi=>by
  obtain ⟨m,g,h1⟩:=B.out.sett i hi
  exact ⟨m,g,h1.grown J (fun e=>by have:=Option.some.inj e;omega)⟩
 have O:=HS.out.settled an U Z
 obtain ⟨a4,bi⟩:=O.seen j r
 obtain ⟨m,g,az⟩:=Z j r
 have b6:=ah (sI (n+4+3*j) (n+3+3*j) (n+2+3*j) m l.length g (F j) _ (AQ l j) w3 (U j r) (by omega) (by omega) (by omega) az a4
  (jA.nodup (Js l j)) (fun x hx=>by have:=DX (Gx hx);unfold maxLen;omega) (fun x hx=>by
   rw [AO]
   cases e1:F j x with
   | none=>rw [O.gone j x r e1];simp
   | some b=>obtain ⟨s,e2,_⟩:=O.file j x b r e1;rw [e2];simp) (Nat.le_trans (AP l j) HL.out))
 have aa:=ah ac
 have be:=ah ad
 have bs:=ah an
 have bt:=ah U
 have bx:=ah Z
 have bf:=ah (bO al).2
 have bk:Hid (∀i,i<3→aU i∉Lr→aP aT w3 (n+3+3*i) l.length (F i)):=ah (fun i hi R=>(B.out.done i hi R).grown J (fun e=>by have:=Option.some.inj e;omega))
 have HJ:=ah r
 have b4:=ah V
 clear Y ac ad J an U Z O a4 bi az r V al
 go_wp2_with fail
 refine b6.out.mono ?_
 rintro e w4 ⟨rfl,a0,bv,aq,z⟩
 have r:=HJ.out
 have V:=b4.out
 have o:Hid (LpX n a l.length F (Lr.filter fun y=>decide (y≠x)) w4):=ah ⟨bs.out.trans (z.mono fun k _ hk=>by unfold vS;omega),fun i hi=>by
   by_cases e:i=j
   ·subst e;exact a0
   ·exact (bt.out i hi).chg z (by omega),fun i hi=>by
   by_cases e:i=j
   ·subst e;exact ⟨_,_,aq⟩
   ·obtain ⟨m,g,h1⟩:=bx.out i hi
    exact ⟨m,g,h1.chg z (by omega)⟩,fun i hi R=>by
   by_cases e:i=j
   ·subst e;exact aq.le (AP l _)
   ·refine (bk.out i hi fun hm=>R (List.mem_filter.2 ⟨hm,decide_eq_true fun e2=>e ?_⟩)).chg z (by omega)
    rw [bf.out] at e2
    exact Kl hi r e2,by
   rw [X.out]
   have:=aa.out.chg z (by omega) (by omega)
   simpa only [ne_eq,decide_not] using this⟩
 have bp:Hid (w4.rangeLeft n C<wl.rangeLeft n C):=ah (by
  rw [z.left aa.out (by omega) (by omega)];exact be.out)
 clear a0 bv aq z r V
 go_wp2_with fail
 go_roundw
 case rel=>exact ⟨_,o⟩
 case measure=>exact bp.out
structure Flw where
 kind:Nat
 dir:ByteArray
 name:ByteArray
def fwC (f:Flw):List Value:=[.int .i64 (f.kind:Int),.string f.dir,.string f.name]
def NH (l:List Flw):List Value:=l.flatMap fwC
def vU (B a dk:Nat) (F:List Flw) (w:World):Prop:=∃b,ak w a 119 [.pointer (some ⟨dk,0,none⟩),b]∧B≤a∧w.ownsRow B 280 3 b F.length (NH F)∧B≤w.heap.size
theorem vU.below {B a dk:Nat} {F:List Flw} {w w':World} (h:vU B a dk F w) (hb:Below w.heap.size w w'):vU B a dk F w':=by
 obtain ⟨b,h1,e,f,d⟩:=h
 exact ⟨b,h1.below hb,e,own_below f hb,Nat.le_trans d hb.size⟩
end
section
open Go.RowKit Go.Maps Go.Shelf
def rV (w0:World) (a dk:Nat) (F:List Flw) (e:Ending) (w':World):Prop:=e= .returned (.tuple #[])∧vU w0.heap.size a dk F w'∧Below w0.heap.size w0 w'
theorem oL:(prog.info? 111).map (·.size)=some 2:=by decide +kernel
def nmX:ByteArray:=⟨#[120]⟩
theorem Di (b:Nat) (w:World):(Instr.build 119 #[(0,.pointer (some ⟨b,0,none⟩))]).run prog w= .ok (.agg #[.pointer (some ⟨b,0,none⟩),.slice none 0 0]) w:=run_build w 119 _ _ (by kernel_rfl)
theorem DJ (p:Value) (W:World):(Instr.index 120 (.agg #[.func (.func 73) #[p] #[],.func (.func 74) #[p] #[],.func (.func 75) #[p] #[],.func (.func 76) #[p] #[]]) (.int .i64 0)).run prog W= .ok (.func (.func 73) #[p] #[]) W:=by kernel_rfl
theorem DI (p:Value) (W:World):(Instr.index 120 (.agg #[.func (.func 73) #[p] #[],.func (.func 74) #[p] #[],.func (.func 75) #[p] #[],.func (.func 76) #[p] #[]]) (.int .i64 1)).run prog W= .ok (.func (.func 74) #[p] #[]) W:=by kernel_rfl
theorem DF (p:Value) (W:World):(Instr.index 120 (.agg #[.func (.func 73) #[p] #[],.func (.func 74) #[p] #[],.func (.func 75) #[p] #[],.func (.func 76) #[p] #[]]) (.int .i64 2)).run prog W= .ok (.func (.func 75) #[p] #[]) W:=by kernel_rfl
theorem DC (p:Value) (W:World):(Instr.index 120 (.agg #[.func (.func 73) #[p] #[],.func (.func 74) #[p] #[],.func (.func 75) #[p] #[],.func (.func 76) #[p] #[]]) (.int .i64 3)).run prog W= .ok (.func (.func 76) #[p] #[]) W:=by kernel_rfl
end
section
open Go.RowKit Go.Maps
theorem gY.Nt {w:World} {B sz n:Nat} {v:Value} {xs:List Value} (h:gY w B sz v n xs):∀g,v.ownBlock=some g→B≤g:=fun g e=>by
 rcases h.2 with ⟨rfl,_⟩|⟨g1,off,a,rfl,hb,_⟩
 ·cases e
 cases e;exact hb
theorem gY.base {w:World} {B b sz n:Nat} {v:Value} {xs:List Value} (h:gY w B sz v n xs) (f:b≤B):gY w b sz v n xs:=by
 refine ⟨h.1,?_⟩
 rcases h.2 with d|⟨g1,off,a,e,hb,g⟩
 ·exact .inl d
 exact .inr ⟨g1,off,a,e,Nat.le_trans f hb,g⟩
end
end Go.Proofs.YtejamhkgjkhjdaaGreatDoor
