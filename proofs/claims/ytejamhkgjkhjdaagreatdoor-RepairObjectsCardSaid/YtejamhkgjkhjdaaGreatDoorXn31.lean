/- A part of this claim. -/
import Derived.Test.YtejamhkgjkhjdaaGreatDoorXn26
import Derived.Test.YtejamhkgjkhjdaaGreatDoorXn27
import Derived.Test.YtejamhkgjkhjdaaGreatDoorXn30
namespace Go.Proofs.YtejamhkgjkhjdaaGreatDoor
open Tryz
set_option maxHeartbeats 64000000
set_option maxRecDepth 100000
set_option linter.all false
section
open Go.RowKit Go.Maps Go.Sort Go.Shelf
theorem Dr (a:Option Nat) (w:World):Calls prog 53 #[.map a] w fun e w'=>e= .returned (.func (.func 106) #[] #[.pointer (some ⟨w.heap.size,0,none⟩)])∧w'=w.alloc (.cells #[.map a] 90) :=
 callsIn_wide.1 (AnyZ.keys_in Tryz.keysP Fence.wide 5 trivial rfl a w)
theorem yu {α:Type} {enc:α→Value} (b n:Nat) (f:ByteArray→Option α) (l:List ByteArray) (w:World) (hm:aP enc w b n f) (r:n≤1000000) (t:jA l) (s:∀x,x.size≤maxLen→((f x).isSome=true↔x∈l)) (y:∀x∈l,x.size≤maxLen) :
  Calls prog 31 #[.func (.func 106) #[] #[.pointer (some ⟨w.heap.size,0,none⟩)]] (w.alloc (.cells #[.map (some b)] 90)) fun e w'=> ∃v,e= .returned v∧dV w' v l∧Below w.heap.size w w':=by
 obtain ⟨D,a,j⟩:=hm
 have k:=a.lt
 have q:Maps.size D≤1000000:=Nat.le_trans a.size_le r
 have i:SeqGives Fence.wide 2 prog 106 #[.pointer (some ⟨w.heap.size,0,none⟩)] encStr (fun ss=>ss.Perm (strKeys D)) (Maps.size D) (w.alloc (.cells #[.map (some b)] 90)) :=
  AnyZ.keys_gives (ρ:=Tryz.keysP_ren) { Tryz.keysP with } Fence.wide _ trivial rfl (by omega) w.heap.size b n D _ (by simp) (by simp) (by
   obtain ⟨es,g,hb,m,j,p⟩:=a
   exact ⟨es,g,(Below.heap_alloc _ _ b k).trans hb,m,j,p⟩)
 have h:=callsIn_wide.1 (AnyZ.sorted_in Tryz.sortedS Fence.wide 5 trivial trivial trivial trivial rfl (by omega) (IY _) (enters_of func80 (by kernel_rfl) rfl) 106 #[.pointer (some ⟨w.heap.size,0,none⟩)] trivial (enters_of func106 (by kernel_rfl) rfl) _ _ (by unfold maxLen;omega) (by omega) _ i)
 refine h.mono ?_
 rintro e w' ⟨v,ss,o,hS,d,_,hb⟩
 obtain ⟨u,z⟩:=qG a j t s y hS
 rw [u,z] at d
 refine ⟨v,o,dV.gq d,((Below.refl _ w).alloc (Nat.le_refl _) _).trans (hb.mono (by simp))⟩
def jw (w:World) (b m:Nat):Prop:=ak w b 92 [.map (some m)]∧aP aT w m 0 fun _=>none
theorem jw.below {w w':World} {b m:Nat} (h:jw w b m) (hb:Below w.heap.size w w'):jw w' b m:=⟨h.1.below hb,h.2.on hb⟩
theorem mM (b m:Nat) (w:World) (h:jw w b m):Calls prog 22 #[.pointer (some ⟨b,0,none⟩)] w fun e w'=> ∃v,e= .returned v∧dV w' v []∧Below w.heap.size w w':=by
 obtain ⟨hx,hm⟩:=h
 have l:w.cell? ⟨b,0,none⟩=some (.map (some m)):=hx.range 0 _ rfl
 have HS:=ah (yu m 0 (fun _=>(none:Option Nat)) [] w hm (by omega) List.Pairwise.nil (fun x _=>by simp) (fun x hx=>by cases hx))
 have f:=ah (Dr (some m) w)
 obtain ⟨W,i⟩:∃W,w.alloc (.cells #[.map (some m)] 90)=W:=⟨_,rfl⟩
 rw [i] at HS f
 clear i hx hm
 go_enter func22,ntmps22
 go_wp2_with fail
 refine f.out.mono ?_
 rintro e k ⟨rfl,rfl⟩
 go_wp2_with fail
 refine HS.out.mono ?_
 rintro e w3 ⟨v,rfl,g,a⟩
 have d:=ah a
 have j:=ah g
 clear g a
 go_wp2_with fail
 go_ret
 exact ⟨v,rfl,j.out,d.out⟩
theorem FW (m:Nat) (w:World):(Instr.build 92 #[(0,.map (some m))]).run prog w= .ok (.agg #[.map (some m)]) w:=run_build w 92 _ _ (by kernel_rfl)
section
variable {O:Nat → Prop} {N R M:Nat} {w:World} {g:Nat} {q:Int} {L:LK} {sy:Nat → Bool}
theorem xX (h:DV O N R M w g q L sy) (a:N+R≤1000000) (h1:∀y,L 1 y=none):Calls prog 11 #[.pointer (some ⟨g,0,none⟩),.string ⟨#[112,97,99,107]⟩] w fun e w'=> ∃v,e= .returned v∧dV w' v []∧Below w.heap.size w w':=by
 obtain ⟨d,b,f,i⟩:=h.at2 a
 exact p9 g d iZ 1 [] w b (by decide) rfl List.Pairwise.nil (fun y=>by rw [f 1 y (by omega)];unfold LK.dk;rw [h1];simp) (fun y hy=>by cases hy)
theorem jK (h:DV O N R M w g q L sy) (k:N+R≤1000000) (h1:∀y,L 1 y=none):Calls prog 21 #[.pointer (some ⟨g,0,none⟩)] w fun e w'=>e= .returned (.pointer (some ⟨w.heap.size+1,0,none⟩))∧jw w' (w.heap.size+1) w.heap.size∧Below w.heap.size w w':=by
 have j:=@run_makeMap prog
 have o:=ah (FW w.heap.size)
 have b:Hid (Below w.heap.size w ((w.alloc (.map #[] 0)).alloc (.cells #[.map (some w.heap.size)] 92))):=ah (bal.alloc (by simp) _)
 have l:=ah (fun W (hb:Below w.heap.size w W)=>xX (h.below hb) k h1)
 have d:Hid (jw ((w.alloc (.map #[] 0)).alloc (.cells #[.map (some w.heap.size)] 92)) (w.heap.size+1) w.heap.size):=ah (by
  have hm:aP aT (w.alloc (.map #[] 0)) w.heap.size 0 fun _=>(none:Option Nat):=lU w
  have hb:=ak.new (w.alloc (.map #[] 0)) 92 [.map (some w.heap.size)]
  rw [World.size_alloc] at hb
  exact ⟨hb,hm.on bal⟩)
 clear h h1
 go_enter func21,ntmps21
 go_wp2_with fail
 refine (l.out _ b.out).mono ?_
 rintro e w1 ⟨v,rfl,m,a⟩
 obtain ⟨p,n,rfl,_,_⟩:=m
 have i:=bth b a
 have f:=ah (d.out.below a)
 clear a
 go_wp2_with fail
 refine wp_loop_rounds 1 ?_
 rw [rounds_succ]
 go_wp2_with fail
 go_ret
 exact ⟨rfl,f.out,i.out⟩
end
end
section
open Go.RowKit Go.Maps
def WrB (w:World) (b g:Nat) (kv:Value):Prop:=ak w b 63 [.pointer (some ⟨g,0,none⟩),kv]
theorem FR (a:Option Addr) (c:Nat) (f:Value) (w:World):Calls prog 149 #[.slice a 0 c,f] w fun e w'=>e= .returned (.int .i64 (-1))∧w'=w:=by
 go_enter func149,ntmps149
 go_wp2_with fail
 refine wp_loop_rounds 1 ?_
 rw [rounds_succ]
 go_wp2_with fail
 go_ret
 exact ⟨rfl,rfl⟩
theorem I7 (a:Option Addr) (c:Nat) (f:Value) (w:World):Calls prog 77 #[.slice a 0 c,f] w fun e w'=>e= .returned (.bool false)∧w'=w:=by
 have b:=ah (FR a c f w)
 go_enter func77,ntmps77
 go_wp2_with fail
 refine b.out.mono ?_
 rintro e w1 ⟨rfl,rfl⟩
 go_wp2_with fail
 go_ret
 exact ⟨rfl,rfl⟩
section
variable {O:Nat → Prop} {N R M:Nat} {w:World} {g:Nat} {q:Int} {L:LK} {sy:Nat → Bool} {wb kc:Nat} {ka:Option Addr}
theorem IB (H:DV O N R M w g q L sy) (hG:cu w) (hw:WrB w wb g (.slice ka 0 kc)) (hN:N+R≤1000000) (hM:M≤1000000) (x:Idl) (hx:x.length=32) (h1:∀y,L 1 y=none) (h0:L 0 (bL x)=none) :
  Calls prog 112 #[.pointer (some ⟨wb,0,none⟩),.agg (idC x).toArray] w fun e w'=>e= .returned (.bool false)∧Below w.heap.size w w':=by
 obtain ⟨W,hW⟩:∃W,w.alloc (.cells (idC x).toArray 143)=W:=⟨_,rfl⟩
 have m:Hid (Below w.heap.size w W):=ah (by rw [←hW];exact bal)
 have J:Hid (ak W w.heap.size 143 (idC x)):=ah (by rw [←hW];exact ak.new w 143 (idC x))
 have G:Hid (∀V,Below W.heap.size W V→Calls prog 117 #[.pointer (some ⟨g,0,none⟩),.agg (idC x).toArray] V fun e w'=>e= .returned (.tuple #[.agg #[.int .i64 0,.string ⟨#[]⟩],.int .i64 6])∧Below V.heap.size V w'):=ah fun V af=>by
  have hb:=m.out.trans (af.mono m.out.size)
  have h:=sj (H.below hb) hN hM (hG.below hb) hx
  have e:fF L.dk x= .inl 6:=by
   unfold fF LK.dk
   rw [show L 0 (ofB (bJ x))=none from h0]
   rfl
  unfold qU at h
  rw [e] at h
  exact h
 have ae:=ah (fun V (hb:Below w.heap.size w V)=>jK (H.below hb) hN h1)
 have D:=ah (fun V (hb:Below w.heap.size w V)=>And.intro ((hw.below hb).range 0 _ rfl:V.cell? ⟨wb,0,none⟩=some (.pointer (some ⟨g,0,none⟩))) ((hw.below hb).range 1 _ rfl:V.cell? ⟨wb,1,none⟩=some (.slice ka 0 kc)))
 have ag:=ah (fun f V=>I7 ka kc f V)
 have aa:(prog.info? 143).map (·.size)=some (idC x).length:=by rw [aA,hx];exact iN
 have HW:=ah hW
 clear H hG hw hW h0 h1
 generalize al:idC x=ci at J G aa HW ⊢
 clear al
 have o:Hid (∀V,Below W.heap.size W V→V.rangeAt w.heap.size 0 ci∧V.cell? ⟨wb,0,none⟩=some (.pointer (some ⟨g,0,none⟩))):=ah (fun V hb=>⟨(J.out.below hb).range,(D.out V (m.out.trans (hb.mono m.out.size))).1⟩)
 go_enter func112,ntmps112
 go_upto_region 1 with fail
 rw [HW.out]
 have l:=o.out W.drew (Below.refl _ _).drew
 refine wrL 11 (fun x=>x.rangeAt w.heap.size 0 ci∧x.cell? ⟨wb,0,none⟩=some (.pointer (some ⟨g,0,none⟩))) ?_
 refine WL.tk 0 l ?_
 refine WL.tk 1 l ?_
 refine WL.tk 2 l ?_
 refine WL.tk 3 l ?_
 refine WL.tk 4 l ?_ (hy:=(fun w' ai=>oU 143 _ (ai.1) underlying143 rfl aa _ rfl rfl))
 refine WL.tw 5 9 ?_ ?_
 focus
  go_wp2_with fail
  refine (G.out _ (Below.refl _ _).drew).mono ?_
  rintro e r ⟨rfl,K⟩
  have i:=ah (nA K)
  have b:=o.out r i.out
  have n:Hid (Below W.heap.size W (r.alloc (.cells #[.int .i64 0,.string ⟨#[]⟩] 24))):=ah (i.out.alloc i.out.size _)
  have d:=o.out _ n.out
  have j:Hid (ak (r.alloc (.cells #[.int .i64 0,.string ⟨#[]⟩] 24)) r.heap.size 24 (#[.int .i64 0,.string ⟨#[]⟩]:Array Value).toList):=ah (by have:=ak.new r 24 (#[.int .i64 0,.string ⟨#[]⟩]:Array Value).toList;simpa using this)
  have t:Hid (Below r.heap.size r (r.alloc (.cells #[.int .i64 0,.string ⟨#[]⟩] 24))):=ah bal
  have p:=i.out.size
  clear K
  go_wp2
  refine ⟨b,?_⟩
  refine WL.tk 6 b ?_
  refine WL.tk 7 b ?_
  refine WL.tk 8 b ?_
  refine WL.on 9 ?_
  go_wp2
  refine ⟨d,?_⟩
  obtain ⟨P,E⟩:∃P,r.heap.size=P:=⟨_,rfl⟩
  obtain ⟨u,S⟩:∃u,r.alloc (.cells #[.int .i64 0,.string ⟨#[]⟩] 24)=u:=⟨_,rfl⟩
  rw [S] at n d j t  ⊢
  rw [E] at j p 
  simp only [E]
  clear E S b t
 rotate_left
 focus
  have i:Hid (Below W.heap.size W (W.alloc (.cells #[.int .i64 0,.string ⟨#[]⟩] 24)).drew):=ah (bal.drew)
  have U:ak (W.alloc (.cells #[.int .i64 0,.string ⟨#[]⟩] 24)).drew W.heap.size 24 (#[.int .i64 0,.string ⟨#[]⟩]:Array Value).toList:=(show ak (W.alloc (.cells #[.int .i64 0,.string ⟨#[]⟩] 24)) W.heap.size 24 (#[.int .i64 0,.string ⟨#[]⟩]:Array Value).toList from by have:=ak.new W 24 (#[.int .i64 0,.string ⟨#[]⟩]:Array Value).toList;simpa using this)
  have b:=o.out _ i.out
  go_wp2
  refine ⟨b,?_⟩
  refine WL.on 5 ?_
  go_wp2_with fail
  refine (G.out _ i.out).mono ?_
  rintro e u ⟨rfl,C⟩
  have j:=ah (U.below C)
  have n:=bth i C
  have d:=o.out _ n.out
  have p:W.heap.size≤W.heap.size:=Nat.le_refl _
  clear C U
  go_wp2
  refine ⟨d,?_⟩
  refine WL.tk 6 d ?_
  refine WL.tk 7 d ?_
  refine WL.tk 8 d ?_
  obtain ⟨P,E⟩:∃P,P=W.heap.size:=⟨_,rfl⟩
  rw [←E] at j 
  have p:W.heap.size≤P:=by omega
  simp only [←E]
  clear E b
 all_goals
  refine WL.on 10 ?_
  refine aj rfl 24 _ _ rfl P 0 [.int .i64 0,.string ⟨#[]⟩] rfl rfl 2 rfl (by have:=j.out.there;simpa [] using this) gZ (by intro v H;simp at H;rcases H with rfl|rfl<;>rfl) ?_
  simp only [Act.put,nz]
  have s:=ah (below_setCells (B:=W.heap.size) (a:=W) P p [.int .i64 0,.string ⟨#[]⟩] 0 u n.out)
  have Z:=ah (j.out.set (us:=[.int .i64 0,.string ⟨#[]⟩]) (by simp []))
  have ab:Hid (Chg (fun k=>k=P) u (u.setCells P 0 [.int .i64 0,.string ⟨#[]⟩])):=ah (uV P [.int .i64 0,.string ⟨#[]⟩] u)
  generalize u.setCells P 0 [.int .i64 0,.string ⟨#[]⟩]=w8 at s Z ab
  have T:=o.out _ s.out
  refine ⟨T,?_⟩
  refine WL.la 11 ?_
  clear T d l j n
 all_goals
  have F:=ah (m.out.trans (s.out.mono m.out.size))
  have c0:=(D.out _ F.out).1
  have X:=ah (ae.out _ F.out)
  clear Z ab s p
  go_wp2_with fail
  refine X.out.mono ?_
  rintro e w9 ⟨rfl,ad,I⟩
  have ac:=bth F I
  clear I ad X c0
  go_upto_region 5 with fail
  obtain ⟨wa,A⟩:∃z,w9.alloc (.cells #[.pointer (some ⟨w8.heap.size+1,0,none⟩)] 59)=z:=⟨_,rfl⟩
  have Q:Below w9.heap.size w9 wa:=by rw [←A];exact bal
  have Y:=bth ac Q
  rw [A]
  clear Q A
  have c1:=(D.out _ Y.out).2
  go_wp2_with fail
  refine (ag.out _ _).mono ?_
  rintro e wz ⟨rfl,rfl⟩
  go_wp2_with fail
  go_ret
  exact ⟨rfl,Y.out⟩
end
section
variable {O:Nat → Prop} {N R M:Nat} {w:World} {g:Nat} {q:Int} {L:LK} {sy:Nat → Bool} {wb kc:Nat} {ka:Option Addr}
theorem Fw (I:DV O N R M w g q L sy) (hG:cu w) (hw:WrB w wb g (.slice ka 0 kc)) (a6:O wb) (hN:N+R≤900000) (T:M≤1000000) (k:Int) (b:ByteArray) (hr:av ⟨k,b⟩=true) (h1:∀y,L 1 y=none) (h0:L 0 (bL (idO ⟨k,b⟩))=none) (ht:L 0 (bg (bL (idO ⟨k,b⟩)))=none) (hM:b.size+12≤M) (hq:3*((N+1)*M)+M≤q) (ar:q≤1000000000)
  (rb ro bk:Nat) (P:w.rangeAt rb ro [.int .i64 k,.string b]) :
  Calls prog 61 #[.pointer (some ⟨wb,0,none⟩),.slice (some ⟨rb,ro,none⟩) 1 bk] w fun e w'=>e= .returned (.int .i64 0)∧DV O (N+1) (R+2) M w' g q (L.put 0 (bL (idO ⟨k,b⟩)) (some (aZ ⟨k,b⟩,0))) (upN sy 0 false)∧Kp O w w':=by
 obtain ⟨zi,bu,a9⟩:=uh
 have ab:(idO ⟨k,b⟩).length=32:=rQ _
 have a2:Hid (∀W,Laid W→Calls prog 111 #[.agg #[.int .i64 k,.string b]] W fun e w'=>e= .returned (.tuple #[.agg (idC (idO ⟨k,b⟩)).toArray,.bool true])∧Below W.heap.size W w'):=ah fun W hL=>by
  have h:=yM k b W hL
  unfold o9 at h
  rw [hr] at h
  exact h
 have am:=ah (fun V (hb:Below w.heap.size w V)=>IB (I.below hb) (hG.below hb) (ak.below hw hb:WrB V wb g (.slice ka 0 kc)) (by omega) T _ ab h1 h0)
 have l:Hid (∀a,Below w.heap.size w a→ ∀V,Below a.heap.size a V→Calls prog 113 #[.pointer (some ⟨g,0,none⟩),.agg #[.int .i64 k,.string b]] V (Fq (Ou (Ou O w a) a V) (N+1) (R+2) M g q (L.put 0 (bL (idO ⟨k,b⟩)) (some (aZ ⟨k,b⟩,0))) (upN sy 0 false) (idO ⟨k,b⟩) V)):=ah fun a h5 V hb =>
  Jv ((I.on h5).on hb) (hG.below (h5.trans (hb.mono h5.size))) k b hr hN T h0 ht hM hq ar
 have HG:=ah hG
 have bo:=ah I.gW
 have bl:=ah I.olt
 have be:=ah hw
 have bf:=ah a6
 obtain ⟨LP,a3⟩:∃z,L.put 0 (bL (idO ⟨k,b⟩)) (some (aZ ⟨k,b⟩,0))=z:=⟨_,rfl⟩
 rw [a3] at l ⊢
 have bh:=ah gZ
 have G:Hid ((idC (idO ⟨k,b⟩)).length=32):=ah (by rw [aA,ab])
 have al:=ah (bC (idO ⟨k,b⟩))
 have bb:(prog.info? 143).map (·.size)=some (idC (idO ⟨k,b⟩)).length:=by rw [G.out];exact iN
 have h2:(prog.info? 24).map (·.size)=some ([.int .i64 k,.string b]:List Value).length:=gZ
 obtain ⟨d,Q⟩:∃d:List Value,d=zi.toList:=⟨_,rfl⟩
 have ap:zi=d.toArray:=by rw [Q]
 have a4:Hid (d.length=32):=ah (by rw [Q];simpa using a9)
 have a0:Hid (d.toArray.size=32):=ah (by simpa using a4.out)
 rw [ap] at bu
 unfold Fq at l
 generalize idC (idO ⟨k,b⟩)=ci at a2 am l G al bb
 clear I hG hw a6 h0 h1 ht hM hq ar hN hr ab a3 Q ap a9 T
 go_enter func61,ntmps61
 go_wp2_with fail
 refine wp_loop_rounds 2 ?_
 rw [rounds_succ]
 go_upto_region 4 with (first|(refine wpList_load_mid rfl 24 _ rfl rb ro rfl [.int .i64 k,.string b] _ P underlying24 rfl h2 ?_)|(refine aC rfl 24 _ _ rfl #[.int .i64 0,.string ⟨#[]⟩] [.int .i64 k,.string b] rfl rfl 2 rfl rfl bh.out (by intro v I;simp at I;rcases I with rfl|rfl<;>rfl) ?_;intro w1 S ba bm))
 have a5:=ah ba
 have bd:=ah S
 have e1:=S.range
 clear ba S bm P
 go_wp2_with (refine wpList_load_mid rfl 24 _ rfl w.heap.size 0 rfl [.int .i64 k,.string b] _ e1 underlying24 rfl h2 ?_)
 refine (a2.out w1 (HG.out.below a5.out).laid).mono ?_
 rintro e w2 ⟨rfl,Z⟩
 have bp:=bth a5 Z
 have br:=ah (bd.out.below Z)
 clear Z e1
 go_upto_region 5 with (refine aC rfl 143 _ _ rfl d.toArray ci rfl rfl 32 G.out a0.out iN al.out ?_;intro w3 bc ac bt)
 have aq:=bth bp ac
 have bj:=ah (br.out.below ac)
 have e3:=bc.range
 clear ac bc bt
 go_wp2_with (refine wpList_load_mid rfl 143 _ rfl w2.heap.size 0 rfl ci _ e3 underlying143 rfl bb ?_)
 refine (am.out w3 aq.out).mono ?_
 rintro e a ⟨rfl,af⟩
 have F:=bth aq af
 have a1:=ah (bj.out.below af)
 clear af e3
 obtain ⟨u,B⟩:∃u,Ou O w a=u:=⟨_,rfl⟩
 have ad:Hid (∀j,O j→u j):=ah (by rw [←B];exact fun j m=> .inl m)
 have an:Hid (u w.heap.size):=ah (by rw [←B];exact .inr ⟨Nat.le_refl _,a1.out.lt⟩)
 have ao:Hid (∀j,u j→j<a.heap.size):=ah (fun j m=>by
  rw [←B] at m
  rcases m with h|h
  ·have:=bl.out j h;have:=F.out.size;omega
  exact h.2)
 have ag:=ah (l.out a F.out)
 rw [B] at ag
 have A:Hid (∀V,Kp u a V→V.cell? ⟨wb,0,none⟩=some (.pointer (some ⟨g,0,none⟩))∧V.rangeAt w.heap.size 0 [.int .i64 k,.string b]):=ah fun V hk=>⟨(ak.kp (ak.below be.out F.out) hk (ad.out _ bf.out)).range 0 _ rfl,(a1.out.kp hk an.out).range⟩
 clear B l
 go_upto_region 6 with fail
 have r:=A.out a.drew (Kp.of (Below.refl _ _).drew)
 refine wrL 11 (fun x=>x.cell? ⟨wb,0,none⟩=some (.pointer (some ⟨g,0,none⟩))∧x.rangeAt w.heap.size 0 [.int .i64 k,.string b]) ?_
 refine WL.tk 0 r ?_
 refine WL.tk 1 r ?_
 refine WL.tk 2 r ?_
 refine WL.tk 3 r ?_
 refine WL.tk 4 r ?_ (hy:=(fun w' bi=>oU 24 _ (bi.2) underlying24 rfl h2 _ rfl rfl))
 refine WL.tw 5 9 ?_ ?_
 focus
  go_wp2_with fail
  refine (ag.out a.drew (Below.refl _ _).drew).mono ?_
  rintro e n ⟨rfl,a8,ax⟩
  have o:Kp u a n:=(Kp.of ((Below.refl _ a).drew)).trans (ax.sub fun b _ h=> .inl h)
  have ai:Below n.heap.size n (n.alloc (.cells d.toArray 143)):=bal
  have s:Hid (Kp u a (n.alloc (.cells d.toArray 143))):=ah (o.trans (Kp.of ai))
  have f:=A.out n o
  have i:=A.out _ s.out
  have t:Hid ((n.alloc (.cells d.toArray 143)).there n.heap.size 0 32):=ah (there_alloc n d.toArray 143 a0.out)
  have p:Hid (∃H:Nat→Prop,DV H (N+1) (R+2) M (n.alloc (.cells d.toArray 143)) g q LP (upN sy 0 false)∧(∀j,u j→H j)∧H n.heap.size):=ah ⟨Ou (Ou u a a.drew) n _,a8.on ai,fun j m=> .inl (.inl m),.inr ⟨Nat.le_refl _,by simp⟩⟩
  have a7:a.heap.size≤n.heap.size:=o.size
  clear o ai a8 ax
  go_wp2
  refine ⟨f,?_⟩
  refine WL.tk 6 f ?_
  refine WL.tk 7 f ?_
  refine WL.tk 8 f ?_
  refine WL.on 9 ?_
  go_wp2
  refine ⟨i,?_⟩
  obtain ⟨E,hP⟩:∃E,n.heap.size=E:=⟨_,rfl⟩
  obtain ⟨K,az⟩:∃K,n.alloc (.cells d.toArray 143)=K:=⟨_,rfl⟩
  rw [az] at s i t p ⊢
  rw [hP] at t p a7
  simp only [hP]
  clear hP az f
 rotate_left
 focus
  have ae:Below a.heap.size a (a.alloc (.cells d.toArray 143)).drew:=bal.drew
  have J:ak (a.alloc (.cells d.toArray 143)).drew a.heap.size 143 d:=(show ak (a.alloc (.cells d.toArray 143)) a.heap.size 143 d from ak.new a 143 d)
  have f:=A.out _ (Kp.of ae)
  have Y:=ah ae
  have C:=ah J
  clear ae J
  go_wp2
  refine ⟨f,?_⟩
  refine WL.on 5 ?_
  go_wp2_with fail
  refine (ag.out _ Y.out).mono ?_
  rintro e K ⟨rfl,aE,aa⟩
  have U:a.heap.size<(a.alloc (.cells d.toArray 143)).drew.heap.size:=C.out.lt
  have s:Hid (Kp u a K):=ah ((Kp.of Y.out).trans (aa.sub fun b _ h=> .inl h))
  have i:=A.out _ s.out
  have t:Hid (K.there a.heap.size 0 32):=ah (by have:=(C.out.kp aa (.inr ⟨Nat.le_refl _,U⟩)).there;rwa [a4.out] at this)
  have p:Hid (∃H:Nat→Prop,DV H (N+1) (R+2) M K g q LP (upN sy 0 false)∧(∀j,u j→H j)∧H a.heap.size):=ah ⟨_,aE,fun j m=> .inl m,.inr ⟨Nat.le_refl _,U⟩⟩
  clear aE aa U Y C
  go_wp2
  refine ⟨i,?_⟩
  refine WL.tk 6 i ?_
  refine WL.tk 7 i ?_
  refine WL.tk 8 i ?_
  obtain ⟨E,hP⟩:∃E,E=a.heap.size:=⟨_,rfl⟩
  rw [←hP] at t p
  have a7:a.heap.size≤E:=by omega
  simp only [←hP]
  clear hP f
 all_goals
  refine WL.on 10 ?_
  refine aj rfl 143 _ _ rfl E 0 ci rfl rfl 32 G.out t.out iN al.out ?_
  simp only [Act.put,nz]
  have D:=uV E ci K
  generalize K.setCells E 0 ci=w8 at D ⊢
  have X:Hid (Kp u a w8):=ah (s.out.trans (D.mono fun j _ m hO=>by have:=ao.out j hO;omega))
  have bn:Hid (DV O (N+1) (R+2) M w8 g q LP (upN sy 0 false)):=ah (by
   obtain ⟨H,h1,h2,h3⟩:=p.out
   exact (h1.chg D (fun j m=>by rw [m];exact h3)).sub (fun j m=>h2 j (ad.out j m)) (fun j m=>bo.out j m))
  have aw:=A.out _ X.out
  refine ⟨aw,?_⟩
  refine WL.la 11 ?_
  have bs:Hid (Kp O w w8):=ah ((Kp.of F.out).trans (X.out.mono fun j _ m h=>m (ad.out j h)))
  clear D aw i r s t p X
  go_wp2_with fail
  rw [rounds_succ]
  go_wp2_with fail
  go_ret
  exact ⟨rfl,bn.out,bs.out⟩
end
theorem yj (s:ByteArray) (w:World):Calls prog 56 #[.string bI,.string s] w fun e w'=>e= .returned (.bool (!fT s))∧Below w.heap.size w w':=by
 obtain ⟨p,o,m⟩:=uh
 have g:=ah (lQ s w)
 unfold mG at g
 have hx:(iQ s).length=32:=nP s
 have d:Hid ((idC (iQ s)).length=32):=ah (by rw [aA,hx])
 have f:=ah (bC (iQ s))
 have k:=ah m
 generalize idC (iQ s)=q at g d f
 generalize fT s=ok at g ⊢
 clear hx
 have i:bI=⟨#[108,111,111,115,101]⟩:=rfl
 rw [i]
 go_enter func56,ntmps56
 go_wp2_with fail
 refine g.out.mono ?_
 rintro e w1 ⟨rfl,a⟩
 have n:=ah a
 clear a
 go_wp2_with (refine aC rfl 143 _ _ rfl p q rfl rfl 32 d.out k.out iN f.out ?_;intro r h b l)
 have j:=bth n b
 clear h b l
 go_wp2_with fail
 go_ret
 exact ⟨rfl,j.out⟩
theorem yh (s:ByteArray) (w:World):Calls prog 56 #[.string iR,.string s] w fun e w'=>e= .returned (.bool (!decide (s=⟨#[98,111,111,107]⟩)))∧Below w.heap.size w w':=by
 have b:(s.toList==(⟨#[98,111,111,107]⟩:ByteArray).toList)=decide (s=⟨#[98,111,111,107]⟩):=KH _ _
 rw [show (⟨#[98,111,111,107]⟩:ByteArray).toList=[98,111,111,107] from by rw [ByteArray.toList_eq]] at b
 have a:iR=⟨#[114,101,102]⟩:=rfl
 rw [a]
 have d:=ah b
 go_enter func56,ntmps56
 go_wp2_with fail
 go_ret
 exact ⟨by rw [←d.out];rfl,Below.refl _ _⟩
theorem qH (nm b:ByteArray) (w:World) (hb:b.size≤1000000) (y:cu w):Calls prog 58 #[.string nm,.string b] w fun e w'=>e= .returned (.bool (dK nm b).isSome)∧Below w.heap.size w w':=by
 have p:=ah gZ
 have a:=lV nm b w hb y
 unfold vw at a
 have f:Hid (∃(k:List Value),k.length=2∧(∀v∈k,v.oneCell'=true)∧Calls prog 109 #[.string nm,.string b] w fun e w'=>e= .returned (.tuple #[.agg k.toArray,.bool (dK nm b).isSome])∧Below w.heap.size w w'):=ah (by
  cases h:dK nm b with
  | none =>
   rw [h] at a
   exact ⟨[.int .i64 0,.string ⟨#[]⟩],rfl,(by intro v x;simp at x;rcases x with rfl|rfl<;>rfl),a⟩
  | some o =>
   rw [h] at a
   exact ⟨obC o,rfl,jd o,a⟩)
 obtain ⟨k,i,d,u⟩:=f.out
 have q:=ah i
 have l:=ah d
 have t:=ah u
 generalize (dK nm b).isSome=ok at t ⊢
 clear i d u a f y hb
 go_enter func58,ntmps58
 go_wp2_with fail
 refine t.out.mono ?_
 rintro e w1 ⟨rfl,j⟩
 have n:=ah j
 clear j
 go_wp2_with (refine aC rfl 24 _ _ rfl #[.int .i64 0,.string ⟨#[]⟩] k rfl rfl 2 q.out rfl p.out l.out ?_;intro z r g s)
 have m:=bth n g
 clear r g s
 go_wp2_with fail
 go_ret
 exact ⟨rfl,m.out⟩
theorem qp (nm b:ByteArray) (d:Nat) (dir:ByteArray) (p:Bool) (w:World) (g:w.cell? ⟨d,0,none⟩=some (.string dir)) (f:Calls prog 56 #[.string dir,.string nm] w fun e w'=>e= .returned (.bool p)∧Below w.heap.size w w') :
  Calls prog 55 #[.string nm,.string b,.pointer (some ⟨d,0,none⟩)] w fun e w'=>e= .returned (.bool p)∧Below w.heap.size w w':=by
 have HS:=ah f
 clear f
 go_enter func55,ntmps55
 go_wp2_with fail
 refine HS.out.mono ?_
 rintro e w1 ⟨rfl,a⟩
 go_wp2_with fail
 go_ret
 exact ⟨rfl,a⟩
theorem AX (nm b:ByteArray) (w:World) (hb:b.size≤1000000) (d:cu w):Calls prog 57 #[.string nm,.string b] w fun e w'=>e= .returned (.bool (!(dK nm b).isSome))∧Below w.heap.size w w':=by
 have HS:=ah (qH nm b w hb d)
 generalize (dK nm b).isSome=ok at HS ⊢
 clear hb d
 go_enter func57,ntmps57
 go_wp2_with fail
 refine HS.out.mono ?_
 rintro e w1 ⟨rfl,a⟩
 go_wp2_with fail
 go_ret
 exact ⟨rfl,a⟩
theorem Aj (nm b:ByteArray) (w:World) (hb:b.size≤1000000) (C:cu w) (E:(dK nm b).isSome=true):Calls prog 129 #[.string nm,.string b] w fun e w'=>e= .returned (.bool false)∧Below w.heap.size w w':=by
 obtain ⟨F,I,y⟩:=uh
 have p:=ah gZ
 have u:=ah (lQ nm w)
 unfold mG at u
 have hx:(iQ nm).length=32:=nP nm
 have t:Hid ((idC (iQ nm)).length=32):=ah (by rw [aA,hx])
 have n:=ah (bC (iQ nm))
 have v:=ah y
 have k:=ah (fun V (h:Below w.heap.size w V)=>lV nm b V hb (C.below h))
 unfold vw at k
 obtain ⟨o,B⟩:=Option.isSome_iff_exists.1 E
 rw [B] at k
 dsimp only at k
 have g:Hid ((obC o).length=2):=ah rfl
 have d:=ah (jd o)
 generalize obC o=D at k g d
 generalize idC (iQ nm)=H at u t n
 generalize fT nm=ok at u ⊢
 clear hx hb C E B
 go_enter func129,ntmps129
 go_wp2_with fail
 refine u.out.mono ?_
 rintro e w1 ⟨rfl,s⟩
 have x:=ah s
 clear s
 go_wp2_with (refine aC rfl 143 _ _ rfl F H rfl rfl 32 t.out v.out iN n.out ?_;intro J z m A)
 have l:=bth x m
 clear z m A
 go_wp2_with fail
 refine (k.out _ l.out).mono ?_
 rintro e w3 ⟨rfl,q⟩
 have r:=bth l q
 clear q
 cases ok with
 | false =>
  go_wp2_with (refine aC rfl 24 _ _ rfl #[.int .i64 0,.string ⟨#[]⟩] D rfl rfl 2 g.out rfl p.out d.out ?_;intro G j a f)
  have i:=bth r a
  clear j a f
  go_wp2_with fail
  go_ret
  exact ⟨rfl,i.out⟩
 | true =>
  go_wp2_with (refine aC rfl 24 _ _ rfl #[.int .i64 0,.string ⟨#[]⟩] D rfl rfl 2 g.out rfl p.out d.out ?_;intro G j a f)
  have i:=bth r a
  clear j a f
  go_wp2_with fail
  go_ret
  exact ⟨rfl,i.out⟩
theorem ES:∃a:TypeInfo,prog.info? 32=some a∧a.zero=some (.agg #[.string ⟨#[]⟩,.string ⟨#[]⟩,.string ⟨#[]⟩])∧a.size=3∧a.bytes=48:=⟨_,rfl,by kernel_rfl,by kernel_rfl,by kernel_rfl⟩
theorem jD {ops:Array Oper} {rest:List Oper} {o:Oper} {a:Act} {Q:Exit→Act→World→Prop} (w:World) (m:o.guard=none) (s x:Operand) (g:o.op=Op.call { callee:=Callee.builtin Builtin.append,args:=#[s,x],argTypes:=#[44,44] })
  (base:Nat) (v:Value) (n:Nat) (xs:List Value) (l:a.eval s=v) (e:w.ownsRow base 32 3 v n xs) (b:Nat) (p:Fl) (hx:a.eval x= .slice (some ⟨b,0,none⟩) 1 1) (t:w.rangeAt b 0 (flC p)) (y:n≤10000000) (d:base≤w.heap.size)
  (r:∀k w',w'.ownsRow base 32 3 k (n+1) (xs++flC p)→w.grownBy w' v.ownBlock→Fr w v k→wpList prog ops Q rest (a.put o.dst k) w'):wpList prog ops Q (o::rest) a w:=by
 obtain ⟨q,hi,i,f,h⟩:=ES
 refine jC w m s x 44 g base 32 q _ 3 48 underlying44 hi i f h rfl (by decide) v n xs l e ⟨b,0,none⟩ 1 1 (flC p) hx rfl (fun j u hu=> ?_) (fun u hu=> ?_) (by unfold maxLen;omega) (by omega) d r
 ·have:=t j u hu
  rw [Addr.add_mid]
  exact this
 unfold flC at hu
 simp at hu
 rcases hu with rfl|rfl|rfl<;>rfl
section
variable {O:Nat → Prop} {N R M:Nat} {w:World} {g:Nat} {q:Int} {L:LK} {sy:Nat → Bool} {wb kc:Nat} {ka:Option Addr} {kv:Value}
theorem bU (h:DV O N R M w g q L sy) (b:N+R≤1000000) {k:Nat} (a:k<3) (l:List ByteArray) (i:jA l) (hm:∀y,y∈l↔(L k y).isSome=true):Calls prog 11 #[.pointer (some ⟨g,0,none⟩),.string (aU k)] w fun e w'=> ∃v,e= .returned v∧dV w' v l∧Below w.heap.size w w':=by
 obtain ⟨d,j,m,n⟩:=h.at2 b
 exact p9 g d (aU k) k l w j (by unfold aU;split<;>(try split)<;>decide) (eO a) i (fun y=>by rw [m k y a];unfold LK.dk;rw [hm];simp) (fun y hy=>by
  obtain ⟨v,f⟩:=Option.isSome_iff_exists.1 ((hm y).1 hy)
  have:=bT (h.size a f).2.2
  omega)
theorem asc_one (x:ByteArray):jA [x]:=List.pairwise_singleton _ _
theorem dZ {V:World} (a:WrB w wb g kv) (hb:Below w.heap.size w V):V.cell? ⟨wb,0,none⟩=some (.pointer (some ⟨g,0,none⟩)):=(ak.below a hb).range 0 _ rfl
theorem zI (d:DV O N R M w g q L sy) (i:WrB w wb g kv) (j:N+R≤1000000) {k:Nat} (l:k<3) (hm:∀y,L k y=none) (f:Value) :
  Calls prog 54 #[.pointer (some ⟨wb,0,none⟩),.string (aU k),f] w fun e w'=>e= .returned (.int .i64 0)∧Below w.heap.size w w':=by
 have a:=ah (bU d j l [] List.Pairwise.nil (fun y=>by rw [hm];simp))
 have m:=dZ i (Below.refl _ w)
 generalize aU k=dn at a ⊢
 clear d i hm
 go_enter func54,ntmps54
 go_wp2_with fail
 refine a.out.mono ?_
 rintro e w1 ⟨v,rfl,d,b⟩
 obtain ⟨o,n,rfl,_,_⟩:=d
 have h:=ah b
 clear b m
 go_wp2_with fail
 refine wp_loop_rounds 1 ?_
 rw [rounds_succ]
 go_wp2_with fail
 refine wp_loop_rounds 1 ?_
 rw [rounds_succ]
 go_wp2_with fail
 go_ret
 exact ⟨rfl,h.out⟩
theorem zH (a:DV O N R M w g q L sy) (u:WrB w wb g kv) (B:N+R≤1000000) {k:Nat} (s:k<3) (nm:ByteArray) (d:ByteArray×Nat) (hd:L k nm=some d) (hm:∀y,(L k y).isSome=true↔y=nm) (fn:FuncId) (cs:Array Value) (H:∀args w,Sem.run prog (callFunc fn args) w= .ok (.enter fn args) w)
  (l:∀V,Below w.heap.size w V→Calls prog fn (#[.string nm,.string d.1]++cs) V fun e w'=>e= .returned (.bool false)∧Below V.heap.size V w') :
  Calls prog 54 #[.pointer (some ⟨wb,0,none⟩),.string (aU k),.func (.func fn) #[] cs] w fun e w'=>e= .returned (.int .i64 0)∧Below w.heap.size w w':=by
 have j:=ah (bU a B s [nm] (asc_one nm) (fun y=>by rw [hm];simp))
 have f:Hid (∀V,Below w.heap.size w V→Calls prog 51 #[.pointer (some ⟨g,0,none⟩),.string (aU k),.string nm] V fun e w'=>e= .returned (.tuple #[.string d.1,.int .i64 0])∧Below V.heap.size V w'):=ah fun V hb=>by
  have h:=dQ (a.below hb) s B (a.size s hd).2.2
  rw [hd] at h
  exact h
 have F:=dZ u (Below.refl _ w)
 have C:=ah (fun V hb=>dZ (V:=V) u hb)
 have A:=ah l
 generalize aU k=dn at j f ⊢
 generalize d.1=K at f A
 clear a u hm hd l
 go_enter func54,ntmps54
 go_wp2_with fail
 refine j.out.mono ?_
 rintro e w1 ⟨v,rfl,a,b⟩
 obtain ⟨J,G,rfl,_,a⟩:=a
 obtain ⟨D,p,rfl,z,n⟩:=a (by simp)
 have E:w1.cell? ⟨D,p,none⟩=some (.string nm):=n 0 (by simp)
 have t:=ah b
 have c1:=C.out _ b
 have r:=ah (f.out _ b)
 clear b F a n
 go_wp2_with fail
 refine wp_loop_rounds 2 ?_
 rw [rounds_succ]
 go_wp2_with fail
 refine r.out.mono ?_
 rintro e I ⟨rfl,m⟩
 have i:=bth t m
 clear m c1 E r
 go_wp2_with fail
 refine (A.out _ i.out).mono ?_
 rintro e w3 ⟨rfl,o⟩
 have x:=bth i o
 clear o
 go_wp2_with fail
 rw [rounds_succ]
 go_wp2_with fail
 refine wp_loop_rounds 1 ?_
 rw [rounds_succ]
 go_wp2_with fail
 go_ret
 exact ⟨rfl,x.out⟩
theorem zG (i:DV O N R M w g q L sy) (hG:cu w) (hw:WrB w wb g (.slice ka 0 kc)) (ax:O wb) (hN:N+R≤800000) (cV:M≤100000) (nm:ByteArray) (d:ByteArray×Nat) (hd:L 0 nm=some d) (hm:∀y,(L 0 y).isSome=true↔y=nm) (fn:FuncId) (cs:Array Value) (c3:∀args w,Sem.run prog (callFunc fn args) w= .ok (.enter fn args) w)
  (cd:∀V,Below w.heap.size w V→Calls prog fn (#[.string nm,.string d.1]++cs) V fun e w'=>e= .returned (.bool true)∧Below V.heap.size V w')
  (k:Int) (b:ByteArray) (bc:lq d.1=some ⟨k,b⟩) (hr:av ⟨k,b⟩=true) (h1:∀y,L 1 y=none) (aa:nm≠bL (idO ⟨k,b⟩)) (a7:nm≠bg (bL (idO ⟨k,b⟩))) (bt:dK nm d.1=none) (aw:b.size+12≤M) (hq:3*((N+1)*M)+M≤q) (ba:q≤1000000000) :
  Calls prog 54 #[.pointer (some ⟨wb,0,none⟩),.string bI,.func (.func fn) #[] cs] w fun e w'=>e= .returned (.int .i64 0)∧(∃sy',DV O (N+1) (R+3) M w' g q ((L.put 0 (bL (idO ⟨k,b⟩)) (some (aZ ⟨k,b⟩,0))).put 0 nm none) sy')∧Kp O w w':=by
 have m:0<3:=by omega
 have aE:=(i.size m hd).2.2
 have cp:=(i.size m hd).1
 have cS:Hid (Calls prog 11 #[.pointer (some ⟨g,0,none⟩),.string ⟨#[108,111,111,115,101]⟩] w fun e w'=> ∃v,e= .returned v∧dV w' v [nm]∧Below w.heap.size w w'):=ah (bU i (by omega) m [nm] (asc_one nm) (fun y=>by rw [hm];simp))
 have a0:Hid (∀V,Below w.heap.size w V→Calls prog 51 #[.pointer (some ⟨g,0,none⟩),.string ⟨#[108,111,111,115,101]⟩,.string nm] V fun e w'=>e= .returned (.tuple #[.string d.1,.int .i64 0])∧Below V.heap.size V w'):=ah fun V hb=>by
  have h:=dQ (i.below hb) m (by omega) aE
  rw [hd] at h
  exact h
 have s:=ah (fun V (hb:Below w.heap.size w V)=>kT d.1 V (by omega) (hG.below hb))
 unfold vk at s
 rw [bc] at s
 dsimp only at s
 have al:∀y,y≠nm→L 0 y=none:=fun y hy=>by
  cases h:L 0 y with
  | none=>rfl
  | some v=>exact absurd ((hm y).1 (by rw [h];rfl)) hy
 have ai:Hid (∀V,Below w.heap.size w V→ ∀rb ro J,V.rangeAt rb ro [.int .i64 k,.string b]→Calls prog 61 #[.pointer (some ⟨wb,0,none⟩),.slice (some ⟨rb,ro,none⟩) 1 J] V fun e w'=>e= .returned (.int .i64 0)∧DV (Ou O w V) (N+1) (R+2) M w' g q (L.put 0 (bL (idO ⟨k,b⟩)) (some (aZ ⟨k,b⟩,0))) (upN sy 0 false)∧Kp (Ou O w V) V w'):=ah fun V hb rb ro J a =>
  Fw (i.on hb) (hG.below hb) (ak.below hw hb:WrB V wb g (.slice ka 0 kc)) (.inl ax) (by omega) (by omega) k b hr h1 (al _ (fun e=>aa e.symm)) (al _ (fun e=>a7 e.symm)) aw hq ba rb ro J a
 have bl:(aZ ⟨k,b⟩).size≤M:=Nat.le_trans (jJ (o:=⟨k,b⟩) (by have:=nX hr;show b.size<128^3;omega)) aw
 have a5:(L.put 0 (bL (idO ⟨k,b⟩)) (some (aZ ⟨k,b⟩,0))) 0 nm=some d:=by rw [LK.aV (fun e=>aa e.2),hd]
 have F:Hid ((L.put 0 (bL (idO ⟨k,b⟩)) (some (aZ ⟨k,b⟩,0))) 0 nm=some d∧(∀y,(L.put 0 (bL (idO ⟨k,b⟩)) (some (aZ ⟨k,b⟩,0))) 1 y=none)):=ah ⟨a5,fun y=>by rw [LK.aV (fun e=>absurd e.1 (by decide)),h1]⟩
 have c4:=ah (fun V m=>hG.kp (O:=O) (w':=V) m i.gW)
 have ca:Hid (∀V,Kp O w V→Calls prog 58 #[.string nm,.string d.1] V fun e w'=>e= .returned (.bool false)∧Below V.heap.size V w'):=ah fun V m=>by
  have h:=qH nm d.1 V (by omega) (hG.kp m i.gW)
  rw [bt] at h
  exact h
 have bx:=ah aE
 have b2:Hid (∃n,d=(d.1,n)):=ah ⟨d.2,rfl⟩
 have cL:=ah i.gW
 have cW:=ah i.olt
 have c0:=dZ hw (Below.refl _ w)
 have HC:=ah (fun V hb=>dZ (V:=V) hw hb)
 have cA:Hid (∀D V W,Below w.heap.size w V→(∀j,O j→D j)→Kp D V W→W.cell? ⟨wb,0,none⟩=some (.pointer (some ⟨g,0,none⟩))):=ah fun D V W hb hO m=>(ak.kp (ak.below hw hb) m (hO _ ax)).range 0 _ rfl
 have ck:Hid (wb<w.heap.size):=ah (ak.lt hw)
 have HD:=ah cd
 have cD:=ah oK
 have ct:=ah gZ
 have bm:bI=⟨#[108,111,111,115,101]⟩:=rfl
 rw [bm]
 obtain ⟨LX,b0⟩:∃z,(L.put 0 (bL (idO ⟨k,b⟩)) (some (aZ ⟨k,b⟩,0)))=z:=⟨_,rfl⟩
 rw [b0] at F ai ⊢
 have cN:=F.out
 generalize d.1=l at a0 HD s ca b2
 clear i hG hw ax hm hd cd bc aE cp b0 hr h1 aa a7 bt aw hq ba al bl a5 cN
 have cX:∀V,(Instr.build 32 #[(0,.string ⟨#[108,111,111,115,101]⟩),(1,.string nm),(2,.string l)]).run prog V= .ok (.agg (flC ⟨⟨#[108,111,111,115,101]⟩,nm,l⟩).toArray) V:=fun V=>run_build V 32 _ _ (by kernel_rfl)
 go_enter func54,ntmps54
 go_wp2_with fail
 refine cS.out.mono ?_
 rintro e w1 ⟨v,rfl,i,Q⟩
 obtain ⟨ao,J,rfl,_,i⟩:=i
 obtain ⟨b5,a8,rfl,cU,cg⟩:=i (by simp)
 have n5:w1.cell? ⟨b5,a8,none⟩=some (.string nm):=cg 0 (by simp)
 have cQ:=ah Q
 have c1:=HC.out _ Q
 have bb:=ah (a0.out _ Q)
 clear Q c0 i cg
 go_wp2_with fail
 refine wp_loop_rounds 2 ?_
 rw [rounds_succ]
 go_wp2_with fail
 refine bb.out.mono ?_
 rintro e w2 ⟨rfl,bi⟩
 have b3:=bth cQ bi
 clear bi c1 n5 bb
 go_wp2_with fail
 refine (HD.out _ b3.out).mono ?_
 rintro e w3 ⟨rfl,bz⟩
 have cw:=bth b3 bz
 clear bz
 obtain ⟨W,hW⟩:∃W,w3.alloc (.cells (flC ⟨⟨#[108,111,111,115,101]⟩,nm,l⟩).toArray 32)=W:=⟨_,rfl⟩
 have bv:Below w3.heap.size w3 W:=by rw [←hW];exact bal
 have b7:Hid (W.rangeAt w3.heap.size 0 (flC ⟨⟨#[108,111,111,115,101]⟩,nm,l⟩)):=ah (by rw [←hW];exact (ak.new w3 32 (flC ⟨⟨#[108,111,111,115,101]⟩,nm,l⟩)).range)
 have ad:=bth cw bv
 have cI:Hid (w.heap.size≤W.heap.size):=ah ad.out.size
 have bd:Hid (W.ownsRow w.heap.size 32 3 (.slice none 0 0) 0 []):=ah (World.ownsRow_nil _ _ _ _)
 have HW:=ah hW
 clear hW bv
 go_wp2_with (first
  | (rw [HW.out];refine jD _ rfl _ _ rfl w.heap.size _ 0 [] rfl bd.out w3.heap.size ⟨⟨#[108,111,111,115,101]⟩,nm,l⟩ rfl b7.out (by omega) cI.out ?_)
  | (refine aO rfl _ _ 32 rfl (flC ⟨⟨#[108,111,111,115,101]⟩,nm,l⟩) #[.string ⟨#[]⟩,.string ⟨#[]⟩,.string ⟨#[]⟩] rfl underlying44 (fun w=>by kernel_rfl) (fun w=>by kernel_rfl) (by simp [flC]) (by simp [flC]) ?_))
 intro v4 w4 A bu _
 have bh:=ad.out.trans ((bgr bu).mono ad.out.size)
 have ci:=ah bh
 have a:pq w4 v4 [⟨⟨#[108,111,111,115,101]⟩,nm,l⟩]:=dF.gq (B:=w.heap.size) (e:=32) (rows:=([⟨⟨#[108,111,111,115,101]⟩,nm,l⟩]:List Fl).map flC) (fun r hr=>by obtain ⟨p,_,rfl⟩:=List.mem_map.1 hr;rfl) A
 obtain ⟨fa,fc,rfl,_,a⟩:=a.open
 obtain ⟨fb,fo,rfl,cY,a⟩:=a (by simp)
 have f1:w4.rangeAt fb fo (flC ⟨⟨#[108,111,111,115,101]⟩,nm,l⟩):=by have:=a 0 (by simp);simpa using this
 clear A bu bh a bd b7
 go_wp2_with fail
 rw [rounds_succ]
 go_wp2_with fail
 refine wp_loop_rounds 2 ?_
 rw [rounds_succ]
 have h3:(prog.info? 32).map (·.size)=some (flC ⟨⟨#[108,111,111,115,101]⟩,nm,l⟩).length:=oK
 go_upto_region 13 with (first|(refine wpList_load_mid rfl 32 _ rfl fb fo rfl (flC ⟨⟨#[108,111,111,115,101]⟩,nm,l⟩) _ f1 underlying32 rfl h3 ?_)|(refine aC rfl 32 _ _ rfl #[.string ⟨#[]⟩,.string ⟨#[]⟩,.string ⟨#[]⟩] (flC ⟨⟨#[108,111,111,115,101]⟩,nm,l⟩) rfl rfl 3 rfl rfl cD.out (by intro v i;simp [flC] at i;rcases i with rfl|rfl|rfl<;>rfl) ?_;intro w5 af b4 co))
 have bn:=bth ci b4
 have a2:=ah af
 have f2:w5.cell? ⟨w4.heap.size,2,none⟩=some (.string l):=af.range 2 _ rfl
 obtain ⟨fx,ae⟩:∃b,w4.heap.size=b:=⟨_,rfl⟩
 have ab:Hid (w.heap.size≤fx):=ah (by rw [←ae];exact ci.out.size)
 rw [ae] at a2 f2 ⊢
 clear b4 af co f1 h3 ae
 go_wp2_with fail
 refine (s.out w5 bn.out).mono ?_
 rintro e w6 ⟨rfl,ac⟩
 have cy:=bth bn ac
 have cx:=ah (a2.out.below ac)
 clear ac f2 s
 have br:Hid (∀v∈[Value.int .i64 k,.string b],v.oneCell'=true):=ah (by intro v i;simp at i;rcases i with rfl|rfl<;>rfl)
 have bo:obC ⟨k,b⟩=[.int .i64 k,.string b]:=rfl
 rw [bo]
 clear bo
 go_upto_region 14 with (refine aC rfl 24 _ _ rfl #[.int .i64 0,.string ⟨#[]⟩] [.int .i64 k,.string b] rfl rfl 2 rfl rfl ct.out br.out ?_;intro w7 a6 ar cP)
 have cn:=bth cy ar
 have cE:=ah (cx.out.below ar)
 have e7:=a6.range
 have h2:(prog.info? 24).map (·.size)=some ([.int .i64 k,.string b]:List Value).length:=gZ
 obtain ⟨Z,I⟩:∃z,w7.alloc (.cells #[.int .i64 k,.string b] 24)=z:=⟨_,rfl⟩
 have X:Below w7.heap.size w7 Z:=by rw [←I];exact bal
 have cf:Z.rangeAt w7.heap.size 0 [.int .i64 k,.string b]:=by rw [←I];exact (ak.new w7 24 [.int .i64 k,.string b]).range
 have U:=bth cn X
 have ch:=ah (cE.out.below X)
 have bf:=ah (ai.out Z U.out _ _ 1 cf)
 have cl:=ah I
 clear ar a6 cP I X cf ai
 go_upto_region 15 with fail
 go_wp2_with (first
  | (rw [cl.out];fail)
  | (refine wpList_load_mid rfl 24 _ rfl w6.heap.size 0 rfl [.int .i64 k,.string b] _ e7 underlying24 rfl h2 ?_)
  | (refine aO rfl _ _ 24 rfl [.int .i64 k,.string b] #[.int .i64 0,.string ⟨#[]⟩] rfl underlying103 (fun w=>by kernel_rfl) (fun w=>by kernel_rfl) (by simp) (by simp) ?_;rw [cl.out]))
 refine bf.out.mono ?_
 rintro e u ⟨rfl,aq,t⟩
 obtain ⟨D,G⟩:∃z,Ou O w Z=z:=⟨_,rfl⟩
 rw [G] at aq t
 have P:Hid (∀j,O j→D j):=ah (by rw [←G];exact fun j hj=> .inl hj)
 have C:D fx:=by rw [←G];exact .inr ⟨ab.out,ch.out.lt⟩
 have K:=ah (ch.out.kp t C)
 have cT:=ah C
 have cb:Hid (Kp O w Z):=ah (Kp.of U.out)
 have am:=ah t
 have be:=ah aq
 have az:Hid (∀W,Kp D Z W→W.cell? ⟨wb,0,none⟩=some (.pointer (some ⟨g,0,none⟩))):=ah fun W m=>cA.out D Z W U.out P.out m
 have cq:=az.out u t
 have bs:Hid (∀V,Below u.heap.size u V→V.cell? ⟨wb,0,none⟩=some (.pointer (some ⟨g,0,none⟩))):=ah fun V hb=>az.out V (am.out.trans (Kp.of hb))
 have cv:Hid (∀V,Below u.heap.size u V→Calls prog 51 #[.pointer (some ⟨g,0,none⟩),.string ⟨#[108,111,111,115,101]⟩,.string nm] V fun e w'=>e= .returned (.tuple #[.string l,.int .i64 0])∧Below V.heap.size V w'):=ah fun V hb=>by
  have h:=dQ (k:=0) (x:=nm) (be.out.below hb) (by omega) (by omega) bx.out
  rw [F.out.1] at h
  obtain ⟨n,hn⟩:=b2.out
  rw [hn] at h
  exact h
 have b8:Hid (∀V,Below u.heap.size u V→Calls prog 58 #[.string nm,.string l] V fun e w'=>e= .returned (.bool false)∧Below V.heap.size V w'):=ah fun V hb=>ca.out V (cb.out.trans ((am.out.trans (Kp.of hb)).sub fun j _ h=>P.out j h))
 have S:Hid (∀V,DV D (N+1) (R+2) M V g q LX (upN sy 0 false)→Calls prog 65 #[.pointer (some ⟨g,0,none⟩),.string ⟨#[108,111,111,115,101]⟩,.string nm] V (nH D (N+1) (R+2+1) M g q (LX.put 0 nm none) (upN (upN sy 0 false) 0 false) V)):=ah fun V h=>qj (k:=0) (d:=d) h (by omega) (by omega) bx.out F.out.1
 unfold nH at S
 clear aq t G C e7 h2 bf
 clear bm
 go_upto_region 18 with fail
 have f3:u.cell? ⟨fx,1,none⟩=some (.string nm):=K.out.range 1 _ rfl
 have cC:wb<u.heap.size:=by have:=K.out.lt;have:=ck.out;have:=ab.out;omega
 have cm:=K.out.lt
 have cH:=fun x:BW u.heap.size u=>cv.out x.out x.hb
 refine wbq ?_
 have T:=blq cq
 have ag:=blq f3
 repeat (go_big_quiet_step ((go_at_call 51;with_reducible exact aF (cH _))))
 refine wpQuiet_nil ?_
 intro wq f
 clear T ag
 have cF:=ah (be.out.below f)
 have cR:=ah (am.out.trans (Kp.of f))
 have bj:=ah (K.out.below f)
 have cr:=bs.out wq f
 have cJ:=b8.out wq f
 have f4:wq.cell? ⟨fx,1,none⟩=some (.string nm):=bj.out.range 1 _ rfl
 clear cq f3 cC cm
 have bk:=ah f
 clear f
 go_upto_region 19 with fail
 go_wp2_with fail
 refine cJ.mono ?_
 rintro e wi ⟨rfl,E⟩
 have a9:=ah (cF.out.below E)
 have cc:=ah (cR.out.trans (Kp.of E))
 have H:=ah (bj.out.below E)
 have ap:=bs.out wi (bk.out.trans (E.mono bk.out.size))
 clear E cr f4
 go_upto_region 20 with fail
 have b9:wb<wi.heap.size:=by have:=H.out.lt;have:=ck.out;have:=ab.out;omega
 have a4:=H.out.lt
 have f5:wi.cell? ⟨fx,1,none⟩=some (.string nm):=H.out.range 1 _ rfl
 obtain ⟨ww,cj⟩:∃z,wi=z:=⟨_,rfl⟩
 rw [cj] at b9 a4 f5 ap a9 cc H ⊢
 clear cj
 refine aX 7 (by kernel_rfl) (by kernel_rfl) ?_
 simp only [List.take_succ_cons,List.take_zero,List.drop_succ_cons,List.drop_zero]
 have T:=blq ap
 have ag:=blq f5
 repeat (go_big_quiet_step (fail))
 refine wpQuiet_nil ?_
 intro wq f
 clear T ag
 have bp:=f
 have b6:=ah (S.out wq (a9.out.below bp))
 have a3:=ah (cc.out.trans (Kp.of bp))
 have cM:Hid (∀W,Kp D wq W→W.cell? ⟨wb,0,none⟩=some (.pointer (some ⟨g,0,none⟩))):=ah fun W m=>az.out W (a3.out.trans m)
 clear b9 a4 f5 ap f
 go_wp2_with fail
 refine b6.out.mono ?_
 rintro e wz ⟨rfl,an,Y⟩
 have c2:=ah an
 have cG:=ah (a3.out.trans Y)
 have cz:=cM.out wz Y
 have ce:=ah (lN an m (by omega))
 clear an Y b6
 go_wp2_with fail
 rw [rounds_succ]
 go_wp2_with fail
 refine ce.out.mono ?_
 rintro e wy ⟨rfl,a1,b1⟩
 have HE:Hid ((∃sy',DV O (N+1) (R+3) M wy g q (LX.put 0 nm none) sy')∧Kp O w wy):=ah ⟨⟨_,a1.sub P.out cL.out⟩,(cb.out.trans ((cG.out.trans b1).sub fun b _ h=>P.out b h))⟩
 clear a1 b1 ce
 go_wp2_with fail
 go_ret
 exact ⟨rfl,HE.out⟩
theorem zF (i:DV O N R M w g q L sy) (hG:cu w) (hw:WrB w wb g kv) (bj:O wb) (hN:N+R≤800000) (ct:M≤100000) (nm:ByteArray) (d:ByteArray×Nat) (hd:L 2 nm=some d) (hm:∀y,(L 2 y).isSome=true↔y=nm) (fn:FuncId) (cs:Array Value) (cC:∀args w,Sem.run prog (callFunc fn args) w= .ok (.enter fn args) w)
  (bm:∀V,Below w.heap.size w V→Calls prog fn (#[.string nm,.string d.1]++cs) V fun e w'=>e= .returned (.bool true)∧Below V.heap.size V w')
  (ax:lq d.1=none) :
  Calls prog 54 #[.pointer (some ⟨wb,0,none⟩),.string iR,.func (.func fn) #[] cs] w fun e w'=>e= .returned (.int .i64 0)∧(∃sy',DV O (N+1) (R+3) M w' g q (L.put 2 nm none) sy')∧Kp O w w':=by
 have A:2<3:=by omega
 have ag:=(i.size A hd).2.2
 have bv:=(i.size A hd).1
 have cn:Hid (Calls prog 11 #[.pointer (some ⟨g,0,none⟩),.string ⟨#[114,101,102]⟩] w fun e w'=> ∃v,e= .returned v∧dV w' v [nm]∧Below w.heap.size w w'):=ah (bU i (by omega) A [nm] (asc_one nm) (fun y=>by rw [hm];simp))
 have ai:Hid (∀V,Below w.heap.size w V→Calls prog 51 #[.pointer (some ⟨g,0,none⟩),.string ⟨#[114,101,102]⟩,.string nm] V fun e w'=>e= .returned (.tuple #[.string d.1,.int .i64 0])∧Below V.heap.size V w'):=ah fun V hb=>by
  have h:=dQ (i.below hb) A (by omega) ag
  rw [hd] at h
  exact h
 have o:=ah (fun V (hb:Below w.heap.size w V)=>kT d.1 V (by omega) (hG.below hb))
 unfold vk at o
 rw [ax] at o
 dsimp only at o
 have s:Hid (L 2 nm=some d):=ah hd
 have ca:=s
 have G:=ah (fun V (hb:Below w.heap.size w V)=>(i.on hb).mono (show N≤N+1 from by omega) (show R≤R+2 from by omega) (Nat.le_refl M))
 have a8:=ah ag
 have bd:Hid (∃n,d=(d.1,n)):=ah ⟨d.2,rfl⟩
 have ch:=ah i.gW
 have cw:=ah i.olt
 have c0:=dZ hw (Below.refl _ w)
 have HC:=ah (fun V hb=>dZ (V:=V) hw hb)
 have b4:Hid (∀C V W,Below w.heap.size w V→(∀j,O j→C j)→Kp C V W→W.cell? ⟨wb,0,none⟩=some (.pointer (some ⟨g,0,none⟩))):=ah fun C V W hb hO A=>(ak.kp (ak.below hw hb) A (hO _ bj)).range 0 _ rfl
 have bs:Hid (wb<w.heap.size):=ah (ak.lt hw)
 have HD:=ah bm
 have b7:=ah oK
 have bz:=ah gZ
 have a3:iR=⟨#[114,101,102]⟩:=rfl
 rw [a3]
 obtain ⟨LX,bb⟩:∃z,L=z:=⟨_,rfl⟩
 rw [bb] at s ca G ⊢
 have cj:=s.out
 generalize d.1=m at ai HD o bd
 clear i hG hw bj hm hd bm ax ag bv bb cj
 have cx:∀V,(Instr.build 32 #[(0,.string ⟨#[114,101,102]⟩),(1,.string nm),(2,.string m)]).run prog V= .ok (.agg (flC ⟨⟨#[114,101,102]⟩,nm,m⟩).toArray) V:=fun V=>run_build V 32 _ _ (by kernel_rfl)
 go_enter func54,ntmps54
 go_wp2_with fail
 refine cn.out.mono ?_
 rintro e w1 ⟨v,rfl,i,F⟩
 obtain ⟨ao,cv,rfl,_,i⟩:=i
 obtain ⟨b5,aq,rfl,cp,bo⟩:=i (by simp)
 have n5:w1.cell? ⟨b5,aq,none⟩=some (.string nm):=bo 0 (by simp)
 have cl:=ah F
 have c1:=HC.out _ F
 have ar:=ah (ai.out _ F)
 clear F c0 i bo
 go_wp2_with fail
 refine wp_loop_rounds 2 ?_
 rw [rounds_succ]
 go_wp2_with fail
 refine ar.out.mono ?_
 rintro e w2 ⟨rfl,a1⟩
 have be:=bth cl a1
 clear a1 c1 n5 ar
 go_wp2_with fail
 refine (HD.out _ be.out).mono ?_
 rintro e w3 ⟨rfl,a9⟩
 have b1:=bth be a9
 clear a9
 obtain ⟨W,hW⟩:∃W,w3.alloc (.cells (flC ⟨⟨#[114,101,102]⟩,nm,m⟩).toArray 32)=W:=⟨_,rfl⟩
 have a7:Below w3.heap.size w3 W:=by rw [←hW];exact bal
 have bi:Hid (W.rangeAt w3.heap.size 0 (flC ⟨⟨#[114,101,102]⟩,nm,m⟩)):=ah (by rw [←hW];exact (ak.new w3 32 (flC ⟨⟨#[114,101,102]⟩,nm,m⟩)).range)
 have T:=bth b1 a7
 have ce:Hid (w.heap.size≤W.heap.size):=ah T.out.size
 have az:Hid (W.ownsRow w.heap.size 32 3 (.slice none 0 0) 0 []):=ah (World.ownsRow_nil _ _ _ _)
 have HW:=ah hW
 clear hW a7
 go_wp2_with (first
  | (rw [HW.out];refine jD _ rfl _ _ rfl w.heap.size _ 0 [] rfl az.out w3.heap.size ⟨⟨#[114,101,102]⟩,nm,m⟩ rfl bi.out (by omega) ce.out ?_)
  | (refine aO rfl _ _ 32 rfl (flC ⟨⟨#[114,101,102]⟩,nm,m⟩) #[.string ⟨#[]⟩,.string ⟨#[]⟩,.string ⟨#[]⟩] rfl underlying44 (fun w=>by kernel_rfl) (fun w=>by kernel_rfl) (by simp [flC]) (by simp [flC]) ?_))
 intro v4 w4 u a6 _
 have a0:=T.out.trans ((bgr a6).mono T.out.size)
 have bp:=ah a0
 have a:pq w4 v4 [⟨⟨#[114,101,102]⟩,nm,m⟩]:=dF.gq (B:=w.heap.size) (e:=32) (rows:=([⟨⟨#[114,101,102]⟩,nm,m⟩]:List Fl).map flC) (fun r hr=>by obtain ⟨p,_,rfl⟩:=List.mem_map.1 hr;rfl) u
 obtain ⟨fa,fc,rfl,_,a⟩:=a.open
 obtain ⟨fb,fo,rfl,cy,a⟩:=a (by simp)
 have f1:w4.rangeAt fb fo (flC ⟨⟨#[114,101,102]⟩,nm,m⟩):=by have:=a 0 (by simp);simpa using this
 clear u a6 a0 a az bi
 go_wp2_with fail
 rw [rounds_succ]
 go_wp2_with fail
 refine wp_loop_rounds 2 ?_
 rw [rounds_succ]
 have h3:(prog.info? 32).map (·.size)=some (flC ⟨⟨#[114,101,102]⟩,nm,m⟩).length:=oK
 go_upto_region 13 with (first|(refine wpList_load_mid rfl 32 _ rfl fb fo rfl (flC ⟨⟨#[114,101,102]⟩,nm,m⟩) _ f1 underlying32 rfl h3 ?_)|(refine aC rfl 32 _ _ rfl #[.string ⟨#[]⟩,.string ⟨#[]⟩,.string ⟨#[]⟩] (flC ⟨⟨#[114,101,102]⟩,nm,m⟩) rfl rfl 3 rfl rfl b7.out (by intro v i;simp [flC] at i;rcases i with rfl|rfl|rfl<;>rfl) ?_;intro w5 X bf bu))
 have a4:=bth bp bf
 have am:=ah X
 have f2:w5.cell? ⟨w4.heap.size,2,none⟩=some (.string m):=X.range 2 _ rfl
 obtain ⟨fx,U⟩:∃b,w4.heap.size=b:=⟨_,rfl⟩
 have aw:Hid (w.heap.size≤fx):=ah (by rw [←U];exact bp.out.size)
 rw [U] at am f2 ⊢
 clear bf X bu f1 h3 U
 go_wp2_with fail
 refine (o.out w5 a4.out).mono ?_
 rintro e w6 ⟨rfl,S⟩
 have b3:=bth a4 S
 have b2:=ah (am.out.below S)
 clear S f2 o
 go_upto_region 14 with (refine aC rfl 24 _ _ rfl #[.int .i64 0,.string ⟨#[]⟩] [.int .i64 0,.string ⟨#[]⟩] rfl rfl 2 rfl rfl bz.out (by intro v i;simp at i;rcases i with rfl|rfl<;>rfl) ?_;intro l bx ad ck)
 have J:=bth b3 ad
 have b8:=ah (b2.out.below ad)
 clear ad bx ck
 have ac:=G.out l J.out
 obtain ⟨C,K⟩:∃z,Ou O w l=z:=⟨_,rfl⟩
 rw [K] at ac
 have aa:Hid (∀j,O j→C j):=ah (by rw [←K];exact fun j hj=> .inl hj)
 have D:=b8
 have co:Hid (Kp O w l):=ah (Kp.of J.out)
 have cg:Hid (Kp C l l):=ah (Kp.refl _ _)
 have aE:=ah ac
 have af:Hid (∀W,Kp C l W→W.cell? ⟨wb,0,none⟩=some (.pointer (some ⟨g,0,none⟩))):=ah fun W A=>b4.out C l W J.out aa.out A
 have cq:=af.out l (Kp.refl _ _)
 have b9:Hid (∀V,Below l.heap.size l V→V.cell? ⟨wb,0,none⟩=some (.pointer (some ⟨g,0,none⟩))):=ah fun V hb=>af.out V (Kp.of hb)
 have b0:Hid (∀V,Below l.heap.size l V→Calls prog 51 #[.pointer (some ⟨g,0,none⟩),.string ⟨#[114,101,102]⟩,.string nm] V fun e w'=>e= .returned (.tuple #[.string m,.int .i64 0])∧Below V.heap.size V w'):=ah fun V hb=>by
  have h:=dQ (k:=2) (x:=nm) (aE.out.below hb) (by omega) (by omega) a8.out
  rw [s.out] at h
  obtain ⟨n,hn⟩:=bd.out
  rw [hn] at h
  exact h
 have bk:Hid (∀V,Below l.heap.size l V→True):=ah fun _ _=>trivial
 have H:Hid (∀V,DV C (N+1) (R+2) M V g q LX sy→Calls prog 65 #[.pointer (some ⟨g,0,none⟩),.string ⟨#[114,101,102]⟩,.string nm] V (nH C (N+1) (R+2+1) M g q (LX.put 2 nm none) (upN sy 2 false) V)):=ah fun V h=>qj (k:=2) (d:=d) h (by omega) (by omega) a8.out s.out
 unfold nH at H
 clear ac K
 clear a3
 go_upto_region 18 with fail
 have f3:l.cell? ⟨fx,1,none⟩=some (.string nm):=D.out.range 1 _ rfl
 have b6:wb<l.heap.size:=by have:=D.out.lt;have:=bs.out;have:=aw.out;omega
 have bt:=D.out.lt
 have cd:=fun x:BW l.heap.size l=>b0.out x.out x.hb
 refine wbq ?_
 have I:=blq cq
 have Y:=blq f3
 repeat (go_big_quiet_step ((go_at_call 51;with_reducible exact aF (cd _))))
 refine wpQuiet_nil ?_
 intro Z f
 clear I Y
 have cb:=ah (aE.out.below f)
 have cm:=ah (cg.out.trans (Kp.of f))
 have a2:=ah (D.out.below f)
 have cr:=b9.out Z f
 have cf:=bk.out Z f
 have f4:Z.cell? ⟨fx,1,none⟩=some (.string nm):=a2.out.range 1 _ rfl
 clear cq f3 b6 bt
 have Q:=cb
 have ae:=cm
 have t:=a2
 have E:=cr
 obtain ⟨wi,ba⟩:∃z,Z=z:=⟨_,rfl⟩
 rw [ba] at Q ae t E ⊢
 clear ba cr f4 f cf
 go_upto_region 20 with fail
 have bl:wb<wi.heap.size:=by have:=t.out.lt;have:=bs.out;have:=aw.out;omega
 have ap:=t.out.lt
 have f5:wi.cell? ⟨fx,1,none⟩=some (.string nm):=t.out.range 1 _ rfl
 obtain ⟨ww,br⟩:∃z,wi=z:=⟨_,rfl⟩
 rw [br] at bl ap f5 E Q ae t ⊢
 clear br
 refine aX 7 (by kernel_rfl) (by kernel_rfl) ?_
 simp only [List.take_succ_cons,List.take_zero,List.drop_succ_cons,List.drop_zero]
 have I:=blq E
 have Y:=blq f5
 repeat (go_big_quiet_step (fail))
 refine wpQuiet_nil ?_
 intro Z f
 clear I Y
 have a5:=f
 have bh:=ah (H.out Z (Q.out.below a5))
 have an:=ah (ae.out.trans (Kp.of a5))
 have ci:Hid (∀W,Kp C Z W→W.cell? ⟨wb,0,none⟩=some (.pointer (some ⟨g,0,none⟩))):=ah fun W A=>af.out W (an.out.trans A)
 clear bl ap f5 E f
 go_wp2_with fail
 refine bh.out.mono ?_
 rintro e wz ⟨rfl,ab,P⟩
 have cA:=ah ab
 have cc:=ah (an.out.trans P)
 have cz:=ci.out wz P
 have bn:=ah (lN ab A (by omega))
 clear ab P bh
 go_wp2_with fail
 rw [rounds_succ]
 go_wp2_with fail
 refine bn.out.mono ?_
 rintro e wy ⟨rfl,al,bc⟩
 have HE:Hid ((∃sy',DV O (N+1) (R+3) M wy g q (LX.put 2 nm none) sy')∧Kp O w wy):=ah ⟨⟨_,al.sub aa.out ch.out⟩,(co.out.trans ((cc.out.trans bc).sub fun b _ h=>aa.out b h))⟩
 clear al bc bn
 go_wp2_with fail
 go_ret
 exact ⟨rfl,HE.out⟩
end
def hxA:ByteArray:=bL xA
def fl2:List Fl:=[⟨bI,nmX,aZ oA⟩,⟨iR,nmX,⟨#[]⟩⟩]
def L0K:LK:=lkF fl2
def LaK:LK:=(L0K.put 0 hxA (some (aZ oA,0))).put 0 nmX none
def L1K:LK:=LaK.put 2 nmX none
theorem rJ:(aZ oA).size≤14:=jJ (o:=oA) (by decide)
theorem nW:av oA=true:=by decide +kernel
theorem yY:hxA≠nmX∧hxA≠bg hxA∧nmX≠bg hxA:=by decide +kernel
theorem MJ:lq (aZ oA)=some oA:=by rw [EH _ (by have:=rJ;omega),pV nW]
theorem Jj:lq ⟨#[]⟩=none:=by unfold lq;rw [if_pos (by decide)]
theorem MH:dK nmX (aZ oA)=none:=by
 unfold dK
 rw [pV nW]
 dsimp only
 rw [idA]
 exact if_neg yY.1
theorem CR:(dK hxA (aZ oA)).isSome=true:=by
 have h:=Gf nW
 rw [idA] at h
 have e:hxA=ofB (bJ xA):=rfl
 rw [e,h];rfl
theorem unX:fT nmX=false:=by decide +kernel
theorem goL (k:Nat):dP ⟨bI,nmX,aZ oA⟩ k=decide (k=0):=by
 unfold dP
 rw [show aW (⟨bI,nmX,aZ oA⟩:Fl).dir=some 0 from rfl,show aJ (⟨bI,nmX,aZ oA⟩:Fl).name=true from rfl,decide_eq_true (show (aZ oA).size≤1048576 by have:=rJ;omega)]
 simp [eq_comm]
theorem goR (k:Nat):dP ⟨iR,nmX,⟨#[]⟩⟩ k=decide (k=2):=by
 unfold dP
 rw [show aW (⟨iR,nmX,⟨#[]⟩⟩:Fl).dir=some 2 from rfl,show aJ (⟨iR,nmX,⟨#[]⟩⟩:Fl).name=true from rfl,decide_eq_true (show (⟨#[]⟩:ByteArray).size≤1048576 by decide)]
 simp [eq_comm]
theorem mq (k:Nat) (y:ByteArray):L0K k y=if y=nmX then (if k=2 then some (⟨#[]⟩,0) else if k=0 then some (aZ oA,(aZ oA).size) else none) else none:=by
 unfold L0K lkF qb fl2
 rw [List.foldl_cons,List.foldl_cons,List.foldl_nil,goL,goR]
 by_cases e:y=nmX
 ·rw [if_pos e]
  by_cases a:k=2
  ·rw [if_pos a,if_pos ⟨decide_eq_true a,e.symm⟩];rfl
  rw [if_neg a,if_neg (fun h=>a (of_decide_eq_true h.1))]
  by_cases b:k=0
  ·rw [if_pos b,if_pos ⟨decide_eq_true b,e.symm⟩];rfl
  rw [if_neg b,if_neg (fun h=>b (of_decide_eq_true h.1))];rfl
 rw [if_neg e,if_neg (fun h=>e h.2.symm),if_neg (fun h=>e h.2.symm)];rfl
theorem ND (y:ByteArray):LaK 0 y=if y=hxA then some (aZ oA,0) else none:=by
 unfold LaK
 by_cases e:y=nmX
 ·rw [e,LK.bG,if_neg (fun h=>yY.1 h.symm)]
 rw [LK.aV (fun h=>e h.2)]
 by_cases h:y=hxA
 ·rw [h,LK.bG,if_pos rfl]
 rw [LK.aV (fun a=>h a.2),if_neg h,mq,if_neg e]
theorem JF {k:Nat} (a:k≠0) (y:ByteArray):LaK k y=L0K k y:=by
 unfold LaK
 rw [LK.aV (fun h=>a h.1),LK.aV (fun h=>a h.1)]
theorem JG (y:ByteArray):L1K 0 y=if y=hxA then some (aZ oA,0) else none:=by
 unfold L1K
 rw [LK.aV (fun h=>absurd h.1 (by decide)),ND]
theorem MO (y:ByteArray):L1K 1 y=none:=by
 unfold L1K
 rw [LK.aV (fun h=>absurd h.1 (by decide)),JF (by decide),mq]
 split<;>rfl
theorem MN (y:ByteArray):L1K 2 y=none:=by
 unfold L1K
 by_cases e:y=nmX
 ·rw [e,LK.bG]
 rw [LK.aV (fun h=>e h.2),JF (by decide),mq,if_neg e]
theorem rH {α:Type} {f:ByteArray→Option α} {x:ByteArray} {v:α} (h:∀y,f y=if y=x then some v else none) (y:ByteArray):(f y).isSome=true↔y=x:=by
 rw [h]
 by_cases e:y=x
 ·rw [if_pos e];simp [e]
 rw [if_neg e];simp [e]
theorem D9 (w:World):(Instr.build 83 #[(0,.string ⟨#[108,111,111,115,101]⟩),(1,.string ⟨#[112,97,99,107]⟩),(2,.string ⟨#[114,101,102]⟩)]).run prog w= .ok (.agg #[.string ⟨#[108,111,111,115,101]⟩,.string ⟨#[112,97,99,107]⟩,.string ⟨#[114,101,102]⟩]) w:=run_build w 83 _ _ (by kernel_rfl)
theorem JL (W:World):(Instr.index 83 (.agg #[.string ⟨#[108,111,111,115,101]⟩,.string ⟨#[112,97,99,107]⟩,.string ⟨#[114,101,102]⟩]) (.int .i64 0)).run prog W= .ok (.string ⟨#[108,111,111,115,101]⟩) W:=by kernel_rfl
theorem JK (W:World):(Instr.index 83 (.agg #[.string ⟨#[108,111,111,115,101]⟩,.string ⟨#[112,97,99,107]⟩,.string ⟨#[114,101,102]⟩]) (.int .i64 1)).run prog W= .ok (.string ⟨#[112,97,99,107]⟩) W:=by kernel_rfl
theorem JJ (W:World):(Instr.index 83 (.agg #[.string ⟨#[108,111,111,115,101]⟩,.string ⟨#[112,97,99,107]⟩,.string ⟨#[114,101,102]⟩]) (.int .i64 2)).run prog W= .ok (.string ⟨#[114,101,102]⟩) W:=by kernel_rfl
section
variable {O:Nat → Prop} {w:World} {g:Nat} {sy:Nat → Bool} {wb kc:Nat} {ka:Option Addr}
theorem Cx (F:DV O 2 0 100 w g 10000 L0K sy) (hG:cu w) (hw:WrB w wb g (.slice ka 0 kc)) (d:O wb) :
  Calls prog 23 #[.pointer (some ⟨wb,0,none⟩)] w fun e w'=>e= .returned (.int .i64 0)∧(∃sy',DV O 4 6 100 w' g 10000 L1K sy')∧Kp O w w':=by
 have ae:=D9
 have ag:=JL
 have ai:=JK
 have ad:=JJ
 have r:=enters_of func55 (by kernel_rfl) rfl
 have D:Hid (∀W b,Below w.heap.size w W→W.cell? ⟨b,0,none⟩=some (.string ⟨#[108,111,111,115,101]⟩)→b<W.heap.size→Calls prog 54 #[.pointer (some ⟨wb,0,none⟩),.string ⟨#[108,111,111,115,101]⟩,.func (.func 55) #[] #[.pointer (some ⟨b,0,none⟩)]] W fun e w'=>e= .returned (.int .i64 0)∧(∃sy',DV O 3 3 100 w' g 10000 LaK sy')∧WrB w' wb g (.slice ka 0 kc)∧Kp O w w'):=ah fun W b hb Z p=>by
  refine (zG (F.on hb) (hG.below hb) (ak.below hw hb:WrB W wb g (.slice ka 0 kc)) (.inl d) (by omega) (by omega) nmX (aZ oA,(aZ oA).size) (by rw [mq];rfl) (rH (v:=(aZ oA,(aZ oA).size)) (fun y=>by rw [mq];rfl)) 55 #[.pointer (some ⟨b,0,none⟩)] r (fun V hV=> ?_) 1 ⟨#[97,98]⟩ MJ nW (fun y=>by rw [mq];split<;>rfl) (fun e=>yY.1 (by rw [e];rw [show (⟨1,⟨#[97,98]⟩⟩:Ob)=oA from rfl,idA];rfl)) (fun e=>yY.2.2 (by rw [show (⟨1,⟨#[97,98]⟩⟩:Ob)=oA from rfl,idA] at e;exact e)) MH (by decide) (by decide) (by decide)).mono ?_
  ·have h:=yj nmX V
   rw [unX] at h
   exact qp nmX _ b bI true V (au Z hV p) h
  rintro e w' ⟨rfl,⟨sy',h1⟩,E⟩
  rw [show (⟨1,⟨#[97,98]⟩⟩:Ob)=oA from rfl,idA] at h1
  have S:Kp O W w':=E.sub fun j _ h=> .inl h
  exact ⟨rfl,⟨sy',h1.sub (fun j Y=> .inl Y) F.gW⟩,ak.kp (ak.below hw hb) S d,(Kp.of hb).trans S⟩
 have Q:Hid (∀a W b sy,DV O 3 3 100 a g 10000 LaK sy→WrB a wb g (.slice ka 0 kc)→Below a.heap.size a W→Calls prog 54 #[.pointer (some ⟨wb,0,none⟩),.string ⟨#[112,97,99,107]⟩,.func (.func 55) #[] #[.pointer (some ⟨b,0,none⟩)]] W fun e w'=>e= .returned (.int .i64 0)∧Below W.heap.size W w'):=ah fun a W b sy h1 E hb =>
  zI (h1.below hb) (ak.below E hb:WrB W wb g (.slice ka 0 kc)) (by omega) (k:=1) (by omega) (fun y=>by rw [JF (by decide),mq];split<;>rfl) _
 have B:Hid (∀a W b sy,DV O 3 3 100 a g 10000 LaK sy→WrB a wb g (.slice ka 0 kc)→cu a→Below a.heap.size a W→W.cell? ⟨b,0,none⟩=some (.string ⟨#[114,101,102]⟩)→b<W.heap.size→Calls prog 54 #[.pointer (some ⟨wb,0,none⟩),.string ⟨#[114,101,102]⟩,.func (.func 55) #[] #[.pointer (some ⟨b,0,none⟩)]] W fun e w'=>e= .returned (.int .i64 0)∧(∃sy',DV O 4 6 100 w' g 10000 L1K sy')∧Kp O a w'):=ah fun a W b sy h1 E aa hb Z p=>by
  refine (zF (h1.on hb) (aa.below hb) (ak.below E hb:WrB W wb g (.slice ka 0 kc)) (.inl d) (by omega) (by omega) nmX (⟨#[]⟩,0) (by rw [JF (by decide),mq];rfl) (rH (v:=(⟨#[]⟩,0)) (fun y=>by rw [JF (by decide),mq];rfl)) 55 #[.pointer (some ⟨b,0,none⟩)] r (fun V hV=> ?_) Jj).mono ?_
  ·exact qp nmX _ b iR true V (au Z hV p) (yh nmX V)
  rintro e w' ⟨rfl,⟨sy',h3⟩,h4⟩
  exact ⟨rfl,⟨sy',h3.sub (fun j Y=> .inl Y) F.gW⟩,(Kp.of hb).trans (h4.sub fun j _ h=> .inl h)⟩
 have ac:=ah (fun V S=>hG.kp (O:=O) (w':=V) S F.gW)
 clear F hG hw d r
 go_enter func23,ntmps23
 go_wp2_with fail
 refine wp_loop_rounds 4 ?_
 rw [rounds_succ]
 go_upto_region 4 with fail
 obtain ⟨X,i⟩:∃z,w.alloc (.cells #[.string ⟨#[108,111,111,115,101]⟩] 9)=z:=⟨_,rfl⟩
 have N:Below w.heap.size w X:=by rw [←i];exact bal
 have o:ak X w.heap.size 9 [.string ⟨#[108,111,111,115,101]⟩]:=by rw [←i];exact ak.new w 9 [.string ⟨#[108,111,111,115,101]⟩]
 have c1:X.cell? ⟨w.heap.size,0,none⟩=some (.string ⟨#[108,111,111,115,101]⟩):=o.range 0 _ rfl
 have t:=ah (D.out X w.heap.size N c1 o.lt)
 rw [i]
 clear i o N D
 go_wp2_with fail
 refine t.out.mono ?_
 rintro e a ⟨rfl,⟨af,L⟩,R,H⟩
 have G:=ah L
 have m:=ah R
 have u:=ah H
 clear L R H c1 t
 go_wp2_with fail
 rw [rounds_succ]
 go_upto_region 4 with fail
 obtain ⟨T,f⟩:∃z,a.alloc (.cells #[.string ⟨#[112,97,99,107]⟩] 9)=z:=⟨_,rfl⟩
 have s:Below a.heap.size a T:=by rw [←f];exact bal
 have C:ak T a.heap.size 9 [.string ⟨#[112,97,99,107]⟩]:=by rw [←f];exact ak.new a 9 [.string ⟨#[112,97,99,107]⟩]
 have c3:T.cell? ⟨a.heap.size,0,none⟩=some (.string ⟨#[112,97,99,107]⟩):=C.range 0 _ rfl
 have x:=ah (Q.out a T a.heap.size _ G.out m.out s)
 have ab:=ah s
 rw [f]
 clear f C s Q
 go_wp2_with fail
 refine x.out.mono ?_
 rintro e n ⟨rfl,K⟩
 have P:=bth ab K
 clear K c3 x
 go_wp2_with fail
 rw [rounds_succ]
 go_upto_region 4 with fail
 obtain ⟨U,l⟩:∃z,n.alloc (.cells #[.string ⟨#[114,101,102]⟩] 9)=z:=⟨_,rfl⟩
 have A:Below n.heap.size n U:=by rw [←l];exact bal
 have q:ak U n.heap.size 9 [.string ⟨#[114,101,102]⟩]:=by rw [←l];exact ak.new n 9 [.string ⟨#[114,101,102]⟩]
 have c5:U.cell? ⟨n.heap.size,0,none⟩=some (.string ⟨#[114,101,102]⟩):=q.range 0 _ rfl
 have M:=ah (B.out a U n.heap.size _ G.out m.out (ac.out _ u.out) (P.out.trans (A.mono P.out.size)) c5 q.lt)
 rw [l]
 clear l q A B
 go_wp2_with fail
 refine M.out.mono ?_
 rintro e w6 ⟨rfl,I,J⟩
 have HE:=ah (And.intro I (u.out.trans J))
 clear I J c5 M
 go_wp2_with fail
 rw [rounds_succ]
 go_wp2_with fail
 go_ret
 exact ⟨rfl,HE.out⟩
end
section
variable {O:Nat → Prop} {N R M:Nat} {w:World} {g:Nat} {q:Int} {L:LK} {sy:Nat → Bool} {wb:Nat} {kv:Value}
theorem Dh (f:DV O N R M w g q L sy) (i:cu w) (j:WrB w wb g kv) (m:N+R≤1000000) (n:M≤1000000) (nm:ByteArray) (d:ByteArray×Nat) (hd:L 0 nm=some d) (hm:∀y,(L 0 y).isSome=true↔y=nm) (l:(dK nm d.1).isSome=true) :
  Calls prog 24 #[.pointer (some ⟨wb,0,none⟩)] w fun e w'=>e= .returned (.int .i64 0)∧Below w.heap.size w w':=by
 have b:=(f.size (k:=0) (by omega) hd).1
 have HS:Hid (Calls prog 54 #[.pointer (some ⟨wb,0,none⟩),.string ⟨#[108,111,111,115,101]⟩,.func (.func 57) #[] #[]] w fun e w'=>e= .returned (.int .i64 0)∧Below w.heap.size w w'):=ah
  (zH f j m (k:=0) (by omega) nm d hd hm 57 #[] (enters_of func57 (by kernel_rfl) rfl) (fun V hb=>by
   have h:=AX nm d.1 V (by omega) (i.below hb)
   rw [l] at h
   exact h))
 clear f i j hd hm l b
 go_enter func24,ntmps24
 go_wp2_with fail
 refine HS.out.mono ?_
 rintro e w1 ⟨rfl,a⟩
 go_wp2_with fail
 go_ret
 exact ⟨rfl,a⟩
theorem Cq (b:DV O N R M w g q L sy) (f:WrB w wb g kv) (h:N+R≤1000000) (h1:∀y,L 1 y=none) :
  Calls prog 25 #[.pointer (some ⟨wb,0,none⟩)] w fun e w'=>e= .returned (.int .i64 0)∧Below w.heap.size w w':=by
 have i:=ah (xX b h h1)
 have j:=dZ f (Below.refl _ w)
 clear b f h1
 go_enter func25,ntmps25
 go_wp2_with fail
 refine i.out.mono ?_
 rintro e w1 ⟨v,rfl,b,a⟩
 obtain ⟨l,k,rfl,_,_⟩:=b
 have d:=ah a
 clear a j
 go_wp2_with fail
 refine wp_loop_rounds 1 ?_
 rw [rounds_succ]
 go_wp2_with fail
 go_ret
 exact ⟨rfl,d.out⟩
end
end
section
open Go.RowKit Go.Maps Go.Shelf
def bkN:ByteArray:=⟨#[98,111,111,107]⟩
theorem dF.NM {S:Nat→Prop} {w w':World} {v:Value} {sz:Nat} {rows:List (List Value)} (h:dF w v sz rows) (f:Chg S w w') (d:rows≠[]→ ∀b,v.ownBlock=some b→ ¬S b):dF w' v sz rows:=by
 obtain ⟨l,e,rfl,hm,k⟩:=h
 refine ⟨l,e,rfl,hm,fun g=> ?_⟩
 obtain ⟨b,off,rfl,hb,a⟩:=k g
 refine ⟨b,off,rfl,Nat.lt_of_lt_of_le hb f.size,fun i hi j u hu=> ?_⟩
 rw [World.cell?_of_block (f.block b hb (d g b rfl))]
 exact a i hi j u hu
end
section
open Go.RowKit Go.Maps
section
variable {O:Nat → Prop} {N R M:Nat} {w:World} {g:Nat} {q:Int} {L:LK} {sy:Nat → Bool}
theorem StF.put (L:LK) (k:Nat) (x d:ByteArray):StF (L.put k x (some (d,d.size))) k x:=fun e a=>by
 rw [LK.bG] at a
 have:=Option.some.inj a
 rw [←this]
def Mh (O:Nat→Prop) (N R M:Nat) (g:Nat) (q:Int) (L:LK) (sy:Nat→Bool) (l:List (List UInt8)) (w:World) (e:Ending) (w':World):Prop :=
 e= .returned (.int .i64 0)∧ ∃L',DV O N R M w' g q L' (if l=[] then sy else upN sy 0 true)∧SmL L L'∧(∀x∈l,StF L' 0 (bL x))∧Kp O w w'
theorem AV (A:DV O N R M w g q L sy) (hN:N≤1000000) (v:Value) (l:List (List UInt8)) (hr:dY w v l) (I:l≠[]→ ∀k,v.ownBlock=some k→O k) (S:∀x∈l,x.length=32) (hl:∀x∈l,∃d,L 0 (bL x)=some d) :
  Calls prog 63 #[.pointer (some ⟨g,0,none⟩),v] w (Mh O N R M g q L sy l w):=by
 obtain ⟨zi,ar,ai⟩:=uh
 have D:=ah (fun W (hk:Kp O w W)=>(show dY W v l from dF.NM hr hk (fun hn b hb h=>h (I (fun e=>hn (by rw [e];rfl)) b hb))))
 obtain ⟨ao,aq,rfl,ad,_⟩:=hr.open
 have HL:=ah hl
 have aa:=ah S
 have u:=ah iN
 have ac:=ah A
 have ae:=ah (fun x hx W=>lW x hx W)
 clear hl S hr I A
 unfold maxLen at ad
 go_enter func63,ntmps63
 go_wp2_with fail
 go_loopw [10] (fun y wr=> ∃(k:Nat) (L':LK),k≤l.length∧y= .int .i64 k∧Hid (DV O N R M wr g q L' sy)∧Hid (SmL L L')∧Hid (∀x∈l.take k,StF L' 0 (bL x))∧Hid (Kp O w wr)) (fun y _=>(l.length-intOf y).toNat)
 case atStart=>exact ⟨0,L,by omega,rfl,ac,ah (SmL.refl L),ah (fun x hx=>by simp at hx),ah (Kp.refl _ _)⟩
 obtain ⟨z,rfl⟩:∃z:World,z=wr:=⟨_,rfl⟩
 obtain ⟨k,L',hk,rfl,HD,HS,HF,Y⟩:=hrel
 obtain ⟨an,al,K,_,A⟩:=(D.out z Y.out).open
 injection K with K _ e3
 subst e3
 by_cases i:k<l.length
 ·obtain ⟨b2,off,e2,am,m⟩:=A (by intro e;rw [e] at i;simp at i)
  rw [e2] at K
  subst K
  have f1:=m k i
  have f:=aa.out l[k] (List.getElem_mem i)
  obtain ⟨d,hd⟩:=HL.out l[k] (List.getElem_mem i)
  obtain ⟨d',t⟩:∃d',L' 0 (bL l[k])=some d':=by
   have Z:=HS.out.dk 0 (bL l[k])
   unfold LK.dk at Z
   rw [hd] at Z
   cases e:L' 0 (bL l[k]) with
   | none=>rw [e] at Z;cases Z
   | some d'=>exact ⟨d',rfl⟩
  have s:=ah (fun W (hb:Below z.heap.size z W)=>vZ (HD.out.below hb) (k:=0) (x:=bL l[k]) (by omega) (EW f) t)
  have H:Hid (∀X:LK,StF X 0 (bL l[k])→(∀x∈l.take k,StF X 0 (bL x))→ ∀x∈l.take (k+1),StF X 0 (bL x)):=ah (fun X h1 h2 x hx=>by
   rw [List.take_succ_eq_append_getElem i] at hx
   rcases List.mem_append.1 hx with h|h
   ·exact h2 x h
   simp at h;rw [h];exact h1)
  clear m A e2 hd
  generalize l[k]=r at f1 f t s H
  have n:(prog.info? 143).map (·.size)=some (idC r).length:=by rw [aA,f];exact u.out
  have J:=ah (bC r)
  have k0:(0:Int)≤k:=by omega
  have k1:(k:Int)<l.length:=by omega
  have d1:decide ((k:Int)<l.length)=true:=decide_eq_true k1
  have U:Hid ((idC r).length=32):=ah (by rw [aA,f])
  have T:=ah (fun W=>ae.out r f W)
  have P:=ah t
  unfold bL at s
  have o:aU 0=⟨#[108,111,111,115,101]⟩:=rfl
  rw [o] at s
  clear f t o
  go_upto_region 4 with (first|(refine wpList_load_mid rfl 143 _ rfl b2 (off+k*32) rfl (idC r) _ f1 underlying143 rfl n ?_)|(refine aC rfl 143 _ _ rfl zi (idC r) rfl rfl 32 U.out ai u.out J.out ?_;intro wn B Q ap))
  have af:=ah Q
  have e0:=B.range
  clear f1 Q B
  generalize idC r=ci at T n J U e0
  go_wp2_with (refine wpList_load_mid rfl 143 _ rfl z.heap.size 0 rfl ci _ e0 underlying143 rfl n ?_)
  refine (T.out wn).mono ?_
  rintro e w2 ⟨rfl,G⟩
  have E:=bth af G
  clear G e0
  go_wp2_with fail
  refine (s.out w2 E.out).mono ?_
  rintro e w3 ⟨rfl,p,j⟩
  have a:Hid (DV O N R M w3 g q (L'.put 0 (bL r) (some (d'.1,d'.1.size))) sy∧SmL L (L'.put 0 (bL r) (some (d'.1,d'.1.size)))∧(∀x∈l.take (k+1),StF (L'.put 0 (bL r) (some (d'.1,d'.1.size))) 0 (bL x))∧Kp O w w3):=ah
   ⟨p,HS.out.trans (SmL.sync P.out),H.out _ (StF.put _ _ _ _) (fun x hx=>(SmL.sync P.out).stf (HF.out x hx)),Y.out.trans ((Kp.of E.out).trans j)⟩
  clear p j
  go_wp2_with fail
  go_roundw
  case rel=>exact ⟨k+1,_,by omega,by go_num,ah a.out.1,ah a.out.2.1,ah a.out.2.2.1,ah a.out.2.2.2⟩
  case measure=>simp [intOf];omega
 obtain rfl:k=l.length:=by omega
 have d1:decide ((l.length:Int)<l.length)=false:=decide_eq_false (by omega)
 have F:Hid (∀x∈l,StF L' 0 (bL x)):=ah (by have:=HF.out;rwa [List.take_length] at this)
 clear K A HF
 by_cases V:l=[]
 ·subst V
  go_wp2_with fail
  go_ret
  exact ⟨rfl,L',by rw [if_pos rfl];exact HD.out,HS.out,F.out,Y.out⟩
 have ab:l.length≠0:=fun e=>V (List.eq_nil_of_length_eq_zero e)
 have d0:((l.length:Int)==0)=false:=by rw [beq_eq_false_iff_ne];omega
 have C:=ah (lN HD.out (k:=0) (by omega) hN)
 have o:aU 0=⟨#[108,111,111,115,101]⟩:=rfl
 rw [o] at C
 clear o
 have ag:=ah V
 clear V ab
 go_wp2_with fail
 refine C.out.mono ?_
 rintro e w3 ⟨rfl,p,j⟩
 have a:Hid (DV O N R M w3 g q L' (upN sy 0 true)∧Kp O w w3):=ah ⟨p,Y.out.trans j⟩
 clear p j
 go_wp2_with fail
 go_ret
 exact ⟨rfl,L',by rw [if_neg ag.out];exact a.out.1,HS.out,F.out,a.out.2⟩
end
theorem vC {w:World} {ops:Array Oper} {rest:List Oper} {g i:Oper} {a:Act} {Q:Exit→Act→World→Prop} (H:g.guard=none) (M:i.guard=none) (x s:Operand) (k2:Nat) (z:g.op= .buildSlice 106 1 #[(0,x)]) (C:g.dst=some k2)
  (q:i.op= .call { callee:=.builtin .append,args:=#[s,.tmp k2],argTypes:=#[106,106] }) (r:k2<a.tmps.size) (c:Idl) (E:c.length=32) (hx:a.eval x= .agg (idC c).toArray)
  (base:Nat) (v:Value) (n:Nat) (l:List Idl) (L:∀u,(a.put (some k2) u).eval s=v) (d:gY w base 32 v n (dx l)) (N:n≤1000000) (y:base≤w.heap.size)
  (h:∀f w' u,gY w' base 32 f (n+1) (dx (l++[c]))→(∀B,B≤w.heap.size→(∀k,v.ownBlock=some k→B≤k)→Below B w w')→wpList prog ops Q rest ((a.put (some k2) u).put i.dst f) w'):wpList prog ops Q (g::i::rest) a w:=by
 obtain ⟨G,J,hi,o,t,p,D,A⟩:=gL
 have e:(idC c).length=32:=by rw [aA,E]
 refine aO H x 106 143 z (idC c) G hx underlying106 (fun w=>by rw [e];kernel_rfl) D (by omega) (by omega) ?_
 rw [C]
 have F:=ak.new w 143 (idC c)
 have b:Below w.heap.size w (w.alloc (.cells (idC c).toArray 143)):=bal
 have m:(w.alloc (.cells (idC c).toArray 143)).heap.size=w.heap.size+1:=by simp
 generalize w.alloc (.cells (idC c).toArray 143)=W at F b m ⊢
 refine qY M s (.tmp k2) 106 q base 143 J (.agg G) 32 32 underlying106 hi o t p A (by decide) v n (dx l) (L _) (d.below b) (some ⟨w.heap.size,0,none⟩) 1 1 (idC c) (by simp [Act.put,Act.eval,r]) (by rw [e]) (fun _=>⟨_,rfl,fun j u hu=>by
  rw [Addr.add_mid]
  exact F.range j u hu⟩) (bC c) (by unfold maxLen;omega) (by omega) (by omega) ?_
 intro f w' g1 g2 g3
 rw [←lY] at g1
 refine h f w' _ g1 (fun B K I=>(b.mono K).trans ?_)
 exact (Below.refl B W).grown g2 (by omega) I
theorem Hf {d:Dk} {x:List UInt8} {n:Nat} (h:fF d x= .inl n):n=6∨n=17:=by
 unfold fF at h
 cases e:d 0 (ofB (bJ x)) with
 | none=>rw [e] at h;injection h with h;omega
 | some b =>
  rw [e] at h
  dsimp only at h
  cases a:dK (ofB (bJ x)) b with
  | none=>rw [a] at h;injection h with h;omega
  | some o=>rw [a] at h;cases h
section
variable {O:Nat → Prop} {N R M:Nat} {w:World} {g:Nat} {q:Int} {L:LK} {sy:Nat → Bool}
def Mi (N:Nat) (L:LK) (w:World) (e:Ending) (w':World):Prop:=∃v m,e= .returned v∧gY w' w.heap.size 32 v m.length (dx m)∧(∀x∈m,x.length=32∧ ∃d,L 0 (bL x)=some d)∧m.length≤N∧Below w.heap.size w w'
theorem Dn (hv:DV O N R M w g q L sy) (hN:N+R≤1000000) (hM:M≤1000000) (hG:cu w):Calls prog 64 #[.pointer (some ⟨g,0,none⟩)] w (Mi N L w):=by
 obtain ⟨zi,bh,bb⟩:=uh
 obtain ⟨d,V,ae,a8⟩:=hv.at2 hN
 obtain ⟨ns,ag,ab,aq,am⟩:=hv.names (k:=0) (by omega)
 have an:=ah (p9 g d bI 0 ns w V (by decide) rfl ag (fun y=>by rw [am,ae 0 y (by omega)]) (fun y hy=>by have:=bT (aq y hy);omega))
 have a6:=ah (fun W (hb:Below w.heap.size w W) x hx=>sj (x:=x) (hv.below hb) hN hM (hG.below hb) hx)
 have ac:=ah (fun s W=>lQ s W)
 have H:=ah iN
 have af:=ah ab
 clear hv V ae a8 ag aq am ab hG
 unfold mG at ac
 go_enter func64,ntmps64
 go_wp2_with fail
 refine an.out.mono ?_
 rintro e w1 ⟨v,rfl,ba,ar⟩
 obtain ⟨ao,bd,rfl,a0,G⟩:=ba
 have C:=ah ar
 have a7:=ah G
 unfold maxLen at a0
 clear ar G an
 go_wp2_with fail
 go_loopw [3,13] (fun s3 I wr=> ∃(k:Nat) (m:List Idl),k≤ns.length∧m.length≤k∧I= .int .i64 k∧Hid (gY wr w1.heap.size 32 s3 m.length (dx m))∧Hid (∀x∈m,x.length=32∧ ∃d,L 0 (bL x)=some d)∧Hid (Below w1.heap.size w1 wr)) (fun _ I _=>(ns.length-intOf I).toNat)
 case atStart=>exact ⟨0,[],by omega,by simp,rfl,ah (Jg _ _ _),ah (fun x hx=>by cases hx),ah (Below.refl _ _)⟩
 obtain ⟨Q,rfl⟩:∃Q:World,Q=wr:=⟨_,rfl⟩
 obtain ⟨k,m,hk,a2,rfl,T,HM,t⟩:=hrel
 by_cases J:k<ns.length
 ·obtain ⟨b2,off,rfl,S,A⟩:=a7.out (by intro e;rw [e] at J;simp at J)
  have f1:=au (A k J) t.out S
  clear A
  generalize ns[k]=nm at f1
  have k0:(0:Int)≤k:=by omega
  have k1:(k:Int)<ns.length:=by omega
  have d1:decide ((k:Int)<ns.length)=true:=decide_eq_true k1
  have E:=nP nm
  have F:=ah E
  have ad:=ah (fun W=>ac.out nm W)
  have j:(prog.info? 143).map (·.size)=some (idC (iQ nm)).length:=by rw [aA,E];exact H.out
  have ap:=ah (bC (iQ nm))
  have aw:Hid ((idC (iQ nm)).length=32):=ah (by rw [aA,E])
  have ax:=ah (fun W (hb:Below Q.heap.size Q W)=>a6.out W (C.out.trans ((t.out.trans (hb.mono t.out.size)).mono C.out.size)) (iQ nm) F.out)
  clear E
  generalize iQ nm=D at F ad j ap aw ax
  go_wp2_with fail
  refine (ad.out Q).mono ?_
  rintro e w2 ⟨rfl,Z⟩
  have a9:=ah Z
  clear Z f1
  go_upto_region 6 with (refine aC rfl 143 _ _ rfl zi (idC D) rfl rfl 32 aw.out bb H.out ap.out ?_;intro wn X U bf)
  have z:=bth a9 U
  have r:=ah X
  clear U X
  cases be:fT nm with
  | false =>
   have B:=ah (t.out.trans (z.out.mono t.out.size))
   have f:=ah (T.out.below z.out)
   go_wp2_with fail
   go_roundw
   case rel=>exact ⟨k+1,m,by omega,by omega,by go_num,f,HM,B⟩
   case measure=>simp [intOf];omega
  | true =>
   have P:=r.out.range
   have b:=ah (ax.out wn z.out)
   unfold qU at b
   cases a:fF L.dk D with
   | inl n =>
    rw [a] at b
    dsimp only at b
    have a5:=Hf a
    have d2:((n:Int)==0)=false:=by rw [beq_eq_false_iff_ne];omega
    clear a a5
    go_wp2_with (refine wpList_load_mid rfl 143 _ rfl w2.heap.size 0 rfl (idC D) _ P underlying143 rfl j ?_)
    refine b.out.mono ?_
    rintro e Y ⟨rfl,l⟩
    have K:=bth z l
    clear l P
    go_upto_region 8 with fail
    have i:Below Y.heap.size Y (Y.alloc (.cells #[.int .i64 0,.string ⟨#[]⟩] 24)):=bal
    generalize Y.alloc (.cells #[.int .i64 0,.string ⟨#[]⟩] 24)=w5 at i ⊢
    have p:=bth K i
    have B:=ah (t.out.trans (p.out.mono t.out.size))
    have f:=ah (T.out.below p.out)
    clear i
    go_wp2_with fail
    go_roundw
    case rel=>exact ⟨k+1,m,by omega,by omega,by go_num,f,HM,B⟩
    case measure=>simp [intOf];omega
   | inr o =>
    rw [a] at b
    dsimp only at b
    have a3:Hid (∃d,L 0 (bL D)=some d):=ah (by
     cases hd:L 0 (bL D) with
     | some d=>exact ⟨d,rfl⟩
     | none =>
      unfold fF LK.dk at a
      rw [show L 0 (ofB (bJ D))=none from hd] at a
      cases a)
    have ai:=ah (jd o)
    have aa:Hid ((obC o).length=2):=ah rfl
    clear a
    generalize obC o=co at b ai aa
    go_wp2_with (refine wpList_load_mid rfl 143 _ rfl w2.heap.size 0 rfl (idC D) _ P underlying143 rfl j ?_)
    refine b.out.mono ?_
    rintro e Y ⟨rfl,l⟩
    have K:=bth z l
    replace r:=ah (r.out.below l)
    clear l P
    go_upto_region 8 with (refine aC rfl 24 _ _ rfl #[.int .i64 0,.string ⟨#[]⟩] co rfl rfl 2 aa.out rfl gZ ai.out ?_;intro w5 a4 i bc)
    have p:=bth K i
    replace r:=ah (r.out.below i)
    have al:=ah (p.out.size)
    have f:=ah (T.out.below p.out)
    have P:=r.out.range
    clear i a4
    go_upto_region 9 with fail
    refine wp_region_lit ?_
    refine qg rfl u3 (by first|rfl|(go_simp;done)|(go_simp;rfl)) ?_
    simp only [Act.put,nz]
    refine wpList_load_mid rfl 143 _ rfl w2.heap.size 0 rfl (idC D) _ P underlying143 rfl j ?_
    simp only [Act.put,nz]
    refine vC rfl rfl _ _ 34 rfl rfl rfl (by simp) D F.out rfl w1.heap.size u3 m.length m (fun _=>rfl) f.out (by have:=af.out;omega) (by have:=al.out;have:=t.out.size;omega) ?_
    intro v' w' u g1 g2
    simp only [Act.put,nz]
    have a1:=ah g1
    have az:=ah (t.out.trans ((p.out.mono t.out.size).trans (g2 w1.heap.size (by have:=al.out;have:=t.out.size;omega) T.out.Nt)))
    clear g1 g2
    go_wp2_with fail
    go_roundw
    case rel=>exact ⟨k+1,m++[D],by omega,by rw [List.length_append];simp;omega,by go_num,ah (by rw [List.length_append];exact a1.out),ah (fun x hx=>by
     rcases List.mem_append.1 hx with h|h
     ·exact HM.out x h
     simp at h;rw [h];exact ⟨F.out,a3.out⟩),az⟩
    case measure=>simp [intOf];omega
 obtain rfl:k=ns.length:=by omega
 have d1:decide ((ns.length:Int)<ns.length)=false:=decide_eq_false (by omega)
 have aE:=ah (Nat.le_trans a2 af.out)
 have B:=ah (C.out.trans (t.out.mono C.out.size))
 have f:=ah (T.out.base C.out.size)
 go_wp2_with fail
 go_ret
 exact ⟨_,m,rfl,f.out,HM.out,aE.out,B.out⟩
end
theorem wD (g:Nat) (s:ByteArray) (w:World):(Instr.build 179 #[(0,.pointer (some ⟨g,0,none⟩)),(1,.string s)]).run prog w= .ok (.agg #[.pointer (some ⟨g,0,none⟩),.string s,.bool false]) w:=run_build w 179 _ _ (by kernel_rfl)
def SwB (w:World) (b g:Nat) (s:ByteArray):Prop:=ak w b 179 [.pointer (some ⟨g,0,none⟩),.string s,.bool false]
theorem BS {w:World} {b i:Nat} {v:Value}:Chg (fun j=>j=b) w (w.setCell ⟨b,i,none⟩ v):=⟨rfl,rfl,rfl,by simp [World.setCell],fun j _ a=>Below.heap_setCell _ _ _ _ a⟩
theorem qy (b g:Nat) (s:ByteArray) (w:World) (h:SwB w b g s):Calls prog 128 #[.pointer (some ⟨b,0,none⟩)] w fun e w'=>e= .returned (.int .i64 0)∧w'=w:=by
 have c2:w.cell? ⟨b,2,none⟩=some (.bool false):=ak.range h 2 _ rfl
 clear h
 go_enter func128,ntmps128
 go_wp2_with fail
 go_ret
 exact ⟨rfl,rfl⟩
section
variable {O:Nat → Prop} {N R M:Nat} {w:World} {g:Nat} {q:Int} {L:LK} {sy:Nat → Bool}
theorem Ag (p:DV O N R M w g q L sy) (u:N+R≤1000000) {k:Nat} (z:k<3) (hm:∀y,L k y=none) (b:Nat) (hb:SwB w b g (aU k)) (f:Value) :
  Calls prog 120 #[.pointer (some ⟨b,0,none⟩),f] w fun e w'=>e= .returned (.int .i64 0)∧Below w.heap.size w w':=by
 have m:=ah (fun V (h:Below w.heap.size w V)=>bU (p.below h) u z [] List.Pairwise.nil (fun y=>by rw [hm];simp))
 have t:w.cell? ⟨b,0,none⟩=some (.pointer (some ⟨g,0,none⟩)):=ak.range hb 0 _ rfl
 have c1:w.cell? ⟨b,1,none⟩=some (.string (aU k)):=ak.range hb 1 _ rfl
 have o:=ak.lt hb
 generalize aU k=dn at m c1
 clear p hm hb
 go_enter func120,ntmps120
 go_upto_region 1 with fail
 have d:w.drew.cell? ⟨b,0,none⟩=some (.pointer (some ⟨g,0,none⟩))∧w.drew.cell? ⟨b,1,none⟩=some (.string dn):=⟨t,c1⟩
 refine qd 11 (fun x=>x.cell? ⟨b,0,none⟩=some (.pointer (some ⟨g,0,none⟩))∧x.cell? ⟨b,1,none⟩=some (.string dn)) (by kernel_rfl) (by kernel_rfl) ?_
 refine WN.take (i:=0) (v:=?_) rfl (by kernel_rfl) (by decide) (by decide +kernel) (by decide +kernel) (fun _ _ _ h=>h) rfl ?_ d ?_
 rotate_left
 ·(intro w' a;(try dsimp only at a);go_simp;(try with_reducible rfl))
 simp only [Act.put,nz]
 refine WN.take (i:=1) (v:=?_) rfl (by kernel_rfl) (by decide) (by decide +kernel) (by decide +kernel) (fun _ _ _ h=>h) rfl ?_ d ?_
 rotate_left
 ·(intro w' a;(try dsimp only at a);go_simp;(try with_reducible rfl))
 simp only [Act.put,nz]
 refine WN.take (i:=2) (v:=?_) rfl (by kernel_rfl) (by decide) (by decide +kernel) (by decide +kernel) (fun _ _ _ h=>h) rfl ?_ d ?_
 rotate_left
 ·(intro w' a;(try dsimp only at a);go_simp;(try with_reducible rfl))
 simp only [Act.put,nz]
 refine WN.take (i:=3) (v:=?_) rfl (by kernel_rfl) (by decide) (by decide +kernel) (by decide +kernel) (fun _ _ _ h=>h) rfl ?_ d ?_
 rotate_left
 ·(intro w' a;(try dsimp only at a);go_simp;(try with_reducible rfl))
 simp only [Act.put,nz]
 refine WN.take (i:=4) (v:=?_) rfl (by kernel_rfl) (by decide) (by decide +kernel) (by decide +kernel) (fun _ _ _ h=>h) rfl ?_ d ?_
 rotate_left
 ·(intro w' a;(try dsimp only at a);go_simp;(try with_reducible rfl))
 simp only [Act.put,nz]
 refine WN.take (i:=5) (v:=?_) rfl (by kernel_rfl) (by decide) (by decide +kernel) (by decide +kernel) (fun _ _ _ h=>h) rfl ?_ d ?_
 rotate_left
 ·(intro w' a;(try dsimp only at a);go_simp;(try with_reducible rfl))
 simp only [Act.put,nz]
 refine WN.take (i:=6) (v:=?_) rfl (by kernel_rfl) (by decide) (by decide +kernel) (by decide +kernel) (fun _ _ _ h=>h) rfl ?_ d ?_
 rotate_left
 ·(intro w' a;(try dsimp only at a);go_simp;(try with_reducible rfl))
 simp only [Act.put,nz]
 refine WN.take (i:=7) (v:=?_) rfl (by kernel_rfl) (by decide) (by decide +kernel) (by decide +kernel) (fun _ _ _ h=>h) rfl ?_ d ?_
 rotate_left
 ·(intro w' a;(try dsimp only at a);go_simp;(try with_reducible rfl))
 simp only [Act.put,nz]
 refine WN.take (i:=10) (v:=?_) rfl (by kernel_rfl) (by decide) (by decide +kernel) (by decide +kernel) (fun _ _ _ h=>h) rfl ?_ d ?_
 rotate_left
 ·(intro w' a;(try dsimp only at a);go_simp;(try with_reducible rfl))
 simp only [Act.put,nz]
 refine WL.on 8 ?_
 have s:=ah (m.out w.drew (Below.refl _ _).drew)
 have r:Hid (Below w.heap.size w w.drew):=ah (Below.refl _ _).drew
 go_wp2_with fail
 refine s.out.mono ?_
 rintro e w1 ⟨v,rfl,p,n⟩
 obtain ⟨B,A,rfl,_,_⟩:=p
 have l:=bth r n
 have j:w1.cell? ⟨b,0,none⟩=some (.pointer (some ⟨g,0,none⟩))∧w1.cell? ⟨b,1,none⟩=some (.string dn):=⟨au t l.out o,au c1 l.out o⟩
 clear n
 go_wp2
 refine ⟨j,?_⟩
 refine WN.take (i:=9) (v:=?_) rfl (by kernel_rfl) (by decide) (by decide +kernel) (by decide +kernel) (fun _ _ _ h=>h) rfl ?_ j ?_
 rotate_left
 ·(intro w' a;(try dsimp only at a);go_simp;(try with_reducible rfl))
 simp only [Act.put,nz]
 refine WN.done rfl (by decide +kernel) ?_
 clear d j
 go_wp2_with fail
 refine wp_loop_rounds 1 ?_
 rw [rounds_succ]
 go_wp2_with fail
 go_ret
 exact ⟨rfl,l.out⟩
theorem Af (m:DV O N R M w g q L sy) (X:N+R≤1000000) {k:Nat} (E:k<3) (nm:ByteArray) (d:ByteArray×Nat) (hd:L k nm=some d) (hm:∀y,(L k y).isSome=true↔y=nm) (b:Nat) (hb:SwB w b g (aU k)) (fn:FuncId) (cs:Array Value) (ac:∀args w,Sem.run prog (callFunc fn args) w= .ok (.enter fn args) w)
  (u:∀V,Below w.heap.size w V→Calls prog fn (#[.string nm,.string d.1]++cs) V fun e w'=>e= .returned (.bool false)∧Below V.heap.size V w') :
  Calls prog 120 #[.pointer (some ⟨b,0,none⟩),.func (.func fn) #[] cs] w fun e w'=>e= .returned (.int .i64 0)∧Below w.heap.size w w':=by
 have t:=ah (fun V (h:Below w.heap.size w V)=>bU (m.below h) X E [nm] (asc_one nm) (fun y=>by rw [hm];simp))
 have n:Hid (∀V,Below w.heap.size w V→Calls prog 51 #[.pointer (some ⟨g,0,none⟩),.string (aU k),.string nm] V fun e w'=>e= .returned (.tuple #[.string d.1,.int .i64 0])∧Below V.heap.size V w'):=ah fun V hb=>by
  have h:=dQ (m.below hb) E X (m.size E hd).2.2
  rw [hd] at h
  exact h
 have S:w.cell? ⟨b,0,none⟩=some (.pointer (some ⟨g,0,none⟩)):=ak.range hb 0 _ rfl
 have c1:w.cell? ⟨b,1,none⟩=some (.string (aU k)):=ak.range hb 1 _ rfl
 have ab:=ak.lt hb
 have p:=ah hb
 have U:=ah u
 unfold SwB at p
 generalize aU k=dn at t n c1 p
 generalize d.1=db at n U
 clear m hm hb hd u
 go_enter func120,ntmps120
 go_upto_region 1 with fail
 have f:w.drew.cell? ⟨b,0,none⟩=some (.pointer (some ⟨g,0,none⟩))∧w.drew.cell? ⟨b,1,none⟩=some (.string dn):=⟨S,c1⟩
 refine qd 11 (fun x=>x.cell? ⟨b,0,none⟩=some (.pointer (some ⟨g,0,none⟩))∧x.cell? ⟨b,1,none⟩=some (.string dn)) (by kernel_rfl) (by kernel_rfl) ?_
 refine WN.take (i:=0) (v:=?_) rfl (by kernel_rfl) (by decide) (by decide +kernel) (by decide +kernel) (fun _ _ _ h=>h) rfl ?_ f ?_
 rotate_left
 ·(intro w' a;(try dsimp only at a);go_simp;(try with_reducible rfl))
 simp only [Act.put,nz]
 refine WN.take (i:=1) (v:=?_) rfl (by kernel_rfl) (by decide) (by decide +kernel) (by decide +kernel) (fun _ _ _ h=>h) rfl ?_ f ?_
 rotate_left
 ·(intro w' a;(try dsimp only at a);go_simp;(try with_reducible rfl))
 simp only [Act.put,nz]
 refine WN.take (i:=2) (v:=?_) rfl (by kernel_rfl) (by decide) (by decide +kernel) (by decide +kernel) (fun _ _ _ h=>h) rfl ?_ f ?_
 rotate_left
 ·(intro w' a;(try dsimp only at a);go_simp;(try with_reducible rfl))
 simp only [Act.put,nz]
 refine WN.take (i:=3) (v:=?_) rfl (by kernel_rfl) (by decide) (by decide +kernel) (by decide +kernel) (fun _ _ _ h=>h) rfl ?_ f ?_
 rotate_left
 ·(intro w' a;(try dsimp only at a);go_simp;(try with_reducible rfl))
 simp only [Act.put,nz]
 refine WN.take (i:=4) (v:=?_) rfl (by kernel_rfl) (by decide) (by decide +kernel) (by decide +kernel) (fun _ _ _ h=>h) rfl ?_ f ?_
 rotate_left
 ·(intro w' a;(try dsimp only at a);go_simp;(try with_reducible rfl))
 simp only [Act.put,nz]
 refine WN.take (i:=5) (v:=?_) rfl (by kernel_rfl) (by decide) (by decide +kernel) (by decide +kernel) (fun _ _ _ h=>h) rfl ?_ f ?_
 rotate_left
 ·(intro w' a;(try dsimp only at a);go_simp;(try with_reducible rfl))
 simp only [Act.put,nz]
 refine WN.take (i:=6) (v:=?_) rfl (by kernel_rfl) (by decide) (by decide +kernel) (by decide +kernel) (fun _ _ _ h=>h) rfl ?_ f ?_
 rotate_left
 ·(intro w' a;(try dsimp only at a);go_simp;(try with_reducible rfl))
 simp only [Act.put,nz]
 refine WN.take (i:=7) (v:=?_) rfl (by kernel_rfl) (by decide) (by decide +kernel) (by decide +kernel) (fun _ _ _ h=>h) rfl ?_ f ?_
 rotate_left
 ·(intro w' a;(try dsimp only at a);go_simp;(try with_reducible rfl))
 simp only [Act.put,nz]
 refine WN.take (i:=10) (v:=?_) rfl (by kernel_rfl) (by decide) (by decide +kernel) (by decide +kernel) (fun _ _ _ h=>h) rfl ?_ f ?_
 rotate_left
 ·(intro w' a;(try dsimp only at a);go_simp;(try with_reducible rfl))
 simp only [Act.put,nz]
 refine WL.on 8 ?_
 have P:=ah (t.out w.drew (Below.refl _ _).drew)
 have J:Hid (Below w.heap.size w w.drew):=ah (Below.refl _ _).drew
 go_wp2_with fail
 refine P.out.mono ?_
 rintro e w1 ⟨v,rfl,m,B⟩
 obtain ⟨ao,aa,rfl,_,m⟩:=m
 obtain ⟨Y,C,rfl,T,z⟩:=m (by simp)
 have Z:w1.cell? ⟨Y,C,none⟩=some (.string nm):=z 0 (by simp)
 have j:=bth J B
 have l:=p.out.below j.out
 have H:w1.cell? ⟨b,0,none⟩=some (.pointer (some ⟨g,0,none⟩)):=ak.range l 0 _ rfl
 have D:w1.cell? ⟨b,1,none⟩=some (.string dn):=ak.range l 1 _ rfl
 have W:=ak.lt l
 have Q:=ah (fun V (h:Below w1.heap.size w1 V)=>n.out V (j.out.trans (h.mono j.out.size)))
 have o:w1.cell? ⟨b,0,none⟩=some (.pointer (some ⟨g,0,none⟩))∧w1.cell? ⟨b,1,none⟩=some (.string dn):=⟨H,D⟩
 clear B m z l S c1
 go_wp2
 refine ⟨o,?_⟩
 refine WN.take (i:=9) (v:=?_) rfl (by kernel_rfl) (by decide) (by decide +kernel) (by decide +kernel) (fun _ _ _ h=>h) rfl ?_ o ?_
 rotate_left
 ·(intro w' a;(try dsimp only at a);go_simp;(try with_reducible rfl))
 simp only [Act.put,nz]
 refine WN.done rfl (by decide +kernel) ?_
 clear f o
 go_wp2_with fail
 refine wp_loop_rounds 2 ?_
 rw [rounds_succ]
 go_upto_region 4 with fail
 have I:=fun x:BW w1.heap.size w1=>Q.out x.out x.hb
 refine wbq ?_
 have G:=blq H
 have F:=blq D
 repeat (go_big_quiet_step ((go_at_call 51;with_reducible exact aF (I _))))
 refine wpQuiet_nil ?_
 intro wq s
 clear G F
 have r:=bth j s
 clear s H D Z
 go_wp2_with fail
 refine (U.out _ r.out).mono ?_
 rintro e w3 ⟨rfl,A⟩
 have K:=bth r A
 clear A
 go_wp2_with fail
 rw [rounds_succ]
 go_wp2_with fail
 go_ret
 exact ⟨rfl,K.out⟩
theorem C9 (hv:DV O N R M w g q L sy) (hN:N+R≤1000000) (h1:∀y,L 1 y=none) :
  Calls prog 66 #[.pointer (some ⟨g,0,none⟩)] w fun e w'=>e= .returned (.int .i64 0)∧Below w.heap.size w w':=by
 have al:=wD g ⟨#[112,97,99,107]⟩
 obtain ⟨W,C⟩:∃z,((w.alloc (.cells #[.pointer (some ⟨g,0,none⟩),.string ⟨#[112,97,99,107]⟩,.bool false] 179)).alloc (.cells #[.pointer none] 59)).alloc (.cells #[.slice none 0 0] 180)=z:=⟨_,rfl⟩
 have K:Below w.heap.size w W:=by rw [←C];exact (bal.alloc (by simp) _).alloc (by simp;omega) _
 have G:SwB W w.heap.size g ⟨#[112,97,99,107]⟩:=by
  rw [←C]
  exact ak.below (ak.below (ak.new w 179 [.pointer (some ⟨g,0,none⟩),.string ⟨#[112,97,99,107]⟩,.bool false]) bal) bal
 have F:ak W (w.heap.size+1) 59 [.pointer none]:=by
  rw [←C]
  refine ak.below ?_ bal
  have:=ak.new (w.alloc (.cells #[.pointer (some ⟨g,0,none⟩),.string ⟨#[112,97,99,107]⟩,.bool false] 179)) 59 [.pointer none]
  rwa [World.size_alloc] at this
 have Q:ak W (w.heap.size+1+1) 180 [.slice none 0 0]:=by
  rw [←C]
  have:=ak.new ((w.alloc (.cells #[.pointer (some ⟨g,0,none⟩),.string ⟨#[112,97,99,107]⟩,.bool false] 179)).alloc (.cells #[.pointer none] 59)) 180 [.slice none 0 0]
  rwa [World.size_alloc,World.size_alloc] at this
 have H:=ah K
 have d:=ah G
 have o:=ah F
 have i:=ah Q
 have J:=ah (fun V (hb:Below w.heap.size w V) (hs:SwB V w.heap.size g ⟨#[112,97,99,107]⟩) f=>Ag (hv.below hb) hN (k:=1) (by omega) h1 w.heap.size hs f)
 have aa:=ah (fun V (hb:Below w.heap.size w V)=>jK (hv.below hb) hN h1)
 have ad:=ah (fun b m V (h:jw V b m)=>mM b m V h)
 have ac:=ah (fun V h=>qy w.heap.size g ⟨#[112,97,99,107]⟩ V h)
 have HW:=ah C
 clear hv h1 C K G F Q
 go_enter func66,ntmps66
 go_wp2_with fail
 refine eZ (fun _ _ _=>False) (fun _ _ _=>0) (fun l a w hJ=>hJ.elim) ?_
 intro _
 go_upto_region 5 with fail
 rw [HW.out]
 go_wp2_with fail
 refine (J.out W H.out d.out _).mono ?_
 rintro e w1 ⟨rfl,s⟩
 have E:=bth H s
 replace d:=ah (ak.below d.out s)
 replace o:=ah (ak.below o.out s)
 replace i:=ah (ak.below i.out s)
 clear s
 go_wp2_with fail
 refine (aa.out w1 E.out).mono ?_
 rintro e w2 ⟨rfl,p,r⟩
 have D:=bth E r
 replace d:=ah (ak.below d.out r)
 replace o:=ah (ak.below o.out r)
 replace i:=ah (ak.below i.out r)
 have A:=o.out.there 0 (by simp)
 have U:=A.1
 have ae:=A.2
 obtain ⟨v0,X⟩:=Option.isSome_iff_exists.1 U
 obtain ⟨B,I⟩:∃z,w1.heap.size+1=z:=⟨_,rfl⟩
 rw [I] at p ⊢
 obtain ⟨w3,v⟩:∃z,w2.setCell ⟨w.heap.size+1,0,none⟩ (.pointer (some ⟨B,0,none⟩))=z:=⟨_,rfl⟩
 have n:Chg (fun j=>j=w.heap.size+1) w2 w3:=by rw [←v];exact BS
 have T:ak w3 (w.heap.size+1) 59 [.pointer (some ⟨B,0,none⟩)]:=by rw [←v];exact o.out.put 0 _
 have x:B≠w.heap.size+1:=fun e=>ak.ne o.out p.1 (by decide) e.symm
 have P:jw w3 B w1.heap.size:=⟨p.1.chg n x,p.2.chg n (fun e=>ak.eB o.out p.2 e.symm)⟩
 have af:Hid (Below w.heap.size w w3):=ah (D.out.trans ⟨n.os,n.tape,n.output,n.size,fun j hj=>n.block j (Nat.lt_of_lt_of_le hj D.out.size) (fun e=>by omega)⟩)
 replace d:=ah (ak.chg d.out n (by omega))
 replace i:=ah (ak.chg i.out n (by omega))
 have Y:=ah T
 have Z:=ah v
 have ai:=ah (ad.out B _ w3 P)
 clear r p A v n T x P I
 go_upto_region 8 with fail
 rw [Z.out]
 have k3:w3.cell? ⟨w.heap.size+1,0,none⟩=some (.pointer (some ⟨B,0,none⟩)):=Y.out.range 0 _ rfl
 clear U ae X
 go_wp2_with fail
 refine ai.out.mono ?_
 rintro e w4 ⟨v4,rfl,ab,u⟩
 obtain ⟨ao,am,rfl,_,_⟩:=ab
 have S:=bth af u
 replace d:=ah (ak.below d.out u)
 replace i:=ah (ak.below i.out u)
 clear u k3
 go_wp2_with fail
 refine wp_loop_rounds 1 ?_
 rw [rounds_succ]
 go_wp2_with fail
 refine (J.out w4 S.out d.out _).mono ?_
 rintro e w5 ⟨rfl,t⟩
 have ag:=bth S t
 replace d:=ah (ak.below d.out t)
 replace i:=ah (ak.below i.out t)
 have k5:w5.cell? ⟨w.heap.size+1+1,0,none⟩=some (.slice none 0 0):=i.out.range 0 _ rfl
 clear t
 go_wp2_with fail
 refine (ac.out w5 d.out).mono ?_
 rintro e w6 ⟨rfl,rfl⟩
 go_wp2_with fail
 rw [Exit.gB]
 go_ret
 exact ⟨rfl,ag.out⟩
end
end
section
open Go.RowKit Go.Maps Go.Shelf
theorem ze:aJ bkN=true∧aJ (bg bkN)=true:=by decide +kernel
section
variable {O:Nat → Prop} {N R M:Nat} {w:World} {g:Nat} {q:Int} {L:LK} {sy:Nat → Bool}
end
end
section
open Go.RowKit Go.Maps
theorem KX {w:World} {B sz n:Nat} {v:Value} {xs:List Value} (h:gY w B sz v n xs) {g:Nat} (e:v.ownBlock=some g):g<w.heap.size:=by
 rcases h.2 with ⟨rfl,_⟩|⟨g1,off,b,rfl,_,a,_⟩
 ·cases e
 cases e;exact a
section
variable {O:Nat → Prop} {N R M:Nat} {w:World} {g:Nat} {q:Int} {L:LK} {sy:Nat → Bool} {wb:Nat} {kv:Value}
theorem CO (n:DV O N R M w g q L sy) (I:cu w) (U:N+R≤1000000) (T:M≤1000000) (nm:ByteArray) (d:ByteArray×Nat) (hd:L 0 nm=some d) (hm:∀y,(L 0 y).isSome=true↔y=nm) (X:(dK nm d.1).isSome=true) :
  Calls prog 67 #[.pointer (some ⟨g,0,none⟩)] w fun e w'=>e= .returned (.int .i64 0)∧(∃L' sy',DV O N R M w' g q L' sy'∧SmL L L')∧Kp O w w':=by
 have Z:=wD g ⟨#[108,111,111,115,101]⟩
 have F:=(n.size (k:=0) (by omega) hd).1
 obtain ⟨W,A⟩:∃z,w.alloc (.cells #[.pointer (some ⟨g,0,none⟩),.string ⟨#[108,111,111,115,101]⟩,.bool false] 179)=z:=⟨_,rfl⟩
 have o:Hid (Below w.heap.size w W):=ah (by rw [←A];exact bal)
 have a:Hid (SwB W w.heap.size g ⟨#[108,111,111,115,101]⟩):=ah (by rw [←A];exact ak.new w 179 [.pointer (some ⟨g,0,none⟩),.string ⟨#[108,111,111,115,101]⟩,.bool false])
 have B:Hid (∀V,Below w.heap.size w V→SwB V w.heap.size g ⟨#[108,111,111,115,101]⟩→Calls prog 120 #[.pointer (some ⟨w.heap.size,0,none⟩),.func (.func 129) #[] #[]] V fun e w'=>e= .returned (.int .i64 0)∧Below V.heap.size V w'):=ah fun V hb hs =>
  Af (n.below hb) U (k:=0) (by omega) nm d hd hm w.heap.size hs 129 #[] (enters_of func129 (by kernel_rfl) rfl) (fun Y C=>Aj nm d.1 Y (by omega) (I.below (hb.trans (C.mono hb.size))) X)
 have G:=ah (fun V h=>qy w.heap.size g ⟨#[108,111,111,115,101]⟩ V h)
 have p:=ah (fun V (hb:Below w.heap.size w V)=>Dn (n.below hb) U T (I.below hb))
 unfold Mi at p
 have D:=ah (fun V (hb:Below w.heap.size w V)=>n.on hb)
 have J:=ah n.gW
 have HW:=ah A
 clear n I A hd hm X F T
 go_enter func67,ntmps67
 go_upto_region 2 with fail
 rw [HW.out]
 go_wp2_with fail
 refine (B.out W o.out a.out).mono ?_
 rintro e w1 ⟨rfl,l⟩
 have b:=bth o l
 replace a:=ah (ak.below a.out l)
 clear l
 go_wp2_with fail
 refine (G.out w1 a.out).mono ?_
 rintro e w2 ⟨rfl,rfl⟩
 have t:=ah (p.out w2 b.out)
 go_wp2_with fail
 refine t.out.mono ?_
 rintro e w3 ⟨v,m,rfl,u,hm,E,s⟩
 have hb:=b.out.trans (s.mono b.out.size)
 have f:dY w3 v m:=u.row (fun x hx=>(hm x hx).1)
 have i:=AV (D.out w3 hb) (by omega) v m f (fun _ k K=> .inr ⟨by have:=u.Nt k K;have:=b.out.size;omega,KX u K⟩) (fun x hx=>(hm x hx).1) (fun x hx=>(hm x hx).2)
 unfold Mh at i
 have r:=ah i
 have H:=ah hb
 clear i hb f u hm E s t
 go_wp2_with fail
 refine r.out.mono ?_
 rintro e S ⟨rfl,L',h1,P,_,Q⟩
 have HE:Hid ((∃L' sy',DV O N R M S g q L' sy'∧SmL L L')∧Kp O w S):=ah ⟨⟨L',_,h1.sub (fun j hj=> .inl hj) J.out,P⟩,(Kp.of H.out).trans (Q.sub fun j _ h=> .inl h)⟩
 clear h1 P Q r
 go_wp2_with fail
 go_ret
 exact ⟨rfl,HE.out⟩
theorem Cj (b:DV O N R M w g q L sy) (d:WrB w wb g kv) (f:N+R≤1000000) (h1:∀y,L 1 y=none):Calls prog 26 #[.pointer (some ⟨wb,0,none⟩)] w fun e w'=>e= .returned (.int .i64 0)∧Below w.heap.size w w':=by
 have h:=ah (C9 b f h1)
 have i:=dZ d (Below.refl _ w)
 clear b d h1
 go_enter func26,ntmps26
 go_wp2_with fail
 refine h.out.mono ?_
 rintro e w1 ⟨rfl,a⟩
 go_wp2_with fail
 go_ret
 exact ⟨rfl,a⟩
theorem Fy (f:DV O N R M w g q L sy) (b:cu w) (h:WrB w wb g kv) (j:N+R≤1000000) (m:M≤1000000) (nm:ByteArray) (d:ByteArray×Nat) (hd:L 0 nm=some d) (hm:∀y,(L 0 y).isSome=true↔y=nm) (i:(dK nm d.1).isSome=true) :
  Calls prog 27 #[.pointer (some ⟨wb,0,none⟩)] w fun e w'=>e= .returned (.int .i64 0)∧(∃L' sy',DV O N R M w' g q L' sy'∧SmL L L')∧Kp O w w':=by
 have l:=ah (CO f b j m nm d hd hm i)
 have n:=dZ h (Below.refl _ w)
 clear f b h hd hm i
 go_enter func27,ntmps27
 go_wp2_with fail
 refine l.out.mono ?_
 rintro e w1 ⟨rfl,a⟩
 have k:=ah a
 clear a
 go_wp2_with fail
 go_ret
 exact ⟨rfl,k.out⟩
end
theorem F6 (f:Value) (w:World):Calls prog 199 #[.slice none 0 0,f] w fun e w'=>e= .returned (.int .i64 (-1))∧w'=w:=by
 go_enter func199,ntmps199
 go_wp2_with fail
 refine wp_loop_rounds 1 ?_
 rw [rounds_succ]
 go_wp2_with fail
 go_ret
 exact ⟨rfl,rfl⟩
theorem Gd (f:Value) (w:World):Calls prog 138 #[.slice none 0 0,f] w fun e w'=>e= .returned (.slice none 0 0)∧w'=w:=by
 have a:=ah (F6 f w)
 go_enter func138,ntmps138
 go_wp2_with fail
 refine a.out.mono ?_
 rintro e w1 ⟨rfl,rfl⟩
 go_wp2_with fail
 go_ret
 exact ⟨rfl,rfl⟩
theorem Au (w:World):Calls prog 133 #[.slice none 0 0] w fun e w'=>e= .returned (.slice none 0 0)∧w'=w:=by
 have a:=fun w=>Go.Lib.run_eql_slice_nil (P:=prog) w 109 191 none 0 0 0 0 underlying109
 go_enter func133,ntmps133
 go_wp2_with fail
 go_ret
 exact ⟨rfl,rfl⟩
theorem BR (b:Nat) (w:World):Calls prog 70 #[.pointer (some ⟨b,0,none⟩),.slice none 0 0] w fun e w'=>e= .returned (.slice none 0 0)∧Below w.heap.size w w':=by
 have a:=ah (fun V=>Au V)
 have g:=ah (fun f V=>Gd f V)
 have d:Hid (Below w.heap.size w (w.alloc (.cells #[.pointer (some ⟨b,0,none⟩)] 58))):=ah bal
 go_enter func70,ntmps70
 go_wp2_with fail
 refine (a.out _).mono ?_
 rintro e w1 ⟨rfl,rfl⟩
 go_wp2_with fail
 refine (g.out _ _).mono ?_
 rintro e h ⟨rfl,rfl⟩
 go_wp2_with fail
 go_ret
 exact ⟨rfl,d.out⟩
theorem Ik (w:World):(Instr.build 111 #[(0,.slice none 0 0),(1,.slice none 0 0)]).run prog w= .ok (.agg #[.slice none 0 0,.slice none 0 0]) w:=run_build w 111 _ _ (by kernel_rfl)
section
variable {O:Nat → Prop} {N R M:Nat} {w:World} {g:Nat} {q:Int} {L:LK} {sy:Nat → Bool} {wb:Nat} {kv:Value}
theorem FD (m:DV O N R M w g q L sy) (A:cu w) (J:WrB w wb g kv) (hN:N+R≤900000) (hs:L 2 bkN=none) (ht:L 2 (bg bkN)=none) (hM:7≤M) (o:M≤1048576) (U:3*((N+1)*M)+7≤q) (y:q≤1000000000) :
  Calls prog 28 #[.pointer (some ⟨wb,0,none⟩)] w (qP O (N+1) (R+2) M g q (L.put 2 bkN (some (bk0,bk0.size))) (upN sy 2 true) w):=by
 have b:=dQ m (k:=2) (x:=bkN) (by omega) (by omega) ze.1
 rw [hs] at b
 unfold Mf at b
 have K:Hid (Calls prog 51 #[.pointer (some ⟨g,0,none⟩),.string ⟨#[114,101,102]⟩,.string ⟨#[98,111,111,107]⟩] w fun e w'=>e= .returned (.tuple #[.string ⟨#[]⟩,.int .i64 6])∧Below w.heap.size w w'):=ah b
 have B:=ah (fun V (hb:Below w.heap.size w V)=>Gc V (A.below hb).crc)
 have p:Hid (∀W,Below w.heap.size w W→Calls prog 69 #[.agg #[.slice none 0 0,.slice none 0 0]] W fun e w'=>e= .returned (.tuple #[.string bk0,.int .i64 0])∧Below W.heap.size W w'):=ah fun W hb=>by
  refine (vK _ _ [] [] W (u6 W) (A.below hb).crc (A.below hb).laid.lt).mono ?_
  intro e w' h
  unfold Fu at h
  rw [Ni] at h
  exact h
 have a:Hid (∀W,Below w.heap.size w W→Calls prog 71 #[.pointer (some ⟨g,0,none⟩),.string ⟨#[114,101,102]⟩,.string ⟨#[98,111,111,107]⟩,.string bk0] W (qP O (N+1) (R+2) M g q (L.put 2 bkN (some (bk0,bk0.size))) (upN sy 2 true) W)):=ah fun W hb =>
  CW (k:=2) (nm:=bkN) (data:=bk0) (m.below hb) (by omega) hN ze.2 ze.1 ht (by rw [FL.1];exact hM) o (by rw [FL.1];exact U) y
 have c0:=dZ J (Below.refl _ w)
 have HC:=ah (fun V hb=>dZ (V:=V) J hb)
 have H:=ah oL
 have aa:=Ik
 have t:=BR wb
 obtain ⟨LP,r⟩:∃z,L.put 2 bkN (some (bk0,bk0.size))=z:=⟨_,rfl⟩
 rw [r] at a ⊢
 unfold qP at a ⊢
 generalize bk0=bz at p a
 clear m A J hs ht hM o U y b hN r
 go_enter func28,ntmps28
 go_wp2_with fail
 refine K.out.mono ?_
 rintro e w1 ⟨rfl,j⟩
 have E:=ah j
 have S:=ah (B.out w1 j)
 clear j c0
 go_wp2_with fail
 refine S.out.mono ?_
 rintro e X ⟨rfl,s⟩
 have C:=bth E s
 clear s
 go_upto_region 5 with (refine aC rfl 111 _ _ rfl #[.slice none 0 0,.slice none 0 0] [.slice none 0 0,.slice none 0 0] rfl rfl 2 rfl rfl H.out (by intro v m;simp at m;rw [m];rfl) ?_;intro w3 d u P)
 have i:=bth C u
 have f0:w3.cell? ⟨X.heap.size,0,none⟩=some (.slice none 0 0):=d.range 0 _ rfl
 have f1:w3.cell? ⟨X.heap.size,1,none⟩=some (.slice none 0 0):=d.range 1 _ rfl
 have G:=d.lt
 have f:=ah (fun V (hb:Below w3.heap.size w3 V)=>p.out V (i.out.trans (hb.mono i.out.size)))
 clear u d P
 have I:=fun x:BW w3.heap.size w3=>f.out x.out x.hb
 refine wbq ?_
 have F:=blq f0
 have D:=blq f1
 repeat (go_big_quiet_step ((first|(go_at_call 70;with_reducible exact aF (t _))|(go_at_call 70;with_reducible exact aF (t _))|(go_at_call 69;with_reducible exact aF (I _)))))
 refine wpQuiet_nil ?_
 intro Y n
 clear F D
 have l:=bth i n
 have c4:=HC.out Y l.out
 have Q:=ah (a.out Y l.out)
 clear n f0 f1 G f
 go_wp2_with fail
 refine Q.out.mono ?_
 rintro e T ⟨rfl,h1,Z⟩
 have HE:Hid (DV O (N+1) (R+2) M T g q LP (upN sy 2 true)∧Kp O w T):=ah ⟨h1,(Kp.of l.out).trans Z⟩
 clear h1 Z
 go_wp2_with fail
 go_ret
 exact ⟨rfl,HE.out⟩
end
theorem F3 (g:Nat) (a:Option Addr) (c:Nat) (w:World):(Instr.build 63 #[(0,.pointer (some ⟨g,0,none⟩)),(1,.slice a 0 c)]).run prog w= .ok (.agg #[.pointer (some ⟨g,0,none⟩),.slice a 0 c]) w:=run_build w 63 _ _ (by kernel_rfl)
theorem Lj (p:Value) (W:World):(Instr.index 65 (.agg #[.func (.func 23) #[p] #[],.func (.func 24) #[p] #[],.func (.func 25) #[p] #[],.func (.func 26) #[p] #[],.func (.func 27) #[p] #[],.func (.func 28) #[p] #[]]) (.int .i64 0)).run prog W= .ok (.func (.func 23) #[p] #[]) W:=by kernel_rfl
theorem Li (p:Value) (W:World):(Instr.index 65 (.agg #[.func (.func 23) #[p] #[],.func (.func 24) #[p] #[],.func (.func 25) #[p] #[],.func (.func 26) #[p] #[],.func (.func 27) #[p] #[],.func (.func 28) #[p] #[]]) (.int .i64 1)).run prog W= .ok (.func (.func 24) #[p] #[]) W:=by kernel_rfl
theorem Lh (p:Value) (W:World):(Instr.index 65 (.agg #[.func (.func 23) #[p] #[],.func (.func 24) #[p] #[],.func (.func 25) #[p] #[],.func (.func 26) #[p] #[],.func (.func 27) #[p] #[],.func (.func 28) #[p] #[]]) (.int .i64 2)).run prog W= .ok (.func (.func 25) #[p] #[]) W:=by kernel_rfl
theorem Lg (p:Value) (W:World):(Instr.index 65 (.agg #[.func (.func 23) #[p] #[],.func (.func 24) #[p] #[],.func (.func 25) #[p] #[],.func (.func 26) #[p] #[],.func (.func 27) #[p] #[],.func (.func 28) #[p] #[]]) (.int .i64 3)).run prog W= .ok (.func (.func 26) #[p] #[]) W:=by kernel_rfl
theorem Le (p:Value) (W:World):(Instr.index 65 (.agg #[.func (.func 23) #[p] #[],.func (.func 24) #[p] #[],.func (.func 25) #[p] #[],.func (.func 26) #[p] #[],.func (.func 27) #[p] #[],.func (.func 28) #[p] #[]]) (.int .i64 4)).run prog W= .ok (.func (.func 27) #[p] #[]) W:=by kernel_rfl
theorem Ld (p:Value) (W:World):(Instr.index 65 (.agg #[.func (.func 23) #[p] #[],.func (.func 24) #[p] #[],.func (.func 25) #[p] #[],.func (.func 26) #[p] #[],.func (.func 27) #[p] #[],.func (.func 28) #[p] #[]]) (.int .i64 5)).run prog W= .ok (.func (.func 28) #[p] #[]) W:=by kernel_rfl
def dkE:Dk:=fun k y=>if k=0 then (if y=hxA then some (aZ oA) else none) else if k=2 then (if y=bkN then some bk0 else none) else none
theorem MX {L:LK} (h:SmL L1K L):∀k x,k<3→(L.put 2 bkN (some (bk0,bk0.size))).dk k x=dkE k x:=fun k x b=>by
 have h1:=h.dk k x
 obtain rfl|rfl|rfl:k=0∨k=1∨k=2:=by omega
 ·unfold LK.dk at h1 ⊢
  rw [LK.aV (fun e=>absurd e.1 (by decide)),h1,JG]
  unfold dkE
  rw [if_pos rfl]
  split<;>rfl
 ·unfold LK.dk at h1 ⊢
  rw [LK.aV (fun e=>absurd e.1 (by decide)),h1,MO]
  rfl
 unfold LK.dk at h1 ⊢
 unfold dkE
 rw [if_neg (by decide),if_pos rfl]
 by_cases e:x=bkN
 ·rw [e,LK.bG,if_pos rfl];rfl
 rw [LK.aV (fun a=>e a.2),h1,MN,if_neg e];rfl
section
variable {O:Nat → Prop} {w:World} {g:Nat} {sy:Nat → Bool}
theorem Kh (hv:DV O 2 0 100 w g 10000 L0K sy) (hG:cu w) :
  Calls prog 9 #[.pointer (some ⟨g,0,none⟩)] w fun e w'=>e= .returned (.int .i64 0)∧(∃L sy',DV O 5 8 100 w' g 10000 L sy'∧ ∀k x,k<3→L.dk k x=dkE k x)∧Kp O w w':=by
 have X:=ah (jK hv (by omega) (fun y=>by rw [mq];split<;>rfl))
 have bh:=ah (fun b m V (h:jw V b m)=>mM b m V h)
 have ae:=ah (fun (a:Nat→Prop) V wb ka kc sy h1 h2 n h4=>Cx (O:=a) (w:=V) (g:=g) (sy:=sy) (wb:=wb) (kc:=kc) (ka:=ka) h1 h2 n h4)
 have bd:=ah (fun (a:Nat→Prop) V wb kv sy (h1:DV a 4 6 100 V g 10000 L1K sy) h2 (n:WrB V wb g kv)=>Dh h1 h2 n (by omega) (by omega) hxA (aZ oA,0) (by rw [JG,if_pos rfl]) (rH JG) CR)
 have be:=ah (fun (a:Nat→Prop) V wb kv sy (h1:DV a 4 6 100 V g 10000 L1K sy) (n:WrB V wb g kv)=>Cq h1 n (by omega) MO)
 have a7:=ah (fun (a:Nat→Prop) V wb kv sy (h1:DV a 4 6 100 V g 10000 L1K sy) (n:WrB V wb g kv)=>Cj h1 n (by omega) MO)
 have a4:=ah (fun (a:Nat→Prop) V wb kv sy (h1:DV a 4 6 100 V g 10000 L1K sy) h2 (n:WrB V wb g kv)=>Fy h1 h2 n (by omega) (by omega) hxA (aZ oA,0) (by rw [JG,if_pos rfl]) (rH JG) CR)
 have ai:=ah (fun (a:Nat→Prop) V wb kv L sy (hL:SmL L1K L) (h1:DV a 4 6 100 V g 10000 L sy) h2 (n:WrB V wb g kv)=>FD h1 h2 n (by omega) (by rw [hL.oth 2 _ (by decide),MN]) (by rw [hL.oth 2 _ (by decide),MN]) (by omega) (by omega) (by decide) (by decide))
 unfold qP at ai
 have HV:=ah hv
 have HG:=ah hG
 have bm:=F3
 clear hv hG
 go_enter func9,ntmps9
 go_wp2_with fail
 refine X.out.mono ?_
 rintro e w1 ⟨rfl,ad,a2⟩
 have bk:=ah a2
 have Y:=ah (bh.out _ _ w1 ad)
 clear a2 ad X
 go_wp2_with fail
 refine Y.out.mono ?_
 rintro e t ⟨v,rfl,ba,aa⟩
 obtain ⟨ka,kc,rfl,_,_⟩:=ba
 have ax:=bth bk aa
 clear aa Y
 have bl:([]:List ByteArray).length=0:=rfl
 rw [bl]
 obtain ⟨W,hW⟩:∃z,t.alloc (.cells #[.pointer (some ⟨g,0,none⟩),.slice ka 0 kc] 63)=z:=⟨_,rfl⟩
 have ag:Below t.heap.size t W:=by rw [←hW];exact bal
 have q:WrB W t.heap.size g (.slice ka 0 kc):=by rw [←hW];exact ak.new t 63 [.pointer (some ⟨g,0,none⟩),.slice ka 0 kc]
 have a8:=bth ax ag
 have H:=ah q
 have P:W.cell? ⟨t.heap.size,1,none⟩=some (.slice ka 0 kc):=ak.range q 1 _ rfl
 have af:=ak.lt q
 have HW:=ah hW
 clear ag q hW
 go_upto_region 2 with fail
 rw [HW.out]
 refine aX 14 (by kernel_rfl) (by kernel_rfl) ?_
 simp only [List.take_succ_cons,List.take_zero,List.drop_succ_cons,List.drop_zero]
 have a3:=blq P
 repeat (go_big_quiet_step (fail))
 refine wpQuiet_nil ?_
 intro wq K
 clear a3
 obtain ⟨wb,I⟩:∃z,t.heap.size=z:=⟨_,rfl⟩
 have U:Hid (w.heap.size≤wb):=ah (by rw [←I];exact ax.out.size)
 rw [I] at H af P ⊢
 have B:=bth a8 K
 have s:Hid (WrB wq wb g (.slice ka 0 kc)):=ah (ak.below H.out K)
 clear K P af I HW
 have p:=ak.there s.out 1 (by simp)
 rw [Nat.zero_add] at p
 have ap:=p.1
 have a6:=p.2
 obtain ⟨v0,bj⟩:=Option.isSome_iff_exists.1 ap
 obtain ⟨G,o⟩:∃z,wq.setCell ⟨wb,1,none⟩ (.slice ka 0 kc)=z:=⟨_,rfl⟩
 have d:Chg (fun j=>j=wb) wq G:=by rw [←o];exact BS
 have M:WrB G wb g (.slice ka 0 kc):=by rw [←o];exact ak.put s.out 1 _
 obtain ⟨a,f⟩:∃z,Ou O w wq=z:=⟨_,rfl⟩
 have l:a wb:=by rw [←f];exact .inr ⟨U.out,ak.lt s.out⟩
 have C:DV a 2 0 100 G g 10000 L0K sy:=by rw [←f];rw [←f] at l;exact (HV.out.on B.out).chg d (fun b e=>by rw [e];exact l)
 have aE:Hid (∀j,O j→a j):=ah (by rw [←f];exact fun j hj=> .inl hj)
 have am:Hid (Below w.heap.size w G):=ah (B.out.trans ⟨d.os,d.tape,d.output,d.size,fun j hj=>d.block j (Nat.lt_of_lt_of_le hj B.out.size) (fun e=>by have:=U.out;omega)⟩)
 have ac:=ah (HG.out.below am.out)
 have D:=ah (fun V (hk:Kp a G V)=>ac.out.kp hk C.gW)
 have i:Hid (∀V,Kp a G V→WrB V wb g (.slice ka 0 kc)):=ah fun V hk=>ak.kp M hk l
 have a0:=ah (ae.out a G wb ka kc sy C ac.out M l)
 have a5:=ah HV.out.gW
 have bi:=ah o
 clear d M f l C o p s ae H
 go_upto_region 3 with fail
 rw [show (min (0:Int) 40).toNat=0 from rfl,bi.out]
 clear ap a6 bj
 go_wp2_with fail
 have bu:∀W,(Instr.index 65 (.agg #[.func (.func 23) #[.pointer (some ⟨wb,0,none⟩)] #[],.func (.func 24) #[.pointer (some ⟨wb,0,none⟩)] #[],.func (.func 25) #[.pointer (some ⟨wb,0,none⟩)] #[],.func (.func 26) #[.pointer (some ⟨wb,0,none⟩)] #[],.func (.func 27) #[.pointer (some ⟨wb,0,none⟩)] #[],.func (.func 28) #[.pointer (some ⟨wb,0,none⟩)] #[]]) (.int .i64 0)).run prog W= .ok (.func (.func 23) #[.pointer (some ⟨wb,0,none⟩)] #[]) W:=fun W=>Lj _ W
 have bo:∀W,(Instr.index 65 (.agg #[.func (.func 23) #[.pointer (some ⟨wb,0,none⟩)] #[],.func (.func 24) #[.pointer (some ⟨wb,0,none⟩)] #[],.func (.func 25) #[.pointer (some ⟨wb,0,none⟩)] #[],.func (.func 26) #[.pointer (some ⟨wb,0,none⟩)] #[],.func (.func 27) #[.pointer (some ⟨wb,0,none⟩)] #[],.func (.func 28) #[.pointer (some ⟨wb,0,none⟩)] #[]]) (.int .i64 1)).run prog W= .ok (.func (.func 24) #[.pointer (some ⟨wb,0,none⟩)] #[]) W:=fun W=>Li _ W
 have br:∀W,(Instr.index 65 (.agg #[.func (.func 23) #[.pointer (some ⟨wb,0,none⟩)] #[],.func (.func 24) #[.pointer (some ⟨wb,0,none⟩)] #[],.func (.func 25) #[.pointer (some ⟨wb,0,none⟩)] #[],.func (.func 26) #[.pointer (some ⟨wb,0,none⟩)] #[],.func (.func 27) #[.pointer (some ⟨wb,0,none⟩)] #[],.func (.func 28) #[.pointer (some ⟨wb,0,none⟩)] #[]]) (.int .i64 2)).run prog W= .ok (.func (.func 25) #[.pointer (some ⟨wb,0,none⟩)] #[]) W:=fun W=>Lh _ W
 have bs:∀W,(Instr.index 65 (.agg #[.func (.func 23) #[.pointer (some ⟨wb,0,none⟩)] #[],.func (.func 24) #[.pointer (some ⟨wb,0,none⟩)] #[],.func (.func 25) #[.pointer (some ⟨wb,0,none⟩)] #[],.func (.func 26) #[.pointer (some ⟨wb,0,none⟩)] #[],.func (.func 27) #[.pointer (some ⟨wb,0,none⟩)] #[],.func (.func 28) #[.pointer (some ⟨wb,0,none⟩)] #[]]) (.int .i64 3)).run prog W= .ok (.func (.func 26) #[.pointer (some ⟨wb,0,none⟩)] #[]) W:=fun W=>Lg _ W
 have bn:∀W,(Instr.index 65 (.agg #[.func (.func 23) #[.pointer (some ⟨wb,0,none⟩)] #[],.func (.func 24) #[.pointer (some ⟨wb,0,none⟩)] #[],.func (.func 25) #[.pointer (some ⟨wb,0,none⟩)] #[],.func (.func 26) #[.pointer (some ⟨wb,0,none⟩)] #[],.func (.func 27) #[.pointer (some ⟨wb,0,none⟩)] #[],.func (.func 28) #[.pointer (some ⟨wb,0,none⟩)] #[]]) (.int .i64 4)).run prog W= .ok (.func (.func 27) #[.pointer (some ⟨wb,0,none⟩)] #[]) W:=fun W=>Le _ W
 have bt:∀W,(Instr.index 65 (.agg #[.func (.func 23) #[.pointer (some ⟨wb,0,none⟩)] #[],.func (.func 24) #[.pointer (some ⟨wb,0,none⟩)] #[],.func (.func 25) #[.pointer (some ⟨wb,0,none⟩)] #[],.func (.func 26) #[.pointer (some ⟨wb,0,none⟩)] #[],.func (.func 27) #[.pointer (some ⟨wb,0,none⟩)] #[],.func (.func 28) #[.pointer (some ⟨wb,0,none⟩)] #[]]) (.int .i64 5)).run prog W= .ok (.func (.func 28) #[.pointer (some ⟨wb,0,none⟩)] #[]) W:=fun W=>Ld _ W
 refine wp_loop_rounds 7 ?_
 rw [rounds_succ]
 go_wp2_with fail
 refine a0.out.mono ?_
 rintro e w5 ⟨rfl,⟨bv,Q⟩,r⟩
 have a9:=ah Q
 have bc:=ah r
 have ao:=ah (bd.out a w5 wb _ _ Q (D.out w5 r) (i.out w5 r))
 clear Q r a0
 go_wp2_with fail
 rw [rounds_succ]
 go_wp2_with fail
 refine ao.out.mono ?_
 rintro e w6 ⟨rfl,F⟩
 have aw:=ah (a9.out.below F)
 have ab:=ah (bc.out.trans (Kp.of F))
 have al:=ah (be.out a w6 wb _ _ aw.out (i.out w6 ab.out))
 clear F ao
 go_wp2_with fail
 rw [rounds_succ]
 go_wp2_with fail
 refine al.out.mono ?_
 rintro e w7 ⟨rfl,N⟩
 have ar:=ah (aw.out.below N)
 have Z:=ah (ab.out.trans (Kp.of N))
 have T:=ah (a7.out a w7 wb _ _ ar.out (i.out w7 Z.out))
 clear N al
 go_wp2_with fail
 rw [rounds_succ]
 go_wp2_with fail
 refine T.out.mono ?_
 rintro e w8 ⟨rfl,A⟩
 have bb:=ah (ar.out.below A)
 have u:=ah (Z.out.trans (Kp.of A))
 have a1:=ah (a4.out a w8 wb _ _ bb.out (D.out w8 u.out) (i.out w8 u.out))
 clear A T
 go_wp2_with fail
 rw [rounds_succ]
 go_wp2_with fail
 refine a1.out.mono ?_
 rintro e w9 ⟨rfl,⟨L9,bp,az,J⟩,R⟩
 have E:=ah (u.out.trans R)
 have bf:=ah J
 have an:=ah (ai.out a w9 wb _ _ _ J az (D.out w9 E.out) (i.out w9 E.out))
 clear az R J a1
 go_wp2_with fail
 rw [rounds_succ]
 go_wp2_with fail
 refine an.out.mono ?_
 rintro e wz ⟨rfl,aq,S⟩
 have HE:Hid ((∃L sy',DV O 5 8 100 wz g 10000 L sy'∧ ∀k x,k<3→L.dk k x=dkE k x)∧Kp O w wz):=ah ⟨⟨_,_,aq.sub aE.out a5.out,MX bf.out⟩,(Kp.of am.out).trans ((E.out.trans S).sub fun b _ h=>aE.out b h)⟩
 clear aq S an
 go_wp2_with fail
 rw [rounds_succ]
 go_wp2_with fail
 go_ret
 exact ⟨rfl,HE.out⟩
end
end
section
open Go.RowKit Go.Maps Go.Sort Go.Shelf
theorem G9 (w:World):Calls prog 257 #[.slice none 0 0,.int .i64 0] w fun e w'=>e= .returned (.slice none 0 0)∧w'=w:=by
 go_enter func257,ntmps257
 go_wp2_with fail
 go_ret
 exact ⟨rfl,rfl⟩
theorem BN (b:Nat) (w:World) (d:w.cell? ⟨b,0,none⟩=some (.slice none 0 0)) (c1:w.cell? ⟨b,1,none⟩=some (.slice none 0 0)):Calls prog 205 #[.slice (some ⟨b,0,none⟩) 2 2] w fun e w'=>e= .returned (.slice none 0 0)∧w'=w:=by
 have a:=ah (G9 w)
 go_enter func205,ntmps205
 go_wp2_with fail
 refine wp_loop_rounds 3 ?_
 rw [rounds_succ]
 go_wp2_with fail
 rw [rounds_succ]
 go_wp2_with fail
 rw [rounds_succ]
 go_wp2_with fail
 refine a.out.mono ?_
 rintro e w1 ⟨rfl,rfl⟩
 go_wp2_with fail
 refine wp_loop_rounds 3 ?_
 rw [rounds_succ]
 go_wp2_with fail
 rw [rounds_succ]
 go_wp2_with fail
 rw [rounds_succ]
 go_wp2_with fail
 go_ret
 exact ⟨rfl,rfl⟩
theorem CK (w:World):Calls prog 147 #[.agg #[.slice none 0 0,.slice none 0 0]] w fun e w'=>e= .returned (.slice none 0 0)∧Below w.heap.size w w':=by
 obtain ⟨W,k⟩:∃z,w.alloc (.cells #[.slice none 0 0,.slice none 0 0] 111)=z:=⟨_,rfl⟩
 have i:Below w.heap.size w W:=by rw [←k];exact bal
 have f:ak W w.heap.size 111 [.slice none 0 0,.slice none 0 0]:=by rw [←k];exact ak.new w 111 [.slice none 0 0,.slice none 0 0]
 have l:=jh (.slice none 0 0) (.slice none 0 0) [] [] W (u6 W)
 unfold Mj at l
 rw [Ni] at l
 have t:=ah l
 have n:=ah (fun b V y c1=>BN b V y c1)
 have x:Hid (∀w,Calls prog 206 #[.slice none 0 0,.func (.func 207) #[] #[]] w fun e w'=>e= .returned (.tuple #[])∧w'=w):=ah fun w =>
  AnyF.slices_SortFunc_none (P:=prog) (ρ:=Tryz.sortI_ren) { Tryz.sortI with } none 0 (.func (.func 207) #[] #[]) w
 have m:Hid (∀w,Calls prog 209 #[.slice none 0 0] w fun e w'=>e= .returned (.slice none 0 0)∧w'=w):=ah fun w=>by
  go_enter func209,ntmps209
  go_wp2_with fail
  go_ret
  exact ⟨rfl,rfl⟩
 have r:=ah i
 have p:=ah f
 have C:=ah k
 have A:=f.range
 have B:(prog.info? 111).map (·.size)=some ([.slice none 0 0,.slice none 0 0]:List Value).length:=oL
 clear k i f l
 go_enter func147,ntmps147
 go_upto_region 1 with fail
 rw [C.out]
 go_wp2_with (refine wpList_load_mid rfl 111 _ rfl w.heap.size 0 rfl [.slice none 0 0,.slice none 0 0] _ A underlying111 rfl B ?_)
 refine t.out.mono ?_
 rintro e w1 ⟨rfl,h⟩
 have q:=bth r h
 have d:=p.out.below h
 have y:w1.cell? ⟨w.heap.size,0,none⟩=some (.slice none 0 0):=d.range 0 _ rfl
 have c1:w1.cell? ⟨w.heap.size,1,none⟩=some (.slice none 0 0):=d.range 1 _ rfl
 obtain ⟨s,a⟩:∃z,w1.alloc (.cells #[.slice none 0 0,.slice none 0 0] 109)=z:=⟨_,rfl⟩
 have j:Below w1.heap.size w1 s:=by rw [←a];exact bal
 have g:ak s w1.heap.size 109 [.slice none 0 0,.slice none 0 0]:=by rw [←a];exact ak.new w1 109 [.slice none 0 0,.slice none 0 0]
 have o:=bth q j
 have u:=ah (n.out w1.heap.size s (g.range 0 _ rfl) (g.range 1 _ rfl))
 have v:=ah a
 clear h d j g a A
 go_upto_region 4 with fail
 go_wp2_with (rw [v.out])
 refine u.out.mono ?_
 rintro e w3 ⟨rfl,rfl⟩
 go_wp2_with fail
 refine wp_loop_rounds 1 ?_
 rw [rounds_succ]
 go_wp2_with fail
 refine (x.out _).mono ?_
 rintro e E ⟨rfl,rfl⟩
 go_wp2_with fail
 refine (m.out _).mono ?_
 rintro e D ⟨rfl,rfl⟩
 go_wp2_with fail
 go_ret
 exact ⟨rfl,o.out⟩
def svI (g s:Nat):Value:=.iface 282 (.agg #[.pointer (some ⟨g,0,none⟩),.pointer (some ⟨s,0,none⟩)])
def WkB (w:World) (b g s a c:Nat):Prop:=ak w b 331 [svI g s,.slice none 0 0,.map (some a),.map (some c),.slice none 0 0]
theorem GD (b:Nat) (w:World):Calls prog 252 #[.pointer (some ⟨b,0,none⟩),.slice none 0 0] w fun e w'=>e= .returned (.tuple #[])∧w'=w:=by
 go_enter func252,ntmps252
 go_wp2_with fail
 refine wp_loop_rounds 1 ?_
 rw [rounds_succ]
 go_wp2_with fail
 go_end0
 exact ⟨rfl,rfl⟩
theorem Dg (b g s a c:Nat) (w:World) (h:WkB w b g s a c):Calls prog 201 #[.pointer (some ⟨b,0,none⟩)] w fun e w'=>e= .returned (.bool true)∧w'=w:=by
 have c1:w.cell? ⟨b,1,none⟩=some (.slice none 0 0):=ak.range h 1 _ rfl
 clear h
 go_enter func201,ntmps201
 go_wp2_with fail
 refine wp_loop_rounds 1 ?_
 rw [rounds_succ]
 go_wp2_with fail
 go_ret
 exact ⟨rfl,rfl⟩
theorem Gy (g s:Nat) (w:World):Calls prog 200 #[svI g s,.slice none 0 0] w fun e w'=>e= .returned (.pointer (some ⟨w.heap.size+1+1,0,none⟩))∧WkB w' (w.heap.size+1+1) g s w.heap.size (w.heap.size+1)∧vT w' (w.heap.size+1) 0 []∧Below w.heap.size w w':=by
 have m:=@run_makeMap prog
 obtain ⟨W,h⟩:∃W,((w.alloc (.map #[] 0)).alloc (.map #[] 0)).alloc (.cells #[svI g s,.slice none 0 0,.map (some w.heap.size),.map (some (w.heap.size+1)),.slice none 0 0] 331)=W:=⟨_,rfl⟩
 have j:Below w.heap.size w W:=by rw [←h];exact (bal.alloc (by simp) _).alloc (by simp;omega) _
 have d:((w.alloc (.map #[] 0)).alloc (.map #[] 0)).heap.size=w.heap.size+1+1:=by simp
 have a:(w.alloc (.map #[] 0)).heap.size=w.heap.size+1:=by simp
 have i:WkB W (w.heap.size+1+1) g s w.heap.size (w.heap.size+1):=by
  rw [←h,←d]
  exact ak.new _ 331 [svI g s,.slice none 0 0,.map (some w.heap.size),.map (some (w.heap.size+1)),.slice none 0 0]
 have f:vT W (w.heap.size+1) 0 []:=by
  rw [←h,←a]
  exact (wI (w.alloc (.map #[] 0))).on bal
 have n:=ah (And.intro i (And.intro f j))
 have k:=ah (fun b V=>GD b V)
 have l:=ah h
 clear h j d a i f
 unfold svI at l ⊢
 go_enter func200,ntmps200
 go_wp2_with fail
 rw [l.out]
 refine (k.out _ _).mono ?_
 rintro e w1 ⟨rfl,rfl⟩
 go_wp2_with fail
 go_ret
 exact ⟨rfl,n.out⟩
theorem Am {w w':World} {e:Ending} (h:vg [] w e w'):∃a c,e= .returned (.slice a 0 c)∧Below w.heap.size w w':=by
 obtain ⟨v,m,rfl,h1,_,b,_,d⟩:=h
 obtain rfl:m=[]:=List.length_eq_zero_iff.1 b
 obtain ⟨a,c,rfl,_,_⟩:=h1
 exact ⟨a,c,rfl,d⟩
theorem yQ (b g s a c:Nat) (w:World) (h:WkB w b g s a c) (f:vT w c 0 []):Calls prog 202 #[.pointer (some ⟨b,0,none⟩)] w fun e w'=> ∃x y,e= .returned (.slice x 0 y)∧Below w.heap.size w w':=by
 have i:=ah ((qF c 0 [] w f (by simp)).mono fun e w' h=>Am h)
 have c3:w.cell? ⟨b,3,none⟩=some (.map (some c)):=ak.range h 3 _ rfl
 clear h f
 go_enter func202,ntmps202
 go_wp2_with fail
 refine i.out.mono ?_
 rintro e w1 ⟨x,y,rfl,d⟩
 go_wp2_with fail
 go_ret
 exact ⟨x,y,rfl,d⟩
theorem vN (b g s a c:Nat) (w:World) (h:WkB w b g s a c):Calls prog 203 #[.pointer (some ⟨b,0,none⟩)] w fun e w'=> ∃x y,e= .returned (.slice x 0 y)∧Below w.heap.size w w':=by
 have l:=@run_makeMap prog
 obtain ⟨W,j⟩:∃W,w.alloc (.map #[] 0)=W:=⟨_,rfl⟩
 have d:Below w.heap.size w W:=by rw [←j];exact bal
 have i:vT W w.heap.size 0 []:=by rw [←j];exact wI w
 have c4:W.cell? ⟨b,4,none⟩=some (.slice none 0 0):=ak.range (ak.below h d) 4 _ rfl
 have n:=ah ((qF w.heap.size 0 [] W i (by simp)).mono fun e w' h=>Am h)
 have o:=ah d
 have m:=ah j
 clear h d i j
 go_enter func203,ntmps203
 go_upto_region 4 with fail
 rw [m.out]
 go_wp2_with fail
 refine wp_loop_rounds 1 ?_
 rw [rounds_succ]
 go_wp2_with fail
 refine n.out.mono ?_
 rintro e w1 ⟨x,y,rfl,f⟩
 have k:=bth o f
 clear f
 go_wp2_with fail
 go_ret
 exact ⟨x,y,rfl,k.out⟩
theorem AR (g s:Nat) (w:World):Calls prog 140 #[svI g s,.slice none 0 0] w fun e w'=> ∃v x y,e= .returned (.tuple #[v,.slice x 0 y])∧Below w.heap.size w w':=by
 have A:=ah (Gy g s w)
 have q:=ah (fun b a c V h=>Dg b g s a c V h)
 have r:=ah (fun b a c V h D=>yQ b g s a c V h D)
 have p:=ah (fun b a c V h=>vN b g s a c V h)
 obtain ⟨sv,k⟩:∃z,svI g s=z:=⟨_,rfl⟩
 rw [k] at A ⊢
 clear k
 go_enter func140,ntmps140
 go_wp2_with fail
 refine A.out.mono ?_
 rintro e w1 ⟨rfl,h1,B,l⟩
 have m:=ah l
 have o:=ah h1
 have n:=ah (q.out _ _ _ w1 h1)
 have j:=ah (r.out _ _ _ w1 h1 B)
 clear l h1 B A
 go_wp2_with fail
 refine wp_loop_rounds 1 ?_
 rw [rounds_succ]
 go_wp2_with fail
 refine n.out.mono ?_
 rintro e F ⟨rfl,rfl⟩
 go_wp2_with fail
 refine j.out.mono ?_
 rintro e w3 ⟨x,y,rfl,d⟩
 have t:=bth m d
 have f:=ah (p.out _ _ _ w3 (ak.below o.out d))
 clear d j
 go_wp2_with fail
 refine f.out.mono ?_
 rintro e G ⟨C,E,rfl,i⟩
 have u:=bth t i
 clear i f
 go_wp2_with fail
 go_ret2
 exact ⟨_,C,E,rfl,u.out⟩
theorem Cz (g s:Nat) (w:World):(Instr.build 282 #[(0,.pointer (some ⟨g,0,none⟩)),(1,.pointer (some ⟨s,0,none⟩))]).run prog w= .ok (.agg #[.pointer (some ⟨g,0,none⟩),.pointer (some ⟨s,0,none⟩)]) w:=run_build w 282 _ _ (by kernel_rfl)
theorem za {O:Nat→Prop} {N R M:Nat} {w:World} {g:Nat} {q:Int} {L:LK} {sy:Nat→Bool} (h:DV O N R M w g q L sy) (b:N+R≤1000000) (h1:∀y,L 1 y=none) :
  Calls prog 146 #[.pointer (some ⟨g,0,none⟩)] w fun e w'=> ∃s,e= .returned (svI g s)∧Below w.heap.size w w':=by
 have f:=ah (jK h b h1)
 have d:=Cz g
 clear h h1
 go_enter func146,ntmps146
 go_wp2_with fail
 refine f.out.mono ?_
 rintro e w1 ⟨rfl,_,a⟩
 go_wp2_with fail
 go_ret
 exact ⟨_,rfl,a⟩
end
section
open Go.RowKit Go.Maps Go.Shelf
theorem je {B a dk:Nat} {F:List Flw} {w:World} (h:vU B a dk F w):w.cell? ⟨a,0,none⟩=some (.pointer (some ⟨dk,0,none⟩))∧a<w.heap.size:=by
 obtain ⟨b,hx,_⟩:=h
 exact ⟨hx.range 0 _ rfl,hx.lt⟩
section
variable {O:Nat → Prop} {N R M:Nat} {w0:World} {g:Nat} {q:Int} {L:LK} {sy:Nat → Bool}
theorem Cn (a:DV O N R M w0 g q L sy) (f:N+R≤1000000) {k:Nat} (b:k<3) {nm:ByteArray} {d:ByteArray×Nat} (hd:L k nm=some d):∀V,Below w0.heap.size w0 V→Calls prog 51 #[.pointer (some ⟨g,0,none⟩),.string (aU k),.string nm] V fun e w'=>e= .returned (.tuple #[.string d.1,.int .i64 0])∧Below V.heap.size V w':=fun V hb=>by
 have h:=dQ (a.below hb) b f (a.size b hd).2.2
 rw [hd] at h
 exact h
theorem Bp (f:DV O N R M w0 g q L sy) (hG:cu w0) (hN:N+R≤1000000) (hM:M≤1000000) (nm:ByteArray) (d:ByteArray×Nat) (hd:L 0 nm=some d) (hm:∀y,(L 0 y).isSome=true↔y=nm) (hu:fT nm=true) (hr:(dK nm d.1).isSome=true)
  (P:Nat) (F:List Flw) (w:World) (hL:vU w0.heap.size P g F w) (U:Below w0.heap.size w0 w):Calls prog 73 #[.pointer (some ⟨P,0,none⟩)] w (rV w0 P g F):=by
 obtain ⟨zi,an,ac⟩:=uh
 have ab:=(f.size (k:=0) (by omega) hd).1
 have W:Hid (Calls prog 11 #[.pointer (some ⟨g,0,none⟩),.string ⟨#[108,111,111,115,101]⟩] w fun e w'=> ∃v,e= .returned v∧dV w' v [nm]∧Below w.heap.size w w'):=ah (bU (f.below U) hN (k:=0) (by omega) [nm] (asc_one nm) (fun y=>by rw [hm];simp))
 have t:Hid (∀V,Below w0.heap.size w0 V→Calls prog 51 #[.pointer (some ⟨g,0,none⟩),.string ⟨#[108,111,111,115,101]⟩,.string nm] V fun e w'=>e= .returned (.tuple #[.string d.1,.int .i64 0])∧Below V.heap.size V w'):=ah (Cn f hN (k:=0) (by omega) hd)
 have b:=ah (fun V=>lQ nm V)
 unfold mG at b
 rw [hu] at b
 have x:=nP nm
 have E:Hid ((idC (iQ nm)).length=32):=ah (by rw [aA,x])
 have z:=ah (bC (iQ nm))
 have a:=ah (fun V (h:Below w0.heap.size w0 V)=>lV nm d.1 V (by omega) (hG.below h))
 unfold vw at a
 obtain ⟨o,ho⟩:=Option.isSome_iff_exists.1 hr
 rw [ho] at a
 dsimp only at a
 have B:Hid ((obC o).length=2):=ah rfl
 have r:=ah (jd o)
 have ad:=ah gZ
 have J:=ah hL
 have HB:=ah U
 have c0:=(je hL).1
 generalize obC o=co at a B r
 generalize idC (iQ nm)=ci at b E z
 generalize d.1=db at t a
 clear f hG hd hm hu hr ab hL U x ho hM
 go_enter func73,ntmps73
 go_wp2_with fail
 refine W.out.mono ?_
 rintro e w1 ⟨v,rfl,f,p⟩
 obtain ⟨ao,am,rfl,_,f⟩:=f
 obtain ⟨b5,C,rfl,al,A⟩:=f (by simp)
 have n5:w1.cell? ⟨b5,C,none⟩=some (.string nm):=A 0 (by simp)
 have G:=ah (J.out.below p)
 have s:=bth HB p
 have c1:=(je G.out).1
 have H:=ah (t.out w1 s.out)
 clear p c0 f A
 go_wp2_with fail
 refine wp_loop_rounds 2 ?_
 rw [rounds_succ]
 go_wp2_with fail
 refine H.out.mono ?_
 rintro e w2 ⟨rfl,m⟩
 have S:=ah (G.out.below m)
 have K:=bth s m
 clear m c1 n5 H
 go_wp2_with fail
 refine (b.out w2).mono ?_
 rintro e w3 ⟨rfl,n⟩
 have X:=ah (S.out.below n)
 have ae:=bth K n
 clear n
 go_upto_region 5 with (refine aC rfl 143 _ _ rfl zi ci rfl rfl 32 E.out ac iN z.out ?_;intro w4 ag l T)
 have Z:=ah (X.out.below l)
 have D:=bth ae l
 have u:=ah (a.out w4 D.out)
 clear ag l T
 go_wp2_with fail
 refine u.out.mono ?_
 rintro e w5 ⟨rfl,j⟩
 have ai:=ah (Z.out.below j)
 have af:=bth D j
 clear j u
 go_upto_region 8 with (refine aC rfl 24 _ _ rfl #[.int .i64 0,.string ⟨#[]⟩] co rfl rfl 2 B.out rfl ad.out r.out ?_;intro w6 Y i I)
 have aa:=ah (ai.out.below i)
 have Q:=bth af i
 clear Y i I
 go_wp2_with fail
 rw [rounds_succ]
 go_wp2_with fail
 go_end0
 exact ⟨rfl,aa.out,Q.out⟩
theorem Bo (Q:DV O N R M w0 g q L sy) (hG:cu w0) (hN:N+R≤1000000) (h1:∀y,L 1 y=none)
  (H:Nat) (F:List Flw) (w:World) (hL:vU w0.heap.size H g F w) (S:Below w0.heap.size w0 w):Calls prog 74 #[.pointer (some ⟨H,0,none⟩)] w (rV w0 H g F):=by
 have K:=ah (jK (Q.below S) hN h1)
 have T:=ah (fun V (hb:Below w0.heap.size w0 V)=>xX (Q.below hb) hN h1)
 have u:=ah (fun b m V (h:jw V b m)=>mM b m V h)
 have ad:=ah (fun V (hb:Below w0.heap.size w0 V)=>GA V (hG.below hb).crc)
 have am:=@run_makeMap prog
 have E:=ah hL
 have HB:=ah S
 have c0:=(je hL).1
 clear Q hG h1 hL S
 go_enter func74,ntmps74
 go_wp2_with fail
 refine K.out.mono ?_
 rintro e w1 ⟨rfl,l,j⟩
 obtain ⟨sb,r⟩:∃z,w.heap.size+1=z:=⟨_,rfl⟩
 rw [r] at l ⊢
 have f:Below w1.heap.size w1 (w1.alloc (.map #[] 0)):=bal
 have p:=ah ((E.out.below j).below f)
 have o:=ah (HB.out.trans ((j.trans (f.mono j.size)).mono HB.out.size))
 have n:=ah (l.below f)
 clear j l f c0 r
 go_upto_region 3 with fail
 obtain ⟨W2,D⟩:∃W,w1.alloc (.map #[] 0)=W:=⟨_,rfl⟩
 rw [D] at p o n ⊢
 have C:=ah (u.out _ _ W2 n.out)
 clear D
 go_wp2_with fail
 refine C.out.mono ?_
 rintro e w3 ⟨v3,rfl,G,i⟩
 obtain ⟨ai,af,rfl,_,_⟩:=G
 have U:=ah (p.out.below i)
 have x:=bth o i
 have ac:=ah (n.out.below i)
 have s:=ah (ad.out w3 x.out)
 clear i C
 go_wp2_with fail
 refine wp_loop_rounds 1 ?_
 rw [rounds_succ]
 go_wp2_with fail
 refine s.out.mono ?_
 rintro e w4 ⟨⟨ms,rfl⟩,d⟩
 have t:=ah (U.out.below d)
 have A:=bth x d
 have Y:=ah (ac.out.below d)
 have B:=ah (T.out w4 A.out)
 have c4:=(je t.out).1
 clear d s
 go_wp2_with fail
 refine B.out.mono ?_
 rintro e w5 ⟨v5,rfl,J,a⟩
 obtain ⟨an,ag,rfl,_,_⟩:=J
 have ab:=ah (t.out.below a)
 have Z:=bth A a
 have aa:=ah (Y.out.below a)
 have v:=ah (u.out _ _ w5 aa.out)
 clear a c4 B
 go_wp2_with fail
 refine wp_loop_rounds 1 ?_
 rw [rounds_succ]
 go_wp2_with fail
 refine v.out.mono ?_
 rintro e w6 ⟨v6,rfl,P,k⟩
 obtain ⟨al,ae,rfl,_,_⟩:=P
 have X:=ah (ab.out.below k)
 have I:=bth Z k
 clear k v
 go_wp2_with fail
 refine wp_loop_rounds 1 ?_
 rw [rounds_succ]
 go_wp2_with fail
 go_end0
 exact ⟨rfl,X.out,I.out⟩
theorem Ng (W:World) (a:cu W):Calls prog 68 #[.string bk0] W (zD (.slice none 0 0) 7 W):=by
 have h:=MG bk0 (rd0 ⟨#[0]⟩) W (by rw [FL.1];omega) a.crc (by have:=a.laid.lt;omega) Ny IG.1 IG.2 (dz _ (by decide)) M9
 rw [FL.2,FL.1] at h
 exact h
theorem D7 (a:DV O N R M w0 g q L sy) (W:cu w0) (U:N+R≤1000000) (n:Nat) (hd:L 2 bkN=some (bk0,n)) (hm:∀y,(L 2 y).isSome=true↔y=bkN)
  (C:Nat) (F:List Flw) (w:World) (S:vU w0.heap.size C g F w) (G:Below w0.heap.size w0 w):Calls prog 75 #[.pointer (some ⟨C,0,none⟩)] w (rV w0 C g F):=by
 have r:Hid (Calls prog 11 #[.pointer (some ⟨g,0,none⟩),.string ⟨#[114,101,102]⟩] w fun e w'=> ∃v,e= .returned v∧dV w' v [bkN]∧Below w.heap.size w w'):=ah (bU (a.below G) U (k:=2) (by omega) [bkN] (asc_one bkN) (fun y=>by rw [hm];simp))
 have b:Hid (∀V,Below w0.heap.size w0 V→Calls prog 51 #[.pointer (some ⟨g,0,none⟩),.string ⟨#[114,101,102]⟩,.string bkN] V fun e w'=>e= .returned (.tuple #[.string bk0,.int .i64 0])∧Below V.heap.size V w'):=ah (Cn a U (k:=2) (by omega) hd)
 have d:=ah (fun V (h:Below w0.heap.size w0 V)=>Ng V (W.below h))
 unfold zD at d
 have H:=ah oL
 have A:=ah S
 have HB:=ah G
 have Z:=(je S).1
 have p:bk0.size=7:=FL.1
 have B:=ah p
 unfold bkN at r b
 generalize bk0=bz at b d B p
 clear a W hd hm S G
 go_enter func75,ntmps75
 go_wp2_with fail
 refine r.out.mono ?_
 rintro e w1 ⟨v,rfl,a,l⟩
 obtain ⟨ao,aa,rfl,_,a⟩:=a
 obtain ⟨X,u,rfl,T,t⟩:=a (by simp)
 have Y:w1.cell? ⟨X,u,none⟩=some (.string ⟨#[98,111,111,107]⟩):=t 0 (by simp)
 have x:=ah (A.out.below l)
 have o:=bth HB l
 have c1:=(je x.out).1
 have z:=ah (b.out w1 o.out)
 clear l Z a t
 go_wp2_with fail
 refine wp_loop_rounds 2 ?_
 rw [rounds_succ]
 go_wp2_with fail
 refine z.out.mono ?_
 rintro e w2 ⟨rfl,i⟩
 have D:=ah (x.out.below i)
 have m:=bth o i
 have s:=ah (d.out w2 m.out)
 clear i c1 Y z
 go_wp2_with fail
 refine s.out.mono ?_
 rintro e w3 ⟨rfl,j⟩
 have I:=ah (D.out.below j)
 have K:=bth m j
 clear j s
 have e7:((7:Nat):Int)=7:=rfl
 rw [e7]
 go_upto_region 6 with (refine aC rfl 111 _ _ rfl #[.slice none 0 0,.slice none 0 0] [.slice none 0 0,.slice none 0 0] rfl rfl 2 rfl rfl H.out (by intro v a;simp at a;rw [a];rfl) ?_;intro w4 Q f E)
 have J:=ah (I.out.below f)
 have P:=bth K f
 clear Q f E
 go_wp2_with fail
 rw [rounds_succ]
 go_wp2_with fail
 go_end0
 exact ⟨rfl,J.out,P.out⟩
end
end
end Go.Proofs.YtejamhkgjkhjdaaGreatDoor
