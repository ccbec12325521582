/- A part of this claim. -/
import Derived.Great.BuildSlice
import Derived.Test.YtejamhkgjkhjdaaGreatDoorXn31
namespace Go.Proofs.YtejamhkgjkhjdaaGreatDoor
open Tryz
set_option maxHeartbeats 64000000
set_option maxRecDepth 100000
section
open Go.RowKit Go.Maps Go.Shelf
section
variable {O:Nat → Prop} {N R M:Nat} {w0:World} {g:Nat} {q:Int} {L:LK} {sy:Nat → Bool}
theorem DT (r:DV O N R M w0 g q L sy) (hG:cu w0) (hN:N+R≤1000000) (h1:∀y,L 1 y=none) (n:Nat) (hd:L 2 bkN=some (bk0,n))
  (C:Nat) (F:List Flw) (w:World) (hL:vU w0.heap.size C g F w) (hB:Below w0.heap.size w0 w):Calls prog 76 #[.pointer (some ⟨C,0,none⟩)] w (rV w0 C g F):=by
 have E:Hid (∀V,Below w0.heap.size w0 V→Calls prog 51 #[.pointer (some ⟨g,0,none⟩),.string ⟨#[114,101,102]⟩,.string ⟨#[98,111,111,107]⟩] V fun e w'=>e= .returned (.tuple #[.string bk0,.int .i64 0])∧Below V.heap.size V w'):=ah (Cn r hN (k:=2) (by omega) hd)
 have l:=ah (fun V (h:Below w0.heap.size w0 V)=>Ng V (hG.below h))
 unfold zD at l
 have ac:=ah (fun V (h:Below w0.heap.size w0 V)=>za (r.below h) hN h1)
 have ae:=ah (fun V=>CK V)
 have af:=ah (fun s V=>AR g s V)
 have aa:=ah oL
 have U:=ah hL
 have HB:=ah hB
 have c0:=(je hL).1
 have i:=ah (E.out w hB)
 generalize bk0=bz at i E l
 clear r hG h1 hd hL hB
 go_enter func76,ntmps76
 go_wp2_with fail
 refine i.out.mono ?_
 rintro e w1 ⟨rfl,p⟩
 have ab:=ah (U.out.below p)
 have D:=bth HB p
 have T:=ah (l.out w1 D.out)
 clear p c0 i
 go_wp2_with fail
 refine T.out.mono ?_
 rintro e w2 ⟨rfl,m⟩
 have X:=ah (ab.out.below m)
 have W:=bth D m
 clear m T
 go_upto_region 2 with (refine aC rfl 111 _ _ rfl #[.slice none 0 0,.slice none 0 0] [.slice none 0 0,.slice none 0 0] rfl rfl 2 rfl rfl aa.out (by intro v r;simp at r;rw [r];rfl) ?_;intro w3 S o ad)
 have K:=ah (X.out.below o)
 have d:=bth W o
 have G:=ah S
 clear S o ad
 obtain ⟨bb,I⟩:∃z,w2.heap.size=z:=⟨_,rfl⟩
 rw [I] at G ⊢
 clear I
 have Y:(prog.info? 111).map (·.size)=some ([.slice none 0 0,.slice none 0 0]:List Value).length:=oL
 have f:Hid (∀V,Below w3.heap.size w3 V→V.cell? ⟨C,0,none⟩=some (.pointer (some ⟨g,0,none⟩))∧V.rangeAt bb 0 [.slice none 0 0,.slice none 0 0]):=ah fun V hb=>⟨(je (K.out.below hb)).1,(G.out.below hb).range⟩
 have u:=ah (fun V (hb:Below w3.heap.size w3 V)=>ac.out V (d.out.trans (hb.mono d.out.size)))
 go_upto_region 3 with fail
 have b:=f.out w3.drew (Below.refl _ _).drew
 refine wrL 12 (fun x=>x.cell? ⟨C,0,none⟩=some (.pointer (some ⟨g,0,none⟩))∧x.rangeAt bb 0 [.slice none 0 0,.slice none 0 0]) ?_
 refine WL.tk 0 b ?_
 refine WL.tk 1 b ?_
 refine WL.tk 2 b ?_
 refine WL.tk 3 b ?_
 refine WL.tk 5 b ?_ (hy:=(fun w' ai=>oU 111 _ (ai.2) underlying111 rfl Y _ rfl rfl))
 refine WL.on 4 ?_
 go_wp2_with fail
 refine (u.out w3.drew (Below.refl _ _).drew).mono ?_
 rintro e w4 ⟨s,rfl,J⟩
 have Q:Hid (Below w3.heap.size w3 w4):=ah (nA J)
 have t:=f.out w4 Q.out
 clear J b
 go_wp2
 refine ⟨t,?_⟩
 refine WL.on 6 ?_
 go_wp2_with fail
 refine (ae.out w4).mono ?_
 rintro e w5 ⟨rfl,B⟩
 have P:=bth Q B
 have H:=f.out w5 P.out
 clear B t
 go_wp2
 refine ⟨H,?_⟩
 refine WL.on 7 ?_
 go_wp2_with fail
 refine (af.out s w5).mono ?_
 rintro e w6 ⟨v,x,y,rfl,A⟩
 have j:=bth P A
 have a:=f.out w6 j.out
 clear A H
 go_wp2
 refine ⟨a,?_⟩
 refine WL.tk 8 a ?_
 refine WL.tk 9 a ?_
 refine WL.tk 10 a ?_
 refine WL.tk 11 a ?_
 refine WL.la 12 ?_
 have ag:=ah (K.out.below j.out)
 have Z:=ah (d.out.trans (j.out.mono d.out.size))
 clear a
 go_wp2_with fail
 refine wp_loop_rounds 1 ?_
 rw [rounds_succ]
 go_wp2_with fail
 go_end0
 exact ⟨rfl,ag.out,Z.out⟩
theorem DW (k:DV O N R M w0 g q L sy) (r:cu w0) (x:N+R≤1000000) (J:M≤1000000) (nm:ByteArray) (d:ByteArray×Nat) (f:L 0 nm=some d) (i:∀y,(L 0 y).isSome=true↔y=nm) (hu:fT nm=true) (K:(dK nm d.1).isSome=true) (h1:∀y,L 1 y=none) (n:Nat) (b:L 2 bkN=some (bk0,n)) (h:∀y,(L 2 y).isSome=true↔y=bkN) :
  Calls prog 29 #[.pointer (some ⟨g,0,none⟩)] w0 fun e w'=> ∃a c,e= .returned (.slice a 0 c)∧Below w0.heap.size w0 w':=by
 have ab:=Di
 obtain ⟨W,l⟩:∃W,w0.alloc (.cells #[.pointer (some ⟨g,0,none⟩),.slice none 0 0] 119)=W:=⟨_,rfl⟩
 have Y:Hid (Below w0.heap.size w0 W):=ah (by rw [←l];exact bal)
 have P:Hid (vU w0.heap.size w0.heap.size g [] W):=ah ⟨.slice none 0 0,by rw [←l];exact ak.new w0 119 [.pointer (some ⟨g,0,none⟩),.slice none 0 0],Nat.le_refl _,World.ownsRow_nil _ _ _ _,by rw [←l];simp⟩
 have A:=ah (Bp k r x J nm d f i hu K w0.heap.size [] W P.out Y.out)
 have B:=ah (fun V v hb=>Bo k r x h1 w0.heap.size [] V v hb)
 have D:=ah (fun V v hb=>D7 k r x n b h w0.heap.size [] V v hb)
 have C:=ah (fun V v hb=>DT k r x h1 n b w0.heap.size [] V v hb)
 have U:=ah l
 clear l k r f i hu K h1 b h J
 go_enter func29,ntmps29
 go_upto_region 2 with fail
 rw [U.out]
 go_wp2_with fail
 have Z:∀W,(Instr.index 120 (.agg #[.func (.func 73) #[.pointer (some ⟨w0.heap.size,0,none⟩)] #[],.func (.func 74) #[.pointer (some ⟨w0.heap.size,0,none⟩)] #[],.func (.func 75) #[.pointer (some ⟨w0.heap.size,0,none⟩)] #[],.func (.func 76) #[.pointer (some ⟨w0.heap.size,0,none⟩)] #[]]) (.int .i64 0)).run prog W= .ok (.func (.func 73) #[.pointer (some ⟨w0.heap.size,0,none⟩)] #[]) W:=fun W=>DJ _ W
 have ac:∀W,(Instr.index 120 (.agg #[.func (.func 73) #[.pointer (some ⟨w0.heap.size,0,none⟩)] #[],.func (.func 74) #[.pointer (some ⟨w0.heap.size,0,none⟩)] #[],.func (.func 75) #[.pointer (some ⟨w0.heap.size,0,none⟩)] #[],.func (.func 76) #[.pointer (some ⟨w0.heap.size,0,none⟩)] #[]]) (.int .i64 1)).run prog W= .ok (.func (.func 74) #[.pointer (some ⟨w0.heap.size,0,none⟩)] #[]) W:=fun W=>DI _ W
 have Q:∀W,(Instr.index 120 (.agg #[.func (.func 73) #[.pointer (some ⟨w0.heap.size,0,none⟩)] #[],.func (.func 74) #[.pointer (some ⟨w0.heap.size,0,none⟩)] #[],.func (.func 75) #[.pointer (some ⟨w0.heap.size,0,none⟩)] #[],.func (.func 76) #[.pointer (some ⟨w0.heap.size,0,none⟩)] #[]]) (.int .i64 2)).run prog W= .ok (.func (.func 75) #[.pointer (some ⟨w0.heap.size,0,none⟩)] #[]) W:=fun W=>DF _ W
 have aa:∀W,(Instr.index 120 (.agg #[.func (.func 73) #[.pointer (some ⟨w0.heap.size,0,none⟩)] #[],.func (.func 74) #[.pointer (some ⟨w0.heap.size,0,none⟩)] #[],.func (.func 75) #[.pointer (some ⟨w0.heap.size,0,none⟩)] #[],.func (.func 76) #[.pointer (some ⟨w0.heap.size,0,none⟩)] #[]]) (.int .i64 3)).run prog W= .ok (.func (.func 76) #[.pointer (some ⟨w0.heap.size,0,none⟩)] #[]) W:=fun W=>DC _ W
 refine wp_loop_rounds 5 ?_
 rw [rounds_succ]
 go_wp2_with fail
 refine A.out.mono ?_
 rintro e w1 ⟨rfl,u,s⟩
 have H:=ah (B.out w1 u s)
 clear u s
 go_wp2_with fail
 rw [rounds_succ]
 go_wp2_with fail
 refine H.out.mono ?_
 rintro e S ⟨rfl,j,o⟩
 have F:=ah (D.out S j o)
 clear j o
 go_wp2_with fail
 rw [rounds_succ]
 go_wp2_with fail
 refine F.out.mono ?_
 rintro e w3 ⟨rfl,t,p⟩
 have z:=ah (C.out w3 t p)
 clear t p
 go_wp2_with fail
 rw [rounds_succ]
 go_wp2_with fail
 refine z.out.mono ?_
 rintro e X ⟨rfl,E,m⟩
 have G:=ah m
 obtain ⟨T,hx,_,I,_⟩:=E
 have c1:X.cell? ⟨w0.heap.size,1,none⟩=some T:=hx.range 1 _ rfl
 obtain ⟨vo,vc,rfl⟩:=dL I
 clear hx I m
 go_wp2_with fail
 rw [rounds_succ]
 go_wp2_with fail
 go_ret
 exact ⟨_,_,rfl,G.out⟩
theorem Ec (l:DV O N R M w0 g q L sy) (k:cu w0) (p:N+R≤1000000) (o:M≤1000000) (nm:ByteArray) (d:ByteArray×Nat) (b:L 0 nm=some d) (h:∀y,(L 0 y).isSome=true↔y=nm) (hu:fT nm=true) (m:(dK nm d.1).isSome=true) (h1:∀y,L 1 y=none) (n:Nat) (i:L 2 bkN=some (bk0,n)) (f:∀y,(L 2 y).isSome=true↔y=bkN) :
  Calls prog 10 #[.pointer (some ⟨g,0,none⟩)] w0 fun e w'=>e= .returned (.bool true)∧Below w0.heap.size w0 w':=by
 have r:=ah (DW l k p o nm d b h hu m h1 n i f)
 clear l k b h hu m h1 i f o
 go_enter func10,ntmps10
 go_wp2_with fail
 refine r.out.mono ?_
 rintro e w1 ⟨a,c,rfl,j⟩
 go_wp2_with fail
 go_ret
 exact ⟨rfl,j⟩
end
theorem BZ {S:Nat→Prop} {w0 w w':World} (hb:Below w0.heap.size w0 w) (a:Chg S w w') (hS:∀j,j<w0.heap.size→ ¬S j):Below w0.heap.size w0 w' :=
 hb.trans ⟨a.os,a.tape,a.output,a.size,fun j b=>a.block j (Nat.lt_of_lt_of_le b hb.size) (hS j b)⟩
theorem FJ (d:ByteArray) (w:World):(Instr.buildSlice 44 2 #[(0,.agg #[.string ⟨#[108,111,111,115,101]⟩,.string ⟨#[120]⟩,.string d]),(1,.agg #[.string ⟨#[114,101,102]⟩,.string ⟨#[120]⟩,.string ⟨#[]⟩])]).run prog w =
  .ok (.slice (some ⟨w.heap.size,0,none⟩) 2 2) (w.alloc (.cells #[.string ⟨#[108,111,111,115,101]⟩,.string ⟨#[120]⟩,.string d,.string ⟨#[114,101,102]⟩,.string ⟨#[120]⟩,.string ⟨#[]⟩] 32)):=by
 obtain ⟨e,hi,b,a,_⟩:=ES
 exact run_buildSlice w 44 32 2 _ _ e _ underlying44 hi b (by rw [a];decide) (by rw [a];decide) (by rw [a];kernel_rfl)
theorem NJ (a:ByteArray) (w:World):(Instr.build 32 #[(0,.string ⟨#[108,111,111,115,101]⟩),(1,.string ⟨#[120]⟩),(2,.string a)]).run prog w= .ok (.agg #[.string ⟨#[108,111,111,115,101]⟩,.string ⟨#[120]⟩,.string a]) w:=run_build w 32 _ _ (by kernel_rfl)
theorem NI (w:World):(Instr.build 32 #[(0,.string ⟨#[114,101,102]⟩),(1,.string ⟨#[120]⟩)]).run prog w= .ok (.agg #[.string ⟨#[114,101,102]⟩,.string ⟨#[120]⟩,.string ⟨#[]⟩]) w:=run_build w 32 _ _ (by kernel_rfl)
theorem Nj (w:World):(Instr.build 24 #[(0,.int .i64 1),(1,.string ⟨#[97,98]⟩)]).run prog w= .ok (.agg #[.int .i64 1,.string ⟨#[97,98]⟩]) w:=run_build w 24 _ _ (by kernel_rfl)
theorem Lu (w:World):pq (w.alloc (.cells #[.string ⟨#[108,111,111,115,101]⟩,.string ⟨#[120]⟩,.string (aZ oA),.string ⟨#[114,101,102]⟩,.string ⟨#[120]⟩,.string ⟨#[]⟩] 32)) (.slice (some ⟨w.heap.size,0,none⟩) 2 2) fl2:=by
 have hx:=ak.new w 32 [.string ⟨#[108,111,111,115,101]⟩,.string ⟨#[120]⟩,.string (aZ oA),.string ⟨#[114,101,102]⟩,.string ⟨#[120]⟩,.string ⟨#[]⟩]
 refine ⟨some ⟨w.heap.size,0,none⟩,2,rfl,by decide,fun _=>⟨w.heap.size,0,rfl,hx.lt,fun i hi j u hu=> ?_⟩⟩
 have a:i<2:=hi
 obtain rfl|rfl:i=0∨i=1:=by omega
 ·match j,hu with
  | 0,hu=>cases hu;exact hx.range 0 _ rfl
  | 1,hu=>cases hu;exact hx.range 1 _ rfl
  | 2,hu=>cases hu;exact hx.range 2 _ rfl
 match j,hu with
 | 0,hu=>cases hu;exact hx.range 3 _ rfl
 | 1,hu=>cases hu;exact hx.range 4 _ rfl
 | 2,hu=>cases hu;exact hx.range 5 _ rfl
theorem MU:Nw fl2:=by
 intro f a
 have h:=rJ
 unfold fl2 at a
 simp only [List.mem_cons,List.not_mem_nil,or_false] at a
 rcases a with rfl|rfl
 ·exact ⟨by decide,by decide,by show (aZ oA).size≤_;omega⟩
 exact ⟨by decide,by decide,by decide⟩
theorem Nn:∀f∈fl2,f.data.size≤100:=by
 intro f a
 have h:=rJ
 unfold fl2 at a
 simp only [List.mem_cons,List.not_mem_nil,or_false] at a
 rcases a with rfl|rfl
 ·show (aZ oA).size≤_;omega
 decide
theorem Nz:fT hxA=true:=by decide +kernel
theorem Hy {L:LK} (h:∀k x,k<3→L.dk k x=dkE k x):(∃d,L 0 hxA=some d∧d.1=aZ oA)∧(∀y,(L 0 y).isSome=true↔y=hxA)∧(∀y,L 1 y=none)∧(∃n,L 2 bkN=some (bk0,n))∧ ∀y,(L 2 y).isSome=true↔y=bkN:=by
 have b:=fun y=>h 0 y (by omega)
 have h1:=fun y=>h 1 y (by omega)
 have a:=fun y=>h 2 y (by omega)
 unfold LK.dk dkE at b h1 a
 refine ⟨?_,fun y=> ?_,fun y=> ?_,?_,fun y=> ?_⟩
 ·have:=b hxA
  rw [if_pos rfl,if_pos rfl] at this
  obtain ⟨d,hd,e⟩:=Option.map_eq_some_iff.1 this
  exact ⟨d,hd,e⟩
 ·have:=congrArg Option.isSome (b y)
  rw [Option.isSome_map,if_pos rfl] at this
  rw [this]
  by_cases e:y=hxA
  ·rw [if_pos e];simp [e]
  rw [if_neg e];simp [e]
 ·have:=h1 y
  rw [if_neg (by decide),if_neg (by decide)] at this
  exact Option.map_eq_none_iff.1 this
 ·have:=a bkN
  rw [if_neg (by decide),if_pos rfl,if_pos rfl] at this
  obtain ⟨d,hd,e⟩:=Option.map_eq_some_iff.1 this
  exact ⟨d.2,by rw [hd,←e]⟩
 have:=congrArg Option.isSome (a y)
 rw [Option.isSome_map,if_neg (by decide),if_pos rfl] at this
 rw [this]
 by_cases e:y=bkN
 ·rw [if_pos e];simp [e]
 rw [if_neg e];simp [e]
theorem Cc (w:World) (K:cu w):Calls prog 4 #[] w fun e w'=>e= .returned (.bool true)∧Below w.heap.size w w':=by
 have Z:=K.laid.lt
 have i:Hid (Calls prog 8 #[.agg #[.int .i64 1,.string ⟨#[97,98]⟩]] w fun e w'=>e= .returned (.string (aZ oA))∧Below w.heap.size w w'):=ah (Ak 1 ⟨#[97,98]⟩ w (by decide))
 have a:=ah (fun V (hb:Below w.heap.size w V)=>BG 10000 100 (.slice (some ⟨V.heap.size,0,none⟩) 2 2) fl2 _ (Lu V) MU (by decide) Nn ((K.below hb).below bal))
 have ab:=Nj
 have S:=NJ (aZ oA)
 have aa:=NI
 have M:=FJ (aZ oA)
 have HG:=ah K
 have H5:=ah Z
 have I:lkF fl2=L0K:=rfl
 rw [I] at a
 have C:fl2.length=2:=rfl
 rw [C] at a
 generalize aZ oA=lb at i a S M
 clear K Z I C
 go_enter func4,ntmps4
 go_wp2_with fail
 refine i.out.mono ?_
 rintro e w1 ⟨rfl,q⟩
 have N:=ah q
 have l:=ah (a.out w1 q)
 obtain ⟨W,J⟩:∃z,w1.alloc (.cells #[.string ⟨#[108,111,111,115,101]⟩,.string ⟨#[120]⟩,.string lb,.string ⟨#[114,101,102]⟩,.string ⟨#[120]⟩,.string ⟨#[]⟩] 32)=z:=⟨_,rfl⟩
 have B:Below w1.heap.size w1 W:=by rw [←J];exact bal
 rw [J] at l
 have A:=bth N B
 have HW:=ah J
 clear q B J a i
 go_wp2_with (rw [HW.out])
 refine l.out.mono ?_
 rintro e w2 ⟨rfl,F,D⟩
 have s:=bth A D
 have n:=ah (Kh F (HG.out.below s.out))
 clear F D l
 obtain ⟨g,X⟩:∃z,W.heap.size+1=z:=⟨_,rfl⟩
 rw [X] at n ⊢
 clear X
 go_wp2_with fail
 refine n.out.mono ?_
 rintro e w3 ⟨rfl,⟨L,sy,d,hL⟩,r⟩
 have o:=ah (BZ s.out r (fun j hj hn=>hn (Nat.lt_of_lt_of_le hj A.out.size)))
 obtain ⟨⟨d0,Y,E⟩,h,h1,⟨n2,e2⟩,f⟩:=Hy hL
 have G:=ah (Ec d (HG.out.below o.out) (by omega) (by omega) hxA d0 Y h Nz (by rw [E];exact CR) h1 n2 e2 f)
 have U:Hid (∀V,Below w3.heap.size w3 V→Calls prog 11 #[.pointer (some ⟨g,0,none⟩),.string ⟨#[108,111,111,115,101]⟩] V fun e w'=> ∃v,e= .returned v∧dV w' v [hxA]∧Below V.heap.size V w'):=ah fun V hb=>bU (d.below hb) (by omega) (k:=0) (by omega) [hxA] (asc_one hxA) (fun y=>by rw [h];simp)
 have P:Hid (∀V,Below w3.heap.size w3 V→Calls prog 11 #[.pointer (some ⟨g,0,none⟩),.string ⟨#[114,101,102]⟩] V fun e w'=> ∃v,e= .returned v∧dV w' v [bkN]∧Below V.heap.size V w'):=ah fun V hb=>bU (d.below hb) (by omega) (k:=2) (by omega) [bkN] (asc_one bkN) (fun y=>by rw [f];simp)
 clear d hL r Y E h h1 e2 f n
 go_wp2_with fail
 refine G.out.mono ?_
 rintro e w4 ⟨rfl,m⟩
 have T:=ah m
 have x:=ah (U.out w4 m)
 clear m G
 go_wp2_with fail
 refine x.out.mono ?_
 rintro e w5 ⟨v5,rfl,Q,u⟩
 obtain ⟨a5,c5,rfl,_,_⟩:=Q
 have p:=bth T u
 have H:=ah (P.out w5 p.out)
 have b:[hxA].length=1:=rfl
 rw [b]
 clear u x b
 go_wp2_with fail
 refine H.out.mono ?_
 rintro e w6 ⟨v6,rfl,R,t⟩
 obtain ⟨a6,c6,rfl,_,_⟩:=R
 have O:=ah (o.out.trans ((p.out.trans (t.mono p.out.size)).mono o.out.size))
 have b:[bkN].length=1:=rfl
 rw [b]
 clear t H b
 go_wp2_with fail
 go_ret
 exact ⟨rfl,O.out⟩
theorem mR (b:ByteArray) (w:World) (C:cu w):Calls prog 3 #[.string b] w fun e w'=>e= .returned (.bool true)∧Below w.heap.size w w':=by
 have f:=ah (fun V (hb:Below w.heap.size w V)=>Cc V (C.below hb))
 by_cases L:b.size≤6000
 ·have P:¬(6000:Int)<b.size:=by omega
  obtain ⟨k,s,ok,h1,N⟩:∃(k:Int) (s:ByteArray) (ok:Bool),(∀V,Below w.heap.size w V→Calls prog 5 #[.string b] V fun e w'=>e= .returned (.tuple #[.agg #[.int .i64 k,.string s],.bool ok])∧Below V.heap.size V w')∧(∀V,Below w.heap.size w V→Calls prog 6 #[.string b] V fun e w'=>e= .returned (.tuple #[.agg #[.int .i64 k,.string s],.bool ok])∧Below V.heap.size V w'):=by
   have g1:=fun V (hb:Below w.heap.size w V)=>kT b V (by omega) (C.below hb)
   have g2:=fun V=>vJ b V (by omega)
   rw [←EH b (by omega)] at g2
   unfold vk at g1 g2
   cases h:lq b with
   | none =>
    rw [h] at g1 g2
    exact ⟨0,⟨#[]⟩,false,g1,fun V _=>g2 V⟩
   | some o =>
    rw [h] at g1 g2
    exact ⟨o.kind,o.body,true,g1,fun V _=>g2 V⟩
  have S:=ah h1
  have T:=ah N
  have r:=ah gZ
  have U:∀W,(Op.equalIn 10000 24 (.agg #[.int .i64 k,.string s]) (.agg #[.int .i64 k,.string s])).run prog W= .ok true W:=fun W=>by simpa using K5 k k s s W
  have X:(ok==ok)=true:=by simp
  have B:(prog.info? 24).map (·.size)=some ([.int .i64 k,.string s]:List Value).length:=bM
  have p:Hid (∀v∈[Value.int .i64 k,.string s],v.oneCell'=true):=ah (by intro v O;simp at O;rcases O with rfl|rfl<;>rfl)
  clear h1 N C L
  go_enter func3,ntmps3
  go_wp2_with fail
  refine (f.out w (Below.refl _ _)).mono ?_
  rintro e w1 ⟨rfl,a⟩
  have m:=ah a
  have i:=ah (S.out w1 a)
  clear a
  go_wp2_with fail
  refine i.out.mono ?_
  rintro e M ⟨rfl,d⟩
  have j:=bth m d
  clear d i
  go_upto_region 6 with (refine aC rfl 24 _ _ rfl #[.int .i64 0,.string ⟨#[]⟩] [.int .i64 k,.string s] rfl rfl 2 rfl rfl r.out p.out ?_;intro w3 A t I)
  have x:=bth j t
  have E:=ah A
  have u:=ah (T.out w3 x.out)
  clear t A I
  go_wp2_with fail
  refine u.out.mono ?_
  rintro e R ⟨rfl,n⟩
  have J:=bth x n
  have H:=ah (E.out.below n)
  clear n u
  go_upto_region 7 with (refine aC rfl 24 _ _ rfl #[.int .i64 0,.string ⟨#[]⟩] [.int .i64 k,.string s] rfl rfl 2 rfl rfl r.out p.out ?_;intro Q q l G)
  have y:=bth J l
  have F:=ah (H.out.below l)
  have K:=ah q
  have z:=ah (f.out Q y.out)
  clear l q G
  go_wp2_with fail
  refine z.out.mono ?_
  rintro e Y ⟨rfl,g⟩
  have D:=bth y g
  have q1:=(F.out.below g).range
  have q2:=(K.out.below g).range
  clear g z
  go_wp2_with (first
   | refine aG rfl 24 _ rfl M.heap.size 0 rfl [.int .i64 k,.string s] _ q1 underlying24 rfl B ?_
   | refine aG rfl 24 _ rfl R.heap.size 0 rfl [.int .i64 k,.string s] _ q2 underlying24 rfl B ?_)
  go_ret
  exact ⟨rfl,D.out⟩
 have P:(6000:Int)<b.size:=by omega
 clear C L
 go_enter func3,ntmps3
 go_wp2_with fail
 refine (f.out w (Below.refl _ _)).mono ?_
 rintro e w1 ⟨rfl,a⟩
 have m:=ah a
 have i:=ah (f.out w1 a)
 clear a
 go_wp2_with fail
 refine i.out.mono ?_
 rintro e M ⟨rfl,d⟩
 have j:=bth m d
 clear d
 go_wp2_with fail
 go_ret
 exact ⟨rfl,j.out⟩
end
end Go.Proofs.YtejamhkgjkhjdaaGreatDoor
