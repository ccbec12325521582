/- A part of this claim. -/
import Derived.Test.YtejamhkgjkhjdaaGreatDoorShelf6
import Derived.Test.YtejamhkgjkhjdaaGreatDoorXn13
import Derived.Test.YtejamhkgjkhjdaaGreatDoorXn16
namespace Go.Proofs.YtejamhkgjkhjdaaGreatDoor
open Tryz
set_option maxHeartbeats 64000000
set_option maxRecDepth 100000
section
open Go.RowKit Fl
@[go_sem] theorem run_store_complex8 {P:Program} (w:World) (a:Addr) (m:Mode) (k:FloatKind) (x y:Nat):(store a (.complex k x y) m).run P w=stored P w a (.complex k x y) m:=run_store P w a _ m rfl
theorem ak.put {W:World} {b:Nat} {t:TypeId} {cs:List Value} (h:ak W b t cs) (i:Nat) (v:Value):ak (W.setCell ⟨b,i,none⟩ v) b t (cs.set i v):=by
 obtain ⟨d,e⟩:=Array.getElem?_eq_some_iff.1 h
 show (W.heap.modify b _)[b]? = _
 rw [Array.getElem?_eq_getElem (by rw [Array.size_modify];exact d),Array.getElem_modify_self,e]
 simp
end
section
open Go.RowKit
section
variable {B:Nat} {E1 E2:TypeId} {s1 s2:Nat} {wz W W':World} {v1 v1':Value} {n1 n1':Nat} {x1 x1':List Value} {v2 v2':Value} {n2 n2':Nat} {x2 x2':List Value} {q1 q2:Option (Nat × List Value)}
end
theorem wB (r:Rd) (a:Nat):(r.text a).2.size≤a:=by
 unfold Rd.text
 split
 ·exact Nat.zero_le _
 split
 ·exact Nat.zero_le _
 exact Nat.le_trans (Rd.kY _ _) (ML _ _)
end
section
open Go.RowKit Go.Shelf
theorem gJ (s:ByteArray) (w:World):Calls prog 33 #[.string s] w fun e w'=>e= .returned (.pointer (some ⟨w.heap.size,0,none⟩))∧w'=w.alloc (.cells #[.string s,.int .i64 0,.int .i64 0] 124):=by
 go_enter func33,ntmps33
 go_wp2
 go_ret
 exact ⟨rfl,by first|rfl|trivial⟩
theorem eF (s:ByteArray) (w:World) (t:TypeId):Arr (w.alloc (.cells #[.string s,.int .i64 0,.int .i64 0] t)) w.heap.size 3 (Rd.mk s 0 0).c :=
 (Arr.ofList w [.string s,.int .i64 0,.int .i64 0] t).congr fun k b=>by
  have a:k<3:=b
  rcases (show k=0∨k=1∨k=2 by omega) with rfl|rfl|rfl<;>rfl
theorem sV {s:ByteArray} (h:s.size≤1000000):(Rd.mk s 0 0).fine:=⟨Nat.zero_le _,h,by show 0≤100;omega⟩
def tQ:List UInt8:=[32,98,116,99]
def Ba (s:List UInt8):Int:=Lib.index tQ (s.take 1)
theorem tZ:∀c:Fin 256,(Ba [UInt8.ofNat c.val]=(dN (UInt8.ofNat c.val):Int))∨(dN (UInt8.ofNat c.val)=0∧Ba [UInt8.ofNat c.val]= -1):=by decide +kernel
theorem Dq (c:UInt8) (l:List UInt8):(Ba (c::l)=(dN c:Int))∨(dN c=0∧Ba (c::l)= -1):=by
 have h:=tZ ⟨c.toNat,c.toNat_lt⟩
 have e:UInt8.ofNat c.toNat=c:=by simp
 simp only [e] at h
 exact h
def fr1 (s:ByteArray):Rd:=((Rd.mk s 0 0).raw 1).1
def frT (s:ByteArray):Rd×ByteArray:=(fr1 s).text 4096
def frK (s:ByteArray):Int:=Lib.index tQ ((Rd.mk s 0 0).raw 1).2.data.toList
theorem MS {s:ByteArray} (h:s.data.toList=[]):(frT s).1.fin≠0∧aR s.data.toList=none:=by
 have a:s.size=0:=by have:=congrArg List.length h;simpa using this
 have e:fr1 s=⟨s,0,3⟩:=by
  unfold fr1 Rd.raw
  rw [if_neg (by simp),if_pos (by show s.size-0<1;omega)]
 constructor
 ·unfold frT
  rw [e]
  unfold Rd.text
  rw [if_pos (by simp)]
  unfold Rd.fin
  rw [if_pos (by simp)]
  simp
 rw [h];rfl
theorem Lp {s:ByteArray} {c:UInt8} {l:List UInt8} (h:s.data.toList=c::l):Behind 1 (fr1 s) (Rd.mk (ofB l) 0 0)∧frK s=Ba (c::l):=by
 have a:s.size=l.length+1:=by have:=congrArg List.length h;simpa using this
 have e:(Rd.mk s 0 0).raw 1=(⟨s,1,0⟩,s.extract 0 (0+1)):=by
  unfold Rd.raw
  rw [if_neg (by simp),if_neg (by show ¬s.size-0<1;omega)]
 unfold fr1 frK
 rw [e]
 refine ⟨⟨by show (ofB l).data.toList=s.data.toList.drop 1;rw [aS,h];rfl,rfl,rfl,by show 1≤s.size;omega⟩,?_⟩
 show Lib.index tQ (s.extract 0 (0+1)).data.toList=_
 rw [gN,h];rfl
theorem Gb (s:ByteArray):aR s.data.toList=if (frT s).1.fin≠0 then none else if av ⟨frK s,(frT s).2⟩=true then some ⟨frK s,(frT s).2⟩ else none:=by
 cases h:s.data.toList with
 | nil =>
  obtain ⟨h1,b⟩:=MS h
  rw [h] at b
  rw [if_pos h1,b]
 | cons c l =>
  obtain ⟨h1,b⟩:=Lp h
  obtain ⟨i,g⟩:=h1.text 4096
  have j:=i.fin
  unfold frT
  rw [j,g,b]
  unfold aR
  dsimp only
  rcases Dq c l with e|⟨e,f⟩
  ·rw [e]
   by_cases d:dN c=0
   ·rw [if_pos d]
    by_cases a:((Rd.mk (ofB l) 0 0).text 4096).1.fin≠0
    ·rw [if_pos a]
    rw [if_neg a,if_neg]
    rw [d]
    unfold av
    simp
   rw [if_neg d]
  rw [if_pos e,f]
  by_cases a:((Rd.mk (ofB l) 0 0).text 4096).1.fin≠0
  ·rw [if_pos a]
  rw [if_neg a,if_neg]
  unfold av
  simp
def Nv (s:ByteArray) (w:World) (e:Ending) (w':World):Prop:=Below w.heap.size w w' ∧
 ((∃o,aR s.data.toList=some o∧e= .returned (.tuple #[.agg (obC o).toArray,.int .i64 0]))∨(aR s.data.toList=none∧e= .returned (.tuple #[.agg (obC ob0).toArray,.int .i64 2])))
theorem qD (s:ByteArray) (w:World) (hs:s.size≤1000000) (hm:qR w):Calls prog 12 #[.string s] w (Nv s w):=by
 have aq:=ah (Gb s)
 obtain ⟨W,hW⟩:∃W,w.alloc (.cells #[.int .i64 0,.string ⟨#[]⟩] 24)=W:=⟨_,rfl⟩
 have ai:Below w.heap.size w W:=by rw [←hW];exact bal
 have a1:Hid (ak W w.heap.size 24 [.int .i64 0,.string ⟨#[]⟩]):=ah (by rw [←hW];exact ak.new w 24 [.int .i64 0,.string ⟨#[]⟩])
 have ae:W.heap.size=w.heap.size+1:=by rw [←hW];simp
 have ap:=ah (gJ s W)
 have an:=ah hm
 have HW:=ah hW
 have az:=ah ai
 have a9:=ah ae
 clear hW ai hm
 go_enter func12,ntmps12
 go_upto_region 1 with fail
 rw [HW.out]
 go_wp2_with fail
 refine ap.out.mono ?_
 rintro e w1 ⟨rfl,rfl⟩
 obtain ⟨W1,x⟩:∃W1,W.alloc (.cells #[.string s,.int .i64 0,.int .i64 0] 124)=W1:=⟨_,rfl⟩
 have Z:Arr W1 (w.heap.size+1) 3 (Rd.mk s 0 0).c:=by rw [←x,←ae];exact eF s W _
 have Q:Below W.heap.size W W1:=by rw [←x];exact bal
 rw [x]
 have aw:=ah (rX (w.heap.size+1) (Rd.mk s 0 0) 1 W1 Z (sV hs) (by omega))
 have V:=ah (Rd.sW (Rd.mk s 0 0) 1 (sV hs))
 have am:=bth az Q
 have al:=ah (a1.out.below Q)
 clear x Z Q
 go_upto_region 2 with fail
 go_wp2_with fail
 refine aw.out.mono ?_
 rintro e S ⟨rfl,aa,J⟩
 have N:Hid (Below w.heap.size w S):=ah (am.out.grown J am.out.size (fun k e=>by have:=Option.some.inj e;omega))
 have ao:Hid (ak S w.heap.size 24 [.int .i64 0,.string ⟨#[]⟩]):=ah (al.out.kept J (fun e=>by have:=Option.some.inj e;omega))
 obtain ⟨m,ab⟩:=an.out.below N.out an.out.lt
 have a3:((Rd.mk s 0 0).raw 1).2.size≤1:=Rd.kY _ _
 have ad:=ah (Any.strings_Index (ρ:=Tryz.lays146_ren) { Tryz.lays146 with } ⟨#[32,98,116,99]⟩ ((Rd.mk s 0 0).raw 1).2 m S (by show 4<4294967281;omega) ab)
 have HK:Hid (Lib.index (⟨#[32,98,116,99]⟩:ByteArray).data.toList ((Rd.mk s 0 0).raw 1).2.data.toList=frK s):=ah rfl
 have E:Hid (Calls prog 36 #[.pointer (some ⟨w.heap.size+1,0,none⟩),.int .i64 4096] S fun e w'=>e= .returned (.string (frT s).2)∧Arr w' (w.heap.size+1) 3 (frT s).1.c∧S.grownBy w' (some (w.heap.size+1))):=ah (jB (w.heap.size+1) _ 4096 S aa V.out (by omega))
 have K:Hid ((frT s).1.fine):=ah (Rd.dG _ 4096 V.out)
 obtain ⟨a,H⟩:∃a,frK s=a:=⟨_,rfl⟩
 obtain ⟨T,hT⟩:∃T,frT s=T:=⟨_,rfl⟩
 rw [hT] at E K
 rw [H] at HK
 have h:Hid (aR s.data.toList=if T.1.fin≠0 then none else if av ⟨a,T.2⟩=true then some ⟨a,T.2⟩ else none):=ah (by rw [←hT,←H];exact aq.out)
 obtain ⟨R,b⟩:=T
 dsimp only at E K h
 obtain ⟨ba,C⟩:∃r,((Rd.mk s 0 0).raw 1).2=r:=⟨_,rfl⟩
 rw [C] at ad HK a3 ⊢
 clear J aa ab H hT C
 go_wp2_with fail
 refine ad.out.mono ?_
 rintro e w3 ⟨rfl,rfl⟩
 rw [HK.out]
 go_wp2_with fail
 refine E.out.mono ?_
 rintro e q ⟨rfl,P,M⟩
 have a5:Hid (Below w.heap.size w q):=ah (N.out.grown M N.out.size (fun k e=>by have:=Option.some.inj e;omega))
 have A:Hid (ak q w.heap.size 24 [.int .i64 0,.string ⟨#[]⟩]):=ah (ao.out.kept M (fun e=>by have:=Option.some.inj e;omega))
 obtain ⟨X,t⟩:∃X,q.alloc (.cells #[.int .i64 a,.string b] 24)=X:=⟨_,rfl⟩
 have y:Below q.heap.size q X:=by rw [←t];exact bal
 have ar:Hid (ak X q.heap.size 24 [.int .i64 a,.string b]):=ah (by rw [←t];exact ak.new _ _ _)
 have af:=P.below y (P.lt (by omega))
 have a4:=ah (kP (w.heap.size+1) R X af K.out)
 have aE:=bth a5 y
 have Y:=ah (A.out.below y)
 have a6:=ah t
 have a7:Hid (w.heap.size<q.heap.size):=ah A.out.lt
 clear M P t y af
 go_upto_region 3 with fail
 rw [a6.out]
 go_wp2_with fail
 refine a4.out.mono ?_
 rintro e w6 ⟨rfl,u⟩
 have I:=bth aE u
 have g:=ah (Y.out.below u)
 have ag:=ah (ar.out.below u)
 have j:(prog.info? 24).map (·.size)=some [Value.int .i64 a,.string b].length:=by kernel_rfl
 have G:(prog.info? 24).map (·.size)=some 2:=by kernel_rfl
 have l:=ag.out.range
 have z:=ah (tL a b w6)
 clear u
 have ac:Hid (∀v∈[Value.int .i64 0,.string ⟨#[]⟩],v.oneCell'=true):=ah (fun v O=>by
  rcases List.mem_cons.1 O with rfl|O
  ·rfl
  rw [List.mem_singleton.1 O];rfl)
 have U:Hid (∀v∈[Value.int .i64 a,.string b],v.oneCell'=true):=ah (fun v O=>by
  rcases List.mem_cons.1 O with rfl|O
  ·rfl
  rw [List.mem_singleton.1 O];rfl)
 by_cases D:R.fin=0
 ·have a2:((R.fin:Int)==0)=true:=beq_iff_eq.2 (by omega)
  have a8:(R.fin:Int)=0:=by omega
  cases i:av ⟨a,b⟩ with
  | true =>
   rw [i] at z
   have a0:Hid (aR s.data.toList=some ⟨a,b⟩):=ah (by rw [h.out,if_neg (by omega),if_pos i])
   clear i
   go_wp2_with (refine aG rfl 24 _ rfl q.heap.size 0 rfl [.int .i64 a,.string b] _ l underlying24 rfl j ?_)
   refine z.out.mono ?_
   rintro e w7 ⟨rfl,d⟩
   have F:=bth I d
   have f:=g.out.below d
   have ax:=(ag.out.below d).range
   have o:=ah f.there
   have p:=(f.set (us:=[.int .i64 a,.string b]) rfl).range
   have n:=ah (below_setCells (B:=w.heap.size) w.heap.size (Nat.le_refl _) [.int .i64 a,.string b] 0 _ F.out)
   clear d l f
   go_wp2_with (first
    | (refine wpList_load_mid rfl 24 _ rfl q.heap.size 0 rfl [.int .i64 a,.string b] _ ax underlying24 rfl j ?_)
    | (refine aj rfl 24 _ _ rfl w.heap.size 0 [.int .i64 a,.string b] rfl rfl 2 rfl o.out G U.out ?_))
   exact aD rfl w.heap.size 0 rfl _ _ p underlying24 rfl j rfl _ rfl ⟨n.out,.inl ⟨_,a0.out,rfl⟩⟩
  | false =>
   rw [i] at z
   have L:Hid (aR s.data.toList=none):=ah (by rw [h.out,if_neg (by omega),if_neg (by rw [i];simp)])
   clear i
   go_wp2_with (refine aG rfl 24 _ rfl q.heap.size 0 rfl [.int .i64 a,.string b] _ l underlying24 rfl j ?_)
   refine z.out.mono ?_
   rintro e w7 ⟨rfl,d⟩
   have F:=bth I d
   have f:=g.out.below d
   have o:=ah f.there
   have p:=(f.set (us:=[.int .i64 0,.string ⟨#[]⟩]) rfl).range
   have n:=ah (below_setCells (B:=w.heap.size) w.heap.size (Nat.le_refl _) [.int .i64 0,.string ⟨#[]⟩] 0 _ F.out)
   clear d l f
   go_wp2_with (refine aj rfl 24 _ _ rfl w.heap.size 0 [.int .i64 0,.string ⟨#[]⟩] rfl rfl 2 rfl o.out G ac.out ?_)
   exact aD rfl w.heap.size 0 rfl _ _ p underlying24 rfl j rfl _ rfl ⟨n.out,.inr ⟨L.out,rfl⟩⟩
 have a2:((R.fin:Int) != 0)=true:=bne_iff_ne.2 (by omega)
 have L:Hid (aR s.data.toList=none):=ah (by rw [h.out,if_pos D])
 have o:=ah g.out.there
 have p:=(g.out.set (us:=[.int .i64 0,.string ⟨#[]⟩]) rfl).range
 have n:=ah (below_setCells (B:=w.heap.size) w.heap.size (Nat.le_refl _) [.int .i64 0,.string ⟨#[]⟩] 0 _ I.out)
 clear l D
 go_wp2_with (refine aj rfl 24 _ _ rfl w.heap.size 0 [.int .i64 0,.string ⟨#[]⟩] rfl rfl 2 rfl o.out G ac.out ?_)
 exact aD rfl w.heap.size 0 rfl _ _ p underlying24 rfl j rfl _ rfl ⟨n.out,.inr ⟨L.out,rfl⟩⟩
def Mg (s:ByteArray) (w:World) (e:Ending) (w':World):Prop:=Below w.heap.size w w' ∧
 ((∃o,aR s.data.toList=some o∧e= .returned (.tuple #[.agg (obC o).toArray,.bool true]))∨(aR s.data.toList=none∧e= .returned (.tuple #[.agg (obC ob0).toArray,.bool false])))
theorem A9 (c:UInt8):(c.toNat=98∧dN c=1)∨(c.toNat=116∧dN c=2)∨(c.toNat=99∧dN c=3)∨(c.toNat≠98∧c.toNat≠116∧c.toNat≠99∧dN c=0):=by
 unfold dN
 by_cases h1:c=98
 ·exact .inl ⟨by rw [h1];rfl,by rw [if_pos h1]⟩
 by_cases a:c=116
 ·exact .inr (.inl ⟨by rw [a];rfl,by rw [if_neg h1,if_pos a]⟩)
 by_cases b:c=99
 ·exact .inr (.inr (.inl ⟨by rw [b];rfl,by rw [if_neg h1,if_neg a,if_pos b]⟩))
 refine .inr (.inr (.inr ⟨fun e=>h1 ?_,fun e=>a ?_,fun e=>b ?_,by rw [if_neg h1,if_neg a,if_neg b]⟩))
 all_goals exact UInt8.toNat_inj.1 e
theorem Ai (s:ByteArray) (w:World) (hs:s.size≤1000000):Calls prog 15 #[.string s] w (Mg s w):=by
 obtain ⟨W,hW⟩:∃W,w.alloc (.cells #[.int .i64 0,.string ⟨#[]⟩] 24)=W:=⟨_,rfl⟩
 have bc:Below w.heap.size w W:=by rw [←hW];exact bal
 have ai:Hid (ak W w.heap.size 24 [.int .i64 0,.string ⟨#[]⟩]):=ah (by rw [←hW];exact ak.new w 24 [.int .i64 0,.string ⟨#[]⟩])
 have a7:W.heap.size=w.heap.size+1:=by rw [←hW];simp
 have HW:=ah hW
 have S:=ah bc
 have ba:=ah a7
 have P:(prog.info? 24).map (·.size)=some 2:=by kernel_rfl
 have Z:(prog.info? 24).map (·.size)=some [Value.int .i64 0,.string ⟨#[]⟩].length:=by kernel_rfl
 have Y:Hid (∀v∈[Value.int .i64 0,.string ⟨#[]⟩],v.oneCell'=true):=ah (fun v A=>by
  rcases List.mem_cons.1 A with rfl|A
  ·rfl
  rw [List.mem_singleton.1 A];rfl)
 have bl:Hid (aR s.data.toList=none→Mg s w (.returned (.tuple #[.agg (obC ob0).toArray,.bool false])) (W.setCells w.heap.size 0 [.int .i64 0,.string ⟨#[]⟩])):=ah (fun h =>
  ⟨below_setCells (B:=w.heap.size) w.heap.size (Nat.le_refl _) _ 0 _ bc,.inr ⟨h,rfl⟩⟩)
 have bs:=ah ai.out.there
 have bt:=(ai.out.set (us:=[.int .i64 0,.string ⟨#[]⟩]) rfl).range
 clear hW bc
 cases aa:s.data.toList with
 | nil =>
  have h0:s.size=0:=by have:=congrArg List.length aa;simpa using this
  have d0:((s.size:Int)==0)=true:=beq_iff_eq.2 (by omega)
  have HE:=ah (bl.out (by rw [aa];rfl))
  clear aa
  go_enter func15,ntmps15
  go_upto_region 2 with fail
  rw [HW.out]
  go_wp2_with (refine aj rfl 24 _ _ rfl w.heap.size 0 [.int .i64 0,.string ⟨#[]⟩] rfl rfl 2 rfl bs.out P Y.out ?_)
  exact aD rfl w.heap.size 0 rfl _ _ bt underlying24 rfl Z rfl _ rfl HE.out
 | cons c l =>
  have h1:s.size=l.length+1:=by have:=congrArg List.length aa;simpa using this
  have d0:((s.size:Int)==0)=false:=beq_eq_false_iff_ne.2 (by omega)
  have bo:Hid (s.extract 1 s.size=ofB l):=ah (ba_eq (by
   rw [aS,h1,Nat.add_comm,gN,aa];simp))
  have a6:Hid (∀w,(Instr.index 9 (.string s) (.int .i64 0)).run prog w= .ok (.int .u8 ((c.toNat:Nat):Int)) w):=ah (fun w=>by
   have:=bV s w 0 (by omega)
   have e:blk s 0=c:=by unfold blk;rw [aa];rfl
   rw [e,←kH] at this
   exact this)
  have a8:=ah (sV (s:=ofB l) (by rw [aK];omega))
  have ag:Hid (aR s.data.toList=if dN c=0 then none else if ((Rd.mk (ofB l) 0 0).text 4096).1.fin≠0 then none else if av ⟨(dN c:Int),((Rd.mk (ofB l) 0 0).text 4096).2⟩=true then some ⟨(dN c:Int),((Rd.mk (ofB l) 0 0).text 4096).2⟩ else none):=ah (by rw [aa];rfl)
  have aq:=ah (Rd.dG _ 4096 a8.out)
  obtain ⟨T,hT⟩:∃T,(Rd.mk (ofB l) 0 0).text 4096=T:=⟨_,rfl⟩
  have bb:=ah hT
  rw [hT] at ag aq
  obtain ⟨R,b⟩:=T
  dsimp only at ag aq
  have br:=bo.out
  have bv:(1:Int)≤s.size:=by omega
  have bu:1≤s.size:=by omega
  clear aa hT h1
  rcases A9 c with ⟨G,bk⟩|⟨G,bf⟩|⟨G,bi⟩|⟨n1,n2,n3,bn⟩
  ·
   have ap:Hid (dN c=1):=ah bk
   have b1:(((c.toNat:Nat):Int)==98)=true:=by rw [G];rfl
   have b2:(((c.toNat:Nat):Int)==116)=false:=by rw [G];rfl
   have b3:(((c.toNat:Nat):Int)==99)=false:=by rw [G];rfl
   have a9:∀w,(Instr.index 9 (.string s) (.int .i64 0)).run prog w= .ok (.int .u8 98) w:=fun w=>by rw [a6.out w,G];rfl
   obtain ⟨z,f⟩:∃z,W.alloc (.cells #[.int .i64 1,.string ⟨#[]⟩] 24)=z:=⟨_,rfl⟩
   obtain ⟨N,r⟩:∃N,z.alloc (.cells #[.string (ofB l),.int .i64 0,.int .i64 0] 81)=N:=⟨_,rfl⟩
   have U:z.heap.size=w.heap.size+2:=by rw [←f,World.size_alloc,ba.out]
   have o:Below W.heap.size W z:=by rw [←f];exact bal
   have E:Below z.heap.size z N:=by rw [←r];exact bal
   have aw:Hid (ak N w.heap.size 24 [.int .i64 0,.string ⟨#[]⟩]):=ah ((ai.out.below o).below E)
   have al:Hid (ak N (w.heap.size+1) 24 [.int .i64 1,.string ⟨#[]⟩]):=ah (by
    have:=ak.new W 24 [.int .i64 1,.string ⟨#[]⟩]
    rw [a7] at this
    rw [←f] at E
    rw [←r,←f]
    exact this.below bal)
   have a4:Hid (Arr N (w.heap.size+2) 3 (Rd.mk (ofB l) 0 0).c):=ah (by rw [←U,←r];exact eF (ofB l) z _)
   have X:=ah ((S.out.trans (o.mono S.out.size)).trans (E.mono (Nat.le_trans S.out.size o.size)))
   have ab:=ah (jH (w.heap.size+2) (Rd.mk (ofB l) 0 0) 4096 N a4.out a8.out (by omega))
   have af:=ah f
   have a3:=ah r
   have bh:=ah U
   have t:Hid (aR s.data.toList=if R.fin≠0 then none else if av ⟨1,b⟩=true then some ⟨1,b⟩ else none):=ah (by rw [ag.out,ap.out,if_neg (by omega)];rfl)
   rw [bb.out] at ab
   clear f r o E bk
   go_enter func15,ntmps15
   go_upto_region 3 with fail
   rw [HW.out]
   go_upto_region 12 with fail
   rw [af.out]
   go_upto_region 13 with fail
   rw [a3.out]
   clear U
   go_wp2_with fail
   refine ab.out.mono ?_
   rintro e y ⟨rfl,ac,D⟩
   have ae:Hid (Below w.heap.size w y):=ah (X.out.grown D X.out.size (fun k e=>by have:=Option.some.inj e;omega))
   have aE:=ah (aw.out.kept D (fun e=>by have:=Option.some.inj e;omega))
   have a:=al.out.kept D (fun e=>by have:=Option.some.inj e;omega)
   have f1:y.cell? ⟨w.heap.size+1,1,none⟩=some (.string ⟨#[]⟩):=a.range 1 _ rfl
   have f2:y.frozen? ⟨w.heap.size+1,1,none⟩=false:=(a.there 1 (by show 1<2;omega)).2
   obtain ⟨K,p⟩:∃K,y.setCell ⟨w.heap.size+1,1,none⟩ (.string b)=K:=⟨_,rfl⟩
   have H:y.grownBy K (some (w.heap.size+1)):=by rw [←p];exact bF y (w.heap.size+1) 1 [.string b]
   have an:Hid (K.rangeAt (w.heap.size+1) 0 [.int .i64 1,.string b]):=ah (by
    have bj:=(Array.getElem?_eq_some_iff.1 a).1
    have e:=(a.set (us:=[.int .i64 1,.string b]) rfl)
    have e2:y.setCells (w.heap.size+1) 0 [.int .i64 1,.string b]=(y.setCell ⟨w.heap.size+1,0,none⟩ (.int .i64 1)).setCell ⟨w.heap.size+1,1,none⟩ (.string b):=rfl
    have hr:=a.range
    intro j v A
    rw [Nat.zero_add,←p]
    rcases (show j=0∨j=1∨2≤j by omega) with rfl|rfl|h2
    ·rw [World.cell?_setCell_other _ _ _ _ (by simp)]
     have:=hr 0 (.int .i64 1) rfl
     rw [Nat.zero_add] at this
     rw [this]
     exact A
    ·have hc:(y.setCell ⟨w.heap.size+1,1,none⟩ (.string b)).cell? ⟨w.heap.size+1,1,none⟩=some (.string b):=by
      have:=World.rangeAt_setCells_same y (w.heap.size+1) 1 [.string b] (fun j hj=>by
       obtain rfl:j=0:=by simpa using hj
       exact a.there 1 (by show 1<2;omega))
      exact this 0 _ rfl
     rw [hc];exact A
    rw [List.getElem?_eq_none (by simpa using h2)] at A;cases A)
   have ar:Hid (Below w.heap.size w K):=ah (ae.out.grown H ae.out.size (fun k e=>by have:=Option.some.inj e;omega))
   have a1:=ah (aE.out.kept H (fun e=>by have:=Option.some.inj e;omega))
   have ax:Hid (Arr K (w.heap.size+2) 3 R.c):=ah (by rw [←p];exact ac.far (by simp) _)
   have a2:=ah (kX (w.heap.size+2) R K ax.out aq.out)
   have M:Hid (w.heap.size+1<K.heap.size):=ah (Nat.lt_of_lt_of_le a.lt H.size)
   have a5:=ah p
   clear D ac p H a
   go_upto_region 14 with fail
   rw [a5.out]
   clear f1 f2
   go_wp2_with fail
   refine a2.out.mono ?_
   rintro e w6 ⟨rfl,q⟩
   have Q:=bth ar q
   have I:=ah (a1.out.below q)
   have i:=ay an.out q M.out
   have F:=ah (mP 1 b w6)
   have C:(prog.info? 24).map (·.size)=some [Value.int .i64 1,.string b].length:=by kernel_rfl
   have am:=q.size
   have ad:Hid (w.heap.size+1<w6.heap.size):=ah (by have:=M.out;omega)
   clear q am
   have V:Hid (∀v∈[Value.int .i64 1,.string b],v.oneCell'=true):=ah (fun v A=>by
    rcases List.mem_cons.1 A with rfl|A
    ·rfl
    rw [List.mem_singleton.1 A];rfl)
   by_cases L:R.fin=0
   ·have a0:((R.fin:Int)==0)=true:=beq_iff_eq.2 (by omega)
    have be:(R.fin:Int)=0:=by omega
    cases m:av ⟨1,b⟩ with
    | true =>
     rw [m] at F
     have az:Hid (aR s.data.toList=some ⟨1,b⟩):=ah (by rw [t.out,if_neg (by omega),if_pos m])
     clear m
     go_wp2_with (refine aG rfl 24 _ rfl (w.heap.size+1) 0 rfl [.int .i64 1,.string b] _ i underlying24 rfl C ?_)
     refine F.out.mono ?_
     rintro e w7 ⟨rfl,d⟩
     have O:=bth Q d
     have g:=I.out.below d
     have ao:=ay i d ad.out
     have u:=ah g.there
     have x:=(g.set (us:=[.int .i64 1,.string b]) rfl).range
     have n:=ah (below_setCells (B:=w.heap.size) w.heap.size (Nat.le_refl _) [.int .i64 1,.string b] 0 _ O.out)
     clear d i g
     go_wp2_with (first
      | (refine wpList_load_mid rfl 24 _ rfl (w.heap.size+1) 0 rfl [.int .i64 1,.string b] _ ao underlying24 rfl C ?_)
      | (refine aj rfl 24 _ _ rfl w.heap.size 0 [.int .i64 1,.string b] rfl rfl 2 rfl u.out P V.out ?_))
     exact aD rfl w.heap.size 0 rfl _ _ x underlying24 rfl C rfl _ rfl ⟨n.out,.inl ⟨_,az.out,rfl⟩⟩
    | false =>
     rw [m] at F
     have J:Hid (aR s.data.toList=none):=ah (by rw [t.out,if_neg (by omega),if_neg (by rw [m];simp)])
     clear m
     go_wp2_with (refine aG rfl 24 _ rfl (w.heap.size+1) 0 rfl [.int .i64 1,.string b] _ i underlying24 rfl C ?_)
     refine F.out.mono ?_
     rintro e w7 ⟨rfl,d⟩
     have O:=bth Q d
     have g:=I.out.below d
     have u:=ah g.there
     have x:=(g.set (us:=[.int .i64 0,.string ⟨#[]⟩]) rfl).range
     have n:=ah (below_setCells (B:=w.heap.size) w.heap.size (Nat.le_refl _) [.int .i64 0,.string ⟨#[]⟩] 0 _ O.out)
     clear d i g
     go_wp2_with (refine aj rfl 24 _ _ rfl w.heap.size 0 [.int .i64 0,.string ⟨#[]⟩] rfl rfl 2 rfl u.out P Y.out ?_)
     exact aD rfl w.heap.size 0 rfl _ _ x underlying24 rfl Z rfl _ rfl ⟨n.out,.inr ⟨J.out,rfl⟩⟩
   have a0:((R.fin:Int) != 0)=true:=bne_iff_ne.2 (by omega)
   have J:Hid (aR s.data.toList=none):=ah (by rw [t.out,if_pos L])
   have u:=ah I.out.there
   have x:=(I.out.set (us:=[.int .i64 0,.string ⟨#[]⟩]) rfl).range
   have n:=ah (below_setCells (B:=w.heap.size) w.heap.size (Nat.le_refl _) [.int .i64 0,.string ⟨#[]⟩] 0 _ Q.out)
   clear i L
   go_wp2_with (refine aj rfl 24 _ _ rfl w.heap.size 0 [.int .i64 0,.string ⟨#[]⟩] rfl rfl 2 rfl u.out P Y.out ?_)
   exact aD rfl w.heap.size 0 rfl _ _ x underlying24 rfl Z rfl _ rfl ⟨n.out,.inr ⟨J.out,rfl⟩⟩
  ·
   have ap:Hid (dN c=2):=ah bf
   have b1:(((c.toNat:Nat):Int)==98)=false:=by rw [G];rfl
   have b2:(((c.toNat:Nat):Int)==116)=true:=by rw [G];rfl
   have b3:(((c.toNat:Nat):Int)==99)=false:=by rw [G];rfl
   have a9:∀w,(Instr.index 9 (.string s) (.int .i64 0)).run prog w= .ok (.int .u8 116) w:=fun w=>by rw [a6.out w,G];rfl
   obtain ⟨z,f⟩:∃z,W.alloc (.cells #[.int .i64 2,.string ⟨#[]⟩] 24)=z:=⟨_,rfl⟩
   obtain ⟨N,r⟩:∃N,z.alloc (.cells #[.string (ofB l),.int .i64 0,.int .i64 0] 81)=N:=⟨_,rfl⟩
   have U:z.heap.size=w.heap.size+2:=by rw [←f,World.size_alloc,ba.out]
   have o:Below W.heap.size W z:=by rw [←f];exact bal
   have E:Below z.heap.size z N:=by rw [←r];exact bal
   have aw:Hid (ak N w.heap.size 24 [.int .i64 0,.string ⟨#[]⟩]):=ah ((ai.out.below o).below E)
   have al:Hid (ak N (w.heap.size+1) 24 [.int .i64 2,.string ⟨#[]⟩]):=ah (by
    have:=ak.new W 24 [.int .i64 2,.string ⟨#[]⟩]
    rw [a7] at this
    rw [←f] at E
    rw [←r,←f]
    exact this.below bal)
   have a4:Hid (Arr N (w.heap.size+2) 3 (Rd.mk (ofB l) 0 0).c):=ah (by rw [←U,←r];exact eF (ofB l) z _)
   have X:=ah ((S.out.trans (o.mono S.out.size)).trans (E.mono (Nat.le_trans S.out.size o.size)))
   have ab:=ah (jH (w.heap.size+2) (Rd.mk (ofB l) 0 0) 4096 N a4.out a8.out (by omega))
   have af:=ah f
   have a3:=ah r
   have bh:=ah U
   have t:Hid (aR s.data.toList=if R.fin≠0 then none else if av ⟨2,b⟩=true then some ⟨2,b⟩ else none):=ah (by rw [ag.out,ap.out,if_neg (by omega)];rfl)
   rw [bb.out] at ab
   clear f r o E bf
   go_enter func15,ntmps15
   go_upto_region 3 with fail
   rw [HW.out]
   go_upto_region 12 with fail
   rw [af.out]
   go_upto_region 13 with fail
   rw [a3.out]
   clear U
   go_wp2_with fail
   refine ab.out.mono ?_
   rintro e y ⟨rfl,ac,D⟩
   have ae:Hid (Below w.heap.size w y):=ah (X.out.grown D X.out.size (fun k e=>by have:=Option.some.inj e;omega))
   have aE:=ah (aw.out.kept D (fun e=>by have:=Option.some.inj e;omega))
   have a:=al.out.kept D (fun e=>by have:=Option.some.inj e;omega)
   have f1:y.cell? ⟨w.heap.size+1,1,none⟩=some (.string ⟨#[]⟩):=a.range 1 _ rfl
   have f2:y.frozen? ⟨w.heap.size+1,1,none⟩=false:=(a.there 1 (by show 1<2;omega)).2
   obtain ⟨K,p⟩:∃K,y.setCell ⟨w.heap.size+1,1,none⟩ (.string b)=K:=⟨_,rfl⟩
   have H:y.grownBy K (some (w.heap.size+1)):=by rw [←p];exact bF y (w.heap.size+1) 1 [.string b]
   have an:Hid (K.rangeAt (w.heap.size+1) 0 [.int .i64 2,.string b]):=ah (by
    have bj:=(Array.getElem?_eq_some_iff.1 a).1
    have e:=(a.set (us:=[.int .i64 2,.string b]) rfl)
    have e2:y.setCells (w.heap.size+1) 0 [.int .i64 2,.string b]=(y.setCell ⟨w.heap.size+1,0,none⟩ (.int .i64 2)).setCell ⟨w.heap.size+1,1,none⟩ (.string b):=rfl
    have hr:=a.range
    intro j v A
    rw [Nat.zero_add,←p]
    rcases (show j=0∨j=1∨2≤j by omega) with rfl|rfl|h2
    ·rw [World.cell?_setCell_other _ _ _ _ (by simp)]
     have:=hr 0 (.int .i64 2) rfl
     rw [Nat.zero_add] at this
     rw [this]
     exact A
    ·have hc:(y.setCell ⟨w.heap.size+1,1,none⟩ (.string b)).cell? ⟨w.heap.size+1,1,none⟩=some (.string b):=by
      have:=World.rangeAt_setCells_same y (w.heap.size+1) 1 [.string b] (fun j hj=>by
       obtain rfl:j=0:=by simpa using hj
       exact a.there 1 (by show 1<2;omega))
      exact this 0 _ rfl
     rw [hc];exact A
    rw [List.getElem?_eq_none (by simpa using h2)] at A;cases A)
   have ar:Hid (Below w.heap.size w K):=ah (ae.out.grown H ae.out.size (fun k e=>by have:=Option.some.inj e;omega))
   have a1:=ah (aE.out.kept H (fun e=>by have:=Option.some.inj e;omega))
   have ax:Hid (Arr K (w.heap.size+2) 3 R.c):=ah (by rw [←p];exact ac.far (by simp) _)
   have a2:=ah (kX (w.heap.size+2) R K ax.out aq.out)
   have M:Hid (w.heap.size+1<K.heap.size):=ah (Nat.lt_of_lt_of_le a.lt H.size)
   have a5:=ah p
   clear D ac p H a
   go_upto_region 14 with fail
   rw [a5.out]
   clear f1 f2
   go_wp2_with fail
   refine a2.out.mono ?_
   rintro e w6 ⟨rfl,q⟩
   have Q:=bth ar q
   have I:=ah (a1.out.below q)
   have i:=ay an.out q M.out
   have F:=ah (mP 2 b w6)
   have C:(prog.info? 24).map (·.size)=some [Value.int .i64 2,.string b].length:=by kernel_rfl
   have am:=q.size
   have ad:Hid (w.heap.size+1<w6.heap.size):=ah (by have:=M.out;omega)
   clear q am
   have V:Hid (∀v∈[Value.int .i64 2,.string b],v.oneCell'=true):=ah (fun v A=>by
    rcases List.mem_cons.1 A with rfl|A
    ·rfl
    rw [List.mem_singleton.1 A];rfl)
   by_cases L:R.fin=0
   ·have a0:((R.fin:Int)==0)=true:=beq_iff_eq.2 (by omega)
    have be:(R.fin:Int)=0:=by omega
    cases m:av ⟨2,b⟩ with
    | true =>
     rw [m] at F
     have az:Hid (aR s.data.toList=some ⟨2,b⟩):=ah (by rw [t.out,if_neg (by omega),if_pos m])
     clear m
     go_wp2_with (refine aG rfl 24 _ rfl (w.heap.size+1) 0 rfl [.int .i64 2,.string b] _ i underlying24 rfl C ?_)
     refine F.out.mono ?_
     rintro e w7 ⟨rfl,d⟩
     have O:=bth Q d
     have g:=I.out.below d
     have ao:=ay i d ad.out
     have u:=ah g.there
     have x:=(g.set (us:=[.int .i64 2,.string b]) rfl).range
     have n:=ah (below_setCells (B:=w.heap.size) w.heap.size (Nat.le_refl _) [.int .i64 2,.string b] 0 _ O.out)
     clear d i g
     go_wp2_with (first
      | (refine wpList_load_mid rfl 24 _ rfl (w.heap.size+1) 0 rfl [.int .i64 2,.string b] _ ao underlying24 rfl C ?_)
      | (refine aj rfl 24 _ _ rfl w.heap.size 0 [.int .i64 2,.string b] rfl rfl 2 rfl u.out P V.out ?_))
     exact aD rfl w.heap.size 0 rfl _ _ x underlying24 rfl C rfl _ rfl ⟨n.out,.inl ⟨_,az.out,rfl⟩⟩
    | false =>
     rw [m] at F
     have J:Hid (aR s.data.toList=none):=ah (by rw [t.out,if_neg (by omega),if_neg (by rw [m];simp)])
     clear m
     go_wp2_with (refine aG rfl 24 _ rfl (w.heap.size+1) 0 rfl [.int .i64 2,.string b] _ i underlying24 rfl C ?_)
     refine F.out.mono ?_
     rintro e w7 ⟨rfl,d⟩
     have O:=bth Q d
     have g:=I.out.below d
     have u:=ah g.there
     have x:=(g.set (us:=[.int .i64 0,.string ⟨#[]⟩]) rfl).range
     have n:=ah (below_setCells (B:=w.heap.size) w.heap.size (Nat.le_refl _) [.int .i64 0,.string ⟨#[]⟩] 0 _ O.out)
     clear d i g
     go_wp2_with (refine aj rfl 24 _ _ rfl w.heap.size 0 [.int .i64 0,.string ⟨#[]⟩] rfl rfl 2 rfl u.out P Y.out ?_)
     exact aD rfl w.heap.size 0 rfl _ _ x underlying24 rfl Z rfl _ rfl ⟨n.out,.inr ⟨J.out,rfl⟩⟩
   have a0:((R.fin:Int) != 0)=true:=bne_iff_ne.2 (by omega)
   have J:Hid (aR s.data.toList=none):=ah (by rw [t.out,if_pos L])
   have u:=ah I.out.there
   have x:=(I.out.set (us:=[.int .i64 0,.string ⟨#[]⟩]) rfl).range
   have n:=ah (below_setCells (B:=w.heap.size) w.heap.size (Nat.le_refl _) [.int .i64 0,.string ⟨#[]⟩] 0 _ Q.out)
   clear i L
   go_wp2_with (refine aj rfl 24 _ _ rfl w.heap.size 0 [.int .i64 0,.string ⟨#[]⟩] rfl rfl 2 rfl u.out P Y.out ?_)
   exact aD rfl w.heap.size 0 rfl _ _ x underlying24 rfl Z rfl _ rfl ⟨n.out,.inr ⟨J.out,rfl⟩⟩
  ·
   have ap:Hid (dN c=3):=ah bi
   have b1:(((c.toNat:Nat):Int)==98)=false:=by rw [G];rfl
   have b2:(((c.toNat:Nat):Int)==116)=false:=by rw [G];rfl
   have b3:(((c.toNat:Nat):Int)==99)=true:=by rw [G];rfl
   have a9:∀w,(Instr.index 9 (.string s) (.int .i64 0)).run prog w= .ok (.int .u8 99) w:=fun w=>by rw [a6.out w,G];rfl
   obtain ⟨z,f⟩:∃z,W.alloc (.cells #[.int .i64 3,.string ⟨#[]⟩] 24)=z:=⟨_,rfl⟩
   obtain ⟨N,r⟩:∃N,z.alloc (.cells #[.string (ofB l),.int .i64 0,.int .i64 0] 81)=N:=⟨_,rfl⟩
   have U:z.heap.size=w.heap.size+2:=by rw [←f,World.size_alloc,ba.out]
   have o:Below W.heap.size W z:=by rw [←f];exact bal
   have E:Below z.heap.size z N:=by rw [←r];exact bal
   have aw:Hid (ak N w.heap.size 24 [.int .i64 0,.string ⟨#[]⟩]):=ah ((ai.out.below o).below E)
   have al:Hid (ak N (w.heap.size+1) 24 [.int .i64 3,.string ⟨#[]⟩]):=ah (by
    have:=ak.new W 24 [.int .i64 3,.string ⟨#[]⟩]
    rw [a7] at this
    rw [←f] at E
    rw [←r,←f]
    exact this.below bal)
   have a4:Hid (Arr N (w.heap.size+2) 3 (Rd.mk (ofB l) 0 0).c):=ah (by rw [←U,←r];exact eF (ofB l) z _)
   have X:=ah ((S.out.trans (o.mono S.out.size)).trans (E.mono (Nat.le_trans S.out.size o.size)))
   have ab:=ah (jH (w.heap.size+2) (Rd.mk (ofB l) 0 0) 4096 N a4.out a8.out (by omega))
   have af:=ah f
   have a3:=ah r
   have bh:=ah U
   have t:Hid (aR s.data.toList=if R.fin≠0 then none else if av ⟨3,b⟩=true then some ⟨3,b⟩ else none):=ah (by rw [ag.out,ap.out,if_neg (by omega)];rfl)
   rw [bb.out] at ab
   clear f r o E bi
   go_enter func15,ntmps15
   go_upto_region 3 with fail
   rw [HW.out]
   go_upto_region 12 with fail
   rw [af.out]
   go_upto_region 13 with fail
   rw [a3.out]
   clear U
   go_wp2_with fail
   refine ab.out.mono ?_
   rintro e y ⟨rfl,ac,D⟩
   have ae:Hid (Below w.heap.size w y):=ah (X.out.grown D X.out.size (fun k e=>by have:=Option.some.inj e;omega))
   have aE:=ah (aw.out.kept D (fun e=>by have:=Option.some.inj e;omega))
   have a:=al.out.kept D (fun e=>by have:=Option.some.inj e;omega)
   have f1:y.cell? ⟨w.heap.size+1,1,none⟩=some (.string ⟨#[]⟩):=a.range 1 _ rfl
   have f2:y.frozen? ⟨w.heap.size+1,1,none⟩=false:=(a.there 1 (by show 1<2;omega)).2
   obtain ⟨K,p⟩:∃K,y.setCell ⟨w.heap.size+1,1,none⟩ (.string b)=K:=⟨_,rfl⟩
   have H:y.grownBy K (some (w.heap.size+1)):=by rw [←p];exact bF y (w.heap.size+1) 1 [.string b]
   have an:Hid (K.rangeAt (w.heap.size+1) 0 [.int .i64 3,.string b]):=ah (by
    have bj:=(Array.getElem?_eq_some_iff.1 a).1
    have e:=(a.set (us:=[.int .i64 3,.string b]) rfl)
    have e2:y.setCells (w.heap.size+1) 0 [.int .i64 3,.string b]=(y.setCell ⟨w.heap.size+1,0,none⟩ (.int .i64 3)).setCell ⟨w.heap.size+1,1,none⟩ (.string b):=rfl
    have hr:=a.range
    intro j v A
    rw [Nat.zero_add,←p]
    rcases (show j=0∨j=1∨2≤j by omega) with rfl|rfl|h2
    ·rw [World.cell?_setCell_other _ _ _ _ (by simp)]
     have:=hr 0 (.int .i64 3) rfl
     rw [Nat.zero_add] at this
     rw [this]
     exact A
    ·have hc:(y.setCell ⟨w.heap.size+1,1,none⟩ (.string b)).cell? ⟨w.heap.size+1,1,none⟩=some (.string b):=by
      have:=World.rangeAt_setCells_same y (w.heap.size+1) 1 [.string b] (fun j hj=>by
       obtain rfl:j=0:=by simpa using hj
       exact a.there 1 (by show 1<2;omega))
      exact this 0 _ rfl
     rw [hc];exact A
    rw [List.getElem?_eq_none (by simpa using h2)] at A;cases A)
   have ar:Hid (Below w.heap.size w K):=ah (ae.out.grown H ae.out.size (fun k e=>by have:=Option.some.inj e;omega))
   have a1:=ah (aE.out.kept H (fun e=>by have:=Option.some.inj e;omega))
   have ax:Hid (Arr K (w.heap.size+2) 3 R.c):=ah (by rw [←p];exact ac.far (by simp) _)
   have a2:=ah (kX (w.heap.size+2) R K ax.out aq.out)
   have M:Hid (w.heap.size+1<K.heap.size):=ah (Nat.lt_of_lt_of_le a.lt H.size)
   have a5:=ah p
   clear D ac p H a
   go_upto_region 14 with fail
   rw [a5.out]
   clear f1 f2
   go_wp2_with fail
   refine a2.out.mono ?_
   rintro e w6 ⟨rfl,q⟩
   have Q:=bth ar q
   have I:=ah (a1.out.below q)
   have i:=ay an.out q M.out
   have F:=ah (mP 3 b w6)
   have C:(prog.info? 24).map (·.size)=some [Value.int .i64 3,.string b].length:=by kernel_rfl
   have am:=q.size
   have ad:Hid (w.heap.size+1<w6.heap.size):=ah (by have:=M.out;omega)
   clear q am
   have V:Hid (∀v∈[Value.int .i64 3,.string b],v.oneCell'=true):=ah (fun v A=>by
    rcases List.mem_cons.1 A with rfl|A
    ·rfl
    rw [List.mem_singleton.1 A];rfl)
   by_cases L:R.fin=0
   ·have a0:((R.fin:Int)==0)=true:=beq_iff_eq.2 (by omega)
    have be:(R.fin:Int)=0:=by omega
    cases m:av ⟨3,b⟩ with
    | true =>
     rw [m] at F
     have az:Hid (aR s.data.toList=some ⟨3,b⟩):=ah (by rw [t.out,if_neg (by omega),if_pos m])
     clear m
     go_wp2_with (refine aG rfl 24 _ rfl (w.heap.size+1) 0 rfl [.int .i64 3,.string b] _ i underlying24 rfl C ?_)
     refine F.out.mono ?_
     rintro e w7 ⟨rfl,d⟩
     have O:=bth Q d
     have g:=I.out.below d
     have ao:=ay i d ad.out
     have u:=ah g.there
     have x:=(g.set (us:=[.int .i64 3,.string b]) rfl).range
     have n:=ah (below_setCells (B:=w.heap.size) w.heap.size (Nat.le_refl _) [.int .i64 3,.string b] 0 _ O.out)
     clear d i g
     go_wp2_with (first
      | (refine wpList_load_mid rfl 24 _ rfl (w.heap.size+1) 0 rfl [.int .i64 3,.string b] _ ao underlying24 rfl C ?_)
      | (refine aj rfl 24 _ _ rfl w.heap.size 0 [.int .i64 3,.string b] rfl rfl 2 rfl u.out P V.out ?_))
     exact aD rfl w.heap.size 0 rfl _ _ x underlying24 rfl C rfl _ rfl ⟨n.out,.inl ⟨_,az.out,rfl⟩⟩
    | false =>
     rw [m] at F
     have J:Hid (aR s.data.toList=none):=ah (by rw [t.out,if_neg (by omega),if_neg (by rw [m];simp)])
     clear m
     go_wp2_with (refine aG rfl 24 _ rfl (w.heap.size+1) 0 rfl [.int .i64 3,.string b] _ i underlying24 rfl C ?_)
     refine F.out.mono ?_
     rintro e w7 ⟨rfl,d⟩
     have O:=bth Q d
     have g:=I.out.below d
     have u:=ah g.there
     have x:=(g.set (us:=[.int .i64 0,.string ⟨#[]⟩]) rfl).range
     have n:=ah (below_setCells (B:=w.heap.size) w.heap.size (Nat.le_refl _) [.int .i64 0,.string ⟨#[]⟩] 0 _ O.out)
     clear d i g
     go_wp2_with (refine aj rfl 24 _ _ rfl w.heap.size 0 [.int .i64 0,.string ⟨#[]⟩] rfl rfl 2 rfl u.out P Y.out ?_)
     exact aD rfl w.heap.size 0 rfl _ _ x underlying24 rfl Z rfl _ rfl ⟨n.out,.inr ⟨J.out,rfl⟩⟩
   have a0:((R.fin:Int) != 0)=true:=bne_iff_ne.2 (by omega)
   have J:Hid (aR s.data.toList=none):=ah (by rw [t.out,if_pos L])
   have u:=ah I.out.there
   have x:=(I.out.set (us:=[.int .i64 0,.string ⟨#[]⟩]) rfl).range
   have n:=ah (below_setCells (B:=w.heap.size) w.heap.size (Nat.le_refl _) [.int .i64 0,.string ⟨#[]⟩] 0 _ Q.out)
   clear i L
   go_wp2_with (refine aj rfl 24 _ _ rfl w.heap.size 0 [.int .i64 0,.string ⟨#[]⟩] rfl rfl 2 rfl u.out P Y.out ?_)
   exact aD rfl w.heap.size 0 rfl _ _ x underlying24 rfl Z rfl _ rfl ⟨n.out,.inr ⟨J.out,rfl⟩⟩
  have J:Hid (aR s.data.toList=none):=ah (by rw [ag.out,if_pos bn])
  have b1:(((c.toNat:Nat):Int)==98)=false:=beq_eq_false_iff_ne.2 (by omega)
  have b2:(((c.toNat:Nat):Int)==116)=false:=beq_eq_false_iff_ne.2 (by omega)
  have b3:(((c.toNat:Nat):Int)==99)=false:=beq_eq_false_iff_ne.2 (by omega)
  have a9:=a6.out
  obtain ⟨z,f⟩:∃z,W.alloc (.cells #[.int .i64 0,.string ⟨#[]⟩] 24)=z:=⟨_,rfl⟩
  have o:Below W.heap.size W z:=by rw [←f];exact bal
  have bd:=ai.out.below o
  have bm:=ah bd.there
  have bp:=(bd.set (us:=[.int .i64 0,.string ⟨#[]⟩]) rfl).range
  have n:=ah (below_setCells (B:=w.heap.size) w.heap.size (Nat.le_refl _) [.int .i64 0,.string ⟨#[]⟩] 0 _ (S.out.trans (o.mono S.out.size)))
  have af:=ah f
  clear f o bd br
  go_enter func15,ntmps15
  go_upto_region 3 with fail
  rw [HW.out]
  go_upto_region 5 with fail
  rw [af.out]
  go_wp2_with (refine aj rfl 24 _ _ rfl w.heap.size 0 [.int .i64 0,.string ⟨#[]⟩] rfl rfl 2 rfl bm.out P Y.out ?_)
  exact aD rfl w.heap.size 0 rfl _ _ bp underlying24 rfl Z rfl _ rfl ⟨n.out,.inr ⟨J.out,rfl⟩⟩
end
section
open Go.RowKit
structure cu (w:World):Prop where
 laid:Laid w
 max:qR w
 crc:Crc w
 ord:w.rangeAt 0 0 [.string bI,.string iZ,.string iR]
theorem cu.nG {w w':World} {B:Nat} (h:cu w) (hb:Below B w w') (b:5≤B):cu w':=by
 have d:=h.laid.lt
 have a:=hb.size
 exact ⟨⟨ay h.laid.rounds hb (by omega),ay h.laid.first hb (by omega),by omega⟩,h.max.below hb (by omega),⟨ay h.crc.row hb (by omega),by have:=h.crc.lt;omega⟩,ay h.ord hb (by omega)⟩
theorem cu.below {w w':World} (h:cu w) (hb:Below w.heap.size w w'):cu w':=h.nG hb h.laid.lt
section
variable {ks:List Nat} {B:Nat} {E1 E2:TypeId} {s1 s2:Nat} {wz W W':World} {v1 v1':Value} {n1 n1':Nat} {x1 x1':List Value} {v2 v2':Value} {n2 n2':Nat} {x2 x2':List Value} {y1 y2:Option (Nat × List Value)}
end
theorem om {s:List UInt8} {o:Ob} (h:aR s=some o):av o=true:=by
 unfold aR at h
 split at h
 ·cases h
 split at h
 ·cases h
 split at h
 ·cases h
 split at h
 ·rename_i a;cases h;exact a
 cases h
theorem bM:(prog.info? 24).map (·.size)=some 2:=by decide +kernel
theorem Lc:(prog.info? 143).map (·.size)=some 32:=by kernel_rfl
theorem jd (o:Ob):∀v∈obC o,v.oneCell'=true:=by
 intro v a
 unfold obC at a
 simp at a
 rcases a with rfl|rfl<;>rfl
theorem wT (l p:List UInt8):Lib.hasPrefix l p=decide (l.take p.length=p):=by
 unfold Lib.hasPrefix
 rw [Bool.eq_iff_iff,decide_eq_true_iff,List.isPrefixOf_iff_prefix,List.prefix_iff_eq_take]
 exact eq_comm
def cpO (s:ByteArray):ByteArray:=⟨(Lib.trimPrefix s.data.toList fU).toArray⟩
theorem Ko (s:ByteArray) (w:World):Calls prog 171 #[.string s,.string ⟨#[83,76,79,49]⟩] w fun e w'=>e= .returned (.tuple #[.string (cpO s),.bool (decide (s.data.toList.take 4=fU))])∧w'=w:=by
 have h:=Any.strings_CutPrefix Tryz.lays103 s ⟨#[83,76,79,49]⟩ w
 have e:=wT s.data.toList fU
 rw [show fU.length=4 from rfl] at e
 rw [←e]
 exact h
theorem Kq (s:ByteArray):(cpO s).size≤s.size:=by
 have e:(cpO s).size=(Lib.trimPrefix s.data.toList fU).length:=by unfold cpO;simp [ByteArray.size]
 rw [e]
 unfold Lib.trimPrefix
 have:s.data.toList.length=s.size:=by simp
 split
 ·rw [List.length_drop];omega
 omega
theorem Kr {s:ByteArray} (h:s.data.toList.take 4=fU):(cpO s).data.toList=s.data.toList.drop 4:=by
 have a:Lib.hasPrefix s.data.toList fU=true:=by rw [wT];exact decide_eq_true h
 unfold cpO Lib.trimPrefix
 rw [if_pos a]
 rfl
theorem Dl (b:ByteArray):jL b=if (gV b&&decide ((unS b).data.toList.take 4=fU))=true then aR (cpO (unS b)).data.toList else none:=by
 unfold jL
 cases hu:bH b.data.toList with
 | none =>
  have a:gV b=false:=by unfold gV;rw [hu];rfl
  rw [a,Bool.false_and,if_neg (by decide)]
 | some l =>
  have d:unS b=ofB l:=by unfold unS;rw [hu];rfl
  have a:gV b=true:=by unfold gV;rw [hu];rfl
  have e:(ofB l).data.toList=l:=by simp [ofB]
  dsimp only
  by_cases h:l.take 4=fU
  ·rw [if_pos h,a,Bool.true_and,if_pos (decide_eq_true (by rw [d,e];exact h)),Kr (by rw [d,e];exact h),d,e]
  rw [if_neg h,if_neg (fun x=>h (by rw [a,Bool.true_and] at x;have:=of_decide_eq_true x;rwa [d,e] at this))]
def vw (nm b:ByteArray) (w:World) (e:Ending) (w':World):Prop :=
 (match dK nm b with
 | none=>e= .returned (.tuple #[.agg #[.int .i64 0,.string ⟨#[]⟩],.bool false])
 | some o=>e= .returned (.tuple #[.agg (obC o).toArray,.bool true]))∧Below w.heap.size w w'
theorem oG {nm b:ByteArray} {w w':World} (h:dK nm b=none) (hb:Below w.heap.size w w'):vw nm b w (.returned (.tuple #[.agg #[.int .i64 0,.string ⟨#[]⟩],.bool false])) w':=⟨by rw [h],hb⟩
theorem GI {nm b:ByteArray} {o:Ob} {c:List Value} {w w':World} (h:dK nm b=some o) (a:obC o=c) (hb:Below w.heap.size w w'):vw nm b w (.returned (.tuple #[.agg c.toArray,.bool true])) w':=⟨by rw [h,←a],hb⟩
theorem yO (w:World):(Instr.build 24 #[]).run prog w= .ok (.agg #[.int .i64 0,.string ⟨#[]⟩]) w:=run_build w 24 _ _ (by kernel_rfl)
theorem lV (nm b:ByteArray) (w:World) (hb:b.size≤1000000) (hG:cu w):Calls prog 109 #[.string nm,.string b] w (vw nm b w):=by
 have bo:=yO
 obtain ⟨zi,j0,ji,bp,bs,br,bn,ar⟩:=gL
 have a3:=ah ar
 obtain ⟨W0,V⟩:∃W,w.alloc (.cells #[.int .i64 0,.string ⟨#[]⟩] 24)=W:=⟨_,rfl⟩
 have bh:Hid (ak W0 w.heap.size 24 [.int .i64 0,.string ⟨#[]⟩]):=ah (by rw [←V];exact ak.new w 24 [.int .i64 0,.string ⟨#[]⟩])
 have a1:Hid (Below w.heap.size w W0):=ah (by rw [←V];exact bal)
 have HG:=ah hG
 have T:=ah (mJ b W0 (hG.below a1.out).crc (by omega))
 have a0:=ah (Dl b)
 have bl:(unS b).size≤1000000:=by
  unfold unS
  cases hu:bH b.data.toList with
  | none=>exact Nat.zero_le _
  | some l =>
   show (ofB l).size≤_
   rw [aK]
   unfold bH at hu
   split at hu
   ·cases hu
    rw [List.length_take]
    have:b.data.toList.length=b.size:=by simp
    omega
   cases hu
 have am:=Kq (unS b)
 have K:=ah (Ko (unS b))
 have x:Hid (dK nm b=match jL b with|none=>none|some o=>if ofB (bJ (idO o))=nm then some o else none):=ah rfl
 rw [a0.out] at x
 have bf:=ah V
 clear V hG hb a0
 obtain ⟨p,hp⟩:∃p,decide ((unS b).data.toList.take 4=fU)=p:=⟨_,rfl⟩
 rw [hp] at K x
 clear hp
 generalize cpO (unS b)=s at K x am
 generalize unS b=us at T K am bl
 generalize gV b=u at T x
 go_enter func109,ntmps109
 go_upto_region 1 with fail
 rw [bf.out]
 go_wp2_with fail
 refine T.out.mono ?_
 rintro e w1 ⟨rfl,al⟩
 have bm:=ah (bh.out.below al)
 have ai:=bth a1 al
 clear al T
 go_wp2_with fail
 refine (K.out w1).mono ?_
 rintro e a9 ⟨rfl,rfl⟩
 have a6:=ah (qD s a9 (by omega) (HG.out.below ai.out).max)
 clear K
 go_wp2_with fail
 refine a6.out.mono ?_
 rintro e w3 C
 have bc:=ah (bm.out.below C.1)
 have ba:=ah (ai.out.trans (C.1.mono ai.out.size))
 obtain ⟨o,c,rfl,ax⟩:∃(o:Ob) (c:Nat),e= .returned (.tuple #[.agg (obC o).toArray,.int .i64 (c:Int)])∧((c=0∧aR s.data.toList=some o)∨(c=2∧aR s.data.toList=none)):=by
  rcases C.2 with ⟨o,h1,h2⟩|⟨h1,h2⟩
  ·exact ⟨o,0,h2,.inl ⟨rfl,h1⟩⟩
  exact ⟨ob0,2,h2,.inr ⟨rfl,h1⟩⟩
 have aw:=ah ax
 clear C ax
 have bj:=ah (there_alloc (n:=2) w3 #[.int .i64 0,.string ⟨#[]⟩] 24 rfl)
 have E:=ah bM
 obtain ⟨W4,P⟩:∃W,(w3.alloc (.cells #[.int .i64 0,.string ⟨#[]⟩] 24)).setCells w3.heap.size 0 (obC o)=W:=⟨_,rfl⟩
 have H:Hid (ak W4 w3.heap.size 24 (obC o)):=ah (by rw [←P];exact (ak.new w3 24 [.int .i64 0,.string ⟨#[]⟩]).set rfl)
 have ad:Below w3.heap.size w3 W4:=by rw [←P];exact below_setCells _ (Nat.le_refl _) _ _ _ bal
 have a7:=ah (bc.out.below ad)
 have a4:=bth ba ad
 have F:=ah (show Calls prog 111 #[.agg (obC o).toArray] W4 (o9 o.kind o.body W4) from yM o.kind o.body W4 (HG.out.below a4.out).laid)
 unfold o9 at F
 have af:=H.out.range
 have ae:(prog.info? 24).map (·.size)=some (obC o).length:=bM
 have J:=ah (jd o)
 have q:Hid ((obC o).length=2):=ah rfl
 have M:Hid (aR s.data.toList=some o→av ⟨o.kind,o.body⟩=true):=ah fun h=>om h
 have aE:=ah P
 obtain ⟨y,hy⟩:∃y,(if av ⟨o.kind,o.body⟩=true then idO ⟨o.kind,o.body⟩ else zid)=y:=⟨_,rfl⟩
 have aa:Hid (y.length=32):=ah (by
  rw [←hy]
  split
  ·exact rQ _
  exact bR)
 rw [hy] at F
 have HY:Hid (aR s.data.toList=some o→y=idO o):=ah fun h=>by rw [←hy,if_pos (M.out h)]
 obtain ⟨ok,R⟩:∃ok,av ⟨o.kind,o.body⟩=ok:=⟨_,rfl⟩
 rw [R] at F M
 clear P hy R ad
 generalize ap:obC o=co at af ae J q aE F H ⊢
 have bk:=ah ap
 clear ap
 go_upto_region 4 with (refine aj rfl 24 _ _ rfl w3.heap.size 0 co rfl rfl 2 q.out bj.out E.out J.out ?_;rw [aE.out])
 go_wp2_with (refine wpList_load_mid rfl 24 _ rfl w3.heap.size 0 rfl co _ af underlying24 rfl ae ?_)
 refine F.out.mono ?_
 rintro e X ⟨rfl,Y⟩
 have a5:=ah (a7.out.below Y)
 have bd:=bth a4 Y
 have an:=ah (H.out.below Y)
 clear Y af F
 have bb:=ah (there_alloc (n:=32) X zi 143 a3.out)
 have a8:=ah Lc
 have I:Hid ((idC y).length=32∧ ∀v∈idC y,v.oneCell'=true):=ah ⟨by rw [aA,aa.out],bC y⟩
 obtain ⟨N,S⟩:∃W,(X.alloc (.cells zi 143)).setCells X.heap.size 0 (idC y)=W:=⟨_,rfl⟩
 have ac:Hid (ak N X.heap.size 143 (idC y)):=ah (by rw [←S];exact ak.set (cs:=zi.toList) (by have:=ak.new X 143 zi.toList;simpa using this) (by rw [I.out.1];simpa using a3.out.symm))
 have O:Below X.heap.size X N:=by rw [←S];exact below_setCells _ (Nat.le_refl _) _ _ _ bal
 have r:=ah (a5.out.below O)
 have Q:=bth bd O
 have a2:=ah (an.out.below O)
 have ag:=ah (lW y aa.out N)
 have G:=jm I.out.1
 have r6:=ac.out.range
 have az:=ah S
 clear S O
 generalize be:idC y=ci at I az ac ag G r6
 clear be
 go_upto_region 5 with (refine aj rfl 143 _ _ rfl X.heap.size 0 ci rfl rfl 32 I.out.1 bb.out a8.out I.out.2 ?_;rw [az.out])
 cases u with
 | false =>
  have z:Hid (dK nm b=none):=ah (by rw [x.out,Bool.false_and,if_neg (by decide)])
  clear r6 G
  go_upto_region 6 with fail
  have i:N.there w.heap.size 0 2:=r.out.there
  have m:(prog.info? 24).map (·.size)=some ([.int .i64 0,.string ⟨#[]⟩]:List Value).length:=bM
  obtain ⟨d,a⟩:∃d,N.setCells w.heap.size 0 [.int .i64 0,.string ⟨#[]⟩]=d:=⟨_,rfl⟩
  have g:Hid (ak d w.heap.size 24 [.int .i64 0,.string ⟨#[]⟩]):=ah (by rw [←a];exact r.out.set rfl)
  have j:Hid (Below w.heap.size w d):=ah (by rw [←a];exact below_setCells _ (Nat.le_refl _) _ _ _ Q.out)
  have f:=ah a
  clear a
  go_wp2_with (refine aj rfl 24 _ _ rfl w.heap.size 0 [.int .i64 0,.string ⟨#[]⟩] rfl rfl 2 rfl i E.out (by intro v L;simp at L;rcases L with rfl|rfl<;>rfl) ?_;rw [f.out])
  have k:=g.out.range
  (try simp only [Exit.inBlock,Exit.then])
  refine aD rfl w.heap.size 0 rfl [.int .i64 0,.string ⟨#[]⟩] _ k underlying24 rfl m rfl _ rfl ?_
  exact oG z.out j.out
 | true =>
  cases p with
  | false =>
   have z:Hid (dK nm b=none):=ah (by rw [x.out,Bool.true_and,if_neg (by decide)])
   clear r6 G
   go_upto_region 6 with fail
   have i:N.there w.heap.size 0 2:=r.out.there
   have m:(prog.info? 24).map (·.size)=some ([.int .i64 0,.string ⟨#[]⟩]:List Value).length:=bM
   obtain ⟨d,a⟩:∃d,N.setCells w.heap.size 0 [.int .i64 0,.string ⟨#[]⟩]=d:=⟨_,rfl⟩
   have g:Hid (ak d w.heap.size 24 [.int .i64 0,.string ⟨#[]⟩]):=ah (by rw [←a];exact r.out.set rfl)
   have j:Hid (Below w.heap.size w d):=ah (by rw [←a];exact below_setCells _ (Nat.le_refl _) _ _ _ Q.out)
   have f:=ah a
   clear a
   go_wp2_with (refine aj rfl 24 _ _ rfl w.heap.size 0 [.int .i64 0,.string ⟨#[]⟩] rfl rfl 2 rfl i E.out (by intro v L;simp at L;rcases L with rfl|rfl<;>rfl) ?_;rw [f.out])
   have k:=g.out.range
   (try simp only [Exit.inBlock,Exit.then])
   refine aD rfl w.heap.size 0 rfl [.int .i64 0,.string ⟨#[]⟩] _ k underlying24 rfl m rfl _ rfl ?_
   exact oG z.out j.out
  | true =>
   have ab:Hid (dK nm b=match aR s.data.toList with|none=>none|some o=>if ofB (bJ (idO o))=nm then some o else none):=ah (by rw [x.out,Bool.true_and,if_pos rfl])
   rcases aw.out with ⟨rfl,A⟩|⟨rfl,A⟩
   ·have B:Hid (dK nm b=if ofB (bJ y)=nm then some o else none):=ah (by rw [ab.out,A,HY.out A])
    have R:=M.out A
    subst R
    have f0:((ofB (bJ y)).toList != nm.toList)= !decide (ofB (bJ y)=nm):=by rw [bne,lK]
    clear A M HY aw
    go_wp2_with (refine aG rfl 143 _ rfl X.heap.size 0 rfl ci _ r6 underlying143 rfl G ?_)
    refine ag.out.mono ?_
    rintro e w7 ⟨rfl,Z⟩
    have U:=ah (r.out.below Z)
    have ao:=bth Q Z
    have aq:=ah (a2.out.below Z)
    clear Z r6 G ag
    by_cases D:ofB (bJ y)=nm
    ·have f1:((ofB (bJ y)).toList==nm.toList)=true:=by rw [lK,decide_eq_true D]
     clear f0
     have bi:Hid (dK nm b=some o):=ah (by rw [B.out,if_pos D])
     clear D B
     generalize ofB (bJ y)=t at f1
     have i:w7.there w.heap.size 0 2:=U.out.there
     have m:(prog.info? 24).map (·.size)=some (co:List Value).length:=by rw [q.out];exact bM
     obtain ⟨d,a⟩:∃d,w7.setCells w.heap.size 0 co=d:=⟨_,rfl⟩
     have g:Hid (ak d w.heap.size 24 co):=ah (by rw [←a];exact U.out.set (by rw [q.out];rfl))
     have j:Hid (Below w.heap.size w d):=ah (by rw [←a];exact below_setCells _ (Nat.le_refl _) _ _ _ ao.out)
     have f:=ah a
     clear a
     have r7:=aq.out.range
     go_wp2_with (first
      | refine wpList_load_mid rfl 24 _ rfl w3.heap.size 0 rfl co _ r7 underlying24 rfl ae ?_
      | (refine aj rfl 24 _ _ rfl w.heap.size 0 co rfl rfl 2 q.out i E.out J.out ?_;rw [f.out]))
     have k:=g.out.range
     (try simp only [Exit.inBlock,Exit.then])
     refine aD rfl w.heap.size 0 rfl co _ k underlying24 rfl m rfl _ rfl ?_
     exact GI bi.out bk.out j.out
    have f1:((ofB (bJ y)).toList==nm.toList)=false:=by rw [lK,decide_eq_false D]
    clear f0
    have z:Hid (dK nm b=none):=ah (by rw [B.out,if_neg D])
    clear D B
    generalize ofB (bJ y)=t at f1
    go_upto_region 6 with fail
    have i:w7.there w.heap.size 0 2:=U.out.there
    have m:(prog.info? 24).map (·.size)=some ([.int .i64 0,.string ⟨#[]⟩]:List Value).length:=bM
    obtain ⟨d,a⟩:∃d,w7.setCells w.heap.size 0 [.int .i64 0,.string ⟨#[]⟩]=d:=⟨_,rfl⟩
    have g:Hid (ak d w.heap.size 24 [.int .i64 0,.string ⟨#[]⟩]):=ah (by rw [←a];exact U.out.set rfl)
    have j:Hid (Below w.heap.size w d):=ah (by rw [←a];exact below_setCells _ (Nat.le_refl _) _ _ _ ao.out)
    have f:=ah a
    clear a
    go_wp2_with (refine aj rfl 24 _ _ rfl w.heap.size 0 [.int .i64 0,.string ⟨#[]⟩] rfl rfl 2 rfl i E.out (by intro v L;simp at L;rcases L with rfl|rfl<;>rfl) ?_;rw [f.out])
    have k:=g.out.range
    (try simp only [Exit.inBlock,Exit.then])
    refine aD rfl w.heap.size 0 rfl [.int .i64 0,.string ⟨#[]⟩] _ k underlying24 rfl m rfl _ rfl ?_
    exact oG z.out j.out
   have z:Hid (dK nm b=none):=ah (by rw [ab.out,A])
   clear r6 G A
   go_upto_region 6 with fail
   have i:N.there w.heap.size 0 2:=r.out.there
   have m:(prog.info? 24).map (·.size)=some ([.int .i64 0,.string ⟨#[]⟩]:List Value).length:=bM
   obtain ⟨d,a⟩:∃d,N.setCells w.heap.size 0 [.int .i64 0,.string ⟨#[]⟩]=d:=⟨_,rfl⟩
   have g:Hid (ak d w.heap.size 24 [.int .i64 0,.string ⟨#[]⟩]):=ah (by rw [←a];exact r.out.set rfl)
   have j:Hid (Below w.heap.size w d):=ah (by rw [←a];exact below_setCells _ (Nat.le_refl _) _ _ _ Q.out)
   have f:=ah a
   clear a
   go_wp2_with (refine aj rfl 24 _ _ rfl w.heap.size 0 [.int .i64 0,.string ⟨#[]⟩] rfl rfl 2 rfl i E.out (by intro v L;simp at L;rcases L with rfl|rfl<;>rfl) ?_;rw [f.out])
   have k:=g.out.range
   (try simp only [Exit.inBlock,Exit.then])
   refine aD rfl w.heap.size 0 rfl [.int .i64 0,.string ⟨#[]⟩] _ k underlying24 rfl m rfl _ rfl ?_
   exact oG z.out j.out
def iQ (s:ByteArray):List UInt8:=(iF s.data.toList).getD zid
def fT (s:ByteArray):Bool:=(iF s.data.toList).isSome
def mG (s:ByteArray) (w:World) (e:Ending) (w':World):Prop:=e= .returned (.tuple #[.agg (idC (iQ s)).toArray,.bool (fT s)])∧Below w.heap.size w w'
theorem nP (s:ByteArray):(iQ s).length=32:=by
 unfold iQ iF
 split
 ·simp
 exact bR
theorem sD {s:ByteArray} {w w':World} (h:iF s.data.toList=none) (hb:Below w.heap.size w w'):mG s w (.returned (.tuple #[.agg (idC zid).toArray,.bool false])) w':=⟨by unfold iQ fT;rw [h];rfl,hb⟩
theorem zR {s:ByteArray} (h:s.size≠64):iF s.data.toList=none:=by
 unfold iF
 rw [if_neg (fun x=>h (by have:=x.1;simpa using this))]
theorem wm {s:ByteArray} {i:Nat} (h:i<s.size) (hd:iT s[i]= -1):iF s.data.toList=none:=by
 unfold iF
 rw [if_neg]
 rintro ⟨_,a⟩
 rw [List.all_eq_true] at a
 have b:=a s[i] (List.mem_iff_getElem.2 ⟨i,by simpa using h,rfl⟩)
 unfold iT at hd
 cases e:qK s[i] with
 | none=>rw [e] at b;cases b
 | some n =>
  rw [e] at hd
  have a:(n:Int)= -1:=hd
  omega
def unB (s:ByteArray) (i:Nat):UInt8:=UInt8.ofNat (16*BI s.data.toList (2*i)+BI s.data.toList (2*i+1))
theorem Cr {s:ByteArray} (h:s.size=64) (hd:∀(i:Nat) (hi:i<s.size),iT s[i] ≠ -1):iF s.data.toList=some ((List.range 32).map (unB s)):=by
 unfold iF
 rw [if_pos]
 ·rfl
 refine ⟨by simpa using h,List.all_eq_true.2 fun x hx=> ?_⟩
 obtain ⟨i,hi,rfl⟩:=List.mem_iff_getElem.1 hx
 have a:i<s.size:=by simpa using hi
 have:=hd i a
 unfold iT at this
 cases e:qK s[i] with
 | none=>rw [e] at this;exact absurd rfl this
 | some n=>exact (congrArg Option.isSome e)
theorem E9 {s:ByteArray} {i n:Nat} (h:i<s.size) (hd:iT s[i]=(n:Int)):BI s.data.toList i=n:=by
 have a:s.data.toList.getD i 0=s[i]:=by
  rw [List.getD_eq_getElem?_getD,List.getElem?_eq_getElem (by simpa using h)];rfl
 unfold BI
 rw [a]
 unfold iT at hd
 cases e:qK s[i] with
 | none =>
  rw [e] at hd
  have b:(-1:Int)=n:=hd
  omega
 | some m =>
  rw [e] at hd
  have b:(m:Int)=n:=hd
  show m=n
  omega
theorem uQ (b:UInt8):iT b= -1∨ ∃n:Nat,n<16∧iT b=(n:Int):=by
 unfold iT
 cases e:qK b with
 | none=>exact .inl rfl
 | some n =>
  refine .inr ⟨n,?_,rfl⟩
  unfold qK at e
  split at e
  ·cases e;omega
  split at e
  ·cases e;omega
  cases e
theorem Jh:∀a b:Fin 16,bits .or .i64 ((a.val:Int)*16) (b.val:Int)=((16*a.val+b.val:Nat):Int):=by decide +kernel
def unA (s:ByteArray) (k i:Nat):Value:=if i<k then .int .u8 ((unB s i).toNat:Int) else .int .u8 0
theorem II (s:ByteArray) (k:Nat):upd (unA s k) k (.int .u8 ((unB s k).toNat:Int))=unA s (k+1):=by
 funext i
 unfold upd unA
 by_cases e:i=k
 ·rw [if_pos e,if_pos (by omega),e]
 rw [if_neg e]
 by_cases h:i<k
 ·rw [if_pos h,if_pos (by omega)]
 rw [if_neg h,if_neg (by omega)]
theorem KP (s:ByteArray):(List.range 32).map (unA s 32)=idC ((List.range 32).map (unB s)):=by
 unfold idC
 rw [List.map_map]
 refine List.map_congr_left fun i hi=> ?_
 unfold unA
 rw [if_pos (List.mem_range.1 hi)];rfl
theorem lQ (s:ByteArray) (w:World):Calls prog 108 #[.string s] w (mG s w):=by
 obtain ⟨V,Q⟩:=Bd
 have d:(idC zid).length=32:=by rw [aA,bR]
 have C:=ah (bC zid)
 obtain ⟨a,E⟩:∃a,idC zid=a:=⟨_,rfl⟩
 obtain ⟨W,M⟩:∃W,(w.alloc (.cells a.toArray 143)).alloc (.cells a.toArray 143)=W:=⟨_,rfl⟩
 have q:Below w.heap.size w (w.alloc (.cells a.toArray 143)):=bal
 have Z:Below w.heap.size w W:=by rw [←M];exact q.alloc (by simp) _
 have H:Hid (ak W w.heap.size 143 a):=ah (by rw [←M];exact (ak.new w 143 a).below bal)
 have T:Hid (ak W (w.heap.size+1) 143 a):=ah (by
  rw [←M]
  have:=ak.new (w.alloc (.cells a.toArray 143)) 143 a
  rwa [World.size_alloc] at this)
 have al:Hid (Arr W (w.heap.size+1) 32 (unA s 0)):=ah (by
  have h1:=T.out
  rw [←E] at h1
  refine ⟨fun k hk=> ?_,fun k hk=> ?_⟩
  ·have:=h1.range k (.int .u8 0) (by unfold idC zid;rw [List.getElem?_map,List.getElem?_replicate,if_pos hk];rfl)
   rw [Nat.zero_add] at this
   rw [this];unfold unA;rw [if_neg (by omega)]
  have:=(h1.there k (by rw [d];exact hk)).2
  rwa [Nat.zero_add] at this)
 rw [E] at V Q d C
 have G:=ah E
 have HW:=ah M
 have S:=ah Z
 have ae:Hid (W.heap.size=w.heap.size+2):=ah (by rw [←M];simp)
 have j:(prog.info? 143).map (·.size)=some 32:=by kernel_rfl
 have v:(prog.info? 143).map (·.size)=some a.length:=by rw [d];exact j
 clear M Z q E
 by_cases I:s.size=64
 ·have d0:((s.size:Int)==64)=true:=beq_iff_eq.2 (by omega)
  go_enter func108,ntmps108
  go_upto_region 2 with fail
  rw [HW.out]
  go_wp2_with fail
  go_loopw [5,6,7,12] (fun _ _ _ i wr=> ∃k:Nat,i= .int .i64 (k:Int)∧k≤32∧Hid (Arr wr (w.heap.size+1) 32 (unA s k))∧Hid (ak wr w.heap.size 143 a)∧Hid (∀(i:Nat) (hi:i<s.size),i<2*k→iT s[i] ≠ -1)∧Hid (Below w.heap.size w wr)) (fun _ _ _ i _=>(32-intOf i).toNat)
  case atStart=>exact ⟨0,rfl,by omega,al,H,ah (fun i _ h=>by omega),S⟩
  obtain ⟨wo,rfl⟩:∃wo:World,wo=wr:=⟨_,rfl⟩
  obtain ⟨k,rfl,hk,HA,HR,HD,HB⟩:=hrel
  by_cases ar:k<32
  ·have d1:decide ((k:Int)<32)=true:=decide_eq_true (by omega)
   have w1:IntKind.i64.wrap (2*(k:Int))=2*(k:Int):=by rw [IntKind.wrap_i64];omega
   have w2:IntKind.i64.wrap (2*(k:Int)+1)=2*(k:Int)+1:=by rw [IntKind.wrap_i64];omega
   obtain ⟨N,q⟩:∃b,s[2*k]'(by omega)=b:=⟨_,rfl⟩
   obtain ⟨O,y⟩:∃b,s[2*k+1]'(by omega)=b:=⟨_,rfl⟩
   have ap:∀w,(Instr.index 9 (.string s) (.int .i64 (2*(k:Int)))).run prog w= .ok (.int .u8 ((N.toNat:Nat):Int)) w:=fun w=>by
    have:=bV s w (2*k) (by omega)
    rw [←q]
    have e:(blk s (2*k))=s[2*k]'(by omega):=by unfold blk;rw [List.getD_eq_getElem?_getD,List.getElem?_eq_getElem (by simp;omega)];rfl
    rw [e,←kH] at this
    rw [←this];rfl
   have aq:∀w,(Instr.index 9 (.string s) (.int .i64 (2*(k:Int)+1))).run prog w= .ok (.int .u8 ((O.toNat:Nat):Int)) w:=fun w=>by
    have:=bV s w (2*k+1) (by omega)
    rw [←y]
    have e:(blk s (2*k+1))=s[2*k+1]'(by omega):=by unfold blk;rw [List.getD_eq_getElem?_getD,List.getElem?_eq_getElem (by simp;omega)];rfl
    rw [e,←kH] at this
    rw [←this];rfl
   have ag:Hid (∀n:Nat,iT N=(n:Int)→BI s.data.toList (2*k)=n):=ah (fun n h=>E9 (by omega) (by rw [q];exact h))
   have ac:Hid (∀n:Nat,iT O=(n:Int)→BI s.data.toList (2*k+1)=n):=ah (fun n h=>E9 (by omega) (by rw [y];exact h))
   have A:Hid (iT N= -1∨iT O= -1→iF s.data.toList=none):=ah (fun h=>h.elim (fun h=>wm (i:=2*k) (by omega) (by rw [q];exact h)) (fun h=>wm (i:=2*k+1) (by omega) (by rw [y];exact h)))
   have ao:Hid (iT N ≠ -1→iT O ≠ -1→ ∀(i:Nat) (hi:i<s.size),i<2*(k+1)→iT s[i] ≠ -1):=ah (fun h1 h2 i hi aw=>by
    by_cases e1:i=2*k
    ·subst e1;rw [q];exact h1
    by_cases e2:i=2*k+1
    ·subst e2;rw [y];exact h2
    exact HD.out i hi (by omega))
   clear q y
   go_upto_region 7 with fail
   refine wbq ?_
   repeat (go_big_quiet_step ((first|(go_at_call 174;with_reducible exact gT (Bj N _))|(go_at_call 174;with_reducible exact gT (Bj O _)))))
   refine wpQuiet_nil ?_
   intro Y f
   rcases uQ N with p|⟨n1,am,p⟩
   ·have HN:=ah (A.out (.inl p))
    rw [p]
    have x:=bth HB f
    have l:=HR.out.below f
    have r:=l.there
    rw [d] at r
    have J:=ah r
    have t:=(l.set (us:=a) rfl).range
    have L:Hid (mG s w (.returned (.tuple #[.agg a.toArray,.bool false])) (Y.setCells w.heap.size 0 a)):=ah (by
     rw [←G.out]
     exact sD HN.out (below_setCells (B:=w.heap.size) w.heap.size (Nat.le_refl _) _ 0 _ x.out))
    clear r l f
    go_wp2_with (refine aj rfl 143 _ _ rfl w.heap.size 0 a rfl rfl 32 d J.out j C.out ?_)
    exact aD rfl w.heap.size 0 rfl a _ t underlying143 rfl v rfl _ rfl L.out
   rcases uQ O with u|⟨n2,af,u⟩
   ·have HN:=ah (A.out (.inr u))
    have c1:decide ((n1:Int)<0)=false:=decide_eq_false (by omega)
    rw [p,u]
    have x:=bth HB f
    have l:=HR.out.below f
    have r:=l.there
    rw [d] at r
    have J:=ah r
    have t:=(l.set (us:=a) rfl).range
    have L:Hid (mG s w (.returned (.tuple #[.agg a.toArray,.bool false])) (Y.setCells w.heap.size 0 a)):=ah (by
     rw [←G.out]
     exact sD HN.out (below_setCells (B:=w.heap.size) w.heap.size (Nat.le_refl _) _ 0 _ x.out))
    clear r l f
    go_wp2_with (refine aj rfl 143 _ _ rfl w.heap.size 0 a rfl rfl 32 d J.out j C.out ?_)
    exact aD rfl w.heap.size 0 rfl a _ t underlying143 rfl v rfl _ rfl L.out
   have ai:=ah (ao.out (by rw [p];omega) (by rw [u];omega))
   have c1:decide ((n1:Int)<0)=false:=decide_eq_false (by omega)
   have c2:decide ((n2:Int)<0)=false:=decide_eq_false (by omega)
   have R:=ag.out n1 p
   have U:=ac.out n2 u
   have HU:Hid (unB s k=UInt8.ofNat (16*n1+n2)):=ah (by unfold unB;rw [R,U])
   rw [p,u]
   clear R U p u
   have ws:IntKind.i64.wrap ((n1:Int)*16)=(n1:Int)*16:=by rw [IntKind.wrap_i64];omega
   have ho:=Jh ⟨n1,am⟩ ⟨n2,af⟩
   dsimp only at ho
   have wu:IntKind.u8.wrap ((16*n1+n2:Nat):Int)=((unB s k).toNat:Int):=by rw [HU.out,wrap_u8',UInt8.toNat_ofNat'];omega
   obtain ⟨m,hm⟩:∃m,16*n1+n2=m:=⟨_,rfl⟩
   rw [hm] at ho wu
   have D:=HA.out.below f (by have:=HB.out.size;have:=ae.out;have:=HA.out.lt (by omega);omega)
   have l:=ah (HR.out.below f)
   have x:=bth HB f
   have f1:=D.cell k (by omega)
   have f2:=D.free k (by omega)
   obtain ⟨c,hc⟩:∃c,unB s k=c:=⟨_,rfl⟩
   have ad:Hid (Arr (Y.setCell ⟨w.heap.size+1,k,none⟩ (.int .u8 (c.toNat:Int))) (w.heap.size+1) 32 (unA s (k+1))):=ah (by rw [←II,hc];exact D.set k (by omega) _)
   have an:Hid (ak (Y.setCell ⟨w.heap.size+1,k,none⟩ (.int .u8 (c.toNat:Int))) w.heap.size 143 a):=ah (l.out.other (g:=w.heap.size+1) (o:=k) (us:=[.int .u8 (c.toNat:Int)]) (by omega))
   have ab:Hid (Below w.heap.size w (Y.setCell ⟨w.heap.size+1,k,none⟩ (.int .u8 (c.toNat:Int)))):=ah (below_setCells (B:=w.heap.size) (w.heap.size+1) (by omega) [.int .u8 (c.toNat:Int)] k _ x.out)
   rw [hc] at wu
   clear hm f D hc
   go_wp2_with fail
   go_roundw
   case rel=>exact ⟨k+1,by go_num,by omega,ad,an,ai,ab⟩
   case measure=>simp [intOf];omega
  obtain rfl:k=32:=by omega
  have d1:decide ((32:Int)<32)=false:=rfl
  have HG:=Cr I (fun i hi=>HD.out i hi (by omega))
  have X:wo.rangeAt (w.heap.size+1) 0 (idC ((List.range 32).map (unB s))):=by rw [←KP];exact HA.out.range
  have z:(idC ((List.range 32).map (unB s))).length=32:=by rw [aA];simp
  have P:=ah (bC ((List.range 32).map (unB s)))
  have aa:Hid (iQ s=(List.range 32).map (unB s)∧fT s=true):=ah (by unfold iQ fT;rw [HG];exact ⟨rfl,rfl⟩)
  obtain ⟨us,K⟩:∃us,idC ((List.range 32).map (unB s))=us:=⟨_,rfl⟩
  rw [K] at X z P
  have F:(prog.info? 143).map (·.size)=some us.length:=by rw [z];exact j
  have r:=HR.out.there
  rw [d] at r
  have J:=ah r
  have t:=(HR.out.set (us:=us) (by rw [z,d])).range
  have L:Hid (mG s w (.returned (.tuple #[.agg us.toArray,.bool true])) (wo.setCells w.heap.size 0 us)):=ah
   ⟨by rw [aa.out.1,aa.out.2,K],below_setCells (B:=w.heap.size) w.heap.size (Nat.le_refl _) _ 0 _ HB.out⟩
  clear r HG K
  go_wp2_with (first
   | (refine wpList_load_mid rfl 143 _ rfl (w.heap.size+1) 0 rfl us _ X underlying143 rfl F ?_)
   | (refine aj rfl 143 _ _ rfl w.heap.size 0 us rfl rfl 32 z J.out j P.out ?_))
  exact aD rfl w.heap.size 0 rfl us _ t underlying143 rfl F rfl _ rfl L.out
 have d0:((s.size:Int)==64)=false:=beq_eq_false_iff_ne.2 (by omega)
 have A:=ah (zR I)
 have hr:=T.out.range
 have r:=H.out.there
 rw [d] at r
 have J:=ah r
 have t:=(H.out.set (us:=a) rfl).range
 have L:Hid (mG s w (.returned (.tuple #[.agg a.toArray,.bool false])) (W.setCells w.heap.size 0 a)):=ah (by
  rw [←G.out]
  exact sD A.out (below_setCells (B:=w.heap.size) w.heap.size (Nat.le_refl _) _ 0 _ S.out))
 clear r I
 go_enter func108,ntmps108
 go_upto_region 2 with fail
 rw [HW.out]
 go_wp2_with (first
  | (refine wpList_load_mid rfl 143 _ rfl (w.heap.size+1) 0 rfl a _ hr underlying143 rfl v ?_)
  | (refine aj rfl 143 _ _ rfl w.heap.size 0 a rfl rfl 32 d J.out j C.out ?_))
 exact aD rfl w.heap.size 0 rfl a _ t underlying143 rfl v rfl _ rfl L.out
end
end Go.Proofs.YtejamhkgjkhjdaaGreatDoor
