/- A part of this claim. -/
import Derived.Test.YtlhcoanbhnphgaaGreatDoorShelf6
import Derived.Test.YtlhcoanbhnphgaaGreatDoorXm12
import Derived.Test.YtlhcoanbhnphgaaGreatDoorXm13
import Derived.Test.YtlhcoanbhnphgaaGreatDoorXm16
import Derived.Test.YtlhcoanbhnphgaaGreatDoorXm2
namespace Go.Proofs.YtlhcoanbhnphgaaGreatDoor
open Tryz
set_option maxHeartbeats 64000000
set_option maxRecDepth 100000
section
open Go.RowKit Go.Shelf
theorem jo (s:ByteArray) (w:World):Calls prog 128 #[.string s] w fun e w'=>e= .returned (.pointer (some ⟨w.heap.size,0,none⟩))∧w'=w.alloc (.cells #[.string s,.int .i64 0,.int .i64 0] 276):=by
 go_enter func128,ntmps128
 go_wp2
 go_ret
 exact ⟨rfl,by first|rfl|trivial⟩
theorem l9 (s:ByteArray) (w:World) (t:TypeId):Arr (w.alloc (.cells #[.string s,.int .i64 0,.int .i64 0] t)) w.heap.size 3 (Rd.mk s 0 0).c :=
 (Arr.ofList w [.string s,.int .i64 0,.int .i64 0] t).congr fun k a=>by
  have b:k<3:=a
  rcases (show k=0∨k=1∨k=2 by omega) with rfl|rfl|rfl<;>rfl
theorem Du {s:ByteArray} (h:s.size≤1000000):(Rd.mk s 0 0).fine:=⟨Nat.zero_le _,h,by show 0≤100;omega⟩
def xR:List UInt8:=[32,98,116,99]
def D8 (s:List UInt8):Int:=Lib.index xR (s.take 1)
theorem xY:∀c:Fin 256,(D8 [UInt8.ofNat c.val]=(oO (UInt8.ofNat c.val):Int))∨(oO (UInt8.ofNat c.val)=0∧D8 [UInt8.ofNat c.val]= -1):=by decide +kernel
theorem F6 (c:UInt8) (l:List UInt8):(D8 (c::l)=(oO c:Int))∨(oO c=0∧D8 (c::l)= -1):=by
 have h:=xY ⟨c.toNat,c.toNat_lt⟩
 have e:UInt8.ofNat c.toNat=c:=by simp
 simp only [e] at h
 exact h
def fr1 (s:ByteArray):Rd:=((Rd.mk s 0 0).raw 1).1
def frT (s:ByteArray):Rd×ByteArray:=(fr1 s).text 4096
def frK (s:ByteArray):Int:=Lib.index xR ((Rd.mk s 0 0).raw 1).2.data.toList
theorem Qo {s:ByteArray} (h:s.data.toList=[]):(frT s).1.fin≠0∧dW s.data.toList=none:=by
 have a:s.size=0:=by have:=congrArg List.length h;simpa using this
 have e:fr1 s=⟨s,0,3⟩:=by
  unfold fr1 Rd.raw
  rw [if_neg (by simp),if_pos (by show s.size-0<1;omega)]
 constructor
 ·unfold frT
  rw [e]
  unfold Rd.text
  rw [if_pos (by simp)]
  unfold Rd.fin
  rw [if_pos (by simp)]
  simp
 rw [h];rfl
theorem OU {s:ByteArray} {c:UInt8} {l:List UInt8} (h:s.data.toList=c::l):Behind 1 (fr1 s) (Rd.mk (ofB l) 0 0)∧frK s=D8 (c::l):=by
 have a:s.size=l.length+1:=by have:=congrArg List.length h;simpa using this
 have e:(Rd.mk s 0 0).raw 1=(⟨s,1,0⟩,s.extract 0 (0+1)):=by
  unfold Rd.raw
  rw [if_neg (by simp),if_neg (by show ¬s.size-0<1;omega)]
 unfold fr1 frK
 rw [e]
 refine ⟨⟨by show (ofB l).data.toList=s.data.toList.drop 1;rw [bq,h];rfl,rfl,rfl,by show 1≤s.size;omega⟩,?_⟩
 show Lib.index xR (s.extract 0 (0+1)).data.toList=_
 rw [kM,h];rfl
theorem Jo (s:ByteArray):dW s.data.toList=if (frT s).1.fin≠0 then none else if aB ⟨frK s,(frT s).2⟩=true then some ⟨frK s,(frT s).2⟩ else none:=by
 cases h:s.data.toList with
 | nil =>
  obtain ⟨h1,b⟩:=Qo h
  rw [h] at b
  rw [if_pos h1,b]
 | cons c l =>
  obtain ⟨h1,b⟩:=OU h
  obtain ⟨j,g⟩:=h1.text 4096
  have i:=j.fin
  unfold frT
  rw [i,g,b]
  unfold dW
  dsimp only
  rcases F6 c l with f|⟨f,e⟩
  ·rw [f]
   by_cases d:oO c=0
   ·rw [if_pos d]
    by_cases a:((Rd.mk (ofB l) 0 0).text 4096).1.fin≠0
    ·rw [if_pos a]
    rw [if_neg a,if_neg]
    rw [d]
    unfold aB
    simp
   rw [if_neg d]
  rw [if_pos f,e]
  by_cases a:((Rd.mk (ofB l) 0 0).text 4096).1.fin≠0
  ·rw [if_pos a]
  rw [if_neg a,if_neg]
  unfold aB
  simp
def Q5 (s:ByteArray) (w:World) (e:Ending) (w':World):Prop:=Below w.heap.size w w' ∧
 ((∃o,dW s.data.toList=some o∧e= .returned (.tuple #[.agg (obC o).toArray,.int .i64 0]))∨(dW s.data.toList=none∧e= .returned (.tuple #[.agg (obC ob0).toArray,.int .i64 2])))
theorem DK (s:ByteArray) (w:World) (hs:s.size≤1000000) (hm:uR w):Calls prog 136 #[.string s] w (Q5 s w):=by
 have aE:=ah (Jo s)
 obtain ⟨W,hW⟩:∃W,w.alloc (.cells #[.int .i64 0,.string ⟨#[]⟩] 33)=W:=⟨_,rfl⟩
 have V:Below w.heap.size w W:=by rw [←hW];exact bal
 have aq:Hid (ak W w.heap.size 33 [.int .i64 0,.string ⟨#[]⟩]):=ah (by rw [←hW];exact ak.new w 33 [.int .i64 0,.string ⟨#[]⟩])
 have ae:W.heap.size=w.heap.size+1:=by rw [←hW];simp
 have ap:=ah (jo s W)
 have U:=ah hm
 have HW:=ah hW
 have a0:=ah V
 have a8:=ah ae
 clear hW V hm
 go_enter func136,ntmps136
 go_upto_region 1 with fail
 rw [HW.out]
 go_wp2_with fail
 refine ap.out.mono ?_
 rintro e w1 ⟨rfl,rfl⟩
 obtain ⟨W1,u⟩:∃W1,W.alloc (.cells #[.string s,.int .i64 0,.int .i64 0] 276)=W1:=⟨_,rfl⟩
 have S:Arr W1 (w.heap.size+1) 3 (Rd.mk s 0 0).c:=by rw [←u,←ae];exact l9 s W _
 have K:Below W.heap.size W W1:=by rw [←u];exact bal
 rw [u]
 have ar:=ah (vU (w.heap.size+1) (Rd.mk s 0 0) 1 W1 S (Du hs) (by omega))
 have am:=ah (Rd.xB (Rd.mk s 0 0) 1 (Du hs))
 have ad:=bth a0 K
 have Z:=ah (aq.out.below K)
 clear u S K
 go_upto_region 2 with fail
 go_wp2_with fail
 refine ar.out.mono ?_
 rintro e Q ⟨rfl,af,I⟩
 have E:Hid (Below w.heap.size w Q):=ah (ad.out.grown I ad.out.size (fun k e=>by have:=Option.some.inj e;omega))
 have al:Hid (ak Q w.heap.size 33 [.int .i64 0,.string ⟨#[]⟩]):=ah (Z.out.kept I (fun e=>by have:=Option.some.inj e;omega))
 obtain ⟨m,ag⟩:=U.out.below E.out U.out.lt
 have ax:((Rd.mk s 0 0).raw 1).2.size≤1:=Rd.nA _ _
 have ai:=ah (Any.strings_Index (ρ:=Tryz.lays146_ren) { Tryz.lays146 with } ⟨#[32,98,116,99]⟩ ((Rd.mk s 0 0).raw 1).2 m Q (by show 4<4294967281;omega) ag)
 have HK:Hid (Lib.index (⟨#[32,98,116,99]⟩:ByteArray).data.toList ((Rd.mk s 0 0).raw 1).2.data.toList=frK s):=ah rfl
 have H:Hid (Calls prog 194 #[.pointer (some ⟨w.heap.size+1,0,none⟩),.int .i64 4096] Q fun e w'=>e= .returned (.string (frT s).2)∧Arr w' (w.heap.size+1) 3 (frT s).1.c∧Q.grownBy w' (some (w.heap.size+1))):=ah (kT (w.heap.size+1) _ 4096 Q af am.out (by omega))
 have L:Hid ((frT s).1.fine):=ah (Rd.dI _ 4096 am.out)
 obtain ⟨a,D⟩:∃a,frK s=a:=⟨_,rfl⟩
 obtain ⟨T,hT⟩:∃T,frT s=T:=⟨_,rfl⟩
 rw [hT] at H L
 rw [D] at HK
 have h:Hid (dW s.data.toList=if T.1.fin≠0 then none else if aB ⟨a,T.2⟩=true then some ⟨a,T.2⟩ else none):=ah (by rw [←hT,←D];exact aE.out)
 obtain ⟨R,b⟩:=T
 dsimp only at H L h
 obtain ⟨a7,A⟩:∃r,((Rd.mk s 0 0).raw 1).2=r:=⟨_,rfl⟩
 rw [A] at ai HK ax ⊢
 clear I af ag D hT A
 go_wp2_with fail
 refine ai.out.mono ?_
 rintro e w3 ⟨rfl,rfl⟩
 rw [HK.out]
 go_wp2_with fail
 refine H.out.mono ?_
 rintro e w4 ⟨rfl,J,N⟩
 have a2:Hid (Below w.heap.size w w4):=ah (E.out.grown N E.out.size (fun k e=>by have:=Option.some.inj e;omega))
 have z:Hid (ak w4 w.heap.size 33 [.int .i64 0,.string ⟨#[]⟩]):=ah (al.out.kept N (fun e=>by have:=Option.some.inj e;omega))
 obtain ⟨W5,t⟩:∃W5,w4.alloc (.cells #[.int .i64 a,.string b] 33)=W5:=⟨_,rfl⟩
 have x:Below w4.heap.size w4 W5:=by rw [←t];exact bal
 have ao:Hid (ak W5 w4.heap.size 33 [.int .i64 a,.string b]):=ah (by rw [←t];exact ak.new _ _ _)
 have Y:=J.below x (J.lt (by omega))
 have an:=ah (jL (w.heap.size+1) R W5 Y L.out)
 have aw:=bth a2 x
 have ab:=ah (z.out.below x)
 have a1:=ah t
 have a5:Hid (w.heap.size<w4.heap.size):=ah z.out.lt
 clear N J t x Y
 go_upto_region 3 with fail
 rw [a1.out]
 go_wp2_with fail
 refine an.out.mono ?_
 rintro e w6 ⟨rfl,y⟩
 have O:=bth aw y
 have g:=ah (ab.out.below y)
 have aa:=ah (ao.out.below y)
 have i:(prog.info? 33).map (·.size)=some [Value.int .i64 a,.string b].length:=by kernel_rfl
 have G:(prog.info? 33).map (·.size)=some 2:=by kernel_rfl
 have o:=aa.out.range
 have q:=ah (xM a b w6)
 clear y
 have X:Hid (∀v∈[Value.int .i64 0,.string ⟨#[]⟩],v.oneCell'=true):=ah (fun v M=>by
  rcases List.mem_cons.1 M with rfl|M
  ·rfl
  rw [List.mem_singleton.1 M];rfl)
 have ac:Hid (∀v∈[Value.int .i64 a,.string b],v.oneCell'=true):=ah (fun v M=>by
  rcases List.mem_cons.1 M with rfl|M
  ·rfl
  rw [List.mem_singleton.1 M];rfl)
 by_cases C:R.fin=0
 ·have az:((R.fin:Int)==0)=true:=beq_iff_eq.2 (by omega)
  have a6:(R.fin:Int)=0:=by omega
  cases j:aB ⟨a,b⟩ with
  | true =>
   rw [j] at q
   have a3:Hid (dW s.data.toList=some ⟨a,b⟩):=ah (by rw [h.out,if_neg (by omega),if_pos j])
   clear j
   go_wp2_with (refine aX rfl 33 _ rfl w4.heap.size 0 rfl [.int .i64 a,.string b] _ o underlying33 rfl i ?_)
   refine q.out.mono ?_
   rintro e w7 ⟨rfl,d⟩
   have F:=bth O d
   have f:=g.out.below d
   have a4:=(aa.out.below d).range
   have l:=ah f.there
   have p:=(f.set (us:=[.int .i64 a,.string b]) rfl).range
   have n:=ah (below_setCells (B:=w.heap.size) w.heap.size (Nat.le_refl _) [.int .i64 a,.string b] 0 _ F.out)
   clear d o f
   go_wp2_with (first
    | (refine wpList_load_mid rfl 33 _ rfl w4.heap.size 0 rfl [.int .i64 a,.string b] _ a4 underlying33 rfl i ?_)
    | (refine aj rfl 33 _ _ rfl w.heap.size 0 [.int .i64 a,.string b] rfl rfl 2 rfl l.out G ac.out ?_))
   exact aP rfl w.heap.size 0 rfl _ _ p underlying33 rfl i rfl _ rfl ⟨n.out,.inl ⟨_,a3.out,rfl⟩⟩
  | false =>
   rw [j] at q
   have P:Hid (dW s.data.toList=none):=ah (by rw [h.out,if_neg (by omega),if_neg (by rw [j];simp)])
   clear j
   go_wp2_with (refine aX rfl 33 _ rfl w4.heap.size 0 rfl [.int .i64 a,.string b] _ o underlying33 rfl i ?_)
   refine q.out.mono ?_
   rintro e w7 ⟨rfl,d⟩
   have F:=bth O d
   have f:=g.out.below d
   have l:=ah f.there
   have p:=(f.set (us:=[.int .i64 0,.string ⟨#[]⟩]) rfl).range
   have n:=ah (below_setCells (B:=w.heap.size) w.heap.size (Nat.le_refl _) [.int .i64 0,.string ⟨#[]⟩] 0 _ F.out)
   clear d o f
   go_wp2_with (refine aj rfl 33 _ _ rfl w.heap.size 0 [.int .i64 0,.string ⟨#[]⟩] rfl rfl 2 rfl l.out G X.out ?_)
   exact aP rfl w.heap.size 0 rfl _ _ p underlying33 rfl i rfl _ rfl ⟨n.out,.inr ⟨P.out,rfl⟩⟩
 have az:((R.fin:Int) != 0)=true:=bne_iff_ne.2 (by omega)
 have P:Hid (dW s.data.toList=none):=ah (by rw [h.out,if_pos C])
 have l:=ah g.out.there
 have p:=(g.out.set (us:=[.int .i64 0,.string ⟨#[]⟩]) rfl).range
 have n:=ah (below_setCells (B:=w.heap.size) w.heap.size (Nat.le_refl _) [.int .i64 0,.string ⟨#[]⟩] 0 _ O.out)
 clear o C
 go_wp2_with (refine aj rfl 33 _ _ rfl w.heap.size 0 [.int .i64 0,.string ⟨#[]⟩] rfl rfl 2 rfl l.out G X.out ?_)
 exact aP rfl w.heap.size 0 rfl _ _ p underlying33 rfl i rfl _ rfl ⟨n.out,.inr ⟨P.out,rfl⟩⟩
end
section
open Go.RowKit Fl
@[go_sem] theorem run_store_complex8 {P:Program} (w:World) (a:Addr) (m:Mode) (k:FloatKind) (x y:Nat):(store a (.complex k x y) m).run P w=stored P w a (.complex k x y) m:=run_store P w a _ m rfl
theorem ak.put {W:World} {b:Nat} {t:TypeId} {cs:List Value} (h:ak W b t cs) (i:Nat) (v:Value):ak (W.setCell ⟨b,i,none⟩ v) b t (cs.set i v):=by
 obtain ⟨d,e⟩:=Array.getElem?_eq_some_iff.1 h
 show (W.heap.modify b _)[b]? = _
 rw [Array.getElem?_eq_getElem (by rw [Array.size_modify];exact d),Array.getElem_modify_self,e]
 simp
end
section
open Go.RowKit
section
variable {B:Nat} {E1 E2:TypeId} {s1 s2:Nat} {wz W W':World} {v1 v1':Value} {n1 n1':Nat} {x1 x1':List Value} {v2 v2':Value} {n2 n2':Nat} {x2 x2':List Value} {q1 q2:Option (Nat × List Value)}
end
theorem zU (r:Rd) (a:Nat):(r.text a).2.size≤a:=by
 unfold Rd.text
 split
 ·exact Nat.zero_le _
 split
 ·exact Nat.zero_le _
 exact Nat.le_trans (Rd.nA _ _) (Qi _ _)
structure eP (w:World):Prop where
 laid:Laid w
 max:uR w
 crc:Crc w
 ord:w.rangeAt 0 0 [.string iA,.string mF,.string wW]
theorem eP.jX {w w':World} {B:Nat} (h:eP w) (hb:Below B w w') (a:5≤B):eP w':=by
 have b:=h.laid.lt
 have d:=hb.size
 exact ⟨⟨ay h.laid.rounds hb (by omega),ay h.laid.first hb (by omega),by omega⟩,h.max.below hb (by omega),⟨ay h.crc.row hb (by omega),by have:=h.crc.lt;omega⟩,ay h.ord hb (by omega)⟩
theorem eP.below {w w':World} (h:eP w) (hb:Below w.heap.size w w'):eP w':=h.jX hb h.laid.lt
section
variable {ks:List Nat} {B:Nat} {E1 E2:TypeId} {s1 s2:Nat} {wz W W':World} {v1 v1':Value} {n1 n1':Nat} {x1 x1':List Value} {v2 v2':Value} {n2 n2':Nat} {x2 x2':List Value} {y1 y2:Option (Nat × List Value)}
end
theorem BL {s:List UInt8} {o:Ob} (h:dW s=some o):aB o=true:=by
 unfold dW at h
 split at h
 ·cases h
 split at h
 ·cases h
 split at h
 ·cases h
 split at h
 ·rename_i a;cases h;exact a
 cases h
theorem gL:(prog.info? 33).map (·.size)=some 2:=by decide +kernel
theorem OL:(prog.info? 42).map (·.size)=some 32:=by kernel_rfl
theorem nV (o:Ob):∀v∈obC o,v.oneCell'=true:=by
 intro v a
 unfold obC at a
 simp at a
 rcases a with rfl|rfl<;>rfl
theorem Ak (l p:List UInt8):Lib.hasPrefix l p=decide (l.take p.length=p):=by
 unfold Lib.hasPrefix
 rw [Bool.eq_iff_iff,decide_eq_true_iff,List.isPrefixOf_iff_prefix,List.prefix_iff_eq_take]
 exact eq_comm
def cpO (s:ByteArray):ByteArray:=⟨(Lib.trimPrefix s.data.toList nk).toArray⟩
theorem NA (s:ByteArray) (w:World):Calls prog 135 #[.string s,.string ⟨#[83,76,79,49]⟩] w fun e w'=>e= .returned (.tuple #[.string (cpO s),.bool (decide (s.data.toList.take 4=nk))])∧w'=w:=by
 have h:=Any.strings_CutPrefix Tryz.lays103 s ⟨#[83,76,79,49]⟩ w
 have e:=Ak s.data.toList nk
 rw [show nk.length=4 from rfl] at e
 rw [←e]
 exact h
theorem NC (s:ByteArray):(cpO s).size≤s.size:=by
 have e:(cpO s).size=(Lib.trimPrefix s.data.toList nk).length:=by unfold cpO;simp [ByteArray.size]
 rw [e]
 unfold Lib.trimPrefix
 have:s.data.toList.length=s.size:=by simp
 split
 ·rw [List.length_drop];omega
 omega
theorem ND {s:ByteArray} (h:s.data.toList.take 4=nk):(cpO s).data.toList=s.data.toList.drop 4:=by
 have a:Lib.hasPrefix s.data.toList nk=true:=by rw [Ak];exact decide_eq_true h
 unfold cpO Lib.trimPrefix
 rw [if_pos a]
 rfl
theorem F4 (b:ByteArray):JZ b=if (oD b&&decide ((unS b).data.toList.take 4=nk))=true then dW (cpO (unS b)).data.toList else none:=by
 unfold JZ
 cases hu:gK b.data.toList with
 | none =>
  have e:oD b=false:=by unfold oD;rw [hu];rfl
  rw [e,Bool.false_and,if_neg (by decide)]
 | some l =>
  have d:unS b=ofB l:=by unfold unS;rw [hu];rfl
  have e:oD b=true:=by unfold oD;rw [hu];rfl
  have a:(ofB l).data.toList=l:=by simp [ofB]
  dsimp only
  by_cases h:l.take 4=nk
  ·rw [if_pos h,e,Bool.true_and,if_pos (decide_eq_true (by rw [d,a];exact h)),ND (by rw [d,a];exact h),d,a]
  rw [if_neg h,if_neg (fun x=>h (by rw [e,Bool.true_and] at x;have:=of_decide_eq_true x;rwa [d,a] at this))]
def Iz (nm b:ByteArray) (w:World) (e:Ending) (w':World):Prop :=
 (match mK nm b with
 | none=>e= .returned (.tuple #[.agg #[.int .i64 0,.string ⟨#[]⟩],.bool false])
 | some o=>e= .returned (.tuple #[.agg (obC o).toArray,.bool true]))∧Below w.heap.size w w'
theorem qP {nm b:ByteArray} {w w':World} (h:mK nm b=none) (hb:Below w.heap.size w w'):Iz nm b w (.returned (.tuple #[.agg #[.int .i64 0,.string ⟨#[]⟩],.bool false])) w':=⟨by rw [h],hb⟩
theorem JR {nm b:ByteArray} {o:Ob} {c:List Value} {w w':World} (h:mK nm b=some o) (a:obC o=c) (hb:Below w.heap.size w w'):Iz nm b w (.returned (.tuple #[.agg c.toArray,.bool true])) w':=⟨by rw [h,←a],hb⟩
theorem FQ (w:World):(Instr.build 33 #[]).run prog w= .ok (.agg #[.int .i64 0,.string ⟨#[]⟩]) w:=run_build w 33 _ _ (by kernel_rfl)
theorem JQ (nm b:ByteArray) (w:World) (hb:b.size≤1000000) (hG:eP w):Calls prog 76 #[.string nm,.string b] w (Iz nm b w):=by
 have br:=FQ
 obtain ⟨zi,j0,ji,bs,bp,bo,bn,aq⟩:=eu
 have aE:=ah aq
 obtain ⟨W0,R⟩:∃W,w.alloc (.cells #[.int .i64 0,.string ⟨#[]⟩] 33)=W:=⟨_,rfl⟩
 have a6:Hid (ak W0 w.heap.size 33 [.int .i64 0,.string ⟨#[]⟩]):=ah (by rw [←R];exact ak.new w 33 [.int .i64 0,.string ⟨#[]⟩])
 have ap:Hid (Below w.heap.size w W0):=ah (by rw [←R];exact bal)
 have HG:=ah hG
 have P:=ah (wE b W0 (hG.below ap.out).crc (by omega))
 have ar:=ah (F4 b)
 have bi:(unS b).size≤1000000:=by
  unfold unS
  cases hu:gK b.data.toList with
  | none=>exact Nat.zero_le _
  | some l =>
   show (ofB l).size≤_
   rw [aR]
   unfold gK at hu
   split at hu
   ·cases hu
    rw [List.length_take]
    have:b.data.toList.length=b.size:=by simp
    omega
   cases hu
 have an:=NC (unS b)
 have L:=ah (NA (unS b))
 have A:Hid (mK nm b=match JZ b with|none=>none|some o=>if ofB (bY (idO o))=nm then some o else none):=ah rfl
 rw [ar.out] at A
 have a8:=ah R
 clear R hG hb ar
 obtain ⟨p,hp⟩:∃p,decide ((unS b).data.toList.take 4=nk)=p:=⟨_,rfl⟩
 rw [hp] at L A
 clear hp
 generalize cpO (unS b)=s at L A an
 generalize unS b=us at P L an bi
 generalize oD b=u at P A
 go_enter func76,ntmps76
 go_upto_region 1 with fail
 rw [a8.out]
 go_wp2_with fail
 refine P.out.mono ?_
 rintro e w1 ⟨rfl,ag⟩
 have a7:=ah (a6.out.below ag)
 have ae:=bth ap ag
 clear ag P
 go_wp2_with fail
 refine (L.out w1).mono ?_
 rintro e bf ⟨rfl,rfl⟩
 have be:=ah (DK s bf (by omega) (HG.out.below ae.out).max)
 clear L
 go_wp2_with fail
 refine be.out.mono ?_
 rintro e w3 C
 have a4:=ah (a7.out.below C.1)
 have bk:=ah (ae.out.trans (C.1.mono ae.out.size))
 obtain ⟨o,c,rfl,a1⟩:∃(o:Ob) (c:Nat),e= .returned (.tuple #[.agg (obC o).toArray,.int .i64 (c:Int)])∧((c=0∧dW s.data.toList=some o)∨(c=2∧dW s.data.toList=none)):=by
  rcases C.2 with ⟨o,h1,h2⟩|⟨h1,h2⟩
  ·exact ⟨o,0,h2,.inl ⟨rfl,h1⟩⟩
  exact ⟨ob0,2,h2,.inr ⟨rfl,h1⟩⟩
 have al:=ah a1
 clear C a1
 have a5:=ah (there_alloc (n:=2) w3 #[.int .i64 0,.string ⟨#[]⟩] 33 rfl)
 have D:=ah gL
 obtain ⟨W4,S⟩:∃W,(w3.alloc (.cells #[.int .i64 0,.string ⟨#[]⟩] 33)).setCells w3.heap.size 0 (obC o)=W:=⟨_,rfl⟩
 have J:Hid (ak W4 w3.heap.size 33 (obC o)):=ah (by rw [←S];exact (ak.new w3 33 [.int .i64 0,.string ⟨#[]⟩]).set rfl)
 have ac:Below w3.heap.size w3 W4:=by rw [←S];exact below_setCells _ (Nat.le_refl _) _ _ _ bal
 have ba:=ah (a4.out.below ac)
 have a2:=bth bk ac
 have E:=ah (show Calls prog 51 #[.agg (obC o).toArray] W4 (rU o.kind o.body W4) from BQ o.kind o.body W4 (HG.out.below a2.out).laid)
 unfold rU at E
 have af:=J.out.range
 have ad:(prog.info? 33).map (·.size)=some (obC o).length:=gL
 have K:=ah (nV o)
 have q:Hid ((obC o).length=2):=ah rfl
 have M:Hid (dW s.data.toList=some o→aB ⟨o.kind,o.body⟩=true):=ah fun h=>BL h
 have a3:=ah S
 obtain ⟨y,hy⟩:∃y,(if aB ⟨o.kind,o.body⟩=true then idO ⟨o.kind,o.body⟩ else zid)=y:=⟨_,rfl⟩
 have ab:Hid (y.length=32):=ah (by
  rw [←hy]
  split
  ·exact fC _
  exact aV)
 rw [hy] at E
 have HY:Hid (dW s.data.toList=some o→y=idO o):=ah fun h=>by rw [←hy,if_pos (M.out h)]
 obtain ⟨ok,Y⟩:∃ok,aB ⟨o.kind,o.body⟩=ok:=⟨_,rfl⟩
 rw [Y] at E M
 clear S hy Y ac
 generalize ao:obC o=co at af ad K q a3 E J ⊢
 have bb:=ah ao
 clear ao
 go_upto_region 4 with (refine aj rfl 33 _ _ rfl w3.heap.size 0 co rfl rfl 2 q.out a5.out D.out K.out ?_;rw [a3.out])
 go_wp2_with (refine wpList_load_mid rfl 33 _ rfl w3.heap.size 0 rfl co _ af underlying33 rfl ad ?_)
 refine E.out.mono ?_
 rintro e w5 ⟨rfl,T⟩
 have bh:=ah (ba.out.below T)
 have bd:=bth a2 T
 have ax:=ah (J.out.below T)
 clear T af E
 have bm:=ah (there_alloc (n:=32) w5 zi 42 aE.out)
 have bc:=ah OL
 have H:Hid ((idC y).length=32∧ ∀v∈idC y,v.oneCell'=true):=ah ⟨by rw [av,ab.out],aJ y⟩
 obtain ⟨Q,U⟩:∃W,(w5.alloc (.cells zi 42)).setCells w5.heap.size 0 (idC y)=W:=⟨_,rfl⟩
 have aa:Hid (ak Q w5.heap.size 42 (idC y)):=ah (by rw [←U];exact ak.set (cs:=zi.toList) (by have:=ak.new w5 42 zi.toList;simpa using this) (by rw [H.out.1];simpa using aE.out.symm))
 have X:Below w5.heap.size w5 Q:=by rw [←U];exact below_setCells _ (Nat.le_refl _) _ _ _ bal
 have r:=ah (bh.out.below X)
 have O:=bth bd X
 have aw:=ah (ax.out.below X)
 have ai:=ah (nY y ab.out Q)
 have G:=dZ H.out.1
 have r6:=aa.out.range
 have az:=ah U
 clear U X
 generalize bj:idC y=ci at H az aa ai G r6
 clear bj
 go_upto_region 5 with (refine aj rfl 42 _ _ rfl w5.heap.size 0 ci rfl rfl 32 H.out.1 bm.out bc.out H.out.2 ?_;rw [az.out])
 cases u with
 | false =>
  have z:Hid (mK nm b=none):=ah (by rw [A.out,Bool.false_and,if_neg (by decide)])
  clear r6 G
  go_upto_region 6 with fail
  have f:Q.there w.heap.size 0 2:=r.out.there
  have k:(prog.info? 33).map (·.size)=some ([.int .i64 0,.string ⟨#[]⟩]:List Value).length:=gL
  obtain ⟨d,a⟩:∃d,Q.setCells w.heap.size 0 [.int .i64 0,.string ⟨#[]⟩]=d:=⟨_,rfl⟩
  have i:Hid (ak d w.heap.size 33 [.int .i64 0,.string ⟨#[]⟩]):=ah (by rw [←a];exact r.out.set rfl)
  have g:Hid (Below w.heap.size w d):=ah (by rw [←a];exact below_setCells _ (Nat.le_refl _) _ _ _ O.out)
  have j:=ah a
  clear a
  go_wp2_with (refine aj rfl 33 _ _ rfl w.heap.size 0 [.int .i64 0,.string ⟨#[]⟩] rfl rfl 2 rfl f D.out (by intro v I;simp at I;rcases I with rfl|rfl<;>rfl) ?_;rw [j.out])
  have m:=i.out.range
  (try simp only [Exit.inBlock,Exit.then])
  refine aP rfl w.heap.size 0 rfl [.int .i64 0,.string ⟨#[]⟩] _ m underlying33 rfl k rfl _ rfl ?_
  exact qP z.out g.out
 | true =>
  cases p with
  | false =>
   have z:Hid (mK nm b=none):=ah (by rw [A.out,Bool.true_and,if_neg (by decide)])
   clear r6 G
   go_upto_region 6 with fail
   have f:Q.there w.heap.size 0 2:=r.out.there
   have k:(prog.info? 33).map (·.size)=some ([.int .i64 0,.string ⟨#[]⟩]:List Value).length:=gL
   obtain ⟨d,a⟩:∃d,Q.setCells w.heap.size 0 [.int .i64 0,.string ⟨#[]⟩]=d:=⟨_,rfl⟩
   have i:Hid (ak d w.heap.size 33 [.int .i64 0,.string ⟨#[]⟩]):=ah (by rw [←a];exact r.out.set rfl)
   have g:Hid (Below w.heap.size w d):=ah (by rw [←a];exact below_setCells _ (Nat.le_refl _) _ _ _ O.out)
   have j:=ah a
   clear a
   go_wp2_with (refine aj rfl 33 _ _ rfl w.heap.size 0 [.int .i64 0,.string ⟨#[]⟩] rfl rfl 2 rfl f D.out (by intro v I;simp at I;rcases I with rfl|rfl<;>rfl) ?_;rw [j.out])
   have m:=i.out.range
   (try simp only [Exit.inBlock,Exit.then])
   refine aP rfl w.heap.size 0 rfl [.int .i64 0,.string ⟨#[]⟩] _ m underlying33 rfl k rfl _ rfl ?_
   exact qP z.out g.out
  | true =>
   have Z:Hid (mK nm b=match dW s.data.toList with|none=>none|some o=>if ofB (bY (idO o))=nm then some o else none):=ah (by rw [A.out,Bool.true_and,if_pos rfl])
   rcases al.out with ⟨rfl,x⟩|⟨rfl,x⟩
   ·have B:Hid (mK nm b=if ofB (bY y)=nm then some o else none):=ah (by rw [Z.out,x,HY.out x])
    have Y:=M.out x
    subst Y
    have f0:((ofB (bY y)).toList != nm.toList)= !decide (ofB (bY y)=nm):=by rw [bne,yX]
    clear x M HY al
    go_wp2_with (refine aX rfl 42 _ rfl w5.heap.size 0 rfl ci _ r6 underlying42 rfl G ?_)
    refine ai.out.mono ?_
    rintro e w7 ⟨rfl,V⟩
    have N:=ah (r.out.below V)
    have am:=bth O V
    have a0:=ah (aw.out.below V)
    clear V r6 G ai
    by_cases F:ofB (bY y)=nm
    ·have f1:((ofB (bY y)).toList==nm.toList)=true:=by rw [yX,decide_eq_true F]
     clear f0
     have a9:Hid (mK nm b=some o):=ah (by rw [B.out,if_pos F])
     clear F B
     generalize ofB (bY y)=t at f1
     have f:w7.there w.heap.size 0 2:=N.out.there
     have k:(prog.info? 33).map (·.size)=some (co:List Value).length:=by rw [q.out];exact gL
     obtain ⟨d,a⟩:∃d,w7.setCells w.heap.size 0 co=d:=⟨_,rfl⟩
     have i:Hid (ak d w.heap.size 33 co):=ah (by rw [←a];exact N.out.set (by rw [q.out];rfl))
     have g:Hid (Below w.heap.size w d):=ah (by rw [←a];exact below_setCells _ (Nat.le_refl _) _ _ _ am.out)
     have j:=ah a
     clear a
     have r7:=a0.out.range
     go_wp2_with (first
      | refine wpList_load_mid rfl 33 _ rfl w3.heap.size 0 rfl co _ r7 underlying33 rfl ad ?_
      | (refine aj rfl 33 _ _ rfl w.heap.size 0 co rfl rfl 2 q.out f D.out K.out ?_;rw [j.out]))
     have m:=i.out.range
     (try simp only [Exit.inBlock,Exit.then])
     refine aP rfl w.heap.size 0 rfl co _ m underlying33 rfl k rfl _ rfl ?_
     exact JR a9.out bb.out g.out
    have f1:((ofB (bY y)).toList==nm.toList)=false:=by rw [yX,decide_eq_false F]
    clear f0
    have z:Hid (mK nm b=none):=ah (by rw [B.out,if_neg F])
    clear F B
    generalize ofB (bY y)=t at f1
    go_upto_region 6 with fail
    have f:w7.there w.heap.size 0 2:=N.out.there
    have k:(prog.info? 33).map (·.size)=some ([.int .i64 0,.string ⟨#[]⟩]:List Value).length:=gL
    obtain ⟨d,a⟩:∃d,w7.setCells w.heap.size 0 [.int .i64 0,.string ⟨#[]⟩]=d:=⟨_,rfl⟩
    have i:Hid (ak d w.heap.size 33 [.int .i64 0,.string ⟨#[]⟩]):=ah (by rw [←a];exact N.out.set rfl)
    have g:Hid (Below w.heap.size w d):=ah (by rw [←a];exact below_setCells _ (Nat.le_refl _) _ _ _ am.out)
    have j:=ah a
    clear a
    go_wp2_with (refine aj rfl 33 _ _ rfl w.heap.size 0 [.int .i64 0,.string ⟨#[]⟩] rfl rfl 2 rfl f D.out (by intro v I;simp at I;rcases I with rfl|rfl<;>rfl) ?_;rw [j.out])
    have m:=i.out.range
    (try simp only [Exit.inBlock,Exit.then])
    refine aP rfl w.heap.size 0 rfl [.int .i64 0,.string ⟨#[]⟩] _ m underlying33 rfl k rfl _ rfl ?_
    exact qP z.out g.out
   have z:Hid (mK nm b=none):=ah (by rw [Z.out,x])
   clear r6 G x
   go_upto_region 6 with fail
   have f:Q.there w.heap.size 0 2:=r.out.there
   have k:(prog.info? 33).map (·.size)=some ([.int .i64 0,.string ⟨#[]⟩]:List Value).length:=gL
   obtain ⟨d,a⟩:∃d,Q.setCells w.heap.size 0 [.int .i64 0,.string ⟨#[]⟩]=d:=⟨_,rfl⟩
   have i:Hid (ak d w.heap.size 33 [.int .i64 0,.string ⟨#[]⟩]):=ah (by rw [←a];exact r.out.set rfl)
   have g:Hid (Below w.heap.size w d):=ah (by rw [←a];exact below_setCells _ (Nat.le_refl _) _ _ _ O.out)
   have j:=ah a
   clear a
   go_wp2_with (refine aj rfl 33 _ _ rfl w.heap.size 0 [.int .i64 0,.string ⟨#[]⟩] rfl rfl 2 rfl f D.out (by intro v I;simp at I;rcases I with rfl|rfl<;>rfl) ?_;rw [j.out])
   have m:=i.out.range
   (try simp only [Exit.inBlock,Exit.then])
   refine aP rfl w.heap.size 0 rfl [.int .i64 0,.string ⟨#[]⟩] _ m underlying33 rfl k rfl _ rfl ?_
   exact qP z.out g.out
def wG (s:ByteArray):List UInt8:=(iX s.data.toList).getD zid
def wF (s:ByteArray):Bool:=(iX s.data.toList).isSome
def yZ (s:ByteArray) (w:World) (e:Ending) (w':World):Prop:=e= .returned (.tuple #[.agg (idC (wG s)).toArray,.bool (wF s)])∧Below w.heap.size w w'
theorem Li (s:ByteArray):(wG s).length=32:=by
 unfold wG iX
 split
 ·simp
 exact aV
theorem wH {s:ByteArray} {w w':World} (h:iX s.data.toList=none) (hb:Below w.heap.size w w'):yZ s w (.returned (.tuple #[.agg (idC zid).toArray,.bool false])) w':=⟨by unfold wG wF;rw [h];rfl,hb⟩
theorem CV {s:ByteArray} (h:s.size≠64):iX s.data.toList=none:=by
 unfold iX
 rw [if_neg (fun x=>h (by have:=x.1;simpa using this))]
theorem zT {s:ByteArray} {i:Nat} (h:i<s.size) (hd:kr s[i]= -1):iX s.data.toList=none:=by
 unfold iX
 rw [if_neg]
 rintro ⟨_,a⟩
 rw [List.all_eq_true] at a
 have b:=a s[i] (List.mem_iff_getElem.2 ⟨i,by simpa using h,rfl⟩)
 unfold kr at hd
 cases e:lJ s[i] with
 | none=>rw [e] at b;cases b
 | some n =>
  rw [e] at hd
  have a:(n:Int)= -1:=hd
  omega
def unB (s:ByteArray) (i:Nat):UInt8:=UInt8.ofNat (16*vC s.data.toList (2*i)+vC s.data.toList (2*i+1))
theorem EZ {s:ByteArray} (h:s.size=64) (hd:∀(i:Nat) (hi:i<s.size),kr s[i] ≠ -1):iX s.data.toList=some ((List.range 32).map (unB s)):=by
 unfold iX
 rw [if_pos]
 ·rfl
 refine ⟨by simpa using h,List.all_eq_true.2 fun x hx=> ?_⟩
 obtain ⟨i,hi,rfl⟩:=List.mem_iff_getElem.1 hx
 have a:i<s.size:=by simpa using hi
 have:=hd i a
 unfold kr at this
 cases e:lJ s[i] with
 | none=>rw [e] at this;exact absurd rfl this
 | some n=>exact (congrArg Option.isSome e)
theorem Ih {s:ByteArray} {i n:Nat} (h:i<s.size) (hd:kr s[i]=(n:Int)):vC s.data.toList i=n:=by
 have b:s.data.toList.getD i 0=s[i]:=by
  rw [List.getD_eq_getElem?_getD,List.getElem?_eq_getElem (by simpa using h)];rfl
 unfold vC
 rw [b]
 unfold kr at hd
 cases e:lJ s[i] with
 | none =>
  rw [e] at hd
  have a:(-1:Int)=n:=hd
  omega
 | some m =>
  rw [e] at hd
  have a:(m:Int)=n:=hd
  show m=n
  omega
theorem yK (b:UInt8):kr b= -1∨ ∃n:Nat,n<16∧kr b=(n:Int):=by
 unfold kr
 cases e:lJ b with
 | none=>exact .inl rfl
 | some n =>
  refine .inr ⟨n,?_,rfl⟩
  unfold lJ at e
  split at e
  ·cases e;omega
  split at e
  ·cases e;omega
  cases e
theorem Mi:∀a b:Fin 16,bits .or .i64 ((a.val:Int)*16) (b.val:Int)=((16*a.val+b.val:Nat):Int):=by decide +kernel
def unA (s:ByteArray) (k i:Nat):Value:=if i<k then .int .u8 ((unB s i).toNat:Int) else .int .u8 0
theorem Lj (s:ByteArray) (k:Nat):upd (unA s k) k (.int .u8 ((unB s k).toNat:Int))=unA s (k+1):=by
 funext i
 unfold upd unA
 by_cases e:i=k
 ·rw [if_pos e,if_pos (by omega),e]
 rw [if_neg e]
 by_cases h:i<k
 ·rw [if_pos h,if_pos (by omega)]
 rw [if_neg h,if_neg (by omega)]
theorem Oh (s:ByteArray):(List.range 32).map (unA s 32)=idC ((List.range 32).map (unB s)):=by
 unfold idC
 rw [List.map_map]
 refine List.map_congr_left fun i hi=> ?_
 unfold unA
 rw [if_pos (List.mem_range.1 hi)];rfl
theorem IV (s:ByteArray) (w:World):Calls prog 102 #[.string s] w (yZ s w):=by
 obtain ⟨R,Q⟩:=dQ
 have d:(idC zid).length=32:=by rw [av,aV]
 have D:=ah (aJ zid)
 obtain ⟨a,E⟩:∃a,idC zid=a:=⟨_,rfl⟩
 obtain ⟨W,M⟩:∃W,(w.alloc (.cells a.toArray 42)).alloc (.cells a.toArray 42)=W:=⟨_,rfl⟩
 have q:Below w.heap.size w (w.alloc (.cells a.toArray 42)):=bal
 have Y:Below w.heap.size w W:=by rw [←M];exact q.alloc (by simp) _
 have K:Hid (ak W w.heap.size 42 a):=ah (by rw [←M];exact (ak.new w 42 a).below bal)
 have aa:Hid (ak W (w.heap.size+1) 42 a):=ah (by
  rw [←M]
  have:=ak.new (w.alloc (.cells a.toArray 42)) 42 a
  rwa [World.size_alloc] at this)
 have al:Hid (Arr W (w.heap.size+1) 32 (unA s 0)):=ah (by
  have h1:=aa.out
  rw [←E] at h1
  refine ⟨fun k hk=> ?_,fun k hk=> ?_⟩
  ·have:=h1.range k (.int .u8 0) (by unfold idC zid;rw [List.getElem?_map,List.getElem?_replicate,if_pos hk];rfl)
   rw [Nat.zero_add] at this
   rw [this];unfold unA;rw [if_neg (by omega)]
  have:=(h1.there k (by rw [d];exact hk)).2
  rwa [Nat.zero_add] at this)
 rw [E] at R Q d D
 have H:=ah E
 have HW:=ah M
 have S:=ah Y
 have ai:Hid (W.heap.size=w.heap.size+2):=ah (by rw [←M];simp)
 have j:(prog.info? 42).map (·.size)=some 32:=by kernel_rfl
 have v:(prog.info? 42).map (·.size)=some a.length:=by rw [d];exact j
 clear M Y q E
 by_cases G:s.size=64
 ·have d0:((s.size:Int)==64)=true:=beq_iff_eq.2 (by omega)
  go_enter func102,ntmps102
  go_upto_region 2 with fail
  rw [HW.out]
  go_wp2_with fail
  go_loopw [5,6,7,12] (fun _ _ _ i wr=> ∃k:Nat,i= .int .i64 (k:Int)∧k≤32∧Hid (Arr wr (w.heap.size+1) 32 (unA s k))∧Hid (ak wr w.heap.size 42 a)∧Hid (∀(i:Nat) (hi:i<s.size),i<2*k→kr s[i] ≠ -1)∧Hid (Below w.heap.size w wr)) (fun _ _ _ i _=>(32-intOf i).toNat)
  case atStart=>exact ⟨0,rfl,by omega,al,K,ah (fun i _ h=>by omega),S⟩
  obtain ⟨wo,rfl⟩:∃wo:World,wo=wr:=⟨_,rfl⟩
  obtain ⟨k,rfl,hk,HA,V,HD,HB⟩:=hrel
  by_cases ap:k<32
  ·have d1:decide ((k:Int)<32)=true:=decide_eq_true (by omega)
   have w1:IntKind.i64.wrap (2*(k:Int))=2*(k:Int):=by rw [IntKind.wrap_i64];omega
   have w2:IntKind.i64.wrap (2*(k:Int)+1)=2*(k:Int)+1:=by rw [IntKind.wrap_i64];omega
   obtain ⟨O,q⟩:∃b,s[2*k]'(by omega)=b:=⟨_,rfl⟩
   obtain ⟨N,y⟩:∃b,s[2*k+1]'(by omega)=b:=⟨_,rfl⟩
   have aw:∀w,(Instr.index 9 (.string s) (.int .i64 (2*(k:Int)))).run prog w= .ok (.int .u8 ((O.toNat:Nat):Int)) w:=fun w=>by
    have:=dV s w (2*k) (by omega)
    rw [←q]
    have e:(blk s (2*k))=s[2*k]'(by omega):=by unfold blk;rw [List.getD_eq_getElem?_getD,List.getElem?_eq_getElem (by simp;omega)];rfl
    rw [e,←oI] at this
    rw [←this];rfl
   have aq:∀w,(Instr.index 9 (.string s) (.int .i64 (2*(k:Int)+1))).run prog w= .ok (.int .u8 ((N.toNat:Nat):Int)) w:=fun w=>by
    have:=dV s w (2*k+1) (by omega)
    rw [←y]
    have e:(blk s (2*k+1))=s[2*k+1]'(by omega):=by unfold blk;rw [List.getD_eq_getElem?_getD,List.getElem?_eq_getElem (by simp;omega)];rfl
    rw [e,←oI] at this
    rw [←this];rfl
   have ad:Hid (∀n:Nat,kr O=(n:Int)→vC s.data.toList (2*k)=n):=ah (fun n h=>Ih (by omega) (by rw [q];exact h))
   have ac:Hid (∀n:Nat,kr N=(n:Int)→vC s.data.toList (2*k+1)=n):=ah (fun n h=>Ih (by omega) (by rw [y];exact h))
   have A:Hid (kr O= -1∨kr N= -1→iX s.data.toList=none):=ah (fun h=>h.elim (fun h=>zT (i:=2*k) (by omega) (by rw [q];exact h)) (fun h=>zT (i:=2*k+1) (by omega) (by rw [y];exact h)))
   have ao:Hid (kr O ≠ -1→kr N ≠ -1→ ∀(i:Nat) (hi:i<s.size),i<2*(k+1)→kr s[i] ≠ -1):=ah (fun h1 h2 i hi ar=>by
    by_cases e1:i=2*k
    ·subst e1;rw [q];exact h1
    by_cases e2:i=2*k+1
    ·subst e2;rw [y];exact h2
    exact HD.out i hi (by omega))
   clear q y
   go_upto_region 7 with fail
   refine wbq ?_
   repeat (go_big_quiet_step ((first|(go_at_call 175;with_reducible exact bL (Ed O _))|(go_at_call 175;with_reducible exact bL (Ed N _)))))
   refine wpQuiet_nil ?_
   intro wq f
   rcases yK O with p|⟨n1,af,p⟩
   ·have HN:=ah (A.out (.inl p))
    rw [p]
    have x:=bth HB f
    have l:=V.out.below f
    have u:=l.there
    rw [d] at u
    have L:=ah u
    have t:=(l.set (us:=a) rfl).range
    have I:Hid (yZ s w (.returned (.tuple #[.agg a.toArray,.bool false])) (wq.setCells w.heap.size 0 a)):=ah (by
     rw [←H.out]
     exact wH HN.out (below_setCells (B:=w.heap.size) w.heap.size (Nat.le_refl _) _ 0 _ x.out))
    clear u l f
    go_wp2_with (refine aj rfl 42 _ _ rfl w.heap.size 0 a rfl rfl 32 d L.out j D.out ?_)
    exact aP rfl w.heap.size 0 rfl a _ t underlying42 rfl v rfl _ rfl I.out
   rcases yK N with r|⟨n2,ag,r⟩
   ·have HN:=ah (A.out (.inr r))
    have c1:decide ((n1:Int)<0)=false:=decide_eq_false (by omega)
    rw [p,r]
    have x:=bth HB f
    have l:=V.out.below f
    have u:=l.there
    rw [d] at u
    have L:=ah u
    have t:=(l.set (us:=a) rfl).range
    have I:Hid (yZ s w (.returned (.tuple #[.agg a.toArray,.bool false])) (wq.setCells w.heap.size 0 a)):=ah (by
     rw [←H.out]
     exact wH HN.out (below_setCells (B:=w.heap.size) w.heap.size (Nat.le_refl _) _ 0 _ x.out))
    clear u l f
    go_wp2_with (refine aj rfl 42 _ _ rfl w.heap.size 0 a rfl rfl 32 d L.out j D.out ?_)
    exact aP rfl w.heap.size 0 rfl a _ t underlying42 rfl v rfl _ rfl I.out
   have ab:=ah (ao.out (by rw [p];omega) (by rw [r];omega))
   have c1:decide ((n1:Int)<0)=false:=decide_eq_false (by omega)
   have c2:decide ((n2:Int)<0)=false:=decide_eq_false (by omega)
   have U:=ad.out n1 p
   have T:=ac.out n2 r
   have HU:Hid (unB s k=UInt8.ofNat (16*n1+n2)):=ah (by unfold unB;rw [U,T])
   rw [p,r]
   clear U T p r
   have ws:IntKind.i64.wrap ((n1:Int)*16)=(n1:Int)*16:=by rw [IntKind.wrap_i64];omega
   have ho:=Mi ⟨n1,af⟩ ⟨n2,ag⟩
   dsimp only at ho
   have wu:IntKind.u8.wrap ((16*n1+n2:Nat):Int)=((unB s k).toNat:Int):=by rw [HU.out,wrap_u8',UInt8.toNat_ofNat'];omega
   obtain ⟨m,hm⟩:∃m,16*n1+n2=m:=⟨_,rfl⟩
   rw [hm] at ho wu
   have z:=HA.out.below f (by have:=HB.out.size;have:=ai.out;have:=HA.out.lt (by omega);omega)
   have l:=ah (V.out.below f)
   have x:=bth HB f
   have f1:=z.cell k (by omega)
   have f2:=z.free k (by omega)
   obtain ⟨c,hc⟩:∃c,unB s k=c:=⟨_,rfl⟩
   have am:Hid (Arr (wq.setCell ⟨w.heap.size+1,k,none⟩ (.int .u8 (c.toNat:Int))) (w.heap.size+1) 32 (unA s (k+1))):=ah (by rw [←Lj,hc];exact z.set k (by omega) _)
   have ae:Hid (ak (wq.setCell ⟨w.heap.size+1,k,none⟩ (.int .u8 (c.toNat:Int))) w.heap.size 42 a):=ah (l.out.other (g:=w.heap.size+1) (o:=k) (us:=[.int .u8 (c.toNat:Int)]) (by omega))
   have an:Hid (Below w.heap.size w (wq.setCell ⟨w.heap.size+1,k,none⟩ (.int .u8 (c.toNat:Int)))):=ah (below_setCells (B:=w.heap.size) (w.heap.size+1) (by omega) [.int .u8 (c.toNat:Int)] k _ x.out)
   rw [hc] at wu
   clear hm f z hc
   go_wp2_with fail
   go_roundw
   case rel=>exact ⟨k+1,by go_num,by omega,am,ae,ab,an⟩
   case measure=>simp [intOf];omega
  obtain rfl:k=32:=by omega
  have d1:decide ((32:Int)<32)=false:=rfl
  have HG:=EZ G (fun i hi=>HD.out i hi (by omega))
  have Z:wo.rangeAt (w.heap.size+1) 0 (idC ((List.range 32).map (unB s))):=by rw [←Oh];exact HA.out.range
  have C:(idC ((List.range 32).map (unB s))).length=32:=by rw [av];simp
  have P:=ah (aJ ((List.range 32).map (unB s)))
  have X:Hid (wG s=(List.range 32).map (unB s)∧wF s=true):=ah (by unfold wG wF;rw [HG];exact ⟨rfl,rfl⟩)
  obtain ⟨us,J⟩:∃us,idC ((List.range 32).map (unB s))=us:=⟨_,rfl⟩
  rw [J] at Z C P
  have F:(prog.info? 42).map (·.size)=some us.length:=by rw [C];exact j
  have u:=V.out.there
  rw [d] at u
  have L:=ah u
  have t:=(V.out.set (us:=us) (by rw [C,d])).range
  have I:Hid (yZ s w (.returned (.tuple #[.agg us.toArray,.bool true])) (wo.setCells w.heap.size 0 us)):=ah
   ⟨by rw [X.out.1,X.out.2,J],below_setCells (B:=w.heap.size) w.heap.size (Nat.le_refl _) _ 0 _ HB.out⟩
  clear u HG J
  go_wp2_with (first
   | (refine wpList_load_mid rfl 42 _ rfl (w.heap.size+1) 0 rfl us _ Z underlying42 rfl F ?_)
   | (refine aj rfl 42 _ _ rfl w.heap.size 0 us rfl rfl 32 C L.out j P.out ?_))
  exact aP rfl w.heap.size 0 rfl us _ t underlying42 rfl F rfl _ rfl I.out
 have d0:((s.size:Int)==64)=false:=beq_eq_false_iff_ne.2 (by omega)
 have A:=ah (CV G)
 have hr:=aa.out.range
 have u:=K.out.there
 rw [d] at u
 have L:=ah u
 have t:=(K.out.set (us:=a) rfl).range
 have I:Hid (yZ s w (.returned (.tuple #[.agg a.toArray,.bool false])) (W.setCells w.heap.size 0 a)):=ah (by
  rw [←H.out]
  exact wH A.out (below_setCells (B:=w.heap.size) w.heap.size (Nat.le_refl _) _ 0 _ S.out))
 clear u G
 go_enter func102,ntmps102
 go_upto_region 2 with fail
 rw [HW.out]
 go_wp2_with (first
  | (refine wpList_load_mid rfl 42 _ rfl (w.heap.size+1) 0 rfl a _ hr underlying42 rfl v ?_)
  | (refine aj rfl 42 _ _ rfl w.heap.size 0 a rfl rfl 32 d L.out j D.out ?_))
 exact aP rfl w.heap.size 0 rfl a _ t underlying42 rfl v rfl _ rfl I.out
end
end Go.Proofs.YtlhcoanbhnphgaaGreatDoor
