/- A part of this claim. -/
import Derived.Deep.Cut
import Derived.Test.YtejamhkgjkhjdaaGreatDoorXn15
import Derived.Test.YtejamhkgjkhjdaaGreatDoorXn18
import Derived.Test.YtejamhkgjkhjdaaGreatDoorXn9
namespace Go.Proofs.YtejamhkgjkhjdaaGreatDoor
open Tryz
set_option maxHeartbeats 64000000
set_option maxRecDepth 100000
set_option linter.all false
section
open Go.RowKit Go.Maps
theorem Im (w:World):PredAt prog 277 #[] encR jv w:=fun W r _=>by
 unfold FnGives
 by_cases h1:r<33<;>by_cases a:126<r<;>by_cases b:r=47
 all_goals
  have d:decide ((r:Int)<33)=decide (r<33):=by rw [decide_eq_decide];omega
  have f:decide ((126:Int)<r)=decide (126<r):=by rw [decide_eq_decide];omega
  have e:((r:Int)==47)=decide (r=47):=by by_cases h:r=47<;>simp [h]<;>omega
  go_enter func277,ntmps277
  go_wp2
  all_goals first|(exfalso;omega)|(go_ret;exact ⟨by simp [jv,h1,a,b],0,rfl⟩)
theorem Ew (s:ByteArray) (w:World) (n:s.size≤1000000000) :
  Calls prog 250 #[.string s] w fun e w'=>e= .returned (.bool (aY s))∧Below w.heap.size w w':=by
 have g:=ah (fun W=>Any.strings_ContainsFunc Tryz.laysGw17 277 #[] (enters_of func277 (by kernel_rfl) rfl) jv s W (Im W))
 have a:=kr s
 by_cases j:s.size=0
 ·obtain rfl:s=⟨#[]⟩:=by
   cases s with
   | mk d=>have:d= #[]:=Array.size_eq_zero_iff.1 j;rw [this]
  clear g a
  have f:Hid (aY ⟨#[]⟩=false):=ah (by decide)
  go_enter func250,ntmps250
  go_wp2
  go_ret
  exact ⟨aI f.out.symm,Below.refl _ _⟩
 have k:s.toList≠[]:=fun h=>j (by have:=congrArg List.length h;rw [Lib.toList_data] at this;simpa using this)
 have p:(!s.toList.isEmpty)=true:=by simpa using k
 have o:s.toList.isEmpty=false:=by simpa using k
 by_cases m:s.size≤32
 ·have l:decide ((s.size:Int)≤32)=true:=decide_eq_true (by omega)
  have f:Hid (aY s= !decide (0≤Lib.idxFunc jv true s)):=by
   unfold Hid aY;rw [a,decide_eq_true (show 1≤s.size∧s.size≤32 by omega)];simp
  generalize decide (0≤Lib.idxFunc jv true s)=b at g f
  clear a
  go_enter func250,ntmps250
  go_wp2_with fail
  refine (g.out w).mono ?_
  rintro e w1 ⟨rfl,i⟩
  go_wp2
  go_ret
  exact ⟨aI f.out.symm,i⟩
 have l:decide ((s.size:Int)≤32)=false:=decide_eq_false (by omega)
 have f:Hid (aY s=false):=by unfold Hid aY;rw [decide_eq_false (fun h=>m h.2)];simp
 clear g a
 go_enter func250,ntmps250
 go_wp2
 go_ret
 exact ⟨aI f.out.symm,Below.refl _ _⟩
def p8 (x:List UInt8):Value:=.agg (idC x).toArray
def rfC (r:Rf):List Value:=.string r.1::idC r.2
theorem jV:(prog.info? 191).map (·.size)=some 33:=by decide +kernel
theorem zM (l:Nat) (V:List Rf) (r:Rf) (w:World) (hm:gG p8 w l V) (M:r.1.size≤maxLen) (I:r.2.length=32) (S:V.length≤1000000) :
  Calls prog 251 #[.map (some l),.agg (rfC r).toArray] w fun e w'=>e= .returned (.bool (decide ((dJ V r).length≤16)))∧gG p8 w' l (dJ V r)∧w.grownBy w' (some l):=by
 obtain ⟨W,D⟩:∃W,w.alloc (.cells (rfC r).toArray 191)=W:=⟨_,rfl⟩
 have q:Below w.heap.size w W:=by rw [←D];exact bal
 have E:Hid (ak W w.heap.size 191 (rfC r)):=ah (by rw [←D];exact ak.new w 191 (rfC r))
 have L:=ah (hm.on q)
 have N:l<w.heap.size:=hm.lt
 have o:=jQ hm.nodup r.1 r.2
 have t:=Aw hm.nodup r.1 r.2
 have h:=ah q
 have Q:=ah D
 have P:W.cell? ⟨w.heap.size,0,none⟩=some (.string r.1):=E.out.range 0 _ rfl
 have K:W.rangeAt w.heap.size 1 (idC r.2):=fun j u hu=>by
  have:=E.out.range (j+1) u (by unfold rfC;rw [List.getElem?_cons_succ];exact hu)
  rw [Nat.zero_add] at this
  rw [Nat.add_comm 1 j];exact this
 have x:(prog.info? 143).map (·.size)=some (idC r.2).length:=jm (by rw [aA,I])
 have z:(dJ V r).length≤1000001:=by
  unfold dJ
  have h1:=uR o r.1
  split<;>(split at t<;>omega)
 clear D q hm
 go_enter func251,ntmps251
 go_upto_region 1 with fail
 rw [Q.out]
 go_wp2_with (first
  | refine wpList_load_mid rfl 143 _ rfl w.heap.size 1 rfl (idC r.2) _ K underlying143 rfl x ?_
  | refine qW (enc:=p8) rfl _ _ _ 267 143 rfl underlying267 l V rfl L.out r.1 M r.2 rfl rfl (by unfold maxLen;omega) ?_)
 intro G B b
 have s:=E.out.kept b (fun e=>by have:=Option.some.inj e;omega)
 have c2:G.cell? ⟨w.heap.size,0,none⟩=some (.string r.1):=s.range 0 _ rfl
 have H:G.rangeAt w.heap.size 1 (idC r.2):=fun j u hu=>by
  have:=s.range (j+1) u (by unfold rfC;rw [List.getElem?_cons_succ];exact hu)
  rw [Nat.zero_add] at this
  rw [Nat.add_comm 1 j];exact this
 have C:=ah B
 have f:Hid (w.grownBy G (some l)):=ah ⟨b.os.trans h.out.os,b.tape.trans h.out.tape,b.output.trans h.out.output,Nat.le_trans h.out.size b.size,fun k A i=>(b.block k (Nat.lt_of_lt_of_le A h.out.size) i).trans (h.out.block k A)⟩
 have R:=ah z
 clear P K B b s z L E
 by_cases y:r.2=zid
 ·have J:∀w,(Op.equalIn 10000 143 (.agg (idC r.2).toArray) (.agg #[.int .u8 0,.int .u8 0,.int .u8 0,.int .u8 0,.int .u8 0,.int .u8 0,.int .u8 0,.int .u8 0,.int .u8 0,.int .u8 0,.int .u8 0,.int .u8 0,.int .u8 0,.int .u8 0,.int .u8 0,.int .u8 0,.int .u8 0,.int .u8 0,.int .u8 0,.int .u8 0,.int .u8 0,.int .u8 0,.int .u8 0,.int .u8 0,.int .u8 0,.int .u8 0,.int .u8 0,.int .u8 0,.int .u8 0,.int .u8 0,.int .u8 0,.int .u8 0])).run prog w= .ok true w:=fun w=>lG I y w
  have HS:Hid (dJ V r=mg (kZ V r.1 r.2) r.1):=ah (by unfold dJ;rw [if_pos y])
  clear y o t
  go_wp2_with (first
   | refine wpList_load_mid rfl 143 _ rfl w.heap.size 1 rfl (idC r.2) _ H underlying143 rfl x ?_
   | refine qX (enc:=p8) rfl _ _ 267 143 rfl underlying267 l (kZ V r.1 r.2) rfl C.out r.1 M rfl ?_)
  intro w3 a g
  rw [←HS.out] at a
  have m:=a.EO underlying267 3
  have p:=ah a
  have F:Hid (w.grownBy w3 (some l)):=ah ⟨g.os.trans f.out.os,g.tape.trans f.out.tape,g.output.trans f.out.output,Nat.le_trans f.out.size g.size,fun k A i=>(g.block k (Nat.lt_of_lt_of_le A f.out.size) i).trans (f.out.block k A i)⟩
  obtain ⟨n,d⟩:∃n,(dJ V r).length=n:=⟨_,rfl⟩
  rw [d] at m
  have v:=ah d
  have O:decide ((n:Int)≤16)=decide (n≤16):=by rw [decide_eq_decide];omega
  clear a g c2 H J d
  go_wp2_with fail
  go_ret
  exact ⟨by rw [v.out];rfl,p.out,F.out⟩
 have J:∀w,(Op.equalIn 10000 143 (.agg (idC r.2).toArray) (.agg #[.int .u8 0,.int .u8 0,.int .u8 0,.int .u8 0,.int .u8 0,.int .u8 0,.int .u8 0,.int .u8 0,.int .u8 0,.int .u8 0,.int .u8 0,.int .u8 0,.int .u8 0,.int .u8 0,.int .u8 0,.int .u8 0,.int .u8 0,.int .u8 0,.int .u8 0,.int .u8 0,.int .u8 0,.int .u8 0,.int .u8 0,.int .u8 0,.int .u8 0,.int .u8 0,.int .u8 0,.int .u8 0,.int .u8 0,.int .u8 0,.int .u8 0,.int .u8 0])).run prog w= .ok false w:=fun w=>ng I bR y w
 have HS:Hid (dJ V r=kZ V r.1 r.2):=ah (by unfold dJ;rw [if_neg y])
 clear y o t
 have a:=C.out
 rw [←HS.out] at a
 have m:=a.EO underlying267 3
 have p:=ah a
 obtain ⟨n,d⟩:∃n,(dJ V r).length=n:=⟨_,rfl⟩
 rw [d] at m
 have v:=ah d
 have O:decide ((n:Int)≤16)=decide (n≤16):=by rw [decide_eq_decide];omega
 clear a d
 go_wp2_with (refine wpList_load_mid rfl 143 _ rfl w.heap.size 1 rfl (idC r.2) _ H underlying143 rfl x ?_)
 go_ret
 exact ⟨by rw [v.out];rfl,p.out,f.out⟩
def o7 (w:World) (v:Value) (l:List Rf):Prop:=dF w v 33 (l.map rfC)
theorem o7.below {w w':World} {v:Value} {l:List Rf} (h:o7 w v l) (hb:Below w.heap.size w w'):o7 w' v l:=dF.below h hb
theorem o7.open {w:World} {v:Value} {l:List Rf} (h:o7 w v l):∃d a,v= .slice d l.length a∧l.length≤maxLen∧(l≠[]→ ∃b off,d=some ⟨b,off,none⟩∧b<w.heap.size∧ ∀k (g:k<l.length),w.rangeAt b (off+k*33) (rfC l[k])):=by
 obtain ⟨d,a,rfl,hm,h⟩:=h
 rw [List.length_map] at hm ⊢
 refine ⟨d,a,rfl,hm,fun f=> ?_⟩
 obtain ⟨b,off,e,j,i⟩:=h (by simpa using f)
 refine ⟨b,off,e,j,fun k g=> ?_⟩
 have:=i k (by simpa using g)
 rw [List.getElem_map] at this
 exact this
def xU (t l:List Rf) (k:Nat) (w:World) (e:Ending) (w':World):Prop :=
 (match eY t (l.take k) with
 | none=>e= .returned (.tuple #[.map none,.bool false])
 | some V=> ∃a,e= .returned (.tuple #[.map (some a),.bool (decide (l.length≤100))])∧gG p8 w' a V∧w.heap.size≤a)∧Below w.heap.size w w'
theorem lg {t l:List Rf} {k:Nat} {w w':World} (h:eY t (l.take k)=none) (hb:Below w.heap.size w w'):xU t l k w (.returned (.tuple #[.map none,.bool false])) w':=⟨by rw [h],hb⟩
theorem Gt {t l V:List Rf} {k a:Nat} {w w':World} (h:eY t (l.take k)=some V) (hm:gG p8 w' a V) (b:w.heap.size≤a) (hb:Below w.heap.size w w'):xU t l k w (.returned (.tuple #[.map (some a),.bool (decide (l.length≤100))])) w':=⟨by rw [h];exact ⟨a,rfl,hm,b⟩,hb⟩
theorem oh:∃a:Array Value,(∀w,(zeroValue 191).run prog w= .ok (.agg a) w)∧a.size=33:=⟨#[.string ⟨#[]⟩]++ #[.int .u8 0,.int .u8 0,.int .u8 0,.int .u8 0,.int .u8 0,.int .u8 0,.int .u8 0,.int .u8 0,.int .u8 0,.int .u8 0,.int .u8 0,.int .u8 0,.int .u8 0,.int .u8 0,.int .u8 0,.int .u8 0,.int .u8 0,.int .u8 0,.int .u8 0,.int .u8 0,.int .u8 0,.int .u8 0,.int .u8 0,.int .u8 0,.int .u8 0,.int .u8 0,.int .u8 0,.int .u8 0,.int .u8 0,.int .u8 0,.int .u8 0,.int .u8 0],fun w=>by kernel_rfl,rfl⟩
theorem rE {r:Rf} (h:r.2.length=32):(rfC r).length=33:=by unfold rfC;rw [List.length_cons,aA,h]
theorem rD (r:Rf):∀v∈rfC r,v.oneCell'=true:=fun v a=>by
 unfold rfC at a
 rcases List.mem_cons.1 a with rfl|a
 ·rfl
 exact bC r.2 v a
theorem Nc {w:World} {b o:Nat} {r:Rf} (h:w.rangeAt b o (rfC r)):w.rangeAt b (o+1) (idC r.2):=fun j u hu=>by
 have:=h (j+1) u (by unfold rfC;rw [List.getElem?_cons_succ];exact hu)
 rw [Nat.add_assoc,Nat.add_comm 1 j];exact this
theorem Bz:prog.underlying 109=some (.slice 191):=underlying109
theorem Ad (W:World) (d:Option Addr) (n a k:Nat) (h:k≤a):(Instr.sliceAt 109 (.slice d n a) none (some (.int .i64 k)) none).run prog W= .ok (.slice d k a) W:=by
 have e:(sizeOf (prog.elem 109)).run prog W= .ok 33 W:=by kernel_rfl
 rw [run_sliceAt_slice _ _ _ _ _ _ Bz,run_slice_h _ _ _ _ _ Bz _ _ (by omega) (by omega),e]
 show Result.ok _ W=_
 unfold sliced
 rw [Int.toNat_natCast,Nat.zero_mul,Nat.sub_zero,Nat.sub_zero]
 have:d.map (fun p:Addr=>p.add 0)=d:=by
  cases d with
  | none=>rfl
  | some p=>obtain ⟨b,o,s⟩:=p;cases s<;>simp [Addr.add]
 rw [this,ite_self]
theorem mZ:(prog.info? 111).map (·.size)=some 2:=by decide +kernel
theorem CQ (vt vl:Value) (t l:List Rf) (k:Nat) (w:World) (ht:o7 w vt t) (hl:o7 w vl l) (hz:∀r∈t++l,r.1.size≤1000000∧r.2.length=32) (hk:k≤l.length) (bp:KM vl) :
  Calls prog 197 #[.agg #[vt,vl],.int .i64 (k:Int)] w (xU t l k w):=by
 have cl:=@run_makeMap prog
 obtain ⟨W,hW⟩:∃W,(w.alloc (.cells #[vt,vl] 111)).alloc (.map #[] 0)=W:=⟨_,rfl⟩
 have bs:Below w.heap.size w W:=by rw [←hW];exact bal.alloc (by simp) _
 have bd:Hid (ak W w.heap.size 111 [vt,vl]):=ah (by rw [←hW];exact (ak.new w 111 [vt,vl]).below bal)
 have bn:Hid (gG p8 W (w.heap.size+1) []):=ah (by
  rw [←hW]
  have:=Gz (enc:=p8) (w.alloc (.cells #[vt,vl] 111))
  rwa [World.size_alloc] at this)
 have HT:=ah ht
 have HL:=ah hl
 have HB:=ah bs
 have HZ:=ah hz
 have HK:=ah hk
 have HW:=ah hW
 obtain ⟨ta,tc,rfl,b3,_⟩:=ht.open
 obtain ⟨la,lc,rfl,b1,_⟩:=hl.open
 have cj:l.length≤lc:=bp _ _ _ rfl
 have c0:W.cell? ⟨w.heap.size,0,none⟩=some (.slice ta t.length tc):=bd.out.range 0 _ rfl
 clear hW bs ht hl hz hk
 go_enter func197,ntmps197
 go_upto_region 2 with fail
 rw [HW.out]
 obtain ⟨n,L⟩:∃n,w.heap.size=n:=⟨_,rfl⟩
 rw [L] at bd bn c0 HB ⊢
 have Y:=ah L
 clear L HW
 go_wp2_with fail
 go_loopw [7,8,15] (fun _ _ i wr=> ∃j:Nat,j≤t.length∧i= .int .i64 (j:Int)∧Hid (eu [] (t.take j)=some (t.take j))∧Hid ((t.take j).length≤16)∧Hid (ak wr n 111 [.slice ta t.length tc,.slice la l.length lc])∧Hid (gG p8 wr (n+1) (t.take j))∧Hid (Below n w wr)) (fun _ _ i _=>(t.length-intOf i).toNat)
 case atStart=>exact ⟨0,by omega,rfl,rfl,Nat.zero_le _,bd.out,bn.out,HB.out⟩
 obtain ⟨G,rfl⟩:∃G:World,G=wr:=⟨_,rfl⟩
 obtain ⟨j,hj,rfl,a4,bc,HX,HM,bf⟩:=hrel
 by_cases aa:j<t.length
 ·have ao:Below w.heap.size w G:=by rw [Y.out];exact bf.out
  obtain ⟨cc,ch,e2,_,am⟩:=(HT.out.below ao).open
  have ba:ta=cc:=by injection e2
  subst ba
  clear e2
  obtain ⟨b,off,rfl,bt,y⟩:=am (by intro e;rw [e] at aa;simp at aa)
  have P:=y j aa
  have ae:Hid (∀(h0:0<j),G.cell? ⟨b,off+(j-1)*33,none⟩=some (.string (t[j-1]'(by omega)).1)):=ah (fun h0=>y (j-1) (by omega) 0 _ rfl)
  obtain ⟨zs,b9,Q⟩:=oh
  obtain ⟨a3,C⟩:=HZ.out t[j] (List.mem_append.2 (.inl (List.getElem_mem aa)))
  have g:=ah (fun (hb:q8 (t.take j) t[j]=true)=>IX aa a4.out hb)
  have a:=ah (fun (hb:q8 (t.take j) t[j]=false)=>KR aa a4.out hb (l.take k))
  have D:Hid (∀(h0:0<j),(t.take j).getLast? = some (t[j-1]'(by omega))):=ah (fun h0=>by have:=GU (t:=t) (k:=j-1) (by omega);rwa [Nat.sub_add_cancel h0] at this)
  have E:Hid (j=0→(t.take j).getLast? = none):=ah (fun h0=>by rw [h0];rfl)
  have k0:(0:Int)≤j:=by omega
  have k1:(j:Int)<t.length:=by omega
  have wk:IntKind.i64.wrap ((j:Int)+1)=(j:Int)+1:=IntWalk.i64_in _ (by unfold maxLen at b3;omega)
  have bl:Hid (j<maxLen):=ah (by omega)
  generalize t[j]=r at P a3 C g a
  have H:(rfC r).length=33:=rE C
  have v:(prog.info? 191).map (·.size)=some (rfC r).length:=by rw [H];exact jV
  have ag:(G.alloc (.cells zs 191)).there G.heap.size 0 33:=there_alloc G zs 191 Q
  obtain ⟨O,J⟩:∃W,(G.alloc (.cells zs 191)).setCells G.heap.size 0 (rfC r)=W:=⟨_,rfl⟩
  have A:Below G.heap.size G O:=by rw [←J];exact below_setCells _ (Nat.le_refl _) _ _ _ bal
  have I:ak O G.heap.size 191 (rfC r):=by rw [←J];exact ak.set (cs:=zs.toList) (by have:=ak.new G 191 zs.toList;simpa using this) (by rw [H];simpa using Q.symm)
  have d0:O.cell? ⟨G.heap.size,0,none⟩=some (.string r.1):=I.range 0 _ rfl
  have d1:O.rangeAt G.heap.size 1 (idC r.2):=by have:=Nc I.range;rwa [Nat.zero_add] at this
  have d2:=I.range
  have az:=ah I
  have ck:=I.lt
  have cb:b<G.heap.size:=bt
  have cd:b<O.heap.size:=by have:=A.size;omega
  have cg:n<O.heap.size:=by have:=ak.lt HX.out;have:=A.size;omega
  have e0:O.cell? ⟨n,0,none⟩=some (.slice (some ⟨b,off,none⟩) t.length tc):=(HX.out.below A).range 0 _ rfl
  have x:Hid (Below n w O):=ah (bf.out.trans (A.mono (by have:=ak.lt HX.out;omega)))
  have a0:=ah (HM.out.on A)
  have aE:=ah (HX.out.below A)
  have U:=ah J
  have a1:=ah ag
  have ac:=ah (rD r)
  have u:=ah (fun w=>Ew r.1 w (by omega))
  have ci:Hid (r.1.size≤1000000∧r.2.length=32):=ah ⟨a3,C⟩
  clear J ag A I Q am y ao
  generalize X:rfC r=rc at H v P d2 U az ac
  have ca:=ah X
  clear X
  go_upto_region 5 with (first
   | refine wpList_load_mid rfl 191 _ rfl b (off+j*33) rfl rc _ P underlying191 rfl v ?_
   | refine aj rfl 191 _ _ rfl G.heap.size 0 rc rfl rfl 33 H a1.out jV ac.out ?_;rw [U.out])
  simp only [Act.put]
  have a7:(prog.info? 143).map (·.size)=some (idC r.2).length:=jm (by rw [aA,C])
  have ap:Hid (∀T,Below O.heap.size O T→eY t (l.take k)=none→xU t l k w (.returned (.tuple #[.map none,.bool false])) T):=ah fun T hb h=>lg h (by
   rw [Y.out]
   exact x.out.trans (hb.mono (by omega)))
  have o:=ah (show q8 (t.take j) r=(aY r.1&&decide (r.2≠zid)&&(match (t.take j).getLast? with|none=>true|some q=>ltB q.1.data.toList r.1.data.toList)&&decide ((dJ (t.take j) r).length≤16)) from rfl)
  by_cases L:aY r.1=true
  ·rw [L] at u
   by_cases S:r.2=zid
   ·
    have N:=ah (a.out (by rw [o.out,decide_eq_false (fun h=>h S)];simp))
    have hq:∀w,(Op.equalIn 10000 143 (.agg (idC r.2).toArray) (.agg #[.int .u8 0,.int .u8 0,.int .u8 0,.int .u8 0,.int .u8 0,.int .u8 0,.int .u8 0,.int .u8 0,.int .u8 0,.int .u8 0,.int .u8 0,.int .u8 0,.int .u8 0,.int .u8 0,.int .u8 0,.int .u8 0,.int .u8 0,.int .u8 0,.int .u8 0,.int .u8 0,.int .u8 0,.int .u8 0,.int .u8 0,.int .u8 0,.int .u8 0,.int .u8 0,.int .u8 0,.int .u8 0,.int .u8 0,.int .u8 0,.int .u8 0,.int .u8 0])).run prog w= .ok true w:=fun w=>lG C S w
    clear g a D E ae o L S
    refine aX 29 (by kernel_rfl) (by kernel_rfl) ?_
    simp only [List.take_succ_cons,List.take_zero,List.drop_succ_cons,List.drop_zero]
    have B:=blq d0
    have M:=blq e0
    repeat (go_big_quiet_step ((go_at_call 250;with_reducible exact aF (u.out _))))
    refine fI 143 _ _ rfl rfl rfl d1 (by omega) underlying143 rfl a7 ?_
    simp only [Act.put,nz]
    repeat (go_big_quiet_step ((go_at_call 250;with_reducible exact aF (u.out _))))
    refine wpQuiet_nil ?_
    intro T f
    clear B M
    have ai:=ah f
    clear hq f
    go_wp2_with fail
    go_ret2
    exact ap.out _ ai.out N.out
   have hq:∀w,(Op.equalIn 10000 143 (.agg (idC r.2).toArray) (.agg #[.int .u8 0,.int .u8 0,.int .u8 0,.int .u8 0,.int .u8 0,.int .u8 0,.int .u8 0,.int .u8 0,.int .u8 0,.int .u8 0,.int .u8 0,.int .u8 0,.int .u8 0,.int .u8 0,.int .u8 0,.int .u8 0,.int .u8 0,.int .u8 0,.int .u8 0,.int .u8 0,.int .u8 0,.int .u8 0,.int .u8 0,.int .u8 0,.int .u8 0,.int .u8 0,.int .u8 0,.int .u8 0,.int .u8 0,.int .u8 0,.int .u8 0,.int .u8 0])).run prog w= .ok false w:=fun w=>ng C bR S w
   have ab:=ah (fun W (hm:gG p8 W (n+1) (t.take j))=>zM (n+1) (t.take j) r W hm (by unfold maxLen;omega) C (by have:=bc.out;omega))
   have cf:Hid (j<maxLen∧0≤(0:Int)):=ah ⟨bl.out,by omega⟩
   rw [L,decide_eq_true S] at o
   have X:rfC r=rc:=ca.out
   rw [X] at ab
   have cm:=ah S
   clear L S X
   rcases Nat.eq_zero_or_pos j with ad|ad
   ·
    have j5:decide ((0:Int)<j)=false:=decide_eq_false (by omega)
    have j6:decide (0<j)=false:=decide_eq_false (by omega)
    rw [E.out ad] at o
    clear D E ae ad
    refine aX 29 (by kernel_rfl) (by kernel_rfl) ?_
    simp only [List.take_succ_cons,List.take_zero,List.drop_succ_cons,List.drop_zero]
    have B:=blq d0
    have M:=blq e0
    repeat (go_big_quiet_step ((go_at_call 250;with_reducible exact aF (u.out _))))
    refine fI 143 _ _ rfl rfl rfl d1 (by omega) underlying143 rfl a7 ?_
    simp only [Act.put,nz]
    repeat (go_big_quiet_step ((go_at_call 250;with_reducible exact aF (u.out _))))
    refine fI 191 _ _ rfl rfl rfl d2 (by omega) underlying191 rfl v ?_
    simp only [Act.put,nz]
    repeat (go_big_quiet_step ((go_at_call 250;with_reducible exact aF (u.out _))))
    refine wpQuiet_nil ?_
    intro T f
    clear B M
    go_wp2_with fail
    refine (ab.out T (a0.out.on f)).mono ?_
    rintro e w5 ⟨rfl,K,F⟩
    cases d:decide ((dJ (t.take j) r).length≤16) with
    | false =>
     have N:=ah (a.out (by rw [o.out,d];rfl))
     have p:Below n w w5:=(x.out.trans (f.mono (by omega))).grown F (by have h1:=x.out.size;have h2:=f.size;have h3:=Y.out;omega) (fun i e=>by have:=Option.some.inj e;omega)
     rw [←Y.out] at p
     have HE:=ah (lg (w:=w) N.out p)
     clear K F p d N a g o
     go_wp2_with fail
     go_ret2
     exact HE.out
    | true =>
     obtain ⟨q1,q2⟩:=g.out (by rw [o.out,d];rfl)
     have aw:=ah q1
     rw [q2] at K
     have an:Hid ((t.take (j+1)).length≤16):=ah (by rw [←q2];exact of_decide_eq_true d)
     have p:Below n w w5:=(x.out.trans (f.mono (by omega))).grown F (by have h1:=x.out.size;have h2:=f.size;have h3:=Y.out;omega) (fun i e=>by have:=Option.some.inj e;omega)
     have Z:=ah p
     have bb:=ah K
     have af:=ah ((aE.out.below f).kept F (fun e=>by have:=Option.some.inj e;omega))
     clear K F p d q1 q2 a g o
     go_wp2_with fail
     go_roundw
     case rel=>exact ⟨j+1,by omega,by go_num,aw.out,an.out,af.out,bb.out,Z.out⟩
     case measure=>simp [intOf];omega
   have bm:=ae.out ad
   have cp:=au bm (show Below G.heap.size G O by rw [←U.out];exact below_setCells _ (Nat.le_refl _) _ _ _ bal) cb
   have j1:IntKind.i64.wrap ((j:Int)-1)=(j:Int)-1:=IntWalk.i64_in _ (by have:=bl.out;unfold maxLen at this;omega)
   have j2:((j:Int)-1).toNat=j-1:=by omega
   have j3:(0:Int)≤(j:Int)-1:=by omega
   have j4:(j:Int)-1<t.length:=by omega
   have j5:decide ((0:Int)<j)=true:=decide_eq_true (by omega)
   have j6:decide (0<j)=true:=decide_eq_true (by omega)
   have j7:(1:Int)≤j:=by omega
   have ar:=zu (t[j-1]'(by omega)).1 r.1
   rw [D.out ad] at o
   dsimp only at o
   clear D E ae bm
   generalize (t[j-1]'(by omega)).1=z at cp ar o
   clear ad
   cases ax:ltB z.data.toList r.1.data.toList with
   | true =>
    rw [ax] at ar o
    clear ax
    refine aX 29 (by kernel_rfl) (by kernel_rfl) ?_
    simp only [List.take_succ_cons,List.take_zero,List.drop_succ_cons,List.drop_zero]
    have B:=blq d0
    have M:=blq e0
    have bh:=blq cp
    repeat (go_big_quiet_step ((go_at_call 250;with_reducible exact aF (u.out _))))
    refine fI 143 _ _ rfl rfl rfl d1 (by omega) underlying143 rfl a7 ?_
    simp only [Act.put,nz]
    repeat (go_big_quiet_step ((go_at_call 250;with_reducible exact aF (u.out _))))
    refine fI 191 _ _ rfl rfl rfl d2 (by omega) underlying191 rfl v ?_
    simp only [Act.put,nz]
    repeat (go_big_quiet_step ((go_at_call 250;with_reducible exact aF (u.out _))))
    refine wpQuiet_nil ?_
    intro T f
    clear B M bh
    go_wp2_with fail
    refine (ab.out T (a0.out.on f)).mono ?_
    rintro e w5 ⟨rfl,K,F⟩
    cases d:decide ((dJ (t.take j) r).length≤16) with
    | false =>
     have N:=ah (a.out (by rw [o.out,d];rfl))
     have p:Below n w w5:=(x.out.trans (f.mono (by omega))).grown F (by have h1:=x.out.size;have h2:=f.size;have h3:=Y.out;omega) (fun i e=>by have:=Option.some.inj e;omega)
     rw [←Y.out] at p
     have HE:=ah (lg (w:=w) N.out p)
     clear K F p d N a g o
     go_wp2_with fail
     go_ret2
     exact HE.out
    | true =>
     obtain ⟨q1,q2⟩:=g.out (by rw [o.out,d];rfl)
     have aw:=ah q1
     rw [q2] at K
     have an:Hid ((t.take (j+1)).length≤16):=ah (by rw [←q2];exact of_decide_eq_true d)
     have p:Below n w w5:=(x.out.trans (f.mono (by omega))).grown F (by have h1:=x.out.size;have h2:=f.size;have h3:=Y.out;omega) (fun i e=>by have:=Option.some.inj e;omega)
     have Z:=ah p
     have bb:=ah K
     have af:=ah ((aE.out.below f).kept F (fun e=>by have:=Option.some.inj e;omega))
     clear K F p d q1 q2 a g o
     go_wp2_with fail
     go_roundw
     case rel=>exact ⟨j+1,by omega,by go_num,aw.out,an.out,af.out,bb.out,Z.out⟩
     case measure=>simp [intOf];omega
   | false =>
    rw [ax] at ar o
    have N:=ah (a.out (by rw [o.out];simp))
    clear g a o ax
    refine aX 29 (by kernel_rfl) (by kernel_rfl) ?_
    simp only [List.take_succ_cons,List.take_zero,List.drop_succ_cons,List.drop_zero]
    have B:=blq d0
    have M:=blq e0
    have bh:=blq cp
    repeat (go_big_quiet_step ((go_at_call 250;with_reducible exact aF (u.out _))))
    refine fI 143 _ _ rfl rfl rfl d1 (by omega) underlying143 rfl a7 ?_
    simp only [Act.put,nz]
    repeat (go_big_quiet_step ((go_at_call 250;with_reducible exact aF (u.out _))))
    refine wpQuiet_nil ?_
    intro T f
    clear B M bh
    have ai:=ah f
    clear hq f
    go_wp2_with fail
    go_ret2
    exact ap.out _ ai.out N.out
  have L:aY r.1=false:=by simpa using L
  have N:=ah (a.out (by rw [o.out,L];simp))
  rw [L] at u
  clear g a D E ae o L
  refine aX 29 (by kernel_rfl) (by kernel_rfl) ?_
  simp only [List.take_succ_cons,List.take_zero,List.drop_succ_cons,List.drop_zero]
  have B:=blq d0
  have M:=blq e0
  repeat (go_big_quiet_step ((go_at_call 250;with_reducible exact aF (u.out _))))
  refine wpQuiet_nil ?_
  intro T f
  clear B M
  have ai:=ah f
  clear f
  go_wp2_with fail
  go_ret2
  exact ap.out _ ai.out N.out
 obtain rfl:j=t.length:=by omega
 have br:Hid (∀l',eY t l'=fK t l'):=ah fun l'=>KQ a4.out l'
 have c1:G.cell? ⟨n,1,none⟩=some (.slice la l.length lc):=HX.out.range 1 _ rfl
 have bz:Hid (t.length≤16):=ah (by have:=bc.out;rwa [List.take_length] at this)
 have b4:Hid (gG p8 G (n+1) t):=ah (by have:=HM.out;rwa [List.take_length] at this)
 have o:=ah (Ad G la l.length lc k (by have:=HK.out;omega))
 clear a4 bc HM
 go_upto_region 9 with (refine nK rfl 109 _ _ rfl _ _ rfl rfl _ o.out ?_)
 go_loopw [10,58] (fun _ i wr=> ∃(m:Nat) (V:List Rf),m≤k∧i= .int .i64 (m:Int)∧Hid (fK t (l.take m)=some V)∧Hid (V.length≤16)∧Hid (ak wr n 111 [.slice ta t.length tc,.slice la l.length lc])∧Hid (gG p8 wr (n+1) V)∧Hid (Below n w wr)) (fun _ i _=>(k-intOf i).toNat)
 case atStart=>exact ⟨0,t,by omega,rfl,rfl,bz.out,HX.out,b4.out,bf.out⟩
 obtain ⟨s,rfl⟩:∃s:World,s=wr:=⟨_,rfl⟩
 obtain ⟨m,V,hm,rfl,a2,bv,a6,bi,be⟩:=hrel
 have hk:=HK.out
 by_cases ce:m<k
 ·have ao:Below w.heap.size w s:=by rw [Y.out];exact be.out
  obtain ⟨b7,co,e2,_,am⟩:=(HL.out.below ao).open
  have ba:la=b7:=by injection e2
  subst ba
  clear e2
  have aq:m<l.length:=by omega
  obtain ⟨b,off,rfl,bt,y⟩:=am (by intro e;rw [e] at aq;simp at aq)
  have P:=y m aq
  obtain ⟨zs,b9,Q⟩:=oh
  obtain ⟨a3,C⟩:=HZ.out l[m] (List.mem_append.2 (.inr (List.getElem_mem aq)))
  have bo:m<(l.take k).length:=by rw [List.length_take];omega
  have a9:(l.take k)[m]=l[m]:=List.getElem_take
  have bk:(l.take k).take m=l.take m:=by rw [List.take_take];congr 1;omega
  have bx:(l.take k).take (m+1)=l.take (m+1):=by rw [List.take_take];congr 1;omega
  have g:=ah (fun (hb:tO V l[m]=true)=>Jw aq a2.out hb)
  have a:Hid (tO V l[m]=false→eY t (l.take k)=none):=ah (fun hb=>by
   rw [br.out]
   exact K7 bo (by rw [bk];exact a2.out) (by rw [a9];exact hb))
  have k0:(0:Int)≤m:=by omega
  have k1:(m:Int)<k:=by omega
  have wk:IntKind.i64.wrap ((m:Int)+1)=(m:Int)+1:=IntWalk.i64_in _ (by unfold maxLen at b1;omega)
  clear bo a9 bk bx
  generalize l[m]=r at P a3 C g a
  have H:(rfC r).length=33:=rE C
  have v:(prog.info? 191).map (·.size)=some (rfC r).length:=by rw [H];exact jV
  have ag:(s.alloc (.cells zs 191)).there s.heap.size 0 33:=there_alloc s zs 191 Q
  obtain ⟨O,J⟩:∃W,(s.alloc (.cells zs 191)).setCells s.heap.size 0 (rfC r)=W:=⟨_,rfl⟩
  have A:Below s.heap.size s O:=by rw [←J];exact below_setCells _ (Nat.le_refl _) _ _ _ bal
  have I:ak O s.heap.size 191 (rfC r):=by rw [←J];exact ak.set (cs:=zs.toList) (by have:=ak.new s 191 zs.toList;simpa using this) (by rw [H];simpa using Q.symm)
  have d0:O.cell? ⟨s.heap.size,0,none⟩=some (.string r.1):=I.range 0 _ rfl
  have az:=ah I
  have b6:=ak.lt a6.out
  have x:Hid (Below n w O):=ah (be.out.trans (A.mono (by omega)))
  have a0:=ah (bi.out.on A)
  have aE:=ah (a6.out.below A)
  have U:=ah J
  have a1:=ah ag
  have ac:=ah (rD r)
  have u:=ah (Ew r.1 O (by omega))
  have R:=ah (show tO V r=(aY r.1&&decide ((dJ V r).length≤16)) from rfl)
  have ab:=ah (fun W (hm:gG p8 W (n+1) V)=>zM (n+1) V r W hm (by unfold maxLen;omega) C (by have:=bv.out;omega))
  clear J ag A I Q am y ao
  generalize X:rfC r=rc at H v P U az ac ab
  clear X
  have cn:=Y.out
  cases L:aY r.1 with
  | false =>
   rw [L] at u
   have N:=ah (a.out (by rw [R.out,L];rfl))
   clear g a R L
   go_wp2_with (first
    | refine wpList_load_mid rfl 191 _ rfl b (off+m*33) rfl rc _ P underlying191 rfl v ?_
    | refine aj rfl 191 _ _ rfl s.heap.size 0 rc rfl rfl 33 H a1.out jV ac.out ?_;rw [U.out])
   refine u.out.mono ?_
   rintro e w5 ⟨rfl,p⟩
   have a8:Below w.heap.size w w5:=by rw [Y.out];exact x.out.trans (p.mono (by have:=x.out.size;omega))
   have HE:=ah (lg (w:=w) N.out a8)
   clear p a8
   go_wp2_with fail
   go_ret2
   exact HE.out
  | true =>
   rw [L] at u R
   clear L
   go_wp2_with (first
    | refine wpList_load_mid rfl 191 _ rfl b (off+m*33) rfl rc _ P underlying191 rfl v ?_
    | refine aj rfl 191 _ _ rfl s.heap.size 0 rc rfl rfl 33 H a1.out jV ac.out ?_;rw [U.out])
   refine u.out.mono ?_
   rintro e w5 ⟨rfl,p⟩
   have g5:=(az.out.below p).range
   have Z:Hid (Below n w w5):=ah (x.out.trans (p.mono (by have:=x.out.size;omega)))
   have af:=ah (aE.out.below p)
   have bu:=ah (ab.out w5 (a0.out.on p))
   clear p u
   go_wp2_with (refine aG rfl 191 _ rfl s.heap.size 0 rfl rc _ g5 underlying191 rfl v ?_)
   refine bu.out.mono ?_
   rintro e w6 ⟨rfl,bj,a5⟩
   have al:Below n w w6:=Z.out.grown a5 (by have h1:=Z.out.size;omega) (fun i e=>by have:=Option.some.inj e;omega)
   clear g5 bu
   cases d:decide ((dJ V r).length≤16) with
   | false =>
    have N:=ah (a.out (by rw [R.out,d];rfl))
    rw [←Y.out] at al
    have HE:=ah (lg (w:=w) N.out al)
    clear bj a5 al d a g R
    go_wp2_with fail
    go_ret2
    exact HE.out
   | true =>
    have aw:=ah (g.out (by rw [R.out,d];rfl))
    have an:Hid ((dJ V r).length≤16):=ah (of_decide_eq_true d)
    have b5:=ah al
    have b8:=ah bj
    have b2:=ah (af.out.kept a5 (fun e=>by have:=Option.some.inj e;omega))
    clear bj a5 al d a g R
    go_wp2_with fail
    go_roundw
    case rel=>exact ⟨m+1,_,by omega,by go_num,aw.out,an.out,b2.out,b8.out,b5.out⟩
    case measure=>simp [intOf];omega
 obtain rfl:m=k:=by omega
 have N:Hid (eY t (l.take m)=some V):=ah (by rw [br.out];exact a2.out)
 have b0:s.cell? ⟨n,1,none⟩=some (.slice la l.length lc):=a6.out.range 1 _ rfl
 have b6:=ak.lt a6.out
 have HE:Hid (∀T,Below s.heap.size s T→xU t l m w (.returned (.tuple #[.map (some (n+1)),.bool (decide (l.length≤100))])) T):=ah fun T hb=>Gt N.out (bi.out.on hb) (by have:=Y.out;omega) (by rw [Y.out];exact be.out.trans (hb.mono (by omega)))
 have q1:decide ((l.length:Int)≤100)=decide (l.length≤100):=by rw [decide_eq_decide];omega
 clear N a2 bv bi
 go_upto_region 14 with fail
 refine wbq ?_
 have B:=blq b0
 repeat (go_big_quiet_step (fail))
 refine wpQuiet_nil ?_
 intro T f
 clear B
 have HQ:=ah f
 clear f
 go_wp2_with fail
 go_ret2
 exact HE.out _ HQ.out
end
end Go.Proofs.YtejamhkgjkhjdaaGreatDoor
