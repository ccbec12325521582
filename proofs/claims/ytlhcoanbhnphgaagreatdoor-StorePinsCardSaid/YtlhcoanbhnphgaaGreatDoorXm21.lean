/- A part of this claim. -/
import Derived.Deep.Cut
import Derived.Test.YtlhcoanbhnphgaaGreatDoorXm15
import Derived.Test.YtlhcoanbhnphgaaGreatDoorXm18
import Derived.Test.YtlhcoanbhnphgaaGreatDoorXm9
namespace Go.Proofs.YtlhcoanbhnphgaaGreatDoor
open Tryz
set_option maxHeartbeats 64000000
set_option maxRecDepth 100000
set_option linter.all false
section
open Go.RowKit Go.Maps
theorem KT (w:World):PredAt prog 177 #[] encR kQ w:=fun W r _=>by
 unfold FnGives
 by_cases h1:r<33<;>by_cases a:126<r<;>by_cases b:r=47
 all_goals
  have f:decide ((r:Int)<33)=decide (r<33):=by rw [decide_eq_decide];omega
  have d:decide ((126:Int)<r)=decide (126<r):=by rw [decide_eq_decide];omega
  have e:((r:Int)==47)=decide (r=47):=by by_cases h:r=47<;>simp [h]<;>omega
  go_enter func177,ntmps177
  go_wp2
  all_goals first|(exfalso;omega)|(go_ret;exact ⟨by simp [kQ,h1,a,b],0,rfl⟩)
theorem BA (s:ByteArray) (w:World) (n:s.size≤1000000000) :
  Calls prog 106 #[.string s] w fun e w'=>e= .returned (.bool (aN s))∧Below w.heap.size w w':=by
 have g:=ah (fun W=>Any.strings_ContainsFunc Tryz.laysGw17 177 #[] (enters_of func177 (by kernel_rfl) rfl) kQ s W (KT W))
 have a:=l6 s
 by_cases k:s.size=0
 ·obtain rfl:s=⟨#[]⟩:=by
   cases s with
   | mk d=>have:d= #[]:=Array.size_eq_zero_iff.1 k;rw [this]
  clear g a
  have f:Hid (aN ⟨#[]⟩=false):=ah (by decide)
  go_enter func106,ntmps106
  go_wp2
  go_ret
  exact ⟨aK f.out.symm,Below.refl _ _⟩
 have j:s.toList≠[]:=fun h=>k (by have:=congrArg List.length h;rw [Lib.toList_data] at this;simpa using this)
 have p:(!s.toList.isEmpty)=true:=by simpa using j
 have o:s.toList.isEmpty=false:=by simpa using j
 by_cases m:s.size≤32
 ·have l:decide ((s.size:Int)≤32)=true:=decide_eq_true (by omega)
  have f:Hid (aN s= !decide (0≤Lib.idxFunc kQ true s)):=by
   unfold Hid aN;rw [a,decide_eq_true (show 1≤s.size∧s.size≤32 by omega)];simp
  generalize decide (0≤Lib.idxFunc kQ true s)=b at g f
  clear a
  go_enter func106,ntmps106
  go_wp2_with fail
  refine (g.out w).mono ?_
  rintro e w1 ⟨rfl,i⟩
  go_wp2
  go_ret
  exact ⟨aK f.out.symm,i⟩
 have l:decide ((s.size:Int)≤32)=false:=decide_eq_false (by omega)
 have f:Hid (aN s=false):=by unfold Hid aN;rw [decide_eq_false (fun h=>m h.2)];simp
 clear g a
 go_enter func106,ntmps106
 go_wp2
 go_ret
 exact ⟨aK f.out.symm,Below.refl _ _⟩
def lI (x:List UInt8):Value:=.agg (idC x).toArray
def rfC (r:Rf):List Value:=.string r.1::idC r.2
theorem gT:(prog.info? 93).map (·.size)=some 33:=by decide +kernel
theorem CK (mb:Nat) (V:List Rf) (r:Rf) (w:World) (hm:ig lI w mb V) (K:r.1.size≤maxLen) (H:r.2.length=32) (R:V.length≤1000000) :
  Calls prog 153 #[.map (some mb),.agg (rfC r).toArray] w fun e w'=>e= .returned (.bool (decide ((dP V r).length≤16)))∧ig lI w' mb (dP V r)∧w.grownBy w' (some mb):=by
 obtain ⟨W,C⟩:∃W,w.alloc (.cells (rfC r).toArray 93)=W:=⟨_,rfl⟩
 have m:Below w.heap.size w W:=by rw [←C];exact bal
 have D:Hid (ak W w.heap.size 93 (rfC r)):=ah (by rw [←C];exact ak.new w 93 (rfC r))
 have L:=ah (hm.on m)
 have N:mb<w.heap.size:=hm.lt
 have q:=lT hm.nodup r.1 r.2
 have o:=Dw hm.nodup r.1 r.2
 have h:=ah m
 have Q:=ah C
 have O:W.cell? ⟨w.heap.size,0,none⟩=some (.string r.1):=D.out.range 0 _ rfl
 have J:W.rangeAt w.heap.size 1 (idC r.2):=fun j u hu=>by
  have:=D.out.range (j+1) u (by unfold rfC;rw [List.getElem?_cons_succ];exact hu)
  rw [Nat.zero_add] at this
  rw [Nat.add_comm 1 j];exact this
 have p:(prog.info? 42).map (·.size)=some (idC r.2).length:=dZ (by rw [av,H])
 have A:(dP V r).length≤1000001:=by
  unfold dP
  have h1:=yL q r.1
  split<;>(split at o<;>omega)
 clear C m hm
 go_enter func153,ntmps153
 go_upto_region 1 with fail
 rw [Q.out]
 go_wp2_with (first
  | refine wpList_load_mid rfl 42 _ rfl w.heap.size 1 rfl (idC r.2) _ J underlying42 rfl p ?_
  | refine uU (enc:=lI) rfl _ _ _ 150 42 rfl underlying150 mb V rfl L.out r.1 K r.2 rfl rfl (by unfold maxLen;omega) ?_)
 intro F B f
 have s:=D.out.kept f (fun e=>by have:=Option.some.inj e;omega)
 have c2:F.cell? ⟨w.heap.size,0,none⟩=some (.string r.1):=s.range 0 _ rfl
 have G:F.rangeAt w.heap.size 1 (idC r.2):=fun j u hu=>by
  have:=s.range (j+1) u (by unfold rfC;rw [List.getElem?_cons_succ];exact hu)
  rw [Nat.zero_add] at this
  rw [Nat.add_comm 1 j];exact this
 have y:=ah B
 have d:Hid (w.grownBy F (some mb)):=ah ⟨f.os.trans h.out.os,f.tape.trans h.out.tape,f.output.trans h.out.output,Nat.le_trans h.out.size f.size,fun k z i=>(f.block k (Nat.lt_of_lt_of_le z h.out.size) i).trans (h.out.block k z)⟩
 have M:=ah A
 clear O J B f s A L D
 by_cases x:r.2=zid
 ·have I:∀w,(Op.equalIn 10000 42 (.agg (idC r.2).toArray) (.agg #[.int .u8 0,.int .u8 0,.int .u8 0,.int .u8 0,.int .u8 0,.int .u8 0,.int .u8 0,.int .u8 0,.int .u8 0,.int .u8 0,.int .u8 0,.int .u8 0,.int .u8 0,.int .u8 0,.int .u8 0,.int .u8 0,.int .u8 0,.int .u8 0,.int .u8 0,.int .u8 0,.int .u8 0,.int .u8 0,.int .u8 0,.int .u8 0,.int .u8 0,.int .u8 0,.int .u8 0,.int .u8 0,.int .u8 0,.int .u8 0,.int .u8 0,.int .u8 0])).run prog w= .ok true w:=fun w=>kG H x w
  have HS:Hid (dP V r=mQ (jQ V r.1 r.2) r.1):=ah (by unfold dP;rw [if_pos x])
  clear x q o
  go_wp2_with (first
   | refine wpList_load_mid rfl 42 _ rfl w.heap.size 1 rfl (idC r.2) _ G underlying42 rfl p ?_
   | refine uX (enc:=lI) rfl _ _ 150 42 rfl underlying150 mb (jQ V r.1 r.2) rfl y.out r.1 K rfl ?_)
  intro w3 a g
  rw [←HS.out] at a
  have l:=a.Hy underlying150 3
  have v:=ah a
  have E:Hid (w.grownBy w3 (some mb)):=ah ⟨g.os.trans d.out.os,g.tape.trans d.out.tape,g.output.trans d.out.output,Nat.le_trans d.out.size g.size,fun k z i=>(g.block k (Nat.lt_of_lt_of_le z d.out.size) i).trans (d.out.block k z i)⟩
  obtain ⟨n,b⟩:∃n,(dP V r).length=n:=⟨_,rfl⟩
  rw [b] at l
  have t:=ah b
  have P:decide ((n:Int)≤16)=decide (n≤16):=by rw [decide_eq_decide];omega
  clear a g c2 G I b
  go_wp2_with fail
  go_ret
  exact ⟨by rw [t.out];rfl,v.out,E.out⟩
 have I:∀w,(Op.equalIn 10000 42 (.agg (idC r.2).toArray) (.agg #[.int .u8 0,.int .u8 0,.int .u8 0,.int .u8 0,.int .u8 0,.int .u8 0,.int .u8 0,.int .u8 0,.int .u8 0,.int .u8 0,.int .u8 0,.int .u8 0,.int .u8 0,.int .u8 0,.int .u8 0,.int .u8 0,.int .u8 0,.int .u8 0,.int .u8 0,.int .u8 0,.int .u8 0,.int .u8 0,.int .u8 0,.int .u8 0,.int .u8 0,.int .u8 0,.int .u8 0,.int .u8 0,.int .u8 0,.int .u8 0,.int .u8 0,.int .u8 0])).run prog w= .ok false w:=fun w=>pR H aV x w
 have HS:Hid (dP V r=jQ V r.1 r.2):=ah (by unfold dP;rw [if_neg x])
 clear x q o
 have a:=y.out
 rw [←HS.out] at a
 have l:=a.Hy underlying150 3
 have v:=ah a
 obtain ⟨n,b⟩:∃n,(dP V r).length=n:=⟨_,rfl⟩
 rw [b] at l
 have t:=ah b
 have P:decide ((n:Int)≤16)=decide (n≤16):=by rw [decide_eq_decide];omega
 clear a b
 go_wp2_with (refine wpList_load_mid rfl 42 _ rfl w.heap.size 1 rfl (idC r.2) _ G underlying42 rfl p ?_)
 go_ret
 exact ⟨by rw [t.out];rfl,v.out,d.out⟩
def dw (w:World) (v:Value) (l:List Rf):Prop:=bM w v 33 (l.map rfC)
theorem dw.below {w w':World} {v:Value} {l:List Rf} (h:dw w v l) (hb:Below w.heap.size w w'):dw w' v l:=bM.below h hb
theorem dw.open {w:World} {v:Value} {l:List Rf} (h:dw w v l):∃a cap,v= .slice a l.length cap∧l.length≤maxLen∧(l≠[]→ ∃b off,a=some ⟨b,off,none⟩∧b<w.heap.size∧ ∀k (f:k<l.length),w.rangeAt b (off+k*33) (rfC l[k])):=by
 obtain ⟨a,cap,rfl,hm,h⟩:=h
 rw [List.length_map] at hm ⊢
 refine ⟨a,cap,rfl,hm,fun d=> ?_⟩
 obtain ⟨b,off,e,i,g⟩:=h (by simpa using d)
 refine ⟨b,off,e,i,fun k f=> ?_⟩
 have:=g k (by simpa using f)
 rw [List.getElem_map] at this
 exact this
def uQ (t l:List Rf) (k:Nat) (w:World) (e:Ending) (w':World):Prop :=
 (match dD t (l.take k) with
 | none=>e= .returned (.tuple #[.map none,.bool false])
 | some V=> ∃mb,e= .returned (.tuple #[.map (some mb),.bool (decide (l.length≤100))])∧ig lI w' mb V∧w.heap.size≤mb)∧Below w.heap.size w w'
theorem nE {t l:List Rf} {k:Nat} {w w':World} (h:dD t (l.take k)=none) (hb:Below w.heap.size w w'):uQ t l k w (.returned (.tuple #[.map none,.bool false])) w':=⟨by rw [h],hb⟩
theorem JD {t l V:List Rf} {k mb:Nat} {w w':World} (h:dD t (l.take k)=some V) (hm:ig lI w' mb V) (a:w.heap.size≤mb) (hb:Below w.heap.size w w'):uQ t l k w (.returned (.tuple #[.map (some mb),.bool (decide (l.length≤100))])) w':=⟨by rw [h];exact ⟨mb,rfl,hm,a⟩,hb⟩
theorem iB:∃a:Array Value,(∀w,(zeroValue 93).run prog w= .ok (.agg a) w)∧a.size=33:=⟨#[.string ⟨#[]⟩]++ #[.int .u8 0,.int .u8 0,.int .u8 0,.int .u8 0,.int .u8 0,.int .u8 0,.int .u8 0,.int .u8 0,.int .u8 0,.int .u8 0,.int .u8 0,.int .u8 0,.int .u8 0,.int .u8 0,.int .u8 0,.int .u8 0,.int .u8 0,.int .u8 0,.int .u8 0,.int .u8 0,.int .u8 0,.int .u8 0,.int .u8 0,.int .u8 0,.int .u8 0,.int .u8 0,.int .u8 0,.int .u8 0,.int .u8 0,.int .u8 0,.int .u8 0,.int .u8 0],fun w=>by kernel_rfl,rfl⟩
theorem d9 {r:Rf} (h:r.2.length=32):(rfC r).length=33:=by unfold rfC;rw [List.length_cons,av,h]
theorem jG (r:Rf):∀v∈rfC r,v.oneCell'=true:=fun v a=>by
 unfold rfC at a
 rcases List.mem_cons.1 a with rfl|a
 ·rfl
 exact aJ r.2 v a
theorem Pq {w:World} {b o:Nat} {r:Rf} (h:w.rangeAt b o (rfC r)):w.rangeAt b (o+1) (idC r.2):=fun j u hu=>by
 have:=h (j+1) u (by unfold rfC;rw [List.getElem?_cons_succ];exact hu)
 rw [Nat.add_assoc,Nat.add_comm 1 j];exact this
theorem rE:prog.underlying 49=some (.slice 93):=underlying49
theorem Dg (W:World) (a:Option Addr) (n cap k:Nat) (h:k≤cap):(Instr.sliceAt 49 (.slice a n cap) none (some (.int .i64 k)) none).run prog W= .ok (.slice a k cap) W:=by
 have d:(sizeOf (prog.elem 49)).run prog W= .ok 33 W:=by kernel_rfl
 rw [run_sliceAt_slice _ _ _ _ _ _ rE,run_slice_h _ _ _ _ _ rE _ _ (by omega) (by omega),d]
 show Result.ok _ W=_
 unfold sliced
 rw [Int.toNat_natCast,Nat.zero_mul,Nat.sub_zero,Nat.sub_zero]
 have:a.map (fun p:Addr=>p.add 0)=a:=by
  cases a with
  | none=>rfl
  | some p=>obtain ⟨b,o,s⟩:=p;cases s<;>simp [Addr.add]
 rw [this,ite_self]
theorem zw (W:World) (a:Option Addr) (n cap k:Nat) (h:k≤n):(Instr.sliceAt 49 (.slice a n cap) (some (.int .i64 k)) none none).run prog W= .ok (.slice (if cap=k then a else a.map (fun p:Addr=>p.add (k*33))) (n-k) (cap-k)) W:=by
 have b:(sizeOf (prog.elem 49)).run prog W= .ok 33 W:=by kernel_rfl
 rw [run_sliceAt_slice _ _ _ _ _ _ rE,run_slice_l _ _ _ _ _ rE _ _ (by omega) (by omega),b]
 show Result.ok _ W=_
 unfold sliced
 rw [Int.toNat_natCast]
theorem bN:(prog.info? 51).map (·.size)=some 2:=by decide +kernel
theorem pE (vt vl:Value) (t l:List Rf) (k:Nat) (w:World) (ht:dw w vt t) (hl:dw w vl l) (hz:∀r∈t++l,r.1.size≤1000000∧r.2.length=32) (hk:k≤l.length) (bn:zk vl) :
  Calls prog 87 #[.agg #[vt,vl],.int .i64 (k:Int)] w (uQ t l k w):=by
 have cf:=@run_makeMap prog
 obtain ⟨W,hW⟩:∃W,(w.alloc (.cells #[vt,vl] 51)).alloc (.map #[] 0)=W:=⟨_,rfl⟩
 have bv:Below w.heap.size w W:=by rw [←hW];exact bal.alloc (by simp) _
 have bh:Hid (ak W w.heap.size 51 [vt,vl]):=ah (by rw [←hW];exact (ak.new w 51 [vt,vl]).below bal)
 have bo:Hid (ig lI W (w.heap.size+1) []):=ah (by
  rw [←hW]
  have:=JK (enc:=lI) (w.alloc (.cells #[vt,vl] 51))
  rwa [World.size_alloc] at this)
 have HT:=ah ht
 have HL:=ah hl
 have HB:=ah bv
 have HZ:=ah hz
 have HK:=ah hk
 have HW:=ah hW
 obtain ⟨ta,tc,rfl,b7,_⟩:=ht.open
 obtain ⟨la,lc,rfl,b9,_⟩:=hl.open
 have cn:l.length≤lc:=bn _ _ _ rfl
 have c0:W.cell? ⟨w.heap.size,0,none⟩=some (.slice ta t.length tc):=bh.out.range 0 _ rfl
 clear hW bv ht hl hz hk
 go_enter func87,ntmps87
 go_upto_region 2 with fail
 rw [HW.out]
 obtain ⟨n,K⟩:∃n,w.heap.size=n:=⟨_,rfl⟩
 rw [K] at bh bo c0 HB ⊢
 have X:=ah K
 clear K HW
 go_wp2_with fail
 go_loopw [7,8,15] (fun _ _ i wr=> ∃j:Nat,j≤t.length∧i= .int .i64 (j:Int)∧Hid (eF [] (t.take j)=some (t.take j))∧Hid ((t.take j).length≤16)∧Hid (ak wr n 51 [.slice ta t.length tc,.slice la l.length lc])∧Hid (ig lI wr (n+1) (t.take j))∧Hid (Below n w wr)) (fun _ _ i _=>(t.length-intOf i).toNat)
 case atStart=>exact ⟨0,by omega,rfl,rfl,Nat.zero_le _,bh.out,bo.out,HB.out⟩
 obtain ⟨G,rfl⟩:∃G:World,G=wr:=⟨_,rfl⟩
 obtain ⟨j,hj,rfl,a1,bi,HX,HM,bd⟩:=hrel
 by_cases Y:j<t.length
 ·have al:Below w.heap.size w G:=by rw [X.out];exact bd.out
  obtain ⟨b1,ci,e2,_,af⟩:=(HT.out.below al).open
  have be:ta=b1:=by injection e2
  subst be
  clear e2
  obtain ⟨b,off,rfl,bz,y⟩:=af (by intro e;rw [e] at Y;simp at Y)
  have O:=y j Y
  have ai:Hid (∀(h0:0<j),G.cell? ⟨b,off+(j-1)*33,none⟩=some (.string (t[j-1]'(by omega)).1)):=ah (fun h0=>y (j-1) (by omega) 0 _ rfl)
  obtain ⟨zs,cb,R⟩:=iB
  obtain ⟨a5,F⟩:=HZ.out t[j] (List.mem_append.2 (.inl (List.getElem_mem Y)))
  have g:=ah (fun (hb:qA (t.take j) t[j]=true)=>LB Y a1.out hb)
  have a:=ah (fun (hb:qA (t.take j) t[j]=false)=>Oj Y a1.out hb (l.take k))
  have C:Hid (∀(h0:0<j),(t.take j).getLast? = some (t[j-1]'(by omega))):=ah (fun h0=>by have:=J5 (t:=t) (k:=j-1) (by omega);rwa [Nat.sub_add_cancel h0] at this)
  have E:Hid (j=0→(t.take j).getLast? = none):=ah (fun h0=>by rw [h0];rfl)
  have k0:(0:Int)≤j:=by omega
  have k1:(j:Int)<t.length:=by omega
  have wk:IntKind.i64.wrap ((j:Int)+1)=(j:Int)+1:=IntWalk.i64_in _ (by unfold maxLen at b7;omega)
  have bm:Hid (j<maxLen):=ah (by omega)
  generalize t[j]=r at O a5 F g a
  have I:(rfC r).length=33:=d9 F
  have v:(prog.info? 93).map (·.size)=some (rfC r).length:=by rw [I];exact gT
  have ae:(G.alloc (.cells zs 93)).there G.heap.size 0 33:=there_alloc G zs 93 R
  obtain ⟨P,M⟩:∃W,(G.alloc (.cells zs 93)).setCells G.heap.size 0 (rfC r)=W:=⟨_,rfl⟩
  have A:Below G.heap.size G P:=by rw [←M];exact below_setCells _ (Nat.le_refl _) _ _ _ bal
  have H:ak P G.heap.size 93 (rfC r):=by rw [←M];exact ak.set (cs:=zs.toList) (by have:=ak.new G 93 zs.toList;simpa using this) (by rw [I];simpa using R.symm)
  have d0:P.cell? ⟨G.heap.size,0,none⟩=some (.string r.1):=H.range 0 _ rfl
  have d1:P.rangeAt G.heap.size 1 (idC r.2):=by have:=Pq H.range;rwa [Nat.zero_add] at this
  have d2:=H.range
  have az:=ah H
  have cm:=H.lt
  have cc:b<G.heap.size:=bz
  have ce:b<P.heap.size:=by have:=A.size;omega
  have ck:n<P.heap.size:=by have:=ak.lt HX.out;have:=A.size;omega
  have e0:P.cell? ⟨n,0,none⟩=some (.slice (some ⟨b,off,none⟩) t.length tc):=(HX.out.below A).range 0 _ rfl
  have x:Hid (Below n w P):=ah (bd.out.trans (A.mono (by have:=ak.lt HX.out;omega)))
  have a3:=ah (HM.out.on A)
  have a0:=ah (HX.out.below A)
  have T:=ah M
  have a2:=ah ae
  have ac:=ah (jG r)
  have u:=ah (fun w=>BA r.1 w (by omega))
  have cg:Hid (r.1.size≤1000000∧r.2.length=32):=ah ⟨a5,F⟩
  clear M ae A H R af y al
  generalize S:rfC r=rc at I v O d2 T az ac
  have b6:=ah S
  clear S
  go_upto_region 5 with (first
   | refine wpList_load_mid rfl 93 _ rfl b (off+j*33) rfl rc _ O underlying93 rfl v ?_
   | refine aj rfl 93 _ _ rfl G.heap.size 0 rc rfl rfl 33 I a2.out gT ac.out ?_;rw [T.out])
  simp only [Act.put]
  have a6:(prog.info? 42).map (·.size)=some (idC r.2).length:=dZ (by rw [av,F])
  have ap:Hid (∀U,Below P.heap.size P U→dD t (l.take k)=none→uQ t l k w (.returned (.tuple #[.map none,.bool false])) U):=ah fun U hb h=>nE h (by
   rw [X.out]
   exact x.out.trans (hb.mono (by omega)))
  have o:=ah (show qA (t.take j) r=(aN r.1&&decide (r.2≠zid)&&(match (t.take j).getLast? with|none=>true|some q=>ltB q.1.data.toList r.1.data.toList)&&decide ((dP (t.take j) r).length≤16)) from rfl)
  by_cases K:aN r.1=true
  ·rw [K] at u
   by_cases hid:r.2=zid
   ·
    have N:=ah (a.out (by rw [o.out,decide_eq_false (fun h=>h hid)];simp))
    have hq:∀w,(Op.equalIn 10000 42 (.agg (idC r.2).toArray) (.agg #[.int .u8 0,.int .u8 0,.int .u8 0,.int .u8 0,.int .u8 0,.int .u8 0,.int .u8 0,.int .u8 0,.int .u8 0,.int .u8 0,.int .u8 0,.int .u8 0,.int .u8 0,.int .u8 0,.int .u8 0,.int .u8 0,.int .u8 0,.int .u8 0,.int .u8 0,.int .u8 0,.int .u8 0,.int .u8 0,.int .u8 0,.int .u8 0,.int .u8 0,.int .u8 0,.int .u8 0,.int .u8 0,.int .u8 0,.int .u8 0,.int .u8 0,.int .u8 0])).run prog w= .ok true w:=fun w=>kG F hid w
    clear g a C E ai o K hid
    refine bg 29 (by kernel_rfl) (by kernel_rfl) ?_
    simp only [List.take_succ_cons,List.take_zero,List.drop_succ_cons,List.drop_zero]
    have B:=blq d0
    have L:=blq e0
    repeat (go_big_quiet_step ((go_at_call 106;with_reducible exact aA (u.out _))))
    refine aY 42 _ _ rfl rfl rfl d1 (by omega) underlying42 rfl a6 ?_
    simp only [Act.put,nz]
    repeat (go_big_quiet_step ((go_at_call 106;with_reducible exact aA (u.out _))))
    refine wpQuiet_nil ?_
    intro U f
    clear B L
    have ad:=ah f
    clear hq f
    go_wp2_with fail
    go_ret2
    exact ap.out _ ad.out N.out
   have hq:∀w,(Op.equalIn 10000 42 (.agg (idC r.2).toArray) (.agg #[.int .u8 0,.int .u8 0,.int .u8 0,.int .u8 0,.int .u8 0,.int .u8 0,.int .u8 0,.int .u8 0,.int .u8 0,.int .u8 0,.int .u8 0,.int .u8 0,.int .u8 0,.int .u8 0,.int .u8 0,.int .u8 0,.int .u8 0,.int .u8 0,.int .u8 0,.int .u8 0,.int .u8 0,.int .u8 0,.int .u8 0,.int .u8 0,.int .u8 0,.int .u8 0,.int .u8 0,.int .u8 0,.int .u8 0,.int .u8 0,.int .u8 0,.int .u8 0])).run prog w= .ok false w:=fun w=>pR F aV hid w
   have ab:=ah (fun W (hm:ig lI W (n+1) (t.take j))=>CK (n+1) (t.take j) r W hm (by unfold maxLen;omega) F (by have:=bi.out;omega))
   have co:Hid (j<maxLen∧0≤(0:Int)):=ah ⟨bm.out,by omega⟩
   rw [K,decide_eq_true hid] at o
   have S:rfC r=rc:=b6.out
   rw [S] at ab
   have cj:=ah hid
   clear K hid S
   rcases Nat.eq_zero_or_pos j with aa|aa
   ·
    have j5:decide ((0:Int)<j)=false:=decide_eq_false (by omega)
    have j6:decide (0<j)=false:=decide_eq_false (by omega)
    rw [E.out aa] at o
    clear C E ai aa
    refine bg 29 (by kernel_rfl) (by kernel_rfl) ?_
    simp only [List.take_succ_cons,List.take_zero,List.drop_succ_cons,List.drop_zero]
    have B:=blq d0
    have L:=blq e0
    repeat (go_big_quiet_step ((go_at_call 106;with_reducible exact aA (u.out _))))
    refine aY 42 _ _ rfl rfl rfl d1 (by omega) underlying42 rfl a6 ?_
    simp only [Act.put,nz]
    repeat (go_big_quiet_step ((go_at_call 106;with_reducible exact aA (u.out _))))
    refine aY 93 _ _ rfl rfl rfl d2 (by omega) underlying93 rfl v ?_
    simp only [Act.put,nz]
    repeat (go_big_quiet_step ((go_at_call 106;with_reducible exact aA (u.out _))))
    refine wpQuiet_nil ?_
    intro U f
    clear B L
    go_wp2_with fail
    refine (ab.out U (a3.out.on f)).mono ?_
    rintro e w5 ⟨rfl,J,D⟩
    cases d:decide ((dP (t.take j) r).length≤16) with
    | false =>
     have N:=ah (a.out (by rw [o.out,d];rfl))
     have p:Below n w w5:=(x.out.trans (f.mono (by omega))).grown D (by have h1:=x.out.size;have h2:=f.size;have h3:=X.out;omega) (fun i e=>by have:=Option.some.inj e;omega)
     rw [←X.out] at p
     have HE:=ah (nE (w:=w) N.out p)
     clear J D p d N a g o
     go_wp2_with fail
     go_ret2
     exact HE.out
    | true =>
     obtain ⟨q1,q2⟩:=g.out (by rw [o.out,d];rfl)
     have ar:=ah q1
     rw [q2] at J
     have an:Hid ((t.take (j+1)).length≤16):=ah (by rw [←q2];exact of_decide_eq_true d)
     have p:Below n w w5:=(x.out.trans (f.mono (by omega))).grown D (by have h1:=x.out.size;have h2:=f.size;have h3:=X.out;omega) (fun i e=>by have:=Option.some.inj e;omega)
     have Z:=ah p
     have a9:=ah J
     have am:=ah ((a0.out.below f).kept D (fun e=>by have:=Option.some.inj e;omega))
     clear J D p d q1 q2 a g o
     go_wp2_with fail
     go_roundw
     case rel=>exact ⟨j+1,by omega,by go_num,ar.out,an.out,am.out,a9.out,Z.out⟩
     case measure=>simp [intOf];omega
   have bp:=ai.out aa
   have cp:=au bp (show Below G.heap.size G P by rw [←T.out];exact below_setCells _ (Nat.le_refl _) _ _ _ bal) cc
   have j1:IntKind.i64.wrap ((j:Int)-1)=(j:Int)-1:=IntWalk.i64_in _ (by have:=bm.out;unfold maxLen at this;omega)
   have j2:((j:Int)-1).toNat=j-1:=by omega
   have j3:(0:Int)≤(j:Int)-1:=by omega
   have j4:(j:Int)-1<t.length:=by omega
   have j5:decide ((0:Int)<j)=true:=decide_eq_true (by omega)
   have j6:decide (0<j)=true:=decide_eq_true (by omega)
   have j7:(1:Int)≤j:=by omega
   have ao:=rP (t[j-1]'(by omega)).1 r.1
   rw [C.out aa] at o
   dsimp only at o
   clear C E ai bp
   generalize (t[j-1]'(by omega)).1=z at cp ao o
   clear aa
   cases ax:ltB z.data.toList r.1.data.toList with
   | true =>
    rw [ax] at ao o
    clear ax
    refine bg 29 (by kernel_rfl) (by kernel_rfl) ?_
    simp only [List.take_succ_cons,List.take_zero,List.drop_succ_cons,List.drop_zero]
    have B:=blq d0
    have L:=blq e0
    have bb:=blq cp
    repeat (go_big_quiet_step ((go_at_call 106;with_reducible exact aA (u.out _))))
    refine aY 42 _ _ rfl rfl rfl d1 (by omega) underlying42 rfl a6 ?_
    simp only [Act.put,nz]
    repeat (go_big_quiet_step ((go_at_call 106;with_reducible exact aA (u.out _))))
    refine aY 93 _ _ rfl rfl rfl d2 (by omega) underlying93 rfl v ?_
    simp only [Act.put,nz]
    repeat (go_big_quiet_step ((go_at_call 106;with_reducible exact aA (u.out _))))
    refine wpQuiet_nil ?_
    intro U f
    clear B L bb
    go_wp2_with fail
    refine (ab.out U (a3.out.on f)).mono ?_
    rintro e w5 ⟨rfl,J,D⟩
    cases d:decide ((dP (t.take j) r).length≤16) with
    | false =>
     have N:=ah (a.out (by rw [o.out,d];rfl))
     have p:Below n w w5:=(x.out.trans (f.mono (by omega))).grown D (by have h1:=x.out.size;have h2:=f.size;have h3:=X.out;omega) (fun i e=>by have:=Option.some.inj e;omega)
     rw [←X.out] at p
     have HE:=ah (nE (w:=w) N.out p)
     clear J D p d N a g o
     go_wp2_with fail
     go_ret2
     exact HE.out
    | true =>
     obtain ⟨q1,q2⟩:=g.out (by rw [o.out,d];rfl)
     have ar:=ah q1
     rw [q2] at J
     have an:Hid ((t.take (j+1)).length≤16):=ah (by rw [←q2];exact of_decide_eq_true d)
     have p:Below n w w5:=(x.out.trans (f.mono (by omega))).grown D (by have h1:=x.out.size;have h2:=f.size;have h3:=X.out;omega) (fun i e=>by have:=Option.some.inj e;omega)
     have Z:=ah p
     have a9:=ah J
     have am:=ah ((a0.out.below f).kept D (fun e=>by have:=Option.some.inj e;omega))
     clear J D p d q1 q2 a g o
     go_wp2_with fail
     go_roundw
     case rel=>exact ⟨j+1,by omega,by go_num,ar.out,an.out,am.out,a9.out,Z.out⟩
     case measure=>simp [intOf];omega
   | false =>
    rw [ax] at ao o
    have N:=ah (a.out (by rw [o.out];simp))
    clear g a o ax
    refine bg 29 (by kernel_rfl) (by kernel_rfl) ?_
    simp only [List.take_succ_cons,List.take_zero,List.drop_succ_cons,List.drop_zero]
    have B:=blq d0
    have L:=blq e0
    have bb:=blq cp
    repeat (go_big_quiet_step ((go_at_call 106;with_reducible exact aA (u.out _))))
    refine aY 42 _ _ rfl rfl rfl d1 (by omega) underlying42 rfl a6 ?_
    simp only [Act.put,nz]
    repeat (go_big_quiet_step ((go_at_call 106;with_reducible exact aA (u.out _))))
    refine wpQuiet_nil ?_
    intro U f
    clear B L bb
    have ad:=ah f
    clear hq f
    go_wp2_with fail
    go_ret2
    exact ap.out _ ad.out N.out
  have K:aN r.1=false:=by simpa using K
  have N:=ah (a.out (by rw [o.out,K];simp))
  rw [K] at u
  clear g a C E ai o K
  refine bg 29 (by kernel_rfl) (by kernel_rfl) ?_
  simp only [List.take_succ_cons,List.take_zero,List.drop_succ_cons,List.drop_zero]
  have B:=blq d0
  have L:=blq e0
  repeat (go_big_quiet_step ((go_at_call 106;with_reducible exact aA (u.out _))))
  refine wpQuiet_nil ?_
  intro U f
  clear B L
  have ad:=ah f
  clear f
  go_wp2_with fail
  go_ret2
  exact ap.out _ ad.out N.out
 obtain rfl:j=t.length:=by omega
 have bx:Hid (∀l',dD t l'=fB t l'):=ah fun l'=>Oi a1.out l'
 have c1:G.cell? ⟨n,1,none⟩=some (.slice la l.length lc):=HX.out.range 1 _ rfl
 have bs:Hid (t.length≤16):=ah (by have:=bi.out;rwa [List.take_length] at this)
 have ca:Hid (ig lI G (n+1) t):=ah (by have:=HM.out;rwa [List.take_length] at this)
 have o:=ah (Dg G la l.length lc k (by have:=HK.out;omega))
 clear a1 bi HM
 go_upto_region 9 with (refine ku rfl 49 _ _ rfl _ _ rfl rfl _ o.out ?_)
 go_loopw [10,58] (fun _ i wr=> ∃(m:Nat) (V:List Rf),m≤k∧i= .int .i64 (m:Int)∧Hid (fB t (l.take m)=some V)∧Hid (V.length≤16)∧Hid (ak wr n 51 [.slice ta t.length tc,.slice la l.length lc])∧Hid (ig lI wr (n+1) V)∧Hid (Below n w wr)) (fun _ i _=>(k-intOf i).toNat)
 case atStart=>exact ⟨0,t,by omega,rfl,rfl,bs.out,HX.out,ca.out,bd.out⟩
 obtain ⟨s,rfl⟩:∃s:World,s=wr:=⟨_,rfl⟩
 obtain ⟨m,V,hm,rfl,aw,br,a4,bf,ba⟩:=hrel
 have hk:=HK.out
 by_cases cd:m<k
 ·have al:Below w.heap.size w s:=by rw [X.out];exact ba.out
  obtain ⟨b0,ch,e2,_,af⟩:=(HL.out.below al).open
  have be:la=b0:=by injection e2
  subst be
  clear e2
  have ag:m<l.length:=by omega
  obtain ⟨b,off,rfl,bz,y⟩:=af (by intro e;rw [e] at ag;simp at ag)
  have O:=y m ag
  obtain ⟨zs,cb,R⟩:=iB
  obtain ⟨a5,F⟩:=HZ.out l[m] (List.mem_append.2 (.inr (List.getElem_mem ag)))
  have bu:m<(l.take k).length:=by rw [List.length_take];omega
  have a8:(l.take k)[m]=l[m]:=List.getElem_take
  have bt:(l.take k).take m=l.take m:=by rw [List.take_take];congr 1;omega
  have bk:(l.take k).take (m+1)=l.take (m+1):=by rw [List.take_take];congr 1;omega
  have g:=ah (fun (hb:pO V l[m]=true)=>MI ag aw.out hb)
  have a:Hid (pO V l[m]=false→dD t (l.take k)=none):=ah (fun hb=>by
   rw [bx.out]
   exact OG bu (by rw [bt];exact aw.out) (by rw [a8];exact hb))
  have k0:(0:Int)≤m:=by omega
  have k1:(m:Int)<k:=by omega
  have wk:IntKind.i64.wrap ((m:Int)+1)=(m:Int)+1:=IntWalk.i64_in _ (by unfold maxLen at b9;omega)
  clear bu a8 bt bk
  generalize l[m]=r at O a5 F g a
  have I:(rfC r).length=33:=d9 F
  have v:(prog.info? 93).map (·.size)=some (rfC r).length:=by rw [I];exact gT
  have ae:(s.alloc (.cells zs 93)).there s.heap.size 0 33:=there_alloc s zs 93 R
  obtain ⟨P,M⟩:∃W,(s.alloc (.cells zs 93)).setCells s.heap.size 0 (rfC r)=W:=⟨_,rfl⟩
  have A:Below s.heap.size s P:=by rw [←M];exact below_setCells _ (Nat.le_refl _) _ _ _ bal
  have H:ak P s.heap.size 93 (rfC r):=by rw [←M];exact ak.set (cs:=zs.toList) (by have:=ak.new s 93 zs.toList;simpa using this) (by rw [I];simpa using R.symm)
  have d0:P.cell? ⟨s.heap.size,0,none⟩=some (.string r.1):=H.range 0 _ rfl
  have az:=ah H
  have b8:=ak.lt a4.out
  have x:Hid (Below n w P):=ah (ba.out.trans (A.mono (by omega)))
  have a3:=ah (bf.out.on A)
  have a0:=ah (a4.out.below A)
  have T:=ah M
  have a2:=ah ae
  have ac:=ah (jG r)
  have u:=ah (BA r.1 P (by omega))
  have Q:=ah (show pO V r=(aN r.1&&decide ((dP V r).length≤16)) from rfl)
  have ab:=ah (fun W (hm:ig lI W (n+1) V)=>CK (n+1) V r W hm (by unfold maxLen;omega) F (by have:=br.out;omega))
  clear M ae A H R af y al
  generalize S:rfC r=rc at I v O T az ac ab
  clear S
  have cl:=X.out
  cases K:aN r.1 with
  | false =>
   rw [K] at u
   have N:=ah (a.out (by rw [Q.out,K];rfl))
   clear g a Q K
   go_wp2_with (first
    | refine wpList_load_mid rfl 93 _ rfl b (off+m*33) rfl rc _ O underlying93 rfl v ?_
    | refine aj rfl 93 _ _ rfl s.heap.size 0 rc rfl rfl 33 I a2.out gT ac.out ?_;rw [T.out])
   refine u.out.mono ?_
   rintro e w5 ⟨rfl,p⟩
   have a7:Below w.heap.size w w5:=by rw [X.out];exact x.out.trans (p.mono (by have:=x.out.size;omega))
   have HE:=ah (nE (w:=w) N.out a7)
   clear p a7
   go_wp2_with fail
   go_ret2
   exact HE.out
  | true =>
   rw [K] at u Q
   clear K
   go_wp2_with (first
    | refine wpList_load_mid rfl 93 _ rfl b (off+m*33) rfl rc _ O underlying93 rfl v ?_
    | refine aj rfl 93 _ _ rfl s.heap.size 0 rc rfl rfl 33 I a2.out gT ac.out ?_;rw [T.out])
   refine u.out.mono ?_
   rintro e w5 ⟨rfl,p⟩
   have g5:=(az.out.below p).range
   have Z:Hid (Below n w w5):=ah (x.out.trans (p.mono (by have:=x.out.size;omega)))
   have am:=ah (a0.out.below p)
   have bj:=ah (ab.out w5 (a3.out.on p))
   clear p u
   go_wp2_with (refine aX rfl 93 _ rfl s.heap.size 0 rfl rc _ g5 underlying93 rfl v ?_)
   refine bj.out.mono ?_
   rintro e w6 ⟨rfl,bc,aE⟩
   have aq:Below n w w6:=Z.out.grown aE (by have h1:=Z.out.size;omega) (fun i e=>by have:=Option.some.inj e;omega)
   clear g5 bj
   cases d:decide ((dP V r).length≤16) with
   | false =>
    have N:=ah (a.out (by rw [Q.out,d];rfl))
    rw [←X.out] at aq
    have HE:=ah (nE (w:=w) N.out aq)
    clear bc aE aq d a g Q
    go_wp2_with fail
    go_ret2
    exact HE.out
   | true =>
    have ar:=ah (g.out (by rw [Q.out,d];rfl))
    have an:Hid ((dP V r).length≤16):=ah (of_decide_eq_true d)
    have b2:=ah aq
    have b4:=ah bc
    have b5:=ah (am.out.kept aE (fun e=>by have:=Option.some.inj e;omega))
    clear bc aE aq d a g Q
    go_wp2_with fail
    go_roundw
    case rel=>exact ⟨m+1,_,by omega,by go_num,ar.out,an.out,b5.out,b4.out,b2.out⟩
    case measure=>simp [intOf];omega
 obtain rfl:m=k:=by omega
 have N:Hid (dD t (l.take m)=some V):=ah (by rw [bx.out];exact aw.out)
 have b3:s.cell? ⟨n,1,none⟩=some (.slice la l.length lc):=a4.out.range 1 _ rfl
 have b8:=ak.lt a4.out
 have HE:Hid (∀U,Below s.heap.size s U→uQ t l m w (.returned (.tuple #[.map (some (n+1)),.bool (decide (l.length≤100))])) U):=ah fun U hb=>JD N.out (bf.out.on hb) (by have:=X.out;omega) (by rw [X.out];exact ba.out.trans (hb.mono (by omega)))
 have q1:decide ((l.length:Int)≤100)=decide (l.length≤100):=by rw [decide_eq_decide];omega
 clear N aw br bf
 go_upto_region 14 with fail
 refine wbq ?_
 have B:=blq b3
 repeat (go_big_quiet_step (fail))
 refine wpQuiet_nil ?_
 intro U f
 clear B
 have HQ:=ah f
 clear f
 go_wp2_with fail
 go_ret2
 exact HE.out _ HQ.out
end
end Go.Proofs.YtlhcoanbhnphgaaGreatDoor
