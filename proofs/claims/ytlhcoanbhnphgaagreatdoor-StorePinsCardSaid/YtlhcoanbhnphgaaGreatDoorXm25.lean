/- A part of this claim. -/
import Derived.Test.YtlhcoanbhnphgaaGreatDoorShelf8
import Derived.Test.YtlhcoanbhnphgaaGreatDoorXm20
import Derived.Test.YtlhcoanbhnphgaaGreatDoorXm22
namespace Go.Proofs.YtlhcoanbhnphgaaGreatDoor
open Tryz
set_option maxHeartbeats 64000000
set_option maxRecDepth 100000
set_option linter.all false
section
open Go.RowKit Go.Sort Go.Shelf Go.Maps
def Gw (a b:ByteArray):Int:=if ltB a.data.toList b.data.toList=true then -1 else if ltB b.data.toList a.data.toList=true then 1 else 0
theorem AA (s:ByteArray) (w:World):Calls prog 253 #[.string s] w fun e w'=>e= .returned (.bool false)∧w'=w:=by
 have a:(s.toList==s.toList)=true:=by simp
 go_enter func253,ntmps253
 go_wp2_with fail
 go_ret
 exact ⟨rfl,rfl⟩
theorem NI (a b : ByteArray) (w : World) : Calls prog 230 #[.string a, .string b] w fun e w' => e = .returned (.int .i64 (Gw a b)) ∧ w' = w := by
  have h1 := rP a b
  have h2 := rP b a
  unfold Gw
  cases e1 : ltB a.data.toList b.data.toList <;> cases e2 : ltB b.data.toList a.data.toList
  case true.true => have := fH e1 e2; rw [bU] at this; cases this
  case' false.false => have hq : (a.toList == b.toList) = true := by rw [ByteArray.toList_eq, ByteArray.toList_eq, gq e1 e2]; simp
  case' false.true => have hq : (a.toList == b.toList) = false := by
                        rw [ByteArray.toList_eq, ByteArray.toList_eq]
                        refine beq_false_of_ne fun h => ?_
                        rw [h, bU] at e2; cases e2
  all_goals
    rw [e1] at h1
    rw [e2] at h2
    go_enter func230, ntmps230
    go_wp2_with fail
    refine (AA _ w).mono ?_
    rintro e w1 ⟨rfl, rfl⟩
    go_wp2_with fail
    refine (AA _ _).mono ?_
    rintro e w1 ⟨rfl, rfl⟩
    go_wp2_with fail
    go_ret
    exact ⟨rfl, rfl⟩
theorem NY {a b:ByteArray} (h:a.data.toList=b.data.toList):a=b:=ba_eq h
abbrev R33:={ x:Rf // x.2.length=32 }
instance:Inhabited R33:=⟨⟨(⟨#[]⟩,zid),aV⟩⟩
def jU (x:R33):List Value:=rfC x.1
def cfR (x y:R33):Int:=Gw x.1.1 y.1.1
def nmL (x:Rf):List UInt8:=x.1.data.toList
theorem ltR (x y:R33):ltOf cfR x y=ltB (nmL x.1) (nmL y.1):=by
 show decide (Gw x.1.1 y.1.1<0)=ltB x.1.1.data.toList y.1.1.data.toList
 unfold Gw
 cases ltB x.1.1.data.toList y.1.1.data.toList<;>cases ltB y.1.1.data.toList x.1.1.data.toList<;>decide
theorem Q9:SWO (ltOf cfR) where
 irrefl x:=by rw [ltR,bU]
 trans x y z h1 h2:=by rw [ltR] at *;exact fH h1 h2
 ntrans x y z h1 h2:=by
  rw [ltR] at *
  cases h:ltB (nmL x.1) (nmL z.1) with
  | false=>rfl
  | true =>
   by_cases e:ltB (nmL y.1) (nmL x.1)=true
   ·have:=fH e h
    rw [h2] at this;cases this
   have:=gq h1 (by simpa using e)
   rw [this,h2] at h;cases h
theorem Nr (x:R33):(jU x).length=33:=d9 x.2
theorem Nq (x:R33):∀v∈jU x,v.oneCell'=true:=jG x.1
theorem FB (x y:Rf) (w:World) (_:x.2.length=32) (_:y.2.length=32) :
  Calls prog 229 #[.agg (rfC x).toArray,.agg (rfC y).toArray] w fun e w'=>e= .returned (.int .i64 (Gw x.1 y.1))∧ ∃q os',w'=grow (w.drewN q) os':=by
 obtain ⟨W,a⟩:∃W,W=(w.alloc (.cells (rfC x).toArray 93)).alloc (.cells (rfC y).toArray 93):=⟨_,rfl⟩
 have h:W.cell? ⟨w.heap.size,0,none⟩=some (.string x.1):=by rw [a];exact ((ak.new w 93 (rfC x)).below bal).range 0 _ rfl
 have c1:W.cell? ⟨w.heap.size+1,0,none⟩=some (.string y.1):=by
  rw [a]
  have:=(ak.new (w.alloc (.cells (rfC x).toArray 93)) 93 (rfC y)).range 0 _ rfl
  rwa [World.size_alloc] at this
 have d:=ah (fun W=>NI x.1 y.1 W)
 have b:Hid (∃q os',W=grow (w.drewN q) os'):=ah ⟨0,#[.cells (rfC x).toArray 93,.cells (rfC y).toArray 93],by rw [a,alloc_eq_grow,alloc_eq_grow,grow_grow];rfl⟩
 generalize Gw x.1 y.1=c at d
 generalize rfC x=f at a b
 generalize rfC y=g at a b
 go_enter func229,ntmps229
 go_upto_region 1 with fail
 rw [←a]
 clear a
 go_wp2_with fail
 refine (d.out W).mono ?_
 rintro e w1 ⟨rfl,rfl⟩
 go_wp2_with fail
 go_ret
 exact ⟨rfl,b.out⟩
theorem Kg (d:Array R33) (i j:Nat) (hi:i<d.size) (a:j<33):(flatK jU 33 d)[i*33+j]! = (jU d[i]!)[j]!:=by
 rw [get_flatK _ _ _ _ (by omega),show (i*33+j)/33=i by omega,show (i*33+j)%33=j by omega]
theorem LZ (a:Rf) (m:List Rf):rfV (a::m)=rfC a++rfV m:=by unfold rfV;rw [List.map_cons,List.flatten_cons]
theorem G8 (l:List Rf) (b:∀x∈l,x.2.length=32) (i j:Nat) (hi:i<l.length) (e:j<33):(rfV l)[i*33+j]? = (rfC l[i])[j]?:=by
 induction l generalizing i with
 | nil=>simp at hi
 | cons a m ih =>
  have d:(rfC a).length=33:=by rw [d9];exact b a (by simp)
  rw [LZ]
  cases i with
  | zero=>rw [List.getElem?_append_left (by omega)];simp
  | succ i =>
   rw [List.getElem?_append_right (by omega),d,show (i+1)*33+j-33=i*33+j from by omega]
   exact ih (fun x hx=>b x (List.mem_cons_of_mem _ hx)) i (by simpa using hi)
def pG (d:Array R33):List Rf:=d.toList.map (·.1)
theorem lC (d:Array R33):(pG d).length=d.size:=by simp [pG]
theorem BN (d:Array R33):∀x∈pG d,x.2.length=32:=fun x hx=>by
 obtain ⟨y,_,rfl⟩:=List.mem_map.1 hx
 exact y.2
theorem xC (d:Array R33) (i:Nat) (hi:i<d.size):(pG d)[i]'(by rw [lC];exact hi)=d[i]!.1:=by
 rw [getElem!_pos d i hi];simp [pG]
theorem Ef (d:Array R33) (t:Nat) (f:t<d.size*33):(rfV (pG d))[t]? = some (flatK jU 33 d)[t]!:=by
 have hi:t/33<d.size:=by omega
 have e:t/33*33+t%33=t:=by omega
 have h1:=Kg d (t/33) (t%33) hi (Nat.mod_lt _ (by omega))
 have b:=G8 (pG d) (BN d) (t/33) (t%33) (by rw [lC];exact hi) (Nat.mod_lt _ (by omega))
 rw [e] at h1 b
 rw [h1,b,xC d _ hi]
 have a:(jU d[t/33]!).length=33:=Nr _
 have hm:t%33<(jU d[t/33]!).length:=by rw [a];exact Nat.mod_lt _ (by omega)
 rw [getElem!_pos (jU d[t/33]!) _ hm]
 show (jU d[t/33]!)[t%33]? = _
 rw [List.getElem?_eq_getElem hm]
theorem Qm {w:World} {g off cap n:Nat} {d:Array R33} (hd:d.size=n) (f:n≤cap) (a:w.there g off (cap*33)) (e:w.rangeAt g off (rfV (pG d))):HoldsK jU 33 w g off d:=by
 intro j b
 rw [size_flatK] at b
 exact ⟨e j _ (Ef d j b),(a j (by omega)).2⟩
theorem Cj {w:World} {g off n:Nat} {os:Array Obj} {cur:Array Value} {e:TypeId} {fr:Nat×Nat} (d:Array R33) (hb:w.heap[g]? = some (.cells cur e fr)) :
  (sortWorldK jU 33 w g off n d os).heap[g]? = some (.cells (putCells id off (flatK jU 33 d) cur) e fr):=by
 have a:g<w.heap.size:=(Array.getElem?_eq_some_iff.1 hb).1
 unfold sortWorldK putRowK
 rw [heap_grow_old _ _ (by simpa using a)]
 simp [putRow,mapBlock,Sort.ahead,Array.getElem?_modify,hb,onCells]
theorem mG {w:World} {g off n:Nat} {os:Array Obj} (d:Array R33):w.grownBy (sortWorldK jU 33 w g off n d os) (some g):=by
 unfold sortWorldK putRowK
 refine ⟨rfl,rfl,rfl,by simp,fun k b a=> ?_⟩
 rw [heap_grow_old _ _ (by simpa using b)]
 have:g≠k:=fun e=>a (by rw [e])
 simp [putRow,mapBlock,Sort.ahead,Array.getElem?_modify,this]
theorem Jk (B:Nat) (q:Value) (l:List Rf) (w:World) (G:bQ w B 33 q l.length (rfV l)) (W:∀x∈l,x.2.length=32) (hn:l.length≤1000000) :
  Calls prog 228 #[q,.func (.func 229) #[] #[]] w fun e w'=>e= .returned (.tuple #[])∧ ∃m:List Rf,m.Perm l∧((l.map (·.1)).Nodup→jh m)∧bQ w' B 33 q l.length (rfV m)∧w.grownBy w' q.ownBlock:=by
 by_cases Q:l.length=0
 ·obtain rfl:l=[]:=List.eq_nil_of_length_eq_zero Q
  obtain ⟨p,cap,rfl⟩:∃p cap,q= .slice p 0 cap:=by
   rcases G.2 with ⟨rfl,_⟩|⟨g,off,cap,rfl,_⟩
   ·exact ⟨none,0,rfl⟩
   exact ⟨_,_,rfl⟩
  have C:=AnyF.slices_SortFunc_none (P:=prog) (ρ:=Tryz.sortR_ren) { Tryz.sortR with } p cap (.func (.func 229) #[] #[]) w
  change Calls prog 228 _ _ _ at C
  refine C.mono ?_
  rintro e w' ⟨J,rfl⟩
  exact ⟨J,[],List.Perm.refl _,fun _=>List.Pairwise.nil,G,World.grownBy.refl _ _⟩
 rcases G.2 with ⟨_,S⟩|⟨g,off,cap,rfl,R,O,z,H,k,V⟩
 ·exact absurd S Q
 obtain ⟨d,hd⟩:∃d:Array R33,pG d=l:=⟨(l.attach.map fun x=>(⟨x.1,W x.1 x.2⟩:R33)).toArray,by simp [pG];exact List.attach_map_subtype_val l⟩
 have s:d.size=l.length:=by rw [←hd,lC]
 have T:HoldsK jU 33 w g off d:=Qm s z k (by rw [hd];exact V)
 have hS:=AnyQ.slices_SortFunc Tryz.sortR 33 (fun w=>by kernel_rfl) (fun w=>by kernel_rfl) jU Nr Nq cfR Q9 229 #[] g off cap d w (enters_of func229 (by kernel_rfl) rfl)
  (fun m os dk _ x y=>FB x.1 y.1 _ x.2 y.2) T O (by omega)
 rw [s] at hS
 change Calls prog 228 _ _ _ at hS
 refine hS.mono ?_
 rintro e w' ⟨J,d',nq,os,M,L,hw'⟩
 rw [←s] at M L
 obtain ⟨D,_,f⟩:=M
 have X:d'.extract 0 d.size=d':=by rw [←D];exact Array.extract_size
 rw [X,Array.extract_size] at f
 have r:(pG d').Perm l:=by rw [←hd];exact f.map _
 refine ⟨J,pG d',r,?_,?_,by rw [hw'];exact mG d'⟩
 ·intro F
  have t:((pG d').map (·.1)).Nodup:=(r.map (·.1)).nodup_iff.2 F
  have I:(pG d').Pairwise fun x y=>ltB (nmL y) (nmL x)=false:=by
   rw [List.pairwise_iff_getElem]
   intro i j hi o K
   rw [lC] at hi o
   have h:=L i j (Nat.zero_le _) K (by rw [←D];exact o)
   rw [ltR] at h
   rw [xC d' i hi,xC d' j o]
   exact h
  unfold jh
  rw [List.pairwise_map]
  exact (I.and (List.pairwise_map.1 t)).imp fun {x y} ⟨h1,U⟩=>by
   cases h:ltB x.1.data.toList y.1.data.toList with
   | true=>rfl
   | false=>exact absurd (NY (gq h h1)) U
 obtain ⟨cur,Z,fr,b⟩:∃cur e fr,w.heap[g]? = some (.cells cur e fr):=by
  have h1:=(k 0 (by omega)).1
  obtain ⟨u,hu⟩:=Option.isSome_iff_exists.1 h1
  exact cells_of_cell hu
 have a:=Cj (off:=off) (n:=nq) (os:=os) d' b
 rw [←hw'] at a
 have A:(pG d').length=l.length:=r.length_eq
 have N:d'.size=l.length:=by rw [←A,lC]
 refine ⟨by rw [qF (BN d'),A],.inr ⟨g,off,cap,rfl,R,by rw [hw'];exact Nat.lt_of_lt_of_le O (mG (off:=off) (n:=nq) (os:=os) d').size,z,H,fun j o=> ?_,fun j u hu=> ?_⟩⟩
 ·have h1:=k j o
  rw [fP b,jI b] at h1
  rw [fP a,jI a]
  refine ⟨?_,h1.2⟩
  obtain ⟨u,hu⟩:=Option.isSome_iff_exists.1 h1.1
  have:=(Array.getElem?_eq_some_iff.1 hu).1
  simp [putCells,this]
 have o:j<d'.size*33:=by
  have:=(List.getElem?_eq_some_iff.1 hu).1
  rw [qF (BN d'),lC] at this
  exact this
 rw [Ef d' j o] at hu
 rw [fP a]
 have h1:=(k j (by omega)).1
 rw [fP b] at h1
 obtain ⟨v,Y⟩:=Option.isSome_iff_exists.1 h1
 have E:=(Array.getElem?_eq_some_iff.1 Y).1
 rw [←hu]
 simp [putCells,E,o]
theorem zB {V A:List Rf} (b:(V.map (·.1)).Nodup) (hA:∀r∈A,bS V r.1=some r.2) (j:(A.map (·.1)).Perm (V.map (·.1))):A.Perm V:=by
 have f:(A.map (·.1)).Nodup:=j.nodup_iff.2 b
 have nd:∀ {l:List Rf},(l.map (·.1)).Nodup→l.Nodup:=fun {l} h=>by
  unfold List.Nodup at h ⊢
  rw [List.pairwise_map] at h
  exact h.imp fun g e=>g (by rw [e])
 rw [List.perm_ext_iff_of_nodup (nd f) (nd b)]
 intro r
 constructor
 ·intro a
  exact sZ (hA r a)
 intro a
 have h1:r.1∈A.map (·.1):=j.mem_iff.2 (List.mem_map_of_mem a)
 obtain ⟨s,i,e⟩:=List.mem_map.1 h1
 have d:=hA s i
 have k:=MG b a
 rw [e,k] at d
 have:s=r:=by
  obtain ⟨s1,s2⟩:=s
  obtain ⟨m,n⟩:=r
  dsimp only at e d
  rw [e,Option.some.inj d]
 rw [←this];exact i
theorem bQ.rf {w:World} {B:Nat} {v:Value} {l:List Rf} (h:bQ w B 33 v l.length (rfV l)) (a:∀r∈l,r.2.length=32):dw w v l∧zk v∧FrB B v:=by
 rcases h.2 with ⟨rfl,p⟩|⟨g,off,cap,rfl,d,b,m,f,n,o⟩
 ·obtain rfl:=List.eq_nil_of_length_eq_zero p
  exact ⟨⟨none,0,rfl,by simp,fun h=>absurd rfl h⟩,fun _ _ _ e=>by cases e;omega,fun g b=>by cases b⟩
 refine ⟨⟨_,cap,by rw [List.length_map],by rw [List.length_map];omega,fun _=>⟨g,off,rfl,b,fun i hi j u hu=> ?_⟩⟩,fun _ _ _ e=>by cases e;omega,fun k s=>by cases s;exact d⟩
 rw [List.getElem_map] at hu
 rw [List.length_map] at hi
 have q:j<33:=by
  have:=(List.getElem?_eq_some_iff.1 hu).1
  rw [d9 (a _ (List.getElem_mem hi))] at this
  exact this
 have:=o (i*33+j) u (by rw [G8 l a i j hi q];exact hu)
 rw [show off+i*33+j=off+(i*33+j) from by omega]
 exact this
theorem bgn {a b:World} (h:a.grownBy b none):Below a.heap.size a b:=⟨h.os,h.tape,h.output,h.size,fun k d=>h.block k d (by simp)⟩
theorem Pv:∃a:Array Value,(∀w,(zeroValue 42).run prog w= .ok (.agg a) w)∧a.size=32:=⟨#[.int .u8 0,.int .u8 0,.int .u8 0,.int .u8 0,.int .u8 0,.int .u8 0,.int .u8 0,.int .u8 0,.int .u8 0,.int .u8 0,.int .u8 0,.int .u8 0,.int .u8 0,.int .u8 0,.int .u8 0,.int .u8 0,.int .u8 0,.int .u8 0,.int .u8 0,.int .u8 0,.int .u8 0,.int .u8 0,.int .u8 0,.int .u8 0,.int .u8 0,.int .u8 0,.int .u8 0,.int .u8 0,.int .u8 0,.int .u8 0,.int .u8 0,.int .u8 0],fun w=>by kernel_rfl,rfl⟩
theorem Br {L:List ByteArray} {A N:List ByteArray} {x:ByteArray} (b:(A++L).Perm N) (a:L.Nodup) (hx:x∈L):((A++[x])++L.filter fun y=>decide (y≠x)).Perm N:=by
 refine List.Perm.trans ?_ b
 rw [List.append_assoc]
 refine List.Perm.append_left _ ?_
 have h1:([x]++L.filter fun y=>decide (y≠x)).Nodup:=by
  rw [List.singleton_append,List.nodup_cons]
  exact ⟨fun h=>by simpa using (List.mem_filter.1 h).2,a.filter _⟩
 rw [List.perm_ext_iff_of_nodup h1 a]
 intro y
 by_cases e:y=x
 ·subst e;simp [hx]
 simp [e]
theorem IL (mb:Nat) (V:List Rf) (w:World) (hm:ig lI w mb V) (bb:∀r∈V,r.2.length=32) (hn:V.length≤1000) :
  Calls prog 184 #[.map (some mb)] w fun e w'=> ∃v W,e= .returned v∧W.Perm V∧jh W∧dw w' v W∧zk v∧FrB w.heap.size v∧Below w.heap.size w w':=by
 obtain ⟨zr,bj,bv⟩:=iB
 obtain ⟨zi,bu,P⟩:=Pv
 have bo:=ah bj
 have Q:=ah P
 have a9:=ah bb
 have I:=ah hm.nodup
 have bh:=ah hm.len
 have bc:=ah hm.lt
 have L:=hm.Qj
 obtain ⟨F,hF⟩:∃F,bS V=F:=⟨_,rfl⟩
 rw [hF] at L
 have HF:=ah hF
 have a6:Hid (∀x:ByteArray,(F x).isSome=true↔x∈V.map (·.1)):=ah fun x=>by rw [←hF];exact pK
 obtain ⟨T,t⟩:∃T,V.map (·.1)=T:=⟨_,rfl⟩
 have af:=ah t
 rw [t] at I a6
 have br:Hid (∀x∈T,x.size≤maxLen):=ah fun x hx=>by
  rw [←t] at hx
  obtain ⟨r,h,rfl⟩:=List.mem_map.1 hx
  exact bh.out r h
 obtain ⟨nn,ag⟩:∃nn,V.length=nn:=⟨_,rfl⟩
 have O:Hid (T.length=nn):=ah (by rw [←t,List.length_map,ag])
 rw [ag] at L hn
 clear hF t hm bb P ag
 go_enter func184,ntmps184
 go_wp2_with (refine iw (enc:=lI) rfl _ 150 42 rfl underlying150 mb nn F T rfl L I.out br.out (fun x _=>a6.out x) ?_)
 intro w2 u an bk
 have be:Hid (Below w.heap.size w w2):=ah (bgn an)
 obtain ⟨a,q⟩:∃a,w.heap.size=a:=⟨_,rfl⟩
 rw [q] at u
 rw [q]
 have bd:=ah u
 have a3:Hid (w2.heap.size=a+1∧w.heap.size=a∧mb<a):=ah ⟨by omega,q,by rw [←q];exact bc.out⟩
 clear u an bk q L
 go_upto_region 3 with fail
 go_loopw [3,4,5] (fun v _ _ wr=> ∃(Lr:List ByteArray) (A:List Rf),Hid ((A.map (·.1)++Lr).Perm T)∧Hid (∀r∈A,F r.1=some r.2∧r.2.length=32)∧Hid (RangeT lI wr mb a nn F Lr)∧Hid (wr.ownsRow (a+1) 93 33 v A.length (rfV A))∧Hid (Below w.heap.size w wr)) (fun _ _ _ wr=>wr.rangeLeft mb a)
 case atStart=>exact ⟨T,[],ah (List.Perm.refl _),ah (by simp),bd,ah (World.ownsRow_nil _ _ _ _),be⟩
 obtain ⟨wl,rfl⟩:∃wl:World,wl=wr:=⟨_,rfl⟩
 obtain ⟨Lr,A,HP,HA,HR,HO,HB⟩:=hrel
 have C:=HR.out
 go_wp2_with (refine jk (enc:=lI) rfl _ rfl mb a nn F Lr rfl C ?_ ?_)
 ·intro bt
  subst bt
  clear C
  have az:Hid (A.Perm V):=ah (zB (by rw [af.out];exact I.out) (fun r h=>by rw [HF.out];exact (HA.out r h).1) (by rw [af.out];simpa using HP.out))
  have bm:Hid (A.length≤1000000):=ah (by have h1:=HP.out.length_eq;have h2:=O.out;rw [List.append_nil,List.length_map] at h1;omega)
  have U:=ah (Jk (a+1) u3 A wl (bQ.iE HO.out) (fun r h=>(HA.out r h).2) bm.out)
  obtain ⟨o3,c3,rfl⟩:=bO HO.out
  go_wp2_with fail
  refine U.out.mono ?_
  rintro e w9 ⟨rfl,W,K,aw,ae,am⟩
  have b:Hid (W.Perm V∧jh W∧dw w9 (.slice o3 A.length c3) W∧zk (.slice o3 A.length c3)∧FrB w.heap.size (.slice o3 A.length c3)∧Below w.heap.size w w9):=ah (by
   have al:=K.length_eq
   rw [←al] at ae
   have h1:=ae.rf (fun r h=>(HA.out r (K.mem_iff.1 h)).2)
   rw [al] at h1
   have h2:=a3.out
   refine ⟨K.trans az.out,aw ?_,h1.1,h1.2.1,fun g hg=>by have:=h1.2.2 g hg;omega,HB.out.grown am HB.out.size fun k hk=>by have:=h1.2.2 k hk;omega⟩
   have h3:=az.out.map (·.1)
   exact h3.nodup_iff.2 (by rw [af.out];exact I.out))
  clear K aw ae am U
  go_wp2_with fail
  go_ret
  exact ⟨_,W,rfl,b.out⟩
 intro x c w3 ax bx Y S M ad bp R
 have d:c.length=32:=a9.out (x,c) (sZ (by rw [HF.out];exact Y))
 have a1:Hid (((A++[(x,c)]).map (·.1)++Lr.filter fun y=>decide (y≠x)).Perm T):=ah (by rw [List.map_append];exact Br HP.out C.nodup ax)
 have bn:Hid (∀r∈A++[(x,c)],F r.1=some r.2∧r.2.length=32):=ah fun r h=>by
  rcases List.mem_append.1 h with h|h
  ·exact HA.out r h
  simp at h;rw [h];exact ⟨Y,d⟩
 have s:=ah S
 have X:=ah M
 have J:Hid (a<w3.heap.size∧w.heap.size≤a∧mb<a∧a<wl.heap.size):=ah (by have h1:=s.out.lt;have h2:=a3.out;have h3:=C.lt;omega)
 have ai:Hid (Below w.heap.size w w3):=ah (HB.out.grown ad HB.out.size (fun j hj=>by have h1:=J.out;have:=Option.some.inj hj;omega))
 have aq:Hid (w3.ownsRow (a+1) 93 33 u3 A.length (rfV A)):=ah (HO.out.kept ad (.inr fun e=>by have:=(HO.out.lt _ e).1;omega))
 clear ax Y S M ad bp C HP HA HR HO HB
 have D:Hid ((idC c).length=32):=ah (by rw [av,d])
 have ar:=ah (aJ c)
 have bf:=ah bR
 obtain ⟨w4,E⟩:∃x,(w3.alloc (.cells zi 42)).setCells w3.heap.size 0 (idC c)=x:=⟨_,rfl⟩
 have f:Below w3.heap.size w3 w4:=by rw [←E];exact below_setCells _ (Nat.le_refl _) _ _ _ bal
 have ap:ak w4 w3.heap.size 42 (idC c):=by rw [←E];exact ak.set (cs:=zi.toList) (by have:=ak.new w3 42 zi.toList;simpa using this) (by rw [D.out];simpa using Q.out.symm)
 have bi:=ah (there_alloc (n:=32) w3 zi 42 Q.out)
 have a5:=ah E
 have aE:=ap.range
 have ac:Hid (∀w,(Instr.build 93 #[(0,.string x),(1,.agg (idC c).toArray)]).run prog w= .ok (.agg (rfC (x,c)).toArray) w):=ah fun w=>xq x c d w
 have G:Hid ((rfC (x,c)).length=33):=ah (d9 d)
 have a2:Hid (∀w,(sizeOf 93).run prog w= .ok (rfC (x,c)).length w):=ah fun w=>by rw [G.out];kernel_rfl
 have a0:=ah (own_below aq.out f)
 have Z:=ah (FE (x,c) w4)
 have i:Below w4.heap.size w4 (w4.alloc (.cells (rfC (x,c)).toArray 93)):=bal
 have o:=ah (own_below a0.out i)
 have p:Hid (Below w.heap.size w (w4.alloc (.cells (rfC (x,c)).toArray 93))):=ah ((ai.out.trans (f.mono ai.out.size)).trans (i.mono (by have:=ai.out.size;have:=f.size;omega)))
 have m:=ah ((s.out.on f).on i)
 have l:Hid ((w4.alloc (.cells (rfC (x,c)).toArray 93)).rangeLeft mb a<wl.rangeLeft mb a):=ah (by
  have h1:=J.out
  have h4:=f.size
  rw [dN (i.block mb (by omega)) (i.block a (by omega)),dN (f.block mb (by omega)) (f.block a (by omega))]
  exact X.out)
 have B:Hid (a+1≤(w4.alloc (.cells (rfC (x,c)).toArray 93)).heap.size):=ah (by have:=J.out;have:=f.size;have:=i.size;omega)
 have H7:Hid (∀r∈[(x,c)],r.2.length=32):=ah fun r h=>by simp at h;rw [h];exact d
 have ba:Hid (A.length+[(x,c)].length≤10000000):=ah (by
  have h1:=a1.out.length_eq
  have h2:=O.out
  rw [List.length_append,List.length_map,List.length_append] at h1
  simp only [List.length_singleton] at h1 ⊢
  omega)
 have N:(prog.info? 42).map (·.size)=some (idC c).length:=by rw [D.out];exact bR
 have ab:lI c= .agg (idC c).toArray:=rfl
 rw [ab] at R
 rw [ab]
 clear ab f ap E i aq a0 s X d
 obtain ⟨rc,a4⟩:∃y,rfC (x,c)=y:=⟨_,rfl⟩
 rw [a4] at ac G a2 Z o p m l B
 obtain ⟨ci,a8⟩:∃y,idC c=y:=⟨_,rfl⟩
 rw [a8] at D ar a5 aE ac N R ⊢
 clear a4 a8
 obtain ⟨w5,aa⟩:∃y,w4.alloc (.cells rc.toArray 93)=y:=⟨_,rfl⟩
 rw [aa] at Z o p m l B
 have bs:=ah aa
 clear aa
 go_wp2_with (first
  | (refine aj rfl 42 _ _ rfl w3.heap.size 0 ci rfl rfl 32 D.out bi.out bf.out ar.out ?_;rw [a5.out])
  | refine wpList_load_mid rfl 42 _ rfl w3.heap.size 0 rfl ci _ aE underlying42 rfl N ?_
  | refine fF rfl 93 _ _ rfl (.string x) (.agg ci.toArray) (.agg rc.toArray) rfl rfl (ac.out _) ?_
  | (refine aG rfl _ 49 93 rfl rc zr rfl underlying49 a2.out bo.out (by rw [G.out];omega) (by rw [G.out];omega) ?_;rw [bs.out])
  | refine fU rfl _ _ rfl (a+1) u3 A.length A rfl o.out (some ⟨w4.heap.size,0,none⟩) 1 [(x,c)] rfl Z.out H7.out ba.out B.out ?_)
 intro v6 w6 ao z
 have a7:A.length+1=(A++[(x,c)]).length:=by simp
 have b:Hid (RangeT lI w6 mb a nn F (Lr.filter fun y=>decide (y≠x))∧w6.ownsRow (a+1) 93 33 v6 (A++[(x,c)]).length (rfV (A++[(x,c)]))∧Below w.heap.size w w6∧w6.rangeLeft mb a<wl.rangeLeft mb a):=ah (by
  have h1:=J.out
  have H:∀k,k≤a→some k≠u3.ownBlock:=fun k hk e=>by have:=(o.out.lt _ e.symm).1;omega
  refine ⟨by simpa only [ne_eq,decide_not] using m.out.grown z (H _ (by omega)) (H _ (by omega)),by rw [←a7];exact ao,p.out.grown z p.out.size fun k hk=>by have:=(o.out.lt _ hk).1;omega,?_⟩
  have h5:=p.out.size
  rw [dN (z.block mb (by have:=B.out;omega) (H _ (by omega))) (z.block a (by have:=B.out;omega) (H _ (by omega)))]
  exact l.out)
 clear ao z a7 o m l p
 go_wp2_with fail
 go_roundw
 case rel=>exact ⟨_,A++[(x,c)],a1,bn,ah b.out.1,ah b.out.2.1,ah b.out.2.2.1⟩
 case measure=>exact b.out.2.2.2
section
variable {P:Program} {ops:Array Oper} {Q:Exit → Act → World → Prop} {S:World → Prop}
theorem WL.last2 {n:Nat} {oi m:Oper} {ls:Array Bool} {a:Act} {w:World} (hi:ops[n]? = some oi) (g:ops[n+1]? = some m) (u:ops.size=n+2) (o:Region.ready .any ops ls=[n]) (f:Region.ready .any ops (ls.setIfInBounds n true)=[n+1]) (hd:Region.ready .any ops ((ls.setIfInBounds n true).setIfInBounds (n+1) true)=[])
  (h:wpList P ops Q [oi,m] a w):WL P ops Q S n 0 ls a w:=by
 refine ⟨fun _=>⟨fun j g=> ?_,?_⟩⟩
 ·rw [o] at g
  have e:j=n:=by simpa using g
  omega
 rw [show ops.size-n=2 from by omega]
 refine ⟨fun d=>(by rw [o] at d;cases d),fun j b=> ?_⟩
 rw [o] at b
 obtain rfl:j=n:=by simpa using b
 have s:wpOp P ops Q j (wpList P ops Q [m]) a w:=by unfold wpOp;simp only [hi];exact h
 refine wpOp_mono (fun a' w' t=>⟨fun d=>(by rw [f] at d;cases d),fun k p=> ?_⟩) s
 rw [f] at p
 obtain rfl:k=j+1:=by simpa using p
 have l:wpOp P ops Q (j+1) (wpList P ops Q []) a' w':=by unfold wpOp;simp only [g];exact t
 exact wpOp_mono (fun q r i=>⟨hd,i⟩) l
end
theorem yS {t l:List Rf} (k:Nat) (h:aO t l=true):∃V,dD t (l.take k)=some V:=by
 unfold aO at h
 rw [Bool.and_eq_true] at h
 obtain ⟨U,a⟩:=Option.isSome_iff_exists.1 h.1
 unfold dD at a ⊢
 cases d:eF [] t with
 | none=>rw [d] at a;cases a
 | some T =>
  rw [d] at a
  have a:fB T l=some U:=a
  rw [←List.take_append_drop k l,lF] at a
  cases b:fB T (l.take k) with
  | none=>rw [b] at a;cases a
  | some V=>exact ⟨V,b⟩
theorem dw.from {w:World} {f:Option Addr} {n cap:Nat} {l:List Rf} (h:dw w (.slice f n cap) l) (k:Nat) (q:k≤n) (m:n≤cap):dw w (.slice (if cap=k then f else f.map (fun p:Addr=>p.add (k*33))) (n-k) (cap-k)) (l.drop k):=by
 obtain ⟨a2,c2,e,hm,g⟩:=h
 rw [List.length_map] at e hm
 injection e with e1 e2 e3
 subst e1 e2 e3
 refine ⟨_,cap-k,by rw [List.length_map,List.length_drop],by rw [List.length_map,List.length_drop];omega,fun d=> ?_⟩
 have a:k<l.length:=by
  apply Nat.lt_of_not_ge
  intro h
  exact d (by rw [List.drop_eq_nil_of_le h];rfl)
 obtain ⟨b,off,rfl,hb,o⟩:=g (by
  intro e
  have:=congrArg List.length e
  rw [List.length_map] at this
  simp at this
  rw [this] at a
  simp at a)
 rw [if_neg (by omega)]
 refine ⟨b,off+k*33,by rw [Option.map_some,Addr.add_mid],hb,fun i hi j u hu=> ?_⟩
 rw [List.length_map,List.length_drop] at hi
 have:=o (k+i) (by rw [List.length_map];omega) j u (by
  rw [List.getElem_map] at hu ⊢
  rw [List.getElem_drop] at hu
  exact hu)
 rw [show off+k*33+i*33+j=off+(k+i)*33+j from by omega]
 exact this
def Ir (t l:List Rf) (k:Nat) (w:World) (e:Ending) (w':World):Prop :=
 (if aO t l=true then ∃v1 v2 W V,e= .returned (.tuple #[.agg #[v1,v2],.int .i64 0])∧dD t (l.take k)=some V∧W.Perm V∧jh W∧qj w w' v1 v2 W (l.drop k)
 else e= .returned (.tuple #[.agg #[.slice none 0 0,.slice none 0 0],.int .i64 1]))∧Below w.heap.size w w'
theorem Lm {t l:List Rf} {k:Nat} {w w':World} (h:aO t l=false) (hb:Below w.heap.size w w'):Ir t l k w (.returned (.tuple #[.agg #[.slice none 0 0,.slice none 0 0],.int .i64 1])) w':=⟨by rw [h];rfl,hb⟩
theorem IX {t l V W:List Rf} {k:Nat} {v1 v2:Value} {w w':World} (h:aO t l=true) (h1:dD t (l.take k)=some V) (a:W.Perm V) (b:jh W) (d:qj w w' v1 v2 W (l.drop k)) (hb:Below w.heap.size w w'):Ir t l k w (.returned (.tuple #[.agg #[v1,v2],.int .i64 0])) w':=⟨by rw [h];exact ⟨v1,v2,W,V,rfl,h1,a,b,d⟩,hb⟩
theorem Dp {P:Program} {fn:Func} {R:Ending→World→Prop} {a:Act} {w:World} {p q:Tmp} {ty:TypeId} (h:fn.results= #[.cell p ty,.tmp q]) (b o:Nat)
  (g:a.tmps.getD p undef= .pointer (some ⟨b,o,none⟩)) (cs:List Value) (d:TypeDesc) (i:w.rangeAt b o cs)
  (hu:P.underlying ty=some d) (hd:d.isRow=true) (hi:(P.info? ty).map (·.size)=some cs.length) (e:a.defers=[]) (u:Value) (f:a.tmps.getD q undef=u) (j:R (.returned (.tuple #[.agg cs.toArray,u])) w):bodyPost P fn R .ret a w:=by
 refine bodyPost_ret (v:=.tuple #[.agg cs.toArray,u]) ?_ e j
 have:=run_loadVar_mid (P:=P) w b o ty cs d i hu hd hi
 simp only [results,h]
 rw [Array.getD_eq_getD_getElem?] at g f
 simp [asAddr,g,f,this]
theorem BJ (vt vl:Value) (t l:List Rf) (n:Int) (k:Nat) (w:World) (h:gB w vt vl t l) (hk:(k:Int)=l.length-max 0 (min n l.length)) :
  Calls prog 116 #[.agg #[vt,vl],.int .i64 n] w (Ir t l k w):=by
 obtain ⟨W,hW⟩:∃W,(w.alloc (.cells #[vt,vl] 51)).alloc (.cells #[.slice none 0 0,.slice none 0 0] 51)=W:=⟨_,rfl⟩
 have Y:Below w.heap.size w W:=by rw [←hW];exact bal.alloc (by simp) _
 have ab:ak W w.heap.size 51 [vt,vl]:=by rw [←hW];exact (ak.new w 51 [vt,vl]).below bal
 have aw:ak W (w.heap.size+1) 51 [.slice none 0 0,.slice none 0 0]:=by
  rw [←hW]
  have:=(ak.new (w.alloc (.cells #[vt,vl] 51)) 51 [.slice none 0 0,.slice none 0 0])
  rw [World.size_alloc] at this
  exact this
 have a9:=ah Y
 have a:=ah (h.below Y)
 have HW:=ah hW
 have H:=ah h.ok
 have HR:=ah (dH vt vl t l W a.out)
 have m:=ah ab
 have o:=ah aw
 have a1:(prog.info? 51).map (·.size)=some ([vt,vl]:List Value).length:=bN
 have bd:(prog.info? 51).map (·.size)=some ([.slice none 0 0,.slice none 0 0]:List Value).length:=bN
 have ap:=ah bN
 have ax:Hid (∀v∈([.slice none 0 0,.slice none 0 0]:List Value),v.oneCell'=true):=ah (by intro v hv;simp at hv;rw [hv];rfl)
 have d0:=ab.range
 have HK:=ah hk
 clear h Y ab aw hW hk
 go_enter func116,ntmps116
 go_upto_region 1 with fail
 rw [HW.out]
 go_wp2_with (refine wpList_load_mid rfl 51 _ rfl w.heap.size 0 rfl _ _ d0 underlying51 rfl a1 ?_)
 refine HR.out.mono ?_
 rintro e w1 ⟨rfl,I⟩
 have C:=bth a9 I
 replace m:=ah (m.out.below I)
 replace o:=ah (o.out.below I)
 replace a:=ah (a.out.below I)
 clear I HR HW d0
 cases y:aO t l with
 | false =>
  have al:=ah (fun x hb=>Lm (t:=t) (l:=l) (k:=k) (w:=w) (w':=x) y hb)
  obtain ⟨WE,f⟩:∃x,w1.setCells (w.heap.size+1) 0 [.slice none 0 0,.slice none 0 0]=x:=⟨_,rfl⟩
  have O:WE.rangeAt (w.heap.size+1) 0 [.slice none 0 0,.slice none 0 0]:=by rw [←f];exact (o.out.set (us:=[.slice none 0 0,.slice none 0 0]) rfl).range
  have bb:Hid (Below w.heap.size w WE):=ah (by rw [←f];exact below_setCells _ (by omega) _ _ _ C.out)
  have N:=ah f
  have U:=o.out.there
  clear f y
  go_wp2_with (refine aj rfl 51 _ _ rfl (w.heap.size+1) 0 [.slice none 0 0,.slice none 0 0] rfl rfl 2 rfl U ap.out ax.out ?_;rw [N.out])
  refine Dp rfl (w.heap.size+1) 0 rfl [.slice none 0 0,.slice none 0 0] _ O underlying51 rfl bd rfl _ rfl ?_
  exact al.out _ bb.out
 | true =>
  obtain ⟨V,hV⟩:=yS k y
  have a7:Hid (l.length≤100):=ah (by unfold aO at y;rw [Bool.and_eq_true,decide_eq_true_eq] at y;exact y.2)
  have a3:=ah (fun W v1 v2 x h2 h3 h4 hb=>IX (t:=t) (l:=l) (k:=k) (V:=V) (W:=W) (v1:=v1) (v2:=v2) (w:=w) (w':=x) y hV h2 h3 h4 hb)
  have T:=m.out.range
  have c1:w1.cell? ⟨w.heap.size,1,none⟩=some vl:=T 1 _ rfl
  obtain ⟨la,lc,e,aE,_⟩:=a.out.log.open
  subst e
  have a4:=ah aE
  clear aE
  have X:k≤l.length:=by have:=HK.out;omega
  have bf:wrap64 ((l.length:Int)-max 0 (min n l.length))=(k:Int):=by
   rw [←HK.out]
   have:=a4.out
   unfold maxLen at this
   unfold wrap64;omega
  have HO:=ah (pE vt (.slice la l.length lc) t l k w1 a.out.tab a.out.log H.out X a.out.capl)
  unfold uQ at HO
  rw [hV] at HO
  dsimp only at HO
  go_wp2_with (refine wpList_load_mid rfl 51 _ rfl w.heap.size 0 rfl _ _ T underlying51 rfl a1 ?_)
  refine HO.out.mono ?_
  rintro e M ⟨⟨mb,rfl,ag,a6⟩,J⟩
  replace m:=ah (m.out.below J)
  replace o:=ah (o.out.below J)
  replace a:=ah (a.out.below J)
  replace C:=bth C J
  have a8:=ah ag
  have ae:=ah (tL (t:=t) (l:=l.take k) (fun r d=>(H.out r (by
   rcases List.mem_append.1 d with d|d
   ·exact List.mem_append.2 (.inl d)
   exact List.mem_append.2 (.inr (List.take_subset _ _ d)))).2) hV)
  have az:=ah (qO hV).len
  have ad:Hid (∀r∈V,r.1.size≤1000000∧r.2.length=32):=ah fun r d=>⟨by have h1:=((qO hV).ok r d).1;unfold aN at h1;rw [Bool.and_eq_true,decide_eq_true_eq] at h1;omega,ae.out r d⟩
  clear J ag a6 HO T c1 bf
  go_upto_region 5 with fail
  have bj:=o.out.lt
  have bh:=C.out.size
  have ai:=m.out.range
  have D:M.drew.cell? ⟨w.heap.size,1,none⟩=some (.slice la l.length lc):=ai 1 _ rfl
  have bc:=fun W=>zw W la l.length lc k X
  have be:=ah (a.out.capl _ _ _ rfl)
  obtain ⟨q,hq⟩:∃q,(if lc=k then la else la.map (fun p:Addr=>p.add (k*33)))=q:=⟨_,rfl⟩
  have Q:=ah (dw.from a.out.log k X be.out)
  rw [hq] at Q
  simp only [hq] at bc
  clear hq ai
  refine wrL 8 (fun x=>x.cell? ⟨w.heap.size,1,none⟩=some (.slice la l.length lc)) ?_
  refine WL.tk 0 D ?_
  refine WL.tk 2 D ?_
  refine WL.tk 3 D ?_
  refine WL.tk 4 D ?_
  refine WL.tk 5 D ?_
  refine WL.on 1 ?_
  obtain ⟨wd,R⟩:∃x,M.drew=x:=⟨_,rfl⟩
  have E:Below M.heap.size M wd:=by rw [←R];exact (Below.refl _ _).drew
  simp only [R]
  have HL:=ah (IL mb V wd (a8.out.on E) ae.out (by have:=az.out;omega))
  go_wp2_with fail
  refine HL.out.mono ?_
  rintro e w3 ⟨v1,s,rfl,ar,a2,u,aq,ao,a0⟩
  have z:Below M.heap.size M w3:=E.trans (a0.mono E.size)
  have H1:Hid (s.Perm V∧jh s∧dw w3 v1 s∧zk v1∧FrB M.heap.size v1):=ah ⟨ar,a2,u,aq,fun g hg=>Nat.le_trans E.size (ao g hg)⟩
  have a5:w3.cell? ⟨w.heap.size,1,none⟩=some (.slice la l.length lc):=(m.out.below z).range 1 _ rfl
  have F:=ah (Q.out.below z)
  have P:=ah z
  obtain ⟨K,k1,rfl,_⟩:=u.open
  clear ar a2 u aq ao a0 z HL E R
  go_wp2_with fail
  refine ⟨a5,?_⟩
  refine WL.on 6 ?_
  have aa:Hid ((l.drop k).length=l.length-k):=ah (by rw [List.length_drop])
  have Z:Hid (∀r∈l.drop k,r∈t++l):=ah fun r d=>List.mem_append.2 (.inr (List.drop_subset _ _ d))
  have ac:=ah (jc _ (l.drop k) w3 F.out (fun r d=>(H.out r (Z.out r d)).2) (by have:=aa.out;have:=a7.out;omega))
  go_wp2_with fail
  refine ac.out.mono ?_
  rintro e w4 ⟨v2,rfl,B,S⟩
  obtain ⟨L,k2,rfl⟩:=bO B
  have A:Below M.heap.size M w4:=P.out.trans (S.mono P.out.size)
  have af:w4.cell? ⟨w.heap.size,1,none⟩=some (.slice la l.length lc):=(m.out.below A).range 1 _ rfl
  have G:=o.out.below A
  obtain ⟨WE,f⟩:∃x,w4.setCells (w.heap.size+1) 0 [.slice K s.length k1,.slice L (l.drop k).length k2]=x:=⟨_,rfl⟩
  have O:WE.rangeAt (w.heap.size+1) 0 [.slice K s.length k1,.slice L (l.drop k).length k2]:=by rw [←f];exact (G.set (us:=[.slice K s.length k1,.slice L (l.drop k).length k2]) rfl).range
  have U:=G.there
  have j:Hid (s.Perm V∧jh s∧qj w WE (.slice K s.length k1) (.slice L (l.drop k).length k2) s (l.drop k)∧Below w.heap.size w WE):=ah (by
   rw [←f]
   obtain ⟨g1,g2,g3,g4,g5⟩:=H1.out
   have an:=bA [.slice K s.length k1,.slice L (l.drop k).length k2] 0 w4 (World.grownBy.refl w4 (some (w.heap.size+1)))
   have am:=FD rfl B (fun r d=>(H.out r (Z.out r d)).2)
   have bi:=P.out.size
   refine ⟨g1,g2,⟨⟨bM.zD (g3.below S) an fun b hb e=> ?_,bM.zD am an fun b hb e=> ?_,g4,xL B,fun r d=> ?_⟩,fun g hg=> ?_,fun g hg=> ?_⟩,below_setCells _ (by omega) _ _ _ (C.out.trans (A.mono C.out.size))⟩
   ·have:=g5 b hb;cases e;omega
   ·have:=(B.lt b hb).1;cases e;omega
   ·rcases List.mem_append.1 d with d|d
    ·exact ad.out r (g1.mem_iff.1 d)
    exact H.out r (Z.out r d)
   ·have:=g5 g hg;omega
   have:=(B.lt g hg).1;omega)
  have N:=ah f
  rw [aa.out] at O N j
  have ba:(prog.info? 51).map (·.size)=some ([.slice K s.length k1,.slice L (l.length-k) k2]:List Value).length:=bN
  rw [aa.out]
  clear B S A G f ac P H1 F
  go_wp2_with fail
  refine ⟨af,?_⟩
  refine WL.take (i:=7) (v:=.agg #[.slice K s.length k1,.slice L (l.length-k) k2]) rfl (by kernel_rfl) (by decide) (by decide +kernel) (by decide +kernel) (fun _ _ _ h=>h) rfl (by intro w' _;go_simp) af ?_
  simp only [Act.put,nz]
  refine WL.last2 (n:=8) rfl rfl rfl (by decide +kernel) (by decide +kernel) (by decide +kernel) ?_
  refine aj rfl 51 _ _ rfl (w.heap.size+1) 0 [.slice K s.length k1,.slice L (l.length-k) k2] rfl rfl 2 rfl U ap.out (by intro v hv;simp at hv;rcases hv with rfl|rfl<;>rfl) ?_
  rw [N.out]
  simp only [Act.put,nz]
  go_wp2_with fail
  refine Dp rfl (w.heap.size+1) 0 rfl [.slice K s.length k1,.slice L (l.length-k) k2] _ O underlying51 rfl ba rfl _ rfl ?_
  exact a3.out s _ _ _ j.out.1 j.out.2.1 j.out.2.2.1 j.out.2.2.2
end
end Go.Proofs.YtlhcoanbhnphgaaGreatDoor
