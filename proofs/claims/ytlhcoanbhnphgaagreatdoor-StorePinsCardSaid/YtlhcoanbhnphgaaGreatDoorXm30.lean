/- A part of this claim. -/
import Derived.Test.YtlhcoanbhnphgaaGreatDoorShelfA
import Derived.Test.YtlhcoanbhnphgaaGreatDoorXm29
namespace Go.Proofs.YtlhcoanbhnphgaaGreatDoor
open Tryz
set_option maxHeartbeats 64000000
set_option maxRecDepth 100000
set_option linter.all false
section
open Go.RowKit Go.Maps
def chV (l:List (Idl×Int)):List Value:=(l.map chC).flatten
theorem jJ {c:Idl×Int} (h:c.1.length=32):(chC c).length=33:=by unfold chC;rw [List.length_append,av,h];rfl
theorem vS (c:Idl×Int):∀u∈chC c,u.oneCell'=true:=fun u hu=>by
 unfold chC at hu
 rcases List.mem_append.1 hu with h|h
 ·exact aJ _ u h
 simp at h;rw [h];rfl
theorem Il {l:List (Idl×Int)} (h:∀c∈l,c.1.length=32):(chV l).length=l.length*33:=by
 induction l with
 | nil=>rfl
 | cons r l ih =>
  unfold chV at ih ⊢
  rw [List.map_cons,List.flatten_cons,List.length_append,jJ (h r (List.mem_cons_self ..)),ih fun x hx=>h x (List.mem_cons_of_mem _ hx),List.length_cons,Nat.succ_mul];omega
theorem vR (a b:List (Idl×Int)):chV (a++b)=chV a++chV b:=by unfold chV;rw [List.map_append,List.flatten_append]
theorem Pb (l:List (Idl×Int)):∀u∈chV l,u.oneCell'=true:=fun u hu=>by
 obtain ⟨c,b,a⟩:=List.mem_flatten.1 hu
 obtain ⟨r,_,rfl⟩:=List.mem_map.1 b
 exact vS r u a
theorem OM:∃a:Array Value,(prog.info? 259).map (fun i=>(i.zero,i.size,i.bytes))=some (some (.agg a),33,40)∧a.size=33:=⟨#[.int .u8 0,.int .u8 0,.int .u8 0,.int .u8 0,.int .u8 0,.int .u8 0,.int .u8 0,.int .u8 0,.int .u8 0,.int .u8 0,.int .u8 0,.int .u8 0,.int .u8 0,.int .u8 0,.int .u8 0,.int .u8 0,.int .u8 0,.int .u8 0,.int .u8 0,.int .u8 0,.int .u8 0,.int .u8 0,.int .u8 0,.int .u8 0,.int .u8 0,.int .u8 0,.int .u8 0,.int .u8 0,.int .u8 0,.int .u8 0,.int .u8 0,.int .u8 0]++ #[.int .i64 0],by kernel_rfl,rfl⟩
theorem x9:(prog.info? 259).map (·.size)=some 33:=by kernel_rfl
theorem rJ:∃a:Array Value,(∀w,(zeroValue 259).run prog w= .ok (.agg a) w)∧a.size=33:=⟨#[.int .u8 0,.int .u8 0,.int .u8 0,.int .u8 0,.int .u8 0,.int .u8 0,.int .u8 0,.int .u8 0,.int .u8 0,.int .u8 0,.int .u8 0,.int .u8 0,.int .u8 0,.int .u8 0,.int .u8 0,.int .u8 0,.int .u8 0,.int .u8 0,.int .u8 0,.int .u8 0,.int .u8 0,.int .u8 0,.int .u8 0,.int .u8 0,.int .u8 0,.int .u8 0,.int .u8 0,.int .u8 0,.int .u8 0,.int .u8 0,.int .u8 0,.int .u8 0]++ #[.int .i64 0],fun w=>by kernel_rfl,rfl⟩
theorem fV {w:World} {ops:Array Oper} {rest:List Oper} {o:Oper} {a:Act} {Q:Exit→Act→World→Prop} (g:o.guard=none) (s x:Operand)
  (C:o.op= .call { callee:=.builtin .append,args:=#[s,x],argTypes:=#[255,255] }) (base:Nat) (v:Value) (n:Nat) (xs:List Value) (A:a.eval s=v) (e:bQ w base 33 v n xs)
  (i:Option Addr) (m c:Nat) (l:List (Idl×Int)) (hx:a.eval x= .slice i m c) (hm:l.length=m) (y:∀r∈l,r.1.length=32) (b:0<m→ ∃z,i=some z∧ ∀j u,(chV l)[j]? = some u→w.cell? (z.add j)=some u) (E:n+m≤10000000) (d:base≤w.heap.size)
  (h:∀p w',bQ w' base 33 p (n+m) (xs++chV l)→w.grownBy w' v.ownBlock→Fr w v p→wpList prog ops Q rest (a.put o.dst p) w'):wpList prog ops Q (o::rest) a w:=by
 obtain ⟨F,B,t⟩:=OM
 obtain ⟨D,hi,q,f,k⟩:=info_parts B
 exact dM g s x 255 C base 259 D _ 33 40 underlying255 hi q f k t (by decide) v n xs A e i m c (chV l) hx (by rw [Il y,hm]) b (Pb l) (by unfold maxLen;omega) (by omega) d h
theorem rM (x:Idl) (k:Int) (hx:x.length=32) (w:World):(Instr.build 259 #[(0,.agg (idC x).toArray),(1,.int .i64 k)]).run prog w= .ok (.agg (chC (x,k)).toArray) w:=by
 rcases x with _|⟨F,x⟩
 ·simp at hx
 rcases x with _|⟨a1,x⟩
 ·simp at hx
 rcases x with _|⟨a2,x⟩
 ·simp at hx
 rcases x with _|⟨a3,x⟩
 ·simp at hx
 rcases x with _|⟨a4,x⟩
 ·simp at hx
 rcases x with _|⟨a5,x⟩
 ·simp at hx
 rcases x with _|⟨D,x⟩
 ·simp at hx
 rcases x with _|⟨E,x⟩
 ·simp at hx
 rcases x with _|⟨B,x⟩
 ·simp at hx
 rcases x with _|⟨C,x⟩
 ·simp at hx
 rcases x with _|⟨t,x⟩
 ·simp at hx
 rcases x with _|⟨n,x⟩
 ·simp at hx
 rcases x with _|⟨h,x⟩
 ·simp at hx
 rcases x with _|⟨u,x⟩
 ·simp at hx
 rcases x with _|⟨g,x⟩
 ·simp at hx
 rcases x with _|⟨s,x⟩
 ·simp at hx
 rcases x with _|⟨v,x⟩
 ·simp at hx
 rcases x with _|⟨m,x⟩
 ·simp at hx
 rcases x with _|⟨i,x⟩
 ·simp at hx
 rcases x with _|⟨j,x⟩
 ·simp at hx
 rcases x with _|⟨e,x⟩
 ·simp at hx
 rcases x with _|⟨b,x⟩
 ·simp at hx
 rcases x with _|⟨f,x⟩
 ·simp at hx
 rcases x with _|⟨y,x⟩
 ·simp at hx
 rcases x with _|⟨l,x⟩
 ·simp at hx
 rcases x with _|⟨r,x⟩
 ·simp at hx
 rcases x with _|⟨z,x⟩
 ·simp at hx
 rcases x with _|⟨o,x⟩
 ·simp at hx
 rcases x with _|⟨p,x⟩
 ·simp at hx
 rcases x with _|⟨d,x⟩
 ·simp at hx
 rcases x with _|⟨q,x⟩
 ·simp at hx
 rcases x with _|⟨A,x⟩
 ·simp at hx
 cases x with
 | nil=>exact run_build w 259 _ _ (by kernel_rfl)
 | cons a x=>simp at hx
theorem KL (x:Idl) (hx:x.length=32) (w:World):(Instr.build 259 #[(0,.agg (idC x).toArray)]).run prog w= .ok (.agg (chC (x,0)).toArray) w:=by
 rcases x with _|⟨E,x⟩
 ·simp at hx
 rcases x with _|⟨a1,x⟩
 ·simp at hx
 rcases x with _|⟨a2,x⟩
 ·simp at hx
 rcases x with _|⟨a3,x⟩
 ·simp at hx
 rcases x with _|⟨a4,x⟩
 ·simp at hx
 rcases x with _|⟨a5,x⟩
 ·simp at hx
 rcases x with _|⟨C,x⟩
 ·simp at hx
 rcases x with _|⟨D,x⟩
 ·simp at hx
 rcases x with _|⟨A,x⟩
 ·simp at hx
 rcases x with _|⟨B,x⟩
 ·simp at hx
 rcases x with _|⟨s,x⟩
 ·simp at hx
 rcases x with _|⟨m,x⟩
 ·simp at hx
 rcases x with _|⟨h,x⟩
 ·simp at hx
 rcases x with _|⟨t,x⟩
 ·simp at hx
 rcases x with _|⟨g,x⟩
 ·simp at hx
 rcases x with _|⟨r,x⟩
 ·simp at hx
 rcases x with _|⟨u,x⟩
 ·simp at hx
 rcases x with _|⟨l,x⟩
 ·simp at hx
 rcases x with _|⟨i,x⟩
 ·simp at hx
 rcases x with _|⟨j,x⟩
 ·simp at hx
 rcases x with _|⟨e,x⟩
 ·simp at hx
 rcases x with _|⟨b,x⟩
 ·simp at hx
 rcases x with _|⟨f,x⟩
 ·simp at hx
 rcases x with _|⟨v,x⟩
 ·simp at hx
 rcases x with _|⟨k,x⟩
 ·simp at hx
 rcases x with _|⟨q,x⟩
 ·simp at hx
 rcases x with _|⟨y,x⟩
 ·simp at hx
 rcases x with _|⟨n,x⟩
 ·simp at hx
 rcases x with _|⟨o,x⟩
 ·simp at hx
 rcases x with _|⟨d,x⟩
 ·simp at hx
 rcases x with _|⟨p,x⟩
 ·simp at hx
 rcases x with _|⟨z,x⟩
 ·simp at hx
 cases x with
 | nil=>exact run_build w 259 _ _ (by kernel_rfl)
 | cons a x=>simp at hx
theorem kJ {w:World} {ops:Array Oper} {rest:List Oper} {o m:Oper} {a:Act} {Q:Exit→Act→World→Prop} (J:o.guard=none) (L:m.guard=none) (x s:Operand) (k2:Nat) (D:o.op= .buildSlice 255 1 #[(0,x)]) (p:o.dst=some k2)
  (y:m.op= .call { callee:=.builtin .append,args:=#[s,.tmp k2],argTypes:=#[255,255] }) (C:k2<a.tmps.size) (c:Idl×Int) (g:c.1.length=32) (hx:a.eval x= .agg (chC c).toArray)
  (base:Nat) (v:Value) (n:Nat) (l:List (Idl×Int)) (I:∀u,(a.put (some k2) u).eval s=v) (d:bQ w base 33 v n (chV l)) (G:n≤1000000) (A:base≤w.heap.size)
  (h:∀f w' u,bQ w' base 33 f (n+1) (chV (l++[c]))→(∀B,B≤w.heap.size→(∀k,v.ownBlock=some k→B≤k)→Below B w w')→(∀S:Nat→Prop,(∀k,v.ownBlock=some k→S k)→Chg S w w')→(∀k,f.ownBlock=some k→v.ownBlock=some k∨w.heap.size≤k)→wpList prog ops Q rest ((a.put (some k2) u).put m.dst f) w'):wpList prog ops Q (o::m::rest) a w:=by
 obtain ⟨M,q,N⟩:=rJ
 have t:(chC c).length=33:=jJ g
 refine aG J x 255 259 D (chC c) M hx underlying255 (fun w=>by rw [t];kernel_rfl) q (by omega) (by omega) ?_
 rw [p]
 have E:=ak.new w 259 (chC c)
 have b:Below w.heap.size w (w.alloc (.cells (chC c).toArray 259)):=bal
 have z:(w.alloc (.cells (chC c).toArray 259)).heap.size=w.heap.size+1:=by simp
 generalize w.alloc (.cells (chC c).toArray 259)=W at E b z ⊢
 refine fV L s (.tmp k2) y base v n (chV l) (I _) (d.below b) (some ⟨w.heap.size,0,none⟩) 1 1 [c] (by simp [Act.put,Act.eval,C]) rfl (fun r F=>by simp at F;rw [F];exact g) (fun _=>⟨_,rfl,fun j u hu=>by
  rw [Addr.add_mid]
  have:chV [c]=chC c:=by simp [chV]
  rw [this] at hu
  exact E.range j u hu⟩) (by omega) (by omega) ?_
 intro f w' g1 g2 g3
 rw [←vR] at g1
 refine h f w' _ g1 (fun B H O=>(b.mono H).trans ?_) (fun S hS=>(Chg.of_below b).trans ?_) (fun k i=> ?_)
 ·exact (Below.refl B W).grown g2 (by omega) O
 ·exact ⟨g2.os,g2.tape,g2.output,g2.size,fun k i G=>g2.block k i fun e=>G (hS k e.symm)⟩
 rcases g3 with e|K
 ·exact .inl (by rw [←e];exact i)
 exact .inr (by have:=K k i;omega)
theorem bQ.qb {w:World} {B sz n:Nat} {v:Value} {xs:List Value} (h:bQ w B sz v n xs):∀g,v.ownBlock=some g→B≤g:=fun g e=>by
 rcases h.2 with ⟨rfl,_⟩|⟨g1,off,cap,rfl,hb,_⟩
 ·cases e
 cases e;exact hb
theorem bQ.base {w:World} {B a sz n:Nat} {v:Value} {xs:List Value} (h:bQ w B sz v n xs) (d:a≤B):bQ w a sz v n xs:=by
 refine ⟨h.1,?_⟩
 rcases h.2 with b|⟨g1,off,cap,e,hb,f⟩
 ·exact .inl b
 exact .inr ⟨g1,off,cap,e,Nat.le_trans d hb,f⟩
theorem fT.QK {w:World} {v:Value} {l:List Ent} (h:fT w v l):∃a cap,v= .slice a l.length cap∧l.length≤maxLen∧(l≠[]→ ∃b off,a=some ⟨b,off,none⟩∧b<w.heap.size∧ ∀k (f:k<l.length),w.rangeAt b (off+k*34) (dz l[k])):=by
 obtain ⟨a,cap,rfl,hm,h⟩:=h
 rw [List.length_map] at hm ⊢
 refine ⟨a,cap,rfl,hm,fun d=> ?_⟩
 obtain ⟨b,off,e,i,g⟩:=h (by simpa using d)
 refine ⟨b,off,e,i,fun k f=> ?_⟩
 have:=g k (by simpa using f)
 rw [List.getElem_map] at this
 exact this
theorem Qq:∃a:Array Value,(∀w,(zeroValue 217).run prog w= .ok (.agg a) w)∧a.size=34:=⟨#[.string ⟨#[]⟩,.int .i64 0,.int .u8 0,.int .u8 0,.int .u8 0,.int .u8 0,.int .u8 0,.int .u8 0,.int .u8 0,.int .u8 0,.int .u8 0,.int .u8 0,.int .u8 0,.int .u8 0,.int .u8 0,.int .u8 0,.int .u8 0,.int .u8 0,.int .u8 0,.int .u8 0,.int .u8 0,.int .u8 0,.int .u8 0,.int .u8 0,.int .u8 0,.int .u8 0,.int .u8 0,.int .u8 0,.int .u8 0,.int .u8 0,.int .u8 0,.int .u8 0,.int .u8 0,.int .u8 0],fun w=>by kernel_rfl,rfl⟩
def Oa (k:Int) (w:World) (e:Ending) (w':World):Prop:=∃v cs,e= .returned v∧bQ w' w.heap.size 33 v cs.length (chV cs)∧(∀c∈cs,c.1.length=32∧0≤c.2∧c.2≤3)∧cs.length≤40∧(k=1→cs=[])∧Below w.heap.size w w'
theorem A8 {k:Int} {w w':World} (hb:Below w.heap.size w w'):Oa k w (.returned (.slice none 0 0)) w':=by
 refine ⟨_,[],rfl,iD _ _ _,?_,by simp,fun _=>rfl,hb⟩
 intro c a
 cases a
theorem zF (k:Int) (s:ByteArray) (w:World):Calls prog 224 #[.agg #[.int .i64 k,.string s]] w (Oa k w):=by
 obtain ⟨zi,bj,bd⟩:=oP
 have HR:=ah (fun w=>Am k s w)
 have Q:Hid (∀o,Below w.heap.size w (w.alloc o)):=ah (fun o=>bal)
 cases hr:aB ⟨k,s⟩ with
 | false =>
  have q:=ah hr
  clear hr
  go_enter func224,ntmps224
  go_wp2_with fail
  refine (HR.out _).mono ?_
  intro e w1 h
  obtain ⟨⟨p,rfl,_,_,_⟩,hb⟩:=h
  rw [q.out]
  have K:=ah ((Q.out _).trans (hb.mono (Q.out _).size))
  clear hb
  go_wp2_with fail
  go_ret
  exact A8 K.out
 | true =>
  have q:=ah hr
  clear hr
  obtain ⟨W0,L⟩:∃W,w.alloc (.cells #[.int .i64 k,.string s] 33)=W:=⟨_,rfl⟩
  have M:ak W0 w.heap.size 33 [.int .i64 k,.string s]:=by rw [←L];exact ak.new w 33 [.int .i64 k,.string s]
  have al:Below w.heap.size w W0:=by rw [←L];exact bal
  have c0:W0.cell? ⟨w.heap.size,0,none⟩=some (.int .i64 k):=M.range 0 _ rfl
  have c1:W0.cell? ⟨w.heap.size,1,none⟩=some (.string s):=M.range 1 _ rfl
  have a5:=ah M
  have a9:=ah al
  have ap:=ah L
  have a7:Hid (k=1∨k=2∨k=3):=ah (by
   have h:=q.out
   unfold aB at h
   rw [Bool.and_eq_true] at h
   by_cases h1:k=1
   ·exact .inl h1
   by_cases h2:k=2
   ·exact .inr (.inl h2)
   by_cases h3:k=3
   ·exact .inr (.inr h3)
   rw [if_neg h1,if_neg h2,if_neg h3] at h;exact absurd h.2 (by decide))
  clear L M al Q
  obtain ⟨zn,bn,a0⟩:=Qq
  have A:=ah bR
  have a3:(prog.info? 217).map (·.size)=some 34:=by kernel_rfl
  go_enter func224,ntmps224
  go_upto_region 1 with fail
  rw [ap.out]
  clear ap
  go_wp2_with fail
  refine (HR.out W0).mono ?_
  intro e w1 h
  obtain ⟨⟨p,rfl,h2,h3,h1⟩,hb⟩:=h
  rw [q.out]
  have K:=bth a9 hb
  have am:=ah (a5.out.below hb)
  have d0:w1.cell? ⟨w.heap.size,0,none⟩=some (.int .i64 k):=am.out.range 0 _ rfl
  have aq:Hid (k≠2→ ∃b,p= .pointer (some ⟨b,0,none⟩)∧w1.cell? ⟨b,1,none⟩=some (.slice none 0 0)):=ah (h1 q.out)
  have a8:=ah (h2 q.out)
  have bb:=ah (h3 q.out)
  clear h1 h2 h3 hb c0 c1
  obtain rfl|rfl|rfl:=a7.out
  ·obtain ⟨b,rfl,e1⟩:=aq.out (by decide)
   go_wp2_with fail
   refine wp_loop_rounds 1 ?_
   rw [rounds_succ]
   go_wp2_with fail
   go_ret
   exact A8 K.out
  ·obtain ⟨b,v,rfl,a4,e1,V,J⟩:=a8.out rfl
   obtain ⟨es,z⟩:∃es,(bJ s).getD []=es:=⟨_,rfl⟩
   rw [z] at J
   have az:Hid (es.length≤32∧ ∀e∈es,e.id.length=32∧(e.kind=1∨e.kind=2)):=ah (by
    cases ht:bJ s with
    | none=>rw [ht] at z;subst z;exact ⟨by simp,fun e he=>by cases he⟩
    | some es' =>
     rw [ht] at z
     dsimp at z
     subst z
     exact ⟨(mY ht).1,fun e he=>⟨((mY ht).2 e he).1,((mY ht).2 e he).2.2⟩⟩)
   obtain ⟨ao,cap,rfl,bf,hv⟩:=J.QK
   have HV:=ah hv
   have bk:=az.out.1
   clear z J hv V
   go_wp2_with fail
   go_loopw [5,22] (fun s5 Y wr=> ∃(j:Nat) (cs:List (Idl×Int)),j≤es.length∧cs.length=j∧Y= .int .i64 j∧Hid (bQ wr w1.heap.size 33 s5 j (chV cs))∧Hid (∀c∈cs,c.1.length=32∧0≤c.2∧c.2≤3)∧Hid (Below w1.heap.size w1 wr)) (fun _ Y _=>(es.length-intOf Y).toNat)
   case atStart=>exact ⟨0,[],by omega,rfl,rfl,ah (iD _ _ _),ah (fun c N=>by cases N),ah (Below.refl _ _)⟩
   obtain ⟨n,rfl⟩:∃n:World,n=wr:=⟨_,rfl⟩
   obtain ⟨j,cs,hj,G,rfl,P,HC,d⟩:=hrel
   have bi:w.heap.size≤n.heap.size:=Nat.le_trans K.out.size d.out.size
   by_cases g:j<es.length
   ·obtain ⟨b2,off,rfl,H,f⟩:=HV.out (by intro e;rw [e] at g;simp at g)
    have Z:=ay (f j g) d.out H
    obtain ⟨hid,U⟩:=az.out.2 es[j] (List.getElem_mem g)
    clear f
    generalize es[j]=a at Z hid U
    have ar:(dz a).length=34:=by simp [dz,av,hid]
    have ax:(prog.info? 217).map (·.size)=some (dz a).length:=by rw [ar];exact a3
    have B:(prog.info? 42).map (·.size)=some (idC a.id).length:=by rw [av,hid];exact A.out
    have ae:Hid (∀u∈dz a,u.oneCell'=true):=ah (by
     intro u hu
     unfold dz at hu
     rcases List.mem_append.1 hu with h|h
     ·simp at h;rcases h with rfl|rfl<;>rfl
     exact aJ _ u h)
    have k0:(0:Int)≤j:=by omega
    have k1:(j:Int)<es.length:=by omega
    have d1:decide ((j:Int)<es.length)=true:=decide_eq_true k1
    have ai:=ah Z
    have T:=ah ar
    have m:=ah hid
    have be:=ah U
    clear Z hid U
    go_upto_region 8 with (first|(refine wpList_load_mid rfl 217 _ rfl b2 (off+j*34) rfl (dz a) _ ai.out underlying217 rfl ax ?_)|(refine aD rfl 217 _ _ rfl zn (dz a) rfl rfl 34 T.out a0 a3 ae.out ?_;intro wn r y aa))
    have bm:=ah r
    have ad:=ah y
    have n1:wn.cell? ⟨n.heap.size,1,none⟩=some (.int .i64 (a.kind:Int)):=r.range 1 _ rfl
    have S:Hid (wn.rangeAt n.heap.size 2 (idC a.id)):=ah (fun i u hu=>by
     have:=r.range (i+2) u (by unfold dz;exact hu)
     rwa [show 0+(i+2)=2+i from by omega] at this)
    have ab:=ah (P.out.below y)
    have F:wn.heap.size=n.heap.size+1:=aa.out
    have I:=ah F
    have ba:=rM a.id (a.kind:Int) m.out
    clear r y F
    clear ba
    refine wp_region_lit ?_
    refine aW rfl u5 (by first|rfl|(go_simp;done)|(go_simp;rfl)) ?_
    simp only [Act.put,nz]
    refine aW rfl (.pointer (some ⟨n.heap.size,2,none⟩)) (by first|rfl|(go_simp;done)|(go_simp;rfl)) ?_
    simp only [Act.put,nz]
    refine wpList_load_mid rfl 42 _ rfl n.heap.size 2 rfl (idC a.id) _ S.out underlying42 rfl B ?_
    simp only [Act.put,nz]
    refine aW rfl (.pointer (some ⟨n.heap.size,1,none⟩)) (by first|rfl|(go_simp;done)|(go_simp;rfl)) ?_
    simp only [Act.put,nz]
    refine aW rfl (.int .i64 (a.kind:Int)) (by first|rfl|(go_simp;done)|(go_simp;rfl)) ?_
    simp only [Act.put,nz]
    refine fF rfl 259 _ _ rfl _ _ (.agg (chC (a.id,(a.kind:Int))).toArray) rfl rfl (rM a.id (a.kind:Int) m.out wn) ?_
    simp only [Act.put,nz]
    refine kJ rfl rfl _ _ 32 rfl rfl rfl (by simp) (a.id,(a.kind:Int)) m.out rfl w1.heap.size u5 j cs (fun _=>rfl) ab.out (by omega) (by have:=I.out;have:=d.out.size;omega) ?_
    intro v' w' u g1 g2 g3 g4
    simp only [Act.put,nz]
    have D:=ah g1
    have af:=ah (d.out.trans ((ad.out.mono d.out.size).trans (g2 w1.heap.size (by have:=I.out;have:=d.out.size;omega) P.out.qb)))
    clear g1 g2 g3 g4
    go_wp2_with fail
    go_roundw
    case rel=>exact ⟨j+1,cs++[(a.id,(a.kind:Int))],by omega,by rw [List.length_append,G];rfl,by go_num,D,ah (fun c N=>by
     rcases List.mem_append.1 N with h|h
     ·exact HC.out c h
     simp at h
     rw [h]
     have:=be.out
     exact ⟨m.out,by show (0:Int)≤a.kind;omega,by show (a.kind:Int)≤3;omega⟩),af⟩
    case measure=>simp [intOf];omega
   have d1:decide ((j:Int)<es.length)=false:=decide_eq_false (by omega)
   have d0:n.cell? ⟨w.heap.size,0,none⟩=some (.int .i64 2):=(am.out.below d.out).range 0 _ rfl
   have HF:=ah (K.out.trans (d.out.mono K.out.size))
   have R:=ah (P.out.base K.out.size)
   go_wp2_with fail
   go_ret
   exact ⟨_,cs,rfl,by rw [G];exact R.out,HC.out,by omega,fun h=>absurd h (by decide),HF.out⟩
  obtain ⟨b,t,v,l,x,rfl,a4,a1,ac,V,O⟩:=bb.out rfl
  obtain ⟨b',e2,e1⟩:=aq.out (by decide)
  obtain rfl:b=b':=by
   injection e2 with e2
   injection e2 with e2
   injection e2
  obtain ⟨C,E,a6,_,_⟩:=rH a1
  dsimp only at C E a6
  obtain ⟨ao,cap,rfl,bf,hv⟩:=O.open
  have a2:w1.cell? ⟨b,34,none⟩=some (.slice ao l.length cap):=ac 32 _ (by unfold cmC;rw [List.getElem?_append_right (by rw [av,C];omega),av,C];rfl)
  have bc:Hid (w1.rangeAt b 2 (idC t)):=ah (fun i u hu=>ac i u (by unfold cmC;rw [List.getElem?_append_left (List.getElem?_eq_some_iff.1 hu).1];exact hu))
  have an:(prog.info? 42).map (·.size)=some (idC t).length:=by rw [av,C];exact A.out
  have HV:=ah hv
  have ag:=ah C
  have aE:=ah E
  clear hv O ac V a1 C E e2
  go_wp2_with fail
  refine wp_loop_rounds 1 ?_
  rw [rounds_succ]
  go_upto_region 11 with fail
  refine wp_region_lit ?_
  refine aW rfl (.slice none 0 0) (by first|rfl|(go_simp;done)|(go_simp;rfl)) ?_
  simp only [Act.put,nz]
  refine aW rfl (.pointer (some ⟨b,0,none⟩)) (by first|rfl|(go_simp;done)|(go_simp;rfl)) ?_
  simp only [Act.put,nz]
  refine aW rfl (.pointer (some ⟨b,0,none⟩)) (by first|rfl|(go_simp;done)|(go_simp;rfl)) ?_
  simp only [Act.put,nz]
  refine aW rfl (.pointer (some ⟨b,2,none⟩)) (by first|rfl|(go_simp;done)|(go_simp;rfl)) ?_
  simp only [Act.put,nz]
  refine aW rfl (.pointer (some ⟨b,2,none⟩)) (by first|rfl|(go_simp;done)|(go_simp;rfl)) ?_
  simp only [Act.put,nz]
  refine wpList_load_mid rfl 42 _ rfl b 2 rfl (idC t) _ bc.out underlying42 rfl an ?_
  simp only [Act.put,nz]
  refine fF rfl 259 _ _ rfl _ _ (.agg (chC (t,2)).toArray) rfl rfl (rM t 2 ag.out w1) ?_
  simp only [Act.put,nz]
  refine kJ rfl rfl _ _ 45 rfl rfl rfl (by simp) (t,2) ag.out rfl w1.heap.size (.slice none 0 0) 0 [] (fun _=>rfl) (iD _ _ _) (by omega) (Nat.le_refl _) ?_
  intro v1 w2 u1 g1 g2 g3 g4
  simp only [Act.put,nz]
  have D:=ah g1
  have aw:=ah (g2 w1.heap.size (Nat.le_refl _) (fun k hk=>by cases hk))
  have bh:w2.cell? ⟨b,34,none⟩=some (.slice ao l.length cap):=(aw.out.cell (p:=⟨b,34,none⟩) a4).trans a2
  clear g1 g2 g3 g4 a2 d0 e1
  go_wp2_with fail
  go_loopw [5,53] (fun s5 X wr=> ∃(j:Nat) (cs:List (Idl×Int)),j≤l.length∧cs.length=j+1∧X= .int .i64 j∧Hid (bQ wr w1.heap.size 33 s5 (j+1) (chV cs))∧Hid (∀c∈cs,c.1.length=32∧0≤c.2∧c.2≤3)∧Hid (Below w1.heap.size w1 wr)) (fun _ X _=>(l.length-intOf X).toNat)
  case atStart=>exact ⟨0,[(t,2)],by omega,rfl,rfl,D,ah (fun c N=>by simp at N;rw [N];exact ⟨ag.out,(by show (0:Int)≤2;omega),(by show (2:Int)≤3;omega)⟩),aw⟩
  obtain ⟨n,rfl⟩:∃n:World,n=wr:=⟨_,rfl⟩
  obtain ⟨j,cs,hj,G,rfl,P,HC,d⟩:=hrel
  by_cases g:j<l.length
  ·obtain ⟨b2,off,rfl,H,f⟩:=HV.out (by intro e;rw [e] at g;simp at g)
   have Z:=ay (f j g) d.out H
   have hid:=aE.out l[j] (List.getElem_mem g)
   clear f
   generalize l[j]=a at Z hid
   have B:(prog.info? 42).map (·.size)=some (idC a).length:=by rw [av,hid];exact A.out
   have ae:=ah (aJ a)
   have k0:(0:Int)≤j:=by omega
   have k1:(j:Int)<l.length:=by omega
   have d1:decide ((j:Int)<l.length)=true:=decide_eq_true k1
   have ai:=ah Z
   have T:Hid ((idC a).length=32):=ah (by rw [av,hid])
   have m:=ah hid
   clear Z hid
   go_upto_region 15 with (first|(refine wpList_load_mid rfl 42 _ rfl b2 (off+j*32) rfl (idC a) _ ai.out underlying42 rfl B ?_)|(refine aD rfl 42 _ _ rfl zi (idC a) rfl rfl 32 T.out bd A.out ae.out ?_;intro wn r y aa))
   have ad:=ah y
   have S:=ah r.range
   have ab:=ah (P.out.below y)
   have F:wn.heap.size=n.heap.size+1:=aa.out
   have I:=ah F
   clear r y F
   refine wp_region_lit ?_
   refine aW rfl u5 (by first|rfl|(go_simp;done)|(go_simp;rfl)) ?_
   simp only [Act.put,nz]
   refine wpList_load_mid rfl 42 _ rfl n.heap.size 0 rfl (idC a) _ S.out underlying42 rfl B ?_
   simp only [Act.put,nz]
   refine fF rfl 259 _ _ rfl _ _ (.agg (chC (a,3)).toArray) rfl rfl (rM a 3 m.out wn) ?_
   simp only [Act.put,nz]
   refine kJ rfl rfl _ _ 60 rfl rfl rfl (by simp) (a,3) m.out rfl w1.heap.size u5 (j+1) cs (fun _=>rfl) ab.out (by omega) (by have:=I.out;have:=d.out.size;omega) ?_
   intro v' w' u g1 g2 g3 g4
   simp only [Act.put,nz]
   have D:=ah g1
   have af:=ah (d.out.trans ((ad.out.mono d.out.size).trans (g2 w1.heap.size (by have:=I.out;have:=d.out.size;omega) P.out.qb)))
   clear g1 g2 g3 g4
   go_wp2_with fail
   go_roundw
   case rel=>exact ⟨j+1,cs++[(a,3)],by omega,by rw [List.length_append,G];rfl,by go_num,D,ah (fun c N=>by
    rcases List.mem_append.1 N with h|h
    ·exact HC.out c h
    simp at h
    rw [h]
    exact ⟨m.out,(by show (0:Int)≤3;omega),(by show (3:Int)≤3;omega)⟩),af⟩
   case measure=>simp [intOf];omega
  have d1:decide ((j:Int)<l.length)=false:=decide_eq_false (by omega)
  have HF:=ah (K.out.trans (d.out.mono K.out.size))
  have R:=ah (P.out.base K.out.size)
  go_wp2_with fail
  go_ret
  exact ⟨_,cs,rfl,by rw [G];exact R.out,HC.out,by omega,fun h=>absurd h (by decide),HF.out⟩
def lkN:LK:=fun _ _=>none
theorem Nu {w w':World} {q:Int} {M:Nat} (h:GL w.heap.size 3 w w') (hb:ak w' (w.heap.size+1) 77 [.map (some w.heap.size),.int .i64 q,.int .i64 0,.bool false,.bool false]) (i:5≤w.heap.size):DV (fun b=>b<w.heap.size) 0 0 M w' (w.heap.size+1) q lkN (fun _=>true):=by
 have f:fM 0 fun _:ByteArray=>(none:Option Nat):=⟨[],List.nodup_nil,by simp,(by intro x hx;cases hx),by intro x;simp⟩
 refine ⟨⟨w.heap.size,fun k=>w.heap.size+4+3*k,fun k=>w.heap.size+2+3*k,fun k=>w.heap.size+3+3*k,fun _=> .slice none 0 0⟩,⟨fun _ _=>none,fun _ _=>none,fun _=>(⟨#[]⟩,0)⟩,?_,fun k x a=>rfl,fun k a _=>rfl⟩
 refine ⟨hb,?_,fun k a=>h.dirs k a,fun k a=>⟨0,[],World.ownsRow_nil _ _ _ _,Nat.le_refl _⟩,fun k j b a d e=>(by cases e),fun k a=>⟨(h.seen k a).1,f⟩,fun k a=>⟨(h.seen k a).2,f⟩,fun k x b a e=>(by rcases e with e|e<;>cases e),fun k j x y b a d e=>(by cases e),⟨?_,?_,fun k a=>⟨?_,?_,?_⟩,fun k b a e=>(by cases e)⟩,fun k a=>⟨?_,?_⟩,fun k j a d=> ?_,fun k j a d e=> ?_,fun k j a d e=> ?_,fun k j a d e=> ?_,fun b hb=> ?_,fun b hb=> ?_⟩
 ·refine Eq.mp (congrArg (aZ bF w' w.heap.size 3) (funext fun x=> ?_)) h.map
  split
  ·rename_i j d
   rw [d,if_pos (fJ d).1]
   rfl
  rename_i d
  rw [d]
  rfl
 all_goals (try dsimp only at *)
 all_goals (try have g:=h.size)
 all_goals omega
end
section
open Go.RowKit Go.Maps Go.Shelf
theorem jF {w:World} {b i:Nat} {v:Value} (h:w.cell? ⟨b,i,none⟩=some v):w.setCell ⟨b,i,none⟩ v=w:=by
 have a:(w.setCell ⟨b,i,none⟩ v).heap=w.heap:=by
  unfold World.setCell
  dsimp only
  refine Array.ext_getElem? fun j=> ?_
  rw [Array.getElem?_modify]
  by_cases e:b=j
  ·subst e
   rw [if_pos rfl]
   unfold World.cell? at h
   dsimp only at h
   split at h
   ·rename_i cs g fr a
    rw [a]
    dsimp only [Option.map_some]
    have:cs.setIfInBounds i v=cs:=by
     refine Array.ext_getElem? fun k=> ?_
     rw [Array.getElem?_setIfInBounds]
     by_cases e:i=k
     ·subst e
      rw [if_pos rfl]
      have d:cs[i]? = some v:=h
      obtain ⟨f,_⟩:=Array.getElem?_eq_some_iff.1 d
      rw [if_pos f]
      exact d.symm
     rw [if_neg e]
    rw [show (if Option.isSome (none:Option _)=true then cs else cs.setIfInBounds i v)=cs.setIfInBounds i v from rfl,this]
   cases h
  rw [if_neg e]
 unfold World.setCell at a ⊢
 dsimp only at a
 rw [a]
section
variable {O S:Nat → Prop} {N R M:Nat} {w w':World} {g:Nat} {q:Int} {p:Pl} {m:Dm}
theorem DS.crashed {k nb:Nat} (h:DS O N R M w g q p m) (v:k<3) (l:Chg (fun b=>b=p.dir k) w w') (H:w.heap.size≤nb) (hm:aZ bF w' nb (N+R) (m.seen k)) (hd:GQ w' (p.dir k) nb (p.st k) (.slice none 0 0)) :
  DS O N R M w' g q { p with sn:=upN p.sn k nb,pd:=upN p.pd k (.slice none 0 0) } m:=by
 have o:∀ {b:Nat} {t:TypeId} {cs:List Value},ak w b t cs→t≠83→ ¬b=p.dir k:=fun B z hx=>(ak.ne B (h.dir k v) z) hx
 have r:∀ {α:Type} {enc:α→Value} {b n:Nat} {F:ByteArray→Option α},aZ enc w b n F→b≠p.dir k:=fun C e=>ak.gQ (h.dir k v) C e.symm
 have y:¬O nb:=fun G=>by have:=h.olt nb G;omega
 have f:∀j,upN p.sn k nb j=if j=k then nb else p.sn j:=fun j=>rfl
 refine ⟨h.box.chg l (o h.box (by decide)),h.top.chg l (r h.top),fun j d=> ?_,fun j d=> ?_,fun i j b hi d s u=> ?_,fun j d=> ?_,fun j d=>⟨(h.sett j d).1.chg l (r (h.sett j d).1),(h.sett j d).2⟩,fun j x b d hb=> ?_,h.one,⟨h.off.1,h.off.2.1,fun j d=>⟨(h.off.2.2.1 j d).1,?_,(h.off.2.2.1 j d).2.2⟩,fun j b d hb=> ?_⟩,fun j d=>⟨?_,(h.mtop j d).2⟩,fun i j hi d=> ?_,fun i j hi d e=> ?_,h.mtt,h.mdir,fun b hb=>Nat.lt_of_lt_of_le (h.olt b hb) l.size,h.ko⟩
 ·show GQ w' (p.dir j) (upN p.sn k nb j) (p.st j) (upN p.pd k (.slice none 0 0) j)
  by_cases e:j=k
  ·subst e;rw [aI,aI];exact hd
  rw [aF e,aF e]
  exact (h.dir j d).chg l (fun hx=>e (h.mdir j k d v hx))
 ·show PdR w' (upN p.pd k (.slice none 0 0) j) R
  by_cases e:j=k
  ·rw [e,aI];exact ⟨0,[],World.ownsRow_nil w' _ _ _,Nat.zero_le _⟩
  rw [aF e]
  obtain ⟨n,xs,q1,q2⟩:=h.pend j d
  exact ⟨n,xs,kF q1 l (fun b hb hx=>jy q1 (h.dir k v) (by decide) (hx▸hb)),q2⟩
 ·have s:(upN p.pd k (.slice none 0 0) i).ownBlock=some b:=s
  have u:(upN p.pd k (.slice none 0 0) j).ownBlock=some b:=u
  by_cases a:i=k
  ·rw [a,aI] at s;cases s
  by_cases c:j=k
  ·rw [c,aI] at u;cases u
  rw [aF a] at s
  rw [aF c] at u
  exact h.pone i j b hi d s u
 ·show aZ bF w' (upN p.sn k nb j) (N+R) (m.seen j)∧fM N (m.seen j)
  by_cases e:j=k
  ·subst e;rw [aI];exact ⟨hm,(h.seen j d).2⟩
  rw [aF e]
  exact ⟨(h.seen j d).1.chg l (r (h.seen j d).1),(h.seen j d).2⟩
 ·obtain ⟨q1,q2,E⟩:=h.file j x b d hb
  exact ⟨q1.chg l (o q1 (by decide)),q2,E⟩
 ·show ¬O (upN p.sn k nb j)
  rw [f]
  split
  ·exact y
  exact (h.off.2.2.1 j d).2.1
 ·have hb:(upN p.pd k (.slice none 0 0) j).ownBlock=some b:=hb
  by_cases e:j=k
  ·rw [e,aI] at hb;cases hb
  rw [aF e] at hb;exact h.off.2.2.2 j b d hb
 ·show p.top≠upN p.sn k nb j
  rw [f]
  split
  ·have:=h.top.lt;omega
  exact (h.mtop j d).1
 ·show upN p.sn k nb i≠p.st j
  rw [f]
  split
  ·have:=(h.sett j d).1.lt;omega
  exact h.mst i j hi d
 have e:upN p.sn k nb i=upN p.sn k nb j:=e
 rw [f,f] at e
 have D:=(h.seen i hi).1.lt
 have A:=(h.seen j d).1.lt
 by_cases a:i=k
 ·by_cases c:j=k
  ·rw [a,c]
  rw [if_pos a,if_neg c] at e;omega
 by_cases c:j=k
 ·rw [if_neg a,if_pos c] at e;omega
 rw [if_neg a,if_neg c] at e
 exact h.msn i j hi d e
end
theorem Jv (n:Int) (a:Nat) (w:World) (b:w.cell? ⟨a,0,none⟩=some (.slice none 0 0)):Calls prog 68 #[.int .i64 n,.pointer (some ⟨a,0,none⟩)] w fun e w'=>e= .returned (.int .i64 0)∧w'=w:=by
 go_enter func68,ntmps68
 go_wp2_with fail
 go_ret
 exact ⟨rfl,rfl⟩
theorem Gx {α:Type} {enc:α→Value} (b n:Nat) (f:ByteArray→Option α) (w:World) (h:aZ enc w b n f):Calls prog 69 #[.map (some b)] w fun e w'=>e= .returned (.map (some w.heap.size))∧aZ enc w' w.heap.size n f∧Below w.heap.size w w':=by
 obtain ⟨D,a,i⟩:=h
 have d:=AnyW.maps_Clone_owns Tryz.cloneD 9 eO b n D w a
 refine d.mono ?_
 rintro e w' ⟨rfl,h1,_,g⟩
 exact ⟨rfl,⟨D,h1,i⟩,g⟩
end
section
open Go.RowKit Go.Maps
section
variable {O:Nat → Prop} {N R M:Nat} {w:World} {g:Nat} {q:Int} {L:LK} {sy:Nat → Bool} {m:Dm}
def CrS (O:Nat→Prop) (N R M:Nat) (w:World) (g:Nat) (q:Int) (m:Dm) (wr:World):Prop:=∃p,DS O N R M wr g q p m∧Kp O w wr
theorem Gu (hv:DV O N R M w g q L sy) (hs:∀k,k<3→sy k=true) (C:∀k x d,k<3→L k x=some d→d.2=d.1.size) (hG:eP w) (hN:N+R≤900000) (hM:M≤1000000000) :
  Calls prog 33 #[.pointer (some ⟨g,0,none⟩),.slice none 0 0] w fun e w'=>e= .returned (.tuple #[])∧DV O N R M w' g q L sy∧Kp O w w':=by
 have cs:Hid (∀k,k<3→ ∃l:List ByteArray,rV l∧l.length≤N∧(∀x∈l,aU x=true)∧ ∀x,x∈l↔(L.dk k x).isSome=true):=ah fun k U=>hv.names U
 obtain ⟨p,m,h1,h2,h3⟩:=hv
 have bs:Hid (∀k x,k<3→L.dk k x=m.vis k x):=ah fun k x U=>by
  unfold LK.dk Dm.vis
  rw [h2 k x U]
  cases m.seen k x<;>rfl
 obtain ⟨W,hW⟩:∃W,w.alloc (.cells #[.slice none 0 0] 34)=W:=⟨_,rfl⟩
 have ac:Below w.heap.size w W:=by rw [←hW];exact bal
 have ab:W.cell? ⟨w.heap.size,0,none⟩=some (.slice none 0 0):=by rw [←hW];exact (ak.new w 34 [.slice none 0 0]).range 0 _ rfl
 have cp:W.heap.size=w.heap.size+1:=by rw [←hW];simp
 obtain ⟨E,Y⟩:∃E,Ou O w W=E:=⟨_,rfl⟩
 have a0:Hid (E w.heap.size):=ah (by rw [←Y];exact .inr ⟨Nat.le_refl _,by omega⟩)
 have ae:Hid (∀b,O b→E b):=ah (fun b hb=>by rw [←Y];exact .inl hb)
 have az:Hid (∀b,b<5→O b):=ah h1.ko
 have bz:Hid (CrS E N R M W g q m W):=ah ⟨p,by rw [←Y];exact h1.on ac,Kp.refl _ _⟩
 have cn:Hid (∀k,k<3→m.sett k=m.seen k):=ah fun k U=>h3 k U (hs k U)
 have aE:Hid (∀k x b,k<3→m.seen k x=some b→(m.dat b).2=(m.dat b).1.size):=ah fun k x b U hb=>C k x _ U (by rw [h2 k x U,hb];rfl)
 have b7:Hid (∀w',CrS E N R M W g q m w'→DV O N R M w' g q L sy∧Kp O w w'):=ah (fun w' h=>by
  obtain ⟨p',a1,a2⟩:=h
  exact ⟨⟨p',m,a1.sub ae.out az.out,h2,h3⟩,(Kp.of ac).trans (a2.sub fun b _ hb=>ae.out b hb)⟩)
 have Z:Hid (∀w',CrS E N R M W g q m w'→w'.cell? ⟨w.heap.size,0,none⟩=some (.slice none 0 0)):=ah (fun w' h=>by
  obtain ⟨p',a1,a2⟩:=h
  have:=a2.block (b:=w.heap.size) (by omega) a0.out
  unfold World.cell? at ab ⊢
  dsimp only at ab ⊢
  rw [this];exact ab)
 have br:Hid (∀w',CrS E N R M W g q m w'→w'.rangeAt 0 0 [.string iA,.string mF,.string wW]):=ah (fun w' h=>by
  obtain ⟨p',a1,a2⟩:=h
  exact ((hG.below ac).kp a2 fun b hb=>ae.out b (az.out b hb)).ord)
 have bn:Hid (∀(k:Nat) (h:k<3) (W:World),(Instr.index 78 (.agg #[.string iA,.string mF,.string wW]) (.int .i64 (k:Int))).run prog W= .ok (.string (bG k)) W):=ah (fun k h W=>by
  obtain rfl|rfl|rfl:k=0∨k=1∨k=2:=by omega
  all_goals kernel_rfl)
 have bx:(prog.info? 78).map (·.size)=some ([.string iA,.string mF,.string wW]:List Value).length:=by kernel_rfl
 have b6:=ah (Jv)
 have HW:=ah hW
 obtain ⟨pb,a4⟩:∃pb,w.heap.size=pb:=⟨_,rfl⟩
 rw [a4] at Z a0
 have ch:=ah a4
 have G:=br.out W bz.out
 clear hW ac ab cp Y h1 h2 h3 hs C hG a0 ae az
 go_enter func33,ntmps33
 go_upto_region 3 with fail
 rw [HW.out]
 clear HW ch a4
 go_wp2_with (refine wpList_load_mid rfl 78 _ rfl 0 0 rfl _ _ G underlying78 rfl bx ?_)
 clear G
 go_loopw [6,7,9,19] (fun _ _ _ i wr=> ∃k:Nat,i= .int .i64 (k:Int)∧k≤3∧Hid (CrS E N R M W g q m wr)) (fun _ _ _ i _=>(3-intOf i).toNat)
 case atStart=>exact ⟨0,rfl,by omega,bz⟩
 obtain ⟨o,rfl⟩:∃o:World,o=wr:=⟨_,rfl⟩
 obtain ⟨k,rfl,U,HS⟩:=hrel
 by_cases n:k<3
 ·have i1:(k:Int)<3:=by omega
  have a5:=bn.out k n
  have wi:IntKind.i64.wrap ((k:Int)+1)=(k:Int)+1:=by rw [IntKind.wrap_i64];omega
  have bh:=ah (Z.out o HS.out)
  obtain ⟨p,hd,K⟩:=HS.out
  have c0:o.cell? ⟨g,0,none⟩=some (.map (some p.top)):=ak.range hd.box 0 _ rfl
  have H:=hd.top.look underlying75 (ql o) (x:=bG k) rF
  rw [gV n] at H
  dsimp only [Option.map,Option.getD,bF] at H
  have HD:=ah hd
  have a8:=ah K
  generalize cr:bG k=dn at a5 H
  obtain ⟨t,ad⟩:∃t,p.dir k=t:=⟨_,rfl⟩
  have bo:=ah ad
  rw [ad] at H
  obtain ⟨xn,xs,ho,cl⟩:=hd.pend k n
  have bd:=bQ.iE ho
  have bm:∃(X:Option Addr) (V D:Nat),p.pd k= .slice X V D∧V≤900000∧V≤D∧D≤maxLen:=by
   rcases bd.2 with ⟨e1,e2⟩|⟨gb,off,cap,e1,_,_,e3,e4,_⟩
   ·exact ⟨none,0,0,e1,by omega,Nat.le_refl _,by unfold maxLen;omega⟩
   exact ⟨_,_,_,e1,by omega,e3,e4⟩
  obtain ⟨X,V,D,bj,cz,cx,co⟩:=bm
  have Q:=hd.dir k n
  rw [ad,bj] at Q
  obtain ⟨sn,a6⟩:∃sn,p.sn k=sn:=⟨_,rfl⟩
  obtain ⟨st,C⟩:∃st,p.st k=st:=⟨_,rfl⟩
  rw [a6,C] at Q
  have a9:=ah Q
  have bf:=ah C
  unfold maxLen at co
  have cE:=ah a6
  have a:o.drew.cell? ⟨t,2,none⟩=some (.slice X V D)∧o.drew.cell? ⟨pb,0,none⟩=some (.slice none 0 0):=⟨ak.range Q 2 _ rfl,bh.out⟩
  clear hd K ad ho bd bj Q a6 C cl cr
  go_upto_region 7 with fail
  refine tN 14 (fun x=>x.cell? ⟨t,2,none⟩=some (.slice X V D)∧x.cell? ⟨pb,0,none⟩=some (.slice none 0 0)) (by kernel_rfl) (by kernel_rfl) ?_
  refine WN.take (i:=0) (v:=?_) rfl (by kernel_rfl) (by decide) (by decide +kernel) (by decide +kernel) (fun _ _ _ h=>h) rfl ?_ a ?_
  rotate_left
  ·(intro w' f;(try dsimp only at f);go_simp;(try with_reducible rfl))
  simp only [Act.put,nz]
  refine WN.take (i:=1) (v:=?_) rfl (by kernel_rfl) (by decide) (by decide +kernel) (by decide +kernel) (fun _ _ _ h=>h) rfl ?_ a ?_
  rotate_left
  ·(intro w' f;(try dsimp only at f);go_simp;(try with_reducible rfl))
  simp only [Act.put,nz]
  refine WN.take (i:=2) (v:=?_) rfl (by kernel_rfl) (by decide) (by decide +kernel) (by decide +kernel) (fun _ _ _ h=>h) rfl ?_ a ?_
  rotate_left
  ·(intro w' f;(try dsimp only at f);go_simp;(try with_reducible rfl))
  simp only [Act.put,nz]
  refine WN.take (i:=3) (v:=?_) rfl (by kernel_rfl) (by decide) (by decide +kernel) (by decide +kernel) (fun _ _ _ h=>h) rfl ?_ a ?_
  rotate_left
  ·(intro w' f;(try dsimp only at f);go_simp;(try with_reducible rfl))
  simp only [Act.put,nz]
  refine WN.take (i:=4) (v:=?_) rfl (by kernel_rfl) (by decide) (by decide +kernel) (by decide +kernel) (fun _ _ _ h=>h) rfl ?_ a ?_
  rotate_left
  ·(intro w' f;(try dsimp only at f);go_simp;(try with_reducible rfl))
  simp only [Act.put,nz]
  refine WN.take (i:=5) (v:=?_) rfl (by kernel_rfl) (by decide) (by decide +kernel) (by decide +kernel) (fun _ _ _ h=>h) rfl ?_ a ?_
  rotate_left
  ·(intro w' f;(try dsimp only at f);go_simp;(try with_reducible rfl))
  simp only [Act.put,nz]
  refine WN.take (i:=6) (v:=?_) rfl (by kernel_rfl) (by decide) (by decide +kernel) (by decide +kernel) (fun _ _ _ h=>h) rfl ?_ a ?_
  rotate_left
  ·(intro w' f;(try dsimp only at f);go_simp;(try with_reducible rfl))
  simp only [Act.put,nz]
  refine WN.take (i:=7) (v:=?_) rfl (by kernel_rfl) (by decide) (by decide +kernel) (by decide +kernel) (fun _ _ _ h=>h) rfl ?_ a ?_
  rotate_left
  ·(intro w' f;(try dsimp only at f);go_simp;(try with_reducible rfl))
  simp only [Act.put,nz]
  refine WN.take (i:=8) (v:=?_) rfl (by kernel_rfl) (by decide) (by decide +kernel) (by decide +kernel) (fun _ _ _ h=>h) rfl ?_ a ?_
  rotate_left
  ·(intro w' f;(try dsimp only at f);go_simp;(try with_reducible rfl))
  simp only [Act.put,nz]
  refine WN.take (i:=9) (v:=?_) rfl (by kernel_rfl) (by decide) (by decide +kernel) (by decide +kernel) (fun _ _ _ h=>h) rfl ?_ a ?_
  rotate_left
  ·(intro w' f;(try dsimp only at f);go_simp;(try with_reducible rfl))
  simp only [Act.put,nz]
  refine WN.take (i:=13) (v:=?_) rfl (by kernel_rfl) (by decide) (by decide +kernel) (by decide +kernel) (fun _ _ _ h=>h) rfl ?_ a ?_
  rotate_left
  ·(intro w' f;(try dsimp only at f);go_simp;(try with_reducible rfl))
  simp only [Act.put,nz]
  refine WL.on 10 ?_
  go_wp2_with fail
  refine (b6.out _ pb _ a.2).mono ?_
  rintro e w1 ⟨rfl,rfl⟩
  go_wp2_with fail
  refine ⟨a,?_⟩
  refine WN.take (i:=11) (v:=?_) rfl (by kernel_rfl) (by decide) (by decide +kernel) (by decide +kernel) (fun _ _ _ h=>h) rfl ?_ a ?_
  rotate_left
  ·(intro w' f;(try dsimp only at f);go_simp;(try with_reducible rfl))
  simp only [Act.put,nz]
  refine WN.take (i:=12) (v:=?_) rfl (by kernel_rfl) (by decide) (by decide +kernel) (by decide +kernel) (fun _ _ _ h=>h) rfl ?_ a ?_
  rotate_left
  ·(intro w' f;(try dsimp only at f);go_simp;(try with_reducible rfl))
  simp only [Act.put,nz]
  refine WN.done rfl (by decide +kernel) ?_
  clear a bh
  have cC:=ah (Z.out o HS.out)
  have bc:=ah (Gx (enc:=bF) st (N+R) (m.sett k) o.drew (bf.out▸(HD.out.sett k n).1))
  have be:ak o.drew t 83 [.map (some sn),.map (some st),.slice X V D]:=a9.out
  have c1:o.drew.cell? ⟨t,1,none⟩=some (.map (some st)):=ak.range be 1 _ rfl
  clear be
  go_wp2_with fail
  refine wp_loop_rounds 1 ?_
  rw [rounds_succ]
  go_wp2_with fail
  refine bc.out.mono ?_
  rintro e w2 ⟨rfl,bu,a7⟩
  have s:ak w2 t 83 [.map (some sn),.map (some st),.slice X V D]:=ak.below (show ak o.drew t 83 [.map (some sn),.map (some st),.slice X V D] from a9.out) a7
  obtain ⟨W3,aa⟩:∃W3,(w2.setCell ⟨t,0,none⟩ (.map (some o.drew.heap.size))).setCell ⟨t,2,none⟩ (.slice none 0 0)=W3:=⟨_,rfl⟩
  have bb:Chg (fun b=>b=t) w2 W3:=by
   rw [←aa]
   have ha:Chg (fun b=>b=t) w2 (w2.setCell ⟨t,0,none⟩ (.map (some o.drew.heap.size))):=⟨rfl,rfl,rfl,by simp [World.setCell],fun j _ hj=>Below.heap_setCell _ _ _ _ hj⟩
   exact ha.trans ⟨rfl,rfl,rfl,by simp [World.setCell],fun j _ hj=>Below.heap_setCell _ _ _ _ hj⟩
  have ag:ak W3 t 83 [.map (some o.drew.heap.size),.map (some st),.slice none 0 0]:=by
   rw [←aa]
   exact (s.put 0 (.map (some o.drew.heap.size))).put 2 (.slice none 0 0)
  have b5:t<o.drew.heap.size:=ak.lt (show ak o.drew t 83 [.map (some sn),.map (some st),.slice X V D] from a9.out)
  have al:CrS E N R M W g q m W3:=by
   have hd:=HD.out.below (Below.refl o.heap.size o).drew
   have b8:Chg (fun b=>b=p.dir k) o.drew W3:=by rw [bo.out];exact Chg.trans (Chg.of_below a7) bb
   refine ⟨_,hd.crashed (nb:=o.drew.heap.size) n b8 (Nat.le_refl _) ?_ ?_,a8.out.trans ((Kp.of ((Below.refl o.heap.size o).drew)).trans (b8.mono fun b _ e=>e▸(hd.off.2.2.1 k n).1))⟩
   ·rw [←cn.out k n];exact bu.chg bb (by omega)
   rw [bo.out,bf.out];exact ag
  have cG:w2.cell? ⟨t,0,none⟩=some (.map (some sn)):=ak.range s 0 _ rfl
  have z:=s.there 0 (by simp)
  have ar:=s.there 2 (by simp)
  rw [Nat.zero_add] at z ar
  have f0:=z.2
  have f2:=ar.2
  have cw:w2.cell? ⟨t,2,none⟩=some (.slice X V D):=ak.range s 2 _ rfl
  have cq:=ah aa
  have F:=ah al
  clear bu a7 s aa bb ag b5 al z ar bc c1 H c0
  go_wp2_with fail
  try rw [show o.heap.size=o.drew.heap.size from rfl]
  rw [cq.out]
  go_roundw
  case rel=>exact ⟨k+1,by go_num,by omega,F.out⟩
  case measure=>simp [intOf];omega
 obtain rfl:k=3:=by omega
 have bk:Hid (∀b:Bool,b=false→(o.setCell ⟨g,4,none⟩ (.bool b)).setCell ⟨g,3,none⟩ (.bool b)=o):=ah fun b hb=>by
  obtain ⟨p3,r,_⟩:=HS.out
  subst hb
  rw [jF (ak.range r.box 4 _ rfl),jF (ak.range r.box 3 _ rfl)]
 obtain ⟨p3,r,A⟩:=HS.out
 have c4:o.cell? ⟨g,4,none⟩=some (.bool false):=ak.range r.box 4 _ rfl
 have c3:o.cell? ⟨g,3,none⟩=some (.bool false):=ak.range r.box 3 _ rfl
 have ax:=(ak.there r.box) 3 (by simp)
 have ap:=(ak.there r.box) 4 (by simp)
 rw [Nat.zero_add] at ax ap
 have f3:=ax.2
 have f4:=ap.2
 have G:=br.out o HS.out
 clear r A ax ap
 go_upto_region 16 with fail
 rw [bk.out false rfl]
 clear bk c4 c3 f3 f4
 go_wp2_with (refine wpList_load_mid rfl 78 _ rfl 0 0 rfl _ _ G underlying78 rfl bx ?_)
 clear G
 go_loopw [11,13,14,71] (fun _ _ _ i wr=> ∃k:Nat,i= .int .i64 (k:Int)∧k≤3∧Hid (CrS E N R M W g q m wr)) (fun _ _ _ i _=>(3-intOf i).toNat)
 case atStart=>exact ⟨0,rfl,by omega,HS⟩
 obtain ⟨wp,rfl⟩:∃wp:World,wp=wr:=⟨_,rfl⟩
 obtain ⟨k,rfl,U,HS⟩:=hrel
 by_cases n:k<3
 ·have i1:(k:Int)<3:=by omega
  have a5:=bn.out k n
  have wi:IntKind.i64.wrap ((k:Int)+1)=(k:Int)+1:=by rw [IntKind.wrap_i64];omega
  obtain ⟨p,hd,K⟩:=HS.out
  obtain ⟨l,la,ln,lf,lm⟩:=cs.out k n
  have bt:(bG k).size≤1000000:=by
   obtain rfl|rfl|rfl:k=0∨k=1∨k=2:=by omega
   all_goals decide
  have an:=ah (tH g m.vis (bG k) k l wp (hd.at (by omega)) bt (gV n) la (fun y=>by rw [lm y,bs.out k y n]) (fun y hy=>by have:=dR (lf y hy);omega))
  have HD:=ah hd
  have a8:=ah K
  have cj:=ah lf
  have cb:Hid (∀x,x∈l→ ∃b,m.seen k x=some b):=ah (fun x hx=>by
   have:=(lm x).1 hx
   rw [bs.out k x n] at this
   unfold Dm.vis at this
   cases hs:m.seen k x with
   | none=>rw [hs] at this;cases this
   | some b=>exact ⟨b,rfl⟩)
  have cy:l.length≤900000:=by omega
  have ai:(bG k).size≤maxLen:=rF
  have b4:=ah (gV n)
  clear bt
  generalize bG k=dn at a5 an ai b4
  clear hd K la ln lf lm
  go_wp2_with fail
  refine an.out.mono ?_
  rintro e w1 ⟨v,rfl,ca,b3⟩
  obtain ⟨X,D,rfl,cI,am⟩:=ca
  have ce:=ah am
  have B:=ah b3
  clear am b3 an
  go_wp2_with fail
  go_loopw [13,14,78] (fun _ _ i wr=> ∃j:Nat,i= .int .i64 (j:Int)∧j≤l.length∧Hid (Below w1.heap.size w1 wr)) (fun _ _ i _=>(l.length-intOf i).toNat)
  case atStart=>exact ⟨0,rfl,by omega,ah (Below.refl _ _)⟩
  obtain ⟨wi,rfl⟩:∃wi:World,wi=wr:=⟨_,rfl⟩
  obtain ⟨j,rfl,hj,S⟩:=hrel
  by_cases P:j<l.length
  ·obtain ⟨b2,off,rfl,b1,I⟩:=ce.out (by intro e;rw [e] at P;simp at P)
   have f1:=I j P
   have f2:wi.cell? ⟨b2,off+j,none⟩=some (.string l[j]):=by rw [S.out.cell (p:=⟨b2,off+j,none⟩) b1];exact f1
   obtain ⟨fb,T⟩:=cb.out l[j] (List.getElem_mem P)
   have bv:=cj.out l[j] (List.getElem_mem P)
   have b0:Below wp.heap.size wp wi:=B.out.trans (S.out.mono B.out.size)
   have u:=HD.out.below b0
   have J:=(u.file k _ fb n (.inl T)).1
   have ck:=(u.file k _ fb n (.inl T)).2.2.1
   have b9:=aE.out k _ fb n T
   have aq:wi.cell? ⟨fb,0,none⟩=some (.string (m.dat fb).1):=ak.range J 0 _ rfl
   have ba:wi.cell? ⟨fb,1,none⟩=some (.int .i64 ((m.dat fb).1.size:Int)):=by rw [←b9];exact ak.range J 1 _ rfl
   have cg:wi.cell? ⟨g,0,none⟩=some (.map (some p.top)):=ak.range u.box 0 _ rfl
   have cd:wi.cell? ⟨p.dir k,0,none⟩=some (.map (some (p.sn k))):=ak.range (u.dir k n) 0 _ rfl
   have aw:=u.top.look underlying75 (ql wi) (x:=dn) ai
   rw [b4.out] at aw
   dsimp only [Option.map,Option.getD,bF] at aw
   have af:=(u.seen k n).1.look underlying80 (gU wi) (x:=l[j]) (by have:=dR bv;unfold maxLen;omega)
   rw [T] at af
   dsimp only [Option.map,Option.getD,bF] at af
   have z:=(ak.there J) 0 (by simp [fiC])
   have a3:=(ak.there J) 1 (by simp [fiC])
   rw [Nat.zero_add] at z a3
   have cH:=z.2
   have cF:=a3.2
   have bp:=Z.out wi ⟨p,u,a8.out.trans (Kp.of b0)⟩
   have wj:IntKind.i64.wrap ((j:Int)+1)=(j:Int)+1:=by rw [IntKind.wrap_i64];omega
   have j1:(j:Int)<l.length:=by omega
   have j0:(0:Int)≤j:=by omega
   obtain ⟨sb,bi⟩:∃sb,(m.dat fb).1=sb:=⟨_,rfl⟩
   rw [bi] at aq ba ck
   have cA:IntKind.i64.wrap ((sb.size:Int)-sb.size)=0:=by rw [Int.sub_self];rfl
   have ct:IntKind.i64.wrap (sb.size:Int)=sb.size:=by rw [IntKind.wrap_i64];omega
   have cD:(0:Int)≤sb.size:=by omega
   have cv:(sb.size:Int)≤9223372036854775807:=by omega
   generalize l[j]=nm at f2 af
   clear f1 I bv b9 J u z a3 bi T
   have a:wi.drew.cell? ⟨fb,0,none⟩=some (.string sb)∧wi.drew.cell? ⟨fb,1,none⟩=some (.int .i64 (sb.size:Int))∧wi.drew.cell? ⟨pb,0,none⟩=some (.slice none 0 0):=⟨aq,ba,bp⟩
   go_upto_region 23 with fail
   refine wrL 25 (fun x=>x.cell? ⟨fb,0,none⟩=some (.string sb)∧x.cell? ⟨fb,1,none⟩=some (.int .i64 (sb.size:Int))∧x.cell? ⟨pb,0,none⟩=some (.slice none 0 0)) ?_
   refine WL.tk 0 a ?_
   refine WL.tk 1 a ?_
   refine WL.tk 2 a ?_
   refine WL.tk 3 a ?_
   refine WL.tk 4 a ?_
   refine WL.tk 5 a ?_
   refine WL.tk 6 a ?_
   refine WL.tk 7 a ?_
   refine WL.tk 8 a ?_
   refine WL.tk 9 a ?_
   refine WL.tk 10 a ?_
   refine WL.tk 11 a ?_
   refine WL.tk 12 a ?_
   refine WL.tk 13 a ?_
   refine WL.tk 14 a ?_
   refine WL.tk 15 a ?_
   refine WL.tk 16 a ?_
   refine WL.tk 17 a ?_
   refine WL.tk 18 a ?_
   refine WL.tk 19 a ?_
   refine WL.on 20 ?_
   go_wp2_with fail
   refine (b6.out _ pb _ a.2.2).mono ?_
   rintro e w3 ⟨rfl,rfl⟩
   go_wp2_with fail
   refine ⟨a,?_⟩
   refine WL.tk 21 a ?_
   refine WL.tk 22 a ?_
   refine WL.tk 23 a ?_
   refine WL.tk 24 a ?_
   refine WL.la 25 ?_
   have ci:Hid (wi.setCell ⟨fb,0,none⟩ (.string sb)=wi):=ah (jF aq)
   have cf:Hid (wi.setCell ⟨fb,1,none⟩ (.int .i64 (sb.size:Int))=wi):=ah (jF ba)
   have cm:Hid (Below w1.heap.size w1 wi.drew):=ah S.out.drew
   clear a cg cd aw af f2 bp
   go_wp2_with fail
   go_roundw
   case rel=>exact ⟨j+1,by go_num,by omega,by rw [ci.out,cf.out];exact cm.out⟩
   case measure=>simp [intOf];omega
  obtain rfl:j=l.length:=by omega
  obtain ⟨p3,r,A⟩:=HS.out
  have F:Hid (CrS E N R M W g q m wi):=ah ⟨p3,r.below (B.out.trans (S.out.mono B.out.size)),A.trans (Kp.of (B.out.trans (S.out.mono B.out.size)))⟩
  clear r A
  go_wp2_with fail
  go_roundw
  case rel=>exact ⟨k+1,by go_num,by omega,F.out⟩
  case measure=>simp [intOf];omega
 obtain rfl:k=3:=by omega
 go_wp2_with fail
 go_end0
 exact ⟨rfl,b7.out _ HS.out⟩
end
end
end Go.Proofs.YtlhcoanbhnphgaaGreatDoor
