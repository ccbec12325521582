/- A part of this claim. -/
import Derived.Test.YtlhcoanbhnphgaaGreatDoorXm17
import Derived.Test.YtlhcoanbhnphgaaGreatDoorXm19
import Derived.Test.YtlhcoanbhnphgaaGreatDoorXm21
namespace Go.Proofs.YtlhcoanbhnphgaaGreatDoor
open Tryz
set_option maxHeartbeats 64000000
set_option maxRecDepth 100000
set_option linter.all false
section
open Go.RowKit Go.Maps
structure gB (w:World) (vt vl:Value) (t l:List Rf):Prop where
 tab:dw w vt t
 log:dw w vl l
 capt:zk vt
 capl:zk vl
 ok:∀ r ∈ t ++ l,r.1.size ≤ 1000000 ∧ r.2.length = 32
theorem gB.below {w w':World} {vt vl:Value} {t l:List Rf} (h:gB w vt vl t l) (hb:Below w.heap.size w w'):gB w' vt vl t l:=⟨h.tab.below hb,h.log.below hb,h.capt,h.capl,h.ok⟩
def PS (b:Bool) (w:World) (e:Ending) (w':World):Prop:=e= .returned (.bool b)∧Below w.heap.size w w'
theorem dH (vt vl:Value) (t l:List Rf) (w:World) (h:gB w vt vl t l):Calls prog 44 #[.agg #[vt,vl]] w (PS (aO t l) w):=by
 obtain ⟨W,j⟩:∃W,w.alloc (.cells #[vt,vl] 51)=W:=⟨_,rfl⟩
 have d:Below w.heap.size w W:=by rw [←j];exact bal
 have hx:ak W w.heap.size 51 [vt,vl]:=by rw [←j];exact ak.new w 51 [vt,vl]
 have i:=h.below d
 have m:=ah (pE vt vl t l l.length W i.tab i.log i.ok (Nat.le_refl _) i.capl)
 have p:=ah d
 obtain ⟨la,lc,e,r,_⟩:=h.log.open
 have o:(prog.info? 51).map (·.size)=some ([vt,vl]:List Value).length:=bN
 have n:=hx.range
 have c1:W.cell? ⟨w.heap.size,1,none⟩=some vl:=n 1 _ rfl
 subst e
 have q:=ah j
 unfold uQ at m
 rw [List.take_length] at m
 clear j d hx i h
 go_enter func44,ntmps44
 go_upto_region 1 with fail
 rw [q.out]
 go_wp2_with (refine wpList_load_mid rfl 51 _ rfl w.heap.size 0 rfl _ _ n underlying51 rfl o ?_)
 refine m.out.mono ?_
 rintro e w1 ⟨a,b⟩
 have g:=bth p b
 cases f:dD t l with
 | none =>
  rw [f] at a
  dsimp only at a
  subst a
  have k:Hid (aO t l=false):=ah (by unfold aO;rw [f];rfl)
  clear f b
  go_wp2_with fail
  go_ret
  rw [k.out]
  exact ⟨rfl,g.out⟩
 | some V =>
  rw [f] at a
  obtain ⟨mb,rfl,_,_⟩:=a
  have k:Hid (aO t l=decide (l.length≤100)):=ah (by unfold aO;rw [f];simp)
  generalize decide (l.length≤100)=ok at k
  clear f b
  go_wp2_with fail
  go_ret
  rw [k.out]
  exact ⟨rfl,g.out⟩
theorem bR:(prog.info? 42).map (·.size)=some 32:=by decide +kernel
def fZ (t l:List Rf) (x:ByteArray):List UInt8:=match dD t l with
 | some V=>if decide (l.length≤100)=true then (bS V x).getD zid else zid
 | none=>zid
theorem Df {V:List Rf} {r:Rf} (h:∀x∈V,x.2.length=32) (a:r.2.length=32):∀x∈dP V r,x.2.length=32:=by
 have h1:∀x∈jQ V r.1 r.2,x.2.length=32:=fun x hx=>by
  unfold jQ at hx
  rcases List.mem_append.1 hx with h1|h1
  ·exact h x (List.mem_filter.1 h1).1
  simp at h1;subst h1;exact a
 intro x hx
 unfold dP at hx
 split at hx
 ·exact h1 x (List.mem_filter.1 hx).1
 exact h1 x hx
theorem CZ:∀ {t V W:List Rf},(∀x∈V,x.2.length=32)→(∀x∈t,x.2.length=32)→eF V t=some W→ ∀x∈W,x.2.length=32
 | [],V,W,hV,_,e=>by unfold eF at e;cases e;exact hV
 | r::t,V,W,hV,ht,e=>by
  unfold eF at e
  split at e
  ·exact CZ (Df hV (ht r (List.mem_cons_self ..))) (fun x hx=>ht x (List.mem_cons_of_mem _ hx)) e
  cases e
theorem DZ:∀ {t V W:List Rf},(∀x∈V,x.2.length=32)→(∀x∈t,x.2.length=32)→fB V t=some W→ ∀x∈W,x.2.length=32
 | [],V,W,hV,_,e=>by unfold fB at e;cases e;exact hV
 | r::t,V,W,hV,ht,e=>by
  unfold fB at e
  split at e
  ·exact DZ (Df hV (ht r (List.mem_cons_self ..))) (fun x hx=>ht x (List.mem_cons_of_mem _ hx)) e
  cases e
theorem tL {t l V:List Rf} (h:∀r∈t++l,r.2.length=32) (e:dD t l=some V):∀x∈V,x.2.length=32:=by
 unfold dD at e
 cases b:eF [] t with
 | none=>rw [b] at e;cases e
 | some W =>
  rw [b] at e
  exact DZ (CZ (V:=[]) (by simp) (fun r a=>h r (List.mem_append.2 (.inl a))) b) (fun r a=>h r (List.mem_append.2 (.inr a))) e
theorem MH {V:List Rf} (h:∀x∈V,x.2.length=32) (x:ByteArray):((bS V x).getD zid).length=32:=by
 cases e:bS V x with
 | none=>exact aV
 | some c=>exact h _ (sZ e)
theorem mX {t l:List Rf} {x:ByteArray} (h:∀r∈t++l,r.2.length=32):(fZ t l x).length=32:=by
 unfold fZ
 cases e:dD t l with
 | none=>exact aV
 | some V =>
  dsimp only
  split
  ·exact MH (tL h e) x
  exact aV
def dL (x:List UInt8) (w:World) (e:Ending) (w':World):Prop:=e= .returned (.agg (idC x).toArray)∧Below w.heap.size w w'
theorem zy (vt vl:Value) (t l:List Rf) (x:ByteArray) (w:World) (h:gB w vt vl t l) (hx:x.size≤maxLen):Calls prog 114 #[.agg #[vt,vl],.string x] w (dL (fZ t l x) w):=by
 obtain ⟨u,U⟩:=dQ
 have f:Hid ((idC zid).length=32):=ah (by rw [av,aV])
 have A:=ah (aJ zid)
 generalize F:idC zid=k at u U f A
 have g:=ah F
 clear F
 obtain ⟨W,J⟩:∃W,(w.alloc (.cells #[vt,vl] 51)).alloc (.cells k.toArray 42)=W:=⟨_,rfl⟩
 have z:Below w.heap.size w W:=by rw [←J];exact bal.alloc (by simp) _
 have O:ak W w.heap.size 51 [vt,vl]:=by rw [←J];exact (ak.new w 51 [vt,vl]).below bal
 have G:ak W (w.heap.size+1) 42 k:=by
  rw [←J]
  have:=ak.new (w.alloc (.cells #[vt,vl] 51)) 42 k
  simpa using this
 have L:=h.below z
 have R:=ah (pE vt vl t l l.length W L.tab L.log L.ok (Nat.le_refl _) L.capl)
 have HB:=ah z
 have T:=ah (mX (t:=t) (l:=l) (x:=x) (fun r Q=>(h.ok r Q).2))
 obtain ⟨la,lc,e,aa,_⟩:=h.log.open
 have h2:(prog.info? 51).map (·.size)=some ([vt,vl]:List Value).length:=bN
 have Q:=O.range
 have c1:W.cell? ⟨w.heap.size,1,none⟩=some vl:=Q 1 _ rfl
 subst e
 have HW:=ah J
 have M:=ah G
 unfold uQ at R
 rw [List.take_length] at R
 clear J z O L h G
 go_enter func114,ntmps114
 go_upto_region 1 with fail
 rw [HW.out]
 go_wp2_with (refine wpList_load_mid rfl 51 _ rfl w.heap.size 0 rfl _ _ Q underlying51 rfl h2 ?_)
 refine R.out.mono ?_
 rintro e w1 ⟨b,C⟩
 have H:=ah (M.out.below C)
 have S:=bth HB C
 have n:=bR
 have m:Hid (∀(y:List UInt8) (d:World),y.length=32→w1.setCells (w.heap.size+1) 0 (idC y)=d→d.rangeAt (w.heap.size+1) 0 (idC y)∧Below w.heap.size w d):=ah fun y d hy a=>by
  rw [←a]
  exact ⟨(H.out.set (by rw [av,hy];rw [f.out])).range,below_setCells _ (by omega) _ _ _ S.out⟩
 have I:w1.there (w.heap.size+1) 0 32:=by have:=H.out.there;rwa [f.out] at this
 have B:=ah I
 clear I C M
 cases v:dD t l with
 | none =>
  rw [v] at b
  dsimp only at b
  subst b
  have E:Hid (fZ t l x=zid):=ah (by unfold fZ;rw [v])
  clear v
  obtain ⟨d,a⟩:∃d,w1.setCells (w.heap.size+1) 0 k=d:=⟨_,rfl⟩
  have p:=m.out zid d aV (by rw [g.out];exact a)
  rw [g.out] at p
  have j:(prog.info? 42).map (·.size)=some k.length:=by rw [f.out];exact bR
  have i:=ah a
  have q:=ah p
  clear a p
  go_wp2_with (refine aj rfl 42 _ _ rfl (w.heap.size+1) 0 k rfl rfl 32 f.out B.out n A.out ?_)
  (try simp only [Act.put])
  rw [i.out]
  go_wp2_with fail
  refine bK rfl (w.heap.size+1) 0 rfl k _ q.out.1 underlying42 rfl j rfl ⟨?_,q.out.2⟩
  rw [E.out,g.out]
 | some V =>
  rw [v] at b
  obtain ⟨mb,rfl,hm,_⟩:=b
  have HM:=ah hm
  cases s:decide (l.length≤100) with
  | false =>
   have E:Hid (fZ t l x=zid):=ah (by unfold fZ;rw [v,s];rfl)
   clear v hm s
   obtain ⟨d,a⟩:∃d,w1.setCells (w.heap.size+1) 0 k=d:=⟨_,rfl⟩
   have p:=m.out zid d aV (by rw [g.out];exact a)
   rw [g.out] at p
   have j:(prog.info? 42).map (·.size)=some k.length:=by rw [f.out];exact bR
   have i:=ah a
   have q:=ah p
   clear a p
   go_wp2_with (refine aj rfl 42 _ _ rfl (w.heap.size+1) 0 k rfl rfl 32 f.out B.out n A.out ?_)
   (try simp only [Act.put])
   rw [i.out]
   go_wp2_with fail
   refine bK rfl (w.heap.size+1) 0 rfl k _ q.out.1 underlying42 rfl j rfl ⟨?_,q.out.2⟩
   rw [E.out,g.out]
  | true =>
   have E:Hid (fZ t l x=(bS V x).getD zid):=ah (by unfold fZ;rw [v,s];rfl)
   have D:=hm.look underlying150 (u w1) hx
   have K:((bS V x).map lI).getD (.agg k.toArray)= .agg (idC ((bS V x).getD zid)).toArray:=by rw [←g.out];cases bS V x<;>rfl
   rw [K] at D
   have o:((bS V x).getD zid).length=32:=by rw [←E.out];exact T.out
   clear v hm s K
   generalize (bS V x).getD zid=y at E D o
   obtain ⟨d,a⟩:∃d,w1.setCells (w.heap.size+1) 0 (idC y)=d:=⟨_,rfl⟩
   have p:=m.out y d o a
   have j:(prog.info? 42).map (·.size)=some (idC y).length:=dZ (by rw [av,o])
   have Y:Hid ((idC y).length=32):=ah (by rw [av,o])
   have P:=ah (aJ y)
   have i:=ah a
   have q:=ah p
   clear a p o
   generalize N:idC y=Z at D j Y P i q
   have X:=ah N
   clear N
   go_wp2_with (refine aj rfl 42 _ _ rfl (w.heap.size+1) 0 Z rfl rfl 32 Y.out B.out n P.out ?_)
   (try simp only [Act.put])
   rw [i.out]
   go_wp2_with fail
   refine bK rfl (w.heap.size+1) 0 rfl Z _ q.out.1 underlying42 rfl j rfl ⟨?_,q.out.2⟩
   rw [E.out,X.out]
def rfV (l:List Rf):List Value:=(l.map rfC).flatten
theorem Ca:∃a:Array Value,(prog.info? 93).map (fun i=>(i.zero,i.size,i.bytes))=some (some (.agg a),33,48)∧a.size=33:=⟨#[.string ⟨#[]⟩]++ #[.int .u8 0,.int .u8 0,.int .u8 0,.int .u8 0,.int .u8 0,.int .u8 0,.int .u8 0,.int .u8 0,.int .u8 0,.int .u8 0,.int .u8 0,.int .u8 0,.int .u8 0,.int .u8 0,.int .u8 0,.int .u8 0,.int .u8 0,.int .u8 0,.int .u8 0,.int .u8 0,.int .u8 0,.int .u8 0,.int .u8 0,.int .u8 0,.int .u8 0,.int .u8 0,.int .u8 0,.int .u8 0,.int .u8 0,.int .u8 0,.int .u8 0,.int .u8 0],by kernel_rfl,rfl⟩
theorem qF {l:List Rf} (h:∀r∈l,r.2.length=32):(rfV l).length=l.length*33:=by
 induction l with
 | nil=>rfl
 | cons r l ih =>
  unfold rfV at ih ⊢
  rw [List.map_cons,List.flatten_cons,List.length_append,d9 (h r (List.mem_cons_self ..)),ih fun x hx=>h x (List.mem_cons_of_mem _ hx),List.length_cons,Nat.succ_mul];omega
theorem G9 (a b:List Rf):rfV (a++b)=rfV a++rfV b:=by unfold rfV;rw [List.map_append,List.flatten_append]
theorem BF (l:List Rf):∀u∈rfV l,u.oneCell'=true:=fun u hu=>by
 obtain ⟨c,b,a⟩:=List.mem_flatten.1 hu
 obtain ⟨r,_,rfl⟩:=List.mem_map.1 b
 exact jG r u a
theorem yx {w:World} {b sz:Nat}:∀ {rows:List (List Value)} {off:Nat},(∀r∈rows,r.length=sz)→(∀i (h:i<rows.length),w.rangeAt b (off+i*sz) rows[i])→w.rangeAt b off rows.flatten
 | [],_,_,_,j,u,hu=>by simp at hu
 | r::rows,off,hl,hc,j,u,hu=>by
  rw [List.flatten_cons] at hu
  have d:=hc 0 (by simp)
  have a:=hl r (List.mem_cons_self ..)
  by_cases e:j<sz
  ·rw [List.getElem?_append_left (by omega)] at hu
   have:=d j u (by simpa using hu)
   simpa using this
  rw [List.getElem?_append_right (by omega),a] at hu
  have:=yx (w:=w) (b:=b) (rows:=rows) (off:=off+sz) (fun x hx=>hl x (List.mem_cons_of_mem _ hx)) (fun i hi=>by
   have:=hc (i+1) (by simpa using hi)
   rw [Nat.succ_mul] at this
   rw [show off+sz+i*sz=off+(i*sz+sz) from by omega]
   simpa using this) (j-sz) u hu
  rwa [show off+sz+(j-sz)=off+j from by omega] at this
theorem dw.flat {w:World} {g:Option Addr} {n c:Nat} {l:List Rf} (h:dw w (.slice g n c) l) (d:∀r∈l,r.2.length=32):0<l.length→ ∃f,g=some f∧ ∀j u,(rfV l)[j]? = some u→w.cell? (f.add j)=some u:=fun i=>by
 obtain ⟨p,cap,e,hm,k⟩:=h
 injection e with e1 _ _
 subst e1
 obtain ⟨b,off,rfl,m,a⟩:=k (by
  intro e
  have:=congrArg List.length e
  rw [List.length_map] at this
  simp at this
  rw [this] at i;cases i)
 refine ⟨_,rfl,fun j u hu=> ?_⟩
 rw [Addr.add_mid]
 exact yx (fun r o=>by obtain ⟨x,hx,rfl⟩:=List.mem_map.1 o;exact d9 (d x hx)) a j u hu
theorem fU {w:World} {ops:Array Oper} {rest:List Oper} {o:Oper} {a:Act} {Q:Exit→Act→World→Prop} (i:o.guard=none) (s x:Operand)
  (y:o.op= .call { callee:=.builtin .append,args:=#[s,x],argTypes:=#[49,49] }) (base:Nat) (v:Value) (n:Nat) (xs:List Rf) (q:a.eval s=v) (d:w.ownsRow base 93 33 v n (rfV xs))
  (j:Option Addr) (c:Nat) (l:List Rf) (hx:a.eval x= .slice j l.length c) (z:dw w (.slice j l.length c) l) (e:∀r∈l,r.2.length=32) (B:n+l.length≤10000000) (b:base≤w.heap.size)
  (h:∀f w',w'.ownsRow base 93 33 f (n+l.length) (rfV (xs++l))→w.grownBy w' v.ownBlock→wpList prog ops Q rest (a.put o.dst f) w'):wpList prog ops Q (o::rest) a w:=by
 obtain ⟨C,t,p⟩:=Ca
 obtain ⟨A,hi,m,g,k⟩:=info_parts t
 refine qp i s x 49 y base 93 A _ 33 48 underlying49 hi m g k p (by decide) v n (rfV xs) q d j l.length c (rfV l) hx (qF e) (z.flat e) (BF l) (by unfold maxLen;omega) (by omega) b fun f w' h1 u=>h f w' (by rw [G9];exact h1) u
theorem rZ {w:World} {ops:Array Oper} {rest:List Oper} {o:Oper} {a:Act} {Q:Exit→Act→World→Prop} (e:o.guard=none) (i:o.op= .buildSlice 49 0 #[])
  (h:∀g n f w',Hid (n=0)→w'.ownsRow w.heap.size 93 33 (.slice g n f) n []→Below w.heap.size w w'→wpList prog ops Q rest (a.put o.dst (.slice g n f)) w'):wpList prog ops Q (o::rest) a w:=by
 refine wpList_plain e fun k d=> ?_
 have b:(Instr.buildSlice 49 0 #[]).run prog w= .ok (.slice (some ⟨w.heap.size,0,none⟩) 0 0) (w.alloc (.cells #[] 93)):=by kernel_rfl
 have j:(w.alloc (.cells #[] 93)).heap[w.heap.size]? = some (.cells #[] 93 (0,0)):=World.alloc_heap_new w _
 unfold Oper.wp
 simp [execOp,i,b,Result.andThen]
 exact d _ _ (h _ 0 _ _ (ah rfl) ⟨rfl,.inr ⟨w.heap.size,0,#[],rfl,Nat.le_refl _,j,Nat.le_refl _,Nat.zero_le _,rfl,rfl⟩⟩ bal)
theorem jc (v:Value) (l:List Rf) (w:World) (h:dw w v l) (x:∀r∈l,r.2.length=32) (I:l.length≤1000000):Calls prog 92 #[v] w fun e w'=> ∃t,e= .returned t∧w'.ownsRow w.heap.size 93 33 t l.length (rfV l)∧Below w.heap.size w w':=by
 obtain ⟨A,cap,rfl,hm,a⟩:=h.open
 cases A with
 | none =>
  obtain rfl:l=[]:=by
   cases l with
   | nil=>rfl
   | cons r l=>obtain ⟨b,off,e,_⟩:=a (by simp);cases e
  clear h a
  have m:=fun w=>Go.Lib.run_eql_slice_nil (P:=prog) w 49 93 none 0 cap 0 0 underlying49
  go_enter func92,ntmps92
  go_wp2_with fail
  go_ret
  exact ⟨_,rfl,World.ownsRow_nil _ _ _ _,Below.refl _ _⟩
 | some ad =>
  have B:=ah h
  have G:=ah a
  clear h a
  have m:=fun w=>Go.Lib.run_eql_slice_nil (P:=prog) w 49 93 (some ad) l.length cap 0 0 underlying49
  go_enter func92,ntmps92
  go_wp2_with (refine rZ rfl rfl ?_)
  intro E q H W u j f
  have g:=ah j
  have z:=ah (B.out.below f)
  have C:=ah f
  have k:=f.size
  have D:=u.out
  have s:=ah (show q+l.length=l.length by omega)
  have p:q+l.length≤10000000:=by omega
  clear j f D
  go_wp2_with (refine fU rfl _ _ rfl w.heap.size _ q [] rfl g.out (some ad) cap l rfl z.out x p k ?_)
  intro t w' d n
  rw [s.out] at d
  have o:Below w.heap.size w w':=C.out.grown n k (fun i hi=>(g.out.lt i hi).1)
  have y:=ah (And.intro d o)
  clear d n o
  obtain ⟨F,c3,rfl⟩:=bO y.out.1
  go_wp2_with fail
  go_ret
  exact ⟨_,rfl,y.out⟩
theorem Kj (w:World) (p:Addr) (n:Nat) {k:Nat} (h:k≠p.block):(w.freeze p n).heap[k]? = w.heap[k]?:=by
 unfold World.freeze
 split
 ·rfl
 rw [Array.getElem?_modify,if_neg (Ne.symm h)]
theorem Cu (B b:Nat) (l:List UInt8) (w:World) (h:Wr B b l w) (y:l≠[]) :
  Calls prog 215 #[.pointer (some ⟨b,0,none⟩)] w fun e w'=>e= .returned (.string (ofB l))∧Below B w w'∧CB b w w':=by
 obtain ⟨p,I,v,q,a,d⟩:∃p,Lib.BuilderAt 193 5 B b p (Lib.byteCells l) w:=by
  rcases h with h|h
  ·exact ⟨_,h⟩
  exact ⟨_,h⟩
 have i:l.length≠0:=by simpa using y
 rw [Lib.byteCells_length] at a
 obtain ⟨g,cap,cur,rfl,s,u,D,m,E,o⟩:∃g cap cur,v= .slice (some ⟨g,0,none⟩) l.length cap∧B≤g∧w.heap[g]? = some (.cells cur 5 (0,0))∧l.length≤cap∧cap≤maxLen∧cur.size=cap*1∧cur.toList.take (l.length*1)=Lib.byteCells l:=by
  rcases a.2 with ⟨_,z⟩|⟨g,cap,cur,G,r⟩
  ·exact absurd z i
  exact ⟨g,cap,cur,G,r⟩
 have c1:w.drew.cell? ⟨b,1,none⟩=some (.slice (some ⟨g,0,none⟩) l.length cap):=by
  have:w.drew.heap[b]? = some (.cells #[p,.slice (some ⟨g,0,none⟩) l.length cap] 193 (0,0)):=q
  rw [Lib.cell_of_heap this];rfl
 have A:(Builtin.unsafeSliceData_ #[96] 321 #[.slice (some ⟨g,0,none⟩) l.length cap]).run prog w.drew= .ok (.pointer (some ⟨g,0,none⟩)) w.drew :=
  Lib.run_unsafeSliceData_row _ _ _ _ _ _ (by omega)
 have F:(Builtin.unsafeString_ #[321,3] 9 #[.pointer (some ⟨g,0,none⟩),.int .i64 l.length]).run prog w.drew= .ok (.string ⟨l.toArray⟩) (w.drew.freeze ⟨g,0,none⟩ l.length):=by
  refine Lib.run_unsafeString_row w.drew 321 3 9 5 underlying321 (by kernel_rfl) g cur.size (by have t:w.drew.heap[g]? = some (.cells cur 5 (0,0)):=u;simp [World.shape?,t]) l y (by omega) (by unfold maxLen at m;omega) ?_
  intro j x hx
  have:=a.cells (g:=g) rfl j (.int .u8 x.toNat) (by simp [Lib.byteCells,hx])
  exact this
 have H:Hid (∀n,CB b w (w.drew.freeze ⟨g,0,none⟩ n)):=ah fun n k cs ty fr _ f C=>by
  have d:k≠g:=fun e=>by
   subst e
   rw [u] at f
   injection f with f
   injection f with _ h2
   exact C h2.symm
  rw [Kj _ _ _ d]
  exact f
 go_enter func215,ntmps215
 go_wp2
 go_region
 all_goals (go_wp2;go_ret;exact ⟨rfl,Lib.below_freeze (Below.drew (Below.refl B w)) (p:=⟨g,0,none⟩) s _,H.out _⟩)
theorem EY (B b:Nat) (l:List UInt8) (w:World) (h:Wr B b l w) (a:l≠[]) :
  Calls prog 165 #[.pointer (some ⟨b,0,none⟩)] w fun e w'=>e= .returned (.string (ofB l))∧Below B w w'∧CB b w w':=by
 have HS:=ah (Cu B b l w h a)
 clear h
 go_enter func165,ntmps165
 go_wp2_with fail
 refine HS.out.mono ?_
 rintro e w1 ⟨rfl,hb⟩
 go_wp2
 go_ret
 exact ⟨rfl,hb⟩
theorem zN (B b:Nat) (L:List UInt8) (g:Nat) (x:List UInt8) (w:World) (h:Wr B b L w) (R:w.rangeAt g 0 (idC x)) (hx:x.length=32) (Q:L.length≤1000000) (M:B≤w.heap.size) :
  Calls prog 124 #[.pointer (some ⟨b,0,none⟩),.slice (some ⟨g,0,none⟩) 1 1] w fun e w'=>e= .returned (.tuple #[])∧Wr B b (L++x) w'∧Below B w w':=by
 have HW:=ah h
 have Y:=ah hx
 have d:(idC x).length=32:=by rw [av,hx]
 obtain ⟨C,Z,hi,O,U,N,S,l⟩:=eu
 have A:(prog.info? 42).map (·.size)=some (idC x).length:=by rw [d];exact bR
 have J:=ah (there_alloc (n:=32) w C 42 l)
 obtain ⟨W,D⟩:∃W,(w.alloc (.cells C 42)).setCells w.heap.size 0 (idC x)=W:=⟨_,rfl⟩
 have a:Below w.heap.size w W:=by rw [←D];exact below_setCells _ (Nat.le_refl _) _ _ _ bal
 have p:ak W w.heap.size 42 (idC x):=by rw [←D];exact ak.set (cs:=C.toList) (by have:=ak.new w 42 C.toList;simpa using this) (by rw [d];simpa using l.symm)
 have G:∀c,(convert 96 9 (.slice (some ⟨w.heap.size,0,none⟩) 32 c)).run prog W= .ok (.string (ofB x)) W:=fun c=>by
  have:=run_convert_bytes_back (P:=prog) W 96 9 5 ⟨w.heap.size,0,none⟩ c x underlying96 underlying5 underlying9 fun j X=>by
   rw [Addr.add_mid]
   exact p.range j _ (by simp [idC,X])
  rwa [hx] at this
 have V:∃o,W.alloc (.cells #[.string (ofB x)] 9)=o:=⟨_,rfl⟩
 obtain ⟨o,f⟩:=V
 have k:Below W.heap.size W o:=by rw [←f];exact bal
 have u:o.cell? ⟨W.heap.size,0,none⟩=some (.string (ofB x)):=by rw [←f];exact (ak.new W 9 [.string (ofB x)]).range 0 _ rfl
 have m:=kS B b L W.heap.size (ofB x) o ((h.below a).below k) u (by rw [aR];omega) (by have:=a.size;have:=k.size;omega)
 rw [bq] at m
 have t:=ah m
 have E:Hid (Below B w o):=ah ((a.mono M).trans (k.mono (by have:=a.size;omega)))
 have z:=ah (aJ x)
 have r:=ah D
 have K:=ah f
 have q:=bR
 clear h D a p k u f m hx O N
 generalize idC x=cx at R d A z r
 go_enter func124,ntmps124
 go_wp2_with fail
 go_loopw [5,8] (fun _ i wr=>(i= .int .i64 0∧w=wr)∨(i= .int .i64 1∧Wr B b (L++x) wr∧Below B w wr)) (fun _ i _=>(1-intOf i).toNat)
 case atStart=>exact .inl ⟨rfl,rfl⟩
 rcases hrel with ⟨rfl,rfl⟩|⟨rfl,v,s⟩
 ·go_wp2_with (first
   | refine wpList_load_mid rfl 42 _ rfl g 0 rfl cx _ R underlying42 rfl A ?_
   | refine aj rfl 42 _ _ rfl w.heap.size 0 cx rfl rfl 32 d J.out q z.out ?_;rw [r.out])
  rw [K.out]
  refine t.out.mono ?_
  rintro e w1 ⟨rfl,h1,y⟩
  have T:=ah h1
  have H:=ah (E.out.trans y)
  clear h1 y t G
  go_wp2_with fail
  go_roundw
  case rel=>exact .inr ⟨by go_num,T.out,H.out⟩
  case measure=>simp [intOf]
 have I:=ah v
 have F:=ah s
 clear v s
 go_wp2
 go_end0
 exact ⟨rfl,I.out,F.out⟩
theorem Crc.jX {B:Nat} {w w':World} (h:Crc w) (hb:Below B w w') (a:5≤B):Crc w':=⟨ay h.row hb (by omega),by have:=h.lt;have:=hb.size;omega⟩
theorem K8 {b n:Nat} {w w':World} (h:w.heap[n]? = some (.cells #[.pointer none,.slice none 0 0] 193 (0,0))) (d:CB b w w') (a:n≠b):w'.heap[n]? = some (.cells #[.pointer none,.slice none 0 0] 193 (0,0)):=d n _ _ _ a h (by decide)
theorem xu (B b:Nat) (L:List UInt8) (w:World) (h:Wr B b L w) (Z:L≠[]) (S:L.length≤100000) (q:B≤w.heap.size) (V:5≤B) (E:Crc w) :
  Calls prog 125 #[.pointer (some ⟨b,0,none⟩)] w fun e w'=>e= .returned (.string (ofB (Jm L)))∧Below B w w':=by
 obtain ⟨W,y⟩:∃W,w.alloc (.cells #[.pointer none,.slice none 0 0] 193)=W:=⟨_,rfl⟩
 have m:Below w.heap.size w W:=by rw [←y];exact bal
 have v:W.heap[w.heap.size]? = some (.cells #[.pointer none,.slice none 0 0] 193 (0,0)):=by rw [←y];exact World.alloc_heap_new w _
 have ab:=h.lt
 have HS:=ah (EY B b L W (h.below m) Z)
 have U:=ah v
 have X:=ah (m.mono q)
 have Y:=ah y
 have R:Hid (w.heap.size≠b):=ah (by omega)
 have M:=ah E
 have J:Hid (W.heap.size=w.heap.size+1):=ah (by rw [←y];simp)
 have T:=ah S
 have f:=ah q
 have H5:=ah V
 clear h y m v E Z S q V
 go_enter func125,ntmps125
 go_wp2_with fail
 rw [Y.out]
 refine HS.out.mono ?_
 rintro e w1 ⟨rfl,r,F⟩
 have d:Below B w w1:=X.out.trans r
 have t:=K8 U.out F R.out
 have j:Crc w1:=M.out.jX d H5.out
 have aa:(ofB L).size≤100000:=by rw [aR];exact T.out
 have s:=ah (wS (ofB L) w1 j (by omega))
 have N:=ah t
 have n:=ah d
 have l:Hid (w.heap.size+1≤w1.heap.size):=ah (by have:=r.size;have:=J.out;omega)
 rw [bq] at s
 clear r F d t j HS U X Y
 go_wp2_with fail
 refine s.out.mono ?_
 rintro e p ⟨rfl,a⟩
 have H:p.heap[w.heap.size]? = some (.cells #[.pointer none,.slice none 0 0] 193 (0,0)):=(a.block _ (by have:=l.out;omega)).trans N.out
 obtain ⟨k,g⟩:∃k,p.alloc (.cells #[.string (ofB (fK L))] 9)=k:=⟨_,rfl⟩
 have i:Below p.heap.size p k:=by rw [←g];exact bal
 have u:k.heap[w.heap.size]? = some (.cells #[.pointer none,.slice none 0 0] 193 (0,0)):=(i.block _ (by have:=l.out;have:=a.size;omega)).trans H
 have I:Wr w.heap.size w.heap.size [] k:=by
  exact .inl ⟨Nat.le_refl _,.slice none 0 0,u,World.ownsRow_nil _ _ _ _,by simp [Value.ownBlock]⟩
 have D:k.cell? ⟨p.heap.size,0,none⟩=some (.string (ofB (fK L))):=by rw [←g];exact (ak.new p 9 [.string (ofB (fK L))]).range 0 _ rfl
 have O:=lq L
 have o:=ah (o8 w.heap.size w.heap.size [] p.heap.size (ofB (fK L)) k I D (by rw [aR];have:=T.out;omega) (by simp) (by have:=l.out;have:=a.size;have:=i.size;omega))
 have Q:Hid (Below B w k):=ah ((n.out.trans (a.mono (by have:=n.out.size;have:=f.out;omega))).trans (i.mono (by have:=n.out.size;have:=f.out;have:=a.size;omega)))
 rw [List.nil_append,bq,aR] at o
 have z:=ah g
 clear a H g i u I D O s
 go_wp2_with fail
 rw [z.out]
 refine o.out.mono ?_
 rintro e w4 ⟨rfl,C,G⟩
 have x:=ah (zM w.heap.size w.heap.size _ w4 C (by
  rw [aQ]
  split<;>simp))
 have P:=ah (Q.out.trans (G.mono f.out))
 clear C G o z
 go_wp2_with fail
 refine x.out.mono ?_
 rintro e w5 ⟨rfl,A⟩
 have K:=ah (P.out.trans (A.mono f.out))
 clear A x
 go_wp2_with fail
 go_ret
 exact ⟨rfl,K.out⟩
theorem L8 (r:Rf):r.1.size≤1000→r.2.length=32→(gP r).length≤1100:=fun h1 a=>by
 unfold gP
 have b:=nO r.1
 have:=Bn (s:=r.1.data.toList) (by omega)
 rw [List.length_append];omega
theorem rC (r:Rf) (w:World) (hz:r.1.size≤1000) (h2:r.2.length=32) (h5:5≤w.heap.size) (M:Crc w) :
  Calls prog 107 #[.agg (rfC r).toArray] w fun e w'=>e= .returned (.string (ofB (kN r)))∧Below w.heap.size w w':=by
 obtain ⟨z,f⟩:∃W,w.alloc (.cells (rfC r).toArray 93)=W:=⟨_,rfl⟩
 have S:Below w.heap.size w z:=by rw [←f];exact bal
 have x:z.heap.size=w.heap.size+1:=by rw [←f];simp
 have T:ak z w.heap.size 93 (rfC r):=by rw [←f];exact ak.new w 93 (rfC r)
 obtain ⟨m,d⟩:∃W,z.alloc (.cells #[.pointer none,.slice none 0 0] 193)=W:=⟨_,rfl⟩
 have B:Below z.heap.size z m:=by rw [←d];exact bal
 have V:m.heap.size=w.heap.size+1+1:=by rw [←d,←x];simp
 have ad:Wr (w.heap.size+1) (w.heap.size+1) [] m:=by rw [←x,←d];exact Lib.fresh_isBuilder 193 5 z
 obtain ⟨p,i⟩:∃W,m.alloc (.cells #[.string ⟨#[69]⟩] 9)=W:=⟨_,rfl⟩
 have a:Below m.heap.size m p:=by rw [←i];exact bal
 have C:p.cell? ⟨w.heap.size+1+1,0,none⟩=some (.string ⟨#[69]⟩):=by rw [←V,←i];exact (ak.new m 9 [.string ⟨#[69]⟩]).range 0 _ rfl
 have ap:Below (w.heap.size+1) m p:=a.mono (by omega)
 have H:=ah (kS (w.heap.size+1) (w.heap.size+1) [] (w.heap.size+1+1) ⟨#[69]⟩ p (ad.below a) C (by decide) (by have:=a.size;omega))
 have G:=ah ((T.below B).below a)
 have ae:Hid (Below w.heap.size w p):=ah ((S.trans (B.mono (by omega))).trans (a.mono (by omega)))
 have az:w.heap.size+1+1<p.heap.size:=by have:=World.block_lt_of_cell? p _ C;exact this
 have HW:Hid ((w.alloc (.cells (rfC r).toArray 93)).alloc (.cells #[.pointer none,.slice none 0 0] 193)=m):=ah (by rw [f,d])
 have Y:=ah i
 have aw:=ah V
 have af:=ah M
 have hi:(idC r.2).length=32:=by rw [av,h2]
 have b:(prog.info? 42).map (·.size)=some (idC r.2).length:=by rw [hi];exact bR
 have U:Hid (∀w,(sizeOf 42).run prog w= .ok (idC r.2).length w):=ah fun w=>by rw [hi];kernel_rfl
 obtain ⟨zi,i0,_,_,_,_,O,_⟩:=eu
 have q:=ah hi
 have v:Hid (∀j u,(idC r.2)[j]? = some u→(rfC r)[j+1]? = some u):=ah fun j u hu=>by unfold rfC;rw [List.getElem?_cons_succ];exact hu
 have R:Hid ((rfC r)[0]? = some (.string r.1)):=ah rfl
 clear f d i S B a x T ad C ap M hi
 generalize ao:rfC r=rc at G HW v R
 clear ao
 generalize ab:idC r.2=E at b U q v
 have ag:=ah ab
 clear ab
 go_enter func107,ntmps107
 go_upto_region 2 with fail
 rw [HW.out]
 go_wp2_with fail
 rw [Y.out]
 refine H.out.mono ?_
 rintro e w4 ⟨rfl,K,h⟩
 have t:ak w4 w.heap.size 93 rc:=(h.block _ (by omega)).trans G.out
 have d0:w4.cell? ⟨w.heap.size,0,none⟩=some (.string r.1):=t.range 0 _ R.out
 obtain ⟨W5,l⟩:∃W,w4.alloc (.cells #[.string r.1] 9)=W:=⟨_,rfl⟩
 have g:Below w4.heap.size w4 W5:=by rw [←l];exact bal
 have N:W5.cell? ⟨w4.heap.size,0,none⟩=some (.string r.1):=by rw [←l];exact (ak.new w4 9 [.string r.1]).range 0 _ rfl
 have aq:=h.size
 have HT:=ah (o8 (w.heap.size+1) (w.heap.size+1) _ w4.heap.size r.1 W5 (K.below g) N (by omega) (by simp) (by have:=g.size;omega))
 have an:=ah (t.below g)
 have am:Hid (Below (w.heap.size+1) p W5):=ah (h.trans (g.mono (by omega)))
 have ac:=ah l
 clear K h t l g N H HW Y
 go_wp2_with fail
 rw [ac.out]
 refine HT.out.mono ?_
 rintro e o ⟨rfl,Q,D⟩
 have X:ak o w.heap.size 93 rc:=(D.block _ (by omega)).trans an.out
 have d1:o.rangeAt w.heap.size 1 E:=fun j u hu=>by
  have:=X.range (j+1) u (v.out j u hu)
  rw [Nat.zero_add] at this
  rw [Nat.add_comm 1 j];exact this
 have s:=ah (am.out.trans D)
 have P:=ah Q
 clear Q D X d0 HT ac
 go_wp2_with (first
  | refine wpList_load_mid rfl 42 _ rfl w.heap.size 1 rfl E _ d1 underlying42 rfl b ?_
  | refine aG rfl _ 44 42 rfl E zi rfl underlying44 U.out O (by rw [q.out];omega) (by rw [q.out];omega) ?_)
 obtain ⟨W7,k⟩:∃W,o.alloc (.cells E.toArray 42)=W:=⟨_,rfl⟩
 have n:Below o.heap.size o W7:=by rw [←k];exact bal
 have Z:ak W7 o.heap.size 42 E:=by rw [←k];exact ak.new o 42 E
 have ax:=s.out.size
 have HI:=ah (zN (w.heap.size+1) (w.heap.size+1) _ o.heap.size r.2 W7 (P.out.below n) (by rw [ag.out];exact Z.range) h2 (by
  have:=nW r.1.size (by omega)
  have:=nO r.1
  rw [List.length_append,List.length_append,List.length_append]
  simp only [List.length_nil,List.length_singleton]
  omega) (by have:=n.size;omega))
 have ai:=ah (s.out.trans (n.mono (by omega)))
 have J:=ah k
 clear k n Z s P d1 b
 rw [J.out]
 refine HI.out.mono ?_
 rintro e w8 ⟨rfl,y,L⟩
 have A:=ah (ai.out.trans L)
 have HL:Hid ([]++[69]++(aQ r.1.size++r.1.data.toList)++r.2=69::gP r):=ah (by unfold gP IW;rw [nO];simp)
 rw [HL.out] at y
 have al:=L8 r hz h2
 have ar:=A.out.size
 have I:=ah (xu (w.heap.size+1) (w.heap.size+1) _ w8 y (by simp) (by rw [List.length_cons];omega) (by omega) (by omega) (af.out.jX (ae.out.trans (A.out.mono (by omega))) h5))
 have F:Hid (Below w.heap.size w w8):=ah (ae.out.trans (A.out.mono (by omega)))
 clear y L HI J al
 go_wp2_with fail
 refine I.out.mono ?_
 rintro e w9 ⟨rfl,aa⟩
 have HE:=ah (F.out.trans (aa.mono (by omega)))
 clear aa I
 go_wp2_with fail
 go_ret
 exact ⟨rfl,HE.out⟩
theorem xq (s:ByteArray) (x:Idl) (hx:x.length=32) (w:World):(Instr.build 93 #[(0,.string s),(1,.agg (idC x).toArray)]).run prog w= .ok (.agg (rfC (s,x)).toArray) w:=by
 rcases x with _|⟨F,x⟩
 ·simp at hx
 rcases x with _|⟨a1,x⟩
 ·simp at hx
 rcases x with _|⟨a2,x⟩
 ·simp at hx
 rcases x with _|⟨a3,x⟩
 ·simp at hx
 rcases x with _|⟨a4,x⟩
 ·simp at hx
 rcases x with _|⟨a5,x⟩
 ·simp at hx
 rcases x with _|⟨D,x⟩
 ·simp at hx
 rcases x with _|⟨E,x⟩
 ·simp at hx
 rcases x with _|⟨B,x⟩
 ·simp at hx
 rcases x with _|⟨C,x⟩
 ·simp at hx
 rcases x with _|⟨t,x⟩
 ·simp at hx
 rcases x with _|⟨m,x⟩
 ·simp at hx
 rcases x with _|⟨h,x⟩
 ·simp at hx
 rcases x with _|⟨u,x⟩
 ·simp at hx
 rcases x with _|⟨g,x⟩
 ·simp at hx
 rcases x with _|⟨r,x⟩
 ·simp at hx
 rcases x with _|⟨v,x⟩
 ·simp at hx
 rcases x with _|⟨l,x⟩
 ·simp at hx
 rcases x with _|⟨i,x⟩
 ·simp at hx
 rcases x with _|⟨j,x⟩
 ·simp at hx
 rcases x with _|⟨e,x⟩
 ·simp at hx
 rcases x with _|⟨b,x⟩
 ·simp at hx
 rcases x with _|⟨f,x⟩
 ·simp at hx
 rcases x with _|⟨y,x⟩
 ·simp at hx
 rcases x with _|⟨k,x⟩
 ·simp at hx
 rcases x with _|⟨q,x⟩
 ·simp at hx
 rcases x with _|⟨z,x⟩
 ·simp at hx
 rcases x with _|⟨n,x⟩
 ·simp at hx
 rcases x with _|⟨o,x⟩
 ·simp at hx
 rcases x with _|⟨d,x⟩
 ·simp at hx
 rcases x with _|⟨p,x⟩
 ·simp at hx
 rcases x with _|⟨A,x⟩
 ·simp at hx
 cases x with
 | nil=>exact run_build w 93 _ _ (by kernel_rfl)
 | cons a x=>simp at hx
theorem bM.zD {w w':World} {v:Value} {sz:Nat} {row:Option Nat} {rows:List (List Value)} (h:bM w v sz rows) (d:w.grownBy w' row) (g:∀b,v.ownBlock=some b→some b≠row):bM w' v sz rows:=by
 obtain ⟨k,cap,rfl,hm,j⟩:=h
 refine ⟨k,cap,rfl,hm,fun a=> ?_⟩
 obtain ⟨b,off,rfl,hb,f⟩:=j a
 exact ⟨b,off,rfl,Nat.lt_of_lt_of_le hb d.size,fun i hi=>kE (f i hi) d (fun e=>g b rfl e.symm)⟩
theorem FD {w:World} {B n:Nat} {v:Value} {l:List Rf} (d:n=l.length) (h:w.ownsRow B 93 33 v n (rfV l)) (a:∀r∈l,r.2.length=32):dw w v l:=by
 subst d
 unfold dw
 refine bM.iE (B:=B) (e:=93) (fun r b=> ?_) ?_
 ·obtain ⟨x,hx,rfl⟩:=List.mem_map.1 b
  exact d9 (a x hx)
 rw [List.length_map];exact h
theorem xL {w:World} {B n sz:Nat} {e:TypeId} {v:Value} {xs:List Value} (h:w.ownsRow B e sz v n xs):zk v:=fun d m c b=>by
 rcases h.2 with ⟨rfl,_⟩|⟨g,cap,cur,rfl,_,_,a,_⟩
 ·cases b;exact Nat.le_refl _
 cases b;exact a
theorem Mh {w:World} {B sz n b:Nat} {e t:TypeId} {v:Value} {xs cs:List Value} (h:w.ownsRow B e sz v n xs) (hx:ak w b t cs) (d:e≠t):v.ownBlock≠some b:=fun f=>by
 rcases h.2 with ⟨rfl,_⟩|⟨g1,cap,cur,rfl,_,g,_⟩
 ·cases f
 have a1:g1=b:=Option.some.inj f
 subst a1
 have a:w.heap[g1]? = _:=hx
 rw [g] at a
 injection a with a
 injection a with _ a
 exact d a
def FrB (B:Nat) (v:Value):Prop:=∀g,v.ownBlock=some g→B≤g
theorem lu {P:Program} {fn:Func} {R:Ending→World→Prop} {a:Act} {w:World} {p q r:Tmp} {ty:TypeId} (h:fn.results= #[.cell p ty,.tmp q,.tmp r]) (b o:Nat)
  (g:a.tmps.getD p undef= .pointer (some ⟨b,o,none⟩)) (cs:List Value) (d:TypeDesc) (j:w.rangeAt b o cs)
  (hu:P.underlying ty=some d) (hd:d.isRow=true) (hi:(P.info? ty).map (·.size)=some cs.length) (e:a.defers=[]) (u v:Value) (f:a.tmps.getD q undef=u) (i:a.tmps.getD r undef=v) (k:R (.returned (.tuple #[.agg cs.toArray,u,v])) w):bodyPost P fn R .ret a w:=by
 refine bodyPost_ret (v:=.tuple #[.agg cs.toArray,u,v]) ?_ e k
 have:=run_loadVar_mid (P:=P) w b o ty cs d j hu hd hi
 simp only [results,h]
 rw [Array.getD_eq_getD_getElem?] at g f i
 simp [asAddr,g,f,i,this]
structure Cl1 (w1 w:World) (v:Value) (l:List Rf):Prop where
 row:dw w v l
 fr:FrB w1.heap.size v
 lt:∀ g,v.ownBlock = some g → g < w.heap.size
 cap:zk v
 ty:∀ g,v.ownBlock = some g → ∃ cs fr,w.heap[g]? = some (.cells cs 93 fr)
theorem Qe {w:World} {B n sz:Nat} {e:TypeId} {v:Value} {xs:List Value} (h:w.ownsRow B e sz v n xs):∀g,v.ownBlock=some g→ ∃cs fr,w.heap[g]? = some (.cells cs e fr):=fun g b=>by
 rcases h.2 with ⟨rfl,_⟩|⟨g1,cap,cur,rfl,_,a,_⟩
 ·cases b
 cases b;exact ⟨_,_,a⟩
theorem Cl1.mk2 {w1 w:World} {B:Nat} {v:Value} {n:Nat} {l:List Rf} (e:n=l.length) (h:w.ownsRow B 93 33 v n (rfV l)) (d:w1.heap.size≤B) (b:∀r∈l,r.2.length=32):Cl1 w1 w v l :=
 ⟨FD e h b,fun g a=>Nat.le_trans d (h.lt g a).1,fun g a=>(h.lt g a).2,xL h,Qe h⟩
theorem Cl1.below {w1 w w':World} {v:Value} {l:List Rf} (h:Cl1 w1 w v l) (hb:Below w.heap.size w w'):Cl1 w1 w' v l:=⟨h.row.below hb,h.fr,fun g a=>Nat.lt_of_lt_of_le (h.lt g a) hb.size,h.cap,fun g a=>by rw [hb.block g (h.lt g a)];exact h.ty g a⟩
def Cl2 (w1 w:World) (v:Value) (l:List Rf) (v1:Value):Prop:=∃B,w.ownsRow B 93 33 v l.length (rfV l)∧B≤w.heap.size∧w1.heap.size≤B∧ ∀g,v1.ownBlock=some g→g<B
theorem Cl2.of {w1 wc w:World} {v v1:Value} {l:List Rf} (h:w.ownsRow wc.heap.size 93 33 v l.length (rfV l)) (hb:Below wc.heap.size wc w) (h1:w1.heap.size≤wc.heap.size) (a:∀g,v1.ownBlock=some g→g<wc.heap.size):Cl2 w1 w v l v1:=⟨_,h,hb.size,h1,a⟩
theorem Cl2.below {w1 w w':World} {v v1:Value} {l:List Rf} (h:Cl2 w1 w v l v1) (hb:Below w.heap.size w w'):Cl2 w1 w' v l v1:=by
 obtain ⟨B,h1,a,b,d⟩:=h
 exact ⟨B,own_below h1 hb,Nat.le_trans a hb.size,b,d⟩
theorem Cl1.old {w1 w w':World} {v v1:Value} {l t:List Rf} {B:Nat} (h:Cl1 w1 w v1 t) (f:w.ownsRow B 93 33 v l.length (rfV l)) (i:∀g,v1.ownBlock=some g→g<B) (d:w.grownBy w' v.ownBlock):Cl1 w1 w' v1 t :=
 ⟨bM.zD h.row d fun b hb e=>by have:=(f.lt b e.symm).1;have:=i b hb;omega,h.fr,fun g a=>Nat.lt_of_lt_of_le (h.lt g a) d.size,h.cap,fun g a=>by rw [d.block g (h.lt g a) (fun e=>by have:=(f.lt g e.symm).1;have:=i g a;omega)];exact h.ty g a⟩
theorem Cl1.set {w1 w:World} {v:Value} {t:List Rf} {E:Nat} {cs a:List Value} (h:Cl1 w1 w v t) (d:ak w E 51 cs):dw (w.setCells E 0 a) v t :=
 bM.zD h.row (bA a 0 w (World.grownBy.refl w (some E))) fun b hb e=>by
  obtain ⟨c,fr,h1⟩:=h.ty b hb
  cases e
  rw [show w.heap[E]? = _ from d] at h1
  injection h1 with h1
  injection h1 with _ h2
  exact absurd h2 (by decide)
structure zK (w1 w:World) (E:Nat):Prop where
 box:ak w E 51 [.slice none 0 0,.slice none 0 0]
 le:w1.heap.size ≤ E
theorem zK.of {w1 w:World} (a:Below w1.heap.size w1 w):zK w1 (w.alloc (.cells #[.slice none 0 0,.slice none 0 0] 51)) w.heap.size:=⟨ak.new w 51 [.slice none 0 0,.slice none 0 0],a.size⟩
theorem zK.below {w1 w w':World} {E:Nat} (h:zK w1 w E) (hb:Below w.heap.size w w'):zK w1 w' E:=⟨h.box.below hb,h.le⟩
theorem zK.kept {w1 w w':World} {E B n:Nat} {v:Value} {xs:List Value} (h:zK w1 w E) (b:w.ownsRow B 93 33 v n xs) (a:w.grownBy w' v.ownBlock):zK w1 w' E:=⟨h.box.kept a fun e=>Mh b h.box (by decide) e.symm,h.le⟩
theorem FE (r:Rf) (w:World):dw (w.alloc (.cells (rfC r).toArray 93)) (.slice (some ⟨w.heap.size,0,none⟩) 1 1) [r]:=by
 refine ⟨_,1,rfl,show 1≤maxLen by unfold maxLen;omega,fun _=>⟨w.heap.size,0,rfl,by simp,fun i hi=> ?_⟩⟩
 obtain rfl:i=0:=by simpa using hi
 have:=(ak.new w 93 (rfC r)).range
 simpa using this
section
variable {P:Program} {ops:Array Oper} {Q:Exit → Act → World → Prop} {S:World → Prop}
theorem WL.three {n i j k:Nat} {oi l ok:Oper} {f:Nat} {ls:Array Bool} {a:Act} {w:World} (hi:ops[i]? = some oi) (u:ops[j]? = some l) (y:ops[k]? = some ok) (p:i<n) (d:j<n) (q:k<n) (r:Region.ready .any ops ls=[i,j,k])
  (h:wpList P ops (KK Q S fun a' w'=>WL P ops Q S n f (ls.setIfInBounds i true) a' w') [oi] a w) (h1:wpList P ops (KK Q S fun a' w'=>WL P ops Q S n f (ls.setIfInBounds j true) a' w') [l] a w) (o:wpList P ops (KK Q S fun a' w'=>WL P ops Q S n f (ls.setIfInBounds k true) a' w') [ok] a w):WL P ops Q S n (f+1) ls a w:=by
 have one:∀ {j:Nat} {l:Oper},ops[j]? = some l→j<n→j∈Region.ready .any ops ls→wpList P ops (KK Q S fun a' w'=>WL P ops Q S n f (ls.setIfInBounds j true) a' w') [l] a w→HeadInv .any ops n ls →
   wpOp P ops Q j (fun a' w'=>S w'∧wpL P .any ops Q S n f (ls.setIfInBounds j true) a' w') a w:=by
  intro j l u d t h b
  have e:=b.set t d
  unfold wpOp
  simp only [u]
  simp only [wpList] at h
  split
  ·rename_i s
   rw [if_pos s] at h
   rcases h with h|⟨h1,v⟩
   ·exact .inl (Oper.wp_mono (fun a' w' o=>⟨o.1,o.2.out e⟩) (vW h))
   refine .inr ⟨h1,?_⟩
   obtain ⟨a',w',o⟩:=v
   exact ⟨a',w',o⟩
  rename_i s
  rw [if_neg s] at h
  exact ⟨h.1,h.2.out e⟩
 refine ⟨fun b=>⟨fun x=>(by rw [x] at r;cases r),fun m hm=> ?_⟩⟩
 have g:=hm
 rw [r] at hm
 rcases List.mem_cons.1 hm with rfl|hm
 ·exact ⟨p,one hi p g h b⟩
 rcases List.mem_cons.1 hm with rfl|hm
 ·exact ⟨d,one u d g h1 b⟩
 obtain rfl:m=k:=by simpa using hm
 exact ⟨q,one y q g o b⟩
end
theorem fF {P:Program} {ops:Array Oper} {Q:Exit→Act→World→Prop} {rest:List Oper} {o:Oper} {a:Act} {w:World} (h:o.guard=none) (t:TypeId) (x y:Operand) (d:o.op= .build t #[(0,x),(1,y)]) (e f v:Value) (hx:a.eval x=e) (hy:a.eval y=f)
  (b:(Instr.build t #[(0,e),(1,f)]).run P w= .ok v w) (g:wpList P ops Q rest (a.put o.dst v) w):wpList P ops Q (o::rest) a w:=by
 refine aW h v ?_ g
 simp [execOp,d,hx,hy,b,Result.andThen]
def qj (w0 w:World) (vt vl:Value) (t l:List Rf):Prop:=gB w vt vl t l∧FrB w0.heap.size vt∧FrB w0.heap.size vl
def Bg (t l:List Rf) (r:Rf) (w:World) (e:Ending) (w':World):Prop :=
 (if (aO t l&&aN r.1)=true then
  if aO t (l++[r])=true then ∃v1 v2,e= .returned (.tuple #[.agg #[v1,v2],.string (ofB (kN r)),.int .i64 0])∧qj w w' v1 v2 t (l++[r])
  else e= .returned (.tuple #[.agg #[.slice none 0 0,.slice none 0 0],.string ⟨#[]⟩,.int .i64 18])
 else e= .returned (.tuple #[.agg #[.slice none 0 0,.slice none 0 0],.string ⟨#[]⟩,.int .i64 1]))∧Below w.heap.size w w'
theorem K5 {t l:List Rf} {r:Rf} {w w':World} (h:(aO t l&&aN r.1)=false) (hb:Below w.heap.size w w'):Bg t l r w (.returned (.tuple #[.agg #[.slice none 0 0,.slice none 0 0],.string ⟨#[]⟩,.int .i64 1])) w':=⟨by rw [h];rfl,hb⟩
theorem GI {t l:List Rf} {r:Rf} {w w':World} (h:(aO t l&&aN r.1)=true) (a:aO t (l++[r])=false) (hb:Below w.heap.size w w'):Bg t l r w (.returned (.tuple #[.agg #[.slice none 0 0,.slice none 0 0],.string ⟨#[]⟩,.int .i64 18])) w':=⟨by rw [h,a];rfl,hb⟩
theorem KZ {t l:List Rf} {r:Rf} {v1 v2:Value} {w w':World} (h:(aO t l&&aN r.1)=true) (a:aO t (l++[r])=true) (b:qj w w' v1 v2 t (l++[r])) (hb:Below w.heap.size w w'):Bg t l r w (.returned (.tuple #[.agg #[v1,v2],.string (ofB (kN r)),.int .i64 0])) w':=⟨by rw [h,a];exact ⟨v1,v2,rfl,b⟩,hb⟩
theorem uh (vt vl:Value) (t l:List Rf) (r:Rf) (w:World) (h:gB w vt vl t l) (hr:r.1.size≤1000) (U:r.2.length=32) (cx:t.length≤1000) (ct:l.length≤1000) (b3:Crc w) (h5:5≤w.heap.size) :
  Calls prog 59 #[.agg #[vt,vl],.string r.1,.agg (idC r.2).toArray] w (Bg t l r w):=by
 obtain ⟨ci,az⟩:∃c,idC r.2=c:=⟨_,rfl⟩
 rw [az]
 obtain ⟨W,y⟩:∃W,((w.alloc (.cells #[vt,vl] 51)).alloc (.cells ci.toArray 42)).alloc (.cells #[.slice none 0 0,.slice none 0 0] 51)=W:=⟨_,rfl⟩
 have a8:Below w.heap.size w W:=by rw [←y];exact (bal.alloc (by simp) _).alloc (by simp;omega) _
 have bn:ak W w.heap.size 51 [vt,vl]:=by rw [←y];exact ((ak.new w 51 [vt,vl]).below bal).below bal
 have ae:ak W (w.heap.size+1) 42 ci:=by
  rw [←y]
  have:=(ak.new (w.alloc (.cells #[vt,vl] 51)) 42 ci)
  rw [World.size_alloc] at this
  exact this.below bal
 have b5:ak W (w.heap.size+1+1) 51 [.slice none 0 0,.slice none 0 0]:=by
  rw [←y]
  have:=(ak.new ((w.alloc (.cells #[vt,vl] 51)).alloc (.cells ci.toArray 42)) 51 [.slice none 0 0,.slice none 0 0])
  rw [World.size_alloc,World.size_alloc] at this
  exact this
 have bb:ci.length=32:=by rw [←az,av,U]
 have B:=ah bn
 have ao:=ah ae
 have z:=ah b5
 have cg:=ah a8
 have u:=ah (h.below a8)
 have HW:=ah y
 have ce:=ah az
 have be:=ah h.ok
 have an:=ah b3
 have HR:=ah (dH vt vl t l W u.out)
 have HN:=ah (fun x=>BA r.1 x (by omega))
 have cp:(prog.info? 51).map (·.size)=some ([vt,vl]:List Value).length:=bN
 have bi:(prog.info? 51).map (·.size)=some ([.slice none 0 0,.slice none 0 0]:List Value).length:=bN
 have br:(prog.info? 42).map (·.size)=some ci.length:=by rw [bb];exact bR
 have d0:=bn.range
 clear h a8 bn ae b5 y b3
 obtain ⟨nm,a5⟩:∃nm,r.1=nm:=⟨_,rfl⟩
 have ai:=ah a5
 rw [a5] at HN hr ⊢
 clear a5 az
 go_enter func59,ntmps59
 go_upto_region 1 with fail
 rw [HW.out]
 go_wp2_with (refine wpList_load_mid rfl 51 _ rfl w.heap.size 0 rfl _ _ d0 underlying51 rfl cp ?_)
 refine HR.out.mono ?_
 rintro e w1 ⟨rfl,S⟩
 have ax:=bth cg S
 replace B:=ah (B.out.below S)
 replace ao:=ah (ao.out.below S)
 replace z:=ah (z.out.below S)
 replace u:=ah (u.out.below S)
 clear S HR HW d0
 have aa:=ah bN
 have I:Hid (∀(x:World),Below w1.heap.size w1 x→ ∃V,x.setCells (w.heap.size+1+1) 0 [.slice none 0 0,.slice none 0 0]=V∧x.there (w.heap.size+1+1) 0 2∧ak V (w.heap.size+1+1) 51 [.slice none 0 0,.slice none 0 0]∧Below w.heap.size w V):=ah fun x hx=>by
  have h2:=z.out.below hx
  exact ⟨_,rfl,h2.there,h2.set rfl,below_setCells _ (by omega) _ _ _ (ax.out.trans (hx.mono ax.out.size))⟩
 have ab:Hid (∀v∈([.slice none 0 0,.slice none 0 0]:List Value),v.oneCell'=true):=ah (by intro v hv;simp at hv;rw [hv];rfl)
 have m:=ah (fun (h:(aO t l&&aN nm)=false) x hb=>K5 (t:=t) (l:=l) (r:=r) (w:=w) (w':=x) (by rw [ai.out];exact h) hb)
 cases T:aO t l with
 | false =>
  rw [T] at m
  obtain ⟨V,f,L,ac,am⟩:=I.out w1 (Below.refl _ _)
  have O:=ah f
  have M:=ah am
  have o:=ac.range
  clear f am ac I HN T
  go_wp2_with (refine aj rfl 51 _ _ rfl (w.heap.size+1+1) 0 [.slice none 0 0,.slice none 0 0] rfl rfl 2 rfl L aa.out ab.out ?_;rw [O.out])
  refine lu rfl (w.heap.size+1+1) 0 rfl [.slice none 0 0,.slice none 0 0] _ o underlying51 rfl bi rfl _ _ rfl rfl ?_
  exact m.out rfl _ M.out
 | true =>
  rw [T] at m
  go_wp2_with fail
  refine (HN.out w1).mono ?_
  rintro e w2 ⟨rfl,p⟩
  cases aq:aN nm with
  | false =>
   rw [aq] at m
   obtain ⟨V,f,L,ac,am⟩:=I.out w2 p
   have O:=ah f
   have M:=ah am
   have o:=ac.range
   clear f am ac I HN T p aq
   go_wp2_with (refine aj rfl 51 _ _ rfl (w.heap.size+1+1) 0 [.slice none 0 0,.slice none 0 0] rfl rfl 2 rfl L aa.out ab.out ?_;rw [O.out])
   refine lu rfl (w.heap.size+1+1) 0 rfl [.slice none 0 0,.slice none 0 0] _ o underlying51 rfl bi rfl _ _ rfl rfl ?_
   exact m.out rfl _ M.out
  | true =>
   have af:Hid ((aO t l&&aN r.1)=true):=ah (by rw [ai.out,T,aq];rfl)
   have G:=bth ax p
   replace B:=ah (B.out.below p)
   replace z:=ah (z.out.below p)
   replace u:=ah (u.out.below p)
   have ae:=ao.out.below p
   have ca:=ae.range
   clear p ao I m HN ax T aq ae
   have a6:Hid (∀w,(Instr.build 93 #[(0,.string nm),(1,.agg ci.toArray)]).run prog w= .ok (.agg (rfC r).toArray) w):=ah fun w=>by
    rw [←ce.out,←ai.out];exact xq r.1 r.2 U w
   have cr:=ah bb
   have ck:Hid (r.1.size≤1000):=ah (by rw [ai.out];exact hr)
   have cn:Hid (r.1.size≤1000000∧r.2.length=32):=ah ⟨by rw [ai.out];omega,U⟩
   have N:Hid ((rfC r).length=33):=ah (d9 U)
   have bm:(prog.info? 93).map (·.size)=some (rfC r).length:=by rw [N.out];exact gT
   have bp:=ah (jG r)
   obtain ⟨zr,b4,b8⟩:=iB
   have cq:=ah b4
   obtain ⟨w3,aw⟩:∃x,(w2.alloc (.cells zr 93)).setCells w2.heap.size 0 (rfC r)=x:=⟨_,rfl⟩
   have C:Below w2.heap.size w2 w3:=by rw [←aw];exact below_setCells _ (Nat.le_refl _) _ _ _ bal
   have bh:ak w3 w2.heap.size 93 (rfC r):=by rw [←aw];exact ak.set (cs:=zr.toList) (by have:=ak.new w2 93 zr.toList;simpa using this) (by rw [N.out];simpa using b8.symm)
   have b2:=ah (there_alloc (n:=33) w2 zr 93 b8)
   have bk:=ah aw
   have cd:=ah gT
   obtain ⟨rc,bj⟩:∃x,rfC r=x:=⟨_,rfl⟩
   have b0:=ah bj
   rw [bj] at bh N bm bp a6 bk
   clear aw bj
   go_upto_region 3 with fail
   go_wp2_with (first
    | refine wpList_load_mid rfl 42 _ rfl (w.heap.size+1) 0 rfl ci _ ca underlying42 rfl br ?_
    | refine fF rfl 93 _ _ rfl (.string nm) (.agg ci.toArray) (.agg rc.toArray) rfl rfl (a6.out _) ?_
    | (refine aj rfl 93 _ _ rfl w2.heap.size 0 rc rfl rfl 33 N.out b2.out cd.out bp.out ?_;rw [bk.out]))
   simp only [Act.put]
   clear ca a6 b2 bk b4
   replace B:=ah ((B.out.below C).range)
   replace z:=ah (z.out.below C)
   replace u:=ah (u.out.below C)
   replace G:=bth G C
   replace an:=ah (an.out.jX G.out h5)
   have b9:Hid (w.heap.size+1+1<w3.heap.size):=ah z.out.lt
   have P:=ah bh
   clear C bh bb
   obtain ⟨n9,aE⟩:∃n,w2.heap.size=n:=⟨_,rfl⟩
   rw [aE] at P
   simp only [aE]
   clear aE
   go_cut [10] from 23 to 32 (fun cj wx=> ∃E v1 v2,cj= .pointer (some ⟨E,0,none⟩)∧Hid (w3.heap.size≤E∧wx.rangeAt E 0 [v1,v2]∧qj w3 wx v1 v2 t (l++[r])∧Below w3.heap.size w3 wx))
   case first =>
    have R:w3.drew.cell? ⟨w.heap.size,0,none⟩=some vt∧w3.drew.cell? ⟨w.heap.size,1,none⟩=some vl∧w3.drew.rangeAt n9 0 rc:=⟨B.out 0 _ rfl,B.out 1 _ rfl,P.out.range⟩
    refine wrL 11 (fun x=>x.cell? ⟨w.heap.size,0,none⟩=some vt∧x.cell? ⟨w.heap.size,1,none⟩=some vl∧x.rangeAt n9 0 rc) ?_
    refine WL.tk 0 R ?_
    refine WL.tk 1 R ?_
    refine WL.tk 3 R ?_
    refine WL.tk 4 R ?_
    refine WL.tk 6 R ?_ (hy:=(fun w' cm=>aM 93 _ (cm.2.2) underlying93 rfl bm _ rfl rfl))
    obtain ⟨s,bc⟩:∃x,w3.drew=x:=⟨_,rfl⟩
    have q:Hid (Below w3.heap.size w3 s):=ah (by rw [←bc];exact (Below.refl _ _).drew)
    simp only [bc]
    have HS:Hid (∀x,Below w3.heap.size w3 x→x.cell? ⟨w.heap.size,0,none⟩=some vt∧x.cell? ⟨w.heap.size,1,none⟩=some vl∧x.rangeAt n9 0 rc):=ah fun x hx=>by
     have h1:=ay B.out hx (by have:=b9.out;omega)
     exact ⟨h1 0 _ rfl,h1 1 _ rfl,(P.out.below hx).range⟩
    have a1:Hid (∀x∈t,x.2.length=32):=ah fun x hx=>(be.out x (List.mem_append.2 (.inl hx))).2
    have a2:Hid (∀x∈l,x.2.length=32):=ah fun x hx=>(be.out x (List.mem_append.2 (.inr hx))).2
    have a0:Hid (∀x∈[r],x.2.length=32):=ah fun x hx=>by simp at hx;rw [hx];exact U
    have a9:Hid (∀x∈l++[r],x.2.length=32):=ah fun x hx=>by
     rcases List.mem_append.1 hx with h|h
     ·exact a2.out x h
     exact a0.out x h
    have ch:Hid (t.length≤1000000):=ah (by omega)
    have bf:Hid (l.length≤1000000):=ah (by omega)
    have cc:Hid (l.length+[r].length≤10000000):=ah (by simp;omega)
    have co:Hid (∀w,(sizeOf 93).run prog w= .ok rc.length w):=ah fun w=>by rw [N.out];kernel_rfl
    clear R bc
    iterate 5
     all_goals try
      refine WL.take (i:=9) (v:=.agg #[.slice F t.length c1,.slice o3 (l.length+1) c3]) rfl (by kernel_rfl) (by decide) (by decide +kernel) (by decide +kernel) (fun _ _ _ h=>h) rfl (by intro w' _;go_simp) (HS.out _ q.out) ?_
      simp only [Act.put,nz]
     all_goals first
      | refine WL.three (i:=2) (j:=7) (k:=10) rfl rfl rfl (by decide) (by decide) (by decide) (by decide +kernel) ?_ ?_ ?_
      | refine WL.three (i:=5) (j:=7) (k:=10) rfl rfl rfl (by decide) (by decide) (by decide) (by decide +kernel) ?_ ?_ ?_
      | refine WL.tw 2 7 ?_ ?_
      | refine WL.tw 2 10 ?_ ?_
      | refine WL.tw 5 7 ?_ ?_
      | refine WL.tw 5 10 ?_ ?_
      | refine WL.tw 7 10 ?_ ?_
      | refine WL.tw 8 10 ?_ ?_
      | refine WL.on 2 ?_
      | refine WL.on 5 ?_
      | refine WL.on 7 ?_
      | refine WL.on 8 ?_
      | refine WL.on 10 ?_
     all_goals first
      |
       obtain ⟨bs,Z,hl,ba,bu⟩:=H2.out
       go_wp2_with (refine fU rfl _ _ rfl bs _ l.length l rfl Z (some ⟨B7,0,none⟩) 1 [r] rfl H7.out a0.out cc.out hl ?_)
       intro v8 s X hg
       rw [show l.length+[r].length=l.length+1 from rfl] at X
       have H8:=ah (Cl1.mk2 (w1:=w3) (by simp) X ba a9.out)
       replace K:=ah (K.out.old Z bu hg)
       (try replace D:=ah (D.out.kept Z hg))
       replace q:=ah (q.out.grown hg q.out.size (fun k hk=>Nat.le_trans ba (Z.lt k hk).1))
       obtain ⟨o3,c3,rfl⟩:=bO X
       clear X hg hl ba bu Z H2 H7
       go_wp2_with fail
       refine ⟨HS.out _ q.out,?_⟩
      |
       go_wp2_with fail
       refine (jc vt t _ (u.out.below q.out).tab a1.out ch.out).mono ?_
       rintro e s ⟨v1,rfl,X,d⟩
       have K:=ah (Cl1.mk2 rfl X q.out.size a1.out)
       obtain ⟨F,c1,rfl⟩:=bO X
       (try replace H7:=ah (H7.out.below d))
       (try replace D:=ah (D.out.below d))
       replace q:=bth q d
       clear X d
       go_wp2_with fail
       refine ⟨HS.out _ q.out,?_⟩
      |
       have cb:=ah K.out.lt
       go_wp2_with fail
       refine (jc vl l _ (u.out.below q.out).log a2.out bf.out).mono ?_
       rintro e s ⟨v2,rfl,X,d⟩
       (try replace K:=ah (K.out.below d))
       (try replace H7:=ah (H7.out.below d))
       (try replace D:=ah (D.out.below d))
       have H2:Hid (Cl2 w3 s v2 l (.slice F t.length c1)):=ah (Cl2.of X d q.out.size cb.out)
       obtain ⟨o2,c2,rfl⟩:=bO X
       replace q:=bth q d
       clear X d cb
       go_wp2_with fail
       refine ⟨HS.out _ q.out,?_⟩
      |
       have d:Below (World.heap s).size s (s.alloc (.cells rc.toArray 93)):=bal
       have H7:Hid (dw (s.alloc (.cells rc.toArray 93)) (.slice (some ⟨(World.heap s).size,0,none⟩) 1 1) [r]):=ah (by rw [←b0.out];exact FE r s)
       (try replace K:=ah (K.out.below d))
       (try replace H2:=ah (H2.out.below d))
       (try replace D:=ah (D.out.below d))
       replace q:=bth q d
       go_wp2_with (refine aG rfl _ 49 93 rfl rc zr rfl underlying49 co.out cq.out (by rw [N.out];omega) (by rw [N.out];omega) ?_)
       refine ⟨HS.out _ q.out,?_⟩
       obtain ⟨B7,hE⟩:∃E,(World.heap s).size=E:=⟨_,rfl⟩
       obtain ⟨s,y⟩:∃x,s.alloc (.cells rc.toArray 93)=x:=⟨_,rfl⟩
       (try rw [y] at K)
       (try rw [y] at H2)
       (try rw [y] at D)
       rw [y] at d q H7
       rw [hE] at H7
       simp only [hE,y]
       clear hE y d
      |
       have d:Below (World.heap s).size s (s.alloc (.cells #[.slice none 0 0,.slice none 0 0] 51)):=bal
       have D:Hid (zK w3 (s.alloc (.cells #[.slice none 0 0,.slice none 0 0] 51)) (World.heap s).size):=ah (zK.of q.out)
       (try replace K:=ah (K.out.below d))
       (try replace H2:=ah (H2.out.below d))
       (try replace H7:=ah (H7.out.below d))
       (try replace H8:=ah (H8.out.below d))
       replace q:=bth q d
       go_wp2_with fail
       refine ⟨HS.out _ q.out,?_⟩
       obtain ⟨E,hE⟩:∃E,(World.heap s).size=E:=⟨_,rfl⟩
       obtain ⟨s,y⟩:∃x,s.alloc (.cells #[.slice none 0 0,.slice none 0 0] 51)=x:=⟨_,rfl⟩
       (try rw [y] at K)
       (try rw [y] at H2)
       (try rw [y] at H7)
       (try rw [y] at H8)
       rw [y] at d q D
       rw [hE] at D
       simp only [hE,y]
       clear hE y d
    all_goals try
     refine WL.take (i:=9) (v:=.agg #[.slice F t.length c1,.slice o3 (l.length+1) c3]) rfl (by kernel_rfl) (by decide) (by decide +kernel) (by decide +kernel) (fun _ _ _ h=>h) rfl (by intro w' _;go_simp) (HS.out _ q.out) ?_
     simp only [Act.put,nz]
    all_goals
     refine WL.la 11 ?_
     obtain ⟨wz,a7⟩:∃x,s.setCells E 0 [.slice F t.length c1,.slice o3 (l.length+1) c3]=x:=⟨_,rfl⟩
     have L:=D.out.box.there
     have HZ:Hid (w3.heap.size≤E∧wz.rangeAt E 0 [.slice F t.length c1,.slice o3 (l.length+1) c3]∧qj w3 wz (.slice F t.length c1) (.slice o3 (l.length+1) c3) t (l++[r])∧Below w3.heap.size w3 wz):=ah (by
      rw [←a7]
      refine ⟨D.out.le,(D.out.box.set (us:=[.slice F t.length c1,.slice o3 (l.length+1) c3]) rfl).range,⟨⟨K.out.set D.out.box,H8.out.set D.out.box,K.out.cap,H8.out.cap,fun x hx=> ?_⟩,K.out.fr,H8.out.fr⟩,below_setCells _ D.out.le _ _ _ q.out⟩
      rw [←List.append_assoc] at hx
      rcases List.mem_append.1 hx with hx|hx
      ·exact be.out x hx
      simp at hx;rw [hx];exact cn.out)
     have cf:=ah a7
     clear a7 D K H8 q HS
     refine aj rfl 51 _ _ rfl E 0 [.slice F t.length c1,.slice o3 (l.length+1) c3] rfl rfl 2 rfl L aa.out (by intro v hv;simp at hv;rcases hv with rfl|rfl<;>rfl) ?_
     rw [cf.out]
     simp only [Act.put,nz]
     go_wp2_with fail
     go_meet
     exact ⟨E,_,_,rfl,HZ⟩
   obtain ⟨E,v1,v2,rfl,H⟩:=hcut
   obtain ⟨F,k1,rfl,_⟩:=H.out.2.2.1.1.tab.open
   obtain ⟨o2,k2,rfl,_⟩:=H.out.2.2.1.1.log.open
   have o:=H.out.2.1
   have a4:=ah (dH _ _ t (l++[r]) wc H.out.2.2.1.1)
   have ar:(prog.info? 51).map (·.size)=some ([.slice F t.length k1,.slice o2 (l++[r]).length k2]:List Value).length:=bN
   have bf:Hid ((l++[r]).length=l.length+1):=ah (by simp)
   generalize (l++[r]).length=ln at H o a4 ar bf
   go_wp2_with (refine wpList_load_mid rfl 51 _ rfl E 0 rfl _ _ o underlying51 rfl ar ?_)
   refine a4.out.mono ?_
   rintro e w4 ⟨rfl,Q⟩
   have C:=H.out.2.2.2
   have bt:=ah (And.intro (H.out.2.2.1.1.below Q) (And.intro H.out.2.2.1.2.1 H.out.2.2.1.2.2))
   have Y:=ay o Q (by have:=World.block_lt_of_cell? wc (a:=⟨E,0,none⟩) (o 0 _ rfl);exact this)
   have A:Below w3.heap.size w3 w4:=C.trans (Q.mono C.size)
   have al:=(P.out.below A).range
   have J:=z.out.below A
   have bd:=bth G A
   have cl:=ah (show w.heap.size≤w3.heap.size from G.out.size)
   have bx:=Q.size
   have cz:E<w4.heap.size:=Nat.lt_of_lt_of_le (World.block_lt_of_cell? wc (a:=⟨E,0,none⟩) (o 0 _ rfl)) Q.size
   have aE:n9<w3.heap.size:=P.out.lt
   have cy:=A.size
   have bv:=ah (an.out.jX A (by have:=G.out.size;omega))
   have bz:=ah (show 5≤w4.heap.size by have:=G.out.size;omega)
   clear C Q A a4 o P z G u an H bx
   cases p:aO t (l++[r]) with
   | false =>
    have m:=ah (fun x hb=>GI (t:=t) (l:=l) (r:=r) (w:=w) (w':=x) af.out p hb)
    obtain ⟨V,f⟩:∃x,w4.setCells (w.heap.size+1+1) 0 [.slice none 0 0,.slice none 0 0]=x:=⟨_,rfl⟩
    have o:V.rangeAt (w.heap.size+1+1) 0 [.slice none 0 0,.slice none 0 0]:=by rw [←f];exact (J.set (us:=[.slice none 0 0,.slice none 0 0]) rfl).range
    have M:Hid (Below w.heap.size w V):=ah (by rw [←f];exact below_setCells _ (by omega) _ _ _ bd.out)
    have O:=ah f
    have L:=J.there
    clear f p J al Y
    go_wp2_with (refine aj rfl 51 _ _ rfl (w.heap.size+1+1) 0 [.slice none 0 0,.slice none 0 0] rfl rfl 2 rfl L aa.out ab.out ?_;rw [O.out])
    refine lu rfl (w.heap.size+1+1) 0 rfl [.slice none 0 0,.slice none 0 0] _ o underlying51 rfl bi rfl _ _ rfl rfl ?_
    exact m.out _ M.out
   | true =>
    have m:=ah (fun v1 v2 x h3 hb=>KZ (t:=t) (l:=l) (r:=r) (w:=w) (w':=x) (v1:=v1) (v2:=v2) af.out p h3 hb)
    have a3:Hid (∀x:BW w4.heap.size w4,Calls prog 107 #[.agg rc.toArray] x.out fun e w'=>e= .returned (.string (ofB (kN r)))∧Below x.out.heap.size x.out w'):=ah fun x=>by
     rw [←b0.out]
     exact rC r x.out ck.out U (by have:=x.hb.size;have:=bz.out;omega) (bv.out.jX x.hb bz.out)
    go_upto_region 7 with fail
    refine bg 3 (by kernel_rfl) (by kernel_rfl) ?_
    simp only [List.take_succ_cons,List.take_zero,List.drop_succ_cons,List.drop_zero]
    repeat (go_big_quiet_step ((go_at_call 107;with_reducible exact aA (a3.out _))))
    refine aY 51 _ _ rfl rfl rfl Y (by omega) underlying51 rfl ar ?_
    simp only [Act.put,nz]
    repeat (go_big_quiet_step ((go_at_call 107;with_reducible exact aA (a3.out _))))
    refine aY 93 _ _ rfl rfl rfl al (by omega) underlying93 rfl bm ?_
    simp only [Act.put,nz]
    repeat (go_big_quiet_step ((go_at_call 107;with_reducible exact aA (a3.out _))))
    refine wpQuiet_nil ?_
    intro wq ap
    have ad:=J.below ap
    have b7:=ad.there
    obtain ⟨V,f⟩:∃x,wq.setCells (w.heap.size+1+1) 0 [.slice F t.length k1,.slice o2 ln k2]=x:=⟨_,rfl⟩
    have b6:Below w.heap.size w V:=by rw [←f];exact below_setCells _ (by omega) _ _ _ (bd.out.trans (ap.mono bd.out.size))
    have o:V.rangeAt (w.heap.size+1+1) 0 [.slice F t.length k1,.slice o2 ln k2]:=by rw [←f];exact (ad.set (us:=[.slice F t.length k1,.slice o2 ln k2]) rfl).range
    have bo:Hid (qj w V (.slice F t.length k1) (.slice o2 ln k2) t (l++[r])):=ah (by
     rw [←f]
     obtain ⟨hk,f1,f2⟩:=bt.out
     have ag:=hk.below ap
     have b1:=bA [.slice F t.length k1,.slice o2 ln k2] 0 wq (World.grownBy.refl wq (some (w.heap.size+1+1)))
     have cw:=b9.out
     have cv:=cl.out
     refine ⟨⟨bM.zD ag.tab b1 fun b hb e=> ?_,bM.zD ag.log b1 fun b hb e=> ?_,ag.capt,ag.capl,ag.ok⟩,fun g hg=> ?_,fun g hg=> ?_⟩
     ·have:=f1 b hb;cases e;omega
     ·have:=f2 b hb;cases e;omega
     ·have:=f1 g hg;omega
     have:=f2 g hg;omega)
    have M:=ah b6
    have O:=ah f
    clear f p J al Y b6 ad ap
    go_wp2_with (refine aj rfl 51 _ _ rfl (w.heap.size+1+1) 0 [.slice F t.length k1,.slice o2 ln k2] rfl rfl 2 rfl b7 aa.out (by intro v hv;simp at hv;rcases hv with rfl|rfl<;>rfl) ?_;rw [O.out])
    refine lu rfl (w.heap.size+1+1) 0 rfl [.slice F t.length k1,.slice o2 ln k2] _ o underlying51 rfl ar rfl _ _ rfl rfl ?_
    exact m.out _ _ _ bo.out M.out
theorem qJ {H:Type} {P:Program} {k:TypeId} {R:Value→Option (DataW H×List MemPlace)} {w:World} {b n:Nat} {D:DataW H} {t e:TypeId} (h:w.ownsMap P k R b n D) (K:Keyed P k) (p:P.underlying t=some (.map k e)) (l:n<maxLen) {key val:Value} {m:Lit} {d:DataW H} {ps:List MemPlace}
  (f:keyOf P k key=some m) (o:R val=some (d,ps)):∃w',(Instr.mapUpdate t (.map (some b)) key val).run P w= .ok () w'∧w'.ownsMap P k R b (n+1) (D.put m d)∧w.grownBy w' (some b)∧w'.heap.size=w.heap.size:=by
 obtain ⟨w',g,h1,s⟩:=h.update K p l f o
 refine ⟨w',g,h1,s,?_⟩
 obtain ⟨es,j,hb,F,q,rfl⟩:=h
 obtain ⟨u,i,a,_⟩:=Maps.fit_store (R':=R) K p hb F (Nat.lt_of_le_of_lt q l) (fun _ _ _ _ r=>r) f o
 rw [g] at a
 injection a with _ e
 rw [e];simp [Go.ChangeMaps.setBlock]
theorem kU {α:Type} {enc:α→Value} {w:World} {ops:Array Oper} {rest:List Oper} {o:Oper} {a:Act} {Q:Exit→Act→World→Prop} (C:o.guard=none) (m x v:Operand) (t e:TypeId) (j:o.op=Op.mapUpdate t m x v)
  (B:prog.underlying t=some (.map 9 e)) (b n:Nat) (f:ByteArray→Option α) (hm:a.eval m= .map (some b)) (g:aZ enc w b n f) (p:ByteArray) (k:p.size≤maxLen) (c:α) (hx:a.eval x= .string p) (y:a.eval v=enc c) (s:n<maxLen)
  (u:∀w',aZ enc w' b (n+1) (fun q=>if q=p then some c else f q)→w.grownBy w' (some b)→w'.heap.size=w.heap.size→wpList prog ops Q rest (a.put o.dst undef) w'):wpList prog ops Q (o::rest) a w:=by
 obtain ⟨D,g,z⟩:=g
 refine wpList_plain C fun E i=> ?_
 obtain ⟨w',h,r,A,l⟩:=qJ g eG B s (key:=.string p) (val:=enc c) (d:=.held (enc c)) (ps:=[]) (jq k) rfl
 unfold Oper.wp
 simp [execOp,j,hm,hx,y,h,Result.andThen]
 exact i _ _ (u w' ⟨_,r,sM z g.isMap p k c⟩ A l)
structure GL (n k:Nat) (w0 w:World):Prop where
 size:w.heap.size = n + 2 + 3 * k
 map:aZ bF w n k fun x => match cu x with
  | some j => if j < k then some (n + 4 + 3 * j) else none
  | none => none
 dirs:∀ j,j < k → ak w (n + 4 + 3 * j) 83 [.map (some (n + 2 + 3 * j)),.map (some (n + 3 + 3 * j)),.slice none 0 0]
 seen:∀ j,j < k → aZ bF w (n + 2 + 3 * j) 0 (fun _ => none) ∧ aZ bF w (n + 3 + 3 * j) 0 (fun _ => none)
 bel:Below n w0 w
theorem Nw (m:Nat) (q:Int) (w:World):(Instr.build 77 #[(0,.map (some m)),(1,.int .i64 q)]).run prog w= .ok (.agg #[.map (some m),.int .i64 q,.int .i64 0,.bool false,.bool false]) w:=run_build w 77 _ _ (by kernel_rfl)
theorem KA (m a:Nat) (w:World):(Instr.build 83 #[(0,.map (some m)),(1,.map (some a))]).run prog w= .ok (.agg #[.map (some m),.map (some a),.slice none 0 0]) w:=run_build w 83 _ _ (by kernel_rfl)
def bG (k:Nat):ByteArray:=if k=0 then iA else if k=1 then mF else wW
theorem fJ {x:ByteArray} {j:Nat} (h:cu x=some j):j<3∧x=bG j:=by
 unfold cu at h
 split at h
 ·cases h;rename_i e;exact ⟨by decide,e⟩
 split at h
 ·cases h;rename_i e;exact ⟨by decide,e⟩
 split at h
 ·cases h;rename_i e;exact ⟨by decide,e⟩
 cases h
theorem gV:∀ {k:Nat},k<3→cu (bG k)=some k:=by
 intro k a
 obtain rfl|rfl|rfl:k=0∨k=1∨k=2:=by omega
 all_goals decide
theorem GL.next {n k:Nat} {w0 w w':World} (h:GL n k w0 w) (u:k<3)
  (hm:aZ bF w' n (k+1) fun q=>if q=bG k then some (n+4+3*k) else (match cu q with
   | some j=>if j<k then some (n+4+3*j) else none
   | none=>none))
  (a:(((w.alloc (.map #[] 0)).alloc (.map #[] 0)).alloc (.cells #[.map (some w.heap.size),.map (some (w.heap.size+1)),.slice none 0 0] 83)).grownBy w' (some n))
  (v:w'.heap.size=w.heap.size+3) (hb:Below n w0 w'):GL n (k+1) w0 w':=by
 have b:=h.size
 have l:Below w.heap.size w (w.alloc (.map #[] 0)):=bal
 have t:Below w.heap.size w ((w.alloc (.map #[] 0)).alloc (.map #[] 0)):=l.alloc (by simp) _
 have g:Below w.heap.size w (((w.alloc (.map #[] 0)).alloc (.map #[] 0)).alloc (.cells #[.map (some w.heap.size),.map (some (w.heap.size+1)),.slice none 0 0] 83)):=t.alloc (by rw [World.size_alloc,World.size_alloc];omega) _
 have s:aZ bF (((w.alloc (.map #[] 0)).alloc (.map #[] 0)).alloc (.cells #[.map (some w.heap.size),.map (some (w.heap.size+1)),.slice none 0 0] 83)) w.heap.size 0 (fun _=>none) :=
  ((nX w).on bal).on bal
 have m:aZ bF (((w.alloc (.map #[] 0)).alloc (.map #[] 0)).alloc (.cells #[.map (some w.heap.size),.map (some (w.heap.size+1)),.slice none 0 0] 83)) (w.heap.size+1) 0 (fun _=>none):=by
  have:=(nX (enc:=bF) (w.alloc (.map #[] 0)))
  rw [World.size_alloc] at this
  exact this.on bal
 have x3:ak (((w.alloc (.map #[] 0)).alloc (.map #[] 0)).alloc (.cells #[.map (some w.heap.size),.map (some (w.heap.size+1)),.slice none 0 0] 83)) (w.heap.size+2) 83 [.map (some w.heap.size),.map (some (w.heap.size+1)),.slice none 0 0]:=by
  have:=ak.new ((w.alloc (.map #[] 0)).alloc (.map #[] 0)) 83 [.map (some w.heap.size),.map (some (w.heap.size+1)),.slice none 0 0]
  rw [World.size_alloc,World.size_alloc] at this
  exact this
 refine ⟨by omega,hm.ext fun x _=> ?_,fun j f=> ?_,fun j f=> ?_,hb⟩
 ·by_cases e:x=bG k
  ·rw [if_pos e,e,gV u]
   dsimp only
   rw [if_pos (Nat.lt_succ_self k)]
  rw [if_neg e]
  cases r:cu x with
  | none=>rfl
  | some j =>
   have f:=fJ r
   have:j≠k:=fun h=>e (by rw [←h];exact f.2)
   dsimp only
   by_cases d:j<k
   ·rw [if_pos d,if_pos (by omega)]
   rw [if_neg d,if_neg (by omega)]
 ·by_cases e:j=k
  ·subst e
   have:=x3.kept a (by simp;omega)
   rw [b] at this
   have p:n+2+3*j+2=n+4+3*j:=by omega
   have i:n+2+3*j+1=n+3+3*j:=by omega
   rwa [p,i] at this
  exact ((h.dirs j (by omega)).below g).kept a (by simp;omega)
 by_cases e:j=k
 ·subst e
  have a1:=s.grown a (by simp;omega)
  have a2:=m.grown a (by simp;omega)
  rw [b] at a1 a2
  have i:n+2+3*j+1=n+3+3*j:=by omega
  rw [i] at a2
  exact ⟨a1,a2⟩
 obtain ⟨h1,o⟩:=h.seen j (by omega)
 exact ⟨(h1.on g).grown a (by simp;omega),(o.on g).grown a (by simp;omega)⟩
theorem Ep (q:Int) (w:World) (R:eP w):Calls prog 9 #[.int .i64 q] w fun e w'=>e= .returned (.pointer (some ⟨w.heap.size+1,0,none⟩))∧GL w.heap.size 3 w w'∧ak w' (w.heap.size+1) 77 [.map (some w.heap.size),.int .i64 q,.int .i64 0,.bool false,.bool false]:=by
 have U:=Nw
 have T:=@run_makeMap prog
 have V:=KA
 obtain ⟨W,o⟩:∃W,(w.alloc (.map #[] 0)).alloc (.cells #[.map (some w.heap.size),.int .i64 q,.int .i64 0,.bool false,.bool false] 77)=W:=⟨_,rfl⟩
 have l:Below w.heap.size w W:=by rw [←o];exact bal.alloc (by simp) _
 have r:Hid (ak W (w.heap.size+1) 77 [.map (some w.heap.size),.int .i64 q,.int .i64 0,.bool false,.bool false]):=ah (by
  rw [←o]
  have:=ak.new (w.alloc (.map #[] 0)) 77 [.map (some w.heap.size),.int .i64 q,.int .i64 0,.bool false,.bool false]
  rwa [World.size_alloc] at this)
 have u:Hid (GL w.heap.size 0 w W):=ah ⟨by rw [←o];simp,by
  have h:=((nX (enc:=bF) w).on (w':=W) (by rw [←o];exact bal))
  exact h.ext fun x _=>by cases cu x with
   | none=>rfl
   | some j=>dsimp only;rw [if_neg (by omega)],fun j E=>absurd E (by omega),fun j E=>absurd E (by omega),l⟩
 have z:=ah (R.below l).ord
 have v:(prog.info? 78).map (·.size)=some ([.string iA,.string mF,.string wW]:List Value).length:=by kernel_rfl
 have Q:=ah o
 have t:=z.out
 clear o l R
 obtain ⟨n,L⟩:∃n,w.heap.size=n:=⟨_,rfl⟩
 rw [L] at u r ⊢
 have C:=ah L
 clear L
 go_enter func9,ntmps9
 go_upto_region 2 with fail
 rw [Q.out]
 go_wp2_with (refine wpList_load_mid rfl 78 _ rfl 0 0 rfl _ _ t underlying78 rfl v ?_)
 have K:Hid (∀(k:Nat) (h:k<3) (W:World),(Instr.index 78 (.agg #[.string iA,.string mF,.string wW]) (.int .i64 (k:Int))).run prog W= .ok (.string (bG k)) W):=ah (fun k h W=>by
  obtain rfl|rfl|rfl:k=0∨k=1∨k=2:=by omega
  all_goals kernel_rfl)
 clear t v
 rw [C.out]
 clear C Q z
 go_loopw [5,11] (fun _ i wr=> ∃k:Nat,i= .int .i64 (k:Int)∧k≤3∧Hid (GL n k w wr)∧Hid (ak wr (n+1) 77 [.map (some n),.int .i64 q,.int .i64 0,.bool false,.bool false])) (fun _ i _=>(3-intOf i).toNat)
 case atStart=>exact ⟨0,rfl,by omega,u,r⟩
 obtain ⟨a,rfl⟩:∃a:World,a=wr:=⟨_,rfl⟩
 obtain ⟨k,rfl,Z,HS,J⟩:=hrel
 by_cases p:k<3
 ·have Y:(k:Int)<3:=by omega
  have I:=K.out k p
  have wi:IntKind.i64.wrap ((k:Int)+1)=(k:Int)+1:=by rw [IntKind.wrap_i64];omega
  have c0:a.cell? ⟨n+1,0,none⟩=some (.map (some n)):=J.out.range 0 _ rfl
  have B:=HS.out.size
  generalize m:bG k=dn at I
  have G:dn.size≤maxLen:=by
   rw [←m]
   unfold bG maxLen
   obtain rfl|rfl|rfl:k=0∨k=1∨k=2:=by omega
   all_goals decide
  have M:=ah m
  obtain ⟨S,b⟩:∃W,((a.alloc (.map #[] 0)).alloc (.map #[] 0)).alloc (.cells #[.map (some a.heap.size),.map (some (a.heap.size+1)),.slice none 0 0] 83)=W:=⟨_,rfl⟩
  have d:Below a.heap.size a S:=by rw [←b];exact (bal.alloc (by simp) _).alloc (by rw [World.size_alloc,World.size_alloc];omega) _
  have A:S.heap.size=a.heap.size+3:=by rw [←b];simp
  have H:=ah (HS.out.map.on d)
  have F:=ah (J.out.below d)
  have N:=ah (HS.out.bel.trans (d.mono (by omega)))
  have D:=ah A
  have O:=ah B
  have y:=ah b
  clear b d A m B
  go_wp2_with (rw [y.out];refine kU rfl _ _ _ 75 79 rfl underlying75 n k _ rfl H.out dn G (a.heap.size+2) rfl rfl (by unfold maxLen;omega) ?_)
  intro w' hm P f
  have X:=ah hm
  have g:=ah P
  have s:=ah f
  clear hm P f
  go_wp2_with fail
  go_roundw
  case rel =>
   refine ⟨k+1,by go_num,by omega,HS.out.next p (X.out.ext fun q _=>by rw [M.out,O.out,show n+2+3*k+2=n+4+3*k from by omega]) (by rw [y.out];exact g.out) (by rw [s.out,D.out]) (N.out.grown g.out (by have h1:=O.out;have h2:=D.out;omega) (fun j E=>by cases E;omega)),F.out.kept g.out (by simp)⟩
  case measure=>simp [intOf];omega
 obtain rfl:k=3:=by omega
 go_wp2_with fail
 go_ret
 exact ⟨rfl,HS.out,J.out⟩
structure Chg (S:Nat → Prop) (w w':World):Prop where
 os:w'.os = w.os
 tape:w'.tape = w.tape
 output:w'.output = w.output
 size:w.heap.size ≤ w'.heap.size
 block:∀ k,k < w.heap.size → ¬ S k → w'.heap[k]? = w.heap[k]?
theorem Chg.refl (S:Nat→Prop) (w:World):Chg S w w:=⟨rfl,rfl,rfl,Nat.le_refl _,fun _ _ _=>rfl⟩
theorem Chg.trans {S:Nat→Prop} {w w' a:World} (h:Chg S w w') (b:Chg S w' a):Chg S w a :=
 ⟨b.os.trans h.os,b.tape.trans h.tape,b.output.trans h.output,Nat.le_trans h.size b.size,fun k e d=>(b.block k (Nat.lt_of_lt_of_le e h.size) d).trans (h.block k e d)⟩
theorem Chg.mono {S T:Nat→Prop} {w w':World} (h:Chg S w w') (a:∀k,k<w.heap.size→S k→T k):Chg T w w':=⟨h.os,h.tape,h.output,h.size,fun k b d=>h.block k b fun e=>d (a k b e)⟩
theorem Chg.gF {w w':World} {row:Option Nat} {S:Nat→Prop} (h:w.grownBy w' row) (b:∀k,row=some k→S k):Chg S w w':=⟨h.os,h.tape,h.output,h.size,fun k d a=>h.block k d fun e=>a (b k e.symm)⟩
theorem Chg.of_below {w w':World} {S:Nat→Prop} (h:Below w.heap.size w w'):Chg S w w':=⟨h.os,h.tape,h.output,h.size,fun k a _=>h.block k a⟩
theorem Chg.below {S:Nat→Prop} {n:Nat} {a w w':World} (h:Below n a w) (b:Chg S w w') (f:n≤w.heap.size) (hS:∀k,S k→n≤k):Below n a w':=by
 exact ⟨b.os.trans h.os,b.tape.trans h.tape,b.output.trans h.output,Nat.le_trans h.size b.size,fun k e=>(b.block k (by omega) fun d=>absurd (hS k d) (by omega)).trans (h.block k e)⟩
theorem ak.chg {S:Nat→Prop} {w w':World} {b:Nat} {t:TypeId} {cs:List Value} (h:ak w b t cs) (a:Chg S w w') (hb:¬S b):ak w' b t cs:=(a.block b h.lt hb).trans h
section
variable {α:Type} {enc:α → Value}
theorem aZ.chg {S:Nat→Prop} {w w':World} {b n:Nat} {f:ByteArray→Option α} (h:aZ enc w b n f) (a:Chg S w w') (hb:¬S b):aZ enc w' b n f:=h.heap (a.block b h.lt hb)
end
theorem O6 {α:Type} {enc:α→Value} {w:World} {b n:Nat} {f:ByteArray→Option α} (h:aZ enc w b n f) {t e:TypeId} (d:prog.underlying t=some (.map 9 e)) (ty:TypeId):∃w',(Builtin.clear_ #[t] ty #[.map (some b)]).run prog w= .ok (.tuple #[]) w'∧aZ enc w' b 0 (fun _=>none)∧w.grownBy w' (some b):=by
 obtain ⟨D,⟨es,a,hb,F,j,g⟩,_⟩:=h
 refine ⟨{ w with heap:=w.heap.setIfInBounds b (.map #[] a) },?_,?_,?_⟩
 ·simp [Builtin.clear_,run_underlying d,MapKept.run_getObj_map hb,MapKept.run_setObj_map _ hb,Result.andThen]
 ·exact ⟨.map [],⟨#[],a,(MapKept.heap_set hb).1,⟨by simp,MapKept.stamped_empty a,by simp⟩,Nat.le_refl _,rfl⟩,wT⟩
 exact ⟨rfl,rfl,rfl,by simp,fun i _ hi=>(MapKept.heap_set hb).2 i (fun e=>hi (by rw [e]))⟩
theorem vY {α:Type} {enc:α→Value} {w:World} {ops:Array Oper} {rest:List Oper} {o:Oper} {a:Act} {Q:Exit→Act→World→Prop} (q:o.guard=none) (m:Operand) (t e:TypeId) (i:o.op=Op.call { callee:=Callee.builtin Builtin.clear,args:=#[m],argTypes:=#[t] })
  (p:prog.underlying t=some (.map 9 e)) (b n:Nat) (f:ByteArray→Option α) (hm:a.eval m= .map (some b)) (d:aZ enc w b n f)
  (k:∀w',aZ enc w' b 0 (fun _=>none)→w.grownBy w' (some b)→wpList prog ops Q rest (a.put o.dst (.tuple #[])) w'):wpList prog ops Q (o::rest) a w:=by
 refine wpList_plain q fun r h=> ?_
 obtain ⟨w',g,j,l⟩:=O6 d p o.type
 unfold Oper.wp
 simp [execOp,i,resolve,invoke,builtin,hm,g,Result.andThen]
 exact h _ _ (k w' j l)
def Gj (l:List ByteArray) (x:ByteArray):Bool:=l.any fun y=>decide (y=x)
theorem lH {l:List ByteArray} {x:ByteArray}:Gj l x=true↔x∈l:=by unfold Gj;simp
theorem pV {X Y:World} (h:X.grownBy Y none) (r:Option Nat):X.grownBy Y r:=⟨h.os,h.tape,h.output,h.size,fun k a _=>h.block k a (by simp)⟩
structure Qz (w0:World) (a b r n:Nat) (f:ByteArray → Option Nat) (La dn Lr:List ByteArray) (w:World):Prop where
 rng:RangeT bF w b r n f Lr
 dst:aZ bF w a dn.length fun x => if Gj dn x = true then f x else none
 mem:∀ x,x ∈ La ↔ x ∈ dn ∨ x ∈ Lr
 len:dn.length + Lr.length = La.length
 grow:w0.grownBy w (some a)
 fresh:w0.heap.size ≤ r
theorem kL {x:ByteArray}:∀ {l:List ByteArray},l.Nodup→x∈l→(l.filter fun y=>decide (y≠x)).length+1=l.length
 | [],_,h=>by cases h
 | z::l,hn,h=>by
  rw [List.nodup_cons] at hn
  rw [List.filter_cons]
  by_cases e:z=x
  ·subst e
   rw [if_neg (by simp)]
   have:(l.filter fun y=>decide (y≠z))=l:=List.filter_eq_self.2 fun y hy=>decide_eq_true (fun e=>hn.1 (e▸hy))
   rw [this];rfl
  rw [if_pos (decide_eq_true e),List.length_cons,List.length_cons,kL hn.2 ((List.mem_cons.1 h).resolve_left fun h=>e h.symm)]
theorem NG (a b n:Nat) (f:ByteArray→Option Nat) (La:List ByteArray) (w:World) (J:a≠b) (ha:aZ bF w a 0 fun _=>none) (hb:aZ bF w b n f) (D:La.Nodup) (hz:∀x∈La,x.size≤maxLen) (hL:∀x,x.size≤maxLen→((f x).isSome=true↔x∈La)) (hl:La.length≤1000000) :
  Calls prog 251 #[.map (some a),.map (some b)] w fun e w'=>e= .returned (.tuple #[])∧aZ bF w' b n f∧aZ bF w' a La.length f∧w.grownBy w' (some a):=by
 have X:=ah ha
 have T:=ah hb
 have S:=ah D
 have HZ:=ah hz
 have HL:=ah hL
 have aa:=ah hl
 have V:=ah J
 clear ha hb D hz hL hl J
 go_enter func251,ntmps251
 go_wp2_with (refine iw (enc:=bF) rfl _ 80 116 rfl underlying80 b n f La rfl T.out S.out HZ.out HL.out ?_)
 intro w2 q z O
 obtain ⟨i,B⟩:∃i,w.heap.size=i:=⟨_,rfl⟩
 have Q:Hid (Qz w a b i n f La [] La w2):=ah ⟨by rw [←B];exact q,(X.out.grown z (by simp)).ext fun x _=>by rw [if_neg (by simp [Gj])],by simp,by simp,pV z _,by omega⟩
 rw [B]
 clear q z O B
 go_upto_region 1 with fail
 go_loopw [4,5] (fun _ _ wr=> ∃dn Lr,Qz w a b i n f La dn Lr wr) (fun _ _ wr=>wr.rangeLeft b i)
 case atStart=>exact ⟨[],La,Q.out⟩
 obtain ⟨P,rfl⟩:∃P:World,P=wr:=⟨_,rfl⟩
 obtain ⟨dn,Lr,A⟩:=hrel
 have d:=ah A
 have t:=A.rng
 clear A
 go_wp2_with (refine jk (enc:=bF) rfl _ rfl b i n f Lr rfl t ?_ ?_)
 ·intro Y
  subst Y
  clear t
  go_wp2_with fail
  go_end0
  refine ⟨rfl,d.out.rng.map,?_,d.out.grow⟩
  have H:=d.out.len
  have hd:=d.out.dst
  rw [show dn.length=La.length from by simpa using H] at hd
  refine hd.ext fun x hx=> ?_
  by_cases e:Gj dn x=true
  ·rw [if_pos e]
  rw [if_neg e]
  rw [lH] at e
  cases hf:f x with
  | none=>rfl
  | some o =>
   have:=(HL.out x hx).1 (by rw [hf];rfl)
   rcases (d.out.mem x).1 this with h|h
   ·exact absurd h e
   cases h
 intro x c w3 K ac E r p s ae ad
 have W:Hid (aZ bF w3 a dn.length fun x=>if Gj dn x=true then f x else none):=ah (d.out.dst.grown s (fun e=>by
  have h1:=d.out.fresh
  have R:=X.out.lt
  have:=Option.some.inj e;omega))
 have l:=ah r
 have M:=ah p
 have j:=ah s
 have Z:=ah E
 have G:=ah K
 have F:dn.length<maxLen:=by
  have h1:=d.out.len
  have R:=aa.out
  unfold maxLen;omega
 clear r p s E K t
 go_wp2_with (refine kU (enc:=bF) rfl _ _ _ 80 116 rfl underlying80 a dn.length _ rfl W.out x ac c rfl rfl F ?_)
 intro w4 L g U
 have u:some i≠some a:=fun e=>by
  have h1:=d.out.fresh
  have R:=X.out.lt
  have:=Option.some.inj e;omega
 have C:some b≠some a:=fun e=>V.out (Option.some.inj e).symm
 have v:Hid (Qz w a b i n f La (x::dn) (Lr.filter fun y=>decide (y≠x)) w4):=ah ⟨(show RangeT bF w4 b i n f (Lr.filter fun y=>decide (y≠x)) by simpa only [ne_eq,decide_not] using l.out.grown g C u),L.ext fun y _=>by
   by_cases e:y=x
   ·subst e;rw [if_pos rfl,if_pos (lH.2 (List.mem_cons_self ..)),Z.out]
   ·rw [if_neg e]
    by_cases N:Gj dn y=true
    ·rw [if_pos N,if_pos (lH.2 (List.mem_cons_of_mem _ (lH.1 N)))]
    rw [if_neg N,if_neg (fun h=>(List.mem_cons.1 (lH.1 h)).elim e (fun h=>N (lH.2 h)))],fun y=>by
   rw [d.out.mem,List.mem_cons,List.mem_filter,decide_eq_true_iff]
   by_cases e:y=x
   ·subst e;exact ⟨fun _=> .inl (.inl rfl),fun _=> .inr G.out⟩
   ·exact ⟨fun h=>h.elim (fun h=> .inl (.inr h)) (fun h=> .inr ⟨h,e⟩),fun h=>h.elim (fun h=> .inl (h.resolve_left e)) (fun h=> .inr h.1)⟩,by
   have h1:=d.out.len
   have R:=kL d.out.rng.nodup G.out
   rw [List.length_cons];omega,by
   have h0:=d.out.fresh
   have h1:w.grownBy w3 (some a):=⟨j.out.os.trans d.out.grow.os,j.out.tape.trans d.out.grow.tape,j.out.output.trans d.out.grow.output,Nat.le_trans d.out.grow.size j.out.size,fun k I m=>(j.out.block k (Nat.lt_of_lt_of_le I d.out.grow.size) (fun e=>by have:=Option.some.inj e;omega)).trans (d.out.grow.block k I m)⟩
   exact ⟨g.os.trans h1.os,g.tape.trans h1.tape,g.output.trans h1.output,Nat.le_trans h1.size g.size,fun k I m=>(g.block k (Nat.lt_of_lt_of_le I h1.size) m).trans (h1.block k I m)⟩,d.out.fresh⟩
 have ab:Hid (w4.rangeLeft b i<P.rangeLeft b i):=ah (by
  have e:w4.rangeLeft b i=w3.rangeLeft b i:=dN (g.block b l.out.map.lt C) (g.block i l.out.lt u)
  rw [e];exact M.out)
 clear L g U u C F
 go_wp2_with fail
 go_roundw
 case rel=>exact ⟨_,_,v.out⟩
 case measure=>exact ab.out
theorem Fu (p a b m n:Nat) (g f:ByteArray→Option Nat) (pd:Value) (La:List ByteArray) (w:World) (C:ak w p 83 [.map (some b),.map (some a),pd]) (q:a≠b) (y:p≠a) (u:p≠b) (R:aZ bF w a m g) (hb:aZ bF w b n f) (t:La.Nodup) (N:∀x∈La,x.size≤maxLen) (O:∀x,x.size≤maxLen→((f x).isSome=true↔x∈La)) (Q:La.length≤1000000) :
  Calls prog 227 #[.pointer (some ⟨p,0,none⟩)] w fun e w'=>e= .returned (.tuple #[])∧ak w' p 83 [.map (some b),.map (some a),.slice none 0 0]∧aZ bF w' b n f∧aZ bF w' a La.length f∧Chg (fun k=>k=a∨k=p) w w':=by
 have X:=ah C
 have V:=ah R
 have F:=ah hb
 have J:=ah (fun W (h1:aZ bF W a 0 fun _=>none) (T:aZ bF W b n f)=>NG a b n f La W q h1 T t N O Q)
 have c1:w.cell? ⟨p,1,none⟩=some (.map (some a)):=C.range 1 _ rfl
 have I:=ah q
 have s:=ah y
 have K:=ah u
 clear C R hb t N O Q q y u
 go_enter func227,ntmps227
 go_wp2_with (refine vY (enc:=bF) rfl _ 80 116 rfl underlying80 a m g rfl V.out ?_)
 intro w1 B l
 have i:=X.out.kept l (fun e=>s.out (Option.some.inj e))
 have Y:w1.cell? ⟨p,0,none⟩=some (.map (some b)):=i.range 0 _ rfl
 have Z:w1.cell? ⟨p,1,none⟩=some (.map (some a)):=i.range 1 _ rfl
 have L:=ah (J.out w1.drew (B.on (Below.refl _ _).drew) ((F.out.grown l (fun e=>I.out (Option.some.inj e).symm)).on (Below.refl _ _).drew))
 have P:=i.lt
 have o:=ah (i.below (Below.refl _ _).drew)
 have H:Hid (Chg (fun k=>k=a∨k=p) w w1.drew):=ah ((Chg.gF l (fun k e=> .inl (Option.some.inj e).symm)).trans (Chg.of_below (Below.refl _ _).drew))
 clear c1 B l i
 go_upto_region 1 with fail
 have d:w1.drew.cell? ⟨p,0,none⟩=some (.map (some b))∧w1.drew.cell? ⟨p,1,none⟩=some (.map (some a)):=⟨o.out.range 0 _ rfl,o.out.range 1 _ rfl⟩
 refine wrL 8 (fun w'=>w'.cell? ⟨p,0,none⟩=some (.map (some b))∧w'.cell? ⟨p,1,none⟩=some (.map (some a))) ?_
 refine WL.tk 0 d ?_
 refine WL.tk 1 d ?_
 refine WL.tk 2 d ?_
 refine WL.tk 3 d ?_
 refine WL.tk 4 d ?_
 refine WL.tk 5 d ?_
 refine WL.tk 6 d ?_
 refine WL.tk 7 d ?_
 refine WL.la 8 ?_
 go_wp2_with fail
 refine L.out.mono ?_
 rintro e A ⟨rfl,v,z,r⟩
 have j:=o.out.kept r (fun e=>s.out (Option.some.inj e))
 have k2:A.cell? ⟨p,2,none⟩=some pd:=j.range 2 _ rfl
 have U:A.frozen? ⟨p,2,none⟩=false:=by have:=(j.there 2 (by simp)).2;rwa [Nat.zero_add] at this
 have M:=ah j
 have D:=ah v
 have E:=ah z
 have G:Hid (Chg (fun k=>k=a∨k=p) w A):=ah (H.out.trans (Chg.gF r (fun k e=> .inl (Option.some.inj e).symm)))
 clear v z r j
 go_wp2_with fail
 go_end0
 have h:Chg (fun k=>k=p) A (A.setCell ⟨p,2,none⟩ (.slice none 0 0)):=⟨rfl,rfl,rfl,by simp [World.setCell],fun k _ S=>Below.heap_setCell _ _ _ _ S⟩
 exact ⟨rfl,M.out.put 2 _,D.out.chg h (fun e=>K.out e.symm),E.out.chg h (fun e=>s.out e.symm),G.out.trans (h.mono fun k _ e=> .inr e)⟩
end
section
open Go.RowKit
theorem AX:∀i:Fin 16,q9 (lK i.val)=true:=by decide +kernel
theorem AL (x:List UInt8):(bY x).all q9=true:=by
 unfold bY
 induction x with
 | nil=>rfl
 | cons a x ih =>
  have b:=a.toNat_lt
  rw [List.flatMap_cons,List.all_append,ih,Bool.and_true]
  simp only [List.all_cons,List.all_nil,Bool.and_true,Bool.and_eq_true]
  exact ⟨AX ⟨a.toNat/16,by omega⟩,AX ⟨a.toNat%16,by omega⟩⟩
theorem Ka {x:List UInt8} (hx:x.length=32):aU (ofB (bY x))=true:=by
 have h:=qY x
 have e:(ofB (bY x)).data.toList=bY x:=by simp [ofB]
 unfold aU
 rw [e,AL,aR,decide_eq_true (by omega),decide_eq_true (by omega)]
 rfl
theorem Jq (d:Dk) {nm:ByteArray} (h:aU nm=true):rdD d iA nm=match d 0 nm with|none=>(⟨#[]⟩,6)|some s=>(s,0):=by
 unfold rdD
 rw [if_pos h]
 rfl
def uS (d:Dk) (x:List UInt8) (w:World) (e:Ending) (w':World):Prop :=
 (match gy d x with
 | .inl k=>e= .returned (.tuple #[.agg #[.int .i64 0,.string ⟨#[]⟩],.int .i64 (k:Int)])
 | .inr o=>e= .returned (.tuple #[.agg (obC o).toArray,.int .i64 0]))∧Below w.heap.size w w'
theorem D6 {d:Dk} {x:List UInt8} {k:Nat} {w w':World} (h:gy d x= .inl k) (hb:Below w.heap.size w w'):uS d x w (.returned (.tuple #[.agg #[.int .i64 0,.string ⟨#[]⟩],.int .i64 (k:Int)])) w':=⟨by rw [h],hb⟩
theorem J3 {d:Dk} {x:List UInt8} {o:Ob} {c:List Value} {w w':World} (h:gy d x= .inr o) (a:obC o=c) (hb:Below w.heap.size w w'):uS d x w (.returned (.tuple #[.agg c.toArray,.int .i64 0])) w':=⟨by rw [h,←a],hb⟩
theorem MN (g:Nat) (d:Dk) (x:List UInt8) (w:World) (hx:x.length=32) (hD:kR w g d) (hd:∀k nm s,d k nm=some s→s.size≤1000000) (hG:eP w):Calls prog 37 #[.pointer (some ⟨g,0,none⟩),.agg (idC x).toArray] w (uS d x w):=by
 have a1:=FQ
 have r:(prog.info? 42).map (·.size)=some (idC x).length:=by rw [av,hx];kernel_rfl
 have ax:(ofB (bY x)).size=64:=by rw [aR,qY,hx]
 obtain ⟨W0,D⟩:∃W,(w.alloc (.cells (idC x).toArray 42)).alloc (.cells #[.int .i64 0,.string ⟨#[]⟩] 33)=W:=⟨_,rfl⟩
 have ad:Hid (ak W0 w.heap.size 42 (idC x)):=ah (by
  rw [←D]
  exact (ak.new w 42 (idC x)).below bal)
 have ap:Hid (ak W0 (w.heap.size+1) 33 [.int .i64 0,.string ⟨#[]⟩]):=ah (by
  rw [←D]
  have:=ak.new (w.alloc (.cells (idC x).toArray 42)) 33 [.int .i64 0,.string ⟨#[]⟩]
  rwa [World.size_alloc] at this)
 have ar:Hid (Below w.heap.size w W0):=ah (by rw [←D];exact bal.alloc (by simp) _)
 have HG:=ah hG
 have aE:=ah hD
 have an:=ah hd
 have J:=ah (fun W=>nY x hx W)
 have I:=ah (Jq d (Ka hx))
 have t:Hid (gy d x=match d 0 (ofB (bY x)) with|none=> .inl 6|some b=>match mK (ofB (bY x)) b with|none=> .inl 17|some o=> .inr o):=ah rfl
 have u:=ah gL
 have ai:=ah D
 have ab:=ad.out.range
 clear D hD hd hG hx
 generalize ofB (bY x)=nm at J I t ax
 generalize idC x=cx at J ad ai r ab ⊢
 go_enter func37,ntmps37
 go_upto_region 1 with fail
 rw [ai.out]
 go_wp2_with (refine wpList_load_mid rfl 42 _ rfl w.heap.size 0 rfl cx _ ab underlying42 rfl r ?_)
 refine (J.out _).mono ?_
 rintro e w1 ⟨rfl,L⟩
 have V:=bth ar L
 have aq:=ah (ad.out.below L)
 have ag:=ah (ap.out.below L)
 have N:=ah (uI g d iA nm w1 (aE.out.below V.out) (by decide) (by omega))
 unfold GJ at N
 rw [I.out] at N
 clear L ab
 cases j:d 0 nm with
 | none =>
  rw [j] at N
  dsimp only at N
  have R:Hid (gy d x= .inl 6):=ah (by rw [t.out,j])
  clear j t I
  go_wp2_with fail
  refine N.out.mono ?_
  rintro e w2 ⟨rfl,i⟩
  have T:=bth V i
  have K:=ah (ag.out.below i)
  clear i
  go_upto_region 3 with fail
  have A:w2.there (w.heap.size+1) 0 2:=K.out.there
  have z:(prog.info? 33).map (·.size)=some ([.int .i64 0,.string ⟨#[]⟩]:List Value).length:=gL
  obtain ⟨p,a⟩:∃p,w2.setCells (w.heap.size+1) 0 [.int .i64 0,.string ⟨#[]⟩]=p:=⟨_,rfl⟩
  have G:Hid (ak p (w.heap.size+1) 33 [.int .i64 0,.string ⟨#[]⟩]):=ah (by rw [←a];exact K.out.set rfl)
  have E:Hid (Below w.heap.size w p):=ah (by rw [←a];exact below_setCells _ (Nat.le_succ _) _ _ _ T.out)
  have y:=ah a
  clear a
  go_wp2_with (refine aj rfl 33 _ _ rfl (w.heap.size+1) 0 [.int .i64 0,.string ⟨#[]⟩] rfl rfl 2 rfl A u.out (by intro v Q;simp at Q;rcases Q with rfl|rfl<;>rfl) ?_;rw [y.out])
  have B:=G.out.range
  (try simp only [Exit.inBlock,Exit.then])
  refine aP rfl (w.heap.size+1) 0 rfl [.int .i64 0,.string ⟨#[]⟩] _ B underlying33 rfl z rfl _ rfl ?_
  exact D6 R.out E.out
 | some b =>
  rw [j] at N
  dsimp only at N
  have q:Hid (gy d x=match mK nm b with|none=> .inl 17|some o=> .inr o):=ah (by rw [t.out,j])
  have az:=an.out _ _ _ j
  clear j t I
  go_wp2_with fail
  refine N.out.mono ?_
  rintro e w2 ⟨rfl,i⟩
  have T:=bth V i
  have K:=ah (ag.out.below i)
  have a0:=ah (aq.out.below i)
  have r2:=a0.out.range
  clear i N
  go_wp2_with (refine wpList_load_mid rfl 42 _ rfl w.heap.size 0 rfl cx _ r2 underlying42 rfl r ?_)
  refine (J.out _).mono ?_
  rintro e w3 ⟨rfl,aa⟩
  have ac:=bth T aa
  have ae:=ah (K.out.below aa)
  have O:=ah (JQ nm b w3 az (HG.out.below ac.out))
  unfold Iz at O
  clear aa r2 r
  cases M:mK nm b with
  | none =>
   rw [M] at O q
   dsimp only at O
   have R:Hid (gy d x= .inl 17):=q
   clear M
   go_wp2_with fail
   refine O.out.mono ?_
   rintro e w4 ⟨rfl,m⟩
   have Y:=bth ac m
   have U:=ah (ae.out.below m)
   clear m
   have Z:=ah (there_alloc (n:=2) w4 #[.int .i64 0,.string ⟨#[]⟩] 33 rfl)
   obtain ⟨P,h⟩:∃W,(w4.alloc (.cells #[.int .i64 0,.string ⟨#[]⟩] 33)).setCells w4.heap.size 0 [.int .i64 0,.string ⟨#[]⟩]=W:=⟨_,rfl⟩
   have l:Below w4.heap.size w4 P:=by rw [←h];exact below_setCells _ (Nat.le_refl _) _ _ _ bal
   have F:=ah (U.out.below l)
   have S:=bth Y l
   have X:=ah h
   clear h l
   go_upto_region 6 with (refine aj rfl 33 _ _ rfl w4.heap.size 0 [.int .i64 0,.string ⟨#[]⟩] rfl rfl 2 rfl Z.out u.out (by intro v Q;simp at Q;rcases Q with rfl|rfl<;>rfl) ?_;rw [X.out])
   have A:P.there (w.heap.size+1) 0 2:=F.out.there
   have z:(prog.info? 33).map (·.size)=some ([.int .i64 0,.string ⟨#[]⟩]:List Value).length:=gL
   obtain ⟨p,a⟩:∃p,P.setCells (w.heap.size+1) 0 [.int .i64 0,.string ⟨#[]⟩]=p:=⟨_,rfl⟩
   have G:Hid (ak p (w.heap.size+1) 33 [.int .i64 0,.string ⟨#[]⟩]):=ah (by rw [←a];exact F.out.set rfl)
   have E:Hid (Below w.heap.size w p):=ah (by rw [←a];exact below_setCells _ (Nat.le_succ _) _ _ _ S.out)
   have y:=ah a
   clear a
   go_wp2_with (refine aj rfl 33 _ _ rfl (w.heap.size+1) 0 [.int .i64 0,.string ⟨#[]⟩] rfl rfl 2 rfl A u.out (by intro v Q;simp at Q;rcases Q with rfl|rfl<;>rfl) ?_;rw [y.out])
   have B:=G.out.range
   (try simp only [Exit.inBlock,Exit.then])
   refine aP rfl (w.heap.size+1) 0 rfl [.int .i64 0,.string ⟨#[]⟩] _ B underlying33 rfl z rfl _ rfl ?_
   exact D6 R.out E.out
  | some o =>
   rw [M] at O q
   dsimp only at O
   have am:Hid (gy d x= .inr o):=q
   have C:=ah (nV o)
   have f:Hid ((obC o).length=2):=ah rfl
   clear M
   generalize al:obC o=H at O C f
   have aw:=ah al
   clear al
   go_wp2_with fail
   refine O.out.mono ?_
   rintro e w4 ⟨rfl,m⟩
   have Y:=bth ac m
   have U:=ah (ae.out.below m)
   clear m
   have Z:=ah (there_alloc (n:=2) w4 #[.int .i64 0,.string ⟨#[]⟩] 33 rfl)
   obtain ⟨P,h⟩:∃W,(w4.alloc (.cells #[.int .i64 0,.string ⟨#[]⟩] 33)).setCells w4.heap.size 0 H=W:=⟨_,rfl⟩
   have af:Hid (ak P w4.heap.size 33 H):=ah (by rw [←h];exact (ak.new w4 33 [.int .i64 0,.string ⟨#[]⟩]).set (by rw [f.out];rfl))
   have l:Below w4.heap.size w4 P:=by rw [←h];exact below_setCells _ (Nat.le_refl _) _ _ _ bal
   have F:=ah (U.out.below l)
   have S:=bth Y l
   have ao:(prog.info? 33).map (·.size)=some H.length:=by rw [f.out];exact gL
   have X:=ah h
   clear h l
   go_upto_region 7 with (refine aj rfl 33 _ _ rfl w4.heap.size 0 H rfl rfl 2 f.out Z.out u.out C.out ?_;rw [X.out])
   have A:P.there (w.heap.size+1) 0 2:=F.out.there
   have z:(prog.info? 33).map (·.size)=some (H:List Value).length:=by rw [f.out];exact gL
   obtain ⟨p,a⟩:∃p,P.setCells (w.heap.size+1) 0 H=p:=⟨_,rfl⟩
   have G:Hid (ak p (w.heap.size+1) 33 H):=ah (by rw [←a];exact F.out.set (by rw [f.out];rfl))
   have E:Hid (Below w.heap.size w p):=ah (by rw [←a];exact below_setCells _ (Nat.le_succ _) _ _ _ S.out)
   have y:=ah a
   clear a
   have r7:=af.out.range
   go_wp2_with (first
    | refine wpList_load_mid rfl 33 _ rfl w4.heap.size 0 rfl H _ r7 underlying33 rfl ao ?_
    | (refine aj rfl 33 _ _ rfl (w.heap.size+1) 0 H rfl rfl 2 f.out A u.out C.out ?_;rw [y.out]))
   have B:=G.out.range
   (try simp only [Exit.inBlock,Exit.then])
   refine aP rfl (w.heap.size+1) 0 rfl H _ B underlying33 rfl z rfl _ rfl ?_
   exact J3 am.out aw.out E.out
end
end Go.Proofs.YtlhcoanbhnphgaaGreatDoor
