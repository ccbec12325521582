/- A part of this claim. -/
import Derived.Sort.MapsRangeIn
import Derived.Test.YtejamhkgjkhjdaaGreatDoorXn11
namespace Go.Proofs.YtejamhkgjkhjdaaGreatDoor
open Tryz
set_option maxHeartbeats 64000000
set_option maxRecDepth 100000
section
open Go.RowKit Go.Maps Go.WideMaps
def fM (x:ByteArray):Lit:=.string x.data.toList
theorem gK {x:ByteArray} (hx:x.size≤maxLen):keyOf prog 9 (.string x)=some (fM x):=keyOf_string_mk underlying9 hx
theorem oI {x y:ByteArray} (h:fM x=fM y):x=y:=Ej (by unfold fM at h;injection h)
theorem lF {v:Value} {d:Lit} (h:keyOf prog 9 v=some d):∃x:ByteArray,x.size≤maxLen∧v= .string x:=by
 obtain ⟨s,rfl⟩:=Maps.keyOf_string_inv underlying9 h
 refine ⟨s,?_,rfl⟩
 have a:=h
 rw [keyOf_string underlying9] at a
 simp only [mapKey,underlying9] at a
 by_cases b:s.size≤maxLen
 ·exact b
 rw [if_neg b] at a;cases a
section
variable {α:Type} {enc:α → Value}
def u7 (enc:α→Value) (D:DataW Value) (f:ByteArray→Option α):Prop :=
 ∀x,x.size≤maxLen→Maps.has D (fM x)=(f x).isSome∧ ∀o,f x=some o→ ∀zd,D.atKey (fM x) zd= .held (enc o)
def aP (enc:α→Value) (w:World) (b n:Nat) (f:ByteArray→Option α):Prop:=∃D:DataW Value,w.ownsMap prog 9 eX b n D∧u7 enc D f
theorem sJ:u7 enc (.map []) fun _=>none:=fun _ _=>⟨rfl,fun _ h=>by cases h⟩
theorem pK {D:DataW Value} {f:ByteArray→Option α} (h:u7 enc D f) (hm:IsMap D) (p:ByteArray) (i:p.size≤maxLen) (o:α):u7 enc (D.put (fM p) (.held (enc o))) fun q=>if q=p then some o else f q:=by
 intro q g
 show has _ _=(if q=p then some o else f q).isSome∧ ∀t,(if q=p then some o else f q)=some t→ ∀zd,_=_
 have d:=bZ.key (gK i)
 by_cases e:q=p
 ·subst e
  rw [if_pos rfl]
  exact ⟨by rw [has_put_same hm d];rfl,fun t b zd=>by cases b;exact atKey_put_same hm d _ _⟩
 rw [if_neg e]
 have a:fM q≠fM p:=fun h=>e (oI h)
 exact ⟨by rw [has_put_other a];exact (h q g).1,fun t b zd=>by rw [atKey_put_other a];exact (h q g).2 t b zd⟩
theorem aP.lt {w:World} {b n:Nat} {f:ByteArray→Option α} (h:aP enc w b n f):b<w.heap.size:=by obtain ⟨D,h,_⟩:=h;exact h.lt
theorem aP.heap {w w':World} {b n:Nat} {f:ByteArray→Option α} (h:aP enc w b n f) (hb:w'.heap[b]? = w.heap[b]?):aP enc w' b n f:=by
 obtain ⟨D,⟨es,a,h1,e⟩,d⟩:=h
 exact ⟨D,⟨es,a,hb.trans h1,e⟩,d⟩
theorem aP.below {w w':World} {b n B:Nat} {f:ByteArray→Option α} (h:aP enc w b n f) (hb:Below B w w') (a:b<B):aP enc w' b n f:=h.heap (hb.block b a)
theorem aP.on {w w':World} {b n:Nat} {f:ByteArray→Option α} (h:aP enc w b n f) (hb:Below w.heap.size w w'):aP enc w' b n f:=h.below hb h.lt
theorem aP.grown {w w':World} {b n:Nat} {f:ByteArray→Option α} {row:Option Nat} (h:aP enc w b n f) (d:w.grownBy w' row) (a:some b≠row):aP enc w' b n f:=h.heap (d.block b h.lt a)
theorem lU (w:World):aP enc (w.alloc (.map #[] 0)) w.heap.size 0 fun _=>none:=⟨_,World.ownsMap_made _ _ _ _,sJ⟩
theorem aP.ext {w:World} {b n:Nat} {f g:ByteArray→Option α} (h:aP enc w b n f) (a:∀x,x.size≤maxLen→f x=g x):aP enc w b n g:=by
 obtain ⟨D,h1,d⟩:=h
 exact ⟨D,h1,fun x hx=>by rw [←a x hx];exact d x hx⟩
theorem aP.look {w:World} {t e:TypeId} (l:prog.underlying t=some (.map 9 e)) {z:Value} (m:(zeroValue e).run prog w= .ok z w) {b n:Nat} {f:ByteArray→Option α} (h:aP enc w b n f) {x:ByteArray} (hx:x.size≤maxLen) :
  (Instr.lookup t (.map (some b)) (.string x) false).run prog w= .ok (((f x).map enc).getD z) w:=by
 obtain ⟨D,d,j⟩:=h
 obtain ⟨v,ps,g,i⟩:=d.lookup bZ l m (zd:=.held z) (zp:=[]) rfl (gK hx)
 rw [g]
 obtain ⟨h1,k⟩:=j x hx
 have a:D.atKey (fM x) (.held z)= .held v:=by
  unfold eX at i
  injection i with i
  exact (congrArg Prod.fst i).symm
 cases e:f x with
 | none =>
  rw [e] at h1
  rw [atKey_of_not_has h1] at a
  injection a with h
  rw [←h];rfl
 | some o =>
  rw [k o e] at a
  injection a with h
  rw [←h];rfl
theorem kF {w:World} {ops:Array Oper} {rest:List Oper} {o:Oper} {a:Act} {Q:Exit→Act→World→Prop} (l:o.guard=none) (m x v:Operand) (t e:TypeId) (g:o.op=Op.mapUpdate t m x v)
  (j:prog.underlying t=some (.map 9 e)) (b n:Nat) (f:ByteArray→Option α) (hm:a.eval m= .map (some b)) (d:aP enc w b n f) (p:ByteArray) (h:p.size≤maxLen) (c:α) (hx:a.eval x= .string p) (k:a.eval v=enc c) (r:n<maxLen)
  (s:∀w',aP enc w' b (n+1) (fun q=>if q=p then some c else f q)→w.grownBy w' (some b)→wpList prog ops Q rest (a.put o.dst undef) w'):wpList prog ops Q (o::rest) a w:=by
 obtain ⟨D,d,u⟩:=d
 exact wpList_mapUpdate_own w l m x v t g 9 e bZ j eX b n D hm d r (.string p) (enc c) (fM p) hx k (gK h) _ [] rfl fun w' h1 i=>s w' ⟨_,h1,pK u d.isMap p h c⟩ i
structure RangeT (enc:α → Value) (w:World) (b r n:Nat) (f:ByteArray → Option α) (L:List ByteArray):Prop where
 run:∃ (D:DataW Value) (left:Lit → Bool) (cnt:Nat),w.ranges prog 9 eX b r n D left cnt ∧ u7 enc D f ∧ ∀ x,x.size ≤ maxLen → (left (fM x) = true ↔ x ∈ L)
 nodup:L.Nodup
 len:∀ x ∈ L,x.size ≤ maxLen
 there:∀ x ∈ L,(f x).isSome = true
theorem RangeT.map {w:World} {b r n:Nat} {f:ByteArray→Option α} {L:List ByteArray} (h:RangeT enc w b r n f L):aP enc w b n f:=by
 obtain ⟨D,left,cnt,h1,a,_⟩:=h.run
 exact ⟨D,h1.owns,a⟩
theorem RangeT.lt {w:World} {b r n:Nat} {f:ByteArray→Option α} {L:List ByteArray} (h:RangeT enc w b r n f L):r<w.heap.size:=by
 obtain ⟨D,left,cnt,h1,_⟩:=h.run;exact h1.lt
theorem RangeT.heap {w w':World} {b r n:Nat} {f:ByteArray→Option α} {L:List ByteArray} (h:RangeT enc w b r n f L) (hb:w'.heap[b]? = w.heap[b]?) (l:w'.heap[r]? = w.heap[r]?):RangeT enc w' b r n f L:=by
 obtain ⟨⟨D,left,cnt,⟨es,d,a,seen,j,h1,F,e,m,i,rest⟩,k,g⟩,k1,k2,k3⟩:=h
 exact ⟨⟨D,left,cnt,⟨es,d,a,seen,j,hb.trans h1,F,e,m,l.trans i,rest⟩,k,g⟩,k1,k2,k3⟩
theorem RangeT.grown {w w':World} {b r n:Nat} {f:ByteArray→Option α} {L:List ByteArray} {row:Option Nat} (h:RangeT enc w b r n f L) (a:w.grownBy w' row) (hb:some b≠row) (d:some r≠row):RangeT enc w' b r n f L:=h.heap (a.block b h.map.lt hb) (a.block r h.lt d)
theorem d9 {w w':World} {b r:Nat} (hb:w'.heap[b]? = w.heap[b]?) (a:w'.heap[r]? = w.heap[r]?):w'.rangeLeft b r=w.rangeLeft b r:=by unfold World.rangeLeft;rw [hb,a]
theorem fq {w:World} {ops:Array Oper} {rest:List Oper} {o:Oper} {a:Act} {Q:Exit→Act→World→Prop} (p:o.guard=none) (m:Operand) (t e:TypeId) (g:o.op=Op.range t m) (l:prog.underlying t=some (.map 9 e))
  (b n:Nat) (f:ByteArray→Option α) (L:List ByteArray) (hm:a.eval m= .map (some b)) (d:aP enc w b n f) (q:L.Nodup) (h:∀x∈L,x.size≤maxLen) (i:∀x,x.size≤maxLen→((f x).isSome=true↔x∈L))
  (r:∀w',RangeT enc w' b w.heap.size n f L→w.grownBy w' none→w'.heap.size=w.heap.size+1→wpList prog ops Q rest (a.put o.dst (.pointer (some ⟨w.heap.size,0,none⟩))) w') :
  wpList prog ops Q (o::rest) a w:=by
 obtain ⟨D,d,j⟩:=d
 exact wpList_range_own w p m t g 9 e bZ l eX b n D hm d fun w' h1 k s=>r w' ⟨⟨D,_,_,h1,j,fun x hx=>by rw [(j x hx).1];exact i x hx⟩,q,h,fun x hx=>(i x (h x hx)).2 hx⟩ k s
theorem gH {w:World} {ops:Array Oper} {rest:List Oper} {o:Oper} {a:Act} {Q:Exit→Act→World→Prop} (S:o.guard=none) (K:Operand) (I:o.op=Op.next K false) (b r n:Nat) (f:ByteArray→Option α) (L:List ByteArray)
  (H:a.eval K= .pointer (some ⟨r,0,none⟩)) (h:RangeT enc w b r n f L)
  (l:L=[]→wpList prog ops Q rest (a.put o.dst (.tuple #[.bool false])) w)
  (m:∀(x:ByteArray) (c:α) (w':World),x∈L→x.size≤maxLen→f x=some c→RangeT enc w' b r n f (L.filter fun y=>decide (y≠x))→w'.rangeLeft b r<w.rangeLeft b r→w.grownBy w' (some r)→w'.heap.size=w.heap.size →
   (Instr.entry (.pointer (some ⟨r,0,none⟩))).run prog w'= .ok (.tuple #[.string x,enc c]) w'→wpList prog ops Q rest (a.put o.dst (.tuple #[.bool true,.string x,enc c])) w') :
  wpList prog ops Q (o::rest) a w:=by
 obtain ⟨⟨D,left,cnt,s,P,d⟩,T,i,g⟩:=h
 refine wpList_next_ranges (α:={ x:ByteArray // x.size≤maxLen }) (β:=Value) w S K I 9 bZ eX (fun x=> .string x.1) id (fun key O E=>by
  obtain ⟨x,hx,e⟩:=lF E
  exact ⟨⟨x,hx⟩,e⟩) (fun v _ _=>⟨v,rfl⟩) b r n D left cnt H s ?_ ?_
 ·intro _ U
  refine l (List.eq_nil_iff_forall_not_mem.2 fun x hx=> ?_)
  have h1:=(d x (i x hx)).2 hx
  rw [U] at h1;cases h1
 rintro ⟨x,hx⟩ c O y w' q k M B C j J G F u
 dsimp only at k u ⊢
 obtain rfl:fM x=O:=Option.some.inj ((gK hx).symm.trans k)
 have t:=(d x hx).1 M
 obtain ⟨o,N⟩:=Option.isSome_iff_exists.1 (g x t)
 have R:c=enc o:=by
  have h1:=C (.held (.bool false))
  rw [(P x hx).2 o N] at h1
  unfold eX at B
  injection B with B
  rw [←B] at h1
  exact (DataW.held.inj h1).symm
 subst R
 refine m x o w' t hx N ⟨⟨D,_,q,j,P,fun z p=> ?_⟩,T.filter _,fun z p=>i z ((List.mem_filter.1 p).1),fun z p=>g z ((List.mem_filter.1 p).1)⟩ (by rw [j.left_eq,s.left_eq];exact J) G F u
 rw [List.mem_filter,decide_eq_true_iff,Bool.and_eq_true,d z p]
 constructor
 ·rintro ⟨h1,A⟩
  refine ⟨h1,fun e=> ?_⟩
  subst e
  have E:=bZ.key (gK p)
  rw [show (fM z).sameKey (fM z)=true from WideAt.sameKey_self E] at A
  cases A
 rintro ⟨h1,A⟩
 exact ⟨h1,by rw [sameKey_ne (fun e=>A (oI e))];rfl⟩
end
theorem mo {H:Type} {P:Program} {k:TypeId} {R:Value→Option (DataW H×List MemPlace)} {w:World} {b n:Nat} {D:DataW H} (h:w.ownsMap P k R b n D):w.ownsMap P k R b (Maps.size D) D:=by
 obtain ⟨es,a,hb,F,_,rfl⟩:=h
 exact ⟨es,a,hb,F,by simp [Maps.size,length_sorted],rfl⟩
section
variable {α:Type} {enc:α → Value}
def cB (V:List (ByteArray×α)) (x:ByteArray):Option α:=(V.find? fun r=>decide (r.1=x)).map (·.2)
def mg (V:List (ByteArray×α)) (x:ByteArray):List (ByteArray×α):=V.filter fun r=>decide (r.1≠x)
def kZ (V:List (ByteArray×α)) (x:ByteArray) (c:α):List (ByteArray×α):=mg V x++[(x,c)]
theorem GL (x:ByteArray):cB ([]:List (ByteArray×α)) x=none:=rfl
theorem dM (r:ByteArray×α) (V:List (ByteArray×α)) (x:ByteArray):cB (r::V) x=if r.1=x then some r.2 else cB V x:=by
 unfold cB
 rw [List.find?_cons]
 by_cases e:r.1=x
 ·rw [if_pos e,decide_eq_true e];rfl
 rw [if_neg e,decide_eq_false e]
theorem tN {V:List (ByteArray×α)} {x:ByteArray}:(cB V x).isSome=true↔x∈V.map (·.1):=by
 induction V with
 | nil=>simp [cB]
 | cons r V ih =>
  rw [dM,List.map_cons,List.mem_cons]
  by_cases e:r.1=x
  ·simp [e]
  rw [if_neg e,ih]
  exact ⟨.inr,fun h=>h.resolve_left fun h=>e h.symm⟩
theorem pU (V:List (ByteArray×α)) (x y:ByteArray):cB (mg V x) y=if y=x then none else cB V y:=by
 induction V with
 | nil=>simp [mg,cB]
 | cons r V ih =>
  show cB (List.filter _ (r::V)) y=_
  rw [List.filter_cons]
  by_cases e:r.1=x
  ·rw [if_neg (by simp [e])]
   rw [show cB (List.filter _ V) y=cB (mg V x) y from rfl,ih,dM]
   by_cases a:y=x
   ·rw [if_pos a,if_pos a]
   rw [if_neg a,if_neg a,if_neg fun h=>a (h.symm.trans e)]
  rw [if_pos (by simp [e]),dM,dM]
  rw [show cB (List.filter _ V) y=cB (mg V x) y from rfl,ih]
  by_cases a:r.1=y
  ·rw [if_pos a,if_pos a,if_neg fun h=>e (a.trans h)]
  rw [if_neg a,if_neg a]
theorem Dj (V:List (ByteArray×α)) (r:ByteArray×α) (x:ByteArray):cB (V++[r]) x=match cB V x with|some c=>some c|none=>if r.1=x then some r.2 else none:=by
 induction V with
 | nil=>rw [List.nil_append,dM,GL]
 | cons q V ih =>
  rw [List.cons_append,dM,dM,ih]
  by_cases e:q.1=x
  ·rw [if_pos e,if_pos e]
  rw [if_neg e,if_neg e]
theorem GK (V:List (ByteArray×α)) (x:ByteArray) (c:α) (y:ByteArray):cB (kZ V x c) y=if y=x then some c else cB V y:=by
 unfold kZ
 rw [Dj,pU]
 by_cases e:y=x
 ·rw [if_pos e,if_pos e]
  dsimp only
  rw [if_pos e.symm]
 rw [if_neg e,if_neg e]
 cases cB V y with
 | none=>dsimp only;rw [if_neg fun h=>e h.symm]
 | some _=>rfl
theorem nD {V:List (ByteArray×α)} (h:(V.map (·.1)).Nodup) (x:ByteArray):((mg V x).map (·.1)).Nodup:=List.Nodup.sublist (List.Sublist.map _ List.filter_sublist) h
theorem Kn (V:List (ByteArray×α)) (x:ByteArray):x∉(mg V x).map (·.1):=fun h=>by
 have:=tN.2 h
 rw [pU,if_pos rfl] at this;cases this
theorem jQ {V:List (ByteArray×α)} (h:(V.map (·.1)).Nodup) (x:ByteArray) (c:α):((kZ V x c).map (·.1)).Nodup:=by
 unfold kZ
 rw [List.map_append]
 refine List.nodup_append.2 ⟨nD h x,by simp,?_⟩
 intro a d b hb
 simp at hb
 subst hb
 intro e;subst e
 exact Kn V a d
theorem uR {V:List (ByteArray×α)} (h:(V.map (·.1)).Nodup) (x:ByteArray):(mg V x).length+(if (cB V x).isSome=true then 1 else 0)=V.length:=by
 induction V with
 | nil=>simp [mg,cB]
 | cons r V a =>
  rw [List.map_cons,List.nodup_cons] at h
  have a:=a h.2
  show (List.filter _ (r::V)).length+_=_
  rw [List.filter_cons,dM]
  by_cases e:r.1=x
  ·rw [if_neg (by simp [e]),if_pos e,show (some r.2).isSome=true from rfl,if_pos rfl]
   have b:(cB V x).isSome=false:=by
    cases d:(cB V x).isSome with
    | false=>rfl
    | true=>exact absurd (tN.1 d) (e▸h.1)
   rw [b] at a
   simp at a
   rw [show (List.filter _ V).length=(mg V x).length from rfl,List.length_cons];omega
  rw [if_pos (by simp [e]),if_neg e,List.length_cons,List.length_cons,show (List.filter _ V).length=(mg V x).length from rfl];omega
theorem Aw {V:List (ByteArray×α)} (h:(V.map (·.1)).Nodup) (x:ByteArray) (c:α):(kZ V x c).length=if (cB V x).isSome=true then V.length else V.length+1:=by
 have:=uR h x
 unfold kZ
 rw [List.length_append,List.length_singleton]
 split<;>simp_all
structure gG (enc:α → Value) (w:World) (b:Nat) (V:List (ByteArray × α)):Prop where
 nodup:(V.map (·.1)).Nodup
 len:∀ r ∈ V,r.1.size ≤ maxLen
 map:∃ D:DataW Value,w.ownsMap prog 9 eX b V.length D ∧ u7 enc D (cB V) ∧ Maps.size D = V.length
theorem gG.NC {w:World} {b:Nat} {V:List (ByteArray×α)} (h:gG enc w b V):aP enc w b V.length (cB V):=by obtain ⟨D,h1,a,_⟩:=h.map;exact ⟨D,h1,a⟩
theorem gG.lt {w:World} {b:Nat} {V:List (ByteArray×α)} (h:gG enc w b V):b<w.heap.size:=h.NC.lt
theorem gG.heap {w w':World} {b:Nat} {V:List (ByteArray×α)} (h:gG enc w b V) (hb:w'.heap[b]? = w.heap[b]?):gG enc w' b V:=by
 obtain ⟨D,⟨es,a,h1,e⟩,d⟩:=h.map
 exact ⟨h.nodup,h.len,D,⟨es,a,hb.trans h1,e⟩,d⟩
theorem gG.on {w w':World} {b:Nat} {V:List (ByteArray×α)} (h:gG enc w b V) (hb:Below w.heap.size w w'):gG enc w' b V:=h.heap (hb.block b h.lt)
theorem Gz (w:World):gG enc (w.alloc (.map #[] 0)) w.heap.size [] :=
 ⟨List.nodup_nil,fun _ h=>(by cases h),⟨DataW.map [],World.ownsMap_made _ _ _ _,fun _ _=>⟨rfl,fun _ h=>(by cases h)⟩,rfl⟩⟩
theorem gG.EO {w:World} {t e:TypeId} (d:prog.underlying t=some (.map 9 e)) {b:Nat} {V:List (ByteArray×α)} (h:gG enc w b V) (ty:TypeId):(Builtin.len_ #[t] ty #[.map (some b)]).run prog w= .ok (.int .i64 (V.length:Int)) w:=by
 obtain ⟨D,h1,_,a⟩:=h.map
 rw [h1.len d ty,a]
theorem qW {w:World} {ops:Array Oper} {rest:List Oper} {o:Oper} {a:Act} {Q:Exit→Act→World→Prop} (C:o.guard=none) (m x v:Operand) (t e:TypeId) (j:o.op=Op.mapUpdate t m x v)
  (A:prog.underlying t=some (.map 9 e)) (b:Nat) (V:List (ByteArray×α)) (hm:a.eval m= .map (some b)) (d:gG enc w b V) (p:ByteArray) (i:p.size≤maxLen) (c:α) (hx:a.eval x= .string p) (B:a.eval v=enc c) (E:V.length<maxLen)
  (F:∀w',gG enc w' b (kZ V p c)→w.grownBy w' (some b)→wpList prog ops Q rest (a.put o.dst undef) w'):wpList prog ops Q (o::rest) a w:=by
 have g:=d.nodup
 have f:=d.len
 obtain ⟨D,d,s,k⟩:=d.map
 refine wpList_mapUpdate_own w C m x v t j 9 e bZ A eX b V.length D hm d E (.string p) (enc c) (fM p) hx B (gK i) _ [] rfl fun w' h1 z=>F w' ⟨jQ g p c,fun r n=> ?_,?_⟩ z
 ·unfold kZ at n
  rcases List.mem_append.1 n with h|h
  ·exact f r (List.mem_filter.1 h).1
  simp at h;subst h;exact i
 have l:Maps.size (D.put (fM p) (.held (enc c)))=(kZ V p c).length:=by
  rw [size_put (d.tidy bZ),Aw g,(s p i).1,k]
 have q:=mo h1
 rw [l] at q
 refine ⟨_,q,?_,l⟩
 have u:=pK s d.isMap p i c
 intro y hy
 rw [GK]
 exact u y hy
theorem qX {w:World} {ops:Array Oper} {rest:List Oper} {o:Oper} {a:Act} {Q:Exit→Act→World→Prop} (C:o.guard=none) (m x:Operand) (t e:TypeId) (l:o.op=Op.call { callee:=Callee.builtin Builtin.delete,args:=#[m,x],argTypes:=#[t,9] })
  (B:prog.underlying t=some (.map 9 e)) (b:Nat) (V:List (ByteArray×α)) (hm:a.eval m= .map (some b)) (d:gG enc w b V) (p:ByteArray) (v:p.size≤maxLen) (hx:a.eval x= .string p)
  (F:∀w',gG enc w' b (mg V p)→w.grownBy w' (some b)→wpList prog ops Q rest (a.put o.dst (.tuple #[])) w'):wpList prog ops Q (o::rest) a w:=by
 have i:=d.nodup
 have f:=d.len
 obtain ⟨D,d,n,q⟩:=d.map
 refine wpList_delete_own w C m x t 9 l e bZ B eX b V.length D hm d (.string p) (fM p) hx (gK v) fun w' h1 A=>F w' ⟨nD i p,fun r z=>f r (List.mem_filter.1 z).1,?_⟩ A.grown
 have u:Maps.size (D.del (fM p))=(mg V p).length:=by
  have j:=size_del (k:=fM p) (d.tidy bZ)
  have G:=uR i p
  rw [(n p v).1,q] at j
  omega
 have j:=mo h1
 rw [u] at j
 refine ⟨_,j,fun y hy=> ?_,u⟩
 rw [pU]
 by_cases s:y=p
 ·subst s
  rw [if_pos rfl]
  exact ⟨has_del_same,fun _ h=>by cases h⟩
 have g:fM y≠fM p:=fun h=>s (oI h)
 rw [if_neg s]
 exact ⟨by rw [has_del_other g];exact (n y hy).1,fun o E zd=>by rw [atKey_del_other g];exact (n y hy).2 o E zd⟩
end
end
section
open Go.RowKit
abbrev Rf:=ByteArray×List UInt8
def dJ (V:List Rf) (r:Rf):List Rf:=if r.2=zid then mg (kZ V r.1 r.2) r.1 else kZ V r.1 r.2
def q8 (V:List Rf) (r:Rf):Bool:=aY r.1&&decide (r.2≠zid)&&(match V.getLast? with|none=>true|some q=>ltB q.1.data.toList r.1.data.toList)&&decide ((dJ V r).length≤16)
def tO (V:List Rf) (r:Rf):Bool:=aY r.1&&decide ((dJ V r).length≤16)
def eu:List Rf→List Rf→Option (List Rf)
 | V,[]=>some V
 | V,r::t=>if q8 V r=true then eu (dJ V r) t else none
def fK:List Rf→List Rf→Option (List Rf)
 | V,[]=>some V
 | V,r::t=>if tO V r=true then fK (dJ V r) t else none
def eY (t l:List Rf):Option (List Rf):=(eu [] t).bind fun V=>fK V l
def eD (t l:List Rf):Bool:=(eY t l).isSome&&decide (l.length≤100)
theorem CG {V:List Rf} (h:(V.map (·.1)).Nodup) (r:Rf):((dJ V r).map (·.1)).Nodup:=by
 unfold dJ
 split
 ·exact nD (jQ h _ _) _
 exact jQ h _ _
theorem yc:∀ {t V W:List Rf},(V.map (·.1)).Pairwise (fun x y=>ltB x.data.toList y.data.toList=true)→eu V t=some W→W=V++t∧(W.map (·.1)).Pairwise (fun x y=>ltB x.data.toList y.data.toList=true)
 | [],V,W,hp,h=>by
  unfold eu at h
  cases h
  exact ⟨by simp,hp⟩
 | r::t,V,W,hp,h=>by
  unfold eu at h
  split at h
  ·rename_i hb
   unfold q8 at hb
   simp only [Bool.and_eq_true,decide_eq_true_eq] at hb
   obtain ⟨⟨⟨_,m⟩,b⟩,_⟩:=hb
   have a:∀x∈V.map (·.1),ltB x.data.toList r.1.data.toList=true:=by
    intro x hx
    cases d:V.getLast? with
    | none=>rw [List.getLast?_eq_none_iff.1 d] at hx;cases hx
    | some q =>
     rw [d] at b
     dsimp only at b
     obtain ⟨U,i⟩:=List.getLast?_eq_some_iff.1 d
     rw [i,List.map_append,List.mem_append] at hx
     rcases hx with hx|hx
     ·rw [i,List.map_append] at hp
      exact gy ((List.pairwise_append.1 hp).2.2 x hx q.1 (by simp)) b
     simp at hx;rw [hx];exact b
   have f:r.1∉V.map (·.1):=fun hm=>by
    have:=a _ hm
    rw [bQ] at this;cases this
   have j:dJ V r=V++[r]:=by
    unfold dJ
    rw [if_neg m]
    unfold kZ mg
    have k:(V.filter fun q=>decide (q.1≠r.1))=V:=List.filter_eq_self.2 fun q l=>decide_eq_true (fun (e:q.1=r.1)=>f (by rw [←e];exact List.mem_map.2 ⟨q,l,rfl⟩))
    rw [k]
   rw [j] at h
   have g:=yc (t:=t) (by
    rw [List.map_append]
    refine List.pairwise_append.2 ⟨hp,by simp,fun x hx y hy=> ?_⟩
    simp at hy;rw [hy];exact a x hx) h
   exact ⟨by rw [g.1];simp,g.2⟩
  cases h
def FI (s:List UInt8):List UInt8:=aM s.length++s
def Ga (s:List UInt8):List UInt8:=FI (bS s)
def jk (r:Rf):List UInt8:=FI r.1.data.toList++r.2
def uO (r:Rf):List UInt8:=Ga (69::jk r)
def uq (t:List Rf):List UInt8:=Ga (72::(aM t.length++(t.map jk).flatten))
def Fh (t l:List Rf):List UInt8:=uq t++(l.map uO).flatten
theorem oF:∀n:Nat,n<2^42→(aM n).length≤6:=fun n h=>by
 rw [aM]
 split
 ·simp
 rw [aM]
 split
 ·simp
 rw [aM]
 split
 ·simp
 rw [aM]
 split
 ·simp
 rw [aM]
 split
 ·simp
 rw [aM]
 split
 ·simp
 exfalso;omega
theorem xY {s:List UInt8} (h:s.length<2^42):(FI s).length≤s.length+6:=by
 unfold FI
 have:=oF _ h
 rw [List.length_append];omega
theorem yG {r:Rf} (h1:r.1.size≤32) (b:r.2.length=32):(jk r).length≤70:=by
 unfold jk
 have a:r.1.data.toList.length=r.1.size:=Array.length_toList
 have:=xY (s:=r.1.data.toList) (by rw [a];omega)
 rw [List.length_append];omega
theorem Ey {s:List UInt8} (h:s.length<1000000):(Ga s).length≤s.length+10:=by
 unfold Ga
 have h1:=iB s
 have:=xY (s:=bS s) (by omega)
 omega
theorem E5 {r:Rf} (h1:r.1.size≤32) (a:r.2.length=32):(uO r).length≤81:=by
 unfold uO
 have b:=yG h1 a
 have:=Ey (s:=69::jk r) (by rw [List.length_cons];omega)
 rw [List.length_cons] at this;omega
theorem rR {α:Type} {f:α→List UInt8} {n:Nat}:∀ {l:List α},(∀x∈l,(f x).length≤n)→(l.map f).flatten.length≤l.length*n
 | [],_=>by simp
 | x::l,h=>by
  have h1:=h x (List.mem_cons_self ..)
  have a:=rR (l:=l) fun y hy=>h y (List.mem_cons_of_mem _ hy)
  rw [List.map_cons,List.flatten_cons,List.length_append,List.length_cons,Nat.succ_mul];omega
def jg (r:Rd) (c:UInt8):Option Rd:=if gV (r.text 65536).2=true∧(unS (r.text 65536).2).data.toList.head? = some c∧(r.text 65536).1.err=0 then some (rd0 (ofB ((unS (r.text 65536).2).data.toList.drop 1))) else none
def oA:Ob:=⟨1,⟨#[97,98]⟩⟩
def xA:List UInt8:=[37,89,112,78,157,24,30,41,135,218,236,66,99,26,230,225,191,17,132,78,229,68,237,162,39,4,1,21,118,116,222,175]
theorem Mk:MB (bA oA)=xA:=by decide +kernel
theorem idA:idO oA=xA:=by
 unfold idO
 rw [←KT,aS]
 exact Mk
def bk0:ByteArray:=ofB (Fh [] [])
theorem Ni:eD [] []=true:=by decide +kernel
def rdP (r:Rd):ByteArray×Nat×Nat:=(r.s,r.pos,r.err)
theorem Nf {o:Option Rd} {a:ByteArray} {b c:Nat} (h:o.map rdP=some (a,b,c)):o=some ⟨a,b,c⟩:=by
 cases o with
 | none=>cases h
 | some x =>
  cases x
  injection h with h
  unfold rdP at h
  injection h with h1 h2
  injection h2 with h2 h3
  subst h1 h2 h3
  rfl
theorem Ny:jg (rd0 bk0) 72=some (rd0 ⟨#[0]⟩):=Nf (by decide +kernel)
theorem IG:((rd0 ⟨#[0]⟩).num 16).2=0∧((rd0 ⟨#[0]⟩).num 16).1.fin=0:=by decide +kernel
theorem M9:jg ((rd0 bk0).text 65536).1 69=none:=by
 have h:(jg ((rd0 bk0).text 65536).1 69).map rdP=none:=by decide +kernel
 cases hx:jg ((rd0 bk0).text 65536).1 69 with
 | none=>rfl
 | some x=>rw [hx] at h;cases h
theorem FL:bk0.size=7∧((rd0 bk0).text 65536).1.pos=bk0.size:=by decide +kernel
theorem nS:∀(a b V:List Rf),eu V (a++b)=(eu V a).bind fun W=>eu W b
 | [],b,V=>by rw [List.nil_append];rfl
 | r::a,b,V=>by
  rw [List.cons_append,show eu V (r::(a++b))=if q8 V r=true then eu (dJ V r) (a++b) else none from rfl,show eu V (r::a)=if q8 V r=true then eu (dJ V r) a else none from rfl]
  split
  ·rw [nS]
  rfl
theorem lC:∀(a b V:List Rf),fK V (a++b)=(fK V a).bind fun W=>fK W b
 | [],b,V=>by rw [List.nil_append];rfl
 | r::a,b,V=>by
  rw [List.cons_append,show fK V (r::(a++b))=if tO V r=true then fK (dJ V r) (a++b) else none from rfl,show fK V (r::a)=if tO V r=true then fK (dJ V r) a else none from rfl]
  split
  ·rw [lC]
  rfl
theorem zV (V:List Rf) (r:Rf):eu V [r]=if q8 V r=true then some (dJ V r) else none:=by
 unfold eu
 split<;>rfl
theorem AY (V:List Rf) (r:Rf):fK V [r]=if tO V r=true then some (dJ V r) else none:=by
 unfold fK
 split<;>rfl
theorem IX {t:List Rf} {k:Nat} (b:k<t.length) (h:eu [] (t.take k)=some (t.take k)) (hb:q8 (t.take k) t[k]=true):eu [] (t.take (k+1))=some (t.take (k+1))∧dJ (t.take k) t[k]=t.take (k+1):=by
 have h1:eu [] (t.take (k+1))=some (dJ (t.take k) t[k]):=by
  rw [List.take_succ_eq_append_getElem b,nS,h]
  show eu (t.take k) [t[k]]=_
  rw [zV,if_pos hb]
 have a:=(yc (by simp) h1).1
 rw [List.nil_append] at a
 exact ⟨by rw [h1,a],a⟩
theorem KR {t:List Rf} {k:Nat} (a:k<t.length) (h:eu [] (t.take k)=some (t.take k)) (hb:q8 (t.take k) t[k]=false) (l:List Rf):eY t l=none:=by
 have h1:eu [] t=none:=by
  have e:t=t.take k++([t[k]]++t.drop (k+1)):=by
   rw [←List.append_assoc,←List.take_succ_eq_append_getElem a,List.take_append_drop]
  rw [e,nS,h]
  show eu (t.take k) ([t[k]]++t.drop (k+1))=none
  rw [nS,zV,hb];rfl
 unfold eY
 rw [h1];rfl
theorem KQ {t:List Rf} (h:eu [] (t.take t.length)=some (t.take t.length)) (l:List Rf):eY t l=fK t l:=by
 rw [List.take_length] at h
 unfold eY
 rw [h];rfl
theorem Jw {t l V:List Rf} {k:Nat} (a:k<l.length) (h:fK t (l.take k)=some V) (hb:tO V l[k]=true):fK t (l.take (k+1))=some (dJ V l[k]):=by
 rw [List.take_succ_eq_append_getElem a,lC,h]
 show fK V [l[k]]=_
 rw [AY,if_pos hb]
theorem K7 {t l V:List Rf} {k:Nat} (a:k<l.length) (h:fK t (l.take k)=some V) (hb:tO V l[k]=false):fK t l=none:=by
 have e:l=l.take k++([l[k]]++l.drop (k+1)):=by
  rw [←List.append_assoc,←List.take_succ_eq_append_getElem a,List.take_append_drop]
 rw [e,lC,h]
 show fK V ([l[k]]++l.drop (k+1))=none
 rw [lC,AY,hb];rfl
theorem GU {t:List Rf} {k:Nat} (a:k<t.length):(t.take (k+1)).getLast? = some t[k]:=by
 rw [List.take_succ_eq_append_getElem a,List.getLast?_append];simp
structure OkV (V:List Rf):Prop where
 ok:∀ r ∈ V,aY r.1 = true ∧ r.2 ≠ zid
 nd:(V.map (·.1)).Nodup
 len:V.length ≤ 16
theorem EF {V:List Rf} {r:Rf} (h:OkV V) (d:aY r.1=true) (b:(dJ V r).length≤16):OkV (dJ V r):=by
 refine ⟨fun x hx=> ?_,CG h.nd r,b⟩
 unfold dJ at hx
 split at hx
 ·rename_i a
  have h1:=(List.mem_filter.1 hx).1
  have e:=of_decide_eq_true (List.mem_filter.1 hx).2
  unfold kZ at h1
  rcases List.mem_append.1 h1 with h1|h1
  ·exact h.ok x (List.mem_filter.1 h1).1
  simp at h1;subst h1;exact absurd rfl e
 rename_i a
 unfold kZ at hx
 rcases List.mem_append.1 hx with h1|h1
 ·exact h.ok x (List.mem_filter.1 h1).1
 simp at h1;subst h1;exact ⟨d,a⟩
theorem ED:∀ {t V W:List Rf},OkV V→eu V t=some W→OkV W
 | [],V,W,h,e=>by unfold eu at e;cases e;exact h
 | r::t,V,W,h,e=>by
  unfold eu at e
  split at e
  ·rename_i hb
   unfold q8 at hb
   simp only [Bool.and_eq_true,decide_eq_true_eq] at hb
   exact ED (EF h hb.1.1.1 hb.2) e
  cases e
theorem EG:∀ {t V W:List Rf},OkV V→fK V t=some W→OkV W
 | [],V,W,h,e=>by unfold fK at e;cases e;exact h
 | r::t,V,W,h,e=>by
  unfold fK at e
  split at e
  ·rename_i hb
   unfold tO at hb
   simp only [Bool.and_eq_true,decide_eq_true_eq] at hb
   exact EG (EF h hb.1 hb.2) e
  cases e
theorem KZ:OkV []:=⟨fun _ h=>(by cases h),by simp,by simp⟩
theorem Ji {t l V:List Rf} (h:eY t l=some V):OkV V:=by
 unfold eY at h
 cases a:eu [] t with
 | none=>rw [a] at h;cases h
 | some W=>rw [a] at h;exact EG (ED KZ a) h
end
end Go.Proofs.YtejamhkgjkhjdaaGreatDoor
