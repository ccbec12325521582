/- A part of this claim. -/
import Derived.Sort.MapsRangeIn
import Derived.Test.YtlhcoanbhnphgaaGreatDoorXm11
namespace Go.Proofs.YtlhcoanbhnphgaaGreatDoor
open Tryz
set_option maxHeartbeats 64000000
set_option maxRecDepth 100000
section
open Go.RowKit Go.Maps Go.WideMaps
def iQ (x:ByteArray):Lit:=.string x.data.toList
theorem jq {x:ByteArray} (hx:x.size≤maxLen):keyOf prog 9 (.string x)=some (iQ x):=keyOf_string_mk underlying9 hx
theorem qR {x y:ByteArray} (h:iQ x=iQ y):x=y:=GA (by unfold iQ at h;injection h)
theorem nI {v:Value} {d:Lit} (h:keyOf prog 9 v=some d):∃x:ByteArray,x.size≤maxLen∧v= .string x:=by
 obtain ⟨s,rfl⟩:=Maps.keyOf_string_inv underlying9 h
 refine ⟨s,?_,rfl⟩
 have a:=h
 rw [keyOf_string underlying9] at a
 simp only [mapKey,underlying9] at a
 by_cases b:s.size≤maxLen
 ·exact b
 rw [if_neg b] at a;cases a
section
variable {α:Type} {enc:α → Value}
def y8 (enc:α→Value) (D:DataW Value) (f:ByteArray→Option α):Prop :=
 ∀x,x.size≤maxLen→Maps.has D (iQ x)=(f x).isSome∧ ∀o,f x=some o→ ∀zd,D.atKey (iQ x) zd= .held (enc o)
def aZ (enc:α→Value) (w:World) (b n:Nat) (f:ByteArray→Option α):Prop:=∃D:DataW Value,w.ownsMap prog 9 eO b n D∧y8 enc D f
theorem wT:y8 enc (.map []) fun _=>none:=fun _ _=>⟨rfl,fun _ h=>by cases h⟩
theorem sM {D:DataW Value} {f:ByteArray→Option α} (h:y8 enc D f) (hm:IsMap D) (p:ByteArray) (i:p.size≤maxLen) (o:α):y8 enc (D.put (iQ p) (.held (enc o))) fun q=>if q=p then some o else f q:=by
 intro q d
 show has _ _=(if q=p then some o else f q).isSome∧ ∀t,(if q=p then some o else f q)=some t→ ∀zd,_=_
 have g:=eG.key (jq i)
 by_cases e:q=p
 ·subst e
  rw [if_pos rfl]
  exact ⟨by rw [has_put_same hm g];rfl,fun t b zd=>by cases b;exact atKey_put_same hm g _ _⟩
 rw [if_neg e]
 have a:iQ q≠iQ p:=fun h=>e (qR h)
 exact ⟨by rw [has_put_other a];exact (h q d).1,fun t b zd=>by rw [atKey_put_other a];exact (h q d).2 t b zd⟩
theorem aZ.lt {w:World} {b n:Nat} {f:ByteArray→Option α} (h:aZ enc w b n f):b<w.heap.size:=by obtain ⟨D,h,_⟩:=h;exact h.lt
theorem aZ.heap {w w':World} {b n:Nat} {f:ByteArray→Option α} (h:aZ enc w b n f) (hb:w'.heap[b]? = w.heap[b]?):aZ enc w' b n f:=by
 obtain ⟨D,⟨es,a,h1,d⟩,e⟩:=h
 exact ⟨D,⟨es,a,hb.trans h1,d⟩,e⟩
theorem aZ.below {w w':World} {b n B:Nat} {f:ByteArray→Option α} (h:aZ enc w b n f) (hb:Below B w w') (a:b<B):aZ enc w' b n f:=h.heap (hb.block b a)
theorem aZ.on {w w':World} {b n:Nat} {f:ByteArray→Option α} (h:aZ enc w b n f) (hb:Below w.heap.size w w'):aZ enc w' b n f:=h.below hb h.lt
theorem aZ.grown {w w':World} {b n:Nat} {f:ByteArray→Option α} {row:Option Nat} (h:aZ enc w b n f) (d:w.grownBy w' row) (a:some b≠row):aZ enc w' b n f:=h.heap (d.block b h.lt a)
theorem nX (w:World):aZ enc (w.alloc (.map #[] 0)) w.heap.size 0 fun _=>none:=⟨_,World.ownsMap_made _ _ _ _,wT⟩
theorem aZ.ext {w:World} {b n:Nat} {f g:ByteArray→Option α} (h:aZ enc w b n f) (a:∀x,x.size≤maxLen→f x=g x):aZ enc w b n g:=by
 obtain ⟨D,h1,d⟩:=h
 exact ⟨D,h1,fun x hx=>by rw [←a x hx];exact d x hx⟩
theorem aZ.look {w:World} {t e:TypeId} (m:prog.underlying t=some (.map 9 e)) {z:Value} (k:(zeroValue e).run prog w= .ok z w) {b n:Nat} {f:ByteArray→Option α} (h:aZ enc w b n f) {x:ByteArray} (hx:x.size≤maxLen) :
  (Instr.lookup t (.map (some b)) (.string x) false).run prog w= .ok (((f x).map enc).getD z) w:=by
 obtain ⟨D,d,j⟩:=h
 obtain ⟨v,ps,g,i⟩:=d.lookup eG m k (zd:=.held z) (zp:=[]) rfl (jq hx)
 rw [g]
 obtain ⟨h1,l⟩:=j x hx
 have a:D.atKey (iQ x) (.held z)= .held v:=by
  unfold eO at i
  injection i with i
  exact (congrArg Prod.fst i).symm
 cases e:f x with
 | none =>
  rw [e] at h1
  rw [atKey_of_not_has h1] at a
  injection a with h
  rw [←h];rfl
 | some o =>
  rw [l o e] at a
  injection a with h
  rw [←h];rfl
theorem mo {w:World} {ops:Array Oper} {rest:List Oper} {o:Oper} {a:Act} {Q:Exit→Act→World→Prop} (u:o.guard=none) (m x v:Operand) (t e:TypeId) (g:o.op=Op.mapUpdate t m x v)
  (s:prog.underlying t=some (.map 9 e)) (b n:Nat) (f:ByteArray→Option α) (hm:a.eval m= .map (some b)) (d:aZ enc w b n f) (p:ByteArray) (h:p.size≤maxLen) (c:α) (hx:a.eval x= .string p) (l:a.eval v=enc c) (i:n<maxLen)
  (k:∀w',aZ enc w' b (n+1) (fun q=>if q=p then some c else f q)→w.grownBy w' (some b)→wpList prog ops Q rest (a.put o.dst undef) w'):wpList prog ops Q (o::rest) a w:=by
 obtain ⟨D,d,r⟩:=d
 exact wpList_mapUpdate_own w u m x v t g 9 e eG s eO b n D hm d i (.string p) (enc c) (iQ p) hx l (jq h) _ [] rfl fun w' h1 j=>k w' ⟨_,h1,sM r d.isMap p h c⟩ j
structure RangeT (enc:α → Value) (w:World) (b r n:Nat) (f:ByteArray → Option α) (L:List ByteArray):Prop where
 run:∃ (D:DataW Value) (left:Lit → Bool) (cnt:Nat),w.ranges prog 9 eO b r n D left cnt ∧ y8 enc D f ∧ ∀ x,x.size ≤ maxLen → (left (iQ x) = true ↔ x ∈ L)
 nodup:L.Nodup
 len:∀ x ∈ L,x.size ≤ maxLen
 there:∀ x ∈ L,(f x).isSome = true
theorem RangeT.map {w:World} {b r n:Nat} {f:ByteArray→Option α} {L:List ByteArray} (h:RangeT enc w b r n f L):aZ enc w b n f:=by
 obtain ⟨D,left,cnt,h1,a,_⟩:=h.run
 exact ⟨D,h1.owns,a⟩
theorem RangeT.lt {w:World} {b r n:Nat} {f:ByteArray→Option α} {L:List ByteArray} (h:RangeT enc w b r n f L):r<w.heap.size:=by
 obtain ⟨D,left,cnt,h1,_⟩:=h.run;exact h1.lt
theorem RangeT.heap {w w':World} {b r n:Nat} {f:ByteArray→Option α} {L:List ByteArray} (h:RangeT enc w b r n f L) (hb:w'.heap[b]? = w.heap[b]?) (i:w'.heap[r]? = w.heap[r]?):RangeT enc w' b r n f L:=by
 obtain ⟨⟨D,left,cnt,⟨es,a,d,seen,k,h1,F,e,l,g,rest⟩,m,j⟩,k1,k2,k3⟩:=h
 exact ⟨⟨D,left,cnt,⟨es,a,d,seen,k,hb.trans h1,F,e,l,i.trans g,rest⟩,m,j⟩,k1,k2,k3⟩
theorem RangeT.on {w w':World} {b r n:Nat} {f:ByteArray→Option α} {L:List ByteArray} (h:RangeT enc w b r n f L) (hb:Below w.heap.size w w'):RangeT enc w' b r n f L:=h.heap (hb.block b h.map.lt) (hb.block r h.lt)
theorem RangeT.grown {w w':World} {b r n:Nat} {f:ByteArray→Option α} {L:List ByteArray} {row:Option Nat} (h:RangeT enc w b r n f L) (a:w.grownBy w' row) (hb:some b≠row) (d:some r≠row):RangeT enc w' b r n f L:=h.heap (a.block b h.map.lt hb) (a.block r h.lt d)
theorem dN {w w':World} {b r:Nat} (hb:w'.heap[b]? = w.heap[b]?) (a:w'.heap[r]? = w.heap[r]?):w'.rangeLeft b r=w.rangeLeft b r:=by unfold World.rangeLeft;rw [hb,a]
theorem iw {w:World} {ops:Array Oper} {rest:List Oper} {o:Oper} {a:Act} {Q:Exit→Act→World→Prop} (r:o.guard=none) (m:Operand) (t e:TypeId) (g:o.op=Op.range t m) (q:prog.underlying t=some (.map 9 e))
  (b n:Nat) (f:ByteArray→Option α) (L:List ByteArray) (hm:a.eval m= .map (some b)) (d:aZ enc w b n f) (k:L.Nodup) (j:∀x∈L,x.size≤maxLen) (h:∀x,x.size≤maxLen→((f x).isSome=true↔x∈L))
  (p:∀w',RangeT enc w' b w.heap.size n f L→w.grownBy w' none→w'.heap.size=w.heap.size+1→wpList prog ops Q rest (a.put o.dst (.pointer (some ⟨w.heap.size,0,none⟩))) w') :
  wpList prog ops Q (o::rest) a w:=by
 obtain ⟨D,d,i⟩:=d
 exact wpList_range_own w r m t g 9 e eG q eO b n D hm d fun w' h1 l s=>p w' ⟨⟨D,_,_,h1,i,fun x hx=>by rw [(i x hx).1];exact h x hx⟩,k,j,fun x hx=>(h x (j x hx)).2 hx⟩ l s
theorem jk {w:World} {ops:Array Oper} {rest:List Oper} {o:Oper} {a:Act} {Q:Exit→Act→World→Prop} (R:o.guard=none) (I:Operand) (G:o.op=Op.next I false) (b r n:Nat) (f:ByteArray→Option α) (L:List ByteArray)
  (K:a.eval I= .pointer (some ⟨r,0,none⟩)) (h:RangeT enc w b r n f L)
  (l:L=[]→wpList prog ops Q rest (a.put o.dst (.tuple #[.bool false])) w)
  (m:∀(x:ByteArray) (c:α) (w':World),x∈L→x.size≤maxLen→f x=some c→RangeT enc w' b r n f (L.filter fun y=>decide (y≠x))→w'.rangeLeft b r<w.rangeLeft b r→w.grownBy w' (some r)→w'.heap.size=w.heap.size →
   (Instr.entry (.pointer (some ⟨r,0,none⟩))).run prog w'= .ok (.tuple #[.string x,enc c]) w'→wpList prog ops Q rest (a.put o.dst (.tuple #[.bool true,.string x,enc c])) w') :
  wpList prog ops Q (o::rest) a w:=by
 obtain ⟨⟨D,left,cnt,q,N,d⟩,U,j,g⟩:=h
 refine wpList_next_ranges (α:={ x:ByteArray // x.size≤maxLen }) (β:=Value) w R I G 9 eG eO (fun x=> .string x.1) id (fun key P E=>by
  obtain ⟨x,hx,e⟩:=nI E
  exact ⟨⟨x,hx⟩,e⟩) (fun v _ _=>⟨v,rfl⟩) b r n D left cnt K q ?_ ?_
 ·intro _ S
  refine l (List.eq_nil_iff_forall_not_mem.2 fun x hx=> ?_)
  have h1:=(d x (j x hx)).2 hx
  rw [S] at h1;cases h1
 rintro ⟨x,hx⟩ c P y w' s i M B H k C F J u
 dsimp only at i u ⊢
 obtain rfl:iQ x=P:=Option.some.inj ((jq hx).symm.trans i)
 have t:=(d x hx).1 M
 obtain ⟨o,O⟩:=Option.isSome_iff_exists.1 (g x t)
 have T:c=enc o:=by
  have h1:=H (.held (.bool false))
  rw [(N x hx).2 o O] at h1
  unfold eO at B
  injection B with B
  rw [←B] at h1
  exact (DataW.held.inj h1).symm
 subst T
 refine m x o w' t hx O ⟨⟨D,_,s,k,N,fun z p=> ?_⟩,U.filter _,fun z p=>j z ((List.mem_filter.1 p).1),fun z p=>g z ((List.mem_filter.1 p).1)⟩ (by rw [k.left_eq,q.left_eq];exact C) F J u
 rw [List.mem_filter,decide_eq_true_iff,Bool.and_eq_true,d z p]
 constructor
 ·rintro ⟨h1,A⟩
  refine ⟨h1,fun e=> ?_⟩
  subst e
  have E:=eG.key (jq p)
  rw [show (iQ z).sameKey (iQ z)=true from WideAt.sameKey_self E] at A
  cases A
 rintro ⟨h1,A⟩
 exact ⟨h1,by rw [sameKey_ne (fun e=>A (qR e))];rfl⟩
end
theorem oN {H:Type} {P:Program} {k:TypeId} {R:Value→Option (DataW H×List MemPlace)} {w:World} {b n:Nat} {D:DataW H} (h:w.ownsMap P k R b n D):w.ownsMap P k R b (Maps.size D) D:=by
 obtain ⟨es,a,hb,F,_,rfl⟩:=h
 exact ⟨es,a,hb,F,by simp [Maps.size,length_sorted],rfl⟩
section
variable {α:Type} {enc:α → Value}
def bS (V:List (ByteArray×α)) (x:ByteArray):Option α:=(V.find? fun r=>decide (r.1=x)).map (·.2)
def mQ (V:List (ByteArray×α)) (x:ByteArray):List (ByteArray×α):=V.filter fun r=>decide (r.1≠x)
def jQ (V:List (ByteArray×α)) (x:ByteArray) (c:α):List (ByteArray×α):=mQ V x++[(x,c)]
theorem JW (x:ByteArray):bS ([]:List (ByteArray×α)) x=none:=rfl
theorem dY (r:ByteArray×α) (V:List (ByteArray×α)) (x:ByteArray):bS (r::V) x=if r.1=x then some r.2 else bS V x:=by
 unfold bS
 rw [List.find?_cons]
 by_cases e:r.1=x
 ·rw [if_pos e,decide_eq_true e];rfl
 rw [if_neg e,decide_eq_false e]
theorem pK {V:List (ByteArray×α)} {x:ByteArray}:(bS V x).isSome=true↔x∈V.map (·.1):=by
 induction V with
 | nil=>simp [bS]
 | cons r V ih =>
  rw [dY,List.map_cons,List.mem_cons]
  by_cases e:r.1=x
  ·simp [e]
  rw [if_neg e,ih]
  exact ⟨.inr,fun h=>h.resolve_left fun h=>e h.symm⟩
theorem sZ {V:List (ByteArray×α)} {x:ByteArray} {c:α} (h:bS V x=some c):(x,c)∈V:=by
 induction V with
 | nil=>cases h
 | cons r V ih =>
  rw [dY] at h
  by_cases e:r.1=x
  ·rw [if_pos e] at h
   cases h;rw [←e];exact List.mem_cons_self ..
  rw [if_neg e] at h
  exact List.mem_cons_of_mem _ (ih h)
theorem MG {V:List (ByteArray×α)} (a:(V.map (·.1)).Nodup) {r:ByteArray×α} (h:r∈V):bS V r.1=some r.2:=by
 induction V with
 | nil=>cases h
 | cons q V ih =>
  rw [List.map_cons,List.nodup_cons] at a
  rw [dY]
  rcases List.mem_cons.1 h with rfl|h
  ·rw [if_pos rfl]
  rw [if_neg fun e=>a.1 (by rw [e];exact List.mem_map.2 ⟨r,h,rfl⟩)]
  exact ih a.2 h
theorem tu (V:List (ByteArray×α)) (x y:ByteArray):bS (mQ V x) y=if y=x then none else bS V y:=by
 induction V with
 | nil=>simp [mQ,bS]
 | cons r V ih =>
  show bS (List.filter _ (r::V)) y=_
  rw [List.filter_cons]
  by_cases e:r.1=x
  ·rw [if_neg (by simp [e])]
   rw [show bS (List.filter _ V) y=bS (mQ V x) y from rfl,ih,dY]
   by_cases a:y=x
   ·rw [if_pos a,if_pos a]
   rw [if_neg a,if_neg a,if_neg fun h=>a (h.symm.trans e)]
  rw [if_pos (by simp [e]),dY,dY]
  rw [show bS (List.filter _ V) y=bS (mQ V x) y from rfl,ih]
  by_cases a:r.1=y
  ·rw [if_pos a,if_pos a,if_neg fun h=>e (a.trans h)]
  rw [if_neg a,if_neg a]
theorem FZ (V:List (ByteArray×α)) (r:ByteArray×α) (x:ByteArray):bS (V++[r]) x=match bS V x with|some c=>some c|none=>if r.1=x then some r.2 else none:=by
 induction V with
 | nil=>rw [List.nil_append,dY,JW]
 | cons q V ih =>
  rw [List.cons_append,dY,dY,ih]
  by_cases e:q.1=x
  ·rw [if_pos e,if_pos e]
  rw [if_neg e,if_neg e]
theorem JV (V:List (ByteArray×α)) (x:ByteArray) (c:α) (y:ByteArray):bS (jQ V x c) y=if y=x then some c else bS V y:=by
 unfold jQ
 rw [FZ,tu]
 by_cases e:y=x
 ·rw [if_pos e,if_pos e]
  dsimp only
  rw [if_pos e.symm]
 rw [if_neg e,if_neg e]
 cases bS V y with
 | none=>dsimp only;rw [if_neg fun h=>e h.symm]
 | some _=>rfl
theorem p8 {V:List (ByteArray×α)} (h:(V.map (·.1)).Nodup) (x:ByteArray):((mQ V x).map (·.1)).Nodup:=List.Nodup.sublist (List.Sublist.map _ List.filter_sublist) h
theorem Nz (V:List (ByteArray×α)) (x:ByteArray):x∉(mQ V x).map (·.1):=fun h=>by
 have:=pK.2 h
 rw [tu,if_pos rfl] at this;cases this
theorem lT {V:List (ByteArray×α)} (h:(V.map (·.1)).Nodup) (x:ByteArray) (c:α):((jQ V x c).map (·.1)).Nodup:=by
 unfold jQ
 rw [List.map_append]
 refine List.nodup_append.2 ⟨p8 h x,by simp,?_⟩
 intro a d b hb
 simp at hb
 subst hb
 intro e;subst e
 exact Nz V a d
theorem yL {V:List (ByteArray×α)} (h:(V.map (·.1)).Nodup) (x:ByteArray):(mQ V x).length+(if (bS V x).isSome=true then 1 else 0)=V.length:=by
 induction V with
 | nil=>simp [mQ,bS]
 | cons r V a =>
  rw [List.map_cons,List.nodup_cons] at h
  have a:=a h.2
  show (List.filter _ (r::V)).length+_=_
  rw [List.filter_cons,dY]
  by_cases e:r.1=x
  ·rw [if_neg (by simp [e]),if_pos e,show (some r.2).isSome=true from rfl,if_pos rfl]
   have b:(bS V x).isSome=false:=by
    cases d:(bS V x).isSome with
    | false=>rfl
    | true=>exact absurd (pK.1 d) (e▸h.1)
   rw [b] at a
   simp at a
   rw [show (List.filter _ V).length=(mQ V x).length from rfl,List.length_cons];omega
  rw [if_pos (by simp [e]),if_neg e,List.length_cons,List.length_cons,show (List.filter _ V).length=(mQ V x).length from rfl];omega
theorem Dw {V:List (ByteArray×α)} (h:(V.map (·.1)).Nodup) (x:ByteArray) (c:α):(jQ V x c).length=if (bS V x).isSome=true then V.length else V.length+1:=by
 have:=yL h x
 unfold jQ
 rw [List.length_append,List.length_singleton]
 split<;>simp_all
structure ig (enc:α → Value) (w:World) (b:Nat) (V:List (ByteArray × α)):Prop where
 nodup:(V.map (·.1)).Nodup
 len:∀ r ∈ V,r.1.size ≤ maxLen
 map:∃ D:DataW Value,w.ownsMap prog 9 eO b V.length D ∧ y8 enc D (bS V) ∧ Maps.size D = V.length
theorem ig.Qj {w:World} {b:Nat} {V:List (ByteArray×α)} (h:ig enc w b V):aZ enc w b V.length (bS V):=by obtain ⟨D,h1,a,_⟩:=h.map;exact ⟨D,h1,a⟩
theorem ig.lt {w:World} {b:Nat} {V:List (ByteArray×α)} (h:ig enc w b V):b<w.heap.size:=h.Qj.lt
theorem ig.heap {w w':World} {b:Nat} {V:List (ByteArray×α)} (h:ig enc w b V) (hb:w'.heap[b]? = w.heap[b]?):ig enc w' b V:=by
 obtain ⟨D,⟨es,a,h1,d⟩,e⟩:=h.map
 exact ⟨h.nodup,h.len,D,⟨es,a,hb.trans h1,d⟩,e⟩
theorem ig.on {w w':World} {b:Nat} {V:List (ByteArray×α)} (h:ig enc w b V) (hb:Below w.heap.size w w'):ig enc w' b V:=h.heap (hb.block b h.lt)
theorem JK (w:World):ig enc (w.alloc (.map #[] 0)) w.heap.size [] :=
 ⟨List.nodup_nil,fun _ h=>(by cases h),⟨DataW.map [],World.ownsMap_made _ _ _ _,fun _ _=>⟨rfl,fun _ h=>(by cases h)⟩,rfl⟩⟩
theorem ig.look {w:World} {t e:TypeId} (a:prog.underlying t=some (.map 9 e)) {z:Value} (d:(zeroValue e).run prog w= .ok z w) {b:Nat} {V:List (ByteArray×α)} (h:ig enc w b V) {x:ByteArray} (hx:x.size≤maxLen) :
  (Instr.lookup t (.map (some b)) (.string x) false).run prog w= .ok (((bS V x).map enc).getD z) w:=h.Qj.look a d hx
theorem ig.Hy {w:World} {t e:TypeId} (d:prog.underlying t=some (.map 9 e)) {b:Nat} {V:List (ByteArray×α)} (h:ig enc w b V) (ty:TypeId):(Builtin.len_ #[t] ty #[.map (some b)]).run prog w= .ok (.int .i64 (V.length:Int)) w:=by
 obtain ⟨D,h1,_,a⟩:=h.map
 rw [h1.len d ty,a]
theorem uU {w:World} {ops:Array Oper} {rest:List Oper} {o:Oper} {a:Act} {Q:Exit→Act→World→Prop} (F:o.guard=none) (m x v:Operand) (t e:TypeId) (k:o.op=Op.mapUpdate t m x v)
  (E:prog.underlying t=some (.map 9 e)) (b:Nat) (V:List (ByteArray×α)) (hm:a.eval m= .map (some b)) (d:ig enc w b V) (p:ByteArray) (i:p.size≤maxLen) (c:α) (hx:a.eval x= .string p) (C:a.eval v=enc c) (u:V.length<maxLen)
  (A:∀w',ig enc w' b (jQ V p c)→w.grownBy w' (some b)→wpList prog ops Q rest (a.put o.dst undef) w'):wpList prog ops Q (o::rest) a w:=by
 have f:=d.nodup
 have g:=d.len
 obtain ⟨D,d,q,j⟩:=d.map
 refine wpList_mapUpdate_own w F m x v t k 9 e eG E eO b V.length D hm d u (.string p) (enc c) (iQ p) hx C (jq i) _ [] rfl fun w' h1 z=>A w' ⟨lT f p c,fun r n=> ?_,?_⟩ z
 ·unfold jQ at n
  rcases List.mem_append.1 n with h|h
  ·exact g r (List.mem_filter.1 h).1
  simp at h;subst h;exact i
 have l:Maps.size (D.put (iQ p) (.held (enc c)))=(jQ V p c).length:=by
  rw [size_put (d.tidy eG),Dw f,(q p i).1,j]
 have s:=oN h1
 rw [l] at s
 refine ⟨_,s,?_,l⟩
 have B:=sM q d.isMap p i c
 intro y hy
 rw [JV]
 exact B y hy
theorem uX {w:World} {ops:Array Oper} {rest:List Oper} {o:Oper} {a:Act} {Q:Exit→Act→World→Prop} (F:o.guard=none) (m x:Operand) (t e:TypeId) (n:o.op=Op.call { callee:=Callee.builtin Builtin.delete,args:=#[m,x],argTypes:=#[t,9] })
  (E:prog.underlying t=some (.map 9 e)) (b:Nat) (V:List (ByteArray×α)) (hm:a.eval m= .map (some b)) (d:ig enc w b V) (p:ByteArray) (v:p.size≤maxLen) (hx:a.eval x= .string p)
  (B:∀w',ig enc w' b (mQ V p)→w.grownBy w' (some b)→wpList prog ops Q rest (a.put o.dst (.tuple #[])) w'):wpList prog ops Q (o::rest) a w:=by
 have f:=d.nodup
 have i:=d.len
 obtain ⟨D,d,q,l⟩:=d.map
 refine wpList_delete_own w F m x t 9 n e eG E eO b V.length D hm d (.string p) (iQ p) hx (jq v) fun w' h1 z=>B w' ⟨p8 f p,fun r A=>i r (List.mem_filter.1 A).1,?_⟩ z.grown
 have u:Maps.size (D.del (iQ p))=(mQ V p).length:=by
  have j:=size_del (k:=iQ p) (d.tidy eG)
  have G:=yL f p
  rw [(q p v).1,l] at j
  omega
 have j:=oN h1
 rw [u] at j
 refine ⟨_,j,fun y hy=> ?_,u⟩
 rw [tu]
 by_cases s:y=p
 ·subst s
  rw [if_pos rfl]
  exact ⟨has_del_same,fun _ h=>by cases h⟩
 have g:iQ y≠iQ p:=fun h=>s (qR h)
 rw [if_neg s]
 exact ⟨by rw [has_del_other g];exact (q y hy).1,fun o C zd=>by rw [atKey_del_other g];exact (q y hy).2 o C zd⟩
end
end
section
open Go.RowKit
abbrev Rf:=ByteArray×List UInt8
def dP (V:List Rf) (r:Rf):List Rf:=if r.2=zid then mQ (jQ V r.1 r.2) r.1 else jQ V r.1 r.2
def qA (V:List Rf) (r:Rf):Bool:=aN r.1&&decide (r.2≠zid)&&(match V.getLast? with|none=>true|some q=>ltB q.1.data.toList r.1.data.toList)&&decide ((dP V r).length≤16)
def pO (V:List Rf) (r:Rf):Bool:=aN r.1&&decide ((dP V r).length≤16)
def eF:List Rf→List Rf→Option (List Rf)
 | V,[]=>some V
 | V,r::t=>if qA V r=true then eF (dP V r) t else none
def fB:List Rf→List Rf→Option (List Rf)
 | V,[]=>some V
 | V,r::t=>if pO V r=true then fB (dP V r) t else none
def dD (t l:List Rf):Option (List Rf):=(eF [] t).bind fun V=>fB V l
def aO (t l:List Rf):Bool:=(dD t l).isSome&&decide (l.length≤100)
theorem Fv {V:List Rf} (h:(V.map (·.1)).Nodup) (r:Rf):((dP V r).map (·.1)).Nodup:=by
 unfold dP
 split
 ·exact p8 (lT h _ _) _
 exact lT h _ _
theorem Bq:∀ {t V W:List Rf},(V.map (·.1)).Pairwise (fun x y=>ltB x.data.toList y.data.toList=true)→eF V t=some W→W=V++t∧(W.map (·.1)).Pairwise (fun x y=>ltB x.data.toList y.data.toList=true)
 | [],V,W,hp,h=>by
  unfold eF at h
  cases h
  exact ⟨by simp,hp⟩
 | r::t,V,W,hp,h=>by
  unfold eF at h
  split at h
  ·rename_i hb
   unfold qA at hb
   simp only [Bool.and_eq_true,decide_eq_true_eq] at hb
   obtain ⟨⟨⟨_,m⟩,b⟩,_⟩:=hb
   have a:∀x∈V.map (·.1),ltB x.data.toList r.1.data.toList=true:=by
    intro x hx
    cases d:V.getLast? with
    | none=>rw [List.getLast?_eq_none_iff.1 d] at hx;cases hx
    | some q =>
     rw [d] at b
     dsimp only at b
     obtain ⟨U,g⟩:=List.getLast?_eq_some_iff.1 d
     rw [g,List.map_append,List.mem_append] at hx
     rcases hx with hx|hx
     ·rw [g,List.map_append] at hp
      exact fH ((List.pairwise_append.1 hp).2.2 x hx q.1 (by simp)) b
     simp at hx;rw [hx];exact b
   have f:r.1∉V.map (·.1):=fun hm=>by
    have:=a _ hm
    rw [bU] at this;cases this
   have l:dP V r=V++[r]:=by
    unfold dP
    rw [if_neg m]
    unfold jQ mQ
    have j:(V.filter fun q=>decide (q.1≠r.1))=V:=List.filter_eq_self.2 fun q k=>decide_eq_true (fun (e:q.1=r.1)=>f (by rw [←e];exact List.mem_map.2 ⟨q,k,rfl⟩))
    rw [j]
   rw [l] at h
   have i:=Bq (t:=t) (by
    rw [List.map_append]
    refine List.pairwise_append.2 ⟨hp,by simp,fun x hx y hy=> ?_⟩
    simp at hy;rw [hy];exact a x hx) h
   exact ⟨by rw [i.1];simp,i.2⟩
  cases h
theorem qz:∀(a b V:List Rf),eF V (a++b)=(eF V a).bind fun W=>eF W b
 | [],b,V=>by rw [List.nil_append];rfl
 | r::a,b,V=>by
  rw [List.cons_append,show eF V (r::(a++b))=if qA V r=true then eF (dP V r) (a++b) else none from rfl,show eF V (r::a)=if qA V r=true then eF (dP V r) a else none from rfl]
  split
  ·rw [qz]
  rfl
theorem lF:∀(a b V:List Rf),fB V (a++b)=(fB V a).bind fun W=>fB W b
 | [],b,V=>by rw [List.nil_append];rfl
 | r::a,b,V=>by
  rw [List.cons_append,show fB V (r::(a++b))=if pO V r=true then fB (dP V r) (a++b) else none from rfl,show fB V (r::a)=if pO V r=true then fB (dP V r) a else none from rfl]
  split
  ·rw [lF]
  rfl
theorem CY (V:List Rf) (r:Rf):eF V [r]=if qA V r=true then some (dP V r) else none:=by
 unfold eF
 split<;>rfl
theorem DY (V:List Rf) (r:Rf):fB V [r]=if pO V r=true then some (dP V r) else none:=by
 unfold fB
 split<;>rfl
theorem LB {t:List Rf} {k:Nat} (b:k<t.length) (h:eF [] (t.take k)=some (t.take k)) (hb:qA (t.take k) t[k]=true):eF [] (t.take (k+1))=some (t.take (k+1))∧dP (t.take k) t[k]=t.take (k+1):=by
 have h1:eF [] (t.take (k+1))=some (dP (t.take k) t[k]):=by
  rw [List.take_succ_eq_append_getElem b,qz,h]
  show eF (t.take k) [t[k]]=_
  rw [CY,if_pos hb]
 have a:=(Bq (by simp) h1).1
 rw [List.nil_append] at a
 exact ⟨by rw [h1,a],a⟩
theorem Oj {t:List Rf} {k:Nat} (a:k<t.length) (h:eF [] (t.take k)=some (t.take k)) (hb:qA (t.take k) t[k]=false) (l:List Rf):dD t l=none:=by
 have h1:eF [] t=none:=by
  have e:t=t.take k++([t[k]]++t.drop (k+1)):=by
   rw [←List.append_assoc,←List.take_succ_eq_append_getElem a,List.take_append_drop]
  rw [e,qz,h]
  show eF (t.take k) ([t[k]]++t.drop (k+1))=none
  rw [qz,CY,hb];rfl
 unfold dD
 rw [h1];rfl
theorem Oi {t:List Rf} (h:eF [] (t.take t.length)=some (t.take t.length)) (l:List Rf):dD t l=fB t l:=by
 rw [List.take_length] at h
 unfold dD
 rw [h];rfl
theorem MI {t l V:List Rf} {k:Nat} (a:k<l.length) (h:fB t (l.take k)=some V) (hb:pO V l[k]=true):fB t (l.take (k+1))=some (dP V l[k]):=by
 rw [List.take_succ_eq_append_getElem a,lF,h]
 show fB V [l[k]]=_
 rw [DY,if_pos hb]
theorem OG {t l V:List Rf} {k:Nat} (a:k<l.length) (h:fB t (l.take k)=some V) (hb:pO V l[k]=false):fB t l=none:=by
 have e:l=l.take k++([l[k]]++l.drop (k+1)):=by
  rw [←List.append_assoc,←List.take_succ_eq_append_getElem a,List.take_append_drop]
 rw [e,lF,h]
 show fB V ([l[k]]++l.drop (k+1))=none
 rw [lF,DY,hb];rfl
theorem J5 {t:List Rf} {k:Nat} (a:k<t.length):(t.take (k+1)).getLast? = some t[k]:=by
 rw [List.take_succ_eq_append_getElem a,List.getLast?_append];simp
structure OkV (V:List Rf):Prop where
 ok:∀ r ∈ V,aN r.1 = true ∧ r.2 ≠ zid
 nd:(V.map (·.1)).Nodup
 len:V.length ≤ 16
theorem Hl {V:List Rf} {r:Rf} (h:OkV V) (e:aN r.1=true) (d:(dP V r).length≤16):OkV (dP V r):=by
 refine ⟨fun x hx=> ?_,Fv h.nd r,d⟩
 unfold dP at hx
 split at hx
 ·rename_i a
  have h1:=(List.mem_filter.1 hx).1
  have b:=of_decide_eq_true (List.mem_filter.1 hx).2
  unfold jQ at h1
  rcases List.mem_append.1 h1 with h1|h1
  ·exact h.ok x (List.mem_filter.1 h1).1
  simp at h1;subst h1;exact absurd rfl b
 rename_i a
 unfold jQ at hx
 rcases List.mem_append.1 hx with h1|h1
 ·exact h.ok x (List.mem_filter.1 h1).1
 simp at h1;subst h1;exact ⟨e,a⟩
theorem Hg:∀ {t V W:List Rf},OkV V→eF V t=some W→OkV W
 | [],V,W,h,e=>by unfold eF at e;cases e;exact h
 | r::t,V,W,h,e=>by
  unfold eF at e
  split at e
  ·rename_i hb
   unfold qA at hb
   simp only [Bool.and_eq_true,decide_eq_true_eq] at hb
   exact Hg (Hl h hb.1.1.1 hb.2) e
  cases e
theorem Ho:∀ {t V W:List Rf},OkV V→fB V t=some W→OkV W
 | [],V,W,h,e=>by unfold fB at e;cases e;exact h
 | r::t,V,W,h,e=>by
  unfold fB at e
  split at e
  ·rename_i hb
   unfold pO at hb
   simp only [Bool.and_eq_true,decide_eq_true_eq] at hb
   exact Ho (Hl h hb.1 hb.2) e
  cases e
theorem OB:OkV []:=⟨fun _ h=>(by cases h),by simp,by simp⟩
theorem qO {t l V:List Rf} (h:dD t l=some V):OkV V:=by
 unfold dD at h
 cases a:eF [] t with
 | none=>rw [a] at h;cases h
 | some W=>rw [a] at h;exact Ho (Hg OB a) h
theorem Jg {V W:List Rf} (h:V.Perm W) (r:Rf):(dP V r).Perm (dP W r):=by
 have h1:(jQ V r.1 r.2).Perm (jQ W r.1 r.2):=(h.filter _).append_right _
 unfold dP
 split
 ·exact h1.filter _
 exact h1
theorem Au:∀ {l V W U:List Rf},V.Perm W→fB V l=some U→ ∃U',fB W l=some U'∧U.Perm U'
 | [],V,W,U,h,e=>by unfold fB at e;cases e;exact ⟨W,rfl,h⟩
 | r::l,V,W,U,h,e=>by
  have h1:=Jg h r
  have a:pO W r=pO V r:=by unfold pO;rw [h1.length_eq]
  unfold fB at e ⊢
  rw [a]
  split at e
  ·rename_i hb
   rw [if_pos hb]
   exact Au h1 e
  cases e
def jh (V:List Rf):Prop:=(V.map (·.1)).Pairwise fun x y=>ltB x.data.toList y.data.toList=true
theorem wM:∀ {B A:List Rf},jh (A++B)→(∀r∈B,aN r.1=true∧r.2≠zid)→(A++B).length≤16→eF A B=some (A++B)
 | [],A,_,_,_=>by unfold eF;rw [List.append_nil]
 | r::B,A,hr,hb,hl=>by
  have a:∀x∈A.map (·.1),ltB x.data.toList r.1.data.toList=true:=fun x hx=>by
   unfold jh at hr
   rw [List.map_append,List.map_cons] at hr
   exact (List.pairwise_append.1 hr).2.2 x hx r.1 (List.mem_cons_self ..)
  have b:r.1∉A.map (·.1):=fun hm=>by
   have:=a _ hm
   rw [bU] at this;cases this
  have d:dP A r=A++[r]:=by
   unfold dP
   rw [if_neg (hb r (List.mem_cons_self ..)).2]
   unfold jQ mQ
   have g:(A.filter fun q=>decide (q.1≠r.1))=A:=List.filter_eq_self.2 fun q i=>decide_eq_true (fun (e:q.1=r.1)=>b (by rw [←e];exact List.mem_map.2 ⟨q,i,rfl⟩))
   rw [g]
  rw [List.length_append,List.length_cons] at hl
  have f:qA A r=true:=by
   unfold qA
   rw [(hb r (List.mem_cons_self ..)).1,decide_eq_true (hb r (List.mem_cons_self ..)).2,d,decide_eq_true (by rw [List.length_append,List.length_singleton];omega)]
   cases j:A.getLast? with
   | none=>rfl
   | some q =>
    obtain ⟨U,h⟩:=List.getLast?_eq_some_iff.1 j
    have:=a q.1 (by rw [h,List.map_append];simp)
    dsimp only
    rw [this];rfl
  have e:A++r::B=(A++[r])++B:=by simp
  unfold eF
  rw [if_pos f,d,e]
  exact wM (by rw [←e];exact hr) (fun x hx=>hb x (List.mem_cons_of_mem _ hx)) (by rw [List.length_append,List.length_append,List.length_singleton];omega)
theorem P5 {W V:List Rf} (b:OkV V) (d:W.Perm V) (a:jh W):eF [] W=some W:=by
 have:=wM (A:=[]) (B:=W) (by simpa using a) (fun r a=>b.ok r (d.mem_iff.1 a)) (by simpa using d.length_eq▸b.len)
 simpa using this
theorem GY {t l V W:List Rf} {k:Nat} (hb:aO t l=true) (a:dD t (l.take k)=some V) (d:W.Perm V) (f:jh W):aO W (l.drop k)=true:=by
 unfold aO at hb ⊢
 rw [Bool.and_eq_true,decide_eq_true_eq] at hb
 obtain ⟨h1,j⟩:=hb
 obtain ⟨U,b⟩:=Option.isSome_iff_exists.1 h1
 have i:fB V (l.drop k)=some U:=by
  unfold dD at b a
  cases e:eF [] t with
  | none=>rw [e] at a;cases a
  | some T =>
   rw [e] at b a
   have b:fB T l=some U:=b
   have a:fB T (l.take k)=some V:=a
   rw [←List.take_append_drop k l,lF,a] at b
   exact b
 obtain ⟨U',g,_⟩:=Au d.symm i
 have h:dD W (l.drop k)=some U':=by
  unfold dD
  rw [P5 (qO a) d f]
  exact g
 rw [h]
 have:(l.drop k).length≤100:=by rw [List.length_drop];omega
 simp only [Option.isSome_some,Bool.true_and]
 exact decide_eq_true this
def IW (s:List UInt8):List UInt8:=aQ s.length++s
def Jm (s:List UInt8):List UInt8:=IW (fK s)
def gP (r:Rf):List UInt8:=IW r.1.data.toList++r.2
def kN (r:Rf):List UInt8:=Jm (69::gP r)
def qZ (t:List Rf):List UInt8:=Jm (72::(aQ t.length++(t.map gP).flatten))
def iU (t l:List Rf):List UInt8:=qZ t++(l.map kN).flatten
theorem nW:∀n:Nat,n<2^42→(aQ n).length≤6:=fun n h=>by
 rw [aQ]
 split
 ·simp
 rw [aQ]
 split
 ·simp
 rw [aQ]
 split
 ·simp
 rw [aQ]
 split
 ·simp
 rw [aQ]
 split
 ·simp
 rw [aQ]
 split
 ·simp
 exfalso;omega
theorem Bn {s:List UInt8} (h:s.length<2^42):(IW s).length≤s.length+6:=by
 unfold IW
 have:=nW _ h
 rw [List.length_append];omega
theorem vF {r:Rf} (h1:r.1.size≤32) (b:r.2.length=32):(gP r).length≤70:=by
 unfold gP
 have a:r.1.data.toList.length=r.1.size:=Array.length_toList
 have:=Bn (s:=r.1.data.toList) (by rw [a];omega)
 rw [List.length_append];omega
theorem BK {s:List UInt8} (h:s.length<1000000):(Jm s).length≤s.length+10:=by
 unfold Jm
 have h1:=lq s
 have:=Bn (s:=fK s) (by omega)
 omega
theorem vO {r:Rf} (h1:r.1.size≤32) (a:r.2.length=32):(kN r).length≤81:=by
 unfold kN
 have b:=vF h1 a
 have:=BK (s:=69::gP r) (by rw [List.length_cons];omega)
 rw [List.length_cons] at this;omega
theorem om {α:Type} {f:α→List UInt8} {n:Nat}:∀ {l:List α},(∀x∈l,(f x).length≤n)→(l.map f).flatten.length≤l.length*n
 | [],_=>by simp
 | x::l,h=>by
  have h1:=h x (List.mem_cons_self ..)
  have a:=om (l:=l) fun y hy=>h y (List.mem_cons_of_mem _ hy)
  rw [List.map_cons,List.flatten_cons,List.length_append,List.length_cons,Nat.succ_mul];omega
theorem Na {t:List Rf} (h:∀r∈t,r.1.size≤32∧r.2.length=32) (d:t.length≤1000):(qZ t).length≤t.length*70+17:=by
 unfold qZ
 have h1:=om (f:=gP) (n:=70) (l:=t) fun r a=>vF (h r a).1 (h r a).2
 have b:=nW t.length (by omega)
 have:=BK (s:=72::(aQ t.length++(t.map gP).flatten)) (by rw [List.length_cons,List.length_append];omega)
 rw [List.length_cons,List.length_append] at this;omega
def fI (r:Rd) (c:UInt8):Option Rd:=if oD (r.text 65536).2=true∧(unS (r.text 65536).2).data.toList.head? = some c∧(r.text 65536).1.err=0 then some (rd0 (ofB ((unS (r.text 65536).2).data.toList.drop 1))) else none
def jA (x:Rd):Rd×Rf:=((x.text 32).1.id.1,((x.text 32).2,(x.text 32).1.id.2))
def oA:Ob:=⟨1,⟨#[97,98]⟩⟩
def xA:List UInt8:=[37,89,112,78,157,24,30,41,135,218,236,66,99,26,230,225,191,17,132,78,229,68,237,162,39,4,1,21,118,116,222,175]
def mnN:ByteArray:=⟨#[109,97,105,110]⟩
theorem PU:Oo (bV oA)=xA:=by decide +kernel
theorem idA:idO oA=xA:=by
 unfold idO
 rw [←Om,bq]
 exact PU
theorem EW:xA.length=32:=rfl
def rA:Rf:=(mnN,xA)
def bk0:ByteArray:=ofB (iU [] [])
def bk1:ByteArray:=ofB (iU [] [rA])
theorem Qg:aO [] []=true:=by decide +kernel
theorem QM:aO [] [rA]=true:=by decide +kernel
theorem Rn:aN mnN=true:=by decide +kernel
def rdP (r:Rd):ByteArray×Nat×Nat:=(r.s,r.pos,r.err)
theorem L9 {o:Option Rd} {a:ByteArray} {b c:Nat} (h:o.map rdP=some (a,b,c)):o=some ⟨a,b,c⟩:=by
 cases o with
 | none=>cases h
 | some x =>
  cases x
  injection h with h
  unfold rdP at h
  injection h with h1 h2
  injection h2 with h2 h3
  subst h1 h2 h3
  rfl
theorem Q7:fI (rd0 bk0) 72=some (rd0 ⟨#[0]⟩):=L9 (by decide +kernel)
theorem Q6:fI (rd0 bk1) 72=some (rd0 ⟨#[0]⟩):=L9 (by decide +kernel)
theorem Bl:((rd0 ⟨#[0]⟩).num 16).2=0∧((rd0 ⟨#[0]⟩).num 16).1.fin=0:=by decide +kernel
theorem QG:fI ((rd0 bk0).text 65536).1 69=none:=by
 have h:(fI ((rd0 bk0).text 65536).1 69).map rdP=none:=by decide +kernel
 cases hx:fI ((rd0 bk0).text 65536).1 69 with
 | none=>rfl
 | some x=>rw [hx] at h;cases h
theorem QF:fI ((rd0 bk1).text 65536).1 69=some (rd0 (ofB (gP rA))):=L9 (by decide +kernel)
theorem QE:fI (((rd0 bk1).text 65536).1.text 65536).1 69=none:=by
 have h:(fI (((rd0 bk1).text 65536).1.text 65536).1 69).map rdP=none:=by decide +kernel
 cases hx:fI (((rd0 bk1).text 65536).1.text 65536).1 69 with
 | none=>rfl
 | some x=>rw [hx] at h;cases h
theorem OA:(jA (rd0 (ofB (gP rA)))).1.fin=0∧(jA (rd0 (ofB (gP rA)))).2=rA:=by decide +kernel
theorem Mk:(jA (rd0 (ofB (gP rA)))).1.pos≤(jA (rd0 (ofB (gP rA)))).1.s.size∧(jA (rd0 (ofB (gP rA)))).1.s.size≤1000000∧(jA (rd0 (ofB (gP rA)))).1.err≤100:=by decide +kernel
theorem I4:bk0.size=7∧((rd0 bk0).text 65536).1.pos=bk0.size:=by decide +kernel
theorem QH:bk1.size≤200∧(((rd0 bk1).text 65536).1.text 65536).1.pos=bk1.size:=by decide +kernel
theorem Q8:(ofB (gP rA)).size≤1000000:=by decide +kernel
end
end Go.Proofs.YtlhcoanbhnphgaaGreatDoor
