/- A part of this claim. -/
import Derived.Sort.MapsRangeIn
import Derived.Test.YtlhcoanbhnphgaaGreatDoorWm10
namespace Go.Proofs.YtlhcoanbhnphgaaGreatDoor
open Tryz
set_option maxHeartbeats 64000000
set_option maxRecDepth 100000
section
open Go.RowKit Go.Maps Go.WideMaps
def keyT (x:ByteArray):Lit:=.string x.data.toList
theorem gM {x:ByteArray} (hx:x.size ≤ maxLen):keyOf prog 9 (.string x) = some (keyT x):=keyOf_string_mk underlying9 hx
theorem nO {x y:ByteArray} (h:keyT x = keyT y):x = y:=Ca (by unfold keyT at h;injection h)
theorem kN {v:Value} {kl:Lit} (h:keyOf prog 9 v = some kl):∃ x:ByteArray,x.size ≤ maxLen ∧ v = .string x:=by
 obtain ⟨s,rfl⟩:=Maps.keyOf_string_inv underlying9 h
 refine ⟨s,?_,rfl⟩
 have h0:=h
 rw [keyOf_string underlying9] at h0
 simp only [mapKey,underlying9] at h0
 by_cases hs:s.size ≤ maxLen
 ·exact hs
 rw [if_neg hs] at h0;cases h0
section
variable {α:Type} {enc:α → Value}
def uI (enc:α → Value) (D:DataW Value) (f:ByteArray → Option α):Prop :=
 ∀ x,x.size ≤ maxLen → Maps.has D (keyT x) = (f x).isSome ∧ ∀ o,f x = some o → ∀ zd,D.atKey (keyT x) zd = .held (enc o)
def MapT (enc:α → Value) (w:World) (b n:Nat) (f:ByteArray → Option α):Prop:=∃ D:DataW Value,w.ownsMap prog 9 cZ b n D ∧ uI enc D f
theorem rQ:uI enc (.map []) fun _ => none:=fun _ _ => ⟨rfl,fun _ h => by cases h⟩
theorem oU {D:DataW Value} {f:ByteArray → Option α} (h:uI enc D f) (hm:IsMap D) (p:ByteArray) (hp:p.size ≤ maxLen) (o:α):uI enc (D.put (keyT p) (.held (enc o))) fun q => if q = p then some o else f q:=by
 intro q hq
 show has _ _ = (if q = p then some o else f q).isSome ∧ ∀ t,(if q = p then some o else f q) = some t → ∀ zd,_ = _
 have hk:=bY.key (gM hp)
 by_cases e:q = p
 ·subst e
  rw [if_pos rfl]
  exact ⟨by rw [has_put_same hm hk];rfl,fun t ht zd => by cases ht;exact atKey_put_same hm hk _ _⟩
 rw [if_neg e]
 have hne:keyT q ≠ keyT p:=fun h => e (nO h)
 exact ⟨by rw [has_put_other hne];exact (h q hq).1,fun t ht zd => by rw [atKey_put_other hne];exact (h q hq).2 t ht zd⟩
theorem MapT.lt {w:World} {b n:Nat} {f:ByteArray → Option α} (h:MapT enc w b n f):b < w.heap.size:=by obtain ⟨D,h,_⟩:=h;exact h.lt
theorem MapT.heap {w w':World} {b n:Nat} {f:ByteArray → Option α} (h:MapT enc w b n f) (hb:w'.heap[b]? = w.heap[b]?):MapT enc w' b n f:=by
 obtain ⟨D,⟨es,clock,h1,h2⟩,h3⟩:=h
 exact ⟨D,⟨es,clock,hb.trans h1,h2⟩,h3⟩
theorem MapT.below {w w':World} {b n B:Nat} {f:ByteArray → Option α} (h:MapT enc w b n f) (hb:Below B w w') (hB:b < B):MapT enc w' b n f:=h.heap (hb.block b hB)
theorem MapT.on {w w':World} {b n:Nat} {f:ByteArray → Option α} (h:MapT enc w b n f) (hb:Below w.heap.size w w'):MapT enc w' b n f:=h.below hb h.lt
theorem MapT.grown {w w':World} {b n:Nat} {f:ByteArray → Option α} {row:Option Nat} (h:MapT enc w b n f) (hg:w.grownBy w' row) (hne:some b ≠ row):MapT enc w' b n f:=h.heap (hg.block b h.lt hne)
theorem lD (w:World):MapT enc (w.alloc (.map #[] 0)) w.heap.size 0 fun _ => none:=⟨_,World.ownsMap_made _ _ _ _,rQ⟩
theorem MapT.ext {w:World} {b n:Nat} {f g:ByteArray → Option α} (h:MapT enc w b n f) (hfg:∀ x,x.size ≤ maxLen → f x = g x):MapT enc w b n g:=by
 obtain ⟨D,h1,h2⟩:=h
 exact ⟨D,h1,fun x hx => by rw [← hfg x hx];exact h2 x hx⟩
theorem MapT.look {w:World} {t e:TypeId} (ht:prog.underlying t = some (.map 9 e)) {z:Value} (hz:(zeroValue e).run prog w = .ok z w) {b n:Nat} {f:ByteArray → Option α} (h:MapT enc w b n f) {x:ByteArray} (hx:x.size ≤ maxLen) :
  (Instr.lookup t (.map (some b)) (.string x) false).run prog w = .ok (((f x).map enc).getD z) w:=by
 obtain ⟨D,hown,hs⟩:=h
 obtain ⟨v,ps,hrun,hv⟩:=hown.lookup bY ht hz (zd:=.held z) (zp:=[]) rfl (gM hx)
 rw [hrun]
 obtain ⟨h1,h2⟩:=hs x hx
 have hv2:D.atKey (keyT x) (.held z) = .held v:=by
  unfold cZ at hv
  injection hv with hv
  exact (congrArg Prod.fst hv).symm
 cases e:f x with
 | none =>
  rw [e] at h1
  rw [atKey_of_not_has h1] at hv2
  injection hv2 with h
  rw [← h];rfl
 | some o =>
  rw [h2 o e] at hv2
  injection hv2 with h
  rw [← h];rfl
theorem jW {w:World} {ops:Array Oper} {rest:List Oper} {o:Oper} {a:Act} {Q:Exit → Act → World → Prop} (hg:o.guard = none) (m x v:Operand) (t e:TypeId) (hop:o.op = Op.mapUpdate t m x v)
  (ht:prog.underlying t = some (.map 9 e)) (b n:Nat) (f:ByteArray → Option α) (hm:a.eval m = .map (some b)) (hown:MapT enc w b n f) (p:ByteArray) (hp:p.size ≤ maxLen) (c:α) (hx:a.eval x = .string p) (hv:a.eval v = enc c) (hn:n < maxLen)
  (hK:∀ w',MapT enc w' b (n + 1) (fun q => if q = p then some c else f q) → w.grownBy w' (some b) → wpList prog ops Q rest (a.put o.dst undef) w'):wpList prog ops Q (o :: rest) a w:=by
 obtain ⟨D,hown,hD⟩:=hown
 exact wpList_mapUpdate_own w hg m x v t hop 9 e bY ht cZ b n D hm hown hn (.string p) (enc c) (keyT p) hx hv (gM hp) _ [] rfl fun w' h1 h2 => hK w' ⟨_,h1,oU hD hown.isMap p hp c⟩ h2
structure RangeT (enc:α → Value) (w:World) (b r n:Nat) (f:ByteArray → Option α) (L:List ByteArray):Prop where
 run:∃ (D:DataW Value) (left:Lit → Bool) (cnt:Nat),w.ranges prog 9 cZ b r n D left cnt ∧ uI enc D f ∧ ∀ x,x.size ≤ maxLen → (left (keyT x) = true ↔ x ∈ L)
 nodup:L.Nodup
 len:∀ x ∈ L,x.size ≤ maxLen
 there:∀ x ∈ L,(f x).isSome = true
theorem RangeT.map {w:World} {b r n:Nat} {f:ByteArray → Option α} {L:List ByteArray} (h:RangeT enc w b r n f L):MapT enc w b n f:=by
 obtain ⟨D,left,cnt,h1,h2,_⟩:=h.run
 exact ⟨D,h1.owns,h2⟩
theorem RangeT.ne {w:World} {b r n:Nat} {f:ByteArray → Option α} {L:List ByteArray} (h:RangeT enc w b r n f L):r ≠ b:=by
 obtain ⟨D,left,cnt,h1,_⟩:=h.run;exact h1.ne
theorem RangeT.lt {w:World} {b r n:Nat} {f:ByteArray → Option α} {L:List ByteArray} (h:RangeT enc w b r n f L):r < w.heap.size:=by
 obtain ⟨D,left,cnt,h1,_⟩:=h.run;exact h1.lt
theorem RangeT.heap {w w':World} {b r n:Nat} {f:ByteArray → Option α} {L:List ByteArray} (h:RangeT enc w b r n f L) (hb:w'.heap[b]? = w.heap[b]?) (hr:w'.heap[r]? = w.heap[r]?):RangeT enc w' b r n f L:=by
 obtain ⟨⟨D,left,cnt,⟨es,clock,since,seen,c0,h1,F,hs,hD,h2,rest⟩,h3,h4⟩,k1,k2,k3⟩:=h
 exact ⟨⟨D,left,cnt,⟨es,clock,since,seen,c0,hb.trans h1,F,hs,hD,hr.trans h2,rest⟩,h3,h4⟩,k1,k2,k3⟩
theorem RangeT.on {w w':World} {b r n:Nat} {f:ByteArray → Option α} {L:List ByteArray} (h:RangeT enc w b r n f L) (hb:Below w.heap.size w w'):RangeT enc w' b r n f L:=h.heap (hb.block b h.map.lt) (hb.block r h.lt)
theorem RangeT.grown {w w':World} {b r n:Nat} {f:ByteArray → Option α} {L:List ByteArray} {row:Option Nat} (h:RangeT enc w b r n f L) (hg:w.grownBy w' row) (hb:some b ≠ row) (hr:some r ≠ row):RangeT enc w' b r n f L:=h.heap (hg.block b h.map.lt hb) (hg.block r h.lt hr)
theorem eH {w w':World} {b r:Nat} (hb:w'.heap[b]? = w.heap[b]?) (hr:w'.heap[r]? = w.heap[r]?):w'.rangeLeft b r = w.rangeLeft b r:=by unfold World.rangeLeft;rw [hb,hr]
theorem iC {w:World} {ops:Array Oper} {rest:List Oper} {o:Oper} {a:Act} {Q:Exit → Act → World → Prop} (hg:o.guard = none) (m:Operand) (t e:TypeId) (hop:o.op = Op.range t m) (ht:prog.underlying t = some (.map 9 e))
  (b n:Nat) (f:ByteArray → Option α) (L:List ByteArray) (hm:a.eval m = .map (some b)) (hown:MapT enc w b n f) (hn:L.Nodup) (hl:∀ x ∈ L,x.size ≤ maxLen) (hL:∀ x,x.size ≤ maxLen → ((f x).isSome = true ↔ x ∈ L))
  (hK:∀ w',RangeT enc w' b w.heap.size n f L → w.grownBy w' none → w'.heap.size = w.heap.size + 1 → wpList prog ops Q rest (a.put o.dst (.pointer (some ⟨w.heap.size,0,none⟩))) w') :
  wpList prog ops Q (o :: rest) a w:=by
 obtain ⟨D,hown,hD⟩:=hown
 exact wpList_range_own w hg m t hop 9 e bY ht cZ b n D hm hown fun w' h1 h2 h3 => hK w' ⟨⟨D,_,_,h1,hD,fun x hx => by rw [(hD x hx).1];exact hL x hx⟩,hn,hl,fun x hx => (hL x (hl x hx)).2 hx⟩ h2 h3
theorem iX {w:World} {ops:Array Oper} {rest:List Oper} {o:Oper} {a:Act} {Q:Exit → Act → World → Prop} (hg:o.guard = none) (it:Operand) (hop:o.op = Op.next it false) (b r n:Nat) (f:ByteArray → Option α) (L:List ByteArray)
  (hit:a.eval it = .pointer (some ⟨r,0,none⟩)) (h:RangeT enc w b r n f L)
  (hDone:L = [] → wpList prog ops Q rest (a.put o.dst (.tuple #[.bool false])) w)
  (hMore:∀ (x:ByteArray) (c:α) (w':World),x ∈ L → x.size ≤ maxLen → f x = some c → RangeT enc w' b r n f (L.filter fun y => decide (y ≠ x)) → w'.rangeLeft b r < w.rangeLeft b r → w.grownBy w' (some r) → w'.heap.size = w.heap.size →
   (Instr.entry (.pointer (some ⟨r,0,none⟩))).run prog w' = .ok (.tuple #[.string x,enc c]) w' → wpList prog ops Q rest (a.put o.dst (.tuple #[.bool true,.string x,enc c])) w') :
  wpList prog ops Q (o :: rest) a w:=by
 obtain ⟨⟨D,left,cnt,hrg,hD,hleft⟩,hn,hlen,hthere⟩:=h
 refine wpList_next_ranges (α:={ x:ByteArray // x.size ≤ maxLen }) (β:=Value) w hg it hop 9 bY cZ (fun x => .string x.1) id (fun key kl hk => by
  obtain ⟨x,hx,e⟩:=kN hk
  exact ⟨⟨x,hx⟩,e⟩) (fun v _ _ => ⟨v,rfl⟩) b r n D left cnt hit hrg ?_ ?_
 ·intro _ hl
  refine hDone (List.eq_nil_iff_forall_not_mem.2 fun x hx => ?_)
  have h1:=(hleft x (hlen x hx)).2 hx
  rw [hl] at h1;cases h1
 rintro ⟨x,hx⟩ c kl y w' cnt' hkey hlk hv hat hrg' hlt hgr hsz hen
 dsimp only at hkey hen ⊢
 obtain rfl:keyT x = kl:=Option.some.inj ((gM hx).symm.trans hkey)
 have hxL:=(hleft x hx).1 hlk
 obtain ⟨o,ho⟩:=Option.isSome_iff_exists.1 (hthere x hxL)
 have hc:c = enc o:=by
  have h1:=hat (.held (.bool false))
  rw [(hD x hx).2 o ho] at h1
  unfold cZ at hv
  injection hv with hv
  rw [← hv] at h1
  exact (DataW.held.inj h1).symm
 subst hc
 refine hMore x o w' hxL hx ho ⟨⟨D,_,cnt',hrg',hD,fun z hz => ?_⟩,hn.filter _,fun z hz => hlen z ((List.mem_filter.1 hz).1),fun z hz => hthere z ((List.mem_filter.1 hz).1)⟩ (by rw [hrg'.left_eq,hrg.left_eq];exact hlt) hgr hsz hen
 rw [List.mem_filter,decide_eq_true_iff,Bool.and_eq_true,hleft z hz]
 constructor
 ·rintro ⟨h1,h2⟩
  refine ⟨h1,fun e => ?_⟩
  subst e
  have hk:=bY.key (gM hz)
  rw [show (keyT z).sameKey (keyT z) = true from WideAt.sameKey_self hk] at h2
  cases h2
 rintro ⟨h1,h2⟩
 exact ⟨h1,by rw [sameKey_ne (fun e => h2 (nO e))];rfl⟩
end
theorem lV {H:Type} {P:Program} {k:TypeId} {R:Value → Option (DataW H × List MemPlace)} {w:World} {b n:Nat} {D:DataW H} (h:w.ownsMap P k R b n D):w.ownsMap P k R b (Maps.size D) D:=by
 obtain ⟨es,clock,hb,F,_,rfl⟩:=h
 exact ⟨es,clock,hb,F,by simp [Maps.size,length_sorted],rfl⟩
section
variable {α:Type} {enc:α → Value}
def bG (V:List (ByteArray × α)) (x:ByteArray):Option α:=(V.find? fun r => decide (r.1 = x)).map (·.2)
def delV (V:List (ByteArray × α)) (x:ByteArray):List (ByteArray × α):=V.filter fun r => decide (r.1 ≠ x)
def putV (V:List (ByteArray × α)) (x:ByteArray) (c:α):List (ByteArray × α):=delV V x ++ [(x,c)]
theorem EB (x:ByteArray):bG ([]:List (ByteArray × α)) x = none:=rfl
theorem dF (r:ByteArray × α) (V:List (ByteArray × α)) (x:ByteArray):bG (r :: V) x = if r.1 = x then some r.2 else bG V x:=by
 unfold bG
 rw [List.find?_cons]
 by_cases e:r.1 = x
 ·rw [if_pos e,decide_eq_true e];rfl
 rw [if_neg e,decide_eq_false e]
theorem sP {V:List (ByteArray × α)} {x:ByteArray}:(bG V x).isSome = true ↔ x ∈ V.map (·.1):=by
 induction V with
 | nil => simp [bG]
 | cons r V ih =>
  rw [dF,List.map_cons,List.mem_cons]
  by_cases e:r.1 = x
  ·simp [e]
  rw [if_neg e,ih]
  exact ⟨.inr,fun h => h.resolve_left fun h => e h.symm⟩
theorem ED {V:List (ByteArray × α)} {x:ByteArray} {c:α} (h:bG V x = some c):(x,c) ∈ V:=by
 induction V with
 | nil => cases h
 | cons r V ih =>
  rw [dF] at h
  by_cases e:r.1 = x
  ·rw [if_pos e] at h
   cases h;rw [← e];exact List.mem_cons_self ..
  rw [if_neg e] at h
  exact List.mem_cons_of_mem _ (ih h)
theorem o8 (V:List (ByteArray × α)) (x y:ByteArray):bG (delV V x) y = if y = x then none else bG V y:=by
 induction V with
 | nil => simp [delV,bG]
 | cons r V ih =>
  show bG (List.filter _ (r :: V)) y = _
  rw [List.filter_cons]
  by_cases e:r.1 = x
  ·rw [if_neg (by simp [e])]
   rw [show bG (List.filter _ V) y = bG (delV V x) y from rfl,ih,dF]
   by_cases e2:y = x
   ·rw [if_pos e2,if_pos e2]
   rw [if_neg e2,if_neg e2,if_neg fun h => e2 (h.symm.trans e)]
  rw [if_pos (by simp [e]),dF,dF]
  rw [show bG (List.filter _ V) y = bG (delV V x) y from rfl,ih]
  by_cases e2:r.1 = y
  ·rw [if_pos e2,if_pos e2,if_neg fun h => e (e2.trans h)]
  rw [if_neg e2,if_neg e2]
theorem Bj (V:List (ByteArray × α)) (r:ByteArray × α) (x:ByteArray):bG (V ++ [r]) x = match bG V x with | some c => some c | none => if r.1 = x then some r.2 else none:=by
 induction V with
 | nil => rw [List.nil_append,dF,EB]
 | cons q V ih =>
  rw [List.cons_append,dF,dF,ih]
  by_cases e:q.1 = x
  ·rw [if_pos e,if_pos e]
  rw [if_neg e,if_neg e]
theorem Ez (V:List (ByteArray × α)) (x:ByteArray) (c:α) (y:ByteArray):bG (putV V x c) y = if y = x then some c else bG V y:=by
 unfold putV
 rw [Bj,o8]
 by_cases e:y = x
 ·rw [if_pos e,if_pos e]
  dsimp only
  rw [if_pos e.symm]
 rw [if_neg e,if_neg e]
 cases bG V y with
 | none => dsimp only;rw [if_neg fun h => e h.symm]
 | some _ => rfl
theorem mM {V:List (ByteArray × α)} (h:(V.map (·.1)).Nodup) (x:ByteArray):((delV V x).map (·.1)).Nodup:=List.Nodup.sublist (List.Sublist.map _ List.filter_sublist) h
theorem IJ (V:List (ByteArray × α)) (x:ByteArray):x ∉ (delV V x).map (·.1):=fun h => by
 have:=sP.2 h
 rw [o8,if_pos rfl] at this;cases this
theorem jJ {V:List (ByteArray × α)} (h:(V.map (·.1)).Nodup) (x:ByteArray) (c:α):((putV V x c).map (·.1)).Nodup:=by
 unfold putV
 rw [List.map_append]
 refine List.nodup_append.2 ⟨mM h x,by simp,?_⟩
 intro a ha b hb
 simp at hb
 subst hb
 intro e;subst e
 exact IJ V a ha
theorem uj {V:List (ByteArray × α)} (h:(V.map (·.1)).Nodup) (x:ByteArray):(delV V x).length + (if (bG V x).isSome = true then 1 else 0) = V.length:=by
 induction V with
 | nil => simp [delV,bG]
 | cons r V ih =>
  rw [List.map_cons,List.nodup_cons] at h
  have ih:=ih h.2
  show (List.filter _ (r :: V)).length + _ = _
  rw [List.filter_cons,dF]
  by_cases e:r.1 = x
  ·rw [if_neg (by simp [e]),if_pos e,show (some r.2).isSome = true from rfl,if_pos rfl]
   have hno:(bG V x).isSome = false:=by
    cases hl:(bG V x).isSome with
    | false => rfl
    | true => exact absurd (sP.1 hl) (e ▸ h.1)
   rw [hno] at ih
   simp at ih
   rw [show (List.filter _ V).length = (delV V x).length from rfl,List.length_cons];omega
  rw [if_pos (by simp [e]),if_neg e,List.length_cons,List.length_cons,show (List.filter _ V).length = (delV V x).length from rfl];omega
theorem ze {V:List (ByteArray × α)} (h:(V.map (·.1)).Nodup) (x:ByteArray) (c:α):(putV V x c).length = if (bG V x).isSome = true then V.length else V.length + 1:=by
 have:=uj h x
 unfold putV
 rw [List.length_append,List.length_singleton]
 split <;> simp_all
structure MapZ (enc:α → Value) (w:World) (b:Nat) (V:List (ByteArray × α)):Prop where
 nodup:(V.map (·.1)).Nodup
 len:∀ r ∈ V,r.1.size ≤ maxLen
 map:∃ D:DataW Value,w.ownsMap prog 9 cZ b V.length D ∧ uI enc D (bG V) ∧ Maps.size D = V.length
theorem MapZ.mapT {w:World} {b:Nat} {V:List (ByteArray × α)} (h:MapZ enc w b V):MapT enc w b V.length (bG V):=by obtain ⟨D,h1,h2,_⟩:=h.map;exact ⟨D,h1,h2⟩
theorem MapZ.lt {w:World} {b:Nat} {V:List (ByteArray × α)} (h:MapZ enc w b V):b < w.heap.size:=h.mapT.lt
theorem MapZ.heap {w w':World} {b:Nat} {V:List (ByteArray × α)} (h:MapZ enc w b V) (hb:w'.heap[b]? = w.heap[b]?):MapZ enc w' b V:=by
 obtain ⟨D,⟨es,clock,h1,h2⟩,h3⟩:=h.map
 exact ⟨h.nodup,h.len,D,⟨es,clock,hb.trans h1,h2⟩,h3⟩
theorem MapZ.on {w w':World} {b:Nat} {V:List (ByteArray × α)} (h:MapZ enc w b V) (hb:Below w.heap.size w w'):MapZ enc w' b V:=h.heap (hb.block b h.lt)
theorem MapZ.grown {w w':World} {b:Nat} {V:List (ByteArray × α)} {row:Option Nat} (h:MapZ enc w b V) (hg:w.grownBy w' row) (hne:some b ≠ row):MapZ enc w' b V:=h.heap (hg.block b h.lt hne)
theorem Er (w:World):MapZ enc (w.alloc (.map #[] 0)) w.heap.size [] :=
 ⟨List.nodup_nil,fun _ h => (by cases h),⟨DataW.map [],World.ownsMap_made _ _ _ _,fun _ _ => ⟨rfl,fun _ h => (by cases h)⟩,rfl⟩⟩
theorem MapZ.look {w:World} {t e:TypeId} (ht:prog.underlying t = some (.map 9 e)) {z:Value} (hz:(zeroValue e).run prog w = .ok z w) {b:Nat} {V:List (ByteArray × α)} (h:MapZ enc w b V) {x:ByteArray} (hx:x.size ≤ maxLen) :
  (Instr.lookup t (.map (some b)) (.string x) false).run prog w = .ok (((bG V x).map enc).getD z) w:=h.mapT.look ht hz hx
theorem MapZ.CJ {w:World} {t e:TypeId} (ht:prog.underlying t = some (.map 9 e)) {b:Nat} {V:List (ByteArray × α)} (h:MapZ enc w b V) (ty:TypeId):(Builtin.len_ #[t] ty #[.map (some b)]).run prog w = .ok (.int .i64 (V.length:Int)) w:=by
 obtain ⟨D,h1,_,h3⟩:=h.map
 rw [h1.len ht ty,h3]
theorem qC {w:World} {ops:Array Oper} {rest:List Oper} {o:Oper} {a:Act} {Q:Exit → Act → World → Prop} (hg:o.guard = none) (m x v:Operand) (t e:TypeId) (hop:o.op = Op.mapUpdate t m x v)
  (ht:prog.underlying t = some (.map 9 e)) (b:Nat) (V:List (ByteArray × α)) (hm:a.eval m = .map (some b)) (hown:MapZ enc w b V) (p:ByteArray) (hp:p.size ≤ maxLen) (c:α) (hx:a.eval x = .string p) (hv:a.eval v = enc c) (hn:V.length < maxLen)
  (hK:∀ w',MapZ enc w' b (putV V p c) → w.grownBy w' (some b) → wpList prog ops Q rest (a.put o.dst undef) w'):wpList prog ops Q (o :: rest) a w:=by
 have hnd:=hown.nodup
 have hlen:=hown.len
 obtain ⟨D,hown,hD,hsz⟩:=hown.map
 refine wpList_mapUpdate_own w hg m x v t hop 9 e bY ht cZ b V.length D hm hown hn (.string p) (enc c) (keyT p) hx hv (gM hp) _ [] rfl fun w' h1 h2 => hK w' ⟨jJ hnd p c,fun r hr => ?_,?_⟩ h2
 ·unfold putV at hr
  rcases List.mem_append.1 hr with h | h
  ·exact hlen r (List.mem_filter.1 h).1
  simp at h;subst h;exact hp
 have hs:Maps.size (D.put (keyT p) (.held (enc c))) = (putV V p c).length:=by
  rw [size_put (hown.tidy bY),ze hnd,(hD p hp).1,hsz]
 have h3:=lV h1
 rw [hs] at h3
 refine ⟨_,h3,?_,hs⟩
 have h4:=oU hD hown.isMap p hp c
 intro y hy
 rw [Ez]
 exact h4 y hy
theorem qE {w:World} {ops:Array Oper} {rest:List Oper} {o:Oper} {a:Act} {Q:Exit → Act → World → Prop} (hg:o.guard = none) (m x:Operand) (t e:TypeId) (hop:o.op = Op.call { callee:=Callee.builtin Builtin.delete,args:=#[m,x],argTypes:=#[t,9] })
  (ht:prog.underlying t = some (.map 9 e)) (b:Nat) (V:List (ByteArray × α)) (hm:a.eval m = .map (some b)) (hown:MapZ enc w b V) (p:ByteArray) (hp:p.size ≤ maxLen) (hx:a.eval x = .string p)
  (hK:∀ w',MapZ enc w' b (delV V p) → w.grownBy w' (some b) → wpList prog ops Q rest (a.put o.dst (.tuple #[])) w'):wpList prog ops Q (o :: rest) a w:=by
 have hnd:=hown.nodup
 have hlen:=hown.len
 obtain ⟨D,hown,hD,hsz⟩:=hown.map
 refine wpList_delete_own w hg m x t 9 hop e bY ht cZ b V.length D hm hown (.string p) (keyT p) hx (gM hp) fun w' h1 h2 => hK w' ⟨mM hnd p,fun r hr => hlen r (List.mem_filter.1 hr).1,?_⟩ h2.grown
 have hs:Maps.size (D.del (keyT p)) = (delV V p).length:=by
  have h3:=size_del (k:=keyT p) (hown.tidy bY)
  have h4:=uj hnd p
  rw [(hD p hp).1,hsz] at h3
  omega
 have h3:=lV h1
 rw [hs] at h3
 refine ⟨_,h3,fun y hy => ?_,hs⟩
 rw [o8]
 by_cases e2:y = p
 ·subst e2
  rw [if_pos rfl]
  exact ⟨has_del_same,fun _ h => by cases h⟩
 have hne:keyT y ≠ keyT p:=fun h => e2 (nO h)
 rw [if_neg e2]
 exact ⟨by rw [has_del_other hne];exact (hD y hy).1,fun o ho zd => by rw [atKey_del_other hne];exact (hD y hy).2 o ho zd⟩
end
end
section
open Go.RowKit
abbrev Rf:=ByteArray × List UInt8
def setR (V:List Rf) (r:Rf):List Rf:=if r.2 = zid then delV (putV V r.1 r.2) r.1 else putV V r.1 r.2
def tabB (V:List Rf) (r:Rf):Bool:=aQ r.1 && decide (r.2 ≠ zid) && (match V.getLast? with | none => true | some q => ltB q.1.data.toList r.1.data.toList) && decide ((setR V r).length ≤ 16)
def logB (V:List Rf) (r:Rf):Bool:=aQ r.1 && decide ((setR V r).length ≤ 16)
def tabV:List Rf → List Rf → Option (List Rf)
 | V,[] => some V
 | V,r :: t => if tabB V r = true then tabV (setR V r) t else none
def logV:List Rf → List Rf → Option (List Rf)
 | V,[] => some V
 | V,r :: t => if logB V r = true then logV (setR V r) t else none
def dx (t l:List Rf):Option (List Rf):=(tabV [] t).bind fun V => logV V l
def aR (t l:List Rf):Bool:=(dx t l).isSome && decide (l.length ≤ 100)
theorem AP {V:List Rf} (h:(V.map (·.1)).Nodup) (r:Rf):((setR V r).map (·.1)).Nodup:=by
 unfold setR
 split
 ·exact mM (jJ h _ _) _
 exact jJ h _ _
theorem wU:∀ {t V W:List Rf},(V.map (·.1)).Pairwise (fun x y => ltB x.data.toList y.data.toList = true) → tabV V t = some W → W = V ++ t ∧ (W.map (·.1)).Pairwise (fun x y => ltB x.data.toList y.data.toList = true)
 | [],V,W,hp,h => by
  unfold tabV at h
  cases h
  exact ⟨by simp,hp⟩
 | r :: t,V,W,hp,h => by
  unfold tabV at h
  split at h
  ·rename_i hb
   unfold tabB at hb
   simp only [Bool.and_eq_true,decide_eq_true_eq] at hb
   obtain ⟨⟨⟨_,hz⟩,hl⟩,_⟩:=hb
   have hlt:∀ x ∈ V.map (·.1),ltB x.data.toList r.1.data.toList = true:=by
    intro x hx
    cases hg:V.getLast? with
    | none => rw [List.getLast?_eq_none_iff.1 hg] at hx;cases hx
    | some q =>
     rw [hg] at hl
     dsimp only at hl
     obtain ⟨U,hU⟩:=List.getLast?_eq_some_iff.1 hg
     rw [hU,List.map_append,List.mem_append] at hx
     rcases hx with hx | hx
     ·rw [hU,List.map_append] at hp
      exact iA ((List.pairwise_append.1 hp).2.2 x hx q.1 (by simp)) hl
     simp at hx;rw [hx];exact hl
   have hno:r.1 ∉ V.map (·.1):=fun hm => by
    have:=hlt _ hm
    rw [dS] at this;cases this
   have hs:setR V r = V ++ [r]:=by
    unfold setR
    rw [if_neg hz]
    unfold putV delV
    have hf:(V.filter fun q => decide (q.1 ≠ r.1)) = V:=List.filter_eq_self.2 fun q hq => decide_eq_true (fun (e:q.1 = r.1) => hno (by rw [← e];exact List.mem_map.2 ⟨q,hq,rfl⟩))
    rw [hf]
   rw [hs] at h
   have h2:=wU (t:=t) (by
    rw [List.map_append]
    refine List.pairwise_append.2 ⟨hp,by simp,fun x hx y hy => ?_⟩
    simp at hy;rw [hy];exact hlt x hx) h
   exact ⟨by rw [h2.1];simp,h2.2⟩
  cases h
theorem nA:∀ (a b V:List Rf),tabV V (a ++ b) = (tabV V a).bind fun W => tabV W b
 | [],b,V => by rw [List.nil_append];rfl
 | r :: a,b,V => by
  rw [List.cons_append,show tabV V (r :: (a ++ b)) = if tabB V r = true then tabV (setR V r) (a ++ b) else none from rfl,show tabV V (r :: a) = if tabB V r = true then tabV (setR V r) a else none from rfl]
  split
  ·rw [nA]
  rfl
theorem kK:∀ (a b V:List Rf),logV V (a ++ b) = (logV V a).bind fun W => logV W b
 | [],b,V => by rw [List.nil_append];rfl
 | r :: a,b,V => by
  rw [List.cons_append,show logV V (r :: (a ++ b)) = if logB V r = true then logV (setR V r) (a ++ b) else none from rfl,show logV V (r :: a) = if logB V r = true then logV (setR V r) a else none from rfl]
  split
  ·rw [kK]
  rfl
theorem yH (V:List Rf) (r:Rf):tabV V [r] = if tabB V r = true then some (setR V r) else none:=by
 unfold tabV
 split <;> rfl
theorem zA (V:List Rf) (r:Rf):logV V [r] = if logB V r = true then some (setR V r) else none:=by
 unfold logV
 split <;> rfl
theorem Gb {t:List Rf} {k:Nat} (hk:k < t.length) (h:tabV [] (t.take k) = some (t.take k)) (hb:tabB (t.take k) t[k] = true):tabV [] (t.take (k + 1)) = some (t.take (k + 1)) ∧ setR (t.take k) t[k] = t.take (k + 1):=by
 have h1:tabV [] (t.take (k + 1)) = some (setR (t.take k) t[k]):=by
  rw [List.take_succ_eq_append_getElem hk,nA,h]
  show tabV (t.take k) [t[k]] = _
  rw [yH,if_pos hb]
 have h2:=(wU (by simp) h1).1
 rw [List.nil_append] at h2
 exact ⟨by rw [h1,h2],h2⟩
theorem Jm {t:List Rf} {k:Nat} (hk:k < t.length) (h:tabV [] (t.take k) = some (t.take k)) (hb:tabB (t.take k) t[k] = false) (l:List Rf):dx t l = none:=by
 have h1:tabV [] t = none:=by
  have e:t = t.take k ++ ([t[k]] ++ t.drop (k + 1)):=by
   rw [← List.append_assoc,← List.take_succ_eq_append_getElem hk,List.take_append_drop]
  rw [e,nA,h]
  show tabV (t.take k) ([t[k]] ++ t.drop (k + 1)) = none
  rw [nA,yH,hb];rfl
 unfold dx
 rw [h1];rfl
theorem Jl {t:List Rf} (h:tabV [] (t.take t.length) = some (t.take t.length)) (l:List Rf):dx t l = logV t l:=by
 rw [List.take_length] at h
 unfold dx
 rw [h];rfl
theorem GY {t l V:List Rf} {k:Nat} (hk:k < l.length) (h:logV t (l.take k) = some V) (hb:logB V l[k] = true):logV t (l.take (k + 1)) = some (setR V l[k]):=by
 rw [List.take_succ_eq_append_getElem hk,kK,h]
 show logV V [l[k]] = _
 rw [zA,if_pos hb]
theorem JC {t l V:List Rf} {k:Nat} (hk:k < l.length) (h:logV t (l.take k) = some V) (hb:logB V l[k] = false):logV t l = none:=by
 have e:l = l.take k ++ ([l[k]] ++ l.drop (k + 1)):=by
  rw [← List.append_assoc,← List.take_succ_eq_append_getElem hk,List.take_append_drop]
 rw [e,kK,h]
 show logV V ([l[k]] ++ l.drop (k + 1)) = none
 rw [kK,zA,hb];rfl
theorem EK {t:List Rf} {k:Nat} (hk:k < t.length):(t.take (k + 1)).getLast? = some t[k]:=by
 rw [List.take_succ_eq_append_getElem hk,List.getLast?_append];simp
structure OkV (V:List Rf):Prop where
 ok:∀ r ∈ V,aQ r.1 = true ∧ r.2 ≠ zid
 nd:(V.map (·.1)).Nodup
 len:V.length ≤ 16
theorem Cv {V:List Rf} {r:Rf} (h:OkV V) (hn:aQ r.1 = true) (hl:(setR V r).length ≤ 16):OkV (setR V r):=by
 refine ⟨fun x hx => ?_,AP h.nd r,hl⟩
 unfold setR at hx
 split at hx
 ·rename_i hz
  have h1:=(List.mem_filter.1 hx).1
  have h2:=of_decide_eq_true (List.mem_filter.1 hx).2
  unfold putV at h1
  rcases List.mem_append.1 h1 with h1 | h1
  ·exact h.ok x (List.mem_filter.1 h1).1
  simp at h1;subst h1;exact absurd rfl h2
 rename_i hz
 unfold putV at hx
 rcases List.mem_append.1 hx with h1 | h1
 ·exact h.ok x (List.mem_filter.1 h1).1
 simp at h1;subst h1;exact ⟨hn,hz⟩
theorem Cu:∀ {t V W:List Rf},OkV V → tabV V t = some W → OkV W
 | [],V,W,h,e => by unfold tabV at e;cases e;exact h
 | r :: t,V,W,h,e => by
  unfold tabV at e
  split at e
  ·rename_i hb
   unfold tabB at hb
   simp only [Bool.and_eq_true,decide_eq_true_eq] at hb
   exact Cu (Cv h hb.1.1.1 hb.2) e
  cases e
theorem Cw:∀ {t V W:List Rf},OkV V → logV V t = some W → OkV W
 | [],V,W,h,e => by unfold logV at e;cases e;exact h
 | r :: t,V,W,h,e => by
  unfold logV at e
  split at e
  ·rename_i hb
   unfold logB at hb
   simp only [Bool.and_eq_true,decide_eq_true_eq] at hb
   exact Cw (Cv h hb.1 hb.2) e
  cases e
theorem JA:OkV []:=⟨fun _ h => (by cases h),by simp,by simp⟩
theorem GD {t l V:List Rf} (h:dx t l = some V):OkV V:=by
 unfold dx at h
 cases ht:tabV [] t with
 | none => rw [ht] at h;cases h
 | some W => rw [ht] at h;exact Cw (Cu JA ht) h
def txtB (s:List UInt8):List UInt8:=numB s.length ++ s
def recB (s:List UInt8):List UInt8:=txtB (dN s)
def refB (r:Rf):List UInt8:=txtB r.1.data.toList ++ r.2
def entB (r:Rf):List UInt8:=recB (69 :: refB r)
def nR (t:List Rf):List UInt8:=recB (72 :: (numB t.length ++ (t.map refB).flatten))
def kT (t l:List Rf):List UInt8:=nR t ++ (l.map entB).flatten
theorem lC:∀ n:Nat,n < 2 ^ 42 → (numB n).length ≤ 6:=fun n h => by
 rw [numB]
 split
 ·simp
 rw [numB]
 split
 ·simp
 rw [numB]
 split
 ·simp
 rw [numB]
 split
 ·simp
 rw [numB]
 split
 ·simp
 rw [numB]
 split
 ·simp
 exfalso;omega
theorem wT {s:List UInt8} (h:s.length < 2 ^ 42):(txtB s).length ≤ s.length + 6:=by
 unfold txtB
 have:=lC _ h
 rw [List.length_append];omega
theorem qL {r:Rf} (h1:r.1.size ≤ 32) (h2:r.2.length = 32):(refB r).length ≤ 70:=by
 unfold refB
 have h3:r.1.data.toList.length = r.1.size:=Array.length_toList
 have:=wT (s:=r.1.data.toList) (by rw [h3];omega)
 rw [List.length_append];omega
theorem xk {s:List UInt8} (h:s.length < 1000000):(recB s).length ≤ s.length + 10:=by
 unfold recB
 have h1:=jr s
 have:=wT (s:=dN s) (by omega)
 omega
theorem qQ {r:Rf} (h1:r.1.size ≤ 32) (h2:r.2.length = 32):(entB r).length ≤ 81:=by
 unfold entB
 have h3:=qL h1 h2
 have:=xk (s:=69 :: refB r) (by rw [List.length_cons];omega)
 rw [List.length_cons] at this;omega
theorem lK {α:Type} {f:α → List UInt8} {n:Nat}:∀ {l:List α},(∀ x ∈ l,(f x).length ≤ n) → (l.map f).flatten.length ≤ l.length * n
 | [],_ => by simp
 | x :: l,h => by
  have h1:=h x (List.mem_cons_self ..)
  have h2:=lK (l:=l) fun y hy => h y (List.mem_cons_of_mem _ hy)
  rw [List.map_cons,List.flatten_cons,List.length_append,List.length_cons,Nat.succ_mul];omega
theorem Ij {t:List Rf} (h:∀ r ∈ t,r.1.size ≤ 32 ∧ r.2.length = 32) (hl:t.length ≤ 1000):(nR t).length ≤ t.length * 70 + 17:=by
 unfold nR
 have h1:=lK (f:=refB) (n:=70) (l:=t) fun r hr => qL (h r hr).1 (h r hr).2
 have h2:=lC t.length (by omega)
 have:=xk (s:=72 :: (numB t.length ++ (t.map refB).flatten)) (by rw [List.length_cons,List.length_append];omega)
 rw [List.length_cons,List.length_append] at this;omega
def dL (r:Rd) (c:UInt8):Option Rd:=if unOk (r.text 65536).2 = true ∧ (unS (r.text 65536).2).data.toList.head? = some c ∧ (r.text 65536).1.err = 0 then some (rd0 (ofB ((unS (r.text 65536).2).data.toList.drop 1))) else none
def gT (x:Rd):Rd × Rf:=((x.text 32).1.id.1,((x.text 32).2,(x.text 32).1.id.2))
def oA:Ob:=⟨1,⟨#[97,98]⟩⟩
def xA:List UInt8:=[37,89,112,78,157,24,30,41,135,218,236,66,99,26,230,225,191,17,132,78,229,68,237,162,39,4,1,21,118,116,222,175]
def mnN:ByteArray:=⟨#[109,97,105,110]⟩
theorem KL:shaL (dh oA) = xA:=by decide +kernel
theorem idA:idO oA = xA:=by
 unfold idO
 rw [← Jp,aX]
 exact KL
theorem Ak:xA.length = 32:=rfl
def rA:Rf:=(mnN,xA)
def bk0:ByteArray:=ofB (kT [] [])
def bk1:ByteArray:=ofB (kT [] [rA])
theorem ok_0:aR [] [] = true:=by decide +kernel
theorem ok_1:aR [] [rA] = true:=by decide +kernel
theorem nm_A:aQ mnN = true:=by decide +kernel
def rdP (r:Rd):ByteArray × Nat × Nat:=(r.s,r.pos,r.err)
theorem Gs {o:Option Rd} {a:ByteArray} {b c:Nat} (h:o.map rdP = some (a,b,c)):o = some ⟨a,b,c⟩:=by
 cases o with
 | none => cases h
 | some x =>
  cases x
  injection h with h
  unfold rdP at h
  injection h with h1 h2
  injection h2 with h2 h3
  subst h1 h2 h3
  rfl
theorem un_0:dL (rd0 bk0) 72 = some (rd0 ⟨#[0]⟩):=Gs (by decide +kernel)
theorem un_1:dL (rd0 bk1) 72 = some (rd0 ⟨#[0]⟩):=Gs (by decide +kernel)
theorem wS:((rd0 ⟨#[0]⟩).num 16).2 = 0 ∧ ((rd0 ⟨#[0]⟩).num 16).1.fin = 0:=by decide +kernel
theorem LH:dL ((rd0 bk0).text 65536).1 69 = none:=by
 have h:(dL ((rd0 bk0).text 65536).1 69).map rdP = none:=by decide +kernel
 cases hx:dL ((rd0 bk0).text 65536).1 69 with
 | none => rfl
 | some x => rw [hx] at h;cases h
theorem LG:dL ((rd0 bk1).text 65536).1 69 = some (rd0 (ofB (refB rA))):=Gs (by decide +kernel)
theorem LD:dL (((rd0 bk1).text 65536).1.text 65536).1 69 = none:=by
 have h:(dL (((rd0 bk1).text 65536).1.text 65536).1 69).map rdP = none:=by decide +kernel
 cases hx:dL (((rd0 bk1).text 65536).1.text 65536).1 69 with
 | none => rfl
 | some x => rw [hx] at h;cases h
theorem on_1:(gT (rd0 (ofB (refB rA)))).1.fin = 0 ∧ (gT (rd0 (ofB (refB rA)))).2 = rA:=by decide +kernel
theorem GA:(gT (rd0 (ofB (refB rA)))).1.pos ≤ (gT (rd0 (ofB (refB rA)))).1.s.size ∧ (gT (rd0 (ofB (refB rA)))).1.s.size ≤ 1000000 ∧ (gT (rd0 (ofB (refB rA)))).1.err ≤ 100:=by decide +kernel
theorem sz_0:bk0.size = 7 ∧ ((rd0 bk0).text 65536).1.pos = bk0.size:=by decide +kernel
theorem sz_1:bk1.size ≤ 200 ∧ (((rd0 bk1).text 65536).1.text 65536).1.pos = bk1.size:=by decide +kernel
theorem sz_r:(ofB (refB rA)).size ≤ 1000000:=by decide +kernel
end
end Go.Proofs.YtlhcoanbhnphgaaGreatDoor
