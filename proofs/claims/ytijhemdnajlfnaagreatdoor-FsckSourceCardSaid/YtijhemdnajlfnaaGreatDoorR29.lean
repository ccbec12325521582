/- A part of this claim. -/
import Derived.Sort.MapsRangeIn
import Derived.Test.YtijhemdnajlfnaaGreatDoorR11
import Derived.Test.YtijhemdnajlfnaaGreatDoorR20
namespace Go.Proofs.YtijhemdnajlfnaaGreatDoor
open Tryz
set_option maxHeartbeats 64000000
set_option maxRecDepth 100000
section
open Go.RowKit Go.Maps Go.WideMaps
def keyT (x:ByteArray):Lit:=.string x.data.toList
theorem nG {x:ByteArray} (hx:x.size ≤ maxLen):keyOf prog 9 (.string x) = some (keyT x):=keyOf_string_mk underlying9 hx
theorem C9 {x y:ByteArray} (h:keyT x = keyT y):x = y:=Nc (by unfold keyT at h;injection h)
theorem mM {v:Value} {kl:Lit} (h:keyOf prog 9 v = some kl):∃ x:ByteArray,x.size ≤ maxLen ∧ v = .string x:=by
 obtain ⟨s,rfl⟩:=Maps.keyOf_string_inv underlying9 h
 refine ⟨s,?_,rfl⟩
 have h0:=h
 rw [keyOf_string underlying9] at h0
 simp only [mapKey,underlying9] at h0
 by_cases hs:s.size ≤ maxLen
 ·exact hs
 rw [if_neg hs] at h0;cases h0
section
variable {α:Type} {enc:α → Value}
def zU (enc:α → Value) (D:DataW Value) (f:ByteArray → Option α):Prop :=
 ∀ x,x.size ≤ maxLen → Maps.has D (keyT x) = (f x).isSome ∧ ∀ o,f x = some o → ∀ zd,D.atKey (keyT x) zd = .held (enc o)
def MapT (enc:α → Value) (w:World) (b n:Nat) (f:ByteArray → Option α):Prop:=∃ D:DataW Value,w.ownsMap prog 9 je b n D ∧ zU enc D f
theorem uD:zU enc (.map []) fun _ => none:=fun _ _ => ⟨rfl,fun _ h => by cases h⟩
theorem Iw {D:DataW Value} {f:ByteArray → Option α} (h:zU enc D f) (hm:IsMap D) (p:ByteArray) (hp:p.size ≤ maxLen) (o:α):zU enc (D.put (keyT p) (.held (enc o))) fun q => if q = p then some o else f q:=by
 intro q hq
 show has _ _ = (if q = p then some o else f q).isSome ∧ ∀ t,(if q = p then some o else f q) = some t → ∀ zd,_ = _
 have hk:=jB.key (nG hp)
 by_cases e:q = p
 ·subst e
  rw [if_pos rfl]
  exact ⟨by rw [has_put_same hm hk];rfl,fun t ht zd => by cases ht;exact atKey_put_same hm hk _ _⟩
 rw [if_neg e]
 have hne:keyT q ≠ keyT p:=fun h => e (C9 h)
 exact ⟨by rw [has_put_other hne];exact (h q hq).1,fun t ht zd => by rw [atKey_put_other hne];exact (h q hq).2 t ht zd⟩
theorem MapT.lt {w:World} {b n:Nat} {f:ByteArray → Option α} (h:MapT enc w b n f):b < w.heap.size:=by obtain ⟨D,h,_⟩:=h;exact h.lt
theorem MapT.heap {w w':World} {b n:Nat} {f:ByteArray → Option α} (h:MapT enc w b n f) (hb:w'.heap[b]? = w.heap[b]?):MapT enc w' b n f:=by
 obtain ⟨D,⟨es,clock,h1,h2⟩,h3⟩:=h
 exact ⟨D,⟨es,clock,hb.trans h1,h2⟩,h3⟩
theorem MapT.below {w w':World} {b n B:Nat} {f:ByteArray → Option α} (h:MapT enc w b n f) (hb:Below B w w') (hB:b < B):MapT enc w' b n f:=h.heap (hb.block b hB)
theorem MapT.on {w w':World} {b n:Nat} {f:ByteArray → Option α} (h:MapT enc w b n f) (hb:Below w.heap.size w w'):MapT enc w' b n f:=h.below hb h.lt
theorem MapT.grown {w w':World} {b n:Nat} {f:ByteArray → Option α} {row:Option Nat} (h:MapT enc w b n f) (hg:w.grownBy w' row) (hne:some b ≠ row):MapT enc w' b n f:=h.heap (hg.block b h.lt hne)
theorem nE (w:World):MapT enc (w.alloc (.map #[] 0)) w.heap.size 0 fun _ => none:=⟨_,World.ownsMap_made _ _ _ _,uD⟩
theorem MapT.ext {w:World} {b n:Nat} {f g:ByteArray → Option α} (h:MapT enc w b n f) (hfg:∀ x,x.size ≤ maxLen → f x = g x):MapT enc w b n g:=by
 obtain ⟨D,h1,h2⟩:=h
 exact ⟨D,h1,fun x hx => by rw [← hfg x hx];exact h2 x hx⟩
theorem MapT.look {w:World} {t e:TypeId} (ht:prog.underlying t = some (.map 9 e)) {z:Value} (hz:(zeroValue e).run prog w = .ok z w) {b n:Nat} {f:ByteArray → Option α} (h:MapT enc w b n f) {x:ByteArray} (hx:x.size ≤ maxLen) :
  (Instr.lookup t (.map (some b)) (.string x) false).run prog w = .ok (((f x).map enc).getD z) w:=by
 obtain ⟨D,hown,hs⟩:=h
 obtain ⟨v,ps,hrun,hv⟩:=hown.lookup jB ht hz (zd:=.held z) (zp:=[]) rfl (nG hx)
 rw [hrun]
 obtain ⟨h1,h2⟩:=hs x hx
 have hv2:D.atKey (keyT x) (.held z) = .held v:=by
  unfold je at hv
  injection hv with hv
  exact (congrArg Prod.fst hv).symm
 cases e:f x with
 | none =>
  rw [e] at h1
  rw [atKey_of_not_has h1] at hv2
  injection hv2 with h
  rw [← h];rfl
 | some o =>
  rw [h2 o e] at hv2
  injection hv2 with h
  rw [← h];rfl
structure RangeT (enc:α → Value) (w:World) (b r n:Nat) (f:ByteArray → Option α) (L:List ByteArray):Prop where
 run:∃ (D:DataW Value) (left:Lit → Bool) (cnt:Nat),w.ranges prog 9 je b r n D left cnt ∧ zU enc D f ∧ ∀ x,x.size ≤ maxLen → (left (keyT x) = true ↔ x ∈ L)
 nodup:L.Nodup
 len:∀ x ∈ L,x.size ≤ maxLen
 there:∀ x ∈ L,(f x).isSome = true
theorem RangeT.map {w:World} {b r n:Nat} {f:ByteArray → Option α} {L:List ByteArray} (h:RangeT enc w b r n f L):MapT enc w b n f:=by
 obtain ⟨D,left,cnt,h1,h2,_⟩:=h.run
 exact ⟨D,h1.owns,h2⟩
theorem RangeT.lt {w:World} {b r n:Nat} {f:ByteArray → Option α} {L:List ByteArray} (h:RangeT enc w b r n f L):r < w.heap.size:=by
 obtain ⟨D,left,cnt,h1,_⟩:=h.run;exact h1.lt
theorem RangeT.heap {w w':World} {b r n:Nat} {f:ByteArray → Option α} {L:List ByteArray} (h:RangeT enc w b r n f L) (hb:w'.heap[b]? = w.heap[b]?) (hr:w'.heap[r]? = w.heap[r]?):RangeT enc w' b r n f L:=by
 obtain ⟨⟨D,left,cnt,⟨es,clock,since,seen,c0,h1,F,hs,hD,h2,rest⟩,h3,h4⟩,k1,k2,k3⟩:=h
 exact ⟨⟨D,left,cnt,⟨es,clock,since,seen,c0,hb.trans h1,F,hs,hD,hr.trans h2,rest⟩,h3,h4⟩,k1,k2,k3⟩
theorem RangeT.on {w w':World} {b r n:Nat} {f:ByteArray → Option α} {L:List ByteArray} (h:RangeT enc w b r n f L) (hb:Below w.heap.size w w'):RangeT enc w' b r n f L:=h.heap (hb.block b h.map.lt) (hb.block r h.lt)
theorem RangeT.grown {w w':World} {b r n:Nat} {f:ByteArray → Option α} {L:List ByteArray} {row:Option Nat} (h:RangeT enc w b r n f L) (hg:w.grownBy w' row) (hb:some b ≠ row) (hr:some r ≠ row):RangeT enc w' b r n f L:=h.heap (hg.block b h.map.lt hb) (hg.block r h.lt hr)
theorem lU {w w':World} {b r:Nat} (hb:w'.heap[b]? = w.heap[b]?) (hr:w'.heap[r]? = w.heap[r]?):w'.rangeLeft b r = w.rangeLeft b r:=by unfold World.rangeLeft;rw [hb,hr]
theorem l6 {w:World} {ops:Array Oper} {rest:List Oper} {o:Oper} {a:Act} {Q:Exit → Act → World → Prop} (hg:o.guard = none) (m:Operand) (t e:TypeId) (hop:o.op = Op.range t m) (ht:prog.underlying t = some (.map 9 e))
  (b n:Nat) (f:ByteArray → Option α) (L:List ByteArray) (hm:a.eval m = .map (some b)) (hown:MapT enc w b n f) (hn:L.Nodup) (hl:∀ x ∈ L,x.size ≤ maxLen) (hL:∀ x,x.size ≤ maxLen → ((f x).isSome = true ↔ x ∈ L))
  (hK:∀ w',RangeT enc w' b w.heap.size n f L → w.grownBy w' none → w'.heap.size = w.heap.size + 1 → wpList prog ops Q rest (a.put o.dst (.pointer (some ⟨w.heap.size,0,none⟩))) w') :
  wpList prog ops Q (o :: rest) a w:=by
 obtain ⟨D,hown,hD⟩:=hown
 exact wpList_range_own w hg m t hop 9 e jB ht je b n D hm hown fun w' h1 h2 h3 => hK w' ⟨⟨D,_,_,h1,hD,fun x hx => by rw [(hD x hx).1];exact hL x hx⟩,hn,hl,fun x hx => (hL x (hl x hx)).2 hx⟩ h2 h3
theorem nN {w:World} {ops:Array Oper} {rest:List Oper} {o:Oper} {a:Act} {Q:Exit → Act → World → Prop} (hg:o.guard = none) (it:Operand) (hop:o.op = Op.next it false) (b r n:Nat) (f:ByteArray → Option α) (L:List ByteArray)
  (hit:a.eval it = .pointer (some ⟨r,0,none⟩)) (h:RangeT enc w b r n f L)
  (hDone:L = [] → wpList prog ops Q rest (a.put o.dst (.tuple #[.bool false])) w)
  (hMore:∀ (x:ByteArray) (c:α) (w':World),x ∈ L → x.size ≤ maxLen → f x = some c → RangeT enc w' b r n f (L.filter fun y => decide (y ≠ x)) → w'.rangeLeft b r < w.rangeLeft b r → w.grownBy w' (some r) → w'.heap.size = w.heap.size →
   (Instr.entry (.pointer (some ⟨r,0,none⟩))).run prog w' = .ok (.tuple #[.string x,enc c]) w' → wpList prog ops Q rest (a.put o.dst (.tuple #[.bool true,.string x,enc c])) w') :
  wpList prog ops Q (o :: rest) a w:=by
 obtain ⟨⟨D,left,cnt,hrg,hD,hleft⟩,hn,hlen,hthere⟩:=h
 refine wpList_next_ranges (α:={ x:ByteArray // x.size ≤ maxLen }) (β:=Value) w hg it hop 9 jB je (fun x => .string x.1) id (fun key kl hk => by
  obtain ⟨x,hx,e⟩:=mM hk
  exact ⟨⟨x,hx⟩,e⟩) (fun v _ _ => ⟨v,rfl⟩) b r n D left cnt hit hrg ?_ ?_
 ·intro _ hl
  refine hDone (List.eq_nil_iff_forall_not_mem.2 fun x hx => ?_)
  have h1:=(hleft x (hlen x hx)).2 hx
  rw [hl] at h1;cases h1
 rintro ⟨x,hx⟩ c kl y w' cnt' hkey hlk hv hat hrg' hlt hgr hsz hen
 dsimp only at hkey hen ⊢
 obtain rfl:keyT x = kl:=Option.some.inj ((nG hx).symm.trans hkey)
 have hxL:=(hleft x hx).1 hlk
 obtain ⟨o,ho⟩:=Option.isSome_iff_exists.1 (hthere x hxL)
 have hc:c = enc o:=by
  have h1:=hat (.held (.bool false))
  rw [(hD x hx).2 o ho] at h1
  unfold je at hv
  injection hv with hv
  rw [← hv] at h1
  exact (DataW.held.inj h1).symm
 subst hc
 refine hMore x o w' hxL hx ho ⟨⟨D,_,cnt',hrg',hD,fun z hz => ?_⟩,hn.filter _,fun z hz => hlen z ((List.mem_filter.1 hz).1),fun z hz => hthere z ((List.mem_filter.1 hz).1)⟩ (by rw [hrg'.left_eq,hrg.left_eq];exact hlt) hgr hsz hen
 rw [List.mem_filter,decide_eq_true_iff,Bool.and_eq_true,hleft z hz]
 constructor
 ·rintro ⟨h1,h2⟩
  refine ⟨h1,fun e => ?_⟩
  subst e
  have hk:=jB.key (nG hz)
  rw [show (keyT z).sameKey (keyT z) = true from WideAt.sameKey_self hk] at h2
  cases h2
 rintro ⟨h1,h2⟩
 exact ⟨h1,by rw [sameKey_ne (fun e => h2 (C9 e))];rfl⟩
end
end
end Go.Proofs.YtijhemdnajlfnaaGreatDoor
