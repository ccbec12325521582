/- A part of this claim. -/
import Derived.RangeFuncRecord
import Derived.Test.YtejamhkgjkhjdaaGreatDoorXn8
namespace Go.Proofs.YtejamhkgjkhjdaaGreatDoor
set_option maxHeartbeats 64000000
set_option maxRecDepth 100000
section
open Go.RowKit
def ak (W:World) (b:Nat) (t:TypeId) (cs:List Value):Prop:=W.heap[b]? = some (.cells cs.toArray t (0,0))
theorem ak.lt {W:World} {b:Nat} {t:TypeId} {cs:List Value} (h:ak W b t cs):b<W.heap.size:=(Array.getElem?_eq_some_iff.1 h).1
theorem ak.range {W:World} {b:Nat} {t:TypeId} {cs:List Value} (h:ak W b t cs):W.rangeAt b 0 cs:=fun j v a=>by
 rw [Nat.zero_add]
 have:W.cell? ⟨b,j,none⟩=cs.toArray[j]?:=by simp [World.cell?,show W.heap[b]? = _ from h]
 rw [this];simpa using a
theorem ak.there {W:World} {b:Nat} {t:TypeId} {cs:List Value} (h:ak W b t cs):W.there b 0 cs.length:=fun j d=>by
 rw [Nat.zero_add]
 have a:W.cell? ⟨b,j,none⟩=cs.toArray[j]?:=by simp [World.cell?,show W.heap[b]? = _ from h]
 have e:W.frozen? ⟨b,j,none⟩=false:=by simp [World.frozen?,show W.heap[b]? = _ from h]
 rw [a,e]
 exact ⟨by simp [d],rfl⟩
theorem ak.new (W:World) (t:TypeId) (cs:List Value):ak (W.alloc (.cells cs.toArray t)) W.heap.size t cs:=World.alloc_heap_new W _
theorem ak.below {W W':World} {b:Nat} {t:TypeId} {cs:List Value} (h:ak W b t cs) (hb:Below W.heap.size W W'):ak W' b t cs:=(hb.block b h.lt).trans h
theorem ak.kept {W W':World} {row:Option Nat} {b:Nat} {t:TypeId} {cs:List Value} (h:ak W b t cs) (d:W.grownBy W' row) (a:some b≠row):ak W' b t cs:=(d.block b h.lt a).trans h
theorem size_setCells (g:Nat) {e:TypeId} {fr:Nat×Nat}:∀(b:List Value) (o:Nat) (w:World) (cur:Array Value),w.heap[g]? = some (.cells cur e fr)→ ∃a,(w.setCells g o b).heap[g]? = some (.cells a e fr)∧a.size=cur.size
 | [],o,w,cur,h=>⟨cur,h,rfl⟩
 | v::b,o,w,cur,h=>by
  obtain ⟨d,j⟩:=Array.getElem?_eq_some_iff.1 h
  have f:(w.setCell ⟨g,o,none⟩ v).heap[g]? = some (.cells (cur.setIfInBounds o v) e fr):=by
   show (w.heap.modify g _)[g]? = _
   rw [Array.getElem?_eq_getElem (by rw [Array.size_modify];exact d),Array.getElem_modify_self,j]
   rfl
  obtain ⟨a,i,k⟩:=size_setCells g b (o+1) _ _ f
  exact ⟨a,i,by rw [k];simp⟩
theorem ak.set {W:World} {b:Nat} {t:TypeId} {cs us:List Value} (h:ak W b t cs) (f:us.length=cs.length):ak (W.setCells b 0 us) b t us:=by
 obtain ⟨cur,h1,d⟩:=size_setCells b us 0 W cs.toArray h
 have i:=World.rangeAt_setCells_same W b 0 us (by rw [f];exact h.there)
 have e:cur=us.toArray:=by
  apply Array.ext_getElem?
  intro j
  by_cases a:j<us.length
  ·have:=i j us[j] (by simp [a])
   rw [Nat.zero_add] at this
   have g:(W.setCells b 0 us).cell? ⟨b,j,none⟩=cur[j]?:=by simp [World.cell?,h1]
   rw [g] at this
   rw [this];simp [a]
  rw [Array.getElem?_eq_none (by rw [d];simp;omega),Array.getElem?_eq_none (by simpa using a)]
 rw [e] at h1
 exact h1
theorem ak.other {W:World} {b g o:Nat} {t:TypeId} {cs us:List Value} (h:ak W b t cs) (a:b≠g):ak (W.setCells g o us) b t cs:=h.kept (bF W g o us) (fun e=>a (Option.some.inj e))
end
end Go.Proofs.YtejamhkgjkhjdaaGreatDoor
