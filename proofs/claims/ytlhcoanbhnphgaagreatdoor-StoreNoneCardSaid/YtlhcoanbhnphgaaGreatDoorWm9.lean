/- A part of this claim. -/
import Derived.RangeFuncRecord
import Derived.Test.YtlhcoanbhnphgaaGreatDoorWm8
namespace Go.Proofs.YtlhcoanbhnphgaaGreatDoor
set_option maxHeartbeats 64000000
set_option maxRecDepth 100000
section
open Go.RowKit
def BoxL (W:World) (b:Nat) (t:TypeId) (cs:List Value):Prop:=W.heap[b]? = some (.cells cs.toArray t (0,0))
theorem BoxL.lt {W:World} {b:Nat} {t:TypeId} {cs:List Value} (h:BoxL W b t cs):b < W.heap.size:=(Array.getElem?_eq_some_iff.1 h).1
theorem BoxL.range {W:World} {b:Nat} {t:TypeId} {cs:List Value} (h:BoxL W b t cs):W.rangeAt b 0 cs:=fun j v hv => by
 rw [Nat.zero_add]
 have:W.cell? ⟨b,j,none⟩ = cs.toArray[j]?:=by simp [World.cell?,show W.heap[b]? = _ from h]
 rw [this];simpa using hv
theorem BoxL.there {W:World} {b:Nat} {t:TypeId} {cs:List Value} (h:BoxL W b t cs):W.there b 0 cs.length:=fun j hj => by
 rw [Nat.zero_add]
 have e1:W.cell? ⟨b,j,none⟩ = cs.toArray[j]?:=by simp [World.cell?,show W.heap[b]? = _ from h]
 have e2:W.frozen? ⟨b,j,none⟩ = false:=by simp [World.frozen?,show W.heap[b]? = _ from h]
 rw [e1,e2]
 exact ⟨by simp [hj],rfl⟩
theorem BoxL.new (W:World) (t:TypeId) (cs:List Value):BoxL (W.alloc (.cells cs.toArray t)) W.heap.size t cs:=World.alloc_heap_new W _
theorem BoxL.below {W W':World} {b:Nat} {t:TypeId} {cs:List Value} (h:BoxL W b t cs) (hb:Below W.heap.size W W'):BoxL W' b t cs:=(hb.block b h.lt).trans h
theorem BoxL.kept {W W':World} {row:Option Nat} {b:Nat} {t:TypeId} {cs:List Value} (h:BoxL W b t cs) (hg:W.grownBy W' row) (hne:some b ≠ row):BoxL W' b t cs:=(hg.block b h.lt hne).trans h
theorem size_setCells (g:Nat) {e:TypeId} {fr:Nat × Nat}:∀ (vs:List Value) (o:Nat) (w:World) (cur:Array Value),w.heap[g]? = some (.cells cur e fr) → ∃ cur',(w.setCells g o vs).heap[g]? = some (.cells cur' e fr) ∧ cur'.size = cur.size
 | [],o,w,cur,h => ⟨cur,h,rfl⟩
 | v :: vs,o,w,cur,h => by
  obtain ⟨hlt,hk⟩:=Array.getElem?_eq_some_iff.1 h
  have h':(w.setCell ⟨g,o,none⟩ v).heap[g]? = some (.cells (cur.setIfInBounds o v) e fr):=by
   show (w.heap.modify g _)[g]? = _
   rw [Array.getElem?_eq_getElem (by rw [Array.size_modify];exact hlt),Array.getElem_modify_self,hk]
   rfl
  obtain ⟨cur',h2,h3⟩:=size_setCells g vs (o + 1) _ _ h'
  exact ⟨cur',h2,by rw [h3];simp⟩
theorem BoxL.set {W:World} {b:Nat} {t:TypeId} {cs us:List Value} (h:BoxL W b t cs) (hl:us.length = cs.length):BoxL (W.setCells b 0 us) b t us:=by
 obtain ⟨cur,h1,h2⟩:=size_setCells b us 0 W cs.toArray h
 have hr:=World.rangeAt_setCells_same W b 0 us (by rw [hl];exact h.there)
 have e:cur = us.toArray:=by
  apply Array.ext_getElem?
  intro j
  by_cases hj:j < us.length
  ·have:=hr j us[j] (by simp [hj])
   rw [Nat.zero_add] at this
   have e1:(W.setCells b 0 us).cell? ⟨b,j,none⟩ = cur[j]?:=by simp [World.cell?,h1]
   rw [e1] at this
   rw [this];simp [hj]
  rw [Array.getElem?_eq_none (by rw [h2];simp;omega),Array.getElem?_eq_none (by simpa using hj)]
 rw [e] at h1
 exact h1
theorem BoxL.other {W:World} {b g o:Nat} {t:TypeId} {cs us:List Value} (h:BoxL W b t cs) (hne:b ≠ g):BoxL (W.setCells g o us) b t cs:=h.kept (bC W g o us) (fun e => hne (Option.some.inj e))
end
end Go.Proofs.YtlhcoanbhnphgaaGreatDoor
