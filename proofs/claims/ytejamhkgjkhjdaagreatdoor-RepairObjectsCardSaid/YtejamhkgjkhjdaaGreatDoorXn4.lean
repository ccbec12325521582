/- A part of this claim. -/
import Derived.Laws.Concat
import Derived.Laws.Cover1
import Derived.Laws.Strings
import Derived.Laws.Strings2
import Derived.Laws.Strings3
import Derived.Lib.SplitLaws
import Derived.Sort.Statements
import Derived.Test.YtejamhkgjkhjdaaGreatDoorChecked
import Derived.Test.YtejamhkgjkhjdaaGreatDoorXn3
namespace Go.Proofs.YtejamhkgjkhjdaaGreatDoor
set_option maxHeartbeats 64000000
set_option maxRecDepth 100000
section
open Go Go.Sort
theorem Ej {p q:ByteArray} (h:p.data.toList=q.data.toList):p=q:=by
 cases p;cases q;simp at h;rw [h]
end
section
open Go.RowKit
theorem dV.gq {w:World} {B:Nat} {e:TypeId} {v:Value} {o:List ByteArray} (h:w.ownsRow B e 1 v o.length (o.map Value.string)):dV w v o:=by
 rcases h.2 with ⟨h1,d⟩|⟨g,a,cur,b,m,j,f,hm,k,l⟩
 ·obtain rfl:=List.eq_nil_of_length_eq_zero d
  exact ⟨none,0,h1,by simp,fun h=>absurd rfl h⟩
 refine ⟨some ⟨g,0,none⟩,a,b,Nat.le_trans f hm,fun _=>⟨g,0,rfl,(Array.getElem?_eq_some_iff.1 j).1,fun i hi=> ?_⟩⟩
 have:=h.cells (g:=g) (by rw [b];rfl) i (.string o[i]) (by simp [hi])
 rw [Addr.add_mid] at this
 exact this
theorem lK (p q:ByteArray):(p.toList==q.toList)=decide (p=q):=by
 rw [ByteArray.toList_eq,ByteArray.toList_eq]
 by_cases h:p=q
 ·subst h;simp
 rw [decide_eq_false h,beq_eq_false_iff_ne]
 exact fun e=>h (Ej e)
end
end Go.Proofs.YtejamhkgjkhjdaaGreatDoor
