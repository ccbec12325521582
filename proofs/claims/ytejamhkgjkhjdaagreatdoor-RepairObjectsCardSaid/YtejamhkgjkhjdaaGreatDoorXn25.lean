/- A part of this claim. -/
import Derived.Test.YtejamhkgjkhjdaaGreatDoorShelf8
import Derived.Test.YtejamhkgjkhjdaaGreatDoorXn20
import Derived.Test.YtejamhkgjkhjdaaGreatDoorXn22
namespace Go.Proofs.YtejamhkgjkhjdaaGreatDoor
set_option maxHeartbeats 64000000
set_option maxRecDepth 100000
section
open Go.RowKit Go.Sort Go.Shelf Go.Maps
section
variable {P:Program} {ops:Array Oper} {Q:Exit → Act → World → Prop} {S:World → Prop}
end
theorem Ef {t l:List Rf} (k:Nat) (h:eD t l=true):∃V,eY t (l.take k)=some V:=by
 unfold eD at h
 rw [Bool.and_eq_true] at h
 obtain ⟨U,a⟩:=Option.isSome_iff_exists.1 h.1
 unfold eY at a ⊢
 cases d:eu [] t with
 | none=>rw [d] at a;cases a
 | some T =>
  rw [d] at a
  have a:fK T l=some U:=a
  rw [←List.take_append_drop k l,lC] at a
  cases b:fK T (l.take k) with
  | none=>rw [b] at a;cases a
  | some V=>exact ⟨V,b⟩
end
end Go.Proofs.YtejamhkgjkhjdaaGreatDoor
