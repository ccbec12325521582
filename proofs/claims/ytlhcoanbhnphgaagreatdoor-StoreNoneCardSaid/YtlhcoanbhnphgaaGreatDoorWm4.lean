/- A part of this claim. -/
import Derived.Laws.Concat
import Derived.Laws.Cover1
import Derived.Laws.Strings
import Derived.Laws.Strings2
import Derived.Laws.Strings3
import Derived.Lib.SplitLaws
import Derived.Sort.Statements
import Derived.Test.YtlhcoanbhnphgaaGreatDoorChecked
import Derived.Test.YtlhcoanbhnphgaaGreatDoorWm3
namespace Go.Proofs.YtlhcoanbhnphgaaGreatDoor
set_option maxHeartbeats 64000000
set_option maxRecDepth 100000
section
open Go Go.Sort
theorem Ca {p q:ByteArray} (h:p.data.toList = q.data.toList):p = q:=by
 cases p;cases q;simp at h;rw [h]
abbrev Lf:=ByteArray × ByteArray
end
section
open Go.RowKit
theorem fV.below {w w':World} {v:Value} {ss:List ByteArray} (h:fV w v ss) (hb:Below w.heap.size w w'):fV w' v ss:=by
 obtain ⟨ao,cap,rfl,hm,h⟩:=h
 refine ⟨ao,cap,rfl,hm,fun hne => ?_⟩
 obtain ⟨b,off,e,hl,hc⟩:=h hne
 exact ⟨b,off,e,Nat.lt_of_lt_of_le hl hb.size,fun i hi => by rw [hb.cell (p:=⟨b,off + i,none⟩) hl];exact hc i hi⟩
theorem fV.bZ {w:World} {B:Nat} {e:TypeId} {v:Value} {o:List ByteArray} (h:w.ownsRow B e 1 v o.length (o.map Value.string)):fV w v o:=by
 rcases h.2 with ⟨h1,h2⟩ | ⟨g,cap,cur,hv,hg,hh,hn,hm,hc,ht⟩
 ·obtain rfl:=List.eq_nil_of_length_eq_zero h2
  exact ⟨none,0,h1,by simp,fun h => absurd rfl h⟩
 refine ⟨some ⟨g,0,none⟩,cap,hv,Nat.le_trans hn hm,fun _ => ⟨g,0,rfl,(Array.getElem?_eq_some_iff.1 hh).1,fun i hi => ?_⟩⟩
 have:=h.cells (g:=g) (by rw [hv];rfl) i (.string o[i]) (by simp [hi])
 rw [Addr.add_mid] at this
 exact this
theorem fV.nil (w:World):fV w (.slice none 0 0) []:=⟨none,0,rfl,by simp,fun h => absurd rfl h⟩
def LX (f:Lf):List Value:=[.string f.1,.string f.2]
def apC (f:ByteArray × Nat):List Value:=[.string f.1,.int .i64 f.2]
def oD (w:World) (v:Value) (l:List Lf):Prop:=aS w v 2 (l.map LX)
def Aj (w:World) (v:Value) (l:List (ByteArray × Nat)):Prop:=aS w v 2 (l.map apC)
theorem oD.below {w w':World} {v:Value} {l:List Lf} (h:oD w v l) (hb:Below w.heap.size w w'):oD w' v l:=aS.below h hb
theorem Aj.below {w w':World} {v:Value} {l:List (ByteArray × Nat)} (h:Aj w v l) (hb:Below w.heap.size w w'):Aj w' v l:=aS.below h hb
theorem oD.open {w:World} {v:Value} {l:List Lf} (h:oD w v l):∃ ao cap,v = .slice ao l.length cap ∧ l.length ≤ maxLen ∧ (l ≠ [] → ∃ b off,ao = some ⟨b,off,none⟩ ∧ b < w.heap.size ∧ ∀ k (hk:k < l.length),w.cell? ⟨b,off + k * 2,none⟩ = some (.string l[k].1) ∧ w.cell? ⟨b,off + k * 2 + 1,none⟩ = some (.string l[k].2)):=by
 obtain ⟨ao,cap,rfl,hm,h⟩:=h
 rw [List.length_map] at hm ⊢
 refine ⟨ao,cap,rfl,hm,fun hne => ?_⟩
 obtain ⟨b,off,e,hl,hc⟩:=h (by simpa using hne)
 refine ⟨b,off,e,hl,fun k hk => ?_⟩
 have:=hc k (by simpa using hk)
 rw [List.getElem_map] at this
 exact ⟨this 0 _ rfl,this 1 _ rfl⟩
theorem Aj.open {w:World} {v:Value} {l:List (ByteArray × Nat)} (h:Aj w v l):∃ ao cap,v = .slice ao l.length cap ∧ l.length ≤ maxLen ∧ (l ≠ [] → ∃ b off,ao = some ⟨b,off,none⟩ ∧ b < w.heap.size ∧ ∀ k (hk:k < l.length),w.cell? ⟨b,off + k * 2,none⟩ = some (.string l[k].1) ∧ w.cell? ⟨b,off + k * 2 + 1,none⟩ = some (.int .i64 l[k].2)):=by
 obtain ⟨ao,cap,rfl,hm,h⟩:=h
 rw [List.length_map] at hm ⊢
 refine ⟨ao,cap,rfl,hm,fun hne => ?_⟩
 obtain ⟨b,off,e,hl,hc⟩:=h (by simpa using hne)
 refine ⟨b,off,e,hl,fun k hk => ?_⟩
 have:=hc k (by simpa using hk)
 rw [List.getElem_map] at this
 exact ⟨this 0 _ rfl,this 1 _ rfl⟩
theorem uF (p q:ByteArray):(p.toList == q.toList) = decide (p = q):=by
 rw [ByteArray.toList_eq,ByteArray.toList_eq]
 by_cases h:p = q
 ·subst h;simp
 rw [decide_eq_false h,beq_eq_false_iff_ne]
 exact fun e => h (Ca e)
end
end Go.Proofs.YtlhcoanbhnphgaaGreatDoor
