/- YtmhjpmenngjmeaaGreatDoorR31: texts KI of this claim, in one. -/
import Derived.Shelf.SlIter.Collect
import Derived.Test.YtmhjpmenngjmeaaGreatDoorR14
import Derived.Test.YtmhjpmenngjmeaaGreatDoorR15
import Derived.Test.YtmhjpmenngjmeaaGreatDoorR22
namespace Go.Proofs.YtmhjpmenngjmeaaGreatDoor
open Go.RowKit Go.Maps Go.Sort Go.Shelf
set_option maxRecDepth 100000
section
variable {F:Fence} {n':Nat} {P:Program} {w:World} {ops:Array Oper} {rest:List Oper} {o:Oper} {a:Act} {Q:Exit → Act → World → Prop}
theorem wpListIn_load_mid (hg:o.guard = none) (ty:TypeId) (x:Operand) (hop:o.op = .load ty x) (b off:Nat) (hx:a.eval x = .pointer (some ⟨b,off,none⟩)) (cs:List Value) (d:TypeDesc) (hc:w.rangeAt b off cs)
  (hu:P.underlying ty = some d) (hd:d.isRow = true) (hi:(P.info? ty).map (·.size) = some cs.length) (hK:wpListIn F n' P ops Q rest (a.put o.dst (.agg cs.toArray)) w):wpListIn F n' P ops Q (o :: rest) a w:=by
 refine wpListIn_plain hg fun K hK' => ?_
 have hrun:=run_loadAt_mid (P:=P) w b off ty cs d hc hu hd hi
 unfold Oper.wpIn
 refine ⟨by simp [Oper.about,hop],?_⟩
 rw [Oper.semAt_plain F _ _ (by rw [hop];intro c hc';cases hc')]
 simp [execOp,hop,hx,hrun,Result.andThen]
 exact hK' _ _ hK
theorem wpListIn_store_mid (hg:o.guard = none) (ty:TypeId) (x v:Operand) (hop:o.op = .store ty x v) (b off:Nat) (cs:List Value) (hx:a.eval x = .pointer (some ⟨b,off,none⟩)) (hv:a.eval v = .agg cs.toArray)
  (ht:w.there b off cs.length) (hi:(P.info? ty).map (·.size) = some cs.length) (h1:∀ u ∈ cs,u.oneCell' = true) (hK:wpListIn F n' P ops Q rest (a.put o.dst undef) (w.setCells b off cs)):wpListIn F n' P ops Q (o :: rest) a w:=by
 refine wpListIn_plain hg fun K hK' => ?_
 have hrun:=run_storeAt_mid (P:=P) w b off ty cs.toArray (by simpa using ht) (by simpa using hi) (by simpa [Array.all_eq_true_iff_forall_mem] using h1)
 unfold Oper.wpIn
 refine ⟨by simp [Oper.about,hop],?_⟩
 rw [Oper.semAt_plain F _ _ (by rw [hop];intro c hc';cases hc')]
 simp [execOp,hop,hx,hv,hrun,Result.andThen]
 exact hK' _ _ hK
theorem wpListIn_buildSlice_one (hg:o.guard = none) (x:Operand) (t e:TypeId) (hop:o.op = .buildSlice t 1 #[(0,x)])
  (cs:List Value) (zs:Array Value) (hx:a.eval x = .agg cs.toArray) (ht:P.underlying t = some (.slice e)) (hsz:∀ w,(sizeOf e).run P w = .ok cs.length w) (hz:∀ w,(zeroValue e).run P w = .ok (.agg zs) w)
  (hpos:0 < cs.length) (hlim:cs.length ≤ 1000) (hK:wpListIn F n' P ops Q rest (a.put o.dst (.slice (some ⟨w.heap.size,0,none⟩) 1 1)) (w.alloc (.cells cs.toArray e))):wpListIn F n' P ops Q (o :: rest) a w:=by
 refine wpListIn_plain hg fun K hK' => ?_
 have hrun:=run_buildSlice_one w t e cs zs ht hsz hz hpos hlim
 unfold Oper.wpIn
 refine ⟨by simp [Oper.about,hop],?_⟩
 rw [Oper.semAt_plain F _ _ (by rw [hop];intro c hc';cases hc')]
 simp [execOp,hop,hx,hrun,Result.andThen]
 exact hK' _ _ hK
end
section
variable {α:Type} {enc:α → Value} {F:Fence} {n':Nat} {w:World} {ops:Array Oper} {rest:List Oper} {o:Oper} {a:Act} {Q:Exit → Act → World → Prop}
end
end Go.Proofs.YtmhjpmenngjmeaaGreatDoor
