/- YtmhjpmenngjmeaaGreatDoorR43: texts Ft of this claim, in one. -/
import Derived.ChangeOld
import Derived.Deep.SlicePairs
import Derived.LaidLaws
import Derived.LaidMore
import Derived.Lib.LaidTab
import Derived.OpenShut
import Derived.ProofKit
import Derived.Shelf.Vars
import Derived.SizedLaws
import Derived.Test.YtmhjpmenngjmeaaGreatDoorChecked
import Derived.Test.YtmhjpmenngjmeaaGreatDoorR14
import Derived.Test.YtmhjpmenngjmeaaGreatDoorR30
import Derived.Test.YtmhjpmenngjmeaaGreatDoorRows
namespace Go.Proofs.YtmhjpmenngjmeaaGreatDoor
open Go.RowKit Go.ChangeShapes Go.WideShapes Go.WideMaps
set_option maxRecDepth 100000
theorem laid_of {rest:List (String × DataW Unit)} {W:World} (h:laidMet Tryz.prog (("sediment/digest.rounds",Rows.laid_sediment_digest_rounds) :: ("sediment/digest.first",Rows.laid_sediment_digest_first) :: rest) W):Laid W:=by
 obtain ⟨ps,⟨g,t,cs,fuel,p,q,hg,ht,hvar,hd,⟨g2,t2,cs2,fuel2,p2,q2,hg2,ht2,hvar2,hd2,_,_⟩,_⟩,_⟩:=h
 have e1:(Rows.laid_sediment_digest_rounds:DataW Unit) = Lib.tabData .u32 (roundK.map wn):=by kernel_rfl
 have e2:(Rows.laid_sediment_digest_first:DataW Unit) = Lib.tabData .u32 (firstL.map wn):=by kernel_rfl
 obtain rfl:=Option.some.inj ((show Tryz.prog.globalNamed "sediment/digest.rounds" = some 4 by kernel_rfl).symm.trans hg)
 obtain rfl:=Option.some.inj ((show Tryz.prog.globalNamed "sediment/digest.first" = some 1 by kernel_rfl).symm.trans hg2)
 obtain rfl:=Option.some.inj ((show (Tryz.prog.globals[4]?).map (·.type) = some 183 by kernel_rfl).symm.trans ht)
 obtain rfl:=Option.some.inj ((show (Tryz.prog.globals[1]?).map (·.type) = some 156 by kernel_rfl).symm.trans ht2)
 rw [e1] at hd
 rw [e2] at hd2
 have k1:=Lib.cells_of_tab Tryz.underlying183 Tryz.underlying141 (by kernel_rfl) (by kernel_rfl) hd
 have k2:=Lib.cells_of_tab Tryz.underlying156 Tryz.underlying141 (by kernel_rfl) (by kernel_rfl) hd2
 have hsz:5 ≤ W.heap.size:=by
  have hc:W.cell? ⟨4,0,none⟩ = some (.int .u32 (wn (roundK.getD 0 0))):=by
   rw [World.var?_cell hg hvar 0,← Array.getElem?_toList,k1];rfl
  have:=World.block_lt_of_cell? W _ hc
  dsimp only at this;omega
 refine ⟨fun j u hu => ?_,fun j u hu => ?_,hsz⟩
 ·rw [Nat.zero_add,World.var?_cell hg hvar j,← Array.getElem?_toList,k1,List.map_map]
  exact hu
 ·rw [Nat.zero_add,World.var?_cell hg2 hvar2 j,← Array.getElem?_toList,k2]
  exact hu
theorem handed_and_shapedX {H : Type} {enc : TypeId × Value → H} {a : Assume} {C : Checked} {os : Os} {f : FuncId} {fn : Func} {s : ChangeSpec} {conds : List PathCond} {apart fresh handsOn again : Bool} {X : World → Array Value → Prop}
    (hX : ∀ (w w' : World) (args : Array Value), w'.heap = w.heap → X w args → X w' args) (own : ownKnob C.prog.godebug = none) (started : os.Started) (noInit : C.prog.inits.idxOf? f = none) (hfn : C.prog.funcs[f]? = some fn)
    (witness : ∃ (w : World) (tape : Tape) (i : Input), w.os = os ∧ (w.forCall tape i).Shaped C.prog ∧ i.vars = [] ∧ Input.okWide C.prog (w.forCall tape i) .any w.heap.size f i ∧
      ((s.pre enc C.prog fn conds apart (w.forCall tape i).memory i.args ∧ X (w.forCall tape i).memory i.args) ∧ sizedMet enc C.prog fn (OpenSpec.ofChange s) apart (w.forCall tape i).memory i.args) ∧ a.holds C.prog (lone (Frame.enter C.prog f i.args .normal) [] (w.forCall tape i)))
    (contract : ∀ (W : World) (base : Nat) (args : Array Value) (ds gs : List (DataW H)) (before : List MemPlace),
      (∀ (j : Nat) t v, fn.params[j]? = some t → args[j]? = some v → Value.okWide C.prog W .any base t v) →
      DataW.Whole enc C.prog fn.params.toList s.vars apart W args.toList ds gs before →
      (DataW.weightsEach C.prog (fn.params.toList ++ s.plain.varTypes C.prog) (ds ++ gs)).all (· ≤ reachBytes) = true → W.ShapedOpen C.prog → X W args →
      Calls C.prog f args W fun e W' => ∃ v, e = .returned v ∧ s.post enc C.prog fn apart fresh handsOn again W args v W') :
    ReturnsInHanded a C os f .any (fun w args => (s.pre enc C.prog fn conds apart w args ∧ X w args) ∧ sizedMet enc C.prog fn (OpenSpec.ofChange s) apart w args) (s.post enc C.prog fn apart fresh handsOn again) := by
  refine returnsInHanded_of_calls own started noInit witness ?_
  intro w tape i _ hsh _ hok hpre _
  obtain ⟨_, _, _, fn', hfn', _, _, _, _, hval⟩ := hok
  have e : fn' = fn := Option.some.inj (hfn'.symm.trans hfn)
  subst e
  obtain ⟨⟨⟨ds, gs, before, hw, _⟩, hx⟩, hz⟩ := hpre
  have hw' := DataW.Whole.of_heap (w' := w.forCall tape i) (by rfl) hw
  refine (contract (w.forCall tape i) w.heap.size i.args ds gs before hval hw' (hz.weights hw) hsh (hX _ _ _ (by rfl) hx)).mono fun e W' ⟨v, he, hp⟩ => ?_
  subst he
  exact ChangeSpec.post_blind hp
end Go.Proofs.YtmhjpmenngjmeaaGreatDoor
