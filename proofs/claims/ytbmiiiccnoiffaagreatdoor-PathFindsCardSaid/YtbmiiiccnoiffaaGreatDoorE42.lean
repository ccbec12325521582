/- YtbmiiiccnoiffaaGreatDoorE42: texts Ft of this claim, in one. -/
import Derived.ChangeOld
import Derived.Deep.SlicePairs
import Derived.LaidLaws
import Derived.LaidMore
import Derived.Lib.LaidTab
import Derived.OpenShut
import Derived.ProofKit
import Derived.Shelf.Vars
import Derived.SizedLaws
import Derived.Test.YtbmiiiccnoiffaaGreatDoorChecked
import Derived.Test.YtbmiiiccnoiffaaGreatDoorE14
import Derived.Test.YtbmiiiccnoiffaaGreatDoorE31
import Derived.Test.YtbmiiiccnoiffaaGreatDoorRows
namespace Go.Proofs.YtbmiiiccnoiffaaGreatDoor
open Go.RowKit Go.ChangeShapes Go.WideShapes Go.WideMaps
def byteOf:Value → UInt8
 | .int _ n => UInt8.ofNat n.toNat
 | _ => 0
set_option maxRecDepth 100000
theorem id_open {H:Type} {enc:TypeId × Value → H} {W:World} {spare:Nat → Bool} {held:Bool} {fuel base:Nat} {v:Value} {x:DataW H × List MemPlace} (hv:Value.okWide Tryz.prog W .any base 24 v)
  (h:DataW.trod enc Tryz.prog W 0 spare held fuel 24 v.cells.toList = some x):∃ l:List UInt8,v = .agg (idC l).toArray ∧ l.length = 32:=by
 have hc32:Tryz.prog.cellsOf 24 = 32:=by kernel_rfl
 unfold Value.okWide at hv
 rw [Tryz.underlying24] at hv
 dsimp only at hv
 obtain ⟨xs,rfl,hxs,_⟩:=hv
 rw [hc32] at hxs
 obtain ⟨ys,m,rfl,hx,hl,hyl,hi⟩:=DataW.trod_array Tryz.underlying24 h
 have hc1:Tryz.prog.cellsOf 5 = 1:=by kernel_rfl
 refine ⟨xs.toList.map byteOf,?_,by simp [hxs]⟩
 congr 1
 apply Array.ext'
 show xs.toList = idC (xs.toList.map byteOf)
 apply List.ext_getElem
 ·simp [idC]
 ·intro i h1 h2
  have hi32:i < 32:=by simpa [hxs] using h1
  have hk:=hi i hi32
  rw [hc1,Nat.mul_one] at hk
  have hy:i < ys.length:=by omega
  rw [List.getElem?_eq_getElem hy] at hk
  obtain ⟨n,hn,_,hw⟩:=DataW.trod_int Tryz.underlying5 hk
  have hcell:xs.toList[i] = .int .u8 n:=by
   have h3:((Value.agg xs).cells.toList.drop i).take 1 = [xs.toList[i]]:=by
    show (xs.toList.drop i).take 1 = _
    rw [List.drop_eq_getElem_cons h1];rfl
   rw [h3] at hn
   exact List.cons.inj hn |>.1
  simp only [Lit.wf,Bool.and_eq_true,decide_eq_true_eq] at hw
  have e1:IntKind.u8.min = 0:=by decide
  have e2:IntKind.u8.max = 255:=by decide
  rw [e1,e2] at hw
  simp only [idC,List.getElem_map,hcell]
  have e3:((UInt8.ofNat n.toNat).toNat:Int) = n:=by rw [UInt8.toNat_ofNat',Nat.mod_eq_of_lt (by omega)];omega
  show Value.int .u8 n = .int .u8 ((UInt8.ofNat n.toNat).toNat:Int)
  rw [e3]
theorem objs_open {H:Type} {enc:TypeId × Value → H} {W:World} {spare:Nat → Bool} {held:Bool} {fuel:Nat} {cs:List Value} {x:DataW H × List MemPlace}
  (h:DataW.trod enc Tryz.prog W 0 spare held fuel 22 cs = some x):∃ ao len cap l,cs = [.slice ao len cap] ∧ ObRow W (.slice ao len cap) l:=by
 rcases Go.Deep.open_slice_pairs Tryz.underlying22 Tryz.underlying93 (by kernel_rfl) rfl rfl (by kernel_rfl) (by kernel_rfl) h with ⟨rfl,_⟩ | ⟨a,len,cap,m,n,V0,V1,D0,D1,P0,P1,rfl,_,hl,hm,hmm,rfl,hc⟩
 ·exact ⟨none,0,0,[],rfl,⟨none,0,rfl,by simp,fun h => absurd rfl h⟩⟩
 ·have hlm:len ≤ m:=by rw [hmm];split <;> omega
  have hex:∀ i,∃ q:Ob,i < len → W.cell? (a.add (i * 2)) = some (.int .i64 q.kind) ∧ W.cell? (a.add (i * 2 + 1)) = some (.string q.body):=fun i => by
   by_cases hi:i < len
   ·obtain ⟨h1,h2,h3,h4⟩:=hc i (by omega)
    obtain ⟨k0,e0,_,_⟩:=DataW.trod_int Tryz.underlying3 h3
    obtain ⟨s1,e1,_,_⟩:=DataW.trod_string Tryz.underlying9 h4
    refine ⟨⟨k0,s1⟩,fun _ => ⟨?_,?_⟩⟩
    ·rw [h1];injection e0 with e;rw [e]
    ·rw [h2];injection e1 with e;rw [e]
   ·exact ⟨ob0,fun h => absurd h hi⟩
  obtain ⟨q,hq⟩:=Classical.axiomOfChoice hex
  refine ⟨some a,len,cap,(List.range len).map q,rfl,?_⟩
  refine ⟨some a,cap,by simp,by simp;omega,fun hne => ?_⟩
  have hpos:0 < len:=by
   rcases Nat.eq_zero_or_pos len with h0 | h0
   ·subst h0;simp at hne
   ·exact h0
  obtain ⟨b,off,spot⟩:=a
  have hc0:=(hq 0 hpos).1
  have hspot:spot = none:=by simpa [Addr.add] using World.cell?_spot hc0
  subst hspot
  refine ⟨b,off,rfl,?_,fun i hi j u hu => ?_⟩
  ·exact World.block_lt_of_cell? W _ (by rw [Addr.add_mid] at hc0;exact hc0)
  ·have hi2:i < len:=by simpa using hi
   obtain ⟨h1,h2⟩:=hq i hi2
   rw [Addr.add_mid] at h1 h2
   simp only [List.getElem_map,List.getElem_range,obC] at hu
   rcases j with _ | _ | j
   ·simp at hu;rw [← hu];exact h1
   ·simp at hu;rw [← hu];exact h2
   ·simp at hu
theorem laid_of {rest:List (String × DataW Unit)} {W:World} (h:laidMet Tryz.prog (("sediment/digest.rounds",Rows.laid_sediment_digest_rounds) :: ("sediment/digest.first",Rows.laid_sediment_digest_first) :: rest) W):Laid W:=by
 obtain ⟨ps,⟨g,t,cs,fuel,p,q,hg,ht,hvar,hd,⟨g2,t2,cs2,fuel2,p2,q2,hg2,ht2,hvar2,hd2,_,_⟩,_⟩,_⟩:=h
 have e1:(Rows.laid_sediment_digest_rounds:DataW Unit) = Lib.tabData .u32 (roundK.map wn):=by kernel_rfl
 have e2:(Rows.laid_sediment_digest_first:DataW Unit) = Lib.tabData .u32 (firstL.map wn):=by kernel_rfl
 obtain rfl:=Option.some.inj ((show Tryz.prog.globalNamed "sediment/digest.rounds" = some 4 by kernel_rfl).symm.trans hg)
 obtain rfl:=Option.some.inj ((show Tryz.prog.globalNamed "sediment/digest.first" = some 1 by kernel_rfl).symm.trans hg2)
 obtain rfl:=Option.some.inj ((show (Tryz.prog.globals[4]?).map (·.type) = some 271 by kernel_rfl).symm.trans ht)
 obtain rfl:=Option.some.inj ((show (Tryz.prog.globals[1]?).map (·.type) = some 225 by kernel_rfl).symm.trans ht2)
 rw [e1] at hd
 rw [e2] at hd2
 have k1:=Lib.cells_of_tab Tryz.underlying271 Tryz.underlying224 (by kernel_rfl) (by kernel_rfl) hd
 have k2:=Lib.cells_of_tab Tryz.underlying225 Tryz.underlying224 (by kernel_rfl) (by kernel_rfl) hd2
 have hsz:5 ≤ W.heap.size:=by
  have hc:W.cell? ⟨4,0,none⟩ = some (.int .u32 (wn (roundK.getD 0 0))):=by
   rw [World.var?_cell hg hvar 0,← Array.getElem?_toList,k1];rfl
  have:=World.block_lt_of_cell? W _ hc
  dsimp only at this;omega
 refine ⟨fun j u hu => ?_,fun j u hu => ?_,hsz⟩
 ·rw [Nat.zero_add,World.var?_cell hg hvar j,← Array.getElem?_toList,k1,List.map_map]
  exact hu
 ·rw [Nat.zero_add,World.var?_cell hg2 hvar2 j,← Array.getElem?_toList,k2]
  exact hu
theorem handed_and_shapedX {H : Type} {enc : TypeId × Value → H} {a : Assume} {C : Checked} {os : Os} {f : FuncId} {fn : Func} {s : ChangeSpec} {conds : List PathCond} {apart fresh handsOn again : Bool} {X : World → Array Value → Prop}
    (hX : ∀ (w w' : World) (args : Array Value), w'.heap = w.heap → X w args → X w' args) (own : ownKnob C.prog.godebug = none) (started : os.Started) (noInit : C.prog.inits.idxOf? f = none) (hfn : C.prog.funcs[f]? = some fn)
    (witness : ∃ (w : World) (tape : Tape) (i : Input), w.os = os ∧ (w.forCall tape i).Shaped C.prog ∧ i.vars = [] ∧ Input.okWide C.prog (w.forCall tape i) .any w.heap.size f i ∧
      ((s.pre enc C.prog fn conds apart (w.forCall tape i).memory i.args ∧ X (w.forCall tape i).memory i.args) ∧ sizedMet enc C.prog fn (OpenSpec.ofChange s) apart (w.forCall tape i).memory i.args) ∧ a.holds C.prog (lone (Frame.enter C.prog f i.args .normal) [] (w.forCall tape i)))
    (contract : ∀ (W : World) (base : Nat) (args : Array Value) (ds gs : List (DataW H)) (before : List MemPlace),
      (∀ (j : Nat) t v, fn.params[j]? = some t → args[j]? = some v → Value.okWide C.prog W .any base t v) →
      DataW.Whole enc C.prog fn.params.toList s.vars apart W args.toList ds gs before →
      (DataW.weightsEach C.prog (fn.params.toList ++ s.plain.varTypes C.prog) (ds ++ gs)).all (· ≤ reachBytes) = true → W.ShapedOpen C.prog → X W args →
      Calls C.prog f args W fun e W' => ∃ v, e = .returned v ∧ s.post enc C.prog fn apart fresh handsOn again W args v W') :
    ReturnsInHanded a C os f .any (fun w args => (s.pre enc C.prog fn conds apart w args ∧ X w args) ∧ sizedMet enc C.prog fn (OpenSpec.ofChange s) apart w args) (s.post enc C.prog fn apart fresh handsOn again) := by
  refine returnsInHanded_of_calls own started noInit witness ?_
  intro w tape i _ hsh _ hok hpre _
  obtain ⟨_, _, _, fn', hfn', _, _, _, _, hval⟩ := hok
  have e : fn' = fn := Option.some.inj (hfn'.symm.trans hfn)
  subst e
  obtain ⟨⟨⟨ds, gs, before, hw, _⟩, hx⟩, hz⟩ := hpre
  have hw' := DataW.Whole.of_heap (w' := w.forCall tape i) (by rfl) hw
  refine (contract (w.forCall tape i) w.heap.size i.args ds gs before hval hw' (hz.weights hw) hsh (hX _ _ _ (by rfl) hx)).mono fun e W' ⟨v, he, hp⟩ => ?_
  subst he
  exact ChangeSpec.post_blind hp
end Go.Proofs.YtbmiiiccnoiffaaGreatDoor
