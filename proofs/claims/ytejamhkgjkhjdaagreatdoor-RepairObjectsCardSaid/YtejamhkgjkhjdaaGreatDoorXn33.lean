/- A part of this claim. -/
import Derived.ChangeOld
import Derived.Deep.SlicePairs
import Derived.LaidLaws
import Derived.LaidMore
import Derived.Lib.LaidTab
import Derived.OpenShut
import Derived.ProofKit
import Derived.Shelf.Vars
import Derived.SizedLaws
import Derived.Test.YtejamhkgjkhjdaaGreatDoorRows
import Derived.Test.YtejamhkgjkhjdaaGreatDoorXn32
namespace Go.Proofs.YtejamhkgjkhjdaaGreatDoor
open _root_.Go.Proofs.Tryz
set_option maxHeartbeats 64000000
set_option maxRecDepth 100000
section
open Go.RowKit Go.ChangeShapes Go.WideShapes Go.WideMaps
theorem yS {w:World} (h:w.ShapedOpen prog):qR w :=
 Go.Proofs.cell_of_shapedOpen_int (P:=prog) (g:=1) (t:=3) (zero:=#[.int .i64 0]) h (of_decide_eq_true (by kernel_rfl)) (by kernel_rfl) rfl (by kernel_rfl) (by kernel_rfl) underlying3
theorem ni {H : Type} {enc : TypeId × Value → H} {a : Assume} {C : Checked} {os : Os} {f : FuncId} {fn : Func} {s : ChangeSpec} {conds : List PathCond} {apart fresh handsOn again : Bool} {X : World → Array Value → Prop}
    (hX : ∀ (w w' : World) (args : Array Value), w'.heap = w.heap → X w args → X w' args) (own : ownKnob C.prog.godebug = none) (started : os.Started) (noInit : C.prog.inits.idxOf? f = none) (hfn : C.prog.funcs[f]? = some fn)
    (witness : ∃ (w : World) (tape : Tape) (i : Input), w.os = os ∧ (w.forCall tape i).Shaped C.prog ∧ i.vars = [] ∧ Input.okWide C.prog (w.forCall tape i) .any w.heap.size f i ∧
      ((s.pre enc C.prog fn conds apart (w.forCall tape i).memory i.args ∧ X (w.forCall tape i).memory i.args) ∧ sizedMet enc C.prog fn (OpenSpec.ofChange s) apart (w.forCall tape i).memory i.args) ∧ a.holds C.prog (lone (Frame.enter C.prog f i.args .normal) [] (w.forCall tape i)))
    (contract : ∀ (W : World) (base : Nat) (args : Array Value) (ds gs : List (DataW H)) (before : List MemPlace),
      (∀ (j : Nat) t v, fn.params[j]? = some t → args[j]? = some v → Value.okWide C.prog W .any base t v) →
      DataW.Whole enc C.prog fn.params.toList s.vars apart W args.toList ds gs before →
      (DataW.weightsEach C.prog (fn.params.toList ++ s.plain.varTypes C.prog) (ds ++ gs)).all (· ≤ reachBytes) = true → W.ShapedOpen C.prog → X W args →
      Calls C.prog f args W fun e W' => ∃ v, e = .returned v ∧ s.post enc C.prog fn apart fresh handsOn again W args v W') :
    ReturnsInHanded a C os f .any (fun w args => (s.pre enc C.prog fn conds apart w args ∧ X w args) ∧ sizedMet enc C.prog fn (OpenSpec.ofChange s) apart w args) (s.post enc C.prog fn apart fresh handsOn again) := by
  refine returnsInHanded_of_calls own started noInit witness ?_
  intro w tape i _ hsh _ hok hpre _
  obtain ⟨_, _, _, fn', hfn', _, _, _, _, hval⟩ := hok
  have e : fn' = fn := Option.some.inj (hfn'.symm.trans hfn)
  subst e
  obtain ⟨⟨⟨ds, gs, before, hw, _⟩, hx⟩, hz⟩ := hpre
  have hw' := DataW.Whole.of_heap (w' := w.forCall tape i) (by rfl) hw
  refine (contract (w.forCall tape i) w.heap.size i.args ds gs before hval hw' (hz.weights hw) hsh (hX _ _ _ (by rfl) hx)).mono fun e W' ⟨v, he, hp⟩ => ?_
  subst he
  exact ChangeSpec.post_blind hp
theorem xu {rest:List (String×DataW Unit)} {W:World} (h:laidMet prog (("sediment/crc.halves",Rows.laid_sediment_crc_halves)::("sediment/digest.rounds",Rows.laid_sediment_digest_rounds)::("sediment/digest.first",Rows.laid_sediment_digest_first)::rest) W):Laid W∧Crc W:=by
 obtain ⟨ps,⟨J,K,C,n,I,H,k,s,b,e,⟨g,t,cs,v,p,q,o,z,a,hd,⟨g2,G,x,m,F,q2,f,r,d,i,_,_⟩,_⟩,_⟩,_⟩:=h
 have A:(Rows.laid_sediment_crc_halves:DataW Unit)=Lib.tabData .u32 (gM.map wn):=by kernel_rfl
 have B:(Rows.laid_sediment_digest_rounds:DataW Unit)=Lib.tabData .u32 (iI.map wn):=by kernel_rfl
 have E:(Rows.laid_sediment_digest_first:DataW Unit)=Lib.tabData .u32 (J3.map wn):=by kernel_rfl
 obtain rfl:=Option.some.inj ((show prog.globalNamed "sediment/crc.halves" = some 2 by kernel_rfl).symm.trans k)
 obtain rfl:=Option.some.inj ((show prog.globalNamed "sediment/digest.rounds" = some 4 by kernel_rfl).symm.trans o)
 obtain rfl:=Option.some.inj ((show prog.globalNamed "sediment/digest.first" = some 3 by kernel_rfl).symm.trans f)
 obtain rfl:=Option.some.inj ((show (prog.globals[2]?).map (·.type)=some 350 by kernel_rfl).symm.trans s)
 obtain rfl:=Option.some.inj ((show (prog.globals[4]?).map (·.type)=some 395 by kernel_rfl).symm.trans z)
 obtain rfl:=Option.some.inj ((show (prog.globals[3]?).map (·.type)=some 305 by kernel_rfl).symm.trans r)
 rw [A] at e
 rw [B] at hd
 rw [E] at i
 have D:=Lib.cells_of_tab underlying350 underlying87 (by kernel_rfl) (by kernel_rfl) e
 have k1:=Lib.cells_of_tab underlying395 underlying87 (by kernel_rfl) (by kernel_rfl) hd
 have k2:=Lib.cells_of_tab underlying305 underlying87 (by kernel_rfl) (by kernel_rfl) i
 have l:5≤W.heap.size:=by
  have y:W.cell? ⟨4,0,none⟩=some (.int .u32 (wn (iI.getD 0 0))):=by
   rw [World.var?_cell o a 0,←Array.getElem?_toList,k1];rfl
  have:=World.block_lt_of_cell? W _ y
  dsimp only at this;omega
 refine ⟨⟨fun j u hu=> ?_,fun j u hu=> ?_,l⟩,⟨fun j u hu=> ?_,by omega⟩⟩
 ·rw [Nat.zero_add,World.var?_cell o a j,←Array.getElem?_toList,k1,List.map_map]
  exact hu
 ·rw [Nat.zero_add,World.var?_cell f d j,←Array.getElem?_toList,k2]
  exact hu
 rw [Nat.zero_add,World.var?_cell k b j,←Array.getElem?_toList,D,List.map_map]
 exact hu
theorem MI {c r f:String×DataW Unit} {rest:List (String×DataW Unit)} {W:World} (h:laidMet prog (c::r::f::("sediment/disk.order",Rows.laid_sediment_disk_order)::rest) W):W.rangeAt 0 0 [.string bI,.string iZ,.string iR]:=by
 obtain ⟨ps,⟨_,_,_,_,_,_,_,_,_,_,⟨_,_,_,_,_,_,_,_,_,_,⟨_,_,_,_,_,_,_,_,_,_,⟨g,t,cs,l,p,q,i,y,a,hd,_,_⟩,_⟩,_⟩,_⟩,_⟩:=h
 have z:(Rows.laid_sediment_disk_order:DataW Unit)= .agg [.lit (.string bI.data.toList),.lit (.string iZ.data.toList),.lit (.string iR.data.toList)]:=by kernel_rfl
 obtain rfl:=Option.some.inj ((show prog.globalNamed "sediment/disk.order" = some 0 by kernel_rfl).symm.trans i)
 obtain rfl:=Option.some.inj ((show (prog.globals[0]?).map (·.type)=some 83 by kernel_rfl).symm.trans y)
 rw [z] at hd
 have c1:prog.cellsOf 9=1:=by kernel_rfl
 obtain ⟨x,m,_,hx,d,b,hi⟩:=DataW.trod_array underlying83 hd
 intro j u hu
 rw [Nat.zero_add,World.var?_cell i a j,←Array.getElem?_toList]
 have c3:prog.cellsOf 83=3:=by kernel_rfl
 rw [c3] at d
 obtain ⟨L,B⟩:∃L,cs.toList=L:=⟨_,rfl⟩
 rw [B] at d hi ⊢
 match x,b,L,d with
 | [y0,y1,y2],_,[v0,v1,v2],_ =>
  have k:=hi 0 (by omega)
  have g1:=hi 1 (by omega)
  have g2:=hi 2 (by omega)
  simp [c1] at k g1 g2
  obtain ⟨e,s,v,_⟩:=DataW.trod_string underlying9 k
  obtain ⟨s1,a1,o,_⟩:=DataW.trod_string underlying9 g1
  obtain ⟨s2,a2,D,_⟩:=DataW.trod_string underlying9 g2
  have C:v0= .string e:=by simpa using s
  have A:v1= .string s1:=by simpa using a1
  have n:v2= .string s2:=by simpa using a2
  simp [v,o,D] at hx
  have E:bI=e:=gU (by rw [hx.1.1])
  have x1:iZ=s1:=gU (by rw [hx.1.2.1])
  have x2:iR=s2:=gU (by rw [hx.1.2.2])
  rw [C,A,n,←E,←x1,←x2]
  exact hu
end
end Go.Proofs.YtejamhkgjkhjdaaGreatDoor
