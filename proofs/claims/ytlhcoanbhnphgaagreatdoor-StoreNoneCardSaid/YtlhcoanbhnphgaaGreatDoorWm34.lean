/- A part of this claim. -/
import Derived.ChangeOld
import Derived.Deep.SlicePairs
import Derived.LaidLaws
import Derived.LaidMore
import Derived.Lib.LaidTab
import Derived.OpenShut
import Derived.ProofKit
import Derived.Shelf.Vars
import Derived.SizedLaws
import Derived.Test.YtlhcoanbhnphgaaGreatDoorRows
import Derived.Test.YtlhcoanbhnphgaaGreatDoorWm33
namespace Go.Proofs.YtlhcoanbhnphgaaGreatDoor
open _root_.Go.Proofs.Tryz
set_option maxHeartbeats 64000000
set_option maxRecDepth 100000
section
open Go.RowKit Go.ChangeShapes Go.WideShapes Go.WideMaps
theorem Jc {H:Type} {enc:TypeId × Value → H} {W:World} {spare:Nat → Bool} {held:Bool} {fuel base:Nat} {v:Value} {x:DataW H × List MemPlace} (hv:Value.okWide prog W .any base 36 v)
  (h:DataW.trod enc prog W 0 spare held fuel 36 v.cells.toList = some x):∃ (k s n:Int) (nm:ByteArray) (ok:Int) (ob:ByteArray) (wr:Bool) (pa:Option Addr) (pn pc:Nat),v = .agg (acC k s n nm ok ob wr (.slice pa pn pc)).toArray:=by
 have hc8:prog.cellsOf 36 = 8:=by kernel_rfl
 obtain ⟨xs,rfl,hxs⟩:=okWide_struct underlying36 hv
 rw [hc8] at hxs
 have hcl:(Value.agg xs).cells.toList = xs.toList:=rfl
 rw [hcl] at h
 obtain ⟨ys,k,hk,hxy,_,hyl,hf⟩:=DataW.trod_struct underlying36 h
 obtain ⟨L,hL⟩:∃ L,xs.toList = L:=⟨_,rfl⟩
 have hLl:L.length = 8:=by rw [← hL];simpa using hxs
 have hxa:xs = L.toArray:=by rw [← hL]
 subst hxa
 rw [hL] at hf
 have ci:prog.cellsOf 3 = 1:=by kernel_rfl
 have cs:prog.cellsOf 9 = 1:=by kernel_rfl
 have cb:prog.cellsOf 4 = 1:=by kernel_rfl
 have co:prog.cellsOf 33 = 2:=by kernel_rfl
 have cp:prog.cellsOf 34 = 1:=by kernel_rfl
 match ys,hyl,L,hLl with
 | [y0,y1,y2,y3,y4,y5,y6],_,[v0,v1,v2,v3,v4,v5,v6,v7],_ =>
  have g0:=hf 0 _ rfl
  have g1:=hf 1 _ rfl
  have g2:=hf 2 _ rfl
  have g3:=hf 3 _ rfl
  have g4:=hf 4 _ rfl
  have g5:=hf 5 _ rfl
  have g6:=hf 6 _ rfl
  simp [ci,cs,cb,co,cp] at g0 g1 g2 g3 g4 g5 g6
  obtain ⟨n0,e0,_⟩:=DataW.trod_int underlying3 g0
  obtain ⟨n1,e1,_⟩:=DataW.trod_int underlying3 g1
  obtain ⟨n2,e2,_⟩:=DataW.trod_int underlying3 g2
  obtain ⟨n3,e3,_⟩:=DataW.trod_string underlying9 g3
  obtain ⟨n5,e5,_⟩:=DataW.trod_bool underlying4 g5
  obtain ⟨zs,m,hm,_,_,hzl,hg⟩:=DataW.trod_struct underlying33 g4
  have k0:=hg 0 _ rfl
  have k1:=hg 1 _ rfl
  match zs,hzl with
  | [z0,z1],_ =>
   simp [ci,cs] at k0 k1
   obtain ⟨m0,a0,_⟩:=DataW.trod_int underlying3 k0
   obtain ⟨m1,a1,_⟩:=DataW.trod_string underlying9 k1
   have hp:∃ pa pn pc,v7 = .slice pa pn pc:=by
    rcases Go.Deep.open_slice underlying34 g6 with ⟨e,_⟩ | ⟨a,len,cap,_,_,_,_,e,_⟩
    ·exact ⟨_,_,_,by simpa using e⟩
    exact ⟨_,_,_,by simpa using e⟩
   obtain ⟨pa,pn,pc,rfl⟩:=hp
   simp at e0 e1 e2 e3 e5 a0 a1
   subst e0 e1 e2 e3 e5 a0 a1
   exact ⟨_,_,_,_,_,_,_,_,_,_,rfl⟩
theorem xJ {w:World} (h:w.ShapedOpen prog):kW w :=
 Go.Proofs.cell_of_shapedOpen_int (P:=prog) (g:=1) (t:=3) (zero:=#[.int .i64 0]) h (of_decide_eq_true (by kernel_rfl)) (by kernel_rfl) rfl (by kernel_rfl) (by kernel_rfl) underlying3
theorem mH {H : Type} {enc : TypeId × Value → H} {a : Assume} {C : Checked} {os : Os} {f : FuncId} {fn : Func} {s : ChangeSpec} {conds : List PathCond} {apart fresh handsOn again : Bool} {X : World → Array Value → Prop}
    (hX : ∀ (w w' : World) (args : Array Value), w'.heap = w.heap → X w args → X w' args) (own : ownKnob C.prog.godebug = none) (started : os.Started) (noInit : C.prog.inits.idxOf? f = none) (hfn : C.prog.funcs[f]? = some fn)
    (witness : ∃ (w : World) (tape : Tape) (i : Input), w.os = os ∧ (w.forCall tape i).Shaped C.prog ∧ i.vars = [] ∧ Input.okWide C.prog (w.forCall tape i) .any w.heap.size f i ∧
      ((s.pre enc C.prog fn conds apart (w.forCall tape i).memory i.args ∧ X (w.forCall tape i).memory i.args) ∧ sizedMet enc C.prog fn (OpenSpec.ofChange s) apart (w.forCall tape i).memory i.args) ∧ a.holds C.prog (lone (Frame.enter C.prog f i.args .normal) [] (w.forCall tape i)))
    (contract : ∀ (W : World) (base : Nat) (args : Array Value) (ds gs : List (DataW H)) (before : List MemPlace),
      (∀ (j : Nat) t v, fn.params[j]? = some t → args[j]? = some v → Value.okWide C.prog W .any base t v) →
      DataW.Whole enc C.prog fn.params.toList s.vars apart W args.toList ds gs before →
      (DataW.weightsEach C.prog (fn.params.toList ++ s.plain.varTypes C.prog) (ds ++ gs)).all (· ≤ reachBytes) = true → W.ShapedOpen C.prog → X W args →
      Calls C.prog f args W fun e W' => ∃ v, e = .returned v ∧ s.post enc C.prog fn apart fresh handsOn again W args v W') :
    ReturnsInHanded a C os f .any (fun w args => (s.pre enc C.prog fn conds apart w args ∧ X w args) ∧ sizedMet enc C.prog fn (OpenSpec.ofChange s) apart w args) (s.post enc C.prog fn apart fresh handsOn again) := by
  refine returnsInHanded_of_calls own started noInit witness ?_
  intro w tape i _ hsh _ hok hpre _
  obtain ⟨_, _, _, fn', hfn', _, _, _, _, hval⟩ := hok
  have e : fn' = fn := Option.some.inj (hfn'.symm.trans hfn)
  subst e
  obtain ⟨⟨⟨ds, gs, before, hw, _⟩, hx⟩, hz⟩ := hpre
  have hw' := DataW.Whole.of_heap (w' := w.forCall tape i) (by rfl) hw
  refine (contract (w.forCall tape i) w.heap.size i.args ds gs before hval hw' (hz.weights hw) hsh (hX _ _ _ (by rfl) hx)).mono fun e W' ⟨v, he, hp⟩ => ?_
  subst he
  exact ChangeSpec.post_blind hp
theorem wm {rest:List (String × DataW Unit)} {W:World} (h:laidMet prog (("sediment/crc.halves",Rows.laid_sediment_crc_halves) :: ("sediment/digest.rounds",Rows.laid_sediment_digest_rounds) :: ("sediment/digest.first",Rows.laid_sediment_digest_first) :: rest) W):Laid W ∧ Crc W:=by
 obtain ⟨ps,⟨g0,t0,cs0,fuel0,p0,q0,hg0,ht0,hvar0,hd0,⟨g,t,cs,fuel,p,q,hg,ht,hvar,hd,⟨g2,t2,cs2,fuel2,p2,q2,hg2,ht2,hvar2,hd2,_,_⟩,_⟩,_⟩,_⟩:=h
 have e0:(Rows.laid_sediment_crc_halves:DataW Unit) = Lib.tabData .u32 (fT.map wn):=by kernel_rfl
 have e1:(Rows.laid_sediment_digest_rounds:DataW Unit) = Lib.tabData .u32 (iZ.map wn):=by kernel_rfl
 have e2:(Rows.laid_sediment_digest_first:DataW Unit) = Lib.tabData .u32 (Io.map wn):=by kernel_rfl
 obtain rfl:=Option.some.inj ((show prog.globalNamed "sediment/crc.halves" = some 4 by kernel_rfl).symm.trans hg0)
 obtain rfl:=Option.some.inj ((show prog.globalNamed "sediment/digest.rounds" = some 3 by kernel_rfl).symm.trans hg)
 obtain rfl:=Option.some.inj ((show prog.globalNamed "sediment/digest.first" = some 2 by kernel_rfl).symm.trans hg2)
 obtain rfl:=Option.some.inj ((show (prog.globals[4]?).map (·.type) = some 353 by kernel_rfl).symm.trans ht0)
 obtain rfl:=Option.some.inj ((show (prog.globals[3]?).map (·.type) = some 280 by kernel_rfl).symm.trans ht)
 obtain rfl:=Option.some.inj ((show (prog.globals[2]?).map (·.type) = some 226 by kernel_rfl).symm.trans ht2)
 rw [e0] at hd0
 rw [e1] at hd
 rw [e2] at hd2
 have k0:=Lib.cells_of_tab underlying353 underlying225 (by kernel_rfl) (by kernel_rfl) hd0
 have k1:=Lib.cells_of_tab underlying280 underlying225 (by kernel_rfl) (by kernel_rfl) hd
 have k2:=Lib.cells_of_tab underlying226 underlying225 (by kernel_rfl) (by kernel_rfl) hd2
 have hsz:5 ≤ W.heap.size:=by
  have hc:W.cell? ⟨4,0,none⟩ = some (.int .u32 (wn (fT.getD 0 0))):=by
   rw [World.var?_cell hg0 hvar0 0,← Array.getElem?_toList,k0];rfl
  have:=World.block_lt_of_cell? W _ hc
  dsimp only at this;omega
 refine ⟨⟨fun j u hu => ?_,fun j u hu => ?_,hsz⟩,⟨fun j u hu => ?_,by omega⟩⟩
 ·rw [Nat.zero_add,World.var?_cell hg hvar j,← Array.getElem?_toList,k1,List.map_map]
  exact hu
 ·rw [Nat.zero_add,World.var?_cell hg2 hvar2 j,← Array.getElem?_toList,k2]
  exact hu
 rw [Nat.zero_add,World.var?_cell hg0 hvar0 j,← Array.getElem?_toList,k0,List.map_map]
 exact hu
theorem K5 {c r f:String × DataW Unit} {rest:List (String × DataW Unit)} {W:World} (h:laidMet prog (c :: r :: f :: ("sediment/disk.order",Rows.laid_sediment_disk_order) :: rest) W):W.rangeAt 0 0 [.string fM,.string jZ,.string sRef]:=by
 obtain ⟨ps,⟨_,_,_,_,_,_,_,_,_,_,⟨_,_,_,_,_,_,_,_,_,_,⟨_,_,_,_,_,_,_,_,_,_,⟨g,t,cs,fuel,p,q,hg,ht,hvar,hd,_,_⟩,_⟩,_⟩,_⟩,_⟩:=h
 have e0:(Rows.laid_sediment_disk_order:DataW Unit) = .agg [.lit (.string fM.data.toList),.lit (.string jZ.data.toList),.lit (.string sRef.data.toList)]:=by kernel_rfl
 obtain rfl:=Option.some.inj ((show prog.globalNamed "sediment/disk.order" = some 0 by kernel_rfl).symm.trans hg)
 obtain rfl:=Option.some.inj ((show (prog.globals[0]?).map (·.type) = some 78 by kernel_rfl).symm.trans ht)
 rw [e0] at hd
 have c1:prog.cellsOf 9 = 1:=by kernel_rfl
 obtain ⟨ys,m,_,hx,hl,hyl,hi⟩:=DataW.trod_array underlying78 hd
 intro j u hu
 rw [Nat.zero_add,World.var?_cell hg hvar j,← Array.getElem?_toList]
 have c3:prog.cellsOf 78 = 3:=by kernel_rfl
 rw [c3] at hl
 obtain ⟨L,hL⟩:∃ L,cs.toList = L:=⟨_,rfl⟩
 rw [hL] at hl hi ⊢
 match ys,hyl,L,hl with
 | [y0,y1,y2],_,[v0,v1,v2],_ =>
  have g0:=hi 0 (by omega)
  have g1:=hi 1 (by omega)
  have g2:=hi 2 (by omega)
  simp [c1] at g0 g1 g2
  obtain ⟨s0,a0,d0,_⟩:=DataW.trod_string underlying9 g0
  obtain ⟨s1,a1,d1,_⟩:=DataW.trod_string underlying9 g1
  obtain ⟨s2,a2,d2,_⟩:=DataW.trod_string underlying9 g2
  have b0:v0 = .string s0:=by simpa using a0
  have b1:v1 = .string s1:=by simpa using a1
  have b2:v2 = .string s2:=by simpa using a2
  simp [d0,d1,d2] at hx
  have x0:fM = s0:=iU (by rw [hx.1.1])
  have x1:jZ = s1:=iU (by rw [hx.1.2.1])
  have x2:sRef = s2:=iU (by rw [hx.1.2.2])
  rw [b0,b1,b2,← x0,← x1,← x2]
  exact hu
end
end Go.Proofs.YtlhcoanbhnphgaaGreatDoor
