/- A part of this claim. -/
import Derived.ChangeOld
import Derived.Deep.SlicePairs
import Derived.LaidLaws
import Derived.LaidMore
import Derived.Lib.LaidTab
import Derived.OpenShut
import Derived.ProofKit
import Derived.Shelf.Vars
import Derived.SizedLaws
import Derived.Test.YtijhemdnajlfnaaGreatDoorR45
import Derived.Test.YtijhemdnajlfnaaGreatDoorRows
namespace Go.Proofs.YtijhemdnajlfnaaGreatDoor
open _root_.Go.Proofs.Tryz
set_option maxHeartbeats 64000000
set_option maxRecDepth 100000
section
open Go.RowKit Go.ChangeShapes Go.WideShapes Go.WideMaps
theorem CU {H:Type} {P:Program} {e:TypeId} {n:Nat}:∀ {l:List (DataW H)} {d:DataW H},d ∈ l → n ∈ d.weights P e → n ∈ DataW.weightsAll P e l
 | q :: l,d,hd,hn => by
  unfold DataW.weightsAll
  rcases List.mem_cons.1 hd with rfl | hd
  ·exact List.mem_append.2 (.inl hn)
  exact List.mem_append.2 (.inr (CU hd hn))
theorem FX {H:Type} {enc:TypeId × Value → H} {W:World} {spare:Nat → Bool} {held:Bool} {fuel:Nat} {cs:List Value} {x:DataW H × List MemPlace}
  (h:DataW.trod enc prog W 0 spare held fuel 22 cs = some x):∃ ao len cap l,cs = [.slice ao len cap] ∧ jX W (.slice ao len cap) l ∧ ∀ f ∈ l,f.dir.size ∈ x.1.weights prog 22 ∧ f.name.size ∈ x.1.weights prog 22 ∧ f.data.size ∈ x.1.weights prog 22:=by
 have ce:prog.cellsOf 46 = 3:=by kernel_rfl
 rcases Go.Deep.open_slice underlying22 h with ⟨rfl,_⟩ | ⟨a,len,cap,m,n,D,Pl,rfl,_,hl,hm,hmm,rfl,hx⟩
 ·exact ⟨none,0,0,[],rfl,⟨none,0,rfl,by simp,fun h => absurd rfl h⟩,fun f hf => by simp at hf⟩
 have hlm:len ≤ m:=by rw [hmm];split <;> omega
 have hex:∀ i,∃ q:Fl,i < len → W.cell? (a.add (i * 3)) = some (.string q.dir) ∧ W.cell? (a.add (i * 3 + 1)) = some (.string q.name) ∧ W.cell? (a.add (i * 3 + 2)) = some (.string q.data) ∧ D i = .agg [.lit (.string q.dir.data.toList),.lit (.string q.name.data.toList),.lit (.string q.data.data.toList)]:=fun i => by
  by_cases hi:i < len
  ·obtain ⟨cs',h1,h2⟩:=hx i (by omega)
   rw [ce] at h1
   obtain ⟨_,hlen,hcell⟩:=World.cells?_some h1
   obtain ⟨xs,k,hk,hxy,_,hxl,hf⟩:=DataW.trod_struct underlying46 h2
   match xs,hxl,cs',hlen with
   | [y0,y1,y2],_,[v0,v1,v2],_ =>
    have g0:=hf 0 _ rfl
    have g1:=hf 1 _ rfl
    have g2:=hf 2 _ rfl
    have cst:prog.cellsOf 9 = 1:=by kernel_rfl
    simp [cst] at g0 g1 g2
    obtain ⟨s0,e0,d0,_⟩:=DataW.trod_string underlying9 g0
    obtain ⟨s1,e1,d1,_⟩:=DataW.trod_string underlying9 g1
    obtain ⟨s2,e2,d2,_⟩:=DataW.trod_string underlying9 g2
    injection e0 with e0
    injection e1 with e1
    injection e2 with e2
    have c0:=hcell 0 (by omega)
    have c1:=hcell 1 (by omega)
    have c2:=hcell 2 (by omega)
    rw [Go.Deep.add_add] at c0 c1 c2
    refine ⟨⟨s0,s1,s2⟩,fun _ => ⟨?_,?_,?_,?_⟩⟩
    ·rw [← e0];simpa using c0
    ·rw [← e1];simpa using c1
    ·rw [← e2];simpa using c2
    simp only [Prod.mk.injEq] at hxy
    rw [hxy.1]
    simp [d0,d1,d2]
  exact ⟨⟨ByteArray.empty,ByteArray.empty,ByteArray.empty⟩,fun h => absurd h hi⟩
 obtain ⟨q,hq⟩:=Classical.axiomOfChoice hex
 refine ⟨some a,len,cap,(List.range len).map q,rfl,?_,?_⟩
 ·refine ⟨some a,cap,by simp,by simp;omega,fun hne => ?_⟩
  have hpos:0 < len:=by
   rcases Nat.eq_zero_or_pos len with h0 | h0
   ·subst h0;simp at hne
   exact h0
  obtain ⟨b,off,spot⟩:=a
  have hc0:=(hq 0 hpos).1
  have hspot:spot = none:=by simpa [Addr.add] using World.cell?_spot hc0
  subst hspot
  refine ⟨b,off,rfl,?_,fun i hi j u hu => ?_⟩
  ·exact World.block_lt_of_cell? W _ (by rw [Addr.add_mid] at hc0;exact hc0)
  have hi2:i < len:=by simpa using hi
  obtain ⟨h1,h2,h3,_⟩:=hq i hi2
  rw [Addr.add_mid] at h1 h2 h3
  simp only [List.getElem_map,List.getElem_range,flC] at hu
  rcases j with _ | _ | _ | j
  ·simp at hu;rw [← hu];exact h1
  ·simp at hu;rw [← hu];exact h2
  ·simp at hu;rw [← hu];exact h3
  simp at hu
 intro f hf
 obtain ⟨i,hi,rfl⟩:=List.mem_map.1 hf
 have hi2:=List.mem_range.1 hi
 obtain ⟨_,_,_,h3⟩:=hq i hi2
 simp only [DataW.weights,underlying22]
 refine ⟨?_,?_,?_⟩ <;>
 ·refine List.mem_cons_of_mem _ (List.mem_append.2 (.inl (CU (d:=D i) (List.mem_map.2 ⟨i,hi,rfl⟩) ?_)))
  rw [h3]
  simp only [DataW.weights,underlying46]
  simp [DataW.weightsEach,DataW.weights]
def byteOf:Value → UInt8
 | .int _ n => UInt8.ofNat n.toNat
 | _ => 0
theorem NT {H:Type} {enc:TypeId × Value → H} {W:World} {spare:Nat → Bool} {held:Bool} {fuel base:Nat} {v:Value} {x:DataW H × List MemPlace} (hv:Value.okWide prog W .any base 24 v)
  (h:DataW.trod enc prog W 0 spare held fuel 24 v.cells.toList = some x):∃ l:List UInt8,v = .agg (idC l).toArray ∧ l.length = 32:=by
 have hc32:prog.cellsOf 24 = 32:=by kernel_rfl
 unfold Value.okWide at hv
 rw [underlying24] at hv
 dsimp only at hv
 obtain ⟨xs,rfl,hxs,_⟩:=hv
 rw [hc32] at hxs
 obtain ⟨ys,m,rfl,hx,hl,hyl,hi⟩:=DataW.trod_array underlying24 h
 have hc1:prog.cellsOf 5 = 1:=by kernel_rfl
 refine ⟨xs.toList.map byteOf,?_,by simp [hxs]⟩
 congr 1
 apply Array.ext'
 show xs.toList = idC (xs.toList.map byteOf)
 apply List.ext_getElem
 ·simp [idC]
 intro i h1 h2
 have hi32:i < 32:=by simpa [hxs] using h1
 have hk:=hi i hi32
 rw [hc1,Nat.mul_one] at hk
 have hy:i < ys.length:=by omega
 rw [List.getElem?_eq_getElem hy] at hk
 obtain ⟨n,hn,_,hw⟩:=DataW.trod_int underlying5 hk
 have hcell:xs.toList[i] = .int .u8 n:=by
  have h3:((Value.agg xs).cells.toList.drop i).take 1 = [xs.toList[i]]:=by
   show (xs.toList.drop i).take 1 = _
   rw [List.drop_eq_getElem_cons h1];rfl
  rw [h3] at hn
  exact List.cons.inj hn |>.1
 simp only [Lit.wf,Bool.and_eq_true,decide_eq_true_eq] at hw
 have e1:IntKind.u8.min = 0:=by decide
 have e2:IntKind.u8.max = 255:=by decide
 rw [e1,e2] at hw
 simp only [idC,List.getElem_map,hcell]
 have e3:((UInt8.ofNat n.toNat).toNat:Int) = n:=by rw [UInt8.toNat_ofNat',Nat.mod_eq_of_lt (by omega)];omega
 show Value.int .u8 n = .int .u8 ((UInt8.ofNat n.toNat).toNat:Int)
 rw [e3]
theorem AB {w:World} (h:w.ShapedOpen prog):mY w :=
 Go.Proofs.cell_of_shapedOpen_int (P:=prog) (g:=1) (t:=3) (zero:=#[.int .i64 0]) h (of_decide_eq_true (by kernel_rfl)) (by kernel_rfl) rfl (by kernel_rfl) (by kernel_rfl) underlying3
theorem oJ {H : Type} {enc : TypeId × Value → H} {a : Assume} {C : Checked} {os : Os} {f : FuncId} {fn : Func} {s : ChangeSpec} {conds : List PathCond} {apart fresh handsOn again : Bool} {X : World → Array Value → Prop}
    (hX : ∀ (w w' : World) (args : Array Value), w'.heap = w.heap → X w args → X w' args) (own : ownKnob C.prog.godebug = none) (started : os.Started) (noInit : C.prog.inits.idxOf? f = none) (hfn : C.prog.funcs[f]? = some fn)
    (witness : ∃ (w : World) (tape : Tape) (i : Input), w.os = os ∧ (w.forCall tape i).Shaped C.prog ∧ i.vars = [] ∧ Input.okWide C.prog (w.forCall tape i) .any w.heap.size f i ∧
      ((s.pre enc C.prog fn conds apart (w.forCall tape i).memory i.args ∧ X (w.forCall tape i).memory i.args) ∧ sizedMet enc C.prog fn (OpenSpec.ofChange s) apart (w.forCall tape i).memory i.args) ∧ a.holds C.prog (lone (Frame.enter C.prog f i.args .normal) [] (w.forCall tape i)))
    (contract : ∀ (W : World) (base : Nat) (args : Array Value) (ds gs : List (DataW H)) (before : List MemPlace),
      (∀ (j : Nat) t v, fn.params[j]? = some t → args[j]? = some v → Value.okWide C.prog W .any base t v) →
      DataW.Whole enc C.prog fn.params.toList s.vars apart W args.toList ds gs before →
      (DataW.weightsEach C.prog (fn.params.toList ++ s.plain.varTypes C.prog) (ds ++ gs)).all (· ≤ reachBytes) = true → W.ShapedOpen C.prog → X W args →
      Calls C.prog f args W fun e W' => ∃ v, e = .returned v ∧ s.post enc C.prog fn apart fresh handsOn again W args v W') :
    ReturnsInHanded a C os f .any (fun w args => (s.pre enc C.prog fn conds apart w args ∧ X w args) ∧ sizedMet enc C.prog fn (OpenSpec.ofChange s) apart w args) (s.post enc C.prog fn apart fresh handsOn again) := by
  refine returnsInHanded_of_calls own started noInit witness ?_
  intro w tape i _ hsh _ hok hpre _
  obtain ⟨_, _, _, fn', hfn', _, _, _, _, hval⟩ := hok
  have e : fn' = fn := Option.some.inj (hfn'.symm.trans hfn)
  subst e
  obtain ⟨⟨⟨ds, gs, before, hw, _⟩, hx⟩, hz⟩ := hpre
  have hw' := DataW.Whole.of_heap (w' := w.forCall tape i) (by rfl) hw
  refine (contract (w.forCall tape i) w.heap.size i.args ds gs before hval hw' (hz.weights hw) hsh (hX _ _ _ (by rfl) hx)).mono fun e W' ⟨v, he, hp⟩ => ?_
  subst he
  exact ChangeSpec.post_blind hp
theorem zl {rest:List (String × DataW Unit)} {W:World} (h:laidMet prog (("sediment/crc.halves",Rows.laid_sediment_crc_halves) :: ("sediment/digest.rounds",Rows.laid_sediment_digest_rounds) :: ("sediment/digest.first",Rows.laid_sediment_digest_first) :: rest) W):Laid W ∧ Crc W:=by
 obtain ⟨ps,⟨g0,t0,cs0,fuel0,p0,q0,hg0,ht0,hvar0,hd0,⟨g,t,cs,fuel,p,q,hg,ht,hvar,hd,⟨g2,t2,cs2,fuel2,p2,q2,hg2,ht2,hvar2,hd2,_,_⟩,_⟩,_⟩,_⟩:=h
 have e0:(Rows.laid_sediment_crc_halves:DataW Unit) = Lib.tabData .u32 (iR.map wn):=by kernel_rfl
 have e1:(Rows.laid_sediment_digest_rounds:DataW Unit) = Lib.tabData .u32 (mD.map wn):=by kernel_rfl
 have e2:(Rows.laid_sediment_digest_first:DataW Unit) = Lib.tabData .u32 (ME.map wn):=by kernel_rfl
 obtain rfl:=Option.some.inj ((show prog.globalNamed "sediment/crc.halves" = some 3 by kernel_rfl).symm.trans hg0)
 obtain rfl:=Option.some.inj ((show prog.globalNamed "sediment/digest.rounds" = some 4 by kernel_rfl).symm.trans hg)
 obtain rfl:=Option.some.inj ((show prog.globalNamed "sediment/digest.first" = some 2 by kernel_rfl).symm.trans hg2)
 obtain rfl:=Option.some.inj ((show (prog.globals[3]?).map (·.type) = some 411 by kernel_rfl).symm.trans ht0)
 obtain rfl:=Option.some.inj ((show (prog.globals[4]?).map (·.type) = some 306 by kernel_rfl).symm.trans ht)
 obtain rfl:=Option.some.inj ((show (prog.globals[2]?).map (·.type) = some 238 by kernel_rfl).symm.trans ht2)
 rw [e0] at hd0
 rw [e1] at hd
 rw [e2] at hd2
 have k0:=Lib.cells_of_tab underlying411 underlying237 (by kernel_rfl) (by kernel_rfl) hd0
 have k1:=Lib.cells_of_tab underlying306 underlying237 (by kernel_rfl) (by kernel_rfl) hd
 have k2:=Lib.cells_of_tab underlying238 underlying237 (by kernel_rfl) (by kernel_rfl) hd2
 have hsz:5 ≤ W.heap.size:=by
  have hc:W.cell? ⟨4,0,none⟩ = some (.int .u32 (wn (mD.getD 0 0))):=by
   rw [World.var?_cell hg hvar 0,← Array.getElem?_toList,k1];rfl
  have:=World.block_lt_of_cell? W _ hc
  dsimp only at this;omega
 refine ⟨⟨fun j u hu => ?_,fun j u hu => ?_,hsz⟩,⟨fun j u hu => ?_,by omega⟩⟩
 ·rw [Nat.zero_add,World.var?_cell hg hvar j,← Array.getElem?_toList,k1,List.map_map]
  exact hu
 ·rw [Nat.zero_add,World.var?_cell hg2 hvar2 j,← Array.getElem?_toList,k2]
  exact hu
 rw [Nat.zero_add,World.var?_cell hg0 hvar0 j,← Array.getElem?_toList,k0,List.map_map]
 exact hu
theorem OP {c r f:String × DataW Unit} {rest:List (String × DataW Unit)} {W:World} (h:laidMet prog (c :: r :: f :: ("sediment/disk.order",Rows.laid_sediment_disk_order) :: rest) W):W.rangeAt 0 0 [.string bV,.string bn,.string sRef]:=by
 obtain ⟨ps,⟨_,_,_,_,_,_,_,_,_,_,⟨_,_,_,_,_,_,_,_,_,_,⟨_,_,_,_,_,_,_,_,_,_,⟨g,t,cs,fuel,p,q,hg,ht,hvar,hd,_,_⟩,_⟩,_⟩,_⟩,_⟩:=h
 have e0:(Rows.laid_sediment_disk_order:DataW Unit) = .agg [.lit (.string bV.data.toList),.lit (.string bn.data.toList),.lit (.string sRef.data.toList)]:=by kernel_rfl
 obtain rfl:=Option.some.inj ((show prog.globalNamed "sediment/disk.order" = some 0 by kernel_rfl).symm.trans hg)
 obtain rfl:=Option.some.inj ((show (prog.globals[0]?).map (·.type) = some 115 by kernel_rfl).symm.trans ht)
 rw [e0] at hd
 have c1:prog.cellsOf 9 = 1:=by kernel_rfl
 obtain ⟨ys,m,_,hx,hl,hyl,hi⟩:=DataW.trod_array underlying115 hd
 intro j u hu
 rw [Nat.zero_add,World.var?_cell hg hvar j,← Array.getElem?_toList]
 have c3:prog.cellsOf 115 = 3:=by kernel_rfl
 rw [c3] at hl
 obtain ⟨L,hL⟩:∃ L,cs.toList = L:=⟨_,rfl⟩
 rw [hL] at hl hi ⊢
 match ys,hyl,L,hl with
 | [y0,y1,y2],_,[v0,v1,v2],_ =>
  have g0:=hi 0 (by omega)
  have g1:=hi 1 (by omega)
  have g2:=hi 2 (by omega)
  simp [c1] at g0 g1 g2
  obtain ⟨s0,a0,d0,_⟩:=DataW.trod_string underlying9 g0
  obtain ⟨s1,a1,d1,_⟩:=DataW.trod_string underlying9 g1
  obtain ⟨s2,a2,d2,_⟩:=DataW.trod_string underlying9 g2
  have b0:v0 = .string s0:=by simpa using a0
  have b1:v1 = .string s1:=by simpa using a1
  have b2:v2 = .string s2:=by simpa using a2
  simp [d0,d1,d2] at hx
  have x0:bV = s0:=fC (by rw [hx.1.1])
  have x1:bn = s1:=fC (by rw [hx.1.2.1])
  have x2:sRef = s2:=fC (by rw [hx.1.2.2])
  rw [b0,b1,b2,← x0,← x1,← x2]
  exact hu
end
end Go.Proofs.YtijhemdnajlfnaaGreatDoor
