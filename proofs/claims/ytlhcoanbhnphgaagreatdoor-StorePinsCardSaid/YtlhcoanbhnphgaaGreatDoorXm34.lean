/- A part of this claim. -/
import Derived.ChangeOld
import Derived.Deep.SlicePairs
import Derived.LaidLaws
import Derived.LaidMore
import Derived.Lib.LaidTab
import Derived.OpenShut
import Derived.ProofKit
import Derived.Shelf.Vars
import Derived.SizedLaws
import Derived.Test.YtlhcoanbhnphgaaGreatDoorRows
import Derived.Test.YtlhcoanbhnphgaaGreatDoorXm33
namespace Go.Proofs.YtlhcoanbhnphgaaGreatDoor
open _root_.Go.Proofs.Tryz
set_option maxHeartbeats 64000000
set_option maxRecDepth 100000
section
open Go.RowKit Go.ChangeShapes Go.WideShapes Go.WideMaps
theorem BX {w:World} (h:w.ShapedOpen prog):uR w :=
 Go.Proofs.cell_of_shapedOpen_int (P:=prog) (g:=1) (t:=3) (zero:=#[.int .i64 0]) h (of_decide_eq_true (by kernel_rfl)) (by kernel_rfl) rfl (by kernel_rfl) (by kernel_rfl) underlying3
theorem pU {H : Type} {enc : TypeId × Value → H} {a : Assume} {C : Checked} {os : Os} {f : FuncId} {fn : Func} {s : ChangeSpec} {conds : List PathCond} {apart fresh handsOn again : Bool} {X : World → Array Value → Prop}
    (hX : ∀ (w w' : World) (args : Array Value), w'.heap = w.heap → X w args → X w' args) (own : ownKnob C.prog.godebug = none) (started : os.Started) (noInit : C.prog.inits.idxOf? f = none) (hfn : C.prog.funcs[f]? = some fn)
    (witness : ∃ (w : World) (tape : Tape) (i : Input), w.os = os ∧ (w.forCall tape i).Shaped C.prog ∧ i.vars = [] ∧ Input.okWide C.prog (w.forCall tape i) .any w.heap.size f i ∧
      ((s.pre enc C.prog fn conds apart (w.forCall tape i).memory i.args ∧ X (w.forCall tape i).memory i.args) ∧ sizedMet enc C.prog fn (OpenSpec.ofChange s) apart (w.forCall tape i).memory i.args) ∧ a.holds C.prog (lone (Frame.enter C.prog f i.args .normal) [] (w.forCall tape i)))
    (contract : ∀ (W : World) (base : Nat) (args : Array Value) (ds gs : List (DataW H)) (before : List MemPlace),
      (∀ (j : Nat) t v, fn.params[j]? = some t → args[j]? = some v → Value.okWide C.prog W .any base t v) →
      DataW.Whole enc C.prog fn.params.toList s.vars apart W args.toList ds gs before →
      (DataW.weightsEach C.prog (fn.params.toList ++ s.plain.varTypes C.prog) (ds ++ gs)).all (· ≤ reachBytes) = true → W.ShapedOpen C.prog → X W args →
      Calls C.prog f args W fun e W' => ∃ v, e = .returned v ∧ s.post enc C.prog fn apart fresh handsOn again W args v W') :
    ReturnsInHanded a C os f .any (fun w args => (s.pre enc C.prog fn conds apart w args ∧ X w args) ∧ sizedMet enc C.prog fn (OpenSpec.ofChange s) apart w args) (s.post enc C.prog fn apart fresh handsOn again) := by
  refine returnsInHanded_of_calls own started noInit witness ?_
  intro w tape i _ hsh _ hok hpre _
  obtain ⟨_, _, _, fn', hfn', _, _, _, _, hval⟩ := hok
  have e : fn' = fn := Option.some.inj (hfn'.symm.trans hfn)
  subst e
  obtain ⟨⟨⟨ds, gs, before, hw, _⟩, hx⟩, hz⟩ := hpre
  have hw' := DataW.Whole.of_heap (w' := w.forCall tape i) (by rfl) hw
  refine (contract (w.forCall tape i) w.heap.size i.args ds gs before hval hw' (hz.weights hw) hsh (hX _ _ _ (by rfl) hx)).mono fun e W' ⟨v, he, hp⟩ => ?_
  subst he
  exact ChangeSpec.post_blind hp
theorem Az {rest:List (String×DataW Unit)} {W:World} (h:laidMet prog (("sediment/crc.halves",Rows.laid_sediment_crc_halves)::("sediment/digest.rounds",Rows.laid_sediment_digest_rounds)::("sediment/digest.first",Rows.laid_sediment_digest_first)::rest) W):Laid W∧Crc W:=by
 obtain ⟨ps,⟨H,G,y,l,K,F,b,m,a,i,⟨g,t,cs,s,p,q,x,z,k,hd,⟨g2,J,C,o,I,q2,f,r,d,e,_,_⟩,_⟩,_⟩,_⟩:=h
 have A:(Rows.laid_sediment_crc_halves:DataW Unit)=Lib.tabData .u32 (iJ.map wn):=by kernel_rfl
 have E:(Rows.laid_sediment_digest_rounds:DataW Unit)=Lib.tabData .u32 (jP.map wn):=by kernel_rfl
 have B:(Rows.laid_sediment_digest_first:DataW Unit)=Lib.tabData .u32 (Nh.map wn):=by kernel_rfl
 obtain rfl:=Option.some.inj ((show prog.globalNamed "sediment/crc.halves" = some 4 by kernel_rfl).symm.trans b)
 obtain rfl:=Option.some.inj ((show prog.globalNamed "sediment/digest.rounds" = some 3 by kernel_rfl).symm.trans x)
 obtain rfl:=Option.some.inj ((show prog.globalNamed "sediment/digest.first" = some 2 by kernel_rfl).symm.trans f)
 obtain rfl:=Option.some.inj ((show (prog.globals[4]?).map (·.type)=some 353 by kernel_rfl).symm.trans m)
 obtain rfl:=Option.some.inj ((show (prog.globals[3]?).map (·.type)=some 280 by kernel_rfl).symm.trans z)
 obtain rfl:=Option.some.inj ((show (prog.globals[2]?).map (·.type)=some 226 by kernel_rfl).symm.trans r)
 rw [A] at i
 rw [E] at hd
 rw [B] at e
 have v:=Lib.cells_of_tab underlying353 underlying225 (by kernel_rfl) (by kernel_rfl) i
 have k1:=Lib.cells_of_tab underlying280 underlying225 (by kernel_rfl) (by kernel_rfl) hd
 have k2:=Lib.cells_of_tab underlying226 underlying225 (by kernel_rfl) (by kernel_rfl) e
 have n:5≤W.heap.size:=by
  have D:W.cell? ⟨4,0,none⟩=some (.int .u32 (wn (iJ.getD 0 0))):=by
   rw [World.var?_cell b a 0,←Array.getElem?_toList,v];rfl
  have:=World.block_lt_of_cell? W _ D
  dsimp only at this;omega
 refine ⟨⟨fun j u hu=> ?_,fun j u hu=> ?_,n⟩,⟨fun j u hu=> ?_,by omega⟩⟩
 ·rw [Nat.zero_add,World.var?_cell x k j,←Array.getElem?_toList,k1,List.map_map]
  exact hu
 ·rw [Nat.zero_add,World.var?_cell f d j,←Array.getElem?_toList,k2]
  exact hu
 rw [Nat.zero_add,World.var?_cell b a j,←Array.getElem?_toList,v,List.map_map]
 exact hu
theorem Qf {c r f:String×DataW Unit} {rest:List (String×DataW Unit)} {W:World} (h:laidMet prog (c::r::f::("sediment/disk.order",Rows.laid_sediment_disk_order)::rest) W):W.rangeAt 0 0 [.string iA,.string mF,.string wW]:=by
 obtain ⟨ps,⟨_,_,_,_,_,_,_,_,_,_,⟨_,_,_,_,_,_,_,_,_,_,⟨_,_,_,_,_,_,_,_,_,_,⟨g,t,cs,i,p,q,k,z,a,hd,_,_⟩,_⟩,_⟩,_⟩,_⟩:=h
 have v:(Rows.laid_sediment_disk_order:DataW Unit)= .agg [.lit (.string iA.data.toList),.lit (.string mF.data.toList),.lit (.string wW.data.toList)]:=by kernel_rfl
 obtain rfl:=Option.some.inj ((show prog.globalNamed "sediment/disk.order" = some 0 by kernel_rfl).symm.trans k)
 obtain rfl:=Option.some.inj ((show (prog.globals[0]?).map (·.type)=some 78 by kernel_rfl).symm.trans z)
 rw [v] at hd
 have c1:prog.cellsOf 9=1:=by kernel_rfl
 obtain ⟨y,m,_,hx,d,b,hi⟩:=DataW.trod_array underlying78 hd
 intro j u hu
 rw [Nat.zero_add,World.var?_cell k a j,←Array.getElem?_toList]
 have c3:prog.cellsOf 78=3:=by kernel_rfl
 rw [c3] at d
 obtain ⟨L,n⟩:∃L,cs.toList=L:=⟨_,rfl⟩
 rw [n] at d hi ⊢
 match y,b,L,d with
 | [y0,y1,y2],_,[v0,v1,v2],_ =>
  have e:=hi 0 (by omega)
  have g1:=hi 1 (by omega)
  have g2:=hi 2 (by omega)
  simp [c1] at e g1 g2
  obtain ⟨s0,B,A,_⟩:=DataW.trod_string underlying9 e
  obtain ⟨s1,a1,x,_⟩:=DataW.trod_string underlying9 g1
  obtain ⟨s2,a2,l,_⟩:=DataW.trod_string underlying9 g2
  have o:v0= .string s0:=by simpa using B
  have s:v1= .string s1:=by simpa using a1
  have C:v2= .string s2:=by simpa using a2
  simp [A,x,l] at hx
  have x0:iA=s0:=kH (by rw [hx.1.1])
  have x1:mF=s1:=kH (by rw [hx.1.2.1])
  have x2:wW=s2:=kH (by rw [hx.1.2.2])
  rw [o,s,C,←x0,←x1,←x2]
  exact hu
theorem N7 {H:Type} {enc:TypeId×Value→H} {W:World} {d:Nat→Bool} {g:Bool} {f:Nat} {L:List Value} {x:DataW H×List MemPlace} (i:L.length=8)
  (h:DataW.trod enc prog W 0 d g f 36 L=some x):∃a:Ac,L=acL a:=by
 obtain ⟨F,k,N,I,_,l,b⟩:=DataW.trod_struct underlying36 h
 have s:prog.cellsOf 3=1:=by kernel_rfl
 have cs:prog.cellsOf 9=1:=by kernel_rfl
 have J:prog.cellsOf 4=1:=by kernel_rfl
 have D:prog.cellsOf 33=2:=by kernel_rfl
 have E:prog.cellsOf 34=1:=by kernel_rfl
 match F,l,L,i with
 | [y0,y1,y2,y3,y4,y5,y6],_,[v0,v1,v2,v3,v4,v5,v6,v7],_ =>
  have v:=b 0 _ rfl
  have g1:=b 1 _ rfl
  have g2:=b 2 _ rfl
  have g3:=b 3 _ rfl
  have n:=b 4 _ rfl
  have t:=b 5 _ rfl
  have B:=b 6 _ rfl
  simp [s,cs,J,D,E] at v g1 g2 g3 n t B
  obtain ⟨M,p,_⟩:=DataW.trod_int underlying3 v
  obtain ⟨n1,A,_⟩:=DataW.trod_int underlying3 g1
  obtain ⟨n2,r,_⟩:=DataW.trod_int underlying3 g2
  obtain ⟨n3,q,_⟩:=DataW.trod_string underlying9 g3
  obtain ⟨K,u,_⟩:=DataW.trod_bool underlying4 t
  obtain ⟨G,m,hm,_,_,j,y⟩:=DataW.trod_struct underlying33 n
  have o:=y 0 _ rfl
  have k1:=y 1 _ rfl
  match G,j with
  | [z0,z1],_ =>
   simp [s,cs] at o k1
   obtain ⟨O,z,_⟩:=DataW.trod_int underlying3 o
   obtain ⟨P,a1,_⟩:=DataW.trod_string underlying9 k1
   have C:∃pa pn pc,v7= .slice pa pn pc:=by
    rcases Go.Deep.open_slice underlying34 B with ⟨e,_⟩|⟨a,len,cap,_,_,_,_,e,_⟩
    ·exact ⟨_,_,_,by simpa using e⟩
    exact ⟨_,_,_,by simpa using e⟩
   obtain ⟨pa,pn,pc,rfl⟩:=C
   simp at p A r q u z a1
   subst p A r q u z a1
   exact ⟨⟨_,_,_,_,_,_,_,_,_,_⟩,rfl⟩
theorem K6 {H:Type} {enc:TypeId×Value→H} {W:World} {d:Nat→Bool} {s:Bool} {o:Nat} {cs:List Value} {x:DataW H×List MemPlace}
  (h:DataW.trod enc prog W 0 d s o 22 cs=some x):∃C len cap l,cs=[.slice C len cap]∧o7 W (.slice C len cap) l:=by
 have F:prog.cellsOf 36=8:=by kernel_rfl
 rcases Go.Deep.open_slice underlying22 h with ⟨rfl,_⟩|⟨a,len,cap,m,n,D,Pl,rfl,_,K,hm,v,rfl,hx⟩
 ·exact ⟨none,0,0,[],rfl,⟨none,0,rfl,by simp,fun h=>absurd rfl h⟩⟩
 have I:len≤m:=by rw [v];split<;>omega
 have y:∀i,∃q:Ac,i<len→ ∀j u,(acL q)[j]? = some u→W.cell? (a.add (i*8+j))=some u:=fun i=>by
  by_cases hi:i<len
  ·obtain ⟨E,h1,G⟩:=hx i (by omega)
   rw [F] at h1
   obtain ⟨_,p,g⟩:=World.cells?_some h1
   obtain ⟨q,rfl⟩:=N7 p G
   refine ⟨q,fun _ j u hu=> ?_⟩
   have J:j<8:=(List.getElem?_eq_some_iff.1 hu).1
   have:=g j J
   rw [Go.Deep.add_add] at this
   rw [this,hu]
  exact ⟨⟨0,0,0,ByteArray.empty,0,ByteArray.empty,false,none,0,0⟩,fun h=>absurd h hi⟩
 obtain ⟨q,B⟩:=Classical.axiomOfChoice y
 refine ⟨some a,len,cap,(List.range len).map q,rfl,some a,cap,by simp,by simp;omega,fun t=> ?_⟩
 have r:0<len:=by
  rcases Nat.eq_zero_or_pos len with A|A
  ·subst A;simp at t
  exact A
 obtain ⟨b,off,k⟩:=a
 have e:=B 0 r 0 _ rfl
 have f:k=none:=by simpa [Addr.add] using World.cell?_spot e
 subst f
 refine ⟨b,off,rfl,?_,fun i hi j u hu=> ?_⟩
 ·exact World.block_lt_of_cell? W _ (by rw [Addr.add_mid] at e;exact e)
 have z:i<len:=by simpa using hi
 simp only [List.getElem_map,List.getElem_range] at hu
 have:=B i z j u hu
 rw [Addr.add_mid] at this
 rw [Nat.add_assoc]
 exact this
end
end Go.Proofs.YtlhcoanbhnphgaaGreatDoor
