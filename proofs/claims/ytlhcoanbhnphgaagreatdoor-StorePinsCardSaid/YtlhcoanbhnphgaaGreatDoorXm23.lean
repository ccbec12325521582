/- A part of this claim. -/
import Derived.Shelf.SlIter.Collect
import Derived.Test.YtlhcoanbhnphgaaGreatDoorXm10
namespace Go.Proofs.YtlhcoanbhnphgaaGreatDoor
open Tryz
set_option maxHeartbeats 64000000
set_option maxRecDepth 100000
section
open Go.RowKit Go.Maps Go.Sort Go.Shelf
section
variable {F:Fence} {n':Nat} {P:Program} {w:World} {ops:Array Oper} {rest:List Oper} {o:Oper} {a:Act} {Q:Exit → Act → World → Prop}
theorem iy (k:o.guard=none) (ty:TypeId) (x:Operand) (e:o.op= .load ty x) (b off:Nat) (hx:a.eval x= .pointer (some ⟨b,off,none⟩)) (cs:List Value) (d:TypeDesc) (i:w.rangeAt b off cs)
  (hu:P.underlying ty=some d) (hd:d.isRow=true) (hi:(P.info? ty).map (·.size)=some cs.length) (j:wpListIn F n' P ops Q rest (a.put o.dst (.agg cs.toArray)) w):wpListIn F n' P ops Q (o::rest) a w:=by
 refine wpListIn_plain k fun K g=> ?_
 have f:=run_loadAt_mid (P:=P) w b off ty cs d i hu hd hi
 unfold Oper.wpIn
 refine ⟨by simp [Oper.about,e],?_⟩
 rw [Oper.semAt_plain F _ _ (by rw [e];intro c h;cases h)]
 simp [execOp,e,hx,f,Result.andThen]
 exact g _ _ j
theorem gN (k:o.guard=none) (ty:TypeId) (x v:Operand) (d:o.op= .store ty x v) (b off:Nat) (cs:List Value) (hx:a.eval x= .pointer (some ⟨b,off,none⟩)) (i:a.eval v= .agg cs.toArray)
  (j:w.there b off cs.length) (hi:(P.info? ty).map (·.size)=some cs.length) (h1:∀u∈cs,u.oneCell'=true) (h:wpListIn F n' P ops Q rest (a.put o.dst undef) (w.setCells b off cs)):wpListIn F n' P ops Q (o::rest) a w:=by
 refine wpListIn_plain k fun K f=> ?_
 have e:=run_storeAt_mid (P:=P) w b off ty cs.toArray (by simpa using j) (by simpa using hi) (by simpa [Array.all_eq_true_iff_forall_mem] using h1)
 unfold Oper.wpIn
 refine ⟨by simp [Oper.about,d],?_⟩
 rw [Oper.semAt_plain F _ _ (by rw [d];intro c g;cases g)]
 simp [execOp,d,hx,i,e,Result.andThen]
 exact f _ _ h
theorem kX (p:o.guard=none) (x:Operand) (t e:TypeId) (b:o.op= .buildSlice t 1 #[(0,x)])
  (cs:List Value) (k:Array Value) (hx:a.eval x= .agg cs.toArray) (n:P.underlying t=some (.slice e)) (j:∀w,(sizeOf e).run P w= .ok cs.length w) (l:∀w,(zeroValue e).run P w= .ok (.agg k) w)
  (g:0<cs.length) (d:cs.length≤1000) (m:wpListIn F n' P ops Q rest (a.put o.dst (.slice (some ⟨w.heap.size,0,none⟩) 1 1)) (w.alloc (.cells cs.toArray e))):wpListIn F n' P ops Q (o::rest) a w:=by
 refine wpListIn_plain p fun K h=> ?_
 have f:=jO w t e cs k n j l g d
 unfold Oper.wpIn
 refine ⟨by simp [Oper.about,b],?_⟩
 rw [Oper.semAt_plain F _ _ (by rw [b];intro c i;cases i)]
 simp [execOp,b,hx,f,Result.andThen]
 exact h _ _ m
end
section
variable {α:Type} {enc:α → Value} {F:Fence} {n':Nat} {w:World} {ops:Array Oper} {rest:List Oper} {o:Oper} {a:Act} {Q:Exit → Act → World → Prop}
theorem bX.walks {w w':World} {b r n:Nat} {f:Idl→Option α} {L:List Idl} (h:bX enc w b r n f L) (e:KeepsWalks w w'):bX enc w' b r n f L:=by
 obtain ⟨⟨D,left,cnt,h1,a,d⟩,k1,k2,k3⟩:=h
 exact ⟨⟨D,left,cnt,h1.of_walks e,a,d⟩,k1,k2,k3⟩
theorem bX.wB {w w':World} {b r n:Nat} {f:Idl→Option α} {L:List Idl} (h:bX enc w b r n f L) (a:KeepsWalks w w'):w'.rangeLeft b r=w.rangeLeft b r:=by
 obtain ⟨⟨D,left,cnt,h1,_⟩,_⟩:=h
 rw [(h1.of_walks a).left_eq,h1.left_eq]
theorem bX.isWalk {w:World} {b r n:Nat} {f:Idl→Option α} {L:List Idl} (h:bX enc w b r n f L):∃o:Obj,w.heap[r]? = some o∧o.isWalk=true:=by
 obtain ⟨⟨D,left,cnt,h1,_⟩,_⟩:=h
 exact h1.iter_walk
theorem kW (r:o.guard=none) (m:Operand) (t e:TypeId) (g:o.op=Op.range t m) (q:prog.underlying t=some (.map 42 e))
  (b n:Nat) (f:Idl→Option α) (L:List Idl) (hm:a.eval m= .map (some b)) (d:gu enc w b n f) (k:L.Nodup) (j:∀x∈L,x.length=32) (h:∀x,x.length=32→((f x).isSome=true↔x∈L))
  (p:∀w',bX enc w' b w.heap.size n f L→w.grownBy w' none→w'.heap.size=w.heap.size+1→wpListIn F n' prog ops Q rest (a.put o.dst (.pointer (some ⟨w.heap.size,0,none⟩))) w') :
  wpListIn F n' prog ops Q (o::rest) a w:=by
 obtain ⟨D,d,i⟩:=d
 exact wpListIn_range_own w r m t g 42 e iI q eO b n D hm d fun w' h1 l s=>p w' ⟨⟨D,_,_,h1,i,fun x hx=>by rw [(i x hx).1];exact h x hx⟩,k,j,fun x hx=>(h x (j x hx)).2 hx⟩ l s
theorem mD (T:o.guard=none) (J:Operand) (H:o.op=Op.next J false) (b r n:Nat) (f:Idl→Option α) (L:List Idl)
  (M:a.eval J= .pointer (some ⟨r,0,none⟩)) (h:bX enc w b r n f L)
  (m:L=[]→wpListIn F n' prog ops Q rest (a.put o.dst (.tuple #[.bool false])) w)
  (p:∀(x:Idl) (c:α) (w':World),x∈L→x.length=32→f x=some c→bX enc w' b r n f (L.erase x)→w'.rangeLeft b r<w.rangeLeft b r→w.grownBy w' (some r)→w'.heap.size=w.heap.size →
   (Instr.entry (.pointer (some ⟨r,0,none⟩))).run prog w'= .ok (.tuple #[.agg (idC x).toArray,enc c]) w'→wpListIn F n' prog ops Q rest (a.put o.dst (.tuple #[.bool true,.agg (idC x).toArray,enc c])) w') :
  wpListIn F n' prog ops Q (o::rest) a w:=by
 obtain ⟨⟨D,left,cnt,q,O,d⟩,R,j,g⟩:=h
 refine wpListIn_next_ranges (α:={ x:Idl // x.length=32 }) (β:=Value) w T J H 42 iI eO (fun x=> .agg (idC x.1).toArray) id (fun key S E=>by
  obtain ⟨x,hx,e⟩:=qU E
  exact ⟨⟨x,hx⟩,e⟩) (fun v _ _=>⟨v,rfl⟩) b r n D left cnt M q ?_ ?_
 ·intro _ U
  refine m (List.eq_nil_iff_forall_not_mem.2 fun x hx=> ?_)
  have h1:=(d x (j x hx)).2 hx
  rw [U] at h1;cases h1
 rintro ⟨x,hx⟩ c S y w' s i N B I k C G K u
 dsimp only at i u ⊢
 obtain rfl:kg x=S:=Option.some.inj ((jr hx).symm.trans i)
 have t:=(d x hx).1 N
 obtain ⟨o,P⟩:=Option.isSome_iff_exists.1 (g x t)
 have V:c=enc o:=by
  have h1:=I (.held (.bool false))
  rw [(O x hx).2 o P] at h1
  unfold eO at B
  injection B with B
  rw [←B] at h1
  exact (DataW.held.inj h1).symm
 subst V
 refine p x o w' t hx P ⟨⟨D,_,s,k,O,fun z l=> ?_⟩,R.erase x,fun z l=>j z (List.mem_of_mem_erase l),fun z l=>g z (List.mem_of_mem_erase l)⟩ (by rw [k.left_eq,q.left_eq];exact C) G K u
 rw [R.mem_erase_iff,Bool.and_eq_true,d z l]
 constructor
 ·rintro ⟨h1,A⟩
  refine ⟨fun e=> ?_,h1⟩
  subst e
  have E:=iI.key (jr l)
  rw [show (kg z).sameKey (kg z)=true from WideAt.sameKey_self E] at A
  cases A
 rintro ⟨h1,A⟩
 exact ⟨A,by rw [sameKey_ne (fun e=>h1 (qV l hx e))];rfl⟩
end
abbrev I32:={ x:Idl // x.length=32 }
def encI (x:I32):Value:=.agg (idC x.1).toArray
def iP (l:List I32):List Idl:=l.map (·.1)
theorem sS (l:List I32) (x:I32):iP (l++[x])=iP l++[x.1]:=by simp [iP]
theorem xE (l:List I32):(iP l).length=l.length:=by simp [iP]
theorem Ot (l:List I32):∀x∈iP l,x.length=32:=fun x hx=>by
 obtain ⟨y,_,rfl⟩:=List.mem_map.1 hx
 exact y.2
def apA:Code:=(Code.region 2 #[{ dst:=some 5,op:=Op.alloc 42,type:=0,pos:= "iter.go:51",after:=#[],guard:=none },{ dst:=none,op:=Op.store 42 (Operand.tmp 5) (Operand.tmp 7),type:=0,pos:= "iter.go:51",after:=#[{ on:=0,ground:=Ground.data },{ on:=0,ground:=Ground.phase }],guard:=none }] false)
def apB:Code:=(Code.block 1 (Code.region 3 #[{ dst:=some 8,op:=Op.load 44 (Operand.tmp 2),type:=44,pos:= "iter.go:52",after:=#[],guard:=none },{ dst:=some 9,op:=Op.load 42 (Operand.tmp 5),type:=42,pos:= "iter.go:52",after:=#[],guard:=none },{ dst:=some 10,op:=Op.buildSlice 44 1 #[(0,Operand.tmp 9)],type:=44,pos:= "iter.go:52",after:=#[{ on:=1,ground:=Ground.data }],guard:=none },{ dst:=some 11,op:=Op.call { callee:=Callee.builtin Builtin.append,args:=#[Operand.tmp 8,Operand.tmp 10],argTypes:=#[44,44] },type:=44,pos:= "iter.go:52",after:=#[{ on:=0,ground:=Ground.data },{ on:=2,ground:=Ground.data }],guard:=none },{ dst:=none,op:=Op.store 44 (Operand.tmp 2) (Operand.tmp 11),type:=0,pos:= "iter.go:52",after:=#[{ on:=3,ground:=Ground.data },{ on:=3,ground:=Ground.chain },{ on:=0,ground:=Ground.phase },{ on:=1,ground:=Ground.phase },{ on:=2,ground:=Ground.phase },{ on:=3,ground:=Ground.phase }],guard:=none }] false))
def apR (fn:FuncId) (sv:Value) (Bs D:Nat) (st:LoopState) (pend:Option Code):Loop :=
 { state:=st,pending:=pend,fn,tmps:=#[.slice none 0 0,sv,.pointer (some ⟨Bs,0,none⟩),undef,.slice none 0 0,undef,sv,undef,undef,undef,undef,undef,undef],params:=#[7],assign:=apA,body:=apB,defers:=D }
structure ApI (w0:World) (fn:FuncId) (sv:Value) (Bs l D:Nat) (ss:List I32) (W:World):Prop where
 box:∃ v,W.heap[Bs]? = some (.cells #[v] 44 (0,0)) ∧ W.ownsRow w0.heap.size 42 32 v ss.length (dx (iP ss))
 L:W.heap[l]? = some (.loop (apR fn sv Bs D .ready none))
 K:W.heap[D]? = some (.deferred (some []))
 below:Below w0.heap.size w0 W
theorem GH (w0:World) (fn:FuncId) (sv:Value) (Bs l D B:Nat) (g:w0.heap.size≤B):AbidesFrom B (ApI w0 fn sv Bs l D):=fun s W W' row h d b=>by
 have a:∀r,row=some r→ ∃o:Obj,W.heap[r]? = some o∧o.isWalk=true:=fun r e=>(b r e).2
 obtain ⟨v,f,i⟩:=h.box
 exact ⟨⟨v,(grownBy_keeps d a f rfl).trans f,ownsRow_abides_a i d a⟩,(grownBy_keeps d a h.L rfl).trans h.L,(grownBy_keeps d a h.K rfl).trans h.K,
  h.below.grown d h.below.size (fun k e=>Nat.le_trans g (b k e).1)⟩
theorem MV:44≠42:=by decide
theorem NZ (m : Nat) (w0 : World) (fn : FuncId) (sv : Value) (Bs l D : Nat) (hBl : Bs ≠ l) (hDl : D ≠ l) (hDB : D ≠ Bs) (h0B : w0.heap.size ≤ Bs) (h0l : w0.heap.size ≤ l)
    (N : Nat) (hN : N ≤ 1000000) (ss : List I32) (x : I32) (W : World) (h : ApI w0 fn sv Bs l D ss W) (hlen : ss.length < N) :
    YieldAt Fence.wide m prog l #[encI x] W fun e W' => e = .returned (.bool true) ∧ ApI w0 fn sv Bs l D (ss ++ [x]) W' ∧ KeepsWalks W W' := by
  obtain ⟨zi, i0, hi, hz0, hz1, hz2, hzi, hzil⟩ := eu
  obtain ⟨v, hv, hrow⟩ := h.box
  refine ⟨fn, #[.slice none 0 0, sv, .pointer (some ⟨Bs, 0, none⟩), undef, .slice none 0 0, undef, sv, encI x, undef, undef, undef, undef, undef], apA, apB, by simpa [apR] using run_yield (P := prog) (args := #[encI x]) h.L rfl, roundIn_of_wpIn trivial ?_⟩
  have hxl : (idC x.1).length = 32 := by rw [av, x.2]
  obtain ⟨W1, hW1⟩ : ∃ W1, (W.alloc (.cells zi 42)).setCells W.heap.size 0 (idC x.1) = W1 := ⟨_, rfl⟩
  have wr1 := wrote (by rw [hxl, hzil]) (by rw [hzil]; omega) hW1
  have hv1 : W1.heap[Bs]? = some (.cells #[v] 44 (0, 0)) := (wr1.bel.block Bs (Array.getElem?_eq_some_iff.1 hv).1).trans hv
  have hK1 : W1.heap[D]? = some (.deferred (some [])) := (wr1.bel.block D (Array.getElem?_eq_some_iff.1 h.K).1).trans h.K
  have hl : l < W.heap.size := (Array.getElem?_eq_some_iff.1 h.L).1
  have hL1 : W1.heap[l]? = some (.loop (apR fn sv Bs D .ready none)) := (wr1.bel.block l hl).trans h.L
  have hrow1 : W1.ownsRow w0.heap.size 42 32 v ss.length (dx (iP ss)) := own_below hrow wr1.bel
  have hb1 : Below w0.heap.size w0 W1 := h.below.trans (wr1.bel.mono h.below.size)
  have hbr := run_beginRound (P := prog) hL1 rfl
  obtain ⟨W3, hW3⟩ : ∃ W3, W1.putObj l (.loop { apR fn sv Bs D .ready none with state := .busy }) = W3 := ⟨_, rfl⟩
  rw [hW3] at hbr
  have hl1 : l < W1.heap.size := (Array.getElem?_eq_some_iff.1 hL1).1
  have hg3 : W1.grownBy W3 (some l) := by rw [← hW3]; exact grownBy_putObj_a _ _ _
  have hk1 : KeepsWalks W W1 := KeepsWalks.of_grownBy (row := none) (jw wr1.bel) (fun j o h => by cases h)
  have hk3 : KeepsWalks W W3 := hk1.trans (by rw [← hW3]; exact KeepsWalks.putObj _ hL1 rfl)
  have hv3 : W3.heap[Bs]? = some (.cells #[v] 44 (0, 0)) := by rw [← hW3]; exact (World.putObj_heap_other hBl).trans hv1
  have hK3 : W3.heap[D]? = some (.deferred (some [])) := by rw [← hW3]; exact (World.putObj_heap_other hDl).trans hK1
  have hL3 : W3.heap[l]? = some (.loop { apR fn sv Bs D .ready none with state := .busy }) := by rw [← hW3]; exact World.putObj_heap_same hl1
  have hrow3 : W3.ownsRow w0.heap.size 42 32 v ss.length (dx (iP ss)) := hrow1.kept hg3 (ownsRow_ne_a hrow1 hL1 (fun cur e => by cases e))
  have hb3 : Below w0.heap.size w0 W3 := hb1.grown hg3 hb1.size (fun k e => by cases e; exact h0l)
  have hr3 : W3.rangeAt W.heap.size 0 (idC x.1) := kE wr1.row hg3 (fun e => by have := Option.some.inj e; omega)
  obtain ⟨hc3, hf3⟩ := cell_of_box_a hv3
  have h32x := dZ hxl
  have HTH := ah (there_alloc W zi 42 hzil)
  have HON := ah (aJ x.1)
  have HXL := ah hxl
  have HROW := ah hr3
  have HW1 := ah hW1
  have HSZ : Hid (∀ w, (sizeOf 42).run prog w = .ok (idC x.1).length w) := ah (fun w => by rw [hxl]; kernel_rfl)
  unfold encI
  clear hW3 hW1 hr3 wr1 hxl hg3 hk1 hv1 hK1 hL1 hrow1 hb1
  generalize hux : idC x.1 = ux at h32x HON HXL HROW HW1 HSZ ⊢
  unfold apA
  gi_wp2_with (first
    | (refine gN rfl 42 _ _ rfl W.heap.size 0 ux rfl rfl (by rw [HXL.out]; exact HTH.out) h32x HON.out ?_; rw [HW1.out])
    | gi_round_op_a)
  have hb3a : Below W3.heap.size W3 (W3.alloc (.cells ux.toArray 42)) := bal
  have HOWA := ah (own_below hrow3 hb3a)
  have HNEW : Hid (∀ j u, ux[j]? = some u → (W3.alloc (.cells ux.toArray 42)).cell? ((⟨W3.heap.size, 0, none⟩ : Addr).add j) = some u) := ah (fun j u hj => jW _ ux _ j u hj)
  have ne_of : ∀ {j : Nat} {o : Obj}, W3.heap[j]? = some o → (∀ cur, o ≠ .cells cur 42 (0, 0)) → some j ≠ v.ownBlock := fun hj hno => by
    rcases ownsRow_ne_a hrow3 hj hno with e | e
    · rw [e]; simp
    · exact fun e' => e e'.symm
  have hbase : w0.heap.size ≤ W3.heap.size := hb3.size
  have n1 := ne_of hv3 (fun cur e => MV (Obj.cells.inj e).2.1)
  have n2 := ne_of hL3 (fun cur e => by cases e)
  have n3 := ne_of hK3 (fun cur e => by cases e)
  have HNE := ah (And.intro n1 (And.intro n2 n3))
  have HV3 := ah hv3
  have HL3 := ah hL3
  have HK3 := ah hK3
  have HB3 := ah hb3
  have HKW := ah hk3
  have HROW3 := ah hrow3
  clear hv3 hL3 hK3 hb3 hk3 hrow3 hb3a n1 n2 n3 ne_of
  unfold apB
  gi_wp2_with (first
    | (refine iy rfl 42 _ rfl W.heap.size 0 rfl ux _ HROW.out underlying42 rfl h32x ?_)
    | (refine kX rfl (.tmp 9) 44 42 rfl ux zi rfl underlying44 HSZ.out hzi (by rw [HXL.out]; omega) (by rw [HXL.out]; omega) ?_)
    | (gi_at_builtin; refine wpListIn_append_own _ rfl (.tmp 8) (.tmp 10) 44 rfl w0.heap.size 42 i0 (.agg zi) 32 32 underlying44 hi hz0 hz1 hz2 hzil (by decide) v ss.length (dx (iP ss)) rfl HOWA.out ⟨W3.heap.size, 0, none⟩ 1 1 ux rfl HXL.out HNEW.out HON.out (by unfold maxLen; omega) (by omega) (by rw [World.size_alloc]; omega) ?_; intro v' w5 hown5 hg5 _
       have hv5 : w5.heap[Bs]? = some (.cells #[v] 44 (0, 0)) := (hg5.block Bs (by rw [World.size_alloc]; have := (Array.getElem?_eq_some_iff.1 HV3.out).1; omega) HNE.out.1).trans ((Below.heap_alloc _ _ Bs (Array.getElem?_eq_some_iff.1 HV3.out).1).trans HV3.out)
       obtain ⟨hc5, hf5⟩ := cell_of_box_a hv5
       obtain ⟨co, cc, rfl⟩ := bO hown5
       go_frame)
    | gi_round_op_a)
  have hv5 : w5.heap[Bs]? = some (.cells #[v] 44 (0, 0)) := (hg5.block Bs (by rw [World.size_alloc]; have := (Array.getElem?_eq_some_iff.1 HV3.out).1; omega) HNE.out.1).trans ((Below.heap_alloc _ _ Bs (Array.getElem?_eq_some_iff.1 HV3.out).1).trans HV3.out)
  have hl3 := (Array.getElem?_eq_some_iff.1 HL3.out).1
  have hd3 := (Array.getElem?_eq_some_iff.1 HK3.out).1
  have hL5 : w5.heap[l]? = some (.loop { apR fn sv Bs D .ready none with state := .busy }) := (hg5.block l (by rw [World.size_alloc]; omega) HNE.out.2.1).trans ((Below.heap_alloc _ _ l hl3).trans HL3.out)
  have hK5 : w5.heap[D]? = some (.deferred (some [])) := (hg5.block D (by rw [World.size_alloc]; omega) HNE.out.2.2).trans ((Below.heap_alloc _ _ D hd3).trans HK3.out)
  obtain ⟨w6, hw6⟩ : ∃ w6, w5.setCell ⟨Bs, 0, none⟩ (.slice co (ss.length + 1) cc) = w6 := ⟨_, rfl⟩
  rw [hw6]
  have hg6 : w5.grownBy w6 (some Bs) := by rw [← hw6]; exact grownBy_setCell0_a _ _ _
  have hv6 : w6.heap[Bs]? = some (.cells #[.slice co (ss.length + 1) cc] 44 (0, 0)) := by rw [← hw6]; exact heap_setCell_box_a _ hv5
  have hL6 : w6.heap[l]? = some (.loop { apR fn sv Bs D .ready none with state := .busy }) := (hg6.block l (Array.getElem?_eq_some_iff.1 hL5).1 (fun e => hBl (by cases e; rfl))).trans hL5
  have hK6 : w6.heap[D]? = some (.deferred (some [])) := (hg6.block D (Array.getElem?_eq_some_iff.1 hK5).1 (fun e => hDB (by cases e; rfl))).trans hK5
  have hrow6 := hown5.kept hg6 (ownsRow_ne_a hown5 hv5 (fun cur e => MV (Obj.cells.inj e).2.1))
  have hl6 : l < w6.heap.size := (Array.getElem?_eq_some_iff.1 hL6).1
  have hb5 : Below w0.heap.size w0 w5 := (HB3.out.alloc HB3.out.size _).grown hg5 (by rw [World.size_alloc]; omega) (fun k e => (HROW3.out.lt k e).1)
  have hb6 : Below w0.heap.size w0 w6 := hb5.grown hg6 hb5.size (fun k e => by cases e; exact h0B)
  have hk6 : KeepsWalks W w6 := ((HKW.out.trans (KeepsWalks.alloc _ _)).trans (KeepsWalks.of_grownBy hg5 (ownsRow_not_walk_a HOWA.out))).trans (by rw [← hw6]; exact KeepsWalks.setCell _ _ _)
  clear hw6
  refine ⟨_, _, run_endRound none hL6, rfl, ⟨⟨_, (World.putObj_heap_other hBl).trans hv6, ?_⟩, World.putObj_heap_same hl6, (World.putObj_heap_other hDl).trans hK6, hb6.grown (grownBy_putObj_a _ _ _) hb6.size (fun k e => by cases e; exact h0l)⟩, hk6.trans (KeepsWalks.putObj _ hL6 rfl)⟩
  have := hrow6.kept (grownBy_putObj_a w6 l (.loop { { apR fn sv Bs D .ready none with state := .busy } with state := if (none : Option Code).isNone then .ready else .done, pending := none })) (ownsRow_ne_a hrow6 hL6 (fun cur e => by cases e))
  rw [sS, nZ, hux, List.length_append, List.length_singleton]
  exact this
theorem GD (n : Nat) (hn : 2 ≤ n) (g : Nat) (lb : Array Value) (eg : ∀ args w, (callFunc g args).run prog w = .ok (.enter g args) w)
    (S : List I32 → Prop) (N : Nat) (hN : N ≤ 1000000) (w : World) (hseq : SeqGives Fence.wide (n - 1) prog g lb encI S N w) :
    CallsIn Fence.wide n prog 208 #[.slice none 0 0, .func (.func g) #[] lb] w fun e w' => ∃ (v : Value) (ss : List I32), e = .returned v ∧ S ss ∧ w'.ownsRow w.heap.size 42 32 v ss.length (dx (iP ss)) ∧ Below w.heap.size w w' := by
  refine callsIn_of_wp_marks func208 rfl trivial ?_ rfl
  simp only [ntmps208, List.size_toArray, List.length_cons, List.length_nil, Nat.reduceAdd, Nat.reduceSub, Array.replicate_succ, Array.replicate_zero, List.push_toArray, List.append_toArray, List.nil_append, List.cons_append]
  gi_wp2
  refine wpIn_rangeFunc ?_
  intro fn hfn
  rw [show Fence.wide.round = none from rfl]
  obtain ⟨W0, hW0⟩ : ∃ W0, w.alloc (.cells #[.slice none 0 0] 44) = W0 := ⟨_, rfl⟩
  have hs0 : W0.heap.size = w.heap.size + 1 := by rw [← hW0]; simp
  have hv0 : W0.heap[w.heap.size]? = some (.cells #[.slice none 0 0] 44 (0, 0)) := by rw [← hW0]; exact World.alloc_heap_new w _
  have hb0 : Below w.heap.size w W0 := by rw [← hW0]; exact (Below.refl _ w).alloc (Nat.le_refl _) _
  rw [hW0]
  obtain ⟨W1, hW1⟩ : ∃ W1, (W0.alloc (.deferred (some []))).alloc (.loop (apR fn (.func (.func g) #[] lb) w.heap.size W0.heap.size .ready none)) = W1 := ⟨_, rfl⟩
  have hold : ∀ k, k < W0.heap.size → W1.heap[k]? = W0.heap[k]? := fun k hk => by
    rw [← hW1]; exact (Below.heap_alloc _ _ k (by simp; omega)).trans (Below.heap_alloc _ _ k hk)
  have hb1 : Below w.heap.size w W1 := by rw [← hW1]; exact (hb0.alloc hb0.size _).alloc (by have := hb0.size; simp; omega) _
  have hs1 : W1.heap.size = W0.heap.size + 2 := by rw [← hW1]; simp
  have hM : ApI w fn (.func (.func g) #[] lb) w.heap.size (W0.heap.size + 1) W0.heap.size [] W1 :=
    ⟨⟨_, (hold w.heap.size (by omega)).trans hv0, ⟨rfl, .inl ⟨rfl, rfl⟩⟩⟩,
     by rw [← hW1]; have := World.alloc_heap_new (W0.alloc (.deferred (some []))) (.loop (apR fn (.func (.func g) #[] lb) w.heap.size W0.heap.size .ready none)); rwa [World.size_alloc] at this,
     by rw [← hW1]; exact (Below.heap_alloc _ _ _ (by simp)).trans (World.alloc_heap_new W0 _), hb1⟩
  refine ⟨W0.heap.size + 1, [{ target := .collected W0.heap.size, args := #[] }], W1, { target := .fn (.func g) lb, args := #[.func (.yield (W0.heap.size + 1)) #[] #[]] }, W1, g,
    #[.func (.yield (W0.heap.size + 1)) #[] #[]] ++ lb, W1, ?_, ?_, ?_, ?_, fun _ => by omega, ?_⟩
  · rw [← hW1]; exact run_enterLoop_outer _ _ _ _ _
  · simp [resolve, go_sem]
  · intro f' _; trivial
  · simp [invoke, go_sem, eg]
  · refine (hseq (W0.heap.size + 1) (ApI w fn (.func (.func g) #[] lb) w.heap.size (W0.heap.size + 1) W0.heap.size) W1 hb1 (GH _ _ _ _ _ _ _ hb1.size)
      (fun pre x W hJ hl => NZ (n - 1 - 1) w fn _ w.heap.size (W0.heap.size + 1) W0.heap.size (by omega) (by omega) (by omega) (Nat.le_refl _) (by omega) N hN pre x W hJ hl) hM).mono ?_
    rintro e W2 ⟨⟨v0, rfl⟩, ss, hS, h2⟩
    obtain ⟨v, hv, hrow⟩ := h2.box
    have hend := run_endLoop (P := prog) h2.L (by simp [apR])
    obtain ⟨W3, hW3⟩ : ∃ W3, W2.putObj (W0.heap.size + 1) (.loop { apR fn (.func (.func g) #[] lb) w.heap.size W0.heap.size .ready none with state := .exhausted }) = W3 := ⟨_, rfl⟩
    rw [hW3] at hend
    have hg3 : W2.grownBy W3 (some (W0.heap.size + 1)) := by rw [← hW3]; exact grownBy_putObj_a _ _ _
    have hv3 : W3.heap[w.heap.size]? = some (.cells #[v] 44 (0, 0)) := by rw [← hW3]; exact (World.putObj_heap_other (by omega)).trans hv
    have hK3 : W3.heap[W0.heap.size]? = some (.deferred (some [])) := by rw [← hW3]; exact (World.putObj_heap_other (by omega)).trans h2.K
    have hrow3 := hrow.kept hg3 (ownsRow_ne_a hrow h2.L (fun cur e => by cases e))
    have hb3 : Below w.heap.size w W3 := h2.below.grown hg3 h2.below.size (fun k e => by cases e; omega)
    obtain ⟨hc3, hf3⟩ := cell_of_box_a hv3
    clear hW3
    refine ⟨none, W3, hend, ?_⟩
    gi_wp2
    rw [← hs0]
    refine ⟨by simp, .inl ⟨_, _, rfl, run_takeDeferred hK3, ?_⟩⟩
    exact ⟨_, results_tmp rfl _ _ _, v, ss, rfl, hS, hrow3.kept (grownBy_putObj_a _ _ _) (ownsRow_ne_a hrow3 hK3 (fun cur e => by cases e)), hb3.grown (grownBy_putObj_a _ _ _) hb3.size (fun k e => by cases e; omega)⟩
theorem Ez (n:Nat) (j:3≤n) (g:Nat) (d:Array Value) (i:∀args w,(callFunc g args).run prog w= .ok (.enter g args) w)
  (S:List I32→Prop) (N:Nat) (f:N≤1000000) (w:World) (b:SeqGives Fence.wide (n-1-1) prog g d encI S N w) :
  CallsIn Fence.wide n prog 151 #[.func (.func g) #[] d] w fun e w'=> ∃(v:Value) (ss:List I32),e= .returned v∧S ss∧w'.ownsRow w.heap.size 42 32 v ss.length (dx (iP ss))∧Below w.heap.size w w':=by
 have h:=GD (n-1) (by omega) g d i S N f w b
 refine callsIn_of_wp func151 rfl trivial ?_ rfl
 simp only [ntmps151,List.size_toArray,List.length_cons,List.length_nil,Nat.reduceAdd,Nat.reduceSub,Array.replicate_succ,Array.replicate_zero,List.push_toArray,List.append_toArray,List.nil_append,List.cons_append]
 gi_wp2_with fail
 refine ⟨trivial,fun _=>by omega,?_⟩
 refine h.mono ?_
 rintro e w' ⟨v,ss,rfl,hS,a,hb⟩
 gi_wp2
 go_ret
 exact ⟨v,ss,rfl,hS,a,hb⟩
theorem Gh {α:Type} {enc:α→Value} (n:Nat) (hn:1≤n) (l Bm b O:Nat) (f:Idl→Option α) (L:List Idl) (J:List I32→World→Prop)
  (hY:∀t x W,J t W→t.length<L.length→YieldAt Fence.wide (n-1) prog l #[encI x] W fun e W'=>e= .returned (.bool true)∧J (t++[x]) W'∧KeepsWalks W W')
  (W:World) (X:AbidesFrom W.heap.size J) (hm:W.cell? ⟨Bm,0,none⟩=some (.map (some b))) (H:gu enc W b O f) (P:L.Nodup) (hl:∀x∈L,x.length=32) (hL:∀x,x.length=32→((f x).isSome=true↔x∈L)) (h0:J [] W) :
  CallsIn Fence.wide n prog 152 #[.func (.yield l) #[] #[],.pointer (some ⟨Bm,0,none⟩)] W fun e W'=>(∃v,e= .returned v)∧ ∃ss:List I32,(iP ss).Perm L∧J ss W':=by
 obtain ⟨zi,i0,hi,ab,ac,ag,af,h⟩:=eu
 refine callsIn_of_wp func152 rfl trivial ?_ rfl
 simp only [ntmps152,List.size_toArray,List.length_cons,List.length_nil,Nat.reduceAdd,Nat.reduceSub,Array.replicate_succ,Array.replicate_zero,List.push_toArray,List.append_toArray,List.nil_append,List.cons_append]
 gi_wp2_with (first
  | (gi_at_range;refine kW rfl _ 70 4 rfl underlying70 b O f L rfl H P hl hL ?_;intro w0 G Q ae)
  | gi_in)
 go_frame
 gi_loopw [3] (fun _ wr=> ∃(ss:List I32) (Lr:List Idl),bX enc wr b W.heap.size O f Lr∧(iP ss++Lr).Perm L∧J ss wr) (fun _ wr=>wr.rangeLeft b W.heap.size)
 case atStart=>exact ⟨[],L,G,List.Perm.refl _,X [] W w0 none h0 Q (fun r e=>by cases e)⟩
 obtain ⟨ss,Lr,p,hp,u⟩:=hrel
 have S:=ah hp
 clear hp
 gi_wp2_with (first
  | (gi_at_next;refine mD rfl _ rfl b W.heap.size O f Lr rfl p ?_ ?_)
  | gi_in)
 ·intro V
  gi_wp2
  go_end0
  exact ⟨⟨_,rfl⟩,ss,by have:=S.out;rw [V,List.append_nil] at this;exact this,u⟩
 intro x c m C hx aa a z F R Z
 have j:ss.length<L.length:=by
  have h1:=S.out.length_eq
  rw [List.length_append,xE] at h1
  have:=List.length_pos_of_mem C
  omega
 have i:(idC x).length=32:=by rw [av,hx]
 obtain ⟨y,q⟩:∃y,(m.alloc (.cells zi 42)).setCells m.heap.size 0 (idC x)=y:=⟨_,rfl⟩
 have d:=wrote (by rw [i,h]) (by rw [h];omega) q
 have M:J ss m:=X ss wr m (some W.heap.size) u F (fun r e=>by cases e;exact ⟨Nat.le_refl _,p.isWalk⟩)
 have K:J ss y:=X ss m y none M (jw d.bel) (fun r e=>by cases e)
 have o:=ah (a.on d.bel)
 have U:Hid (y.rangeLeft b W.heap.size<wr.rangeLeft b W.heap.size):=ah (by rw [iC (d.bel.block b a.map.lt) (d.bel.block W.heap.size a.lt)];exact z)
 have T:Hid ((iP (ss++[⟨x,hx⟩])++Lr.erase x).Perm L):=ah (by
  rw [sS,List.append_assoc]
  exact (((List.perm_cons_erase C).symm).append_left (iP ss)).trans S.out)
 obtain ⟨fn,tmps,assign,body,hy,hR⟩:=hY ss ⟨x,hx⟩ y K j
 change Sem.run prog (Instr.yield l #[.agg (idC x).toArray]) y=_ at hy
 have g:=dZ i
 have ad:(prog.info? 42).map (·.size)=some 32:=by kernel_rfl
 have E:=ah (there_alloc m zi 42 h)
 have N:=ah (aJ x)
 have A:=ah i
 have k:=ah d.row
 have B:=ah q
 have HR:=ah hR
 clear i d M K p a z F R u j q hR
 generalize idC x=ux at Z g E N A k B hy
 gi_wp2_with (first
  | (refine gN rfl 42 _ _ rfl m.heap.size 0 ux rfl rfl (by rw [A.out];exact E.out) g N.out ?_)
  | (rw [B.out];refine iy rfl 42 _ rfl m.heap.size 0 rfl ux _ k.out underlying42 rfl g ?_)
  | gi_in)
 refine HR.out.mono ?_
 rintro e w4 ⟨rfl,Y,s⟩
 have I:=ah (o.out.walks s)
 have D:Hid (w4.rangeLeft b W.heap.size<wr.rangeLeft b W.heap.size):=ah (by rw [o.out.wB s];exact U.out)
 clear s
 gi_wp2
 go_roundw
 case rel=>exact ⟨ss++[⟨x,hx⟩],Lr.erase x,I.out,T.out,Y⟩
 case measure=>exact D.out
theorem Cc {α:Type} {enc:α→Value} (n:Nat) (k:1≤n) (a b h:Nat) (f:Idl→Option α) (L:List Idl) (w:World) (g:a<w.heap.size) (hm:w.cell? ⟨a,0,none⟩=some (.map (some b))) (d:gu enc w b h f) (e:L.Nodup) (q:∀x∈L,x.length=32) (m:∀x,x.length=32→((f x).isSome=true↔x∈L)) :
  SeqGives Fence.wide n prog 152 #[.pointer (some ⟨a,0,none⟩)] encI (fun ss=>(iP ss).Perm L) L.length w:=fun l J W i j r o =>
 Gh n k l a b h f L J r W j ((i.cell (p:=⟨a,0,none⟩) g).trans hm) (d.on i) e q m o
theorem Gf (mb:Option Nat) (w:World):Calls prog 85 #[.map mb] w fun e w'=>e= .returned (.func (.func 152) #[] #[.pointer (some ⟨w.heap.size,0,none⟩)])∧w'=w.alloc (.cells #[.map mb] 70):=by
 go_enter func85,ntmps85
 go_wp2
 go_ret
 exact ⟨rfl,rfl⟩
theorem Gi {α:Type} {enc:α→Value} (n:Nat) (hn:1≤n) (l Bm b O:Nat) (f:Idl→Option α) (L:List Idl) (J:List I32→World→Prop)
  (hY:∀t x W,J t W→t.length<L.length→YieldAt Fence.wide (n-1) prog l #[encI x] W fun e W'=>e= .returned (.bool true)∧J (t++[x]) W'∧KeepsWalks W W')
  (W:World) (X:AbidesFrom W.heap.size J) (hm:W.cell? ⟨Bm,0,none⟩=some (.map (some b))) (H:gu enc W b O f) (P:L.Nodup) (hl:∀x∈L,x.length=32) (hL:∀x,x.length=32→((f x).isSome=true↔x∈L)) (h0:J [] W) :
  CallsIn Fence.wide n prog 250 #[.func (.yield l) #[] #[],.pointer (some ⟨Bm,0,none⟩)] W fun e W'=>(∃v,e= .returned v)∧ ∃ss:List I32,(iP ss).Perm L∧J ss W':=by
 obtain ⟨zi,i0,hi,ab,ac,ag,af,h⟩:=eu
 refine callsIn_of_wp func250 rfl trivial ?_ rfl
 simp only [ntmps250,List.size_toArray,List.length_cons,List.length_nil,Nat.reduceAdd,Nat.reduceSub,Array.replicate_succ,Array.replicate_zero,List.push_toArray,List.append_toArray,List.nil_append,List.cons_append]
 gi_wp2_with (first
  | (gi_at_range;refine kW rfl _ 69 4 rfl underlying69 b O f L rfl H P hl hL ?_;intro w0 G Q ae)
  | gi_in)
 go_frame
 gi_loopw [3] (fun _ wr=> ∃(ss:List I32) (Lr:List Idl),bX enc wr b W.heap.size O f Lr∧(iP ss++Lr).Perm L∧J ss wr) (fun _ wr=>wr.rangeLeft b W.heap.size)
 case atStart=>exact ⟨[],L,G,List.Perm.refl _,X [] W w0 none h0 Q (fun r e=>by cases e)⟩
 obtain ⟨ss,Lr,p,hp,u⟩:=hrel
 have S:=ah hp
 clear hp
 gi_wp2_with (first
  | (gi_at_next;refine mD rfl _ rfl b W.heap.size O f Lr rfl p ?_ ?_)
  | gi_in)
 ·intro V
  gi_wp2
  go_end0
  exact ⟨⟨_,rfl⟩,ss,by have:=S.out;rw [V,List.append_nil] at this;exact this,u⟩
 intro x c m C hx aa a z F R Z
 have j:ss.length<L.length:=by
  have h1:=S.out.length_eq
  rw [List.length_append,xE] at h1
  have:=List.length_pos_of_mem C
  omega
 have i:(idC x).length=32:=by rw [av,hx]
 obtain ⟨y,q⟩:∃y,(m.alloc (.cells zi 42)).setCells m.heap.size 0 (idC x)=y:=⟨_,rfl⟩
 have d:=wrote (by rw [i,h]) (by rw [h];omega) q
 have M:J ss m:=X ss wr m (some W.heap.size) u F (fun r e=>by cases e;exact ⟨Nat.le_refl _,p.isWalk⟩)
 have K:J ss y:=X ss m y none M (jw d.bel) (fun r e=>by cases e)
 have o:=ah (a.on d.bel)
 have U:Hid (y.rangeLeft b W.heap.size<wr.rangeLeft b W.heap.size):=ah (by rw [iC (d.bel.block b a.map.lt) (d.bel.block W.heap.size a.lt)];exact z)
 have T:Hid ((iP (ss++[⟨x,hx⟩])++Lr.erase x).Perm L):=ah (by
  rw [sS,List.append_assoc]
  exact (((List.perm_cons_erase C).symm).append_left (iP ss)).trans S.out)
 obtain ⟨fn,tmps,assign,body,hy,hR⟩:=hY ss ⟨x,hx⟩ y K j
 change Sem.run prog (Instr.yield l #[.agg (idC x).toArray]) y=_ at hy
 have g:=dZ i
 have ad:(prog.info? 42).map (·.size)=some 32:=by kernel_rfl
 have E:=ah (there_alloc m zi 42 h)
 have N:=ah (aJ x)
 have A:=ah i
 have k:=ah d.row
 have B:=ah q
 have HR:=ah hR
 clear i d M K p a z F R u j q hR
 generalize idC x=ux at Z g E N A k B hy
 gi_wp2_with (first
  | (refine gN rfl 42 _ _ rfl m.heap.size 0 ux rfl rfl (by rw [A.out];exact E.out) g N.out ?_)
  | (rw [B.out];refine iy rfl 42 _ rfl m.heap.size 0 rfl ux _ k.out underlying42 rfl g ?_)
  | gi_in)
 refine HR.out.mono ?_
 rintro e w4 ⟨rfl,Y,s⟩
 have I:=ah (o.out.walks s)
 have D:Hid (w4.rangeLeft b W.heap.size<wr.rangeLeft b W.heap.size):=ah (by rw [o.out.wB s];exact U.out)
 clear s
 gi_wp2
 go_roundw
 case rel=>exact ⟨ss++[⟨x,hx⟩],Lr.erase x,I.out,T.out,Y⟩
 case measure=>exact D.out
theorem Ce {α:Type} {enc:α→Value} (n:Nat) (k:1≤n) (a b h:Nat) (f:Idl→Option α) (L:List Idl) (w:World) (g:a<w.heap.size) (hm:w.cell? ⟨a,0,none⟩=some (.map (some b))) (d:gu enc w b h f) (e:L.Nodup) (q:∀x∈L,x.length=32) (m:∀x,x.length=32→((f x).isSome=true↔x∈L)) :
  SeqGives Fence.wide n prog 250 #[.pointer (some ⟨a,0,none⟩)] encI (fun ss=>(iP ss).Perm L) L.length w:=fun l J W i j r o =>
 Gi n k l a b h f L J r W j ((i.cell (p:=⟨a,0,none⟩) g).trans hm) (d.on i) e q m o
theorem Gg (mb:Option Nat) (w:World):Calls prog 225 #[.map mb] w fun e w'=>e= .returned (.func (.func 250) #[] #[.pointer (some ⟨w.heap.size,0,none⟩)])∧w'=w.alloc (.cells #[.map mb] 69):=by
 go_enter func225,ntmps225
 go_wp2
 go_ret
 exact ⟨rfl,rfl⟩
end
end Go.Proofs.YtlhcoanbhnphgaaGreatDoor
