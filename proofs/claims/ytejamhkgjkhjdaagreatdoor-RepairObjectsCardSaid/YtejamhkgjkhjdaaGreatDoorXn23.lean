/- A part of this claim. -/
import Derived.Shelf.SlIter.Collect
import Derived.Test.YtejamhkgjkhjdaaGreatDoorXn11
namespace Go.Proofs.YtejamhkgjkhjdaaGreatDoor
open Tryz
set_option maxHeartbeats 64000000
set_option maxRecDepth 100000
section
open Go.RowKit Go.Maps Go.Sort Go.Shelf
section
variable {F:Fence} {n':Nat} {P:Program} {w:World} {ops:Array Oper} {rest:List Oper} {o:Oper} {a:Act} {Q:Exit → Act → World → Prop}
theorem iV (j:o.guard=none) (ty:TypeId) (x:Operand) (e:o.op= .load ty x) (b off:Nat) (hx:a.eval x= .pointer (some ⟨b,off,none⟩)) (cs:List Value) (d:TypeDesc) (i:w.rangeAt b off cs)
  (hu:P.underlying ty=some d) (hd:d.isRow=true) (hi:(P.info? ty).map (·.size)=some cs.length) (k:wpListIn F n' P ops Q rest (a.put o.dst (.agg cs.toArray)) w):wpListIn F n' P ops Q (o::rest) a w:=by
 refine wpListIn_plain j fun K h=> ?_
 have f:=run_loadAt_mid (P:=P) w b off ty cs d i hu hd hi
 unfold Oper.wpIn
 refine ⟨by simp [Oper.about,e],?_⟩
 rw [Oper.semAt_plain F _ _ (by rw [e];intro c g;cases g)]
 simp [execOp,e,hx,f,Result.andThen]
 exact h _ _ k
theorem iE (i:o.guard=none) (ty:TypeId) (x v:Operand) (d:o.op= .store ty x v) (b off:Nat) (cs:List Value) (hx:a.eval x= .pointer (some ⟨b,off,none⟩)) (j:a.eval v= .agg cs.toArray)
  (h:w.there b off cs.length) (hi:(P.info? ty).map (·.size)=some cs.length) (h1:∀u∈cs,u.oneCell'=true) (k:wpListIn F n' P ops Q rest (a.put o.dst undef) (w.setCells b off cs)):wpListIn F n' P ops Q (o::rest) a w:=by
 refine wpListIn_plain i fun K g=> ?_
 have e:=run_storeAt_mid (P:=P) w b off ty cs.toArray (by simpa using h) (by simpa using hi) (by simpa [Array.all_eq_true_iff_forall_mem] using h1)
 unfold Oper.wpIn
 refine ⟨by simp [Oper.about,d],?_⟩
 rw [Oper.semAt_plain F _ _ (by rw [d];intro c f;cases f)]
 simp [execOp,d,hx,j,e,Result.andThen]
 exact g _ _ k
theorem jE (m:o.guard=none) (x:Operand) (t e:TypeId) (b:o.op= .buildSlice t 1 #[(0,x)])
  (cs:List Value) (k:Array Value) (hx:a.eval x= .agg cs.toArray) (l:P.underlying t=some (.slice e)) (h:∀w,(sizeOf e).run P w= .ok cs.length w) (p:∀w,(zeroValue e).run P w= .ok (.agg k) w)
  (g:0<cs.length) (d:cs.length≤1000) (n:wpListIn F n' P ops Q rest (a.put o.dst (.slice (some ⟨w.heap.size,0,none⟩) 1 1)) (w.alloc (.cells cs.toArray e))):wpListIn F n' P ops Q (o::rest) a w:=by
 refine wpListIn_plain m fun K j=> ?_
 have f:=iH w t e cs k l h p g d
 unfold Oper.wpIn
 refine ⟨by simp [Oper.about,b],?_⟩
 rw [Oper.semAt_plain F _ _ (by rw [b];intro c i;cases i)]
 simp [execOp,b,hx,f,Result.andThen]
 exact j _ _ n
end
section
variable {α:Type} {enc:α → Value} {F:Fence} {n':Nat} {w:World} {ops:Array Oper} {rest:List Oper} {o:Oper} {a:Act} {Q:Exit → Act → World → Prop}
theorem bN.walks {w w':World} {b r n:Nat} {f:Idl→Option α} {L:List Idl} (h:bN enc w b r n f L) (e:KeepsWalks w w'):bN enc w' b r n f L:=by
 obtain ⟨⟨D,left,cnt,h1,d,a⟩,k1,k2,k3⟩:=h
 exact ⟨⟨D,left,cnt,h1.of_walks e,d,a⟩,k1,k2,k3⟩
theorem bN.Ck {w w':World} {b r n:Nat} {f:Idl→Option α} {L:List Idl} (h:bN enc w b r n f L) (a:KeepsWalks w w'):w'.rangeLeft b r=w.rangeLeft b r:=by
 obtain ⟨⟨D,left,cnt,h1,_⟩,_⟩:=h
 rw [(h1.of_walks a).left_eq,h1.left_eq]
theorem bN.isWalk {w:World} {b r n:Nat} {f:Idl→Option α} {L:List Idl} (h:bN enc w b r n f L):∃o:Obj,w.heap[r]? = some o∧o.isWalk=true:=by
 obtain ⟨⟨D,left,cnt,h1,_⟩,_⟩:=h
 exact h1.iter_walk
theorem pI (p:o.guard=none) (m:Operand) (t e:TypeId) (g:o.op=Op.range t m) (l:prog.underlying t=some (.map 143 e))
  (b n:Nat) (f:Idl→Option α) (L:List Idl) (hm:a.eval m= .map (some b)) (d:iU enc w b n f) (q:L.Nodup) (h:∀x∈L,x.length=32) (i:∀x,x.length=32→((f x).isSome=true↔x∈L))
  (r:∀w',bN enc w' b w.heap.size n f L→w.grownBy w' none→w'.heap.size=w.heap.size+1→wpListIn F n' prog ops Q rest (a.put o.dst (.pointer (some ⟨w.heap.size,0,none⟩))) w') :
  wpListIn F n' prog ops Q (o::rest) a w:=by
 obtain ⟨D,d,j⟩:=d
 exact wpListIn_range_own w p m t g 143 e jX l eX b n D hm d fun w' h1 k s=>r w' ⟨⟨D,_,_,h1,j,fun x hx=>by rw [(j x hx).1];exact i x hx⟩,q,h,fun x hx=>(i x (h x hx)).2 hx⟩ k s
theorem qZ (U:o.guard=none) (M:Operand) (J:o.op=Op.next M false) (b r n:Nat) (f:Idl→Option α) (L:List Idl)
  (I:a.eval M= .pointer (some ⟨r,0,none⟩)) (h:bN enc w b r n f L)
  (m:L=[]→wpListIn F n' prog ops Q rest (a.put o.dst (.tuple #[.bool false])) w)
  (p:∀(x:Idl) (c:α) (w':World),x∈L→x.length=32→f x=some c→bN enc w' b r n f (L.erase x)→w'.rangeLeft b r<w.rangeLeft b r→w.grownBy w' (some r)→w'.heap.size=w.heap.size →
   (Instr.entry (.pointer (some ⟨r,0,none⟩))).run prog w'= .ok (.tuple #[.agg (idC x).toArray,enc c]) w'→wpListIn F n' prog ops Q rest (a.put o.dst (.tuple #[.bool true,.agg (idC x).toArray,enc c])) w') :
  wpListIn F n' prog ops Q (o::rest) a w:=by
 obtain ⟨⟨D,left,cnt,s,S,d⟩,P,i,g⟩:=h
 refine wpListIn_next_ranges (α:={ x:Idl // x.length=32 }) (β:=Value) w U M J 143 jX eX (fun x=> .agg (idC x.1).toArray) id (fun key R E=>by
  obtain ⟨x,hx,e⟩:=oJ E
  exact ⟨⟨x,hx⟩,e⟩) (fun v _ _=>⟨v,rfl⟩) b r n D left cnt I s ?_ ?_
 ·intro _ V
  refine m (List.eq_nil_iff_forall_not_mem.2 fun x hx=> ?_)
  have h1:=(d x (i x hx)).2 hx
  rw [V] at h1;cases h1
 rintro ⟨x,hx⟩ c R y w' q k N B C j K H G u
 dsimp only at k u ⊢
 obtain rfl:pX x=R:=Option.some.inj ((lX hx).symm.trans k)
 have t:=(d x hx).1 N
 obtain ⟨o,O⟩:=Option.isSome_iff_exists.1 (g x t)
 have T:c=enc o:=by
  have h1:=C (.held (.bool false))
  rw [(S x hx).2 o O] at h1
  unfold eX at B
  injection B with B
  rw [←B] at h1
  exact (DataW.held.inj h1).symm
 subst T
 refine p x o w' t hx O ⟨⟨D,_,q,j,S,fun z l=> ?_⟩,P.erase x,fun z l=>i z (List.mem_of_mem_erase l),fun z l=>g z (List.mem_of_mem_erase l)⟩ (by rw [j.left_eq,s.left_eq];exact K) H G u
 rw [P.mem_erase_iff,Bool.and_eq_true,d z l]
 constructor
 ·rintro ⟨h1,A⟩
  refine ⟨fun e=> ?_,h1⟩
  subst e
  have E:=jX.key (lX l)
  rw [show (pX z).sameKey (pX z)=true from WideAt.sameKey_self E] at A
  cases A
 rintro ⟨h1,A⟩
 exact ⟨A,by rw [sameKey_ne (fun e=>h1 (Bb l hx e))];rfl⟩
end
abbrev I32:={ x:Idl // x.length=32 }
def encI (x:I32):Value:=.agg (idC x.1).toArray
def iJ (l:List I32):List Idl:=l.map (·.1)
theorem wR (l:List I32) (x:I32):iJ (l++[x])=iJ l++[x.1]:=by simp [iJ]
theorem Av (l:List I32):(iJ l).length=l.length:=by simp [iJ]
theorem KU (l:List I32):∀x∈iJ l,x.length=32:=fun x hx=>by
 obtain ⟨y,_,rfl⟩:=List.mem_map.1 hx
 exact y.2
def apA:Code:=(Code.region 2 #[{ dst:=some 5,op:=Op.alloc 143,type:=0,pos:= "iter.go:51",after:=#[],guard:=none },{ dst:=none,op:=Op.store 143 (Operand.tmp 5) (Operand.tmp 7),type:=0,pos:= "iter.go:51",after:=#[{ on:=0,ground:=Ground.data },{ on:=0,ground:=Ground.phase }],guard:=none }] false)
def apB:Code:=(Code.block 1 (Code.region 3 #[{ dst:=some 8,op:=Op.load 106 (Operand.tmp 2),type:=106,pos:= "iter.go:52",after:=#[],guard:=none },{ dst:=some 9,op:=Op.load 143 (Operand.tmp 5),type:=143,pos:= "iter.go:52",after:=#[],guard:=none },{ dst:=some 10,op:=Op.buildSlice 106 1 #[(0,Operand.tmp 9)],type:=106,pos:= "iter.go:52",after:=#[{ on:=1,ground:=Ground.data }],guard:=none },{ dst:=some 11,op:=Op.call { callee:=Callee.builtin Builtin.append,args:=#[Operand.tmp 8,Operand.tmp 10],argTypes:=#[106,106] },type:=106,pos:= "iter.go:52",after:=#[{ on:=0,ground:=Ground.data },{ on:=2,ground:=Ground.data }],guard:=none },{ dst:=none,op:=Op.store 106 (Operand.tmp 2) (Operand.tmp 11),type:=0,pos:= "iter.go:52",after:=#[{ on:=3,ground:=Ground.data },{ on:=3,ground:=Ground.chain },{ on:=0,ground:=Ground.phase },{ on:=1,ground:=Ground.phase },{ on:=2,ground:=Ground.phase },{ on:=3,ground:=Ground.phase }],guard:=none }] false))
def apR (fn:FuncId) (sv:Value) (Bs D:Nat) (st:LoopState) (pend:Option Code):Loop :=
 { state:=st,pending:=pend,fn,tmps:=#[.slice none 0 0,sv,.pointer (some ⟨Bs,0,none⟩),undef,.slice none 0 0,undef,sv,undef,undef,undef,undef,undef,undef],params:=#[7],assign:=apA,body:=apB,defers:=D }
structure ApI (w0:World) (fn:FuncId) (sv:Value) (Bs l D:Nat) (ss:List I32) (W:World):Prop where
 box:∃ v,W.heap[Bs]? = some (.cells #[v] 106 (0,0)) ∧ W.ownsRow w0.heap.size 143 32 v ss.length (dx (iJ ss))
 L:W.heap[l]? = some (.loop (apR fn sv Bs D .ready none))
 K:W.heap[D]? = some (.deferred (some []))
 below:Below w0.heap.size w0 W
theorem Em (w0:World) (fn:FuncId) (sv:Value) (Bs l D B:Nat) (i:w0.heap.size≤B):AbidesFrom B (ApI w0 fn sv Bs l D):=fun s W W' row h d b=>by
 have a:∀r,row=some r→ ∃o:Obj,W.heap[r]? = some o∧o.isWalk=true:=fun r e=>(b r e).2
 obtain ⟨v,f,g⟩:=h.box
 exact ⟨⟨v,(grownBy_keeps d a f rfl).trans f,ownsRow_abides_a g d a⟩,(grownBy_keeps d a h.L rfl).trans h.L,(grownBy_keeps d a h.K rfl).trans h.K,
  h.below.grown d h.below.size (fun k e=>Nat.le_trans i (b k e).1)⟩
theorem JM:106≠143:=by decide
theorem KI (m : Nat) (w0 : World) (fn : FuncId) (sv : Value) (Bs l D : Nat) (hBl : Bs ≠ l) (hDl : D ≠ l) (hDB : D ≠ Bs) (h0B : w0.heap.size ≤ Bs) (h0l : w0.heap.size ≤ l)
    (N : Nat) (hN : N ≤ 1000000) (ss : List I32) (x : I32) (W : World) (h : ApI w0 fn sv Bs l D ss W) (hlen : ss.length < N) :
    YieldAt Fence.wide m prog l #[encI x] W fun e W' => e = .returned (.bool true) ∧ ApI w0 fn sv Bs l D (ss ++ [x]) W' ∧ KeepsWalks W W' := by
  obtain ⟨zi, i0, hi, hz0, hz1, hz2, hzi, hzil⟩ := gL
  obtain ⟨v, hv, hrow⟩ := h.box
  refine ⟨fn, #[.slice none 0 0, sv, .pointer (some ⟨Bs, 0, none⟩), undef, .slice none 0 0, undef, sv, encI x, undef, undef, undef, undef, undef], apA, apB, by simpa [apR] using run_yield (P := prog) (args := #[encI x]) h.L rfl, roundIn_of_wpIn trivial ?_⟩
  have hxl : (idC x.1).length = 32 := by rw [aA, x.2]
  obtain ⟨W1, hW1⟩ : ∃ W1, (W.alloc (.cells zi 143)).setCells W.heap.size 0 (idC x.1) = W1 := ⟨_, rfl⟩
  have wr1 := wrote (by rw [hxl, hzil]) (by rw [hzil]; omega) hW1
  have hv1 : W1.heap[Bs]? = some (.cells #[v] 106 (0, 0)) := (wr1.bel.block Bs (Array.getElem?_eq_some_iff.1 hv).1).trans hv
  have hK1 : W1.heap[D]? = some (.deferred (some [])) := (wr1.bel.block D (Array.getElem?_eq_some_iff.1 h.K).1).trans h.K
  have hl : l < W.heap.size := (Array.getElem?_eq_some_iff.1 h.L).1
  have hL1 : W1.heap[l]? = some (.loop (apR fn sv Bs D .ready none)) := (wr1.bel.block l hl).trans h.L
  have hrow1 : W1.ownsRow w0.heap.size 143 32 v ss.length (dx (iJ ss)) := own_below hrow wr1.bel
  have hb1 : Below w0.heap.size w0 W1 := h.below.trans (wr1.bel.mono h.below.size)
  have hbr := run_beginRound (P := prog) hL1 rfl
  obtain ⟨W3, hW3⟩ : ∃ W3, W1.putObj l (.loop { apR fn sv Bs D .ready none with state := .busy }) = W3 := ⟨_, rfl⟩
  rw [hW3] at hbr
  have hl1 : l < W1.heap.size := (Array.getElem?_eq_some_iff.1 hL1).1
  have hg3 : W1.grownBy W3 (some l) := by rw [← hW3]; exact grownBy_putObj_a _ _ _
  have hk1 : KeepsWalks W W1 := KeepsWalks.of_grownBy (row := none) (mF wr1.bel) (fun j o h => by cases h)
  have hk3 : KeepsWalks W W3 := hk1.trans (by rw [← hW3]; exact KeepsWalks.putObj _ hL1 rfl)
  have hv3 : W3.heap[Bs]? = some (.cells #[v] 106 (0, 0)) := by rw [← hW3]; exact (World.putObj_heap_other hBl).trans hv1
  have hK3 : W3.heap[D]? = some (.deferred (some [])) := by rw [← hW3]; exact (World.putObj_heap_other hDl).trans hK1
  have hL3 : W3.heap[l]? = some (.loop { apR fn sv Bs D .ready none with state := .busy }) := by rw [← hW3]; exact World.putObj_heap_same hl1
  have hrow3 : W3.ownsRow w0.heap.size 143 32 v ss.length (dx (iJ ss)) := hrow1.kept hg3 (ownsRow_ne_a hrow1 hL1 (fun cur e => by cases e))
  have hb3 : Below w0.heap.size w0 W3 := hb1.grown hg3 hb1.size (fun k e => by cases e; exact h0l)
  have hr3 : W3.rangeAt W.heap.size 0 (idC x.1) := jc wr1.row hg3 (fun e => by have := Option.some.inj e; omega)
  obtain ⟨hc3, hf3⟩ := cell_of_box_a hv3
  have h32x := jm hxl
  have HTH := ah (there_alloc W zi 143 hzil)
  have HON := ah (bC x.1)
  have HXL := ah hxl
  have HROW := ah hr3
  have HW1 := ah hW1
  have HSZ : Hid (∀ w, (sizeOf 143).run prog w = .ok (idC x.1).length w) := ah (fun w => by rw [hxl]; kernel_rfl)
  unfold encI
  clear hW3 hW1 hr3 wr1 hxl hg3 hk1 hv1 hK1 hL1 hrow1 hb1
  generalize hux : idC x.1 = ux at h32x HON HXL HROW HW1 HSZ ⊢
  unfold apA
  gi_wp2_with (first
    | (refine iE rfl 143 _ _ rfl W.heap.size 0 ux rfl rfl (by rw [HXL.out]; exact HTH.out) h32x HON.out ?_; rw [HW1.out])
    | gi_round_op_a)
  have hb3a : Below W3.heap.size W3 (W3.alloc (.cells ux.toArray 143)) := bal
  have HOWA := ah (own_below hrow3 hb3a)
  have HNEW : Hid (∀ j u, ux[j]? = some u → (W3.alloc (.cells ux.toArray 143)).cell? ((⟨W3.heap.size, 0, none⟩ : Addr).add j) = some u) := ah (fun j u hj => iP _ ux _ j u hj)
  have ne_of : ∀ {j : Nat} {o : Obj}, W3.heap[j]? = some o → (∀ cur, o ≠ .cells cur 143 (0, 0)) → some j ≠ v.ownBlock := fun hj hno => by
    rcases ownsRow_ne_a hrow3 hj hno with e | e
    · rw [e]; simp
    · exact fun e' => e e'.symm
  have hbase : w0.heap.size ≤ W3.heap.size := hb3.size
  have n1 := ne_of hv3 (fun cur e => JM (Obj.cells.inj e).2.1)
  have n2 := ne_of hL3 (fun cur e => by cases e)
  have n3 := ne_of hK3 (fun cur e => by cases e)
  have HNE := ah (And.intro n1 (And.intro n2 n3))
  have HV3 := ah hv3
  have HL3 := ah hL3
  have HK3 := ah hK3
  have HB3 := ah hb3
  have HKW := ah hk3
  have HROW3 := ah hrow3
  clear hv3 hL3 hK3 hb3 hk3 hrow3 hb3a n1 n2 n3 ne_of
  unfold apB
  gi_wp2_with (first
    | (refine iV rfl 143 _ rfl W.heap.size 0 rfl ux _ HROW.out underlying143 rfl h32x ?_)
    | (refine jE rfl (.tmp 9) 106 143 rfl ux zi rfl underlying106 HSZ.out hzi (by rw [HXL.out]; omega) (by rw [HXL.out]; omega) ?_)
    | (gi_at_builtin; refine wpListIn_append_own _ rfl (.tmp 8) (.tmp 10) 106 rfl w0.heap.size 143 i0 (.agg zi) 32 32 underlying106 hi hz0 hz1 hz2 hzil (by decide) v ss.length (dx (iJ ss)) rfl HOWA.out ⟨W3.heap.size, 0, none⟩ 1 1 ux rfl HXL.out HNEW.out HON.out (by unfold maxLen; omega) (by omega) (by rw [World.size_alloc]; omega) ?_; intro v' w5 hown5 hg5 _
       have hv5 : w5.heap[Bs]? = some (.cells #[v] 106 (0, 0)) := (hg5.block Bs (by rw [World.size_alloc]; have := (Array.getElem?_eq_some_iff.1 HV3.out).1; omega) HNE.out.1).trans ((Below.heap_alloc _ _ Bs (Array.getElem?_eq_some_iff.1 HV3.out).1).trans HV3.out)
       obtain ⟨hc5, hf5⟩ := cell_of_box_a hv5
       obtain ⟨co, cc, rfl⟩ := dL hown5
       go_frame)
    | gi_round_op_a)
  have hv5 : w5.heap[Bs]? = some (.cells #[v] 106 (0, 0)) := (hg5.block Bs (by rw [World.size_alloc]; have := (Array.getElem?_eq_some_iff.1 HV3.out).1; omega) HNE.out.1).trans ((Below.heap_alloc _ _ Bs (Array.getElem?_eq_some_iff.1 HV3.out).1).trans HV3.out)
  have hl3 := (Array.getElem?_eq_some_iff.1 HL3.out).1
  have hd3 := (Array.getElem?_eq_some_iff.1 HK3.out).1
  have hL5 : w5.heap[l]? = some (.loop { apR fn sv Bs D .ready none with state := .busy }) := (hg5.block l (by rw [World.size_alloc]; omega) HNE.out.2.1).trans ((Below.heap_alloc _ _ l hl3).trans HL3.out)
  have hK5 : w5.heap[D]? = some (.deferred (some [])) := (hg5.block D (by rw [World.size_alloc]; omega) HNE.out.2.2).trans ((Below.heap_alloc _ _ D hd3).trans HK3.out)
  obtain ⟨w6, hw6⟩ : ∃ w6, w5.setCell ⟨Bs, 0, none⟩ (.slice co (ss.length + 1) cc) = w6 := ⟨_, rfl⟩
  rw [hw6]
  have hg6 : w5.grownBy w6 (some Bs) := by rw [← hw6]; exact grownBy_setCell0_a _ _ _
  have hv6 : w6.heap[Bs]? = some (.cells #[.slice co (ss.length + 1) cc] 106 (0, 0)) := by rw [← hw6]; exact heap_setCell_box_a _ hv5
  have hL6 : w6.heap[l]? = some (.loop { apR fn sv Bs D .ready none with state := .busy }) := (hg6.block l (Array.getElem?_eq_some_iff.1 hL5).1 (fun e => hBl (by cases e; rfl))).trans hL5
  have hK6 : w6.heap[D]? = some (.deferred (some [])) := (hg6.block D (Array.getElem?_eq_some_iff.1 hK5).1 (fun e => hDB (by cases e; rfl))).trans hK5
  have hrow6 := hown5.kept hg6 (ownsRow_ne_a hown5 hv5 (fun cur e => JM (Obj.cells.inj e).2.1))
  have hl6 : l < w6.heap.size := (Array.getElem?_eq_some_iff.1 hL6).1
  have hb5 : Below w0.heap.size w0 w5 := (HB3.out.alloc HB3.out.size _).grown hg5 (by rw [World.size_alloc]; omega) (fun k e => (HROW3.out.lt k e).1)
  have hb6 : Below w0.heap.size w0 w6 := hb5.grown hg6 hb5.size (fun k e => by cases e; exact h0B)
  have hk6 : KeepsWalks W w6 := ((HKW.out.trans (KeepsWalks.alloc _ _)).trans (KeepsWalks.of_grownBy hg5 (ownsRow_not_walk_a HOWA.out))).trans (by rw [← hw6]; exact KeepsWalks.setCell _ _ _)
  clear hw6
  refine ⟨_, _, run_endRound none hL6, rfl, ⟨⟨_, (World.putObj_heap_other hBl).trans hv6, ?_⟩, World.putObj_heap_same hl6, (World.putObj_heap_other hDl).trans hK6, hb6.grown (grownBy_putObj_a _ _ _) hb6.size (fun k e => by cases e; exact h0l)⟩, hk6.trans (KeepsWalks.putObj _ hL6 rfl)⟩
  have := hrow6.kept (grownBy_putObj_a w6 l (.loop { { apR fn sv Bs D .ready none with state := .busy } with state := if (none : Option Code).isNone then .ready else .done, pending := none })) (ownsRow_ne_a hrow6 hL6 (fun cur e => by cases e))
  rw [wR, lY, hux, List.length_append, List.length_singleton]
  exact this
theorem El (n : Nat) (hn : 2 ≤ n) (g : Nat) (lb : Array Value) (eg : ∀ args w, (callFunc g args).run prog w = .ok (.enter g args) w)
    (S : List I32 → Prop) (N : Nat) (hN : N ≤ 1000000) (w : World) (hseq : SeqGives Fence.wide (n - 1) prog g lb encI S N w) :
    CallsIn Fence.wide n prog 330 #[.slice none 0 0, .func (.func g) #[] lb] w fun e w' => ∃ (v : Value) (ss : List I32), e = .returned v ∧ S ss ∧ w'.ownsRow w.heap.size 143 32 v ss.length (dx (iJ ss)) ∧ Below w.heap.size w w' := by
  refine callsIn_of_wp_marks func330 rfl trivial ?_ rfl
  simp only [ntmps330, List.size_toArray, List.length_cons, List.length_nil, Nat.reduceAdd, Nat.reduceSub, Array.replicate_succ, Array.replicate_zero, List.push_toArray, List.append_toArray, List.nil_append, List.cons_append]
  gi_wp2
  refine wpIn_rangeFunc ?_
  intro fn hfn
  rw [show Fence.wide.round = none from rfl]
  obtain ⟨W0, hW0⟩ : ∃ W0, w.alloc (.cells #[.slice none 0 0] 106) = W0 := ⟨_, rfl⟩
  have hs0 : W0.heap.size = w.heap.size + 1 := by rw [← hW0]; simp
  have hv0 : W0.heap[w.heap.size]? = some (.cells #[.slice none 0 0] 106 (0, 0)) := by rw [← hW0]; exact World.alloc_heap_new w _
  have hb0 : Below w.heap.size w W0 := by rw [← hW0]; exact (Below.refl _ w).alloc (Nat.le_refl _) _
  rw [hW0]
  obtain ⟨W1, hW1⟩ : ∃ W1, (W0.alloc (.deferred (some []))).alloc (.loop (apR fn (.func (.func g) #[] lb) w.heap.size W0.heap.size .ready none)) = W1 := ⟨_, rfl⟩
  have hold : ∀ k, k < W0.heap.size → W1.heap[k]? = W0.heap[k]? := fun k hk => by
    rw [← hW1]; exact (Below.heap_alloc _ _ k (by simp; omega)).trans (Below.heap_alloc _ _ k hk)
  have hb1 : Below w.heap.size w W1 := by rw [← hW1]; exact (hb0.alloc hb0.size _).alloc (by have := hb0.size; simp; omega) _
  have hs1 : W1.heap.size = W0.heap.size + 2 := by rw [← hW1]; simp
  have hM : ApI w fn (.func (.func g) #[] lb) w.heap.size (W0.heap.size + 1) W0.heap.size [] W1 :=
    ⟨⟨_, (hold w.heap.size (by omega)).trans hv0, ⟨rfl, .inl ⟨rfl, rfl⟩⟩⟩,
     by rw [← hW1]; have := World.alloc_heap_new (W0.alloc (.deferred (some []))) (.loop (apR fn (.func (.func g) #[] lb) w.heap.size W0.heap.size .ready none)); rwa [World.size_alloc] at this,
     by rw [← hW1]; exact (Below.heap_alloc _ _ _ (by simp)).trans (World.alloc_heap_new W0 _), hb1⟩
  refine ⟨W0.heap.size + 1, [{ target := .collected W0.heap.size, args := #[] }], W1, { target := .fn (.func g) lb, args := #[.func (.yield (W0.heap.size + 1)) #[] #[]] }, W1, g,
    #[.func (.yield (W0.heap.size + 1)) #[] #[]] ++ lb, W1, ?_, ?_, ?_, ?_, fun _ => by omega, ?_⟩
  · rw [← hW1]; exact run_enterLoop_outer _ _ _ _ _
  · simp [resolve, go_sem]
  · intro f' _; trivial
  · simp [invoke, go_sem, eg]
  · refine (hseq (W0.heap.size + 1) (ApI w fn (.func (.func g) #[] lb) w.heap.size (W0.heap.size + 1) W0.heap.size) W1 hb1 (Em _ _ _ _ _ _ _ hb1.size)
      (fun pre x W hJ hl => KI (n - 1 - 1) w fn _ w.heap.size (W0.heap.size + 1) W0.heap.size (by omega) (by omega) (by omega) (Nat.le_refl _) (by omega) N hN pre x W hJ hl) hM).mono ?_
    rintro e W2 ⟨⟨v0, rfl⟩, ss, hS, h2⟩
    obtain ⟨v, hv, hrow⟩ := h2.box
    have hend := run_endLoop (P := prog) h2.L (by simp [apR])
    obtain ⟨W3, hW3⟩ : ∃ W3, W2.putObj (W0.heap.size + 1) (.loop { apR fn (.func (.func g) #[] lb) w.heap.size W0.heap.size .ready none with state := .exhausted }) = W3 := ⟨_, rfl⟩
    rw [hW3] at hend
    have hg3 : W2.grownBy W3 (some (W0.heap.size + 1)) := by rw [← hW3]; exact grownBy_putObj_a _ _ _
    have hv3 : W3.heap[w.heap.size]? = some (.cells #[v] 106 (0, 0)) := by rw [← hW3]; exact (World.putObj_heap_other (by omega)).trans hv
    have hK3 : W3.heap[W0.heap.size]? = some (.deferred (some [])) := by rw [← hW3]; exact (World.putObj_heap_other (by omega)).trans h2.K
    have hrow3 := hrow.kept hg3 (ownsRow_ne_a hrow h2.L (fun cur e => by cases e))
    have hb3 : Below w.heap.size w W3 := h2.below.grown hg3 h2.below.size (fun k e => by cases e; omega)
    obtain ⟨hc3, hf3⟩ := cell_of_box_a hv3
    clear hW3
    refine ⟨none, W3, hend, ?_⟩
    gi_wp2
    rw [← hs0]
    refine ⟨by simp, .inl ⟨_, _, rfl, run_takeDeferred hK3, ?_⟩⟩
    exact ⟨_, results_tmp rfl _ _ _, v, ss, rfl, hS, hrow3.kept (grownBy_putObj_a _ _ _) (ownsRow_ne_a hrow3 hK3 (fun cur e => by cases e)), hb3.grown (grownBy_putObj_a _ _ _) hb3.size (fun k e => by cases e; omega)⟩
theorem Kv (n:Nat) (j:3≤n) (g:Nat) (d:Array Value) (f:∀args w,(callFunc g args).run prog w= .ok (.enter g args) w)
  (S:List I32→Prop) (N:Nat) (i:N≤1000000) (w:World) (a:SeqGives Fence.wide (n-1-1) prog g d encI S N w) :
  CallsIn Fence.wide n prog 313 #[.func (.func g) #[] d] w fun e w'=> ∃(v:Value) (ss:List I32),e= .returned v∧S ss∧w'.ownsRow w.heap.size 143 32 v ss.length (dx (iJ ss))∧Below w.heap.size w w':=by
 have h:=El (n-1) (by omega) g d f S N i w a
 refine callsIn_of_wp func313 rfl trivial ?_ rfl
 simp only [ntmps313,List.size_toArray,List.length_cons,List.length_nil,Nat.reduceAdd,Nat.reduceSub,Array.replicate_succ,Array.replicate_zero,List.push_toArray,List.append_toArray,List.nil_append,List.cons_append]
 gi_wp2_with fail
 refine ⟨trivial,fun _=>by omega,?_⟩
 refine h.mono ?_
 rintro e w' ⟨v,ss,rfl,hS,b,hb⟩
 gi_wp2
 go_ret
 exact ⟨v,ss,rfl,hS,b,hb⟩
theorem Dz {α:Type} {enc:α→Value} (n:Nat) (hn:1≤n) (l Bm b O:Nat) (f:Idl→Option α) (L:List Idl) (J:List I32→World→Prop)
  (hY:∀p x W,J p W→p.length<L.length→YieldAt Fence.wide (n-1) prog l #[encI x] W fun e W'=>e= .returned (.bool true)∧J (p++[x]) W'∧KeepsWalks W W')
  (W:World) (T:AbidesFrom W.heap.size J) (hm:W.cell? ⟨Bm,0,none⟩=some (.map (some b))) (G:iU enc W b O f) (Q:L.Nodup) (hl:∀x∈L,x.length=32) (hL:∀x,x.length=32→((f x).isSome=true↔x∈L)) (h0:J [] W) :
  CallsIn Fence.wide n prog 314 #[.func (.yield l) #[] #[],.pointer (some ⟨Bm,0,none⟩)] W fun e W'=>(∃v,e= .returned v)∧ ∃ss:List I32,(iJ ss).Perm L∧J ss W':=by
 obtain ⟨zi,i0,hi,aa,ac,ab,ag,h⟩:=gL
 refine callsIn_of_wp func314 rfl trivial ?_ rfl
 simp only [ntmps314,List.size_toArray,List.length_cons,List.length_nil,Nat.reduceAdd,Nat.reduceSub,Array.replicate_succ,Array.replicate_zero,List.push_toArray,List.append_toArray,List.nil_append,List.cons_append]
 gi_wp2_with (first
  | (gi_at_range;refine pI rfl _ 328 4 rfl underlying328 b O f L rfl G Q hl hL ?_;intro w0 M Y af)
  | gi_in)
 go_frame
 gi_loopw [3] (fun _ wr=> ∃(ss:List I32) (Lr:List Idl),bN enc wr b W.heap.size O f Lr∧(iJ ss++Lr).Perm L∧J ss wr) (fun _ wr=>wr.rangeLeft b W.heap.size)
 case atStart=>exact ⟨[],L,M,List.Perm.refl _,T [] W w0 none h0 Y (fun r e=>by cases e)⟩
 obtain ⟨ss,Lr,y,hp,u⟩:=hrel
 have U:=ah hp
 clear hp
 gi_wp2_with (first
  | (gi_at_next;refine qZ rfl _ rfl b W.heap.size O f Lr rfl y ?_ ?_)
  | gi_in)
 ·intro V
  gi_wp2
  go_end0
  exact ⟨⟨_,rfl⟩,ss,by have:=U.out;rw [V,List.append_nil] at this;exact this,u⟩
 intro x c k N hx ad a H E Z X
 have o:ss.length<L.length:=by
  have h1:=U.out.length_eq
  rw [List.length_append,Av] at h1
  have:=List.length_pos_of_mem N
  omega
 have i:(idC x).length=32:=by rw [aA,hx]
 obtain ⟨q,s⟩:∃q,(k.alloc (.cells zi 143)).setCells k.heap.size 0 (idC x)=q:=⟨_,rfl⟩
 have d:=wrote (by rw [i,h]) (by rw [h];omega) s
 have I:J ss k:=T ss wr k (some W.heap.size) u E (fun r e=>by cases e;exact ⟨Nat.le_refl _,y.isWalk⟩)
 have D:J ss q:=T ss k q none I (mF d.bel) (fun r e=>by cases e)
 have m:=ah (a.on d.bel)
 have R:Hid (q.rangeLeft b W.heap.size<wr.rangeLeft b W.heap.size):=ah (by rw [tu (d.bel.block b a.map.lt) (d.bel.block W.heap.size a.lt)];exact H)
 have S:Hid ((iJ (ss++[⟨x,hx⟩])++Lr.erase x).Perm L):=ah (by
  rw [wR,List.append_assoc]
  exact (((List.perm_cons_erase N).symm).append_left (iJ ss)).trans U.out)
 obtain ⟨fn,tmps,assign,body,hy,hR⟩:=hY ss ⟨x,hx⟩ q D o
 change Sem.run prog (Instr.yield l #[.agg (idC x).toArray]) q=_ at hy
 have g:=jm i
 have ae:(prog.info? 143).map (·.size)=some 32:=by kernel_rfl
 have K:=ah (there_alloc k zi 143 h)
 have A:=ah (bC x)
 have z:=ah i
 have j:=ah d.row
 have F:=ah s
 have HR:=ah hR
 clear i d I D y a H E Z u o s hR
 generalize idC x=ux at X g K A z j F hy
 gi_wp2_with (first
  | (refine iE rfl 143 _ _ rfl k.heap.size 0 ux rfl rfl (by rw [z.out];exact K.out) g A.out ?_)
  | (rw [F.out];refine iV rfl 143 _ rfl k.heap.size 0 rfl ux _ j.out underlying143 rfl g ?_)
  | gi_in)
 refine HR.out.mono ?_
 rintro e w4 ⟨rfl,P,t⟩
 have C:=ah (m.out.walks t)
 have B:Hid (w4.rangeLeft b W.heap.size<wr.rangeLeft b W.heap.size):=ah (by rw [m.out.Ck t];exact R.out)
 clear t
 gi_wp2
 go_roundw
 case rel=>exact ⟨ss++[⟨x,hx⟩],Lr.erase x,C.out,S.out,P⟩
 case measure=>exact B.out
theorem yU {α:Type} {enc:α→Value} (n:Nat) (q:1≤n) (a b h:Nat) (f:Idl→Option α) (L:List Idl) (w:World) (e:a<w.heap.size) (hm:w.cell? ⟨a,0,none⟩=some (.map (some b))) (d:iU enc w b h f) (g:L.Nodup) (k:∀x∈L,x.length=32) (o:∀x,x.length=32→((f x).isSome=true↔x∈L)) :
  SeqGives Fence.wide n prog 314 #[.pointer (some ⟨a,0,none⟩)] encI (fun ss=>(iJ ss).Perm L) L.length w:=fun l J W i r j m =>
 Dz n q l a b h f L J j W r ((i.cell (p:=⟨a,0,none⟩) e).trans hm) (d.on i) g k o m
theorem Dy (a:Option Nat) (w:World):Calls prog 281 #[.map a] w fun e w'=>e= .returned (.func (.func 314) #[] #[.pointer (some ⟨w.heap.size,0,none⟩)])∧w'=w.alloc (.cells #[.map a] 328):=by
 go_enter func281,ntmps281
 go_wp2
 go_ret
 exact ⟨rfl,rfl⟩
end
end Go.Proofs.YtejamhkgjkhjdaaGreatDoor
