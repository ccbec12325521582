/- A part of this claim. -/
import Derived.Shelf.SlIter.Collect
import Derived.Test.YtlhcoanbhnphgaaGreatDoorWm10
namespace Go.Proofs.YtlhcoanbhnphgaaGreatDoor
open Tryz
set_option maxHeartbeats 64000000
set_option maxRecDepth 100000
section
open Go.RowKit Go.Maps Go.Sort Go.Shelf
section
variable {F:Fence} {n':Nat} {P:Program} {w:World} {ops:Array Oper} {rest:List Oper} {o:Oper} {a:Act} {Q:Exit → Act → World → Prop}
theorem fI (hg:o.guard = none) (ty:TypeId) (x:Operand) (hop:o.op = .load ty x) (b off:Nat) (hx:a.eval x = .pointer (some ⟨b,off,none⟩)) (cs:List Value) (d:TypeDesc) (hc:w.rangeAt b off cs)
  (hu:P.underlying ty = some d) (hd:d.isRow = true) (hi:(P.info? ty).map (·.size) = some cs.length) (hK:wpListIn F n' P ops Q rest (a.put o.dst (.agg cs.toArray)) w):wpListIn F n' P ops Q (o :: rest) a w:=by
 refine wpListIn_plain hg fun K hK' => ?_
 have hrun:=run_loadAt_mid (P:=P) w b off ty cs d hc hu hd hi
 unfold Oper.wpIn
 refine ⟨by simp [Oper.about,hop],?_⟩
 rw [Oper.semAt_plain F _ _ (by rw [hop];intro c hc';cases hc')]
 simp [execOp,hop,hx,hrun,Result.andThen]
 exact hK' _ _ hK
theorem eY (hg:o.guard = none) (ty:TypeId) (x v:Operand) (hop:o.op = .store ty x v) (b off:Nat) (cs:List Value) (hx:a.eval x = .pointer (some ⟨b,off,none⟩)) (hv:a.eval v = .agg cs.toArray)
  (ht:w.there b off cs.length) (hi:(P.info? ty).map (·.size) = some cs.length) (h1:∀ u ∈ cs,u.oneCell' = true) (hK:wpListIn F n' P ops Q rest (a.put o.dst undef) (w.setCells b off cs)):wpListIn F n' P ops Q (o :: rest) a w:=by
 refine wpListIn_plain hg fun K hK' => ?_
 have hrun:=run_storeAt_mid (P:=P) w b off ty cs.toArray (by simpa using ht) (by simpa using hi) (by simpa [Array.all_eq_true_iff_forall_mem] using h1)
 unfold Oper.wpIn
 refine ⟨by simp [Oper.about,hop],?_⟩
 rw [Oper.semAt_plain F _ _ (by rw [hop];intro c hc';cases hc')]
 simp [execOp,hop,hx,hv,hrun,Result.andThen]
 exact hK' _ _ hK
theorem jo (hg:o.guard = none) (x:Operand) (t e:TypeId) (hop:o.op = .buildSlice t 1 #[(0,x)])
  (cs:List Value) (zs:Array Value) (hx:a.eval x = .agg cs.toArray) (ht:P.underlying t = some (.slice e)) (hsz:∀ w,(sizeOf e).run P w = .ok cs.length w) (hz:∀ w,(zeroValue e).run P w = .ok (.agg zs) w)
  (hpos:0 < cs.length) (hlim:cs.length ≤ 1000) (hK:wpListIn F n' P ops Q rest (a.put o.dst (.slice (some ⟨w.heap.size,0,none⟩) 1 1)) (w.alloc (.cells cs.toArray e))):wpListIn F n' P ops Q (o :: rest) a w:=by
 refine wpListIn_plain hg fun K hK' => ?_
 have hrun:=iE w t e cs zs ht hsz hz hpos hlim
 unfold Oper.wpIn
 refine ⟨by simp [Oper.about,hop],?_⟩
 rw [Oper.semAt_plain F _ _ (by rw [hop];intro c hc';cases hc')]
 simp [execOp,hop,hx,hrun,Result.andThen]
 exact hK' _ _ hK
end
section
variable {α:Type} {enc:α → Value} {F:Fence} {n':Nat} {w:World} {ops:Array Oper} {rest:List Oper} {o:Oper} {a:Act} {Q:Exit → Act → World → Prop}
theorem bJ.walks {w w':World} {b r n:Nat} {f:Idl → Option α} {L:List Idl} (h:bJ enc w b r n f L) (hk:KeepsWalks w w'):bJ enc w' b r n f L:=by
 obtain ⟨⟨D,left,cnt,h1,h2,h3⟩,k1,k2,k3⟩:=h
 exact ⟨⟨D,left,cnt,h1.of_walks hk,h2,h3⟩,k1,k2,k3⟩
theorem bJ.ru {w w':World} {b r n:Nat} {f:Idl → Option α} {L:List Idl} (h:bJ enc w b r n f L) (hk:KeepsWalks w w'):w'.rangeLeft b r = w.rangeLeft b r:=by
 obtain ⟨⟨D,left,cnt,h1,_⟩,_⟩:=h
 rw [(h1.of_walks hk).left_eq,h1.left_eq]
theorem bJ.isWalk {w:World} {b r n:Nat} {f:Idl → Option α} {L:List Idl} (h:bJ enc w b r n f L):∃ o:Obj,w.heap[r]? = some o ∧ o.isWalk = true:=by
 obtain ⟨⟨D,left,cnt,h1,_⟩,_⟩:=h
 exact h1.iter_walk
theorem jm (hg:o.guard = none) (m:Operand) (t e:TypeId) (hop:o.op = Op.range t m) (ht:prog.underlying t = some (.map 42 e))
  (b n:Nat) (f:Idl → Option α) (L:List Idl) (hm:a.eval m = .map (some b)) (hown:MapG enc w b n f) (hn:L.Nodup) (hl:∀ x ∈ L,x.length = 32) (hL:∀ x,x.length = 32 → ((f x).isSome = true ↔ x ∈ L))
  (hK:∀ w',bJ enc w' b w.heap.size n f L → w.grownBy w' none → w'.heap.size = w.heap.size + 1 → wpListIn F n' prog ops Q rest (a.put o.dst (.pointer (some ⟨w.heap.size,0,none⟩))) w') :
  wpListIn F n' prog ops Q (o :: rest) a w:=by
 obtain ⟨D,hown,hD⟩:=hown
 exact wpListIn_range_own w hg m t hop 42 e eX ht cZ b n D hm hown fun w' h1 h2 h3 => hK w' ⟨⟨D,_,_,h1,hD,fun x hx => by rw [(hD x hx).1];exact hL x hx⟩,hn,hl,fun x hx => (hL x (hl x hx)).2 hx⟩ h2 h3
theorem jX (hg:o.guard = none) (it:Operand) (hop:o.op = Op.next it false) (b r n:Nat) (f:Idl → Option α) (L:List Idl)
  (hit:a.eval it = .pointer (some ⟨r,0,none⟩)) (h:bJ enc w b r n f L)
  (hDone:L = [] → wpListIn F n' prog ops Q rest (a.put o.dst (.tuple #[.bool false])) w)
  (hMore:∀ (x:Idl) (c:α) (w':World),x ∈ L → x.length = 32 → f x = some c → bJ enc w' b r n f (L.erase x) → w'.rangeLeft b r < w.rangeLeft b r → w.grownBy w' (some r) → w'.heap.size = w.heap.size →
   (Instr.entry (.pointer (some ⟨r,0,none⟩))).run prog w' = .ok (.tuple #[.agg (idC x).toArray,enc c]) w' → wpListIn F n' prog ops Q rest (a.put o.dst (.tuple #[.bool true,.agg (idC x).toArray,enc c])) w') :
  wpListIn F n' prog ops Q (o :: rest) a w:=by
 obtain ⟨⟨D,left,cnt,hrg,hD,hleft⟩,hn,hlen,hthere⟩:=h
 refine wpListIn_next_ranges (α:={ x:Idl // x.length = 32 }) (β:=Value) w hg it hop 42 eX cZ (fun x => .agg (idC x.1).toArray) id (fun key kl hk => by
  obtain ⟨x,hx,e⟩:=xL hk
  exact ⟨⟨x,hx⟩,e⟩) (fun v _ _ => ⟨v,rfl⟩) b r n D left cnt hit hrg ?_ ?_
 ·intro _ hl
  refine hDone (List.eq_nil_iff_forall_not_mem.2 fun x hx => ?_)
  have h1:=(hleft x (hlen x hx)).2 hx
  rw [hl] at h1;cases h1
 rintro ⟨x,hx⟩ c kl y w' cnt' hkey hlk hv hat hrg' hlt hgr hsz hen
 dsimp only at hkey hen ⊢
 obtain rfl:keyI x = kl:=Option.some.inj ((gN hx).symm.trans hkey)
 have hxL:=(hleft x hx).1 hlk
 obtain ⟨o,ho⟩:=Option.isSome_iff_exists.1 (hthere x hxL)
 have hc:c = enc o:=by
  have h1:=hat (.held (.bool false))
  rw [(hD x hx).2 o ho] at h1
  unfold cZ at hv
  injection hv with hv
  rw [← hv] at h1
  exact (DataW.held.inj h1).symm
 subst hc
 refine hMore x o w' hxL hx ho ⟨⟨D,_,cnt',hrg',hD,fun z hz => ?_⟩,hn.erase x,fun z hz => hlen z (List.mem_of_mem_erase hz),fun z hz => hthere z (List.mem_of_mem_erase hz)⟩ (by rw [hrg'.left_eq,hrg.left_eq];exact hlt) hgr hsz hen
 rw [hn.mem_erase_iff,Bool.and_eq_true,hleft z hz]
 constructor
 ·rintro ⟨h1,h2⟩
  refine ⟨fun e => ?_,h1⟩
  subst e
  have hk:=eX.key (gN hz)
  rw [show (keyI z).sameKey (keyI z) = true from WideAt.sameKey_self hk] at h2
  cases h2
 rintro ⟨h1,h2⟩
 exact ⟨h2,by rw [sameKey_ne (fun e => h1 (sZ hz hx e))];rfl⟩
end
abbrev I32:={ x:Idl // x.length = 32 }
def encI (x:I32):Value:=.agg (idC x.1).toArray
def rawI (l:List I32):List Idl:=l.map (·.1)
theorem o7 (l:List I32) (x:I32):rawI (l ++ [x]) = rawI l ++ [x.1]:=by simp [rawI]
theorem sj (l:List I32):(rawI l).length = l.length:=by simp [rawI]
theorem Ju (l:List I32):∀ x ∈ rawI l,x.length = 32:=fun x hx => by
 obtain ⟨y,_,rfl⟩:=List.mem_map.1 hx
 exact y.2
def apA:Code:=(Code.region 2 #[{ dst:=some 5,op:=Op.alloc 42,type:=0,pos:= "iter.go:51",after:=#[],guard:=none },{ dst:=none,op:=Op.store 42 (Operand.tmp 5) (Operand.tmp 7),type:=0,pos:= "iter.go:51",after:=#[{ on:=0,ground:=Ground.data },{ on:=0,ground:=Ground.phase }],guard:=none }] false)
def apB:Code:=(Code.block 1 (Code.region 3 #[{ dst:=some 8,op:=Op.load 44 (Operand.tmp 2),type:=44,pos:= "iter.go:52",after:=#[],guard:=none },{ dst:=some 9,op:=Op.load 42 (Operand.tmp 5),type:=42,pos:= "iter.go:52",after:=#[],guard:=none },{ dst:=some 10,op:=Op.buildSlice 44 1 #[(0,Operand.tmp 9)],type:=44,pos:= "iter.go:52",after:=#[{ on:=1,ground:=Ground.data }],guard:=none },{ dst:=some 11,op:=Op.call { callee:=Callee.builtin Builtin.append,args:=#[Operand.tmp 8,Operand.tmp 10],argTypes:=#[44,44] },type:=44,pos:= "iter.go:52",after:=#[{ on:=0,ground:=Ground.data },{ on:=2,ground:=Ground.data }],guard:=none },{ dst:=none,op:=Op.store 44 (Operand.tmp 2) (Operand.tmp 11),type:=0,pos:= "iter.go:52",after:=#[{ on:=3,ground:=Ground.data },{ on:=3,ground:=Ground.chain },{ on:=0,ground:=Ground.phase },{ on:=1,ground:=Ground.phase },{ on:=2,ground:=Ground.phase },{ on:=3,ground:=Ground.phase }],guard:=none }] false))
def apR (fn:FuncId) (sv:Value) (Bs D:Nat) (st:LoopState) (pend:Option Code):Loop :=
 { state:=st,pending:=pend,fn,tmps:=#[.slice none 0 0,sv,.pointer (some ⟨Bs,0,none⟩),undef,.slice none 0 0,undef,sv,undef,undef,undef,undef,undef,undef],params:=#[7],assign:=apA,body:=apB,defers:=D }
structure ApI (w0:World) (fn:FuncId) (sv:Value) (Bs l D:Nat) (ss:List I32) (W:World):Prop where
 box:∃ v,W.heap[Bs]? = some (.cells #[v] 44 (0,0)) ∧ W.ownsRow w0.heap.size 42 32 v ss.length (idsF (rawI ss))
 L:W.heap[l]? = some (.loop (apR fn sv Bs D .ready none))
 K:W.heap[D]? = some (.deferred (some []))
 below:Below w0.heap.size w0 W
theorem Cc (w0:World) (fn:FuncId) (sv:Value) (Bs l D B:Nat) (hB:w0.heap.size ≤ B):AbidesFrom B (ApI w0 fn sv Bs l D):=fun s W W' row h hg hrow => by
 have hrow':∀ r,row = some r → ∃ o:Obj,W.heap[r]? = some o ∧ o.isWalk = true:=fun r e => (hrow r e).2
 obtain ⟨v,hv,hr⟩:=h.box
 exact ⟨⟨v,(grownBy_keeps hg hrow' hv rfl).trans hv,ownsRow_abides_a hr hg hrow'⟩,(grownBy_keeps hg hrow' h.L rfl).trans h.L,(grownBy_keeps hg hrow' h.K rfl).trans h.K,
  h.below.grown hg h.below.size (fun k e => Nat.le_trans hB (hrow k e).1)⟩
theorem Hw:44 ≠ 42:=by decide
theorem Jb (m : Nat) (w0 : World) (fn : FuncId) (sv : Value) (Bs l D : Nat) (hBl : Bs ≠ l) (hDl : D ≠ l) (hDB : D ≠ Bs) (h0B : w0.heap.size ≤ Bs) (h0l : w0.heap.size ≤ l)
    (N : Nat) (hN : N ≤ 1000000) (ss : List I32) (x : I32) (W : World) (h : ApI w0 fn sv Bs l D ss W) (hlen : ss.length < N) :
    YieldAt Fence.wide m prog l #[encI x] W fun e W' => e = .returned (.bool true) ∧ ApI w0 fn sv Bs l D (ss ++ [x]) W' ∧ KeepsWalks W W' := by
  obtain ⟨zi, i0, hi, hz0, hz1, hz2, hzi, hzil⟩ := dH
  obtain ⟨v, hv, hrow⟩ := h.box
  refine ⟨fn, #[.slice none 0 0, sv, .pointer (some ⟨Bs, 0, none⟩), undef, .slice none 0 0, undef, sv, encI x, undef, undef, undef, undef, undef], apA, apB, by simpa [apR] using run_yield (P := prog) (args := #[encI x]) h.L rfl, roundIn_of_wpIn trivial ?_⟩
  have hxl : (idC x.1).length = 32 := by rw [au, x.2]
  obtain ⟨W1, hW1⟩ : ∃ W1, (W.alloc (.cells zi 42)).setCells W.heap.size 0 (idC x.1) = W1 := ⟨_, rfl⟩
  have wr1 := wrote (by rw [hxl, hzil]) (by rw [hzil]; omega) hW1
  have hv1 : W1.heap[Bs]? = some (.cells #[v] 44 (0, 0)) := (wr1.bel.block Bs (Array.getElem?_eq_some_iff.1 hv).1).trans hv
  have hK1 : W1.heap[D]? = some (.deferred (some [])) := (wr1.bel.block D (Array.getElem?_eq_some_iff.1 h.K).1).trans h.K
  have hl : l < W.heap.size := (Array.getElem?_eq_some_iff.1 h.L).1
  have hL1 : W1.heap[l]? = some (.loop (apR fn sv Bs D .ready none)) := (wr1.bel.block l hl).trans h.L
  have hrow1 : W1.ownsRow w0.heap.size 42 32 v ss.length (idsF (rawI ss)) := own_below hrow wr1.bel
  have hb1 : Below w0.heap.size w0 W1 := h.below.trans (wr1.bel.mono h.below.size)
  have hbr := run_beginRound (P := prog) hL1 rfl
  obtain ⟨W3, hW3⟩ : ∃ W3, W1.putObj l (.loop { apR fn sv Bs D .ready none with state := .busy }) = W3 := ⟨_, rfl⟩
  rw [hW3] at hbr
  have hl1 : l < W1.heap.size := (Array.getElem?_eq_some_iff.1 hL1).1
  have hg3 : W1.grownBy W3 (some l) := by rw [← hW3]; exact grownBy_putObj_a _ _ _
  have hk1 : KeepsWalks W W1 := KeepsWalks.of_grownBy (row := none) (jf wr1.bel) (fun j o h => by cases h)
  have hk3 : KeepsWalks W W3 := hk1.trans (by rw [← hW3]; exact KeepsWalks.putObj _ hL1 rfl)
  have hv3 : W3.heap[Bs]? = some (.cells #[v] 44 (0, 0)) := by rw [← hW3]; exact (World.putObj_heap_other hBl).trans hv1
  have hK3 : W3.heap[D]? = some (.deferred (some [])) := by rw [← hW3]; exact (World.putObj_heap_other hDl).trans hK1
  have hL3 : W3.heap[l]? = some (.loop { apR fn sv Bs D .ready none with state := .busy }) := by rw [← hW3]; exact World.putObj_heap_same hl1
  have hrow3 : W3.ownsRow w0.heap.size 42 32 v ss.length (idsF (rawI ss)) := hrow1.kept hg3 (ownsRow_ne_a hrow1 hL1 (fun cur e => by cases e))
  have hb3 : Below w0.heap.size w0 W3 := hb1.grown hg3 hb1.size (fun k e => by cases e; exact h0l)
  have hr3 : W3.rangeAt W.heap.size 0 (idC x.1) := gP wr1.row hg3 (fun e => by have := Option.some.inj e; omega)
  obtain ⟨hc3, hf3⟩ := cell_of_box_a hv3
  have h32x := mI hxl
  have HTH := ah (there_alloc W zi 42 hzil)
  have HON := ah (aM x.1)
  have HXL := ah hxl
  have HROW := ah hr3
  have HW1 := ah hW1
  have HSZ : Hid (∀ w, (sizeOf 42).run prog w = .ok (idC x.1).length w) := ah (fun w => by rw [hxl]; kernel_rfl)
  unfold encI
  clear hW3 hW1 hr3 wr1 hxl hg3 hk1 hv1 hK1 hL1 hrow1 hb1
  generalize hux : idC x.1 = ux at h32x HON HXL HROW HW1 HSZ ⊢
  unfold apA
  gi_wp2_with (first
    | (refine eY rfl 42 _ _ rfl W.heap.size 0 ux rfl rfl (by rw [HXL.out]; exact HTH.out) h32x HON.out ?_; rw [HW1.out])
    | gi_round_op_a)
  have hb3a : Below W3.heap.size W3 (W3.alloc (.cells ux.toArray 42)) := bal
  have HOWA := ah (own_below hrow3 hb3a)
  have HNEW : Hid (∀ j u, ux[j]? = some u → (W3.alloc (.cells ux.toArray 42)).cell? ((⟨W3.heap.size, 0, none⟩ : Addr).add j) = some u) := ah (fun j u hj => mQ _ ux _ j u hj)
  have ne_of : ∀ {j : Nat} {o : Obj}, W3.heap[j]? = some o → (∀ cur, o ≠ .cells cur 42 (0, 0)) → some j ≠ v.ownBlock := fun hj hno => by
    rcases ownsRow_ne_a hrow3 hj hno with e | e
    · rw [e]; simp
    · exact fun e' => e e'.symm
  have hbase : w0.heap.size ≤ W3.heap.size := hb3.size
  have n1 := ne_of hv3 (fun cur e => Hw (Obj.cells.inj e).2.1)
  have n2 := ne_of hL3 (fun cur e => by cases e)
  have n3 := ne_of hK3 (fun cur e => by cases e)
  have HNE := ah (And.intro n1 (And.intro n2 n3))
  have HV3 := ah hv3
  have HL3 := ah hL3
  have HK3 := ah hK3
  have HB3 := ah hb3
  have HKW := ah hk3
  have HROW3 := ah hrow3
  clear hv3 hL3 hK3 hb3 hk3 hrow3 hb3a n1 n2 n3 ne_of
  unfold apB
  gi_wp2_with (first
    | (refine fI rfl 42 _ rfl W.heap.size 0 rfl ux _ HROW.out underlying42 rfl h32x ?_)
    | (refine jo rfl (.tmp 9) 44 42 rfl ux zi rfl underlying44 HSZ.out hzi (by rw [HXL.out]; omega) (by rw [HXL.out]; omega) ?_)
    | (gi_at_builtin; refine wpListIn_append_own _ rfl (.tmp 8) (.tmp 10) 44 rfl w0.heap.size 42 i0 (.agg zi) 32 32 underlying44 hi hz0 hz1 hz2 hzil (by decide) v ss.length (idsF (rawI ss)) rfl HOWA.out ⟨W3.heap.size, 0, none⟩ 1 1 ux rfl HXL.out HNEW.out HON.out (by unfold maxLen; omega) (by omega) (by rw [World.size_alloc]; omega) ?_; intro v' w5 hown5 hg5 _
       have hv5 : w5.heap[Bs]? = some (.cells #[v] 44 (0, 0)) := (hg5.block Bs (by rw [World.size_alloc]; have := (Array.getElem?_eq_some_iff.1 HV3.out).1; omega) HNE.out.1).trans ((Below.heap_alloc _ _ Bs (Array.getElem?_eq_some_iff.1 HV3.out).1).trans HV3.out)
       obtain ⟨hc5, hf5⟩ := cell_of_box_a hv5
       obtain ⟨co, cc, rfl⟩ := aG hown5
       go_frame)
    | gi_round_op_a)
  have hv5 : w5.heap[Bs]? = some (.cells #[v] 44 (0, 0)) := (hg5.block Bs (by rw [World.size_alloc]; have := (Array.getElem?_eq_some_iff.1 HV3.out).1; omega) HNE.out.1).trans ((Below.heap_alloc _ _ Bs (Array.getElem?_eq_some_iff.1 HV3.out).1).trans HV3.out)
  have hl3 := (Array.getElem?_eq_some_iff.1 HL3.out).1
  have hd3 := (Array.getElem?_eq_some_iff.1 HK3.out).1
  have hL5 : w5.heap[l]? = some (.loop { apR fn sv Bs D .ready none with state := .busy }) := (hg5.block l (by rw [World.size_alloc]; omega) HNE.out.2.1).trans ((Below.heap_alloc _ _ l hl3).trans HL3.out)
  have hK5 : w5.heap[D]? = some (.deferred (some [])) := (hg5.block D (by rw [World.size_alloc]; omega) HNE.out.2.2).trans ((Below.heap_alloc _ _ D hd3).trans HK3.out)
  obtain ⟨w6, hw6⟩ : ∃ w6, w5.setCell ⟨Bs, 0, none⟩ (.slice co (ss.length + 1) cc) = w6 := ⟨_, rfl⟩
  rw [hw6]
  have hg6 : w5.grownBy w6 (some Bs) := by rw [← hw6]; exact grownBy_setCell0_a _ _ _
  have hv6 : w6.heap[Bs]? = some (.cells #[.slice co (ss.length + 1) cc] 44 (0, 0)) := by rw [← hw6]; exact heap_setCell_box_a _ hv5
  have hL6 : w6.heap[l]? = some (.loop { apR fn sv Bs D .ready none with state := .busy }) := (hg6.block l (Array.getElem?_eq_some_iff.1 hL5).1 (fun e => hBl (by cases e; rfl))).trans hL5
  have hK6 : w6.heap[D]? = some (.deferred (some [])) := (hg6.block D (Array.getElem?_eq_some_iff.1 hK5).1 (fun e => hDB (by cases e; rfl))).trans hK5
  have hrow6 := hown5.kept hg6 (ownsRow_ne_a hown5 hv5 (fun cur e => Hw (Obj.cells.inj e).2.1))
  have hl6 : l < w6.heap.size := (Array.getElem?_eq_some_iff.1 hL6).1
  have hb5 : Below w0.heap.size w0 w5 := (HB3.out.alloc HB3.out.size _).grown hg5 (by rw [World.size_alloc]; omega) (fun k e => (HROW3.out.lt k e).1)
  have hb6 : Below w0.heap.size w0 w6 := hb5.grown hg6 hb5.size (fun k e => by cases e; exact h0B)
  have hk6 : KeepsWalks W w6 := ((HKW.out.trans (KeepsWalks.alloc _ _)).trans (KeepsWalks.of_grownBy hg5 (ownsRow_not_walk_a HOWA.out))).trans (by rw [← hw6]; exact KeepsWalks.setCell _ _ _)
  clear hw6
  refine ⟨_, _, run_endRound none hL6, rfl, ⟨⟨_, (World.putObj_heap_other hBl).trans hv6, ?_⟩, World.putObj_heap_same hl6, (World.putObj_heap_other hDl).trans hK6, hb6.grown (grownBy_putObj_a _ _ _) hb6.size (fun k e => by cases e; exact h0l)⟩, hk6.trans (KeepsWalks.putObj _ hL6 rfl)⟩
  have := hrow6.kept (grownBy_putObj_a w6 l (.loop { { apR fn sv Bs D .ready none with state := .busy } with state := if (none : Option Code).isNone then .ready else .done, pending := none })) (ownsRow_ne_a hrow6 hL6 (fun cur e => by cases e))
  rw [o7, lG, hux, List.length_append, List.length_singleton]
  exact this
theorem Cb (n : Nat) (hn : 2 ≤ n) (g : Nat) (lb : Array Value) (eg : ∀ args w, (callFunc g args).run prog w = .ok (.enter g args) w)
    (S : List I32 → Prop) (N : Nat) (hN : N ≤ 1000000) (w : World) (hseq : SeqGives Fence.wide (n - 1) prog g lb encI S N w) :
    CallsIn Fence.wide n prog 208 #[.slice none 0 0, .func (.func g) #[] lb] w fun e w' => ∃ (v : Value) (ss : List I32), e = .returned v ∧ S ss ∧ w'.ownsRow w.heap.size 42 32 v ss.length (idsF (rawI ss)) ∧ Below w.heap.size w w' := by
  refine callsIn_of_wp_marks func208 rfl trivial ?_ rfl
  simp only [ntmps208, List.size_toArray, List.length_cons, List.length_nil, Nat.reduceAdd, Nat.reduceSub, Array.replicate_succ, Array.replicate_zero, List.push_toArray, List.append_toArray, List.nil_append, List.cons_append]
  gi_wp2
  refine wpIn_rangeFunc ?_
  intro fn hfn
  rw [show Fence.wide.round = none from rfl]
  obtain ⟨W0, hW0⟩ : ∃ W0, w.alloc (.cells #[.slice none 0 0] 44) = W0 := ⟨_, rfl⟩
  have hs0 : W0.heap.size = w.heap.size + 1 := by rw [← hW0]; simp
  have hv0 : W0.heap[w.heap.size]? = some (.cells #[.slice none 0 0] 44 (0, 0)) := by rw [← hW0]; exact World.alloc_heap_new w _
  have hb0 : Below w.heap.size w W0 := by rw [← hW0]; exact (Below.refl _ w).alloc (Nat.le_refl _) _
  rw [hW0]
  obtain ⟨W1, hW1⟩ : ∃ W1, (W0.alloc (.deferred (some []))).alloc (.loop (apR fn (.func (.func g) #[] lb) w.heap.size W0.heap.size .ready none)) = W1 := ⟨_, rfl⟩
  have hold : ∀ k, k < W0.heap.size → W1.heap[k]? = W0.heap[k]? := fun k hk => by
    rw [← hW1]; exact (Below.heap_alloc _ _ k (by simp; omega)).trans (Below.heap_alloc _ _ k hk)
  have hb1 : Below w.heap.size w W1 := by rw [← hW1]; exact (hb0.alloc hb0.size _).alloc (by have := hb0.size; simp; omega) _
  have hs1 : W1.heap.size = W0.heap.size + 2 := by rw [← hW1]; simp
  have hM : ApI w fn (.func (.func g) #[] lb) w.heap.size (W0.heap.size + 1) W0.heap.size [] W1 :=
    ⟨⟨_, (hold w.heap.size (by omega)).trans hv0, ⟨rfl, .inl ⟨rfl, rfl⟩⟩⟩,
     by rw [← hW1]; have := World.alloc_heap_new (W0.alloc (.deferred (some []))) (.loop (apR fn (.func (.func g) #[] lb) w.heap.size W0.heap.size .ready none)); rwa [World.size_alloc] at this,
     by rw [← hW1]; exact (Below.heap_alloc _ _ _ (by simp)).trans (World.alloc_heap_new W0 _), hb1⟩
  refine ⟨W0.heap.size + 1, [{ target := .collected W0.heap.size, args := #[] }], W1, { target := .fn (.func g) lb, args := #[.func (.yield (W0.heap.size + 1)) #[] #[]] }, W1, g,
    #[.func (.yield (W0.heap.size + 1)) #[] #[]] ++ lb, W1, ?_, ?_, ?_, ?_, fun _ => by omega, ?_⟩
  · rw [← hW1]; exact run_enterLoop_outer _ _ _ _ _
  · simp [resolve, go_sem]
  · intro f' _; trivial
  · simp [invoke, go_sem, eg]
  · refine (hseq (W0.heap.size + 1) (ApI w fn (.func (.func g) #[] lb) w.heap.size (W0.heap.size + 1) W0.heap.size) W1 hb1 (Cc _ _ _ _ _ _ _ hb1.size)
      (fun pre x W hJ hl => Jb (n - 1 - 1) w fn _ w.heap.size (W0.heap.size + 1) W0.heap.size (by omega) (by omega) (by omega) (Nat.le_refl _) (by omega) N hN pre x W hJ hl) hM).mono ?_
    rintro e W2 ⟨⟨v0, rfl⟩, ss, hS, h2⟩
    obtain ⟨v, hv, hrow⟩ := h2.box
    have hend := run_endLoop (P := prog) h2.L (by simp [apR])
    obtain ⟨W3, hW3⟩ : ∃ W3, W2.putObj (W0.heap.size + 1) (.loop { apR fn (.func (.func g) #[] lb) w.heap.size W0.heap.size .ready none with state := .exhausted }) = W3 := ⟨_, rfl⟩
    rw [hW3] at hend
    have hg3 : W2.grownBy W3 (some (W0.heap.size + 1)) := by rw [← hW3]; exact grownBy_putObj_a _ _ _
    have hv3 : W3.heap[w.heap.size]? = some (.cells #[v] 44 (0, 0)) := by rw [← hW3]; exact (World.putObj_heap_other (by omega)).trans hv
    have hK3 : W3.heap[W0.heap.size]? = some (.deferred (some [])) := by rw [← hW3]; exact (World.putObj_heap_other (by omega)).trans h2.K
    have hrow3 := hrow.kept hg3 (ownsRow_ne_a hrow h2.L (fun cur e => by cases e))
    have hb3 : Below w.heap.size w W3 := h2.below.grown hg3 h2.below.size (fun k e => by cases e; omega)
    obtain ⟨hc3, hf3⟩ := cell_of_box_a hv3
    clear hW3
    refine ⟨none, W3, hend, ?_⟩
    gi_wp2
    rw [← hs0]
    refine ⟨by simp, .inl ⟨_, _, rfl, run_takeDeferred hK3, ?_⟩⟩
    exact ⟨_, results_tmp rfl _ _ _, v, ss, rfl, hS, hrow3.kept (grownBy_putObj_a _ _ _) (ownsRow_ne_a hrow3 hK3 (fun cur e => by cases e)), hb3.grown (grownBy_putObj_a _ _ _) hb3.size (fun k e => by cases e; omega)⟩
theorem Ab (n:Nat) (hn:3 ≤ n) (g:Nat) (lb:Array Value) (eg:∀ args w,(callFunc g args).run prog w = .ok (.enter g args) w)
  (S:List I32 → Prop) (N:Nat) (hN:N ≤ 1000000) (w:World) (hseq:SeqGives Fence.wide (n - 1 - 1) prog g lb encI S N w) :
  CallsIn Fence.wide n prog 151 #[.func (.func g) #[] lb] w fun e w' => ∃ (v:Value) (ss:List I32),e = .returned v ∧ S ss ∧ w'.ownsRow w.heap.size 42 32 v ss.length (idsF (rawI ss)) ∧ Below w.heap.size w w':=by
 have h:=Cb (n - 1) (by omega) g lb eg S N hN w hseq
 refine callsIn_of_wp func151 rfl trivial ?_ rfl
 simp only [ntmps151,List.size_toArray,List.length_cons,List.length_nil,Nat.reduceAdd,Nat.reduceSub,Array.replicate_succ,Array.replicate_zero,List.push_toArray,List.append_toArray,List.nil_append,List.cons_append]
 gi_wp2_with fail
 refine ⟨trivial,fun _ => by omega,?_⟩
 refine h.mono ?_
 rintro e w' ⟨v,ss,rfl,hS,hrow,hb⟩
 gi_wp2
 go_ret
 exact ⟨v,ss,rfl,hS,hrow,hb⟩
theorem Bz {α:Type} {enc:α → Value} (n:Nat) (hn:1 ≤ n) (l Bm b nn:Nat) (f:Idl → Option α) (L:List Idl) (J:List I32 → World → Prop)
  (hY:∀ pre x W,J pre W → pre.length < L.length → YieldAt Fence.wide (n - 1) prog l #[encI x] W fun e W' => e = .returned (.bool true) ∧ J (pre ++ [x]) W' ∧ KeepsWalks W W')
  (W:World) (hJ:AbidesFrom W.heap.size J) (hm:W.cell? ⟨Bm,0,none⟩ = some (.map (some b))) (hown:MapG enc W b nn f) (hnd:L.Nodup) (hl:∀ x ∈ L,x.length = 32) (hL:∀ x,x.length = 32 → ((f x).isSome = true ↔ x ∈ L)) (h0:J [] W) :
  CallsIn Fence.wide n prog 152 #[.func (.yield l) #[] #[],.pointer (some ⟨Bm,0,none⟩)] W fun e W' => (∃ v,e = .returned v) ∧ ∃ ss:List I32,(rawI ss).Perm L ∧ J ss W':=by
 obtain ⟨zi,i0,hi,hz0,hz1,hz2,hzi,hzil⟩:=dH
 refine callsIn_of_wp func152 rfl trivial ?_ rfl
 simp only [ntmps152,List.size_toArray,List.length_cons,List.length_nil,Nat.reduceAdd,Nat.reduceSub,Array.replicate_succ,Array.replicate_zero,List.push_toArray,List.append_toArray,List.nil_append,List.cons_append]
 gi_wp2_with (first
  | (gi_at_range;refine jm rfl _ 70 4 rfl underlying70 b nn f L rfl hown hnd hl hL ?_;intro w0 hrg0 hg0 hs0)
  | gi_in)
 go_frame
 gi_loopw [3] (fun _ wr => ∃ (ss:List I32) (Lr:List Idl),bJ enc wr b W.heap.size nn f Lr ∧ (rawI ss ++ Lr).Perm L ∧ J ss wr) (fun _ wr => wr.rangeLeft b W.heap.size)
 case atStart => exact ⟨[],L,hrg0,List.Perm.refl _,hJ [] W w0 none h0 hg0 (fun r e => by cases e)⟩
 obtain ⟨ss,Lr,hrg,hp,hJs⟩:=hrel
 have HP:=ah hp
 clear hp
 gi_wp2_with (first
  | (gi_at_next;refine jX rfl _ rfl b W.heap.size nn f Lr rfl hrg ?_ ?_)
  | gi_in)
 ·intro hL0
  gi_wp2
  go_end0
  exact ⟨⟨_,rfl⟩,ss,by have:=HP.out;rw [hL0,List.append_nil] at this;exact this,hJs⟩
 intro x c w2 hxL hx hfx hrg2 hlt hg2 hs2 hen
 have hlen:ss.length < L.length:=by
  have h1:=HP.out.length_eq
  rw [List.length_append,sj] at h1
  have:=List.length_pos_of_mem hxL
  omega
 have hxl:(idC x).length = 32:=by rw [au,hx]
 obtain ⟨W3,hW3⟩:∃ W3,(w2.alloc (.cells zi 42)).setCells w2.heap.size 0 (idC x) = W3:=⟨_,rfl⟩
 have wr3:=wrote (by rw [hxl,hzil]) (by rw [hzil];omega) hW3
 have hJ2:J ss w2:=hJ ss wr w2 (some W.heap.size) hJs hg2 (fun r e => by cases e;exact ⟨Nat.le_refl _,hrg.isWalk⟩)
 have hJ3:J ss W3:=hJ ss w2 W3 none hJ2 (jf wr3.bel) (fun r e => by cases e)
 have HRG3:=ah (hrg2.on wr3.bel)
 have HLT:Hid (W3.rangeLeft b W.heap.size < wr.rangeLeft b W.heap.size):=ah (by rw [kH (wr3.bel.block b hrg2.map.lt) (wr3.bel.block W.heap.size hrg2.lt)];exact hlt)
 have HPE:Hid ((rawI (ss ++ [⟨x,hx⟩]) ++ Lr.erase x).Perm L):=ah (by
  rw [o7,List.append_assoc]
  exact (((List.perm_cons_erase hxL).symm).append_left (rawI ss)).trans HP.out)
 obtain ⟨fn,tmps,assign,body,hy,hR⟩:=hY ss ⟨x,hx⟩ W3 hJ3 hlen
 change Sem.run prog (Instr.yield l #[.agg (idC x).toArray]) W3 = _ at hy
 have h32x:=mI hxl
 have h32:(prog.info? 42).map (·.size) = some 32:=by kernel_rfl
 have HTH:=ah (there_alloc w2 zi 42 hzil)
 have HON:=ah (aM x)
 have HXL:=ah hxl
 have HROW:=ah wr3.row
 have HW3:=ah hW3
 have HR:=ah hR
 clear hxl wr3 hJ2 hJ3 hrg hrg2 hlt hg2 hs2 hJs hlen hW3 hR
 generalize idC x = ux at hen h32x HTH HON HXL HROW HW3 hy
 gi_wp2_with (first
  | (refine eY rfl 42 _ _ rfl w2.heap.size 0 ux rfl rfl (by rw [HXL.out];exact HTH.out) h32x HON.out ?_)
  | (rw [HW3.out];refine fI rfl 42 _ rfl w2.heap.size 0 rfl ux _ HROW.out underlying42 rfl h32x ?_)
  | gi_in)
 refine HR.out.mono ?_
 rintro e w4 ⟨rfl,hJ4,hk4⟩
 have HRG4:=ah (HRG3.out.walks hk4)
 have HLT4:Hid (w4.rangeLeft b W.heap.size < wr.rangeLeft b W.heap.size):=ah (by rw [HRG3.out.ru hk4];exact HLT.out)
 clear hk4
 gi_wp2
 go_roundw
 case rel => exact ⟨ss ++ [⟨x,hx⟩],Lr.erase x,HRG4.out,HPE.out,hJ4⟩
 case measure => exact HLT4.out
theorem xM {α:Type} {enc:α → Value} (n:Nat) (hn:1 ≤ n) (Bm b nn:Nat) (f:Idl → Option α) (L:List Idl) (w:World) (hBm:Bm < w.heap.size) (hm:w.cell? ⟨Bm,0,none⟩ = some (.map (some b))) (hown:MapG enc w b nn f) (hnd:L.Nodup) (hl:∀ x ∈ L,x.length = 32) (hL:∀ x,x.length = 32 → ((f x).isSome = true ↔ x ∈ L)) :
  SeqGives Fence.wide n prog 152 #[.pointer (some ⟨Bm,0,none⟩)] encI (fun ss => (rawI ss).Perm L) L.length w:=fun l J W hW hJ hY h0 =>
 Bz n hn l Bm b nn f L J hY W hJ ((hW.cell (p:=⟨Bm,0,none⟩) hBm).trans hm) (hown.on hW) hnd hl hL h0
theorem Bv (mb:Option Nat) (w:World):Calls prog 85 #[.map mb] w fun e w' => e = .returned (.func (.func 152) #[] #[.pointer (some ⟨w.heap.size,0,none⟩)]) ∧ w' = w.alloc (.cells #[.map mb] 70):=by
 go_enter func85,ntmps85
 go_wp2
 go_ret
 exact ⟨rfl,rfl⟩
theorem BA {α:Type} {enc:α → Value} (n:Nat) (hn:1 ≤ n) (l Bm b nn:Nat) (f:Idl → Option α) (L:List Idl) (J:List I32 → World → Prop)
  (hY:∀ pre x W,J pre W → pre.length < L.length → YieldAt Fence.wide (n - 1) prog l #[encI x] W fun e W' => e = .returned (.bool true) ∧ J (pre ++ [x]) W' ∧ KeepsWalks W W')
  (W:World) (hJ:AbidesFrom W.heap.size J) (hm:W.cell? ⟨Bm,0,none⟩ = some (.map (some b))) (hown:MapG enc W b nn f) (hnd:L.Nodup) (hl:∀ x ∈ L,x.length = 32) (hL:∀ x,x.length = 32 → ((f x).isSome = true ↔ x ∈ L)) (h0:J [] W) :
  CallsIn Fence.wide n prog 250 #[.func (.yield l) #[] #[],.pointer (some ⟨Bm,0,none⟩)] W fun e W' => (∃ v,e = .returned v) ∧ ∃ ss:List I32,(rawI ss).Perm L ∧ J ss W':=by
 obtain ⟨zi,i0,hi,hz0,hz1,hz2,hzi,hzil⟩:=dH
 refine callsIn_of_wp func250 rfl trivial ?_ rfl
 simp only [ntmps250,List.size_toArray,List.length_cons,List.length_nil,Nat.reduceAdd,Nat.reduceSub,Array.replicate_succ,Array.replicate_zero,List.push_toArray,List.append_toArray,List.nil_append,List.cons_append]
 gi_wp2_with (first
  | (gi_at_range;refine jm rfl _ 69 4 rfl underlying69 b nn f L rfl hown hnd hl hL ?_;intro w0 hrg0 hg0 hs0)
  | gi_in)
 go_frame
 gi_loopw [3] (fun _ wr => ∃ (ss:List I32) (Lr:List Idl),bJ enc wr b W.heap.size nn f Lr ∧ (rawI ss ++ Lr).Perm L ∧ J ss wr) (fun _ wr => wr.rangeLeft b W.heap.size)
 case atStart => exact ⟨[],L,hrg0,List.Perm.refl _,hJ [] W w0 none h0 hg0 (fun r e => by cases e)⟩
 obtain ⟨ss,Lr,hrg,hp,hJs⟩:=hrel
 have HP:=ah hp
 clear hp
 gi_wp2_with (first
  | (gi_at_next;refine jX rfl _ rfl b W.heap.size nn f Lr rfl hrg ?_ ?_)
  | gi_in)
 ·intro hL0
  gi_wp2
  go_end0
  exact ⟨⟨_,rfl⟩,ss,by have:=HP.out;rw [hL0,List.append_nil] at this;exact this,hJs⟩
 intro x c w2 hxL hx hfx hrg2 hlt hg2 hs2 hen
 have hlen:ss.length < L.length:=by
  have h1:=HP.out.length_eq
  rw [List.length_append,sj] at h1
  have:=List.length_pos_of_mem hxL
  omega
 have hxl:(idC x).length = 32:=by rw [au,hx]
 obtain ⟨W3,hW3⟩:∃ W3,(w2.alloc (.cells zi 42)).setCells w2.heap.size 0 (idC x) = W3:=⟨_,rfl⟩
 have wr3:=wrote (by rw [hxl,hzil]) (by rw [hzil];omega) hW3
 have hJ2:J ss w2:=hJ ss wr w2 (some W.heap.size) hJs hg2 (fun r e => by cases e;exact ⟨Nat.le_refl _,hrg.isWalk⟩)
 have hJ3:J ss W3:=hJ ss w2 W3 none hJ2 (jf wr3.bel) (fun r e => by cases e)
 have HRG3:=ah (hrg2.on wr3.bel)
 have HLT:Hid (W3.rangeLeft b W.heap.size < wr.rangeLeft b W.heap.size):=ah (by rw [kH (wr3.bel.block b hrg2.map.lt) (wr3.bel.block W.heap.size hrg2.lt)];exact hlt)
 have HPE:Hid ((rawI (ss ++ [⟨x,hx⟩]) ++ Lr.erase x).Perm L):=ah (by
  rw [o7,List.append_assoc]
  exact (((List.perm_cons_erase hxL).symm).append_left (rawI ss)).trans HP.out)
 obtain ⟨fn,tmps,assign,body,hy,hR⟩:=hY ss ⟨x,hx⟩ W3 hJ3 hlen
 change Sem.run prog (Instr.yield l #[.agg (idC x).toArray]) W3 = _ at hy
 have h32x:=mI hxl
 have h32:(prog.info? 42).map (·.size) = some 32:=by kernel_rfl
 have HTH:=ah (there_alloc w2 zi 42 hzil)
 have HON:=ah (aM x)
 have HXL:=ah hxl
 have HROW:=ah wr3.row
 have HW3:=ah hW3
 have HR:=ah hR
 clear hxl wr3 hJ2 hJ3 hrg hrg2 hlt hg2 hs2 hJs hlen hW3 hR
 generalize idC x = ux at hen h32x HTH HON HXL HROW HW3 hy
 gi_wp2_with (first
  | (refine eY rfl 42 _ _ rfl w2.heap.size 0 ux rfl rfl (by rw [HXL.out];exact HTH.out) h32x HON.out ?_)
  | (rw [HW3.out];refine fI rfl 42 _ rfl w2.heap.size 0 rfl ux _ HROW.out underlying42 rfl h32x ?_)
  | gi_in)
 refine HR.out.mono ?_
 rintro e w4 ⟨rfl,hJ4,hk4⟩
 have HRG4:=ah (HRG3.out.walks hk4)
 have HLT4:Hid (w4.rangeLeft b W.heap.size < wr.rangeLeft b W.heap.size):=ah (by rw [HRG3.out.ru hk4];exact HLT.out)
 clear hk4
 gi_wp2
 go_roundw
 case rel => exact ⟨ss ++ [⟨x,hx⟩],Lr.erase x,HRG4.out,HPE.out,hJ4⟩
 case measure => exact HLT4.out
theorem xO {α:Type} {enc:α → Value} (n:Nat) (hn:1 ≤ n) (Bm b nn:Nat) (f:Idl → Option α) (L:List Idl) (w:World) (hBm:Bm < w.heap.size) (hm:w.cell? ⟨Bm,0,none⟩ = some (.map (some b))) (hown:MapG enc w b nn f) (hnd:L.Nodup) (hl:∀ x ∈ L,x.length = 32) (hL:∀ x,x.length = 32 → ((f x).isSome = true ↔ x ∈ L)) :
  SeqGives Fence.wide n prog 250 #[.pointer (some ⟨Bm,0,none⟩)] encI (fun ss => (rawI ss).Perm L) L.length w:=fun l J W hW hJ hY h0 =>
 BA n hn l Bm b nn f L J hY W hJ ((hW.cell (p:=⟨Bm,0,none⟩) hBm).trans hm) (hown.on hW) hnd hl hL h0
theorem Bw (mb:Option Nat) (w:World):Calls prog 225 #[.map mb] w fun e w' => e = .returned (.func (.func 250) #[] #[.pointer (some ⟨w.heap.size,0,none⟩)]) ∧ w' = w.alloc (.cells #[.map mb] 69):=by
 go_enter func225,ntmps225
 go_wp2
 go_ret
 exact ⟨rfl,rfl⟩
end
end Go.Proofs.YtlhcoanbhnphgaaGreatDoor
