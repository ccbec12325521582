/- A part of this claim. -/
import Derived.Test.YtijhemdnajlfnaaGreatDoorR17
import Derived.Test.YtijhemdnajlfnaaGreatDoorR31
import Derived.Test.YtijhemdnajlfnaaGreatDoorR38
namespace Go.Proofs.YtijhemdnajlfnaaGreatDoor
open Tryz
set_option maxHeartbeats 64000000
set_option maxRecDepth 100000
set_option linter.all false
section
open Go.RowKit
structure Glob (w:World):Prop where
 laid:Laid w
 max:mY w
 crc:Crc w
 ord:w.rangeAt 0 0 [.string bV,.string bn,.string sRef]
theorem Glob.Na {w w':World} {B:Nat} (h:Glob w) (hb:Below B w w') (hB:5 ≤ B):Glob w':=by
 have h5:=h.laid.lt
 have hs:=hb.size
 exact ⟨⟨au h.laid.rounds hb (by omega),au h.laid.first hb (by omega),by omega⟩,h.max.below hb (by omega),⟨au h.crc.row hb (by omega),by have:=h.crc.lt;omega⟩,au h.ord hb (by omega)⟩
theorem Glob.below {w w':World} (h:Glob w) (hb:Below w.heap.size w w'):Glob w':=h.Na hb h.laid.lt
def plI (l:List (List UInt8)) (x:List UInt8):Int:=if x ∈ l then (l.idxOf x:Int) else -1
theorem yM {l:List (List UInt8)} {x:List UInt8} {k:Nat} (hk:k < l.length) (h:l[k] = x) (hn:x ∉ l.take k):plI l x = (k:Int):=by
 have hm:x ∈ l:=by rw [← h];exact List.getElem_mem hk
 unfold plI
 rw [if_pos hm]
 congr 1
 have e:l = l.take k ++ x :: l.drop (k + 1):=by
  conv => lhs;rw [← List.take_append_drop k l]
  rw [List.drop_eq_getElem_cons hk,h]
 have hl:(l.take k).length = k:=by rw [List.length_take];omega
 rw [e,List.idxOf_append,if_neg hn,List.idxOf_cons_self,hl,Nat.zero_add]
theorem uV {l:List (List UInt8)} {x:List UInt8} (h:x ∉ l):plI l x = -1:=if_neg h
theorem EP (l:List (List UInt8)) (x:List UInt8):decide (0 ≤ plI l x) = decide (x ∈ l):=by
 unfold plI
 split
 ·rename_i h;rw [decide_eq_true h];exact decide_eq_true (by omega)
 rename_i h;rw [decide_eq_false h];exact decide_eq_false (by omega)
theorem uw (v:Value) (l:List (List UInt8)) (x:List UInt8) (w:World) (hv:bD w v l) (hl:∀ y ∈ l,y.length = 32) (hx:x.length = 32) :
  Calls prog 201 #[v,.agg (idC x).toArray] w fun e w' => e = .returned (.int .i64 (plI l x)) ∧ Below w.heap.size w w':=by
 obtain ⟨ao,cap,rfl,hmax,hv⟩:=hv.open
 unfold maxLen at hmax
 have hb0:Below w.heap.size w (w.alloc (.cells (idC x).toArray 24)):=bal
 have HB0:=ah hb0
 have hxl:(idC x).length = 32:=by rw [aD,hx]
 have hr0:(w.alloc (.cells (idC x).toArray 24)).rangeAt w.heap.size 0 (idC x):=fun j u hu => by rw [World.cell?_alloc_new,Nat.zero_add];simpa using hu
 have h32x:=dG hxl
 have HV:=ah hv
 have HL:=ah hl
 have hlt0:w.heap.size < (w.alloc (.cells (idC x).toArray 24)).heap.size:=by simp
 have HEQ:=ah (fun (y:List UInt8) (hy:y.length = 32) => jU x y hx hy)
 clear hv hl hb0 hxl
 generalize hux:idC x = ux at hr0 h32x HB0 hlt0 HEQ
 have HUX:=ah hux
 clear hux
 go_enter func201,ntmps201
 go_upto_region 1 with fail
 obtain ⟨W,hW⟩:∃ W,W = w.alloc (.cells ux.toArray 24):=⟨_,rfl⟩
 rw [← hW] at hr0 HB0 hlt0 ⊢
 clear hW
 go_wp2_with fail
 go_loopw [5,8] (fun _ i wr => ∃ k:Nat,k ≤ l.length ∧ i = .int .i64 (k:Int) ∧ Hid (x ∉ l.take k) ∧ Below W.heap.size W wr) (fun _ i _ => (l.length - intOf i).toNat)
 case atStart => exact ⟨0,by omega,rfl,(by unfold Hid;simp),Below.refl _ _⟩
 obtain ⟨wo,rfl⟩:∃ wo:World,wo = wr:=⟨_,rfl⟩
 obtain ⟨k,hk,rfl,hni,hb⟩:=hrel
 by_cases hlt:k < l.length
 ·obtain ⟨b,off,rfl,hbl,hcell⟩:=HV.out (by intro e;rw [e] at hlt;simp at hlt)
  have c1:=au (hcell k hlt) (HB0.out.trans (hb.mono HB0.out.size)) hbl
  have c2:=au hr0 hb hlt0
  have hz:=HL.out l[k] (List.getElem_mem hlt)
  have h32:=dG (us:=idC l[k]) (by rw [aD,hz])
  have hbo:b < wo.heap.size:=by have:=HB0.out.size;have:=hb.size;omega
  have hlo:w.heap.size < wo.heap.size:=by have:=hb.size;omega
  have heq:=HEQ.out l[k] hz
  have k0:(0:Int) ≤ k:=by omega
  have k1:(k:Int) < l.length:=by omega
  have wk:IntKind.i64.wrap ((k:Int) + 1) = (k:Int) + 1:=IntWalk.i64_in _ (by omega)
  clear hcell hz
  by_cases he:l[k] = x
  ·have HR:Hid (plI l x = (k:Int)):=ah (yM hlt he hni.out)
   rw [show (x == l[k]) = true from beq_iff_eq.2 he.symm] at heq
   clear he hni
   generalize idC l[k] = uk at c1 h32 heq
   go_wp2
   refine wbq ?_
   repeat (go_big_quiet_step (fail))
   refine bg 24 _ _ rfl rfl rfl c2 (by omega) underlying24 rfl h32x ?_
   simp only [Act.put,nz]
   repeat (go_big_quiet_step (fail))
   refine bg 24 _ _ rfl rfl rfl c1 (by omega) underlying24 rfl h32 ?_
   simp only [Act.put,nz]
   repeat (go_big_quiet_step (fail))
   refine wpQuiet_nil ?_
   intro wq hbq
   go_wp2
   go_ret
   exact ⟨by rw [HR.out];rfl,HB0.out.trans ((hb.trans (hbq.mono hb.size)).mono HB0.out.size)⟩
  have HN:Hid (x ∉ l.take (k + 1)):=by
   unfold Hid
   rw [List.take_succ_eq_append_getElem hlt]
   intro h
   rcases List.mem_append.1 h with h | h
   ·exact hni.out h
   exact he (List.mem_singleton.1 h).symm
  rw [show (x == l[k]) = false from beq_eq_false_iff_ne.2 (Ne.symm he)] at heq
  clear he hni
  generalize idC l[k] = uk at c1 h32 heq
  go_wp2
  refine wbq ?_
  repeat (go_big_quiet_step (fail))
  refine bg 24 _ _ rfl rfl rfl c2 (by omega) underlying24 rfl h32x ?_
  simp only [Act.put,nz]
  repeat (go_big_quiet_step (fail))
  refine bg 24 _ _ rfl rfl rfl c1 (by omega) underlying24 rfl h32 ?_
  simp only [Act.put,nz]
  repeat (go_big_quiet_step (fail))
  refine wpQuiet_nil ?_
  intro wq hbq
  have HB:=ah (hb.trans (hbq.mono hb.size))
  clear hb hbq c1 c2
  go_wp2
  go_roundw
  case rel => exact ⟨k + 1,by omega,by go_num,HN,HB.out⟩
  case measure => simp [intOf];omega
 obtain rfl:k = l.length:=by omega
 have HR:Hid (plI l x = -1):=ah (uV (by have:=hni.out;rwa [List.take_length] at this))
 clear hni
 go_wp2
 go_ret
 exact ⟨by rw [HR.out];rfl,HB0.out.trans (hb.mono HB0.out.size)⟩
theorem Cg (v:Value) (l:List (List UInt8)) (x:List UInt8) (w:World) (hv:bD w v l) (hl:∀ y ∈ l,y.length = 32) (hx:x.length = 32) :
  Calls prog 148 #[v,.agg (idC x).toArray] w fun e w' => e = .returned (.int .i64 (plI l x)) ∧ Below w.heap.size w w':=by
 obtain ⟨ao,cap,rfl,hmax,hv⟩:=hv.open
 unfold maxLen at hmax
 have hb0:Below w.heap.size w (w.alloc (.cells (idC x).toArray 24)):=bal
 have HB0:=ah hb0
 have hxl:(idC x).length = 32:=by rw [aD,hx]
 have hr0:(w.alloc (.cells (idC x).toArray 24)).rangeAt w.heap.size 0 (idC x):=fun j u hu => by rw [World.cell?_alloc_new,Nat.zero_add];simpa using hu
 have h32x:=dG hxl
 have HV:=ah hv
 have HL:=ah hl
 have hlt0:w.heap.size < (w.alloc (.cells (idC x).toArray 24)).heap.size:=by simp
 have HEQ:=ah (fun (y:List UInt8) (hy:y.length = 32) => jU y x hy hx)
 clear hv hl hb0 hxl
 generalize hux:idC x = ux at hr0 h32x HB0 hlt0 HEQ
 have HUX:=ah hux
 clear hux
 go_enter func148,ntmps148
 go_upto_region 1 with fail
 obtain ⟨W,hW⟩:∃ W,W = w.alloc (.cells ux.toArray 24):=⟨_,rfl⟩
 rw [← hW] at hr0 HB0 hlt0 ⊢
 clear hW
 go_wp2_with fail
 go_loopw [5] (fun i wr => ∃ k:Nat,k ≤ l.length ∧ i = .int .i64 (k:Int) ∧ Hid (x ∉ l.take k) ∧ Below W.heap.size W wr) (fun i _ => (l.length - intOf i).toNat)
 case atStart => exact ⟨0,by omega,rfl,(by unfold Hid;simp),Below.refl _ _⟩
 obtain ⟨wo,rfl⟩:∃ wo:World,wo = wr:=⟨_,rfl⟩
 obtain ⟨k,hk,rfl,hni,hb⟩:=hrel
 by_cases hlt:k < l.length
 ·obtain ⟨b,off,rfl,hbl,hcell⟩:=HV.out (by intro e;rw [e] at hlt;simp at hlt)
  have c1:=au (hcell k hlt) (HB0.out.trans (hb.mono HB0.out.size)) hbl
  have c2:=au hr0 hb hlt0
  have hz:=HL.out l[k] (List.getElem_mem hlt)
  have h32:=dG (us:=idC l[k]) (by rw [aD,hz])
  have hbo:b < wo.heap.size:=by have:=HB0.out.size;have:=hb.size;omega
  have hlo:w.heap.size < wo.heap.size:=by have:=hb.size;omega
  have heq:=HEQ.out l[k] hz
  have k0:(0:Int) ≤ k:=by omega
  have k1:(k:Int) < l.length:=by omega
  have wk:IntKind.i64.wrap ((k:Int) + 1) = (k:Int) + 1:=IntWalk.i64_in _ (by omega)
  clear hcell hz
  by_cases he:l[k] = x
  ·have HR:Hid (plI l x = (k:Int)):=ah (yM hlt he hni.out)
   rw [show (l[k] == x) = true from beq_iff_eq.2 he] at heq
   clear he hni
   generalize idC l[k] = uk at c1 h32 heq
   go_wp2
   refine wbq ?_
   repeat (go_big_quiet_step (fail))
   refine bg 24 _ _ rfl rfl rfl c1 (by omega) underlying24 rfl h32 ?_
   simp only [Act.put,nz]
   repeat (go_big_quiet_step (fail))
   refine bg 24 _ _ rfl rfl rfl c2 (by omega) underlying24 rfl h32x ?_
   simp only [Act.put,nz]
   repeat (go_big_quiet_step (fail))
   refine wpQuiet_nil ?_
   intro wq hbq
   go_wp2
   go_ret
   exact ⟨by rw [HR.out];rfl,HB0.out.trans ((hb.trans (hbq.mono hb.size)).mono HB0.out.size)⟩
  have HN:Hid (x ∉ l.take (k + 1)):=by
   unfold Hid
   rw [List.take_succ_eq_append_getElem hlt]
   intro h
   rcases List.mem_append.1 h with h | h
   ·exact hni.out h
   exact he (List.mem_singleton.1 h).symm
  rw [show (l[k] == x) = false from beq_eq_false_iff_ne.2 he] at heq
  clear he hni
  generalize idC l[k] = uk at c1 h32 heq
  go_wp2
  refine wbq ?_
  repeat (go_big_quiet_step (fail))
  refine bg 24 _ _ rfl rfl rfl c1 (by omega) underlying24 rfl h32 ?_
  simp only [Act.put,nz]
  repeat (go_big_quiet_step (fail))
  refine bg 24 _ _ rfl rfl rfl c2 (by omega) underlying24 rfl h32x ?_
  simp only [Act.put,nz]
  repeat (go_big_quiet_step (fail))
  refine wpQuiet_nil ?_
  intro wq hbq
  have HB:=ah (hb.trans (hbq.mono hb.size))
  clear hb hbq c1 c2
  go_wp2
  go_roundw
  case rel => exact ⟨k + 1,by omega,by go_num,HN,HB.out⟩
  case measure => simp [intOf];omega
 obtain rfl:k = l.length:=by omega
 have HR:Hid (plI l x = -1):=ah (uV (by have:=hni.out;rwa [List.take_length] at this))
 clear hni
 go_wp2
 go_ret
 exact ⟨by rw [HR.out];rfl,HB0.out.trans (hb.mono HB0.out.size)⟩
theorem xL (v:Value) (l:List (List UInt8)) (x:List UInt8) (w:World) (hv:bD w v l) (hl:∀ y ∈ l,y.length = 32) (hx:x.length = 32) :
  Calls prog 145 #[v,.agg (idC x).toArray] w fun e w' => e = .returned (.bool (decide (x ∈ l))) ∧ Below w.heap.size w w':=by
 obtain ⟨W,hW⟩:∃ W,w.alloc (.cells (idC x).toArray 24) = W:=⟨_,rfl⟩
 have hbW:Below w.heap.size w W:=by rw [← hW];exact bal
 have hbx:BoxL W w.heap.size 24 (idC x):=by rw [← hW];exact BoxL.new w 24 (idC x)
 have h32x:(prog.info? 24).map (·.size) = some (idC x).length:=by rw [aD,hx];kernel_rfl
 have HH:=ah (uw v l x W (hv.below hbW) hl hx)
 have HP:=ah (EP l x)
 have HW:=ah hW
 have HBW:=ah hbW
 have HR:=ah hbx.range
 have H32:=ah h32x
 clear hW hbW hbx h32x hv hl
 generalize hcs:idC x = cs at HW HR H32 HH
 generalize plI l x = p at HH HP
 clear hcs
 go_enter func145,ntmps145
 go_upto_region 1 with fail
 rw [HW.out]
 have hr:=HR.out
 have h32x:=H32.out
 go_wp2_with (refine wpList_load_mid rfl 24 _ rfl w.heap.size 0 rfl cs _ hr underlying24 rfl h32x ?_)
 refine HH.out.mono ?_
 rintro e w2 ⟨rfl,hb2⟩
 have HB2:=bth HBW hb2
 clear hb2
 go_wp2_with fail
 go_ret
 exact ⟨by rw [← HP.out];rfl,HB2.out⟩
def paC (vp vs vi vo:Value) (k:Nat):Value:=if k = 0 then vp else if k = 1 then vs else if k = 2 then vi else vo
def KB (ks:List Nat) (B:Nat) (wz W:World):Prop:=Below B wz W ∧ ∀ k ∈ ks,W.heap[k]? = wz.heap[k]?
structure A3 (ks:List Nat) (B:Nat) (E1 E2:TypeId) (s1 s2:Nat) (wz:World) (v1:Value) (n1:Nat) (x1:List Value) (v2:Value) (n2:Nat) (x2:List Value) (q1 q2:Option (Nat × List Value)) (W:World):Prop where
 a:A2 B E1 E2 s1 s2 wz v1 n1 x1 v2 n2 x2 q1 q2 W
 keep:∀ k ∈ ks,W.heap[k]? = wz.heap[k]?
section
variable {ks:List Nat} {B:Nat} {E1 E2:TypeId} {s1 s2:Nat} {wz W W':World} {v1 v1':Value} {n1 n1':Nat} {x1 x1':List Value} {v2 v2':Value} {n2 n2':Nat} {x2 x2':List Value} {y1 y2:Option (Nat × List Value)}
theorem A3.o1 (h:A3 ks B E1 E2 s1 s2 wz v1 n1 x1 v2 n2 x2 y1 y2 W):W.ownsRow B E1 s1 v1 n1 x1:=h.a.o1
theorem A3.o2 (h:A3 ks B E1 E2 s1 s2 wz v1 n1 x1 v2 n2 x2 y1 y2 W):W.ownsRow B E2 s2 v2 n2 x2:=h.a.o2
theorem A3.sz (h:A3 ks B E1 E2 s1 s2 wz v1 n1 x1 v2 n2 x2 y1 y2 W):wz.heap.size ≤ W.heap.size:=h.a.sz
theorem A3.q1 (h:A3 ks B E1 E2 s1 s2 wz v1 n1 x1 v2 n2 x2 y1 y2 W):∀ b c,y1 = some (b,c) → wz.heap.size ≤ b ∧ b < W.heap.size ∧ W.rangeAt b 0 c:=h.a.q1
theorem A3.q2 (h:A3 ks B E1 E2 s1 s2 wz v1 n1 x1 v2 n2 x2 y1 y2 W):∀ b c,y2 = some (b,c) → wz.heap.size ≤ b ∧ b < W.heap.size ∧ W.rangeAt b 0 c:=h.a.q2
theorem A3.kb (h:A3 ks B E1 E2 s1 s2 wz v1 n1 x1 v2 n2 x2 y1 y2 W):KB ks B wz W:=⟨h.a.bel,h.keep⟩
theorem A3.start (h1:wz.ownsRow B E1 s1 v1 n1 x1) (h2:wz.ownsRow B E2 s2 v2 n2 x2):A3 ks B E1 E2 s1 s2 wz v1 n1 x1 v2 n2 x2 none none wz:=⟨A2.start h1 h2,fun _ _ => rfl⟩
theorem A3.drew (h:A3 ks B E1 E2 s1 s2 wz v1 n1 x1 v2 n2 x2 y1 y2 W):A3 ks B E1 E2 s1 s2 wz v1 n1 x1 v2 n2 x2 y1 y2 W.drew:=⟨h.a.drew,h.keep⟩
theorem vM (hk:∀ k ∈ ks,k < wz.heap.size) (hs:wz.heap.size ≤ W.heap.size) (h:∀ k ∈ ks,W.heap[k]? = wz.heap[k]?) (o:Obj):∀ k ∈ ks,(W.alloc o).heap[k]? = wz.heap[k]?:=fun k hm => by
 have hb:Below W.heap.size W (W.alloc o):=bal
 rw [hb.block k (by have:=hk k hm;omega)]
 exact h k hm
theorem A3.rE (h:A3 ks B E1 E2 s1 s2 wz v1 n1 x1 v2 n2 x2 none y2 W) (hB:B ≤ wz.heap.size ∧ ∀ k ∈ ks,k < wz.heap.size) (cs:List Value) (E:TypeId):A3 ks B E1 E2 s1 s2 wz v1 n1 x1 v2 n2 x2 (some (W.heap.size,cs)) y2 (W.alloc (.cells cs.toArray E)):=⟨h.a.rE hB.1 cs E,vM hB.2 h.a.sz h.keep _⟩
theorem A3.mW (h:A3 ks B E1 E2 s1 s2 wz v1 n1 x1 v2 n2 x2 y1 none W) (hB:B ≤ wz.heap.size ∧ ∀ k ∈ ks,k < wz.heap.size) (cs:List Value) (E:TypeId):A3 ks B E1 E2 s1 s2 wz v1 n1 x1 v2 n2 x2 y1 (some (W.heap.size,cs)) (W.alloc (.cells cs.toArray E)):=⟨h.a.mW hB.1 cs E,vM hB.2 h.a.sz h.keep _⟩
theorem A3.app1 (h:A3 ks B E1 E2 s1 s2 wz v1 n1 x1 v2 n2 x2 y1 y2 W) (hB:B ≤ wz.heap.size ∧ ∀ k ∈ ks,k < wz.heap.size) (hv:∀ j,v1.ownBlock = some j → j < wz.heap.size ∧ j ∉ ks) (hE:E2 ≠ E1) (ho:W'.ownsRow B E1 s1 v1' n1' x1') (hg:W.grownBy W' v1.ownBlock):A3 ks B E1 E2 s1 s2 wz v1' n1' x1' v2 n2 x2 none y2 W' :=
 ⟨h.a.app1 hB.1 (fun j hj => (hv j hj).1) hE ho hg,fun k hm => by
  rw [hg.block k (by have:=hB.2 k hm;have:=h.a.sz;omega) (fun e => (hv k e.symm).2 hm)]
  exact h.keep k hm⟩
theorem A3.app2 (h:A3 ks B E1 E2 s1 s2 wz v1 n1 x1 v2 n2 x2 y1 y2 W) (hB:B ≤ wz.heap.size ∧ ∀ k ∈ ks,k < wz.heap.size) (hv:∀ j,v2.ownBlock = some j → j < wz.heap.size ∧ j ∉ ks) (hE:E1 ≠ E2) (ho:W'.ownsRow B E2 s2 v2' n2' x2') (hg:W.grownBy W' v2.ownBlock):A3 ks B E1 E2 s1 s2 wz v1 n1 x1 v2' n2' x2' y1 none W' :=
 ⟨h.a.app2 hB.1 (fun j hj => (hv j hj).1) hE ho hg,fun k hm => by
  rw [hg.block k (by have:=hB.2 k hm;have:=h.a.sz;omega) (fun e => (hv k e.symm).2 hm)]
  exact h.keep k hm⟩
end
theorem bP {ops:Array Oper} {rest:List Oper} {o:Oper} {a:Act} {Q:Exit → Act → World → Prop} (w:World) (hg:o.guard = none) (s x:Operand) (hop:o.op = Op.call { callee:=Callee.builtin Builtin.append,args:=#[s,x],argTypes:=#[33,33] })
  (base:Nat) (v:Value) (n:Nat) (xs:List Value) (hs:a.eval s = v) (hown:w.ownsRow base 24 32 v n xs) (b:Nat) (ci:List Value) (hcl:ci.length = 32) (hc1:∀ u ∈ ci,u.oneCell' = true) (hx:a.eval x = .slice (some ⟨b,0,none⟩) 1 1) (hr:w.rangeAt b 0 ci) (hn:n ≤ 1000000) (hbase:base ≤ w.heap.size)
  (hK:∀ v' w',w'.ownsRow base 24 32 v' (n + 1) (xs ++ ci) → w.grownBy w' v.ownBlock → Fr w v v' → wpList prog ops Q rest (a.put o.dst v') w'):wpList prog ops Q (o :: rest) a w:=by
 obtain ⟨zi,i0,hi,hz0,hz1,hz2,_,hzl⟩:=gH
 refine aR w hg s x 33 hop base 24 i0 _ 32 32 underlying33 hi hz0 hz1 hz2 hzl (by decide) v n xs hs hown ⟨b,0,none⟩ 1 1 ci hx (by rw [hcl]) (fun j u hu => ?_) hc1 (by unfold maxLen;omega) (by omega) hbase hK
 have:=hr j u hu
 rw [Addr.add_mid]
 exact this
theorem bN {ops:Array Oper} {rest:List Oper} {o:Oper} {a:Act} {Q:Exit → Act → World → Prop} (w:World) (hg:o.guard = none) (s x:Operand) (hop:o.op = Op.call { callee:=Callee.builtin Builtin.append,args:=#[s,x],argTypes:=#[32,32] })
  (base:Nat) (v:Value) (n:Nat) (xs:List Value) (hs:a.eval s = v) (hown:w.ownsRow base 40 2 v n xs) (b:Nat) (ob:Ob) (hx:a.eval x = .slice (some ⟨b,0,none⟩) 1 1) (hr:w.rangeAt b 0 (obC ob)) (hn:n ≤ 1000000) (hbase:base ≤ w.heap.size)
  (hK:∀ v' w',w'.ownsRow base 40 2 v' (n + 1) (xs ++ obC ob) → w.grownBy w' v.ownBlock → Fr w v v' → wpList prog ops Q rest (a.put o.dst v') w'):wpList prog ops Q (o :: rest) a w:=by
 obtain ⟨i0,hi,hz0,hz1,hz2⟩:=info_parts vQ
 refine aR w hg s x 32 hop base 40 i0 _ 2 24 underlying32 hi hz0 hz1 hz2 rfl (by decide) v n xs hs hown ⟨b,0,none⟩ 1 1 (obC ob) hx rfl (fun j u hu => ?_) (fun u hu => ?_) (by unfold maxLen;omega) (by omega) hbase hK
 ·have:=hr j u hu
  rw [Addr.add_mid]
  exact this
 unfold obC at hu
 simp at hu
 rcases hu with rfl | rfl <;> rfl
theorem yU (w:World):(sizeOf 40).run prog w = .ok 2 w:=by
 obtain ⟨i0,hi,hz0,hz1,hz2⟩:=info_parts vQ
 simp [sizeOf,typeInfo,hi,hz1]
theorem CG (w:World):(zeroValue 40).run prog w = .ok (.agg #[.int .i64 0,.string ⟨#[]⟩]) w:=by
 obtain ⟨i0,hi,hz0,hz1,hz2⟩:=info_parts vQ
 simp [zeroValue,typeInfo,hi,hz0]
theorem zq (w:World):(sizeOf 24).run prog w = .ok 32 w:=by
 obtain ⟨zi,i0,hi,hz0,hz1,hz2,_,hzl⟩:=gH
 simp [sizeOf,typeInfo,hi,hz1]
def aV (l:List Pt):Option (List Ob):=match cu l with
 | .inl _ => none
 | .inr ts => iJ ts []
def iH (ts:List ByteArray) (os:List Ob):Prop:=iJ ts [] = iJ (ts.drop os.length) os ∧ os.length ≤ ts.length
theorem GR {ts:List ByteArray} {os:List Ob} (h:iH ts os) (hl:os.length < ts.length) (hr:aQ ts[os.length].data.toList = none):iJ ts [] = none:=by
 rw [h.1,List.drop_eq_getElem_cons hl]
 unfold iJ
 rw [hr]
theorem wF {ts:List ByteArray} {os:List Ob} {o:Ob} (h:iH ts os) (hl:os.length < ts.length) (hr:aQ ts[os.length].data.toList = some o) (hm:idO o ∈ os.map idO):iJ ts [] = none:=by
 rw [h.1,List.drop_eq_getElem_cons hl]
 unfold iJ
 rw [hr]
 dsimp only
 rw [if_pos hm]
theorem zA {ts:List ByteArray} {os:List Ob} {o:Ob} (h:iH ts os) (hl:os.length < ts.length) (hr:aQ ts[os.length].data.toList = some o) (hm:idO o ∉ os.map idO):iH ts (os ++ [o]):=by
 refine ⟨?_,by rw [List.length_append];simp only [List.length_cons,List.length_nil];omega⟩
 rw [h.1,List.drop_eq_getElem_cons hl]
 conv => lhs;unfold iJ
 rw [hr]
 dsimp only
 rw [if_neg hm,List.length_append]
 rfl
theorem Dw {ts:List ByteArray} {os:List Ob} (h:iH ts os) (hl:os.length = ts.length):iJ ts [] = some os:=by
 rw [h.1,hl,List.drop_length];rfl
theorem dM {s:List UInt8} {o:Ob} (h:aQ s = some o):aC o = true:=by
 unfold aQ at h
 split at h
 ·cases h
 split at h
 ·cases h
 split at h
 ·cases h
 split at h
 ·rename_i hr;cases h;exact hr
 cases h
theorem bT.Mv {w0 w w':World} {v:Value} {ss:List ByteArray} {g:Nat} (h:bT w v ss) (hf:bB w0 v) (hg:w.grownBy w' (some g)) (hl:g < w0.heap.size):bT w' v ss:=by
 obtain ⟨ao,cap,rfl,hm,h2⟩:=h
 refine ⟨ao,cap,rfl,hm,fun hne => ?_⟩
 obtain ⟨b,off,rfl,hb,hc⟩:=h2 hne
 have hbg:=hf b rfl
 exact ⟨b,off,rfl,Nat.lt_of_lt_of_le hb hg.size,fun i hi => hg.cell (hc i hi) (fun e => by have:=Option.some.inj e;dsimp only at this;omega)⟩
theorem Glob.grown {w w':World} {g:Nat} (h:Glob w) (hg:w.grownBy w' (some g)) (h5:5 ≤ g):Glob w':=by
 have hb:Below 5 w w':=⟨hg.os,hg.tape,hg.output,hg.size,fun k hk => hg.block k (by have:=h.laid.lt;omega) (fun e => by have:=Option.some.inj e;omega)⟩
 exact h.Na hb (Nat.le_refl _)
theorem aF:(prog.info? 40).map (·.size) = some 2:=by decide +kernel
theorem AR:(prog.info? 24).map (·.size) = some 32:=by kernel_rfl
theorem dx (o:Ob):∀ v ∈ obC o,v.oneCell' = true:=by
 intro v hv
 unfold obC at hv
 simp at hv
 rcases hv with rfl | rfl <;> rfl
structure FlSt (g:Nat) (vp vs:Value) (w:World) (os:List Ob) (vi vo:Value) (wr:World):Prop where
 pa:Arr wr g 4 (paC vp vs vi vo)
 o1:wr.ownsRow w.heap.size 24 32 vi os.length (idsF (os.map idO))
 o2:wr.ownsRow w.heap.size 40 2 vo os.length (obsF os)
 gr:w.grownBy wr (some g)
theorem FlSt.below {g:Nat} {vp vs vi vo:Value} {w wr w':World} {os:List Ob} (h:FlSt g vp vs w os vi vo wr) (hb:Below wr.heap.size wr w'):FlSt g vp vs w os vi vo w' :=
 ⟨h.pa.below hb (h.pa.lt (by omega)),own_below h.o1 hb,own_below h.o2 hb,jq h.gr hb⟩
theorem AV {w w1 w2:World} {r:Option Nat} (h1:w.grownBy w1 r) (h2:Below w.heap.size w1 w2):w.grownBy w2 r :=
 ⟨by rw [h2.os,h1.os],by rw [h2.tape,h1.tape],by rw [h2.output,h1.output],Nat.le_trans h1.size h2.size,fun k hk hne => by rw [h2.block k hk,h1.block k hk hne]⟩
theorem FlSt.next {g:Nat} {vp vs vi vo v1 v2:Value} {w wr W:World} {os:List Ob} {o:Ob} {ks:List Nat} (h:FlSt g vp vs w os vi vo wr) (hg:g < w.heap.size) (hA:A3 ks w.heap.size 24 40 32 2 wr v1 (os.length + 1) (idsF (os.map idO) ++ idC (idO o)) v2 (os.length + 1) (obsF os ++ obC o) none none W) :
  FlSt g vp vs w (os ++ [o]) v1 v2 ((W.setCell ⟨g,2,none⟩ v1).setCell ⟨g,3,none⟩ v2):=by
 have hp2:=h.pa.below hA.a.bel hg
 have e1:(os ++ [o]).map idO = os.map idO ++ [idO o]:=by simp
 have e3:(os ++ [o]).length = os.length + 1:=by simp
 have e4:obsF (os ++ [o]) = obsF os ++ obC o:=by simp [obsF]
 have n1:=own_ne hA.a.o1 hg
 have n2:=own_ne hA.a.o2 hg
 have s1:=bE (o:=2) (u:=v1) hA.a.o1 n1
 have s2:=bE (o:=2) (u:=v1) hA.a.o2 n2
 refine ⟨((hp2.set 2 (by decide) v1).set 3 (by decide) v2).congr fun k hk => ?_,?_,?_,?_⟩
 ·unfold upd paC
  obtain h | h | h | h:k = 0 ∨ k = 1 ∨ k = 2 ∨ k = 3:=by omega
  all_goals subst h;rfl
 ·rw [e1,e3,nH]
  exact bE (o:=3) (u:=v2) s1 (own_ne s1 hg)
 ·rw [e3,e4]
  exact bE (o:=3) (u:=v2) s2 (own_ne s2 hg)
 exact aI (aI (AV h.gr hA.a.bel) _) _
theorem FlSt.ids {g:Nat} {vp vs vi vo:Value} {w wr:World} {os:List Ob} (h:FlSt g vp vs w os vi vo wr):bD wr vi (os.map idO) :=
 aK.aS (B:=w.heap.size) (e:=24) (fun r hr => by
  obtain ⟨x,hx,rfl⟩:=List.mem_map.1 hr
  obtain ⟨o,_,rfl⟩:=List.mem_map.1 hx
  rw [aD,dI]) (by rw [List.length_map,List.length_map];exact h.o1)
theorem FlSt.obs {g:Nat} {vp vs vi vo:Value} {w wr:World} {os:List Ob} (h:FlSt g vp vs w os vi vo wr):dD wr vo os :=
 aK.aS (B:=w.heap.size) (e:=40) (fun r hr => by obtain ⟨x,_,rfl⟩:=List.mem_map.1 hr;rfl) (by rw [List.length_map];exact h.o2)
def Hu (g:Nat) (vp vs:Value) (l:List Pt) (w:World) (e:Ending) (w':World):Prop :=
 (match aV l with
 | none => e = .returned (.bool false)
 | some os => e = .returned (.bool true) ∧ ∃ vi vo,Arr w' g 4 (paC vp vs vi vo) ∧ bD w' vi (os.map idO) ∧ dD w' vo os) ∧ w.grownBy w' (some g)
theorem wu {g:Nat} {vp vs:Value} {l:List Pt} {w w':World} (h:aV l = none) (hb:w.grownBy w' (some g)):Hu g vp vs l w (.returned (.bool false)) w':=⟨by rw [h],hb⟩
theorem JW {g:Nat} {vp vs vi vo:Value} {l:List Pt} {os:List Ob} {w w1 w':World} (h:aV l = some os) (h1:w.grownBy w1 (some g)) (hS:FlSt g vp vs w1 os vi vo w'):Hu g vp vs l w (.returned (.bool true)) w':=⟨by rw [h];exact ⟨rfl,vi,vo,hS.pa,hS.ids,hS.obs⟩,h1.trans hS.gr⟩
theorem Jg (g:Nat) (vp vs:Value) (l:List Pt) (w:World) (hpa:Arr w g 4 (paC vp vs (.slice none 0 0) (.slice none 0 0))) (hvp:dQ w vp l) (ho:PtOk l) (hG:Glob w) (hg5:5 ≤ g):Calls prog 80 #[.pointer (some ⟨g,0,none⟩)] w (Hu g vp vs l w):=by
 have hgl:=hpa.lt (show 0 < 4 by omega)
 have HPA:=ah hpa
 have HG:=ah hG
 have HAL:=ah (Kh vp l w hvp ho)
 have c0:w.cell? ⟨g,0,none⟩ = some vp:=hpa.cell 0 (by decide)
 obtain ⟨vpo,vpc,rfl,_,_⟩:=hvp.open
 obtain ⟨zi,j0,ji,jz0,jz1,jz2,hziv,hzil⟩:=gH
 have HZI:=ah hzil
 clear hpa hvp ho hG hzil
 unfold zT at HAL
 cases ht:cu l with
 | inl e =>
  rw [ht] at HAL
  dsimp only at HAL
  obtain ⟨he1,he2⟩:=tX ht
  have d1:((e:Int) != 0) = true:=by rw [bne_iff_ne];omega
  have HNO:Hid (aV l = none):=ah (by unfold aV;rw [ht])
  clear ht
  go_enter func80,ntmps80
  go_wp2_with fail
  refine HAL.out.mono ?_
  rintro x w1 ⟨rfl,hb1⟩
  go_wp2_with fail
  go_ret
  exact wu HNO.out (aA hb1 _)
 | inr ts =>
  rw [ht] at HAL
  dsimp only at HAL
  obtain ⟨htl,hl200,hts⟩:=oq ht
  have HFA:Hid (aV l = iJ ts []):=ah (by unfold aV;rw [ht])
  have HTS:=ah hts
  have HTL:=ah htl
  have hts200:ts.length ≤ 200:=by omega
  clear ht hts htl
  go_enter func80,ntmps80
  go_wp2_with fail
  refine HAL.out.mono ?_
  rintro x w1 ⟨⟨vt,rfl,hvt,hfr⟩,hb1⟩
  have HFR:=ah hfr
  clear hfr
  have HVT:=ah hvt
  have HB1:=ah hb1
  have HST:Hid (FlSt g (.slice vpo l.length vpc) vs w1 [] (.slice none 0 0) (.slice none 0 0) w1):=ah ⟨HPA.out.below hb1 hgl,World.ownsRow_nil _ _ _ _,World.ownsRow_nil _ _ _ _,World.grownBy.refl _ _⟩
  have HGR:Hid (w.grownBy w1 (some g)):=ah (aA hb1 _)
  obtain ⟨tso,tsc,rfl,htm,_⟩:=hvt
  clear hb1 c0
  go_wp2_with fail
  go_loopw [6,7,8,9,10,23] (fun _ _ _ _ _ i wr => ∃ (os:List Ob) (vi vo:Value),i = .int .i64 (os.length:Int) ∧ Hid (iH ts os) ∧ FlSt g (.slice vpo l.length vpc) vs w1 os vi vo wr) (fun _ _ _ _ _ i _ => (ts.length - intOf i).toNat)
  case atStart => exact ⟨[],_,_,rfl,ah ⟨rfl,Nat.zero_le _⟩,HST.out⟩
  obtain ⟨os,vi,vo,rfl,hF,hS⟩:=hrel
  obtain ⟨io,ic,rfl⟩:=ay hS.o1
  obtain ⟨oo,oc,rfl⟩:=ay hS.o2
  have HS:=ah hS
  have HGW:=ah hS.gr
  have hol:=hF.out.2
  have hgr:g < wr.heap.size:=hS.pa.lt (by omega)
  clear hS
  by_cases hlt:os.length < ts.length
  ·obtain ⟨sao,scap,es,_,hv2⟩:=HVT.out.Mv HFR.out HGW.out hgl
   cases es
   obtain ⟨sb,soff,rfl,hsbl,hscell⟩:=hv2 (by intro e;rw [e] at hlt;simp at hlt)
   have cs0:=hscell os.length hlt
   have i0:(0:Int) ≤ os.length:=by omega
   have i1:(os.length:Int) < ts.length:=by omega
   have wi:IntKind.i64.wrap ((os.length:Int) + 1) = (os.length:Int) + 1:=by rw [IntKind.wrap_i64];omega
   have HSZ:=ah (HTS.out ts[os.length] (List.getElem_mem hlt))
   have HNOF:=ah (GR hF.out hlt)
   have HTW:=ah (fun o => wF (o:=o) hF.out hlt)
   have HNX:=ah (fun o => zA (o:=o) hF.out hlt)
   have HOR:=ah (rX ts[os.length] wr (by have:=HSZ.out;omega) ((HG.out.grown HGR.out hg5).grown HS.out.gr hg5).max)
   generalize ts[os.length] = s at cs0 HSZ HNOF HTW HNX HOR
   clear hscell hv2
   go_wp2_with fail
   refine HOR.out.mono ?_
   rintro e w2 hans
   have HB2:=ah hans.1
   obtain ⟨o,c,rfl,hoc⟩:∃ (o:Ob) (c:Nat),e = .returned (.tuple #[.agg (obC o).toArray,.int .i64 (c:Int)]) ∧ ((c = 0 ∧ aQ s.data.toList = some o) ∨ (c = 2 ∧ aQ s.data.toList = none)):=by
    rcases hans.2 with ⟨o,h1,h2⟩ | ⟨h1,h2⟩
    ·exact ⟨o,0,h2,.inl ⟨rfl,h1⟩⟩
    exact ⟨ob0,2,h2,.inr ⟨rfl,h1⟩⟩
   clear hans cs0
   have HT1:=ah (there_alloc (n:=2) w2 #[.int .i64 0,.string ⟨#[]⟩] 40 rfl)
   have HIO:=ah aF
   obtain ⟨W3,hW3⟩:∃ W,(w2.alloc (.cells #[.int .i64 0,.string ⟨#[]⟩] 40)).setCells w2.heap.size 0 (obC o) = W:=⟨_,rfl⟩
   have HBX3:Hid (BoxL W3 w2.heap.size 40 (obC o)):=ah (by rw [← hW3];exact (BoxL.new w2 40 [.int .i64 0,.string ⟨#[]⟩]).set rfl)
   have HB3:Hid (Below wr.heap.size wr W3):=ah (by rw [← hW3];exact below_setCells _ HB2.out.size _ _ _ (HB2.out.alloc HB2.out.size _))
   have HLO:Hid (wr.heap.size ≤ w2.heap.size):=ah HB2.out.size
   have HID:=ah (show Calls prog 89 #[.agg (obC o).toArray] W3 (qB o.kind o.body W3) from Gy o.kind o.body W3 (((HG.out.grown HGR.out hg5).grown HS.out.gr hg5).below HB3.out).laid)
   unfold qB at HID
   have hr3:=HBX3.out.range
   have h2o:(prog.info? 40).map (·.size) = some (obC o).length:=aF
   have HOC1:=ah (dx o)
   have HOCL:Hid ((obC o).length = 2):=ah rfl
   have HRO:Hid (aQ s.data.toList = some o → aC ⟨o.kind,o.body⟩ = true):=ah fun h => dM h
   have HW3:=ah hW3
   have HCO:Hid (obC o = obC o):=ah rfl
   obtain ⟨y,hy⟩:∃ y,(if aC ⟨o.kind,o.body⟩ = true then idO ⟨o.kind,o.body⟩ else zid) = y:=⟨_,rfl⟩
   have hy32:y.length = 32:=by
    rw [← hy]
    split
    ·exact dI _
    exact dZ
   have HY32:=ah hy32
   rw [hy] at HID
   have HY:=ah hy
   obtain ⟨ok,hok⟩:∃ ok,aC ⟨o.kind,o.body⟩ = ok:=⟨_,rfl⟩
   rw [hok] at HID
   clear hW3 hy hok hy32
   generalize hco:obC o = co at hr3 h2o HOC1 HOCL HW3 HID HBX3 HCO ⊢
   have HCOE:=ah hco
   clear HCO hco
   go_upto_region 8 with (refine aj rfl 40 _ _ rfl w2.heap.size 0 co rfl rfl 2 HOCL.out HT1.out HIO.out HOC1.out ?_;rw [HW3.out])
   go_wp2_with (refine wpList_load_mid rfl 40 _ rfl w2.heap.size 0 rfl co _ hr3 underlying40 rfl h2o ?_)
   refine HID.out.mono ?_
   rintro e w4 ⟨rfl,hb4⟩
   have HB4:=bth HB3 hb4
   have HBX4:=ah (HBX3.out.below hb4)
   clear hb4 hr3 h2o
   have HT5:=ah (there_alloc (n:=32) w4 zi 24 HZI.out)
   have HII:=ah AR
   have HCI:Hid ((idC y).length = 32 ∧ ∀ v ∈ idC y,v.oneCell' = true):=ah ⟨by rw [aD,HY32.out],bX y⟩
   obtain ⟨W5,hW5⟩:∃ W,(w4.alloc (.cells zi 24)).setCells w4.heap.size 0 (idC y) = W:=⟨_,rfl⟩
   have HBX5:Hid (BoxL W5 w4.heap.size 24 (idC y)):=ah (by rw [← hW5];exact BoxL.set (cs:=zi.toList) (by have:=BoxL.new w4 24 zi.toList;simpa using this) (by rw [HCI.out.1];simpa using HZI.out.symm))
   have HB5w:Hid (Below w4.heap.size w4 W5):=ah (by rw [← hW5];exact below_setCells _ (Nat.le_refl _) _ _ _ bal)
   have HB5:=ah (HB4.out.trans (HB5w.out.mono HB4.out.size))
   have HBX45:=ah (HBX4.out.below HB5w.out)
   have HLI:Hid (wr.heap.size ≤ w4.heap.size):=ah HB4.out.size
   have HNE:Hid (w2.heap.size ≠ w4.heap.size):=ah (by have:=HBX4.out.lt;omega)
   have HS5:=ah (HS.out.below HB5.out)
   have HCN:=ah (fun x:BW (World.heap W5).size W5 => xL (.slice io os.length ic) (os.map idO) y x.out ((HS5.out.below x.hb).ids) (fun z hz => by obtain ⟨u,_,rfl⟩:=List.mem_map.1 hz;exact dI u) HY32.out)
   have h32:=dG HCI.out.1
   have r5:=HBX5.out.range
   have hib:=HBX5.out.lt
   have hg5l:g < W5.heap.size:=HS5.out.pa.lt (by omega)
   have c2:W5.cell? ⟨g,2,none⟩ = some (.slice io os.length ic):=HS5.out.pa.cell 2 (by decide)
   have HW5:=ah hW5
   clear hW5 HB3 HB4 HB5 HBX3 HBX4 HB5w HB2 HID
   generalize hci:idC y = ci at HCI HW5 HBX5 HCN h32 r5
   have HCIE:=ah hci
   clear hci
   go_upto_region 9 with (refine aj rfl 24 _ _ rfl w4.heap.size 0 ci rfl rfl 32 HCI.out.1 HT5.out HII.out HCI.out.2 ?_;rw [HW5.out])
   rcases hoc with ⟨rfl,hrd⟩ | ⟨rfl,hrd⟩
   ·have HRD:=ah hrd
    have HYE:Hid (y = idO o):=ah (by rw [← HY.out,if_pos (HRO.out hrd)])
    clear hrd
    obtain ⟨bm,hbm⟩:∃ bm,decide (y ∈ os.map idO) = bm:=⟨_,rfl⟩
    have hcn:=HCN.out
    rw [hbm] at hcn
    have HBM:=ah hbm
    clear hbm HCN
    refine wbq ?_
    have LQ0:=blq c2
    repeat (go_big_quiet_step ((go_at_call 145;with_reducible exact aU (hcn _))))
    refine bg 24 _ _ rfl rfl rfl r5 (by omega) underlying24 rfl h32 ?_
    simp only [Act.put,nz]
    repeat (go_big_quiet_step ((go_at_call 145;with_reducible exact aU (hcn _))))
    refine wpQuiet_nil ?_
    intro wq hbq
    clear LQ0
    have HSQ:=ah (HS5.out.below hbq)
    have HBO:=ah (HBX45.out.below hbq)
    have HBI:=ah (HBX5.out.below hbq)
    have hgq:g < wq.heap.size:=by have:=hbq.size;omega
    clear hbq hcn c2 r5 h32 HS5 HBX45 HBX5
    cases bm with
    | true =>
     have HNO:Hid (aV l = none):=ah (by rw [HFA.out];exact HTW.out o HRD.out (by rw [← HYE.out];exact of_decide_eq_true HBM.out))
     go_wp2_with fail
     go_ret
     exact wu HNO.out (HGR.out.trans HSQ.out.gr)
    | false =>
     have HFN:Hid (iH ts (os ++ [o])):=ah (HNX.out o HRD.out (by rw [← HYE.out];exact of_decide_eq_false HBM.out))
     go_upto_region 11 with fail
     have hB:w1.heap.size ≤ wq.heap.size ∧ ∀ k ∈ [w2.heap.size,w4.heap.size],k < wq.heap.size:=⟨HSQ.out.gr.size,fun k hk => by
      simp only [List.mem_cons,List.not_mem_nil,or_false] at hk
      rcases hk with rfl | rfl
      ·exact HBO.out.lt
      exact HBI.out.lt⟩
     have hA0:A3 [w2.heap.size,w4.heap.size] w1.heap.size 24 40 32 2 wq (.slice io os.length ic) os.length (idsF (os.map idO)) (.slice oo os.length oc) os.length (obsF os) none none wq:=A3.start HSQ.out.o1 HSQ.out.o2
     have hA:=hA0.drew
     have hv1:∀ j,(Value.slice io os.length ic).ownBlock = some j → j < wq.heap.size ∧ j ∉ [w2.heap.size,w4.heap.size]:=fun j hj => by
      have h1:=(HS.out.o1.lt j hj).2
      have:=HLO.out
      have:=HLI.out
      have h2:=(HSQ.out.o1.lt j hj).2
      refine ⟨h2,fun hm => ?_⟩
      simp only [List.mem_cons,List.not_mem_nil,or_false] at hm
      omega
     have hv2:∀ j,(Value.slice oo os.length oc).ownBlock = some j → j < wq.heap.size ∧ j ∉ [w2.heap.size,w4.heap.size]:=fun j hj => by
      have h1:=(HS.out.o2.lt j hj).2
      have:=HLO.out
      have:=HLI.out
      have h2:=(HSQ.out.o2.lt j hj).2
      refine ⟨h2,fun hm => ?_⟩
      simp only [List.mem_cons,List.not_mem_nil,or_false] at hm
      omega
     have hgw:g < w1.heap.size:=by have:=HB1.out.size;omega
     have hPK:∀ w',KB [w2.heap.size,w4.heap.size] w1.heap.size wq w' → Arr w' g 4 (paC (.slice vpo l.length vpc) vs (.slice io os.length ic) (.slice oo os.length oc)):=fun w' hb => HSQ.out.pa.below hb.1 hgw
     have HSF1:=ah (dG HCI.out.1)
     have HZS1:=ah (show ∀ w,(sizeOf 24).run prog w = .ok ci.length w from fun w => by rw [HCI.out.1];exact zq w)
     have HZV1:=ah hziv
     have HCL1:Hid (0 < ci.length ∧ ci.length ≤ 1000):=ah (by rw [HCI.out.1];omega)
     have HSF2:=ah (show (prog.info? 40).map (·.size) = some co.length from by rw [HOCL.out];exact aF)
     have HZS2:=ah (show ∀ w,(sizeOf 40).run prog w = .ok co.length w from fun w => by rw [HOCL.out];exact yU w)
     have HZV2:=ah CG
     have HCL2:Hid (0 < co.length ∧ co.length ≤ 1000):=ah (by rw [HOCL.out];omega)
     have HCO:Hid (obC o = co):=HCOE
     obtain ⟨ob,hob⟩:∃ ob,w2.heap.size = ob:=⟨_,rfl⟩
     obtain ⟨ib,hib2⟩:∃ ib,w4.heap.size = ib:=⟨_,rfl⟩
     have hSB:∀ w',KB [w2.heap.size,w4.heap.size] w1.heap.size wq w' → (w'.cell? ⟨g,3,none⟩ = some (.slice oo os.length oc) ∧ w'.rangeAt w2.heap.size 0 co ∧ w'.rangeAt w4.heap.size 0 ci) ∧ w'.cell? ⟨g,2,none⟩ = some (.slice io os.length ic):=fun w' hb => ⟨⟨(hPK w' hb).cell 3 (by decide),(show BoxL w' w2.heap.size 40 co from (hb.2 _ (by simp)).trans HBO.out).range,(show BoxL w' w4.heap.size 24 ci from (hb.2 _ (by simp)).trans HBI.out).range⟩,(hPK w' hb).cell 2 (by decide)⟩
     have hgo:g ≠ w2.heap.size:=by have:=HLO.out;omega
     have hgi:g ≠ w4.heap.size:=by have:=HLI.out;omega
     have HNXT:Hid (∀ v1 v2 W,A3 [w2.heap.size,w4.heap.size] w1.heap.size 24 40 32 2 wq v1 (os.length + 1) (idsF (os.map idO) ++ ci) v2 (os.length + 1) (obsF os ++ obC o) none none W → FlSt g (.slice vpo l.length vpc) vs w1 (os ++ [o]) v1 v2 ((W.setCell ⟨g,2,none⟩ v1).setCell ⟨g,3,none⟩ v2)):=ah fun v1 v2 W h => HSQ.out.next hgw (by rw [← HYE.out,HCIE.out];exact h)
     have hos:os.length ≤ 200:=by omega
     clear hob hib2
     have hSZ:=hSB _ hA.kb
     refine rG 21 18 (fun w' => w'.cell? ⟨g,3,none⟩ = some (.slice oo os.length oc) ∧ w'.rangeAt w2.heap.size 0 co ∧ w'.rangeAt w4.heap.size 0 ci) (fun w' => w'.cell? ⟨g,2,none⟩ = some (.slice io os.length ic)) (by kernel_rfl) (by kernel_rfl) ?_
     refine WX.tk 0 (SX.mk hSZ.1 hSZ.2) ?_
     refine WX.tk 1 (SX.mk hSZ.1 hSZ.2) ?_
     refine WX.tk 2 (SX.mk hSZ.1 hSZ.2) ?_
     refine WX.tk 3 (SX.mk hSZ.1 hSZ.2) ?_
     refine WX.tk 4 (SX.mk hSZ.1 hSZ.2) ?_
     refine WX.t2 5 (SX.mk hSZ.1 hSZ.2) ?_
     refine WX.tk 6 (SX.mk hSZ.1 hSZ.2) ?_ (hy:=(fun w' hSw => iB 24 _ (hSw.2.2) underlying24 rfl HSF1.out _ rfl rfl))
     refine WX.tk 9 (SX.mk hSZ.1 hSZ.2) ?_
     refine WX.tk 10 (SX.mk hSZ.1 hSZ.2) ?_
     refine WX.tk 11 (SX.mk hSZ.1 hSZ.2) ?_
     refine WX.tk 12 (SX.mk hSZ.1 hSZ.2) ?_
     refine WX.tk 13 (SX.mk hSZ.1 hSZ.2) ?_ (hy:=(fun w' hSw => iB 40 _ (hSw.2.1) underlying40 rfl HSF2.out _ rfl rfl))
     refine WX.two (i:=7) (k:=14) rfl rfl (by decide) (by decide) (by decide +kernel) ?_ ?_
     ·
      refine av rfl _ 33 24 rfl (ci) zi rfl underlying33 HZS1.out HZV1.out HCL1.out.1 HCL1.out.2 ?_
      have hA1:=hA.rE hB (ci) 24
      simp only [Act.put,nz]
      generalize hW1:World.alloc wq.drew (.cells (ci).toArray 24) = wX1 at hA1 ⊢
      clear hW1
      have hS1:=hSB _ hA1.kb
      refine ⟨SX.mk hS1.1 hS1.2,?_⟩
      refine WX.two (i:=8) (k:=14) rfl rfl (by decide) (by decide) (by decide +kernel) ?_ ?_
      ·
       refine bP _ rfl _ _ rfl w1.heap.size (.slice io os.length ic) os.length (idsF (os.map idO)) rfl hA1.o1 _ ci HCI.out.1 HCI.out.2 rfl (hA1.q1 _ _ rfl).2.2 (by omega) (Nat.le_trans hB.1 hA1.sz) ?_
       intro v1_ wX2 ho2 hg2 _
       obtain ⟨vo2,vc2,rfl⟩:=ay ho2
       have hA2:=hA1.app1 hB hv1 (by decide) ho2 hg2
       clear ho2 hg2
       simp only [Act.put,nz]
       have hS2:=hSB _ hA2.kb
       refine ⟨SX.mk hS2.1 hS2.2,?_⟩
       refine WX.on 14 ?_
       refine av rfl _ 32 40 rfl (co) #[.int .i64 0,.string ⟨#[]⟩] rfl underlying32 HZS2.out HZV2.out HCL2.out.1 HCL2.out.2 ?_
       have hA3:=hA2.mW hB (co) 40
       simp only [Act.put,nz]
       generalize hW3:World.alloc wX2 (.cells (co).toArray 40) = wX3 at hA3 ⊢
       clear hW3
       have hS3:=hSB _ hA3.kb
       refine ⟨SX.mk hS3.1 hS3.2,?_⟩
       refine WX.on 15 ?_
       refine bN _ rfl _ _ rfl w1.heap.size (.slice oo os.length oc) os.length (obsF os) rfl hA3.o2 _ o rfl (by rw [HCO.out];exact (hA3.q2 _ _ rfl).2.2) (by omega) (Nat.le_trans hB.1 hA3.sz) ?_
       intro v2_ wX4 ho4 hg4 _
       obtain ⟨vo4,vc4,rfl⟩:=ay ho4
       have hA4:=hA3.app2 hB hv2 (by decide) ho4 hg4
       clear ho4 hg4
       simp only [Act.put,nz]
       have hS4:=hSB _ hA4.kb
       refine ⟨SX.mk hS4.1 hS4.2,?_⟩
       have hAP:=hPK _ hA4.kb
       have c1W:=hAP.cell 2 (by decide)
       have f1W:=hAP.free 2 (by decide)
       refine WX.tk 16 (SX.mk hS4.1 hS4.2) ?_
       refine WX.tk 17 (SX.mk hS4.1 hS4.2) ?_
       refine WX.on 18 ?_
       go_wp2_with fail
       have hAQ:=hAP.set 2 (by decide) (Value.slice vo2 (os.length + 1) vc2)
       have hSQ:=And.intro (hAQ.cell 3 (by decide)) (And.intro (fP (p:=⟨g,2,none⟩) hS4.1.2.1 hgo (Value.slice vo2 (os.length + 1) vc2)) (fP (p:=⟨g,2,none⟩) hS4.1.2.2 hgi (Value.slice vo2 (os.length + 1) vc2)))
       have c2W:=hAQ.cell 3 (by decide)
       have f2W:=hAQ.free 3 (by decide)
       refine ⟨SX.done hSQ (by decide +kernel),?_⟩
       refine WX.tk 19 (SX.done hSQ (by decide +kernel)) ?_
       refine WX.tk 20 (SX.done hSQ (by decide +kernel)) ?_
       refine WX.la 21 ?_
       go_wp2_with fail
       have hAZ:=hAQ.set 3 (by decide) (Value.slice vo4 (os.length + 1) vc4)
       have HS9:=ah (HNXT.out _ _ _ hA4)
       go_wp2_with fail
       go_roundw
       case rel => exact ⟨os ++ [o],_,_,by rw [List.length_append];go_num,HFN,HS9.out⟩
       case measure => simp [intOf];omega
      refine av rfl _ 32 40 rfl (co) #[.int .i64 0,.string ⟨#[]⟩] rfl underlying32 HZS2.out HZV2.out HCL2.out.1 HCL2.out.2 ?_
      have hA2:=hA1.mW hB (co) 40
      simp only [Act.put,nz]
      generalize hW2:World.alloc wX1 (.cells (co).toArray 40) = wX2 at hA2 ⊢
      clear hW2
      have hS2:=hSB _ hA2.kb
      refine ⟨SX.mk hS2.1 hS2.2,?_⟩
      refine WX.on 8 ?_
      refine bP _ rfl _ _ rfl w1.heap.size (.slice io os.length ic) os.length (idsF (os.map idO)) rfl hA2.o1 _ ci HCI.out.1 HCI.out.2 rfl (hA2.q1 _ _ rfl).2.2 (by omega) (Nat.le_trans hB.1 hA2.sz) ?_
      intro v1_ wX3 ho3 hg3 _
      obtain ⟨vo3,vc3,rfl⟩:=ay ho3
      have hA3:=hA2.app1 hB hv1 (by decide) ho3 hg3
      clear ho3 hg3
      simp only [Act.put,nz]
      have hS3:=hSB _ hA3.kb
      refine ⟨SX.mk hS3.1 hS3.2,?_⟩
      refine WX.on 15 ?_
      refine bN _ rfl _ _ rfl w1.heap.size (.slice oo os.length oc) os.length (obsF os) rfl hA3.o2 _ o rfl (by rw [HCO.out];exact (hA3.q2 _ _ rfl).2.2) (by omega) (Nat.le_trans hB.1 hA3.sz) ?_
      intro v2_ wX4 ho4 hg4 _
      obtain ⟨vo4,vc4,rfl⟩:=ay ho4
      have hA4:=hA3.app2 hB hv2 (by decide) ho4 hg4
      clear ho4 hg4
      simp only [Act.put,nz]
      have hS4:=hSB _ hA4.kb
      refine ⟨SX.mk hS4.1 hS4.2,?_⟩
      have hAP:=hPK _ hA4.kb
      have c1W:=hAP.cell 2 (by decide)
      have f1W:=hAP.free 2 (by decide)
      refine WX.tk 16 (SX.mk hS4.1 hS4.2) ?_
      refine WX.tk 17 (SX.mk hS4.1 hS4.2) ?_
      refine WX.on 18 ?_
      go_wp2_with fail
      have hAQ:=hAP.set 2 (by decide) (Value.slice vo3 (os.length + 1) vc3)
      have hSQ:=And.intro (hAQ.cell 3 (by decide)) (And.intro (fP (p:=⟨g,2,none⟩) hS4.1.2.1 hgo (Value.slice vo3 (os.length + 1) vc3)) (fP (p:=⟨g,2,none⟩) hS4.1.2.2 hgi (Value.slice vo3 (os.length + 1) vc3)))
      have c2W:=hAQ.cell 3 (by decide)
      have f2W:=hAQ.free 3 (by decide)
      refine ⟨SX.done hSQ (by decide +kernel),?_⟩
      refine WX.tk 19 (SX.done hSQ (by decide +kernel)) ?_
      refine WX.tk 20 (SX.done hSQ (by decide +kernel)) ?_
      refine WX.la 21 ?_
      go_wp2_with fail
      have hAZ:=hAQ.set 3 (by decide) (Value.slice vo4 (os.length + 1) vc4)
      have HS9:=ah (HNXT.out _ _ _ hA4)
      go_wp2_with fail
      go_roundw
      case rel => exact ⟨os ++ [o],_,_,by rw [List.length_append];go_num,HFN,HS9.out⟩
      case measure => simp [intOf];omega
     refine av rfl _ 32 40 rfl (co) #[.int .i64 0,.string ⟨#[]⟩] rfl underlying32 HZS2.out HZV2.out HCL2.out.1 HCL2.out.2 ?_
     have hA1:=hA.mW hB (co) 40
     simp only [Act.put,nz]
     generalize hW1:World.alloc wq.drew (.cells (co).toArray 40) = wX1 at hA1 ⊢
     clear hW1
     have hS1:=hSB _ hA1.kb
     refine ⟨SX.mk hS1.1 hS1.2,?_⟩
     refine WX.on 7 ?_
     refine av rfl _ 33 24 rfl (ci) zi rfl underlying33 HZS1.out HZV1.out HCL1.out.1 HCL1.out.2 ?_
     have hA2:=hA1.rE hB (ci) 24
     simp only [Act.put,nz]
     generalize hW2:World.alloc wX1 (.cells (ci).toArray 24) = wX2 at hA2 ⊢
     clear hW2
     have hS2:=hSB _ hA2.kb
     refine ⟨SX.mk hS2.1 hS2.2,?_⟩
     refine WX.on 8 ?_
     refine bP _ rfl _ _ rfl w1.heap.size (.slice io os.length ic) os.length (idsF (os.map idO)) rfl hA2.o1 _ ci HCI.out.1 HCI.out.2 rfl (hA2.q1 _ _ rfl).2.2 (by omega) (Nat.le_trans hB.1 hA2.sz) ?_
     intro v1_ wX3 ho3 hg3 _
     obtain ⟨vo3,vc3,rfl⟩:=ay ho3
     have hA3:=hA2.app1 hB hv1 (by decide) ho3 hg3
     clear ho3 hg3
     simp only [Act.put,nz]
     have hS3:=hSB _ hA3.kb
     refine ⟨SX.mk hS3.1 hS3.2,?_⟩
     refine WX.on 15 ?_
     refine bN _ rfl _ _ rfl w1.heap.size (.slice oo os.length oc) os.length (obsF os) rfl hA3.o2 _ o rfl (by rw [HCO.out];exact (hA3.q2 _ _ rfl).2.2) (by omega) (Nat.le_trans hB.1 hA3.sz) ?_
     intro v2_ wX4 ho4 hg4 _
     obtain ⟨vo4,vc4,rfl⟩:=ay ho4
     have hA4:=hA3.app2 hB hv2 (by decide) ho4 hg4
     clear ho4 hg4
     simp only [Act.put,nz]
     have hS4:=hSB _ hA4.kb
     refine ⟨SX.mk hS4.1 hS4.2,?_⟩
     have hAP:=hPK _ hA4.kb
     have c1W:=hAP.cell 2 (by decide)
     have f1W:=hAP.free 2 (by decide)
     refine WX.tk 16 (SX.mk hS4.1 hS4.2) ?_
     refine WX.tk 17 (SX.mk hS4.1 hS4.2) ?_
     refine WX.on 18 ?_
     go_wp2_with fail
     have hAQ:=hAP.set 2 (by decide) (Value.slice vo3 (os.length + 1) vc3)
     have hSQ:=And.intro (hAQ.cell 3 (by decide)) (And.intro (fP (p:=⟨g,2,none⟩) hS4.1.2.1 hgo (Value.slice vo3 (os.length + 1) vc3)) (fP (p:=⟨g,2,none⟩) hS4.1.2.2 hgi (Value.slice vo3 (os.length + 1) vc3)))
     have c2W:=hAQ.cell 3 (by decide)
     have f2W:=hAQ.free 3 (by decide)
     refine ⟨SX.done hSQ (by decide +kernel),?_⟩
     refine WX.tk 19 (SX.done hSQ (by decide +kernel)) ?_
     refine WX.tk 20 (SX.done hSQ (by decide +kernel)) ?_
     refine WX.la 21 ?_
     go_wp2_with fail
     have hAZ:=hAQ.set 3 (by decide) (Value.slice vo4 (os.length + 1) vc4)
     have HS9:=ah (HNXT.out _ _ _ hA4)
     go_wp2_with fail
     go_roundw
     case rel => exact ⟨os ++ [o],_,_,by rw [List.length_append];go_num,HFN,HS9.out⟩
     case measure => simp [intOf];omega
   have HNO:Hid (aV l = none):=ah (by rw [HFA.out];exact HNOF.out hrd)
   clear hrd
   refine wbq ?_
   repeat (go_big_quiet_step (fail))
   refine wpQuiet_nil ?_
   intro wq hbq
   have HSQ:=ah (HS5.out.below hbq)
   clear hbq
   go_wp2_with fail
   go_ret
   exact wu HNO.out (HGR.out.trans HSQ.out.gr)
  have he:os.length = ts.length:=by omega
  have HYE:Hid (aV l = some os):=ah (by rw [HFA.out];exact Dw hF.out he)
  have d2:¬ (os.length:Int) < ts.length:=by omega
  clear he
  go_wp2_with fail
  go_ret
  exact JW HYE.out HGR.out HS.out
def PkAt (w:World) (g:Nat) (p:Pk):Prop:=∃ vp vs vi vo,Arr w g 4 (paC vp vs vi vo) ∧ dQ w vp (p.parts.map (·.1)) ∧ fD w vs (p.parts.map (·.2)) ∧ bD w vi (p.obs.map idO) ∧ dD w vo p.obs
theorem PkAt.below {w w':World} {g:Nat} {p:Pk} (h:PkAt w g p) (hb:Below w.heap.size w w'):PkAt w' g p:=by
 obtain ⟨vp,vs,vi,vo,h1,h2,h3,h4,h5⟩:=h
 exact ⟨vp,vs,vi,vo,h1.below hb (h1.lt (by omega)),h2.below hb,h3.below hb,h4.below hb,h5.below hb⟩
theorem PkAt.lt {w:World} {g:Nat} {p:Pk} (h:PkAt w g p):g < w.heap.size:=by
 obtain ⟨vp,vs,vi,vo,h1,_⟩:=h
 exact h1.lt (show 0 < 4 by omega)
def Ho (b:ByteArray) (w:World) (e:Ending) (w':World):Prop :=
 (match dJ b with
 | none => e = .returned (.tuple #[.pointer none,.int .i64 2])
 | some p => ∃ g,e = .returned (.tuple #[.pointer (some ⟨g,0,none⟩),.int .i64 0]) ∧ PkAt w' g p ∧ w.heap.size ≤ g) ∧ Below w.heap.size w w'
theorem pR {b:ByteArray} {w w':World} (h:dJ b = none) (hb:Below w.heap.size w w'):Ho b w (.returned (.tuple #[.pointer none,.int .i64 2])) w':=⟨by rw [h],hb⟩
theorem Jv {b:ByteArray} {p:Pk} {g:Nat} {w w':World} (h:dJ b = some p) (hp:PkAt w' g p) (hg:w.heap.size ≤ g) (hb:Below w.heap.size w w'):Ho b w (.returned (.tuple #[.pointer (some ⟨g,0,none⟩),.int .i64 0])) w':=⟨by rw [h];exact ⟨g,rfl,hp,hg⟩,hb⟩
theorem rU (s:ByteArray):dJ s = match bK s.data.toList with
 | none => none
 | some l => if (hdP (Rd.mk (ofB l) 0 0)).2.2 = false then none else
   if (Rd.parts (hdP (Rd.mk (ofB l) 0 0)).2.1 0 (hdP (Rd.mk (ofB l) 0 0)).1).2.length ≠ (hdP (Rd.mk (ofB l) 0 0)).2.1 ∨ (Rd.parts (hdP (Rd.mk (ofB l) 0 0)).2.1 0 (hdP (Rd.mk (ofB l) 0 0)).1).1.fin ≠ 0 then none else
    (aV ((Rd.parts (hdP (Rd.mk (ofB l) 0 0)).2.1 0 (hdP (Rd.mk (ofB l) 0 0)).1).2.map (·.1))).map fun os => ⟨(Rd.parts (hdP (Rd.mk (ofB l) 0 0)).2.1 0 (hdP (Rd.mk (ofB l) 0 0)).1).2,os⟩:=by
 unfold dJ
 cases bK s.data.toList with
 | none => rfl
 | some l =>
  dsimp only
  unfold eB hdP
  generalize hr:(Rd.mk (ofB l) 0 0).raw 4 = x
  obtain ⟨r1,t⟩:=x
  dsimp only
  by_cases h1:t.data.toList ≠ spk1
  ·rw [if_pos (.inr h1),if_pos h1]
   rfl
  have he:r1.err = 0:=by
   unfold Rd.raw at hr
   rw [if_neg (fun h => h rfl)] at hr
   split at hr
   ·cases hr
    exact absurd (show ByteArray.empty.data.toList = spk1 from Decidable.of_not_not h1) (by decide)
   cases hr;rfl
  have hor:¬(r1.err ≠ 0 ∨ t.data.toList ≠ spk1):=fun h => h.elim (fun h => h he) h1
  rw [if_neg hor,if_neg h1]
  dsimp only
  by_cases h2:(r1.num 200).1.err = 0
  ·rw [if_neg (by omega),if_neg (by rw [decide_eq_true h2];decide)]
   dsimp only
   split
   ·rfl
   unfold aV
   cases cu _ with
   | inl e => rfl
   | inr ts => rfl
  rw [if_pos h2,if_pos (by rw [decide_eq_false h2])]
theorem nT:∀ (n i:Nat) (r:Rd),(Rd.parts n i r).1.fin = 0 → (Rd.parts n i r).2.length = n
 | 0,_,_,_ => rfl
 | n + 1,i,r,h => by
  unfold Rd.parts at h ⊢
  split
  ·rename_i he
   rw [if_pos he] at h
   exact absurd h (GU he)
  rename_i he
  rw [if_neg he] at h
  show (Rd.parts n (i + 1) (r.part i).1).2.length + 1 = n + 1
  rw [nT n (i + 1) _ h]
theorem aK.offG {w w':World} {v:Value} {sz g:Nat} {rows:List (List Value)} (h:aK w v sz rows) (hg:w.grownBy w' (some g)) (hn:v.ownBlock ≠ some g):aK w' v sz rows:=by
 obtain ⟨ao,cap,rfl,hm,h2⟩:=h
 refine ⟨ao,cap,rfl,hm,fun hne => ?_⟩
 obtain ⟨b,off,rfl,hb,hc⟩:=h2 hne
 exact ⟨b,off,rfl,Nat.lt_of_lt_of_le hb hg.size,fun i hi => dX (hc i hi) hg (fun e => hn (by rw [e];rfl))⟩
theorem dQ.offG {w w':World} {v:Value} {g:Nat} {l:List Pt} (h:dQ w v l) (hg:w.grownBy w' (some g)) (hn:v.ownBlock ≠ some g):dQ w' v l:=aK.offG h hg hn
theorem fD.offG {w w':World} {v:Value} {g:Nat} {l:List Nat} (h:fD w v l) (hg:w.grownBy w' (some g)) (hn:v.ownBlock ≠ some g):fD w' v l:=aK.offG h hg hn
theorem K5 (a:Addr) (w:World):(Instr.build 169 #[(0,.pointer (some a))]).run prog w = .ok (.agg #[.pointer (some a),.slice none 0 0,.slice none 0 0]) w:=run_build w 169 _ _ (by kernel_rfl)
theorem Lh (x y:Option Addr) (a b c d:Nat) (w:World):(Instr.build 174 #[(0,.slice x a b),(1,.slice y c d)]).run prog w = .ok (.agg #[.slice x a b,.slice y c d,.slice none 0 0,.slice none 0 0]) w:=run_build w 174 _ _ (by kernel_rfl)
theorem Ja (b:ByteArray) (w:World) (hb:b.size ≤ 1000000) (hG:Glob w):Calls prog 37 #[.string b] w (Ho b w):=by
 have HG:=ah hG
 have HUN:=ah (oh b w hG.crc (by omega))
 have HOP:=ah (rU b)
 clear hG
 cases hu:bK b.data.toList with
 | none =>
  have e1:unS b = ⟨#[]⟩:=by unfold unS;rw [hu];rfl
  have e2:unOk b = false:=by unfold unOk;rw [hu];rfl
  rw [e1,e2] at HUN
  rw [hu] at HOP
  have HNO:Hid (dJ b = none):=HOP
  clear hu e1 e2 HOP
  go_enter func37,ntmps37
  go_wp2_with fail
  refine HUN.out.mono ?_
  rintro e w1 ⟨rfl,hb1⟩
  go_wp2_with fail
  go_ret2
  exact pR HNO.out hb1
 | some l =>
  have e1:unS b = ofB l:=by unfold unS;rw [hu];rfl
  have e2:unOk b = true:=by unfold unOk;rw [hu];rfl
  have hll:(ofB l).size ≤ 1000000:=by
   rw [aM]
   unfold bK at hu
   split at hu
   ·cases hu
    rw [List.length_take]
    have:b.data.toList.length = b.size:=by simp
    omega
   cases hu
  rw [e1,e2] at HUN
  rw [hu] at HOP
  dsimp only at HOP
  have hf0:(Rd.mk (ofB l) 0 0).fine:=⟨Nat.zero_le _,hll,Nat.zero_le _⟩
  have HF1:=ah (Mt _ hf0)
  have hn2:=OX (Rd.mk (ofB l) 0 0)
  have HF0:=ah hf0
  clear hu e1 e2 hf0 hll
  generalize ofB l = s at HUN HOP HF1 HF0 hn2
  have HHD:=ah (fun pk rb vp vs w h1 h2 h3 => Je pk rb (Rd.mk s 0 0) vp vs w h1 h2 HF0.out h3)
  generalize (hdP (Rd.mk s 0 0)).2.1 = n at HHD HOP hn2
  generalize (hdP (Rd.mk s 0 0)).2.2 = ok at HHD HOP
  generalize (hdP (Rd.mk s 0 0)).1 = r1 at HHD HOP HF1
  have hbt:=K5
  go_enter func37,ntmps37
  go_wp2_with fail
  refine HUN.out.mono ?_
  rintro e w1 ⟨rfl,hb1⟩
  have HB1:=ah hb1
  have HNR:=ah (kE s w1)
  clear hb1
  go_wp2_with fail
  refine HNR.out.mono ?_
  rintro e w2 ⟨rfl,rfl⟩
  obtain ⟨W3,hW3⟩:∃ W,(w1.alloc (.cells #[.string s,.int .i64 0,.int .i64 0] 245)).alloc (.cells #[.pointer (some ⟨w1.heap.size,0,none⟩),.slice none 0 0,.slice none 0 0] 169) = W:=⟨_,rfl⟩
  have hb13:Below w1.heap.size w1 W3:=by rw [← hW3];exact bal.alloc (by simp) _
  have HB3:Hid (Below w.heap.size w W3):=bth HB1 hb13
  have HR3:Hid (Arr W3 w1.heap.size 3 (Rd.mk s 0 0).c):=ah (by
   rw [← hW3]
   have h1:=(Arr.ofList w1 [.string s,.int .i64 0,.int .i64 0] 245).congr (d:=(Rd.mk s 0 0).c) fun k hk => by
    obtain h | h | h:k = 0 ∨ k = 1 ∨ k = 2:=by simp at hk;omega
    all_goals subst h;rfl
   exact Arr.below h1 bal (by simp))
  have HP3:Hid (Arr W3 (w1.heap.size + 1) 3 (pkC w1.heap.size (.slice none 0 0) (.slice none 0 0))):=ah (by
   rw [← hW3]
   have:=(Arr.ofList (w1.alloc (.cells #[.string s,.int .i64 0,.int .i64 0] 245)) [.pointer (some ⟨w1.heap.size,0,none⟩),.slice none 0 0,.slice none 0 0] 169).congr (d:=pkC w1.heap.size (.slice none 0 0) (.slice none 0 0)) fun k hk => by
    obtain h | h | h:k = 0 ∨ k = 1 ∨ k = 2:=by simp at hk;omega
    all_goals subst h;rfl
   rw [World.size_alloc] at this
   exact this)
  have HC3:=ah (HHD.out (w1.heap.size + 1) w1.heap.size _ _ W3 HP3.out HR3.out (by omega))
  have HW3:=ah hW3
  clear hW3 hb13
  go_upto_region 5 with fail
  rw [HW3.out]
  go_wp2_with fail
  refine HC3.out.mono ?_
  rintro e w4 ⟨rfl,hr4,hg4⟩
  have HR4:=ah hr4
  have HP4:=ah (HP3.out.grown hg4 (by omega))
  have HB4:Hid (Below w.heap.size w w4):=ah (HB3.out.grown hg4 HB3.out.size (fun k hk => by cases hk;exact HB1.out.size))
  have HRD:=ah (I7 w1.heap.size (w1.heap.size + 1) w1.heap.size n r1 w4 HP4.out HR4.out HF1.out hn2 (by omega) (Nat.le_refl _) (by omega))
  clear hr4 hg4
  go_wp2_with fail
  refine HRD.out.mono ?_
  rintro e w5 ⟨rfl,r,ps,vp,vs,hps,hS⟩
  rw [hps] at HOP
  have HB5:Hid (Below w.heap.size w w5):=ah (HB4.out.trans (hS.bel.mono HB1.out.size))
  obtain ⟨po,pc,rfl⟩:=ay hS.o1
  obtain ⟨so,sc,rfl⟩:=ay hS.o2
  have HS:=ah hS
  have hpl:=hS.pk.lt (show 0 < 3 by omega)
  have c1:w5.cell? ⟨w1.heap.size + 1,1,none⟩ = some (.slice po ps.length pc):=hS.pk.cell 1 (by decide)
  have c2:w5.cell? ⟨w1.heap.size + 1,2,none⟩ = some (.slice so ps.length sc):=hS.pk.cell 2 (by decide)
  have HVP:=ah (dQ.aS (B:=w4.heap.size + 1) (l:=ps.map (·.1)) (v:=.slice po ps.length pc) (w:=w5) (by rw [List.length_map];exact hS.o1))
  have HVS:=ah (fD.aS (B:=w4.heap.size + 1) (l:=ps.map (·.2)) (v:=.slice so ps.length sc) (w:=w5) (by rw [List.length_map];exact hS.o2))
  have hbp:=Lh
  have hpn:Hid ((Rd.parts n 0 r1).1.fin = 0 → (Rd.parts n 0 r1).2.length = n):=ah (nT n 0 r1)
  rw [hps] at hpn
  clear hS hps
  go_upto_region 7 with fail
  refine dL 9 (by kernel_rfl) (by kernel_rfl) ?_
  simp only [List.take_succ_cons,List.take_zero,List.drop_succ_cons,List.drop_zero]
  have LQ0:=blq c1
  have LQ1:=blq c2
  repeat (go_big_quiet_step (fail))
  refine wpQuiet_nil ?_
  intro wq hbq
  clear LQ0 LQ1
  obtain ⟨W7,hW7⟩:∃ W,wq.alloc (.cells #[.slice po ps.length pc,.slice so ps.length sc,.slice none 0 0,.slice none 0 0] 174) = W:=⟨_,rfl⟩
  have hb7:Below w5.heap.size w5 W7:=by rw [← hW7];exact hbq.alloc hbq.size _
  have HA7:Hid (Arr W7 wq.heap.size 4 (paC (.slice po ps.length pc) (.slice so ps.length sc) (.slice none 0 0) (.slice none 0 0))):=ah (by
   rw [← hW7]
   exact (Arr.ofList wq [.slice po ps.length pc,.slice so ps.length sc,.slice none 0 0,.slice none 0 0] 174).congr fun k hk => by
    obtain h | h | h | h:k = 0 ∨ k = 1 ∨ k = 2 ∨ k = 3:=by simp at hk;omega
    all_goals subst h;rfl)
  have HB7:Hid (Below w.heap.size w W7):=bth HB5 hb7
  have HVP7:=ah (HVP.out.below hb7)
  have HVS7:=ah (HVS.out.below hb7)
  have HRB7:=ah (HS.out.rb.below hb7 (HS.out.rb.lt (by omega)))
  have c0:W7.cell? ⟨w1.heap.size + 1,0,none⟩ = some (.pointer (some ⟨w1.heap.size,0,none⟩)):=ak (HS.out.pk.cell 0 (by decide)) hb7 hpl
  have HGQ:Hid (w.heap.size ≤ wq.heap.size):=ah (by have:=HB5.out.size;have:=hbq.size;omega)
  have HEN:=ah (kF w1.heap.size r W7 HRB7.out HS.out.fine)
  have HNP:Hid ((Value.slice po ps.length pc).ownBlock ≠ some wq.heap.size):=ah fun e => by have:=(HS.out.o1.lt _ e).2;have:=hbq.size;omega
  have HNS:Hid ((Value.slice so ps.length sc).ownBlock ≠ some wq.heap.size):=ah fun e => by have:=(HS.out.o2.lt _ e).2;have:=hbq.size;omega
  have HW7:=ah hW7
  clear hW7 hbq hb7 c1 c2 HVP HVS
  go_upto_region 8 with fail
  rw [HW7.out]
  cases ok with
  | false =>
   rw [if_pos rfl] at HOP
   go_wp2_with fail
   go_ret2
   exact pR HOP.out HB7.out
  | true =>
   rw [if_neg (by decide)] at HOP
   go_wp2_with fail
   refine HEN.out.mono ?_
   rintro e w8 ⟨rfl,hb8⟩
   have HB8:=bth HB7 hb8
   have HA8:=ah (HA7.out.below hb8 (HA7.out.lt (by omega)))
   have HVP8:=ah (HVP7.out.below hb8)
   have HVS8:=ah (HVS7.out.below hb8)
   have HGL8:=ah (HG.out.below HB8.out)
   clear hb8 HEN HA7 HVP7 HVS7 HRB7 c0
   by_cases hfin:r.fin = 0
   ·have d1:((r.fin:Int) != 0) = false:=by rw [bne_eq_false_iff_eq];omega
    have HOP2:Hid (dJ b = (aV (ps.map (·.1))).map fun os => ⟨ps,os⟩):=ah (by
     rw [HOP.out,if_neg]
     rintro (h | h)
     ·exact h (hpn.out hfin)
     exact h hfin)
    have HFL:=ah (Jg wq.heap.size _ _ (ps.map (·.1)) w8 HA8.out HVP8.out HS.out.ok HGL8.out (by have:=HGQ.out;have:=HG.out.laid.lt;omega))
    clear hfin HOP hpn
    go_wp2_with fail
    refine HFL.out.mono ?_
    rintro e w9 hans
    unfold Hu at hans
    have HB9:Hid (Below w.heap.size w w9):=ah (HB8.out.grown hans.2 HB8.out.size (fun k hk => by cases hk;exact HGQ.out))
    cases hfa:aV (ps.map (·.1)) with
    | none =>
     rw [hfa] at hans HOP2
     dsimp only at hans
     obtain ⟨rfl,hg⟩:=hans
     have HNO:Hid (dJ b = none):=HOP2
     clear hg hfa
     go_wp2_with fail
     go_ret2
     exact pR HNO.out HB9.out
    | some os =>
     rw [hfa] at hans HOP2
     dsimp only at hans
     obtain ⟨⟨rfl,vi,vo,h1,h2,h3⟩,hg⟩:=hans
     have HYE:Hid (dJ b = some ⟨ps,os⟩):=HOP2
     have HGQ2:Hid (wq.heap.size < w8.heap.size):=ah (HA8.out.lt (show 0 < 4 by omega))
     have HPK:Hid (PkAt w9 wq.heap.size ⟨ps,os⟩):=ah ⟨_,_,vi,vo,h1,dQ.offG HVP8.out hg HNP.out,fD.offG HVS8.out hg HNS.out,h2,h3⟩
     clear hg hfa h1 h2 h3
     go_wp2_with fail
     go_ret2
     exact Jv HYE.out HPK.out HGQ.out HB9.out
   have d1:((r.fin:Int) != 0) = true:=by rw [bne_iff_ne];omega
   have HNO:Hid (dJ b = none):=ah (by rw [HOP.out,if_pos (.inr hfin)])
   clear hfin HOP hpn
   go_wp2_with fail
   go_ret2
   exact pR HNO.out HB8.out
theorem gV {fn:Func} {t u v x y:Tmp} (h:fn.results = #[.tmp t,.tmp u,.tmp v,.tmp x,.tmp y]) (tmps:Array Value) (P:Program) (w:World) :
  (results fn tmps).run P w = .ok (.tuple #[tmps.getD t undef,tmps.getD u undef,tmps.getD v undef,tmps.getD x undef,tmps.getD y undef]) w:=by
 simp [results,h]
def DY (s:ByteArray) (w:World) (e:Ending) (w':World):Prop :=
 (match eB s with
 | none => e = .returned (.tuple #[.slice none 0 0,.slice none 0 0,.int .i64 0,.int .i64 0,.bool false])
 | some x => ∃ vp vs at0,e = .returned (.tuple #[vp,vs,.int .i64 (x.1:Int),.int .i64 at0,.bool true]) ∧ dQ w' vp (x.2.2.map (·.1)) ∧ fD w' vs (x.2.2.map (·.2)) ∧ PtOk (x.2.2.map (·.1)) ∧ x.2.2.length ≤ x.1 ∧ x.1 ≤ 200 ∧ x.2.1.fine ∧ x.2.1.s = s ∧ (x.2.2.length = x.1 → at0 = (x.2.1.pos:Int) ∧ x.2.1.err = 0) ∧ bB w vp ∧ bB w vs) ∧ Below w.heap.size w w'
theorem uJ {s:ByteArray} {w w':World} (h:eB s = none) (hb:Below w.heap.size w w'):DY s w (.returned (.tuple #[.slice none 0 0,.slice none 0 0,.int .i64 0,.int .i64 0,.bool false])) w':=⟨by rw [h],hb⟩
theorem yB {s:ByteArray} {n:Nat} {r:Rd} {ps:List (Pt × Nat)} {vp vs:Value} {at0:Int} {w w':World} (h:eB s = some (n,r,ps)) (h1:dQ w' vp (ps.map (·.1))) (h2:fD w' vs (ps.map (·.2))) (h3:PtOk (ps.map (·.1))) (h4:ps.length ≤ n) (h5:n ≤ 200) (h6:r.fine) (h7:r.s = s) (h8:ps.length = n → at0 = (r.pos:Int) ∧ r.err = 0) (hf1:bB w vp) (hf2:bB w vs) (hb:Below w.heap.size w w') :
  DY s w (.returned (.tuple #[vp,vs,.int .i64 (n:Int),.int .i64 at0,.bool true])) w':=⟨by rw [h];exact ⟨vp,vs,at0,rfl,h1,h2,h3,h4,h5,h6,h7,h8,hf1,hf2⟩,hb⟩
theorem EK {s:ByteArray} (h:s.size < 4):eB s = none:=by
 unfold eB
 have h1:((Rd.mk s 0 0).raw 4).1.err ≠ 0:=by
  unfold Rd.raw
  rw [if_neg (fun h => h rfl),if_pos (by show s.size - 0 < 4;omega)]
  show (3:Nat) ≠ 0
  omega
 rw [if_pos (.inl h1)]
theorem yI {s:ByteArray} (h:4 ≤ s.size):(Rd.mk s 0 0).raw 4 = (⟨s,4,0⟩,s.extract 0 4):=by
 unfold Rd.raw
 rw [if_neg (fun h => h rfl),if_neg (by show ¬ s.size - 0 < 4;omega)]
theorem Jl {s:ByteArray} (h:4 ≤ s.size) (hn:s.extract 0 4 ≠ spkB):eB s = none:=by
 unfold eB
 rw [yI h,if_pos (.inr fun e => hn (ba_eq (by rw [e];rfl)))]
theorem ET {s:ByteArray} (h:4 ≤ s.size) (hn:s.extract 0 4 = spkB):eB s = if ((Rd.mk s 4 0).num 200).1.err ≠ 0 then none else some (((Rd.mk s 4 0).num 200).2,Rd.parts ((Rd.mk s 4 0).num 200).2 0 ((Rd.mk s 4 0).num 200).1):=by
 unfold eB
 rw [yI h,if_neg]
 rintro (h2 | h2)
 ·exact h2 rfl
 exact h2 (by dsimp only;rw [hn];rfl)
theorem OO (r:Rd) (i:Nat):(r.part i).1.s = r.s:=by
 have h:∀ (r:Rd) (m:Nat),(r.text m).1.s = r.s:=by
  intro r m
  unfold Rd.text
  split
  ·rfl
  split
  ·show ((r.num m).1.raw (r.num m).2).1.s = r.s
   rw [Rd.uQ,Rd.kL]
  rw [Rd.uQ,Rd.kL]
 show ((r.num 200).1.text 65536).1.s = r.s
 rw [h,Rd.kL]
theorem KW (s:ByteArray) (w:World):(Instr.build 228 #[(0,.string s),(1,.int .i64 4)]).run prog w = .ok (.agg #[.string s,.int .i64 4,.int .i64 0]) w:=run_build w 228 _ _ (by kernel_rfl)
structure RkSt (w:World) (r:Rd) (ps:List (Pt × Nat)) (vp vs:Value) (wr:World):Prop where
 rb:Arr wr w.heap.size 3 r.c
 fine:r.fine
 o1:wr.ownsRow (w.heap.size + 1) 247 3 vp ps.length (ptsF (ps.map (·.1)))
 o2:wr.ownsRow (w.heap.size + 1) 3 1 vs ps.length (ksV (ps.map (·.2)))
 bel:Below w.heap.size w wr
 ok:PtOk (ps.map (·.1))
 lt:w.heap.size < wr.heap.size
theorem RkSt.fr1 {w:World} {r:Rd} {ps:List (Pt × Nat)} {vp vs:Value} {wr:World} (h:RkSt w r ps vp vs wr):bB w vp:=fun g hg => by have:=(h.o1.lt g hg).1;omega
theorem RkSt.fr2 {w:World} {r:Rd} {ps:List (Pt × Nat)} {vp vs:Value} {wr:World} (h:RkSt w r ps vp vs wr):bB w vs:=fun g hg => by have:=(h.o2.lt g hg).1;omega
theorem RkSt.below {w wr w':World} {r:Rd} {ps:List (Pt × Nat)} {vp vs:Value} (h:RkSt w r ps vp vs wr) (hb:Below wr.heap.size wr w'):RkSt w r ps vp vs w' :=
 ⟨h.rb.below hb h.lt,h.fine,own_below h.o1 hb,own_below h.o2 hb,h.bel.trans (hb.mono (Nat.le_of_lt h.lt)),h.ok,Nat.lt_of_lt_of_le h.lt hb.size⟩
theorem RkSt.read {w wr w':World} {r r':Rd} {ps:List (Pt × Nat)} {vp vs:Value} (h:RkSt w r ps vp vs wr) (hA:Arr w' w.heap.size 3 r'.c) (hf:r'.fine) (hg:wr.grownBy w' (some w.heap.size)):RkSt w r' ps vp vs w' :=
 ⟨hA,hf,bC h.o1 hg (by omega),bC h.o2 hg (by omega),h.bel.grown hg (Nat.le_of_lt h.lt) (fun k hk => by cases hk;exact Nat.le_refl _),h.ok,Nat.lt_of_lt_of_le h.lt hg.size⟩
theorem RkSt.row1 {w wr:World} {r:Rd} {ps:List (Pt × Nat)} {vp vs:Value} (h:RkSt w r ps vp vs wr):dQ wr vp (ps.map (·.1)):=dQ.aS (by rw [List.length_map];exact h.o1)
theorem RkSt.row2 {w wr:World} {r:Rd} {ps:List (Pt × Nat)} {vp vs:Value} (h:RkSt w r ps vp vs wr):fD wr vs (ps.map (·.2)):=fD.aS (by rw [List.length_map];exact h.o2)
theorem rP (s:ByteArray) (w:World) (hs:s.size ≤ 1000000):Calls prog 84 #[.string s] w (DY s w):=by
 by_cases h4:s.size < 4
 ·have HNO:=ah (EK h4)
  have d1:(s.size:Int) < 4:=by omega
  go_enter func84,ntmps84
  go_wp2_with fail
  (try simp only [Exit.inBlock,Exit.then])
  refine bodyPost_ret (gV rfl _ _ _) rfl ?_
  exact uJ HNO.out (Below.refl _ _)
 have d1:¬ (s.size:Int) < 4:=by omega
 have d1b:(4:Int) ≤ (s.size:Int):=by omega
 have f0:((s.extract 0 4).toList == spkB.toList) = decide (s.extract 0 4 = spkB):=iG _ _
 rw [l9] at f0
 have HBD:=ah (Jl (s:=s) (by omega))
 have HGD:=ah (ET (s:=s) (by omega))
 have HSL:∀ w,(Instr.slice 9 (.string s) none (some (.int .i64 4)) none).run prog w = .ok (.string (s.extract 0 4)) w:=fun w => by
  have h5:(4:Int) ≤ s.size:=by omega
  simp [Instr.slice,run_underlying underlying9,Instr.sliceBounds,Instr.sliceBound,asIntOf,h5]
 generalize s.extract 0 4 = t at f0 HBD HGD HSL
 have hbt:=KW
 by_cases ht:t = spkB
 ·rw [decide_eq_true ht] at f0
  have HPS:=ah (HGD.out ht)
  have hf0:(Rd.mk s 4 0).fine:=⟨by show 4 ≤ s.size;omega,hs,Nat.zero_le _⟩
  have hn2:=gY (Rd.mk s 4 0) 200
  have HF1:=ah (Rd.aT _ 200 hf0).1
  have HS1:Hid (((Rd.mk s 4 0).num 200).1.s = s):=ah (Rd.kL _ _)
  have HA0:Hid (Arr (w.alloc (.cells #[.string s,.int .i64 4,.int .i64 0] 228)) w.heap.size 3 (Rd.mk s 4 0).c):=ah ((Arr.ofList w [.string s,.int .i64 4,.int .i64 0] 228).congr fun k hk => by
   obtain h | h | h:k = 0 ∨ k = 1 ∨ k = 2:=by simp at hk;omega
   all_goals subst h;rfl)
  have HB0:Hid (Below w.heap.size w (w.alloc (.cells #[.string s,.int .i64 4,.int .i64 0] 228))):=ah bal
  have HL0:Hid (w.heap.size < (w.alloc (.cells #[.string s,.int .i64 4,.int .i64 0] 228)).heap.size):=ah (by simp)
  have HNM:=ah (gQ w.heap.size (Rd.mk s 4 0) 200 _ HA0.out hf0 (by decide))
  generalize ((Rd.mk s 4 0).num 200).1 = r0 at HNM HPS HF1 HS1
  generalize ((Rd.mk s 4 0).num 200).2 = n at HNM HPS hn2
  clear ht hf0 HGD HBD
  go_enter func84,ntmps84
  go_wp2_with fail
  refine HNM.out.mono ?_
  rintro e w2 ⟨rfl,hA2,hg2⟩
  have HST:Hid (RkSt w r0 [] (.slice none 0 0) (.slice none 0 0) w2):=ah ⟨hA2,HF1.out,World.ownsRow_nil _ _ _ _,World.ownsRow_nil _ _ _ _,HB0.out.grown hg2 HB0.out.size (fun k hk => by cases hk;exact Nat.le_refl _),fun p hp => (by cases hp),Nat.lt_of_lt_of_le HL0.out hg2.size⟩
  have c2:w2.cell? ⟨w.heap.size,2,none⟩ = some (.int .i64 (r0.err:Int)):=hA2.cell 2 (by decide)
  clear hA2 hg2
  by_cases herr:r0.err = 0
  ·have d2:((r0.err:Int) != 0) = false:=by rw [bne_eq_false_iff_eq];omega
   have HPS2:Hid (eB s = some (n,Rd.parts n 0 r0)):=ah (by rw [HPS.out,if_neg (by omega)])
   have HER:=ah herr
   clear herr
   go_wp2_with fail
   clear c2
   go_loopw [9,10,11,12,13,14,15] (fun vp vs i _ _ _ _ wr => ∃ (r:Rd) (ps:List (Pt × Nat)),i = .int .i64 (ps.length:Int) ∧ RkSt w r ps vp vs wr ∧ Hid (xC r0 n r ps) ∧ Hid (r.err = 0) ∧ Hid (r.s = s)) (fun _ _ i _ _ _ _ _ => (n - intOf i).toNat)
   case atStart => exact ⟨r0,[],rfl,HST.out,ah ⟨by rw [DX];rfl,Nat.zero_le _⟩,HER,HS1⟩
   obtain ⟨r,ps,rfl,hS,hR,he,hrs⟩:=hrel
   obtain ⟨po,pc,rfl⟩:=ay hS.o1
   obtain ⟨so,sc,rfl⟩:=ay hS.o2
   have HS:=ah hS
   have hln:=hR.out.2
   have c1:wr.cell? ⟨w.heap.size,1,none⟩ = some (.int .i64 (r.pos:Int)):=hS.rb.cell 1 (by decide)
   have hlw:=hS.lt
   clear hS
   by_cases hlt:ps.length < n
   ·have i0:(0:Int) ≤ ps.length:=by omega
    have i1:(ps.length:Int) < (n:Int):=by omega
    have wi:IntKind.i64.wrap ((ps.length:Int) + 1) = (ps.length:Int) + 1:=by rw [IntKind.wrap_i64];omega
    have HN0:=ah (Rd.aT r 200 HS.out.fine).1
    have HNR:=ah (gQ w.heap.size r 200 wr HS.out.rb HS.out.fine (by decide))
    have HPA:Hid (r.part ps.length = (((r.num 200).1.text 65536).1,⟨decide (0 < (r.num 200).2),if 0 < (r.num 200).2 then (ps.length:Int) - ((r.num 200).2:Int) else 0,((r.num 200).1.text 65536).2⟩)):=ah rfl
    have HPO:=ah (Gt r ps.length (by omega))
    have HPS3:=ah (OO r ps.length)
    have hnl:=gY r 200
    generalize (r.num 200).1 = r1 at HNR HN0 HPA
    generalize (r.num 200).2 = far at HNR HPA hnl
    go_wp2_with fail
    refine HNR.out.mono ?_
    rintro e w3 ⟨rfl,hA3,hg3⟩
    have HS3:=ah (HS.out.read hA3 HN0.out hg3)
    have HTX:=ah (jv w.heap.size r1 65536 w3 HS3.out.rb HN0.out (by decide))
    have HT0:Hid (r1.text 65536).1.fine:=ah (Rd.dK _ _ HN0.out)
    generalize (r1.text 65536).1 = r2 at HTX HPA HT0
    generalize (r1.text 65536).2 = t2 at HTX HPA
    clear hA3 hg3 HNR c1
    go_wp2_with fail
    refine HTX.out.mono ?_
    rintro e w4 ⟨rfl,hA4,hg4⟩
    have HS4:=ah (HS3.out.read hA4 HT0.out hg4)
    have c4:w4.cell? ⟨w.heap.size,2,none⟩ = some (.int .i64 (r2.err:Int)):=hA4.cell 2 (by decide)
    have HRX:Hid (n - ps.length = (n - (ps.length + 1)) + 1):=ah (by omega)
    clear hA4 hg4 HTX HS3
    by_cases herr:r2.err = 0
    ·have d3:((r2.err:Int) != 0) = false:=by rw [bne_eq_false_iff_eq];omega
     have HE2:=ah herr
     have HNX:Hid (xC r0 n r2 (ps ++ [((r.part ps.length).2,r.pos)])):=ah ⟨by
      have h1:=hR.out.1
      rw [HRX.out,uZ ps (by rw [HPA.out];exact herr)] at h1
      rw [h1,HPA.out,List.length_append];rfl,by rw [List.length_append];simp only [List.length_cons,List.length_nil];omega⟩
     have HR2S:Hid (r2.s = s):=ah (by have:=HPS3.out;rw [HPA.out] at this;exact this.trans hrs.out)
     clear herr
     have HOK1:=ah HPO.out
     obtain ⟨pt,hpt⟩:∃ pt,(r.part ps.length).2 = pt:=⟨_,rfl⟩
     rw [hpt] at HNX HOK1
     have HPT:Hid (pt = ⟨decide (0 < far),if 0 < far then (ps.length:Int) - (far:Int) else 0,t2⟩):=ah (by rw [← hpt,HPA.out])
     clear hpt HPA HPO HPS3
     by_cases hfar:0 < far
     ·
      have HPE:Hid (ptF pt = [.bool true,.int .i64 ((ps.length:Int) - (far:Int)),.string t2]):=ah (by rw [HPT.out,decide_eq_true hfar,if_pos hfar];rfl)
      have d5:(0:Int) < (far:Int):=by omega
      have wf:IntKind.i64.wrap ((ps.length:Int) - (far:Int)) = (ps.length:Int) - (far:Int):=by rw [IntKind.wrap_i64];omega
      clear hfar
      obtain ⟨X,hX⟩:∃ X,(w4.alloc (.cells #[.bool true,.int .i64 ((ps.length:Int) - (far:Int)),.string t2] 247)).alloc (.cells #[.bool true,.int .i64 ((ps.length:Int) - (far:Int)),.string t2] 247) = X:=⟨_,rfl⟩
      have hbX:Below w4.heap.size w4 X:=by rw [← hX];exact bal.alloc (by simp) _
      have HSX:=ah (HS4.out.below hbX)
      have HRG:Hid (X.rangeAt (w4.heap.size + 1) 0 [.bool true,.int .i64 ((ps.length:Int) - (far:Int)),.string t2]):=ah (by
       have:=(BoxL.new (w4.alloc (.cells #[.bool true,.int .i64 ((ps.length:Int) - (far:Int)),.string t2] 247)) 247 [.bool true,.int .i64 ((ps.length:Int) - (far:Int)),.string t2]).range
       rw [World.size_alloc] at this
       rw [← hX];exact this)
      have HX:=ah hX
      clear hX hbX
      go_wp2_with (rw [HX.out];refine dR _ rfl _ _ rfl (w.heap.size + 1) (.slice po ps.length pc) ps.length (ptsF (ps.map (·.1))) rfl HSX.out.o1 (w4.heap.size + 1) pt rfl (by rw [HPE.out];exact HRG.out) (by omega) HSX.out.lt ?_)
      intro v5 w5 ho5 hg5 _
      have hnb:(Value.slice po ps.length pc).ownBlock ≠ some w.heap.size:=fun e => by have:=(HSX.out.o1.lt _ e).1;omega
      have HA5:=ah (gN HSX.out.o1 hg5 HSX.out.rb (Nat.lt_succ_self _))
      have HO5:=ah (HSX.out.o2.kept hg5 (eX HSX.out.o2 HSX.out.o1 (by decide)))
      have HB5:=ah (HSX.out.bel.grown hg5 (Nat.le_of_lt HSX.out.lt) (fun k hk => by have:=(HSX.out.o1.lt k hk).1;omega))
      have HL5:Hid (w.heap.size < w5.heap.size):=ah (Nat.lt_of_lt_of_le HSX.out.lt hg5.size)
      obtain ⟨po5,pc5,rfl⟩:=ay ho5
      have HP5:=ah ho5
      clear ho5 hg5 hnb
      have hb6:Below w5.heap.size w5 (w5.alloc (.cells #[.int .i64 (r.pos:Int)] 3)):=bal
      have HO6:=ah (own_below HO5.out hb6)
      have HP6:=ah (own_below HP5.out hb6)
      have HA6:=ah (HA5.out.below hb6 HL5.out)
      have HB6:=ah (HB5.out.trans (hb6.mono (Nat.le_of_lt HL5.out)))
      have HC6:Hid ((w5.alloc (.cells #[.int .i64 (r.pos:Int)] 3)).cell? ⟨w5.heap.size,0,none⟩ = some (.int .i64 (r.pos:Int))):=ah (by rw [World.cell?_alloc_new];rfl)
      have HL6:Hid (w.heap.size + 1 ≤ (w5.alloc (.cells #[.int .i64 (r.pos:Int)] 3)).heap.size):=ah (by have:=HL5.out;have:=hb6.size;omega)
      clear hb6
      go_wp2_with (refine bO _ rfl _ _ rfl (w.heap.size + 1) (.slice so ps.length sc) ps.length (ksV (ps.map (·.2))) rfl HO6.out w5.heap.size (r.pos:Int) rfl HC6.out (by omega) HL6.out ?_)
      intro v7 w7 ho7 hg7 _
      have e1:(ps ++ [(pt,r.pos)]).map (·.1) = ps.map (·.1) ++ [pt]:=by simp
      have e2:(ps ++ [(pt,r.pos)]).map (·.2) = ps.map (·.2) ++ [r.pos]:=by simp
      have e3:(ps ++ [(pt,r.pos)]).length = ps.length + 1:=by simp
      have HS7:Hid (RkSt w r2 (ps ++ [(pt,r.pos)]) (.slice po5 (ps.length + 1) pc5) v7 w7):=ah ⟨gN HO6.out hg7 HA6.out (Nat.lt_succ_self _),HT0.out,by rw [e1,e3,qP];exact HP6.out.kept hg7 (eX HP6.out HO6.out (by decide)),by rw [e2,e3,mK];exact ho7,HB6.out.grown hg7 (by have:=HL6.out;omega) (fun k hk => by have:=(HO6.out.lt k hk).1;omega),by
       rw [e1]
       intro p hp
       rcases List.mem_append.1 hp with hp | hp
       ·exact HS4.out.ok p hp
       rcases List.mem_singleton.1 hp with rfl;exact HOK1.out,by have:=HL6.out;have:=hg7.size;omega⟩
      have HLN:Hid ((ps ++ [(pt,r.pos)]).length = ps.length + 1):=ah e3
      clear ho7 hg7 e1 e2 e3
      go_wp2_with fail
      go_roundw
      case rel => exact ⟨r2,ps ++ [(pt,r.pos)],by rw [HLN.out];go_num,HS7.out,HNX,HE2,HR2S⟩
      case measure => simp [intOf];omega
     have HPE:Hid (ptF pt = [.bool false,.int .i64 0,.string t2]):=ah (by rw [HPT.out,decide_eq_false hfar,if_neg hfar];rfl)
     have d5:¬ (0:Int) < (far:Int):=by omega
     clear hfar
     obtain ⟨X,hX⟩:∃ X,(w4.alloc (.cells #[.bool false,.int .i64 0,.string t2] 247)).alloc (.cells #[.bool false,.int .i64 0,.string t2] 247) = X:=⟨_,rfl⟩
     have hbX:Below w4.heap.size w4 X:=by rw [← hX];exact bal.alloc (by simp) _
     have HSX:=ah (HS4.out.below hbX)
     have HRG:Hid (X.rangeAt (w4.heap.size + 1) 0 [.bool false,.int .i64 0,.string t2]):=ah (by
      have:=(BoxL.new (w4.alloc (.cells #[.bool false,.int .i64 0,.string t2] 247)) 247 [.bool false,.int .i64 0,.string t2]).range
      rw [World.size_alloc] at this
      rw [← hX];exact this)
     have HX:=ah hX
     clear hX hbX
     go_wp2_with (rw [HX.out];refine dR _ rfl _ _ rfl (w.heap.size + 1) (.slice po ps.length pc) ps.length (ptsF (ps.map (·.1))) rfl HSX.out.o1 (w4.heap.size + 1) pt rfl (by rw [HPE.out];exact HRG.out) (by omega) HSX.out.lt ?_)
     intro v5 w5 ho5 hg5 _
     have hnb:(Value.slice po ps.length pc).ownBlock ≠ some w.heap.size:=fun e => by have:=(HSX.out.o1.lt _ e).1;omega
     have HA5:=ah (gN HSX.out.o1 hg5 HSX.out.rb (Nat.lt_succ_self _))
     have HO5:=ah (HSX.out.o2.kept hg5 (eX HSX.out.o2 HSX.out.o1 (by decide)))
     have HB5:=ah (HSX.out.bel.grown hg5 (Nat.le_of_lt HSX.out.lt) (fun k hk => by have:=(HSX.out.o1.lt k hk).1;omega))
     have HL5:Hid (w.heap.size < w5.heap.size):=ah (Nat.lt_of_lt_of_le HSX.out.lt hg5.size)
     obtain ⟨po5,pc5,rfl⟩:=ay ho5
     have HP5:=ah ho5
     clear ho5 hg5 hnb
     have hb6:Below w5.heap.size w5 (w5.alloc (.cells #[.int .i64 (r.pos:Int)] 3)):=bal
     have HO6:=ah (own_below HO5.out hb6)
     have HP6:=ah (own_below HP5.out hb6)
     have HA6:=ah (HA5.out.below hb6 HL5.out)
     have HB6:=ah (HB5.out.trans (hb6.mono (Nat.le_of_lt HL5.out)))
     have HC6:Hid ((w5.alloc (.cells #[.int .i64 (r.pos:Int)] 3)).cell? ⟨w5.heap.size,0,none⟩ = some (.int .i64 (r.pos:Int))):=ah (by rw [World.cell?_alloc_new];rfl)
     have HL6:Hid (w.heap.size + 1 ≤ (w5.alloc (.cells #[.int .i64 (r.pos:Int)] 3)).heap.size):=ah (by have:=HL5.out;have:=hb6.size;omega)
     clear hb6
     go_wp2_with (refine bO _ rfl _ _ rfl (w.heap.size + 1) (.slice so ps.length sc) ps.length (ksV (ps.map (·.2))) rfl HO6.out w5.heap.size (r.pos:Int) rfl HC6.out (by omega) HL6.out ?_)
     intro v7 w7 ho7 hg7 _
     have e1:(ps ++ [(pt,r.pos)]).map (·.1) = ps.map (·.1) ++ [pt]:=by simp
     have e2:(ps ++ [(pt,r.pos)]).map (·.2) = ps.map (·.2) ++ [r.pos]:=by simp
     have e3:(ps ++ [(pt,r.pos)]).length = ps.length + 1:=by simp
     have HS7:Hid (RkSt w r2 (ps ++ [(pt,r.pos)]) (.slice po5 (ps.length + 1) pc5) v7 w7):=ah ⟨gN HO6.out hg7 HA6.out (Nat.lt_succ_self _),HT0.out,by rw [e1,e3,qP];exact HP6.out.kept hg7 (eX HP6.out HO6.out (by decide)),by rw [e2,e3,mK];exact ho7,HB6.out.grown hg7 (by have:=HL6.out;omega) (fun k hk => by have:=(HO6.out.lt k hk).1;omega),by
      rw [e1]
      intro p hp
      rcases List.mem_append.1 hp with hp | hp
      ·exact HS4.out.ok p hp
      rcases List.mem_singleton.1 hp with rfl;exact HOK1.out,by have:=HL6.out;have:=hg7.size;omega⟩
     have HLN:Hid ((ps ++ [(pt,r.pos)]).length = ps.length + 1):=ah e3
     clear ho7 hg7 e1 e2 e3
     go_wp2_with fail
     go_roundw
     case rel => exact ⟨r2,ps ++ [(pt,r.pos)],by rw [HLN.out];go_num,HS7.out,HNX,HE2,HR2S⟩
     case measure => simp [intOf];omega
    have d3:((r2.err:Int) != 0) = true:=by rw [bne_iff_ne];omega
    have HFN:Hid (eB s = some (n,r2,ps)):=ah (by
     have h1:=hR.out.1
     rw [HRX.out,uY ps (by rw [HPA.out];exact herr)] at h1
     rw [HPS2.out,h1,HPA.out])
    have HR2S:Hid (r2.s = s):=ah (by have:=HPS3.out;rw [HPA.out] at this;exact this.trans hrs.out)
    clear herr
    go_wp2_with fail
    (try simp only [Exit.inBlock,Exit.then])
    refine bodyPost_ret (gV rfl _ _ _) rfl ?_
    exact yB HFN.out HS4.out.row1 HS4.out.row2 HS4.out.ok hln hn2 HT0.out HR2S.out (fun h => by omega) HS4.out.fr1 HS4.out.fr2 HS4.out.bel
   have d2:¬ (ps.length:Int) < (n:Int):=by omega
   have HFN:Hid (eB s = some (n,r,ps)):=ah (by
    have h1:=hR.out.1
    rw [show n - ps.length = 0 from by omega] at h1
    rw [HPS2.out,h1]
    show some (n,r,ps ++ []) = _
    rw [List.append_nil])
   have hb0:(Below wr.heap.size wr wr):=Below.refl _ _
   clear hlt hb0
   go_wp2_with fail
   refine wbq ?_
   have LQ0:=blq c1
   repeat (go_big_quiet_step (fail))
   refine wpQuiet_nil ?_
   intro wq hbq
   clear LQ0
   have HSQ:=ah (HS.out.below hbq)
   clear hbq c1
   go_wp2_with fail
   (try simp only [Exit.inBlock,Exit.then])
   refine bodyPost_ret (gV rfl _ _ _) rfl ?_
   exact yB HFN.out HSQ.out.row1 HSQ.out.row2 HSQ.out.ok hln hn2 HSQ.out.fine hrs.out (fun h => ⟨rfl,he.out⟩) HSQ.out.fr1 HSQ.out.fr2 HSQ.out.bel
  have d2:((r0.err:Int) != 0) = true:=by rw [bne_iff_ne];omega
  have HNO:Hid (eB s = none):=ah (by rw [HPS.out,if_pos herr])
  clear herr
  go_wp2_with fail
  (try simp only [Exit.inBlock,Exit.then])
  refine bodyPost_ret (gV rfl _ _ _) rfl ?_
  exact uJ HNO.out HST.out.bel
 rw [decide_eq_false ht] at f0
 have HNO:=ah (HBD.out ht)
 clear ht HGD HBD
 go_enter func84,ntmps84
 go_wp2_with fail
 (try simp only [Exit.inBlock,Exit.then])
 refine bodyPost_ret (gV rfl _ _ _) rfl ?_
 exact uJ HNO.out (Below.refl _ _)
def numF:List UInt8 → Nat → Option Nat
 | [],a => some a
 | d :: ds,a => if d.toNat < 48 ∨ 57 < d.toNat then none else numF ds (10 * a + (d.toNat - 48))
def numP (l:List UInt8):Nat:=if l.length < 8 ∨ l.take 2 ≠ [112,45] then 0 else (numF ((l.drop 2).take 6) 0).getD 0
theorem CK:∀ (l:List UInt8) (a:Nat),numF l a = if l.all L9 = true then some (l.foldl (fun n b => 10 * n + (b.toNat - 48)) a) else none
 | [],a => rfl
 | d :: ds,a => by
  unfold numF
  rw [CK ds,List.all_cons,List.foldl_cons]
  by_cases h:d.toNat < 48 ∨ 57 < d.toNat
  ·rw [if_pos h,if_neg]
   intro h2
   rw [Bool.and_eq_true] at h2
   have:=of_decide_eq_true h2.1
   omega
  have:L9 d = true:=decide_eq_true (by omega)
  rw [if_neg h,this,Bool.true_and]
theorem Az (l:List UInt8):numP l = numL l:=by
 unfold numP numL
 split
 ·rfl
 rw [CK]
 split <;> rfl
def NumI (l:List UInt8) (k a:Nat):Prop:=numF l 0 = numF (l.drop k) a ∧ a < 10 ^ k
theorem NumI.zero (l:List UInt8):NumI l 0 0:=⟨by rw [List.drop_zero],by decide⟩
theorem NumI.bad {l:List UInt8} {k a:Nat} {d:UInt8} (h:NumI l k a) (hd:l[k]? = some d) (hb:d.toNat < 48 ∨ 57 < d.toNat):numF l 0 = none:=by
 obtain ⟨hk,e⟩:=List.getElem?_eq_some_iff.1 hd
 rw [h.1,List.drop_eq_getElem_cons hk,e]
 unfold numF
 rw [if_pos hb]
theorem NumI.next {l:List UInt8} {k a:Nat} {d:UInt8} (h:NumI l k a) (hd:l[k]? = some d) (hb:¬ (d.toNat < 48 ∨ 57 < d.toNat)):NumI l (k + 1) (10 * a + (d.toNat - 48)):=by
 obtain ⟨hk,e⟩:=List.getElem?_eq_some_iff.1 hd
 refine ⟨?_,?_⟩
 ·rw [h.1,List.drop_eq_getElem_cons hk,e]
  conv => lhs;unfold numF
  rw [if_neg hb]
 have:=h.2
 rw [Nat.pow_succ]
 omega
theorem NumI.small {l:List UInt8} {k a:Nat} (h:NumI l k a) (hk:k ≤ 6):a < 1000000:=Nat.lt_of_lt_of_le h.2 (Nat.pow_le_pow_right (by decide) hk:10 ^ k ≤ 10 ^ 6)
theorem NumI.end_ {l:List UInt8} {a:Nat} (h:NumI l 6 a) (hl:l.length = 6):numF l 0 = some a:=by
 rw [h.1,List.drop_eq_nil_of_le (by omega)]
 rfl
def pdB:ByteArray:=⟨#[112,45]⟩
theorem ES:pdB.toList = [112,45]:=by rw [ByteArray.toList_eq];rfl
theorem Da (s:ByteArray) (k:Nat) (hk:k < s.size):∃ b:UInt8,s.data.toList[k]? = some b ∧ ∀ w,(Instr.index 9 (.string s) (.int .i64 (k:Int))).run prog w = .ok (.int .u8 ((b.toNat:Nat):Int)) w:=by
 refine ⟨s[k],?_,fun w => ?_⟩
 ·rw [List.getElem?_eq_getElem (by simpa using hk)]
  rfl
 have:=dB s w k (by omega)
 have e:(blk s k) = s[k]:=by unfold blk;rw [List.getD_eq_getElem?_getD,List.getElem?_eq_getElem (by simp;omega)];rfl
 rw [e,← lS] at this
 exact this
theorem IJ (s:ByteArray) (w:World) (hs:s.size ≤ 1000000):Calls prog 46 #[.string s] w fun e w' => e = .returned (.int .i64 (numP s.data.toList:Int)) ∧ Below w.heap.size w w':=by
 have hsl:s.data.toList.length = s.size:=by simp
 by_cases h8:s.size < 8
 ·have HN:Hid (numP s.data.toList = 0):=ah (by unfold numP;rw [if_pos (.inl (by omega))])
  have d1:(s.size:Int) < 8:=by omega
  go_enter func46,ntmps46
  go_wp2_with fail
  go_ret
  exact ⟨by rw [HN.out];rfl,Below.refl _ _⟩
 have d1:¬ (s.size:Int) < 8:=by omega
 have d1b:(2:Int) ≤ (s.size:Int):=by omega
 have f0:((s.extract 0 2).toList == pdB.toList) = decide (s.extract 0 2 = pdB):=iG _ _
 rw [ES] at f0
 have hex:(s.extract 0 2).data.toList = s.data.toList.take 2:=by simp
 have HSL:∀ w,(Instr.slice 9 (.string s) none (some (.int .i64 2)) none).run prog w = .ok (.string (s.extract 0 2)) w:=fun w => by
  simp [Instr.slice,run_underlying underlying9,Instr.sliceBounds,Instr.sliceBound,asIntOf,d1b]
 by_cases ht:s.extract 0 2 = pdB
 ·have HT2:s.data.toList.take 2 = [112,45]:=by rw [← hex,ht];rfl
  have HN:Hid (numP s.data.toList = (numF ((s.data.toList.drop 2).take 6) 0).getD 0):=ah (by unfold numP;rw [if_neg (fun h => h.elim (fun h => by omega) (fun h => h HT2))])
  have HIB:=ah (Da s)
  have HLL:Hid (((s.data.toList.drop 2).take 6).length = 6):=ah (by rw [List.length_take,List.length_drop,hsl];omega)
  have HAT:Hid (∀ k,k < 6 → ((s.data.toList.drop 2).take 6)[k]? = s.data.toList[2 + k]?):=ah fun k hk => by rw [List.getElem?_take,if_pos hk,List.getElem?_drop]
  rw [decide_eq_true ht] at f0
  clear ht hex hsl HT2
  generalize (s.data.toList.drop 2).take 6 = ds at HN HLL HAT
  generalize s.extract 0 2 = t at f0 HSL
  go_enter func46,ntmps46
  go_wp2_with fail
  go_loopw [3,4] (fun v i wr => ∃ (k a:Nat),v = .int .i64 (a:Int) ∧ i = .int .i64 ((2 + k:Nat):Int) ∧ k ≤ 6 ∧ Hid (NumI ds k a) ∧ Below w.heap.size w wr) (fun _ i _ => (10 - intOf i).toNat)
  case atStart => exact ⟨0,0,rfl,rfl,by omega,ah (NumI.zero _),Below.refl _ _⟩
  obtain ⟨k,a,rfl,rfl,hk,HI,hb⟩:=hrel
  have HB:=ah hb
  have hsm:=HI.out.small hk
  clear hb
  by_cases hlt:k < 6
  ·obtain ⟨d,hd,hix⟩:=HIB.out (2 + k) (by omega)
   have HD:Hid (ds[k]? = some d):=ah (by rw [HAT.out k hlt,hd])
   have i1:((2 + k:Nat):Int) < 8:=by omega
   have wi:IntKind.i64.wrap (((2 + k:Nat):Int) + 1) = ((2 + k:Nat):Int) + 1:=by rw [IntKind.wrap_i64];omega
   have hd8:d.toNat < 256:=d.toNat_lt
   have HNB:=ah (fun h => HI.out.bad HD.out h)
   have HNX:=ah (fun h => HI.out.next HD.out h)
   clear hd HI
   generalize d.toNat = n at hix hd8 HNB HNX
   have e2:((2 + (k + 1):Nat):Int) = ((2 + k:Nat):Int) + 1:=by omega
   obtain ⟨q,hq⟩:∃ q,2 + k = q:=⟨_,rfl⟩
   rw [hq] at hix i1 wi e2 ⊢
   have HQ:=ah hq
   have HE2:=ah e2
   clear hq e2
   by_cases hbad:n < 48
   ·have c1:(n:Int) < 48:=by omega
    have HZ:Hid (numP s.data.toList = 0):=ah (by rw [HN.out,HNB.out (.inl hbad)];rfl)
    clear hbad
    go_wp2_with fail
    go_ret
    exact ⟨by rw [HZ.out];rfl,HB.out⟩
   have c1:¬ (n:Int) < 48:=by omega
   by_cases hbad2:57 < n
   ·have c2:(57:Int) < (n:Int):=by omega
    have HZ:Hid (numP s.data.toList = 0):=ah (by rw [HN.out,HNB.out (.inr hbad2)];rfl)
    clear hbad hbad2
    go_wp2_with fail
    go_ret
    exact ⟨by rw [HZ.out];rfl,HB.out⟩
   have c2:¬ (57:Int) < (n:Int):=by omega
   have HNN:=ah (HNX.out (by omega))
   have w1:IntKind.i64.wrap (10 * (a:Int)) = 10 * (a:Int):=by rw [IntKind.wrap_i64];omega
   have w2:IntKind.u8.wrap ((n:Int) - 48) = (n:Int) - 48:=by rw [IntKind.wrap_u8];omega
   have w3:IntKind.i64.wrap ((n:Int) - 48) = (n:Int) - 48:=by rw [IntKind.wrap_i64];omega
   have w4:IntKind.i64.wrap (10 * (a:Int) + ((n:Int) - 48)) = 10 * (a:Int) + ((n:Int) - 48):=by rw [IntKind.wrap_i64];omega
   have HEA:Hid (10 * (a:Int) + ((n:Int) - 48) = ((10 * a + (n - 48):Nat):Int)):=ah (by omega)
   clear hbad hbad2
   go_wp2_with fail
   go_roundw
   case rel => exact ⟨k + 1,10 * a + (n - 48),by rw [HEA.out],by rw [HE2.out],by omega,HNN,HB.out⟩
   case measure => have:=HQ.out;simp [intOf];omega
  have hk6:k = 6:=by omega
  subst hk6
  have HZ:Hid (numP s.data.toList = a):=ah (by rw [HN.out,HI.out.end_ HLL.out];rfl)
  clear hlt
  go_wp2_with fail
  go_ret
  exact ⟨by rw [HZ.out];rfl,HB.out⟩
 have HT2:s.data.toList.take 2 ≠ [112,45]:=fun h => ht (ba_eq (by rw [hex,h];rfl))
 have HN:Hid (numP s.data.toList = 0):=ah (by unfold numP;rw [if_pos (.inr HT2)])
 rw [decide_eq_false ht] at f0
 clear ht hex HT2 hsl
 generalize s.extract 0 2 = t at f0 HSL
 go_enter func46,ntmps46
 go_wp2_with fail
 go_ret
 exact ⟨by rw [HN.out];rfl,Below.refl _ _⟩
def Bj (p:Pk):Prop:=p.obs.length = p.parts.length ∧ p.parts.length ≤ 200
theorem zB:∀ (ts:List ByteArray) (os r:List Ob),iJ ts os = some r → r.length = os.length + ts.length
 | [],os,r,h => by
  have:=Option.some.inj h
  subst this
  rfl
 | s :: ss,os,r,h => by
  unfold iJ at h
  split at h
  ·cases h
  split at h
  ·cases h
  have:=zB ss _ r h
  rw [this,List.length_append,List.length_singleton,List.length_cons]
  omega
theorem Dx {l:List Pt} {os:List Ob} (h:aV l = some os):os.length = l.length ∧ l.length ≤ 200:=by
 unfold aV at h
 split at h
 ·cases h
 rename_i ts ht
 obtain ⟨h1,h2,_⟩:=oq ht
 have:=zB ts [] os h
 rw [List.length_nil] at this
 omega
theorem vw {b:ByteArray} {p:Pk} (h:dJ b = some p):Bj p:=by
 rw [rU] at h
 split at h
 ·cases h
 split at h
 ·cases h
 split at h
 ·cases h
 rename_i l _ _ _
 generalize (Rd.parts (hdP (Rd.mk (ofB l) 0 0)).2.1 0 (hdP (Rd.mk (ofB l) 0 0)).1).2 = ps at h
 cases hf:aV (ps.map (·.1)) with
 | none => rw [hf] at h;cases h
 | some os =>
  rw [hf] at h
  have:=Option.some.inj h
  subst this
  obtain ⟨h1,h2⟩:=Dx hf
  rw [List.length_map] at h1 h2
  exact ⟨h1,h2⟩
theorem Lg (g:Nat) (p:Pk) (w:World) (h:PkAt w g p):Calls prog 92 #[.pointer (some ⟨g,0,none⟩)] w fun e w' => e = .returned (.int .i64 (p.parts.length:Int)) ∧ Below w.heap.size w w':=by
 obtain ⟨vp,vs,vi,vo,ha,hp,_,_,_⟩:=h
 obtain ⟨po,pc,rfl,_,_⟩:=hp.open
 rw [List.length_map] at ha
 have c0:w.cell? ⟨g,0,none⟩ = some (.slice po p.parts.length pc):=ha.cell 0 (by decide)
 clear ha hp
 go_enter func92,ntmps92
 go_wp2_with fail
 go_ret
 exact ⟨rfl,Below.refl _ _⟩
theorem Ll (g:Nat) (p:Pk) (k:Nat) (w:World) (h:PkAt w g p) (hk:k < p.parts.length):Calls prog 155 #[.pointer (some ⟨g,0,none⟩),.int .i64 (k:Int)] w fun e w' => e = .returned (.bool true) ∧ Below w.heap.size w w':=by
 have HL:=ah (Lg g p w h)
 have i0:(0:Int) ≤ k:=by omega
 have i1:(k:Int) < p.parts.length:=by omega
 clear h
 go_enter func155,ntmps155
 go_wp2_with fail
 refine HL.out.mono ?_
 rintro e w1 ⟨rfl,hb1⟩
 go_wp2_with fail
 go_ret
 exact ⟨rfl,hb1⟩
theorem Jf (g:Nat) (p:Pk) (x:List UInt8) (w:World) (h:PkAt w g p) (hx:x.length = 32):Calls prog 330 #[.pointer (some ⟨g,0,none⟩),.agg (idC x).toArray] w fun e w' => e = .returned (.int .i64 (plI (p.obs.map idO) x)) ∧ Below w.heap.size w w':=by
 obtain ⟨W,hW⟩:∃ W,w.alloc (.cells (idC x).toArray 24) = W:=⟨_,rfl⟩
 have hbW:Below w.heap.size w W:=by rw [← hW];exact bal
 have hbx:BoxL W w.heap.size 24 (idC x):=by rw [← hW];exact BoxL.new w 24 (idC x)
 have h32x:(prog.info? 24).map (·.size) = some (idC x).length:=by rw [aD,hx];kernel_rfl
 obtain ⟨vp,vs,vi,vo,ha,hp,hs,hi,ho⟩:=h
 obtain ⟨io,ic,rfl,_,_⟩:=hi.open
 have hgl:=ha.lt (show 0 < 4 by omega)
 have c2:W.cell? ⟨g,2,none⟩ = some (.slice io (p.obs.map idO).length ic):=(ha.below hbW hgl).cell 2 (by decide)
 have hiW:=hi.below hbW
 have r0:=hbx.range
 have hgW:g < W.heap.size:=by have:=hbW.size;omega
 have hxW:=hbx.lt
 have HSI:=ah (fun y:BW W.heap.size W => uw (.slice io (p.obs.map idO).length ic) (p.obs.map idO) x y.out (hiW.below y.hb) (fun z hz => by obtain ⟨u,_,rfl⟩:=List.mem_map.1 hz;exact dI u) hx)
 have HB:=ah hbW
 have HW:=ah hW
 have HX:=ah hx
 clear hW hbW hbx ha hp hs hi ho hiW hx
 generalize (p.obs.map idO).length = n at c2 HSI
 generalize plI (p.obs.map idO) x = pl at HSI ⊢
 generalize idC x = cx at HSI r0 h32x HW ⊢
 go_enter func330,ntmps330
 go_upto_region 3 with fail
 rw [HW.out]
 have hcn:=HSI.out
 refine wbq ?_
 have LQ0:=blq c2
 repeat (go_big_quiet_step ((go_at_call 201;with_reducible exact aU (hcn _))))
 refine bg 24 _ _ rfl rfl rfl r0 (by omega) underlying24 rfl h32x ?_
 simp only [Act.put,nz]
 repeat (go_big_quiet_step ((go_at_call 201;with_reducible exact aU (hcn _))))
 refine wpQuiet_nil ?_
 intro wq hbq
 clear LQ0
 go_wp2_with fail
 go_ret
 exact ⟨rfl,HB.out.trans (hbq.mono HB.out.size)⟩
theorem Le (g:Nat) (p:Pk) (k:Nat) (w:World) (h:PkAt w g p) (hf:Bj p) (hk:k < p.obs.length):Calls prog 331 #[.pointer (some ⟨g,0,none⟩),.int .i64 (k:Int)] w fun e w' => e = .returned (.tuple #[.agg (obC p.obs[k]).toArray,.bool true]) ∧ Below w.heap.size w w':=by
 obtain ⟨W,hW⟩:∃ W,w.alloc (.cells #[.int .i64 0,.string ⟨#[]⟩] 40) = W:=⟨_,rfl⟩
 have hbW:Below w.heap.size w W:=by rw [← hW];exact bal
 have hbx:BoxL W w.heap.size 40 [.int .i64 0,.string ⟨#[]⟩]:=by rw [← hW];exact BoxL.new w 40 [.int .i64 0,.string ⟨#[]⟩]
 have hgl:=h.lt
 have hpW:=h.below hbW
 have HH:=ah (Ll g p k W hpW (by have:=hf.1;omega))
 have HP:=ah hpW
 have HX:=ah hbx
 have HB:=ah hbW
 have HW:=ah hW
 have HIO:=ah aF
 obtain ⟨co,hco⟩:∃ co,obC p.obs[k] = co:=⟨_,rfl⟩
 have HOC1:Hid (∀ v ∈ co,v.oneCell' = true):=ah (by rw [← hco];exact dx p.obs[k])
 have HOCL:Hid (co.length = 2):=ah (by rw [← hco];rfl)
 have HRW:Hid (∀ (W':World) (b off:Nat),(∀ j (hj:j < p.obs.length),W'.rangeAt b (off + j * 2) (obC p.obs[j])) → W'.rangeAt b (off + k * 2) co):=ah fun W' b off h => by rw [← hco];exact h k hk
 have HNN:Hid (p.obs ≠ []):=ah (by intro e;rw [e] at hk;simp at hk)
 have i0:(0:Int) ≤ k:=by omega
 have i1:(k:Int) < p.obs.length:=by omega
 rw [hco]
 clear hco hk
 clear hW hbW hbx hpW h hf
 go_enter func331,ntmps331
 go_upto_region 1 with fail
 rw [HW.out]
 go_wp2_with fail
 refine HH.out.mono ?_
 rintro e w1 ⟨rfl,hb1⟩
 have HX1:=ah (HX.out.below hb1)
 have HB1:=bth HB hb1
 obtain ⟨vp,vs,vi,vo,ha,_,_,_,ho⟩:=HP.out.below hb1
 obtain ⟨oo,oc,rfl,_,hc⟩:=ho.open
 obtain ⟨ob,off,rfl,_,hc2⟩:=hc HNN.out
 have c3:w1.cell? ⟨g,3,none⟩ = some (.slice (some ⟨ob,off,none⟩) p.obs.length oc):=ha.cell 3 (by decide)
 have hr:=HRW.out w1 ob off hc2
 have h2o:(prog.info? 40).map (·.size) = some co.length:=by rw [HOCL.out];exact aF
 obtain ⟨WE,hWE⟩:∃ WE,w1.setCells w.heap.size 0 co = WE:=⟨_,rfl⟩
 have HRE:Hid (BoxL WE w.heap.size 40 co):=ah (by rw [← hWE];exact HX1.out.set (by rw [HOCL.out];rfl))
 have HBE:Hid (Below w.heap.size w WE):=ah (by rw [← hWE];exact below_setCells _ (Nat.le_refl _) _ _ _ HB1.out)
 have hth:w1.there w.heap.size 0 2:=HX1.out.there
 have HWE:=ah hWE
 generalize p.obs.length = n at c3 i1
 clear hb1 ha ho hc hc2 hWE HP HRW HNN
 go_wp2_with (first
  | refine wpList_load_mid rfl 40 _ rfl ob (off + k * 2) rfl co _ hr underlying40 rfl h2o ?_
  | (refine aj rfl 40 _ _ rfl w.heap.size 0 co rfl rfl 2 HOCL.out hth HIO.out HOC1.out ?_;rw [HWE.out]))
 have hre:=HRE.out.range
 (try simp only [Exit.inBlock,Exit.then])
 refine aB rfl w.heap.size 0 rfl co _ hre underlying40 rfl h2o rfl _ rfl ?_
 exact ⟨rfl,HBE.out⟩
end
end Go.Proofs.YtijhemdnajlfnaaGreatDoor
