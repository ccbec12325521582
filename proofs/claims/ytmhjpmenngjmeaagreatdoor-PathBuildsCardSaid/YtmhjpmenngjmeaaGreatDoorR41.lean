/- YtmhjpmenngjmeaaGreatDoorR41: texts NP of this claim, in one. -/
import Derived.Test.YtmhjpmenngjmeaaGreatDoorR16
import Derived.Test.YtmhjpmenngjmeaaGreatDoorR17
import Derived.Test.YtmhjpmenngjmeaaGreatDoorR38
import Derived.Test.YtmhjpmenngjmeaaGreatDoorR39
namespace Go.Proofs.YtmhjpmenngjmeaaGreatDoor
open Go.RowKit Go.Sort Go.Shelf
set_option maxRecDepth 100000
def ent0 (s:ByteArray):EJ:=⟨⟨s,1,zid⟩,zid_len⟩
theorem treeOk_one (s:ByteArray):treeOk (rawE [ent0 s]) = nameOk s:=by
 show ([(⟨s,1,zid⟩:Ent)].all entOk && entsRise [⟨s,1,zid⟩] && decide (1 ≤ 32)) = nameOk s
 simp [entsRise,entOk]
theorem mkE_tree (m:List EJ):mkE (treeOk (rawE m)) ⟨2,ofB (treeB (rawE m))⟩ = if treeOk (rawE m) = true then 0 else 1:=by
 unfold mkE
 cases h:treeOk (rawE m) with
 | false => simp
 | true =>
  rw [tree_right h (fun e he => by
   obtain ⟨x,_,rfl⟩:=List.mem_map.1 he
   exact x.2)]
  simp
set_option maxHeartbeats 1000000 in
theorem isname_any (s:ByteArray) (w:World) (hs:s.size ≤ 1000) :
  Calls Tryz.prog 29 #[.string s] w fun e w' => e = .returned (.bool (nameOk s)) ∧ Below w.heap.size w w':=by
 obtain ⟨zs,i0,hi,hz0,hz1,hz2,hzv,hbu,hzs⟩:=ent_zero
 have HXL:=Lib.hid (encE_len (ent0 s))
 have hrow:RowOf (w.alloc (.cells (encE (ent0 s)).toArray 84)) (.slice (some ⟨w.heap.size,0,none⟩) 1 1) 34 ([ent0 s].map encE):=⟨some ⟨w.heap.size,0,none⟩,1,rfl,by unfold maxLen;simp,fun _ => ⟨w.heap.size,0,rfl,by simp,fun i hi => by
  have hi0:i = 0:=by simpa using hi
  subst hi0
  exact range_new _ _ _ rfl⟩⟩
 have HT:=Lib.hid (otree_mk sortsTo_small _ [ent0 s] _ hrow (fun e he => by rw [List.mem_singleton.1 he];exact ⟨hs,by show 1 ≤ 2;omega⟩) (by simp) (by simp))
 have HSZ:Hid (∀ w,(sizeOf 84).run Tryz.prog w = .ok (encE (ent0 s)).length w):=Lib.hid (fun w => by rw [encE_len];kernel_rfl)
 have h20:(Tryz.prog.info? 59).map (·.size) = some 2:=by kernel_rfl
 have HZV:=Lib.hid hzv
 clear hbu hzs hz0 hz1 hz2 hi hrow hzv
 go_enter Tryz.func29,Tryz.ntmps29
 go_wp2_with (refine wpList_buildSlice_one rfl (.tmp 7) 79 84 rfl (encE (ent0 s)) zs rfl Tryz.underlying79 HSZ.out HZV.out (by rw [HXL.out];omega) (by rw [HXL.out];omega) ?_)
 refine HT.out.mono ?_
 rintro e w1 ⟨m,hp,hr,rfl,hb1⟩
 have hm:m = [ent0 s]:=List.perm_singleton.1 hp
 rw [mkE_tree,hm,treeOk_one]
 obtain ⟨o,ho⟩:∃ o,mkOb (nameOk s) ⟨2,ofB (treeB (rawE [ent0 s]))⟩ = o:=⟨_,rfl⟩
 rw [ho]
 have HB1:Hid (Below w.heap.size w w1):=Lib.hid (((Below.refl _ _).alloc (Nat.le_refl _) _).trans (hb1.mono (by simp)))
 have hth:=there_alloc w1 #[.int .i64 0,.string ⟨#[]⟩] 59 rfl
 have hbe:=below_setCells (B:=w.heap.size) w1.heap.size HB1.out.size [.int .i64 o.kind,.string o.body] 0 _ (HB1.out.alloc HB1.out.size (.cells #[.int .i64 0,.string ⟨#[]⟩] 59))
 have HTH:=Lib.hid hth
 have HBE:=Lib.hid hbe
 clear hth hbe hb1 hp hr hm ho HT
 unfold obC
 cases hno:nameOk s with
 | true =>
  rw [if_pos rfl]
  have HNO:=Lib.hid hno
  clear hno
  go_wp2_with (refine wpList_store_list rfl 59 _ _ rfl w1.heap.size 0 [.int .i64 o.kind,.string o.body] rfl rfl 2 rfl HTH.out h20 (by simp [Value.oneCell']) ?_)
  go_ret
  exact ⟨by rw [HNO.out];rfl,HBE.out⟩
 | false =>
  rw [if_neg (by simp)]
  have HNO:=Lib.hid hno
  clear hno
  go_wp2_with (refine wpList_store_list rfl 59 _ _ rfl w1.heap.size 0 [.int .i64 o.kind,.string o.body] rfl rfl 2 rfl HTH.out h20 (by simp [Value.oneCell']) ?_)
  go_ret
  exact ⟨by rw [HNO.out];rfl,HBE.out⟩
def IpI (w:World) (n:Nat) (pre:List ByteArray) (W:World):Prop:=n ≤ W.heap.size ∧ (Boxed W (w.heap.size + 1) 3 (.int .i64 (pre.length:Int)) ∧ Boxed W w.heap.size 4 (.bool false)) ∧ Below w.heap.size w W ∧ (pre.all nameOk = true ∧ pre.length ≤ 8)
def IpX (s:ByteArray) (w:World) (c:Code) (W:World):Prop:=(Boxed W w.heap.size 4 (.bool false) ∧ Below w.heap.size w W) ∧ (c = .ret ∧ pathOk s = false)
theorem nms_small (s:ByteArray):∀ x ∈ nms s,x.size ≤ s.size:=by
 have key:∀ l:List UInt8,∀ x ∈ spl l,x.length ≤ l.length:=by
  intro l
  induction l with
  | nil => intro x hx;simp [spl] at hx;rw [hx];simp
  | cons b l ih =>
   intro x hx
   rw [spl_cons] at hx
   split at hx
   ·rcases List.mem_cons.1 hx with rfl | hx
    ·simp
    ·have:=ih x hx;simp;omega
   ·cases hs:spl l with
    | nil => exact absurd hs (spl_ne l)
    | cons y ys =>
     rw [hs] at hx
     rcases List.mem_cons.1 hx with rfl | hx
     ·have:=ih y (by rw [hs];exact List.mem_cons_self);simp;omega
     ·have:=ih x (by rw [hs];exact List.mem_cons_of_mem _ hx);simp;omega
 intro x hx
 obtain ⟨y,hy,rfl⟩:=List.mem_map.1 hx
 have:=key _ y hy
 show (ofL y).data.size ≤ _
 rw [← Array.length_toList,ofL_data,← dl_len]
 exact this
set_option maxHeartbeats 2000000 in
theorem ispath_any (s:ByteArray) (w:World) (hs:s.size ≤ 1000) (hm:MaxAt w) :
  Calls Tryz.prog 13 #[.string s] w fun e w' => e = .returned (.bool (pathOk s)) ∧ Below w.heap.size w w':=by
 refine (callsIn_wide (n:=9)).1 ?_
 refine callsIn_of_wp_marks Tryz.func13 rfl trivial ?_ rfl
 simp only [Tryz.ntmps13,List.size_toArray,List.length_cons,List.length_nil,Nat.reduceAdd,Nat.reduceSub,Array.replicate_succ,Array.replicate_zero,List.push_toArray,List.append_toArray,List.nil_append,List.cons_append]
 gi_wp2_with fail
 obtain ⟨W0,hW0⟩:∃ W0,(w.alloc (.cells #[.bool false] 4)).alloc (.cells #[.int .i64 0] 3) = W0:=⟨_,rfl⟩
 have hb0:Below w.heap.size w W0:=by rw [← hW0];exact ((Below.refl _ w).alloc (Nat.le_refl _) _).alloc (by simp) _
 have hx1:Boxed W0 (w.heap.size + 1) 3 (.int .i64 0):=by
  rw [← hW0]
  have:=Boxed.new (w.alloc (.cells #[.bool false] 4)) 3 (.int .i64 0)
  rwa [World.size_alloc] at this
 have hx0:Boxed W0 w.heap.size 4 (.bool false):=by
  rw [← hW0]
  exact (Boxed.new w 4 (.bool false)).alloc _
 have hs0:w.heap.size + 2 = W0.heap.size:=by rw [← hW0];simp
 have hm0:=hm.below hb0 hm.lt
 rw [hW0]
 refine ⟨trivial,?_⟩
 refine (callsIn_wide.2 (split_any s W0 hm0)).mono ?_
 rintro e W1 ⟨rfl,hsp,hsz,hb1⟩
 have hb01:Below w.heap.size w W1:=hb0.trans (hb1.mono hb0.size)
 have hy1:Boxed W1 (w.heap.size + 1) 3 (.int .i64 0):=(hb1.block _ hx1.lt).trans hx1
 have hy0:Boxed W1 w.heap.size 4 (.bool false):=(hb1.block _ hx0.lt).trans hx0
 have hmw:=hm.lt
 have hs1:W0.heap.size + 3 ≤ W1.heap.size:=by omega
 have hs2:W1.heap.size ≤ W0.heap.size + 3:=by omega
 have hs3:w.heap.size + 2 ≤ W0.heap.size:=by omega
 clear hx1 hx0 hW0 hm hm0 hsz hs0
 gi_wp2_with fail
 refine wpIn_rangeFunc_cell rfl (by omega) (gf:=89) (lb:=#[.pointer (some ⟨W0.heap.size + 1,0,none⟩),.pointer (some ⟨W0.heap.size,0,none⟩),.pointer (some ⟨W0.heap.size + 2,0,none⟩)]) rfl trivial (enters_of Tryz.func89 (by kernel_rfl) rfl)
  (split1_in 8 (by omega) W0.heap.size s (by omega) W1 hsp) kpS_t (fun X k o o' hk hX ho j hj => World.putObj_heap_other (by have:=hsp.ne;omega)) (Below.refl _ _) (fun b e => by cases e;omega) (fun _ => rfl)
  (IpI w W1.heap.size) (IpX s w) (fun pre => lies_size.and (((lies_boxed (by intro e;have:=Option.some.inj e;omega)).and (lies_boxed (by intro e;have:=Option.some.inj e;omega))).and ((lies_below (Nat.le_refl _) (by omega) (fun b e => by cases e;omega)).and (Lies.pure _ _ _))))
  (fun c => ((lies_boxed (by intro e;have:=Option.some.inj e;omega)).and (lies_below (Nat.le_refl _) (by omega) (fun b e => by cases e;omega))).and (Lies.pure _ _ _)) ⟨Nat.le_refl _,⟨hy1,hy0⟩,hb01,by simp,by simp⟩
  (fun x a' _ => a' = { tmps:=#[.string s,undef,.pointer (some ⟨w.heap.size,0,none⟩),.pointer (some ⟨w.heap.size + 1,0,none⟩),.string x,.string s,.func (.func 89) #[] #[.pointer (some ⟨W0.heap.size + 1,0,none⟩),.pointer (some ⟨W0.heap.size,0,none⟩),.pointer (some ⟨W0.heap.size + 2,0,none⟩)],.string x,undef,undef,undef,undef,undef,undef,undef,undef,undef],defers:=[] }) (fun x a' => Lies.pure _ _ _) ?assign ?body ?done ?stop
 case assign =>
  intro l pre x W K hI hK
  have HK:=hK _ W (KeepsFrom.refl _ _) (fun _ _ => rfl) hI rfl
  clear hK hI
  gi_wp2_with gi_round_op_a
  exact HK
 case body =>
  rintro l pre x rest a' W hsp2 ⟨hWz,⟨h1,h0⟩,hb,hall,hlen⟩ rfl
  have hxs:x.size ≤ 1000:=Nat.le_trans (nms_small s x (by rw [hsp2];simp)) hs
  obtain ⟨V,hV⟩:∃ V,W.setCell ⟨w.heap.size + 1,0,none⟩ (.int .i64 ((pre.length:Int) + 1)) = V:=⟨_,rfl⟩
  have g1:W.grownBy V (some (w.heap.size + 1)):=by rw [← hV];exact grownBy_setCell' _ _ _
  have v1:Boxed V (w.heap.size + 1) 3 (.int .i64 ((pre.length:Int) + 1)):=by rw [← hV];exact h1.set _
  have v0:Boxed V w.heap.size 4 (.bool false):=by rw [← hV];exact h0.other (by omega) _
  have hbV:Below w.heap.size w V:=hb.grown g1 hb.size (fun k e => by have:=Option.some.inj e;omega)
  have HN:=Lib.hid (CallsIn.inRound (n:=6) l (callsIn_wide.2 (isname_any x V hxs)))
  have c1:=h1.cell
  have f1:=h1.frozen
  have l1:IntKind.i64.wrap ((pre.length:Int) + 1) = (pre.length:Int) + 1:=IntWalk.i64_in _ (by omega)
  have HV:=Lib.hid hV
  have H0:=Lib.hid h0
  have hWl:w.heap.size + 1 < W.heap.size:=h1.lt
  clear h1 h0 hV hy1 hy0
  gi_wp2_with gi_round_op_a
  rw [HV.out]
  refine ⟨trivial,?_⟩
  refine HN.out.mono ?_
  rintro e w4 ⟨rfl,hb4⟩
  have hVs:V.heap.size ≤ w4.heap.size:=hb4.size
  have hk4:KpS W0.heap.size W w4:=fun j hj => by
   have hj':j < W.heap.size:=by
    have h2:=hsp.ne
    omega
   exact (hb4.block j (by have:=g1.size;omega)).trans (g1.block j hj' (fun e => by have:=Option.some.inj e;have:=hsp.ne;omega))
  have hkf:KeepsFrom W1.heap.size W w4:=⟨Nat.le_trans g1.size hVs,fun j o hj ho _ => by
   have hj':=(Array.getElem?_eq_some_iff.1 ho).1
   exact (hb4.block j (by have:=g1.size;omega)).trans ((g1.block j hj' (fun e => by have:=Option.some.inj e;omega)).trans ho)⟩
  have x1:Boxed w4 (w.heap.size + 1) 3 (.int .i64 ((pre.length:Int) + 1)):=(hb4.block _ v1.lt).trans v1
  have x0:Boxed w4 w.heap.size 4 (.bool false):=(hb4.block _ v0.lt).trans v0
  have hb5:Below w.heap.size w w4:=hbV.trans (hb4.mono hbV.size)
  have c4:=x1.cell
  have c5:=x0.cell
  have f5:=x0.frozen
  cases hno:nameOk x with
  | false =>
   have HBAD:Hid (pathOk s = false):=Lib.hid (by unfold pathOk;rw [List.all_eq_false.2 ⟨x,by rw [hsp2];simp,by simp [hno]⟩];rfl)
   clear hno
   gi_wp2_with gi_round_op_a
   have g5:w4.grownBy (w4.setCell ⟨w.heap.size,0,none⟩ (.bool false)) (some w.heap.size):=grownBy_setCell' _ _ _
   refine ⟨⟨Nat.le_trans hkf.size g5.size,fun j o hj ho hc => ?_⟩,⟨x0.set _,hb5.grown g5 hb5.size (fun k e => by have:=Option.some.inj e;omega)⟩,rfl,HBAD.out⟩
   have h2:=hkf.same j o hj ho hc
   exact (g5.block j (Array.getElem?_eq_some_iff.1 h2).1 (fun e => by have:=Option.some.inj e;omega)).trans h2
  | true =>
   have hall2:(pre ++ [x]).all nameOk = true:=by rw [List.all_append,hall];simp [hno]
   by_cases h8:pre.length + 1 ≤ 8
   ·have d8:decide ((8:Int) < (pre.length:Int) + 1) = false:=decide_eq_false (by omega)
    clear hno
    gi_wp2_with gi_round_op_a
    refine ⟨hkf,hk4,Nat.le_trans hWz hkf.size,⟨?_,x0⟩,hb5,hall2,by simpa using h8⟩
    rw [List.length_append]
    exact x1
   ·have d8:decide ((8:Int) < (pre.length:Int) + 1) = true:=decide_eq_true (by omega)
    have HBAD:Hid (pathOk s = false):=Lib.hid (by
     unfold pathOk
     rw [decide_eq_false (p:=(nms s).length ≤ 8) (by rw [hsp2,List.length_append,List.length_cons];omega),Bool.and_false])
    clear hno
    gi_wp2_with gi_round_op_a
    have g5:w4.grownBy (w4.setCell ⟨w.heap.size,0,none⟩ (.bool false)) (some w.heap.size):=grownBy_setCell' _ _ _
    refine ⟨⟨Nat.le_trans hkf.size g5.size,fun j o hj ho hc => ?_⟩,⟨x0.set _,hb5.grown g5 hb5.size (fun k e => by have:=Option.some.inj e;omega)⟩,rfl,HBAD.out⟩
    have h2:=hkf.same j o hj ho hc
    exact (g5.block j (Array.getElem?_eq_some_iff.1 h2).1 (fun e => by have:=Option.some.inj e;omega)).trans h2
 case done =>
  rintro D W hD ⟨_,⟨h1,h0⟩,hb,hall,hlen⟩ hK
  have c0:=h0.cell
  have f0:=h0.frozen
  have HOK:Hid (pathOk s = true):=Lib.hid (by unfold pathOk;rw [hall,decide_eq_true hlen];rfl)
  have HB:=Lib.hid hb
  have HK:=Lib.hid hK
  have H0:=Lib.hid h0
  clear hb hall hlen h1 h0 hK
  gi_wp2
  have hb2:=H0.out.set (.bool true)
  have g2:W.grownBy (W.setCell ⟨w.heap.size,0,none⟩ (.bool true)) (some w.heap.size):=grownBy_setCell' _ _ _
  have hK2:=(g2.block D (Array.getElem?_eq_some_iff.1 HK.out).1 (fun e => by have:=Option.some.inj e;omega)).trans HK.out
  have hB2:=HB.out.grown g2 HB.out.size (fun k e => by have:=Option.some.inj e;omega)
  generalize W.setCell ⟨w.heap.size,0,none⟩ (.bool true) = V at hb2 hK2 hB2 ⊢
  refine ⟨by simp,.inl ⟨_,_,rfl,run_takeDeferred hK2,?_⟩⟩
  have h3:Boxed (V.putObj D (.deferred none)) w.heap.size 4 (.bool true):=(World.putObj_heap_other (by omega)).trans hb2
  have hB3:=hB2.grown (grownBy_putObj' V D (.deferred none)) hB2.size (fun k e => by have:=Option.some.inj e;omega)
  have c3:=h3.cell
  refine ⟨.bool true,?_,by rw [HOK.out],hB3⟩
  simp only [results,show Tryz.f13.results = #[ResultVar.cell 2 4] from rfl]
  go_simp
 case stop =>
  rintro D c W hD ⟨⟨h0,hb⟩,rfl,hno⟩ hK
  have c0:=h0.cell
  have HB:=Lib.hid hb
  have HK:=Lib.hid hK
  have H0:=Lib.hid h0
  clear hb h0 hK
  gi_wp2
  refine ⟨by simp,.inl ⟨_,_,rfl,run_takeDeferred HK.out,?_⟩⟩
  have h3:Boxed (W.putObj D (.deferred none)) w.heap.size 4 (.bool false):=(World.putObj_heap_other (by omega)).trans H0.out
  have hB3:=HB.out.grown (grownBy_putObj' W D (.deferred none)) HB.out.size (fun k e => by have:=Option.some.inj e;omega)
  have c3:=h3.cell
  refine ⟨.bool false,?_,by rw [hno],hB3⟩
  simp only [results,show Tryz.f13.results = #[ResultVar.cell 2 4] from rfl]
  go_simp
end Go.Proofs.YtmhjpmenngjmeaaGreatDoor
