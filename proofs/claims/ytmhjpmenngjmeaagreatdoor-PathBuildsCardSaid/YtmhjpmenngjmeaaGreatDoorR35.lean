/- YtmhjpmenngjmeaaGreatDoorR35: texts CE, CO of this claim, in one. -/
import Derived.Test.YtmhjpmenngjmeaaGreatDoorR17
import Derived.Test.YtmhjpmenngjmeaaGreatDoorR29
import Derived.Test.YtmhjpmenngjmeaaGreatDoorR31
namespace Go.Proofs.YtmhjpmenngjmeaaGreatDoor
open Go.RowKit Go.Maps Go.Sort Go.Shelf
set_option maxRecDepth 100000
def encEs (x:EJ):Array Value:=#[.agg (encE x).toArray]
theorem ent34 (x:EJ):(Tryz.prog.info? 84).map (·.size) = some (encE x).length:=by rw [encE_len];kernel_rfl
theorem rowE_open {w:World} {v:Value} {L:List EJ} (h:RowOf w v 34 (L.map encE)):∃ ao cap,v = .slice ao L.length cap ∧ L.length ≤ maxLen ∧ (L ≠ [] → ∃ b off,ao = some ⟨b,off,none⟩ ∧ b < w.heap.size ∧ ∀ k (hk:k < L.length),w.rangeAt b (off + k * 34) (encE L[k])):=by
 obtain ⟨ao,cap,rfl,hm,h⟩:=h
 rw [List.length_map] at hm ⊢
 refine ⟨ao,cap,rfl,hm,fun hne => ?_⟩
 obtain ⟨b,off,e,hl,hc⟩:=h (by simpa using hne)
 refine ⟨b,off,e,hl,fun k hk => ?_⟩
 have:=hc k (by simpa using hk)
 rwa [List.getElem_map] at this
set_option maxHeartbeats 2000000 in
theorem ivalsE (n:Nat) (hn:1 ≤ n) (Bc:Nat) (v:Value) (L:List EJ) (w:World) (hc:w.cell? ⟨Bc,0,none⟩ = some v) (hv:RowOf w v 34 (L.map encE)) (Bs:Option Nat) :
  SeqCell Fence.wide n Tryz.prog 96 #[.pointer (some ⟨Bc,0,none⟩)] encEs (Below w.heap.size) Bs L w:=fun l J Jx W hW hJ hJx hY h0 => by
 obtain ⟨zs,i0,hi,hz0,hz1,hz2,hzv,hbu,hzs⟩:=ent_zero
 have hzl:zs.size = 34:=by rw [hzs];simp
 obtain ⟨ao,cap,rfl,hmax,hcells⟩:=rowE_open hv
 unfold maxLen at hmax
 have hcW:W.cell? ⟨Bc,0,none⟩ = some (.slice ao L.length cap):=(hW.cell (p:=⟨Bc,0,none⟩) (World.block_lt_of_cell? w _ hc)).trans hc
 have HCE:=Lib.hid hcells
 have HJ:=Lib.hid hJ
 have HY:=Lib.hid hY
 have HI:=Lib.hid (And.intro hz0 (And.intro hz2 hzs))
 clear hc hcells hJ hY hbu hz0 hz2 hzs
 change CallsIn Fence.wide n Tryz.prog 96 #[.func (.yield l) #[] #[],.pointer (some ⟨Bc,0,none⟩)] W _
 refine callsIn_of_wp Tryz.func96 rfl trivial ?_ rfl
 simp only [Tryz.ntmps96,List.size_toArray,List.length_cons,List.length_nil,Nat.reduceAdd,Nat.reduceSub,Array.replicate_succ,Array.replicate_zero,List.push_toArray,List.append_toArray,List.nil_append,List.cons_append]
 gi_wp2
 gi_loopw [7] (fun i wr => ∃ (pre rest:List EJ),i = .int .i64 (pre.length:Int) ∧ Hid (L = pre ++ rest) ∧ Below w.heap.size w wr ∧ J pre wr) (fun i _ => (L.length - intOf i).toNat)
 case atStart => exact ⟨[],L,rfl,Lib.hid rfl,hW,h0⟩
 case round =>
  obtain ⟨pre,rest,rfl,hL,hb,hJs⟩:=hrel
  have HB:=Lib.hid hb
  have HL:=Lib.hid hL.out
  clear hb hL
  cases rest with
  | nil =>
   have HEND:Hid (J L wr):=Lib.hid (by have:=HL.out;rw [List.append_nil] at this;rw [this];exact hJs)
   have d1:¬ pre.length < L.length:=by rw [HL.out];simp
   gi_wp2
   go_end0
   exact ⟨⟨_,rfl⟩,.inl HEND.out⟩
  | cons x rest =>
   have hlt:pre.length < L.length:=by rw [HL.out];simp
   obtain ⟨b,off,rfl,hbl,hcell⟩:=HCE.out (by intro e;rw [e] at hlt;simp at hlt)
   have hx:L[pre.length] = x:=by simp [HL.out]
   have f0:=hcell pre.length hlt
   rw [hx] at f0
   have f1:=rangeAt_below f0 HB.out hbl
   have h34:=ent34 x
   obtain ⟨k,hk⟩:∃ k,pre.length = k:=⟨_,rfl⟩
   have hxl:=encE_len x
   obtain ⟨W3,hW3⟩:∃ W3,(wr.alloc (.cells zs 84)).setCells wr.heap.size 0 (encE x) = W3:=⟨_,rfl⟩
   have wr3:=wrote (by rw [hxl,hzl]) (by rw [hzl];omega) hW3
   have hJ3:J pre W3:=HJ.out pre wr W3 hJs (grown_any (below_grownBy wr3.bel) _)
   obtain ⟨fn,tmps,assign,body,hy,hR⟩:=HY.out pre x rest W3 HL.out hJ3
   change Sem.run Tryz.prog (Instr.yield l #[.agg (encE x).toArray]) W3 = _ at hy
   have HTH:=Lib.hid (there_alloc wr zs 84 hzl)
   have HON:=Lib.hid (encE_one x)
   have HXL:=Lib.hid hxl
   have HROW:=Lib.hid wr3.row
   have HW3:=Lib.hid hW3
   have HR:=Lib.hid hR
   have HB3:=Lib.hid (HB.out.trans (wr3.bel.mono HB.out.size))
   have HK:=Lib.hid hk
   rw [hk] at hlt f1 ⊢
   have k0:(0:Int) ≤ k:=by omega
   have k1:(k:Int) < L.length:=by omega
   have d1:decide ((k:Int) < L.length) = true:=decide_eq_true k1
   clear hcell f0 hx hJs hJ3 hxl wr3 hW3 hR hk
   generalize encE x = ux at f1 h34 HTH HON HXL HROW HW3 hy
   gi_wp2_with (first
    | (refine wpListIn_load_mid rfl 84 _ rfl b (off + k * 34) rfl ux _ f1 Tryz.underlying84 rfl h34 ?_)
    | (refine wpListIn_store_mid rfl 84 _ _ rfl wr.heap.size 0 ux rfl rfl (by rw [HXL.out];exact HTH.out) h34 HON.out ?_)
    | (rw [HW3.out];refine wpListIn_load_mid rfl 84 _ rfl wr.heap.size 0 rfl ux _ HROW.out Tryz.underlying84 rfl h34 ?_)
    | gi_in)
   refine HR.out.mono ?_
   rintro e w4 (⟨rfl,hJ4,hk4⟩ | ⟨rfl,hJx4⟩)
   ·have HB4:=Lib.hid (HB3.out.trans hk4)
    have HL2:Hid (L = (pre ++ [x]) ++ rest):=Lib.hid (by rw [List.append_assoc];exact HL.out)
    have HK2:Hid ((pre ++ [x]).length = k + 1):=Lib.hid (by rw [List.length_append,HK.out];rfl)
    clear hk4
    gi_wp2
    go_roundw
    case rel => exact ⟨pre ++ [x],rest,by rw [HK2.out];go_num,Lib.hid HL2.out,HB4.out,hJ4⟩
    case measure => simp [intOf];omega
   ·gi_wp2
    refine bodyPost_ret (results_none rfl _ _ _) rfl ?_
    exact ⟨⟨_,rfl⟩,.inr hJx4⟩
theorem ivals_any (ao:Option Addr) (n c:Nat) (w:World):Calls Tryz.prog 54 #[.slice ao n c] w fun e w' => e = .returned (.func (.func 96) #[] #[.pointer (some ⟨w.heap.size,0,none⟩)]) ∧ w' = w.alloc (.cells #[.slice ao n c] 79):=by
 go_enter Tryz.func54,Tryz.ntmps54
 go_wp2
 go_ret
 exact ⟨rfl,rfl⟩
end Go.Proofs.YtmhjpmenngjmeaaGreatDoor
namespace Go.Proofs.YtmhjpmenngjmeaaGreatDoor
open Go.RowKit Go.Maps Go.Sort Go.Shelf
set_option maxRecDepth 100000
theorem entsBox_ne:79 ≠ 84:=by decide
def CoI (w:World) (pre:List EJ) (W:World):Prop:=(∃ v,Boxed W w.heap.size 79 v ∧ W.ownsRow (w.heap.size + 1) 84 34 v pre.length (flatC encE pre)) ∧ Below w.heap.size w W
set_option maxHeartbeats 2000000 in
theorem appendE (n : Nat) (hn : 2 ≤ n) (Bc : Nat) (v : Value) (L : List EJ) (w : World) (hc : w.cell? ⟨Bc, 0, none⟩ = some v) (hv : RowOf w v 34 (L.map encE)) (hL : L.length ≤ 1000000) :
    CallsIn Fence.wide n Tryz.prog 121 #[.slice none 0 0, .func (.func 96) #[] #[.pointer (some ⟨Bc, 0, none⟩)]] w fun e w' => ∃ u, e = .returned u ∧ w'.ownsRow w.heap.size 84 34 u L.length (flatC encE L) ∧ Below w.heap.size w w' := by
  obtain ⟨zs, i0, hi, hz0, hz1, hz2, hzv, hbu, hzs⟩ := ent_zero
  have hzl : zs.size = 34 := by rw [hzs]; simp
  have hBc := World.block_lt_of_cell? w _ hc
  clear hbu hzs
  refine callsIn_of_wp_marks Tryz.func121 rfl trivial ?_ rfl
  simp only [Tryz.ntmps121, List.size_toArray, List.length_cons, List.length_nil, Nat.reduceAdd, Nat.reduceSub, Array.replicate_succ, Array.replicate_zero, List.push_toArray, List.append_toArray, List.nil_append, List.cons_append]
  gi_wp2
  obtain ⟨W0, hW0⟩ : ∃ W0, w.alloc (.cells #[.slice none 0 0] 79) = W0 := ⟨_, rfl⟩
  have hs0 : W0.heap.size = w.heap.size + 1 := by rw [← hW0]; simp
  have hb0 : Below w.heap.size w W0 := by rw [← hW0]; exact (Below.refl _ w).alloc (Nat.le_refl _) _
  have hx0 : Boxed W0 w.heap.size 79 (.slice none 0 0) := by rw [← hW0]; exact Boxed.new w _ _
  rw [hW0]
  have hLies : ∀ pre, Lies W0.heap.size none (CoI w pre) := fun pre =>
    (lies_ex fun v => (lies_boxed (by simp)).and (lies_own (by simp))).and (lies_below (Nat.le_refl _) (by omega) (by simp))
  refine wpIn_rangeFunc_cell rfl (by omega) (gf := 96) (lb := #[.pointer (some ⟨Bc, 0, none⟩)]) rfl trivial (enters_of Tryz.func96 (by kernel_rfl) rfl)
    (ivalsE (n - 1) (by omega) Bc v L w hc hv none) belowK_t (below_put (by omega)) hb0 (by simp) (fun _ => rfl)
    (CoI w) (fun _ _ => False) hLies (fun _ => Lies.pure _ _ _) ⟨⟨_, hx0, World.ownsRow_nil _ _ _ _⟩, hb0⟩
    (fun x a' W => ∃ bx, w.heap.size < bx ∧ a' = { tmps := #[.slice none 0 0, .func (.func 96) #[] #[.pointer (some ⟨Bc, 0, none⟩)], .pointer (some ⟨w.heap.size, 0, none⟩), undef, .slice none 0 0, .pointer (some ⟨bx, 0, none⟩), .func (.func 96) #[] #[.pointer (some ⟨Bc, 0, none⟩)], .agg (encE x).toArray, undef, undef, undef, undef, undef], defers := [] } ∧ W.rangeAt bx 0 (encE x)) ?lies ?assign ?body ?done ?stop
  case lies => exact fun x a' => lies_ex fun bx => (Lies.pure _ _ _).and ((Lies.pure _ _ _).and (lies_range (by simp)))
  case assign =>
    intro l pre x W K hI hK
    obtain ⟨W3, hW3⟩ : ∃ W3, (W.alloc (.cells zs 84)).setCells W.heap.size 0 (encE x) = W3 := ⟨_, rfl⟩
    have hxl := encE_len x
    have wr3 := wrote (by rw [hxl, hzl]) (by rw [hzl]; omega) hW3
    have h34 := ent34 x
    have HK := Lib.hid (fun a' h => hK a' W3 (keeps_of_below wr3.bel) (wr3.bel.mono hI.2.size) ⟨by
      obtain ⟨⟨u, hu, hr⟩, _⟩ := hI
      exact ⟨u, (wr3.bel.block _ hu.lt).trans hu, own_below hr wr3.bel⟩, hI.2.trans (wr3.bel.mono hI.2.size)⟩ h)
    have HTH := Lib.hid (there_alloc W zs 84 hzl)
    have HON := Lib.hid (encE_one x)
    have HXL := Lib.hid hxl
    have HR := Lib.hid wr3.row
    have HW3 := Lib.hid hW3
    have HBX : Hid (w.heap.size < W.heap.size) := Lib.hid (by obtain ⟨⟨u, hu, _⟩, _⟩ := hI; exact hu.lt)
    clear hxl wr3 hW3 hI hK
    unfold encEs
    generalize encE x = ux at h34 HTH HON HXL HR HW3 HK ⊢
    gi_wp2_with (first
      | (refine wpListIn_store_mid rfl 84 _ _ rfl W.heap.size 0 ux rfl rfl (by rw [HXL.out]; exact HTH.out) h34 HON.out ?_; rw [HW3.out])
      | gi_round_op_a)
    exact HK.out _ ⟨W.heap.size, HBX.out, rfl, HR.out⟩
  case body =>
    rintro l pre x rest a' W hsp ⟨⟨u, hu, hrow⟩, hb⟩ ⟨bx, hbx, rfl, hrx⟩
    have h34 := ent34 x
    have hlen : pre.length + 1 ≤ L.length := by rw [hsp, List.length_append, List.length_cons]; omega
    have hcu := hu.cell
    have hfu := hu.frozen
    have hul := hu.lt
    have hba : Below W.heap.size W (W.alloc (.cells (encE x).toArray 84)) := (Below.refl _ _).alloc (Nat.le_refl _) _
    have HOWA := Lib.hid (own_below hrow hba)
    have HNEW : Hid (∀ j u, (encE x)[j]? = some u → (W.alloc (.cells (encE x).toArray 84)).cell? ((⟨W.heap.size, 0, none⟩ : Addr).add j) = some u) := Lib.hid (fun j u hj => cells_newL _ _ _ j u hj)
    have HFL := Lib.hid (flatC_append encE pre [x])
    have HXL := Lib.hid (encE_len x)
    have HON := Lib.hid (encE_one x)
    have HSZ : Hid (∀ w, (sizeOf 84).run Tryz.prog w = .ok (encE x).length w) := Lib.hid (fun w => by rw [encE_len]; kernel_rfl)
    have HU := Lib.hid hu
    have HB := Lib.hid hb
    have HROW := Lib.hid hrow
    have HNE := Lib.hid (ownsRow_ne_a hrow hu (fun cur e => entsBox_ne (Obj.cells.inj e).2.1))
    clear hu hb hrow hba
    have HU5 : ∀ w5 : World, (W.alloc (.cells (encE x).toArray 84)).grownBy w5 u.ownBlock → Boxed w5 w.heap.size 79 u := fun w5 hg => (HU.out.alloc _).kept hg (fun e => by
      rcases HNE.out with h | h
      · rw [h] at e; cases e
      · exact h e.symm)
    have HX1 : Hid (flatC encE [x] = encE x) := Lib.hid (by simp [flatC])
    generalize encE x = ux at h34 hrx HOWA HNEW HXL HON HSZ HX1 HU5
    gi_wp2_with (first
      | (refine wpListIn_load_mid rfl 84 _ rfl bx 0 rfl ux _ hrx Tryz.underlying84 rfl h34 ?_)
      | (refine wpListIn_buildSlice_one rfl (.tmp 9) 79 84 rfl ux zs rfl Tryz.underlying79 HSZ.out hzv (by rw [HXL.out]; omega) (by rw [HXL.out]; omega) ?_)
      | (gi_at_builtin; refine wpListIn_append_own _ rfl (.tmp 8) (.tmp 10) 79 rfl (w.heap.size + 1) 84 i0 (.agg zs) 34 56 Tryz.underlying79 hi hz0 hz1 hz2 hzl (by decide) u pre.length (flatC encE pre) rfl HOWA.out ⟨W.heap.size, 0, none⟩ 1 1 ux rfl HXL.out HNEW.out HON.out (by unfold maxLen; omega) (by omega) (by rw [World.size_alloc]; omega) ?_; intro u' w5 hown5 hg5 _
         have hu5 : Boxed w5 w.heap.size 79 u := HU5 w5 hg5
         have hcu5 := hu5.cell
         have hfu5 := hu5.frozen
         obtain ⟨co, cc, rfl⟩ := own_form hown5
         go_frame)
      | gi_round_op_a)
    have hu5 : Boxed w5 w.heap.size 79 u := HU5 w5 hg5
    have hb6 : w5.grownBy (w5.setCell ⟨w.heap.size, 0, none⟩ (.slice co (pre.length + 1) cc)) (some w.heap.size) := grownBy_setCell' _ _ _
    have hwa : W.grownBy w5 u.ownBlock := World.grownBy.trans (World.grownBy_alloc W _ _) hg5
    have hwb : Below w.heap.size W (w5.setCell ⟨w.heap.size, 0, none⟩ (.slice co (pre.length + 1) cc)) :=
      ((Below.refl _ W).grown hwa HB.out.size (fun k e => by have := (HROW.out.lt k e).1; omega)).grown hb6 (Nat.le_trans HB.out.size hwa.size) (fun k e => by cases e; omega)
    refine ⟨⟨hwb.size, fun k o hk hX ho => ?_⟩, hwb, ⟨⟨_, hu5.set _, ?_⟩, HB.out.trans hwb⟩⟩
    · refine (hb6.block k (Nat.lt_of_lt_of_le (Array.getElem?_eq_some_iff.1 hX).1 hwa.size) (fun e => by have := Option.some.inj e; omega)).trans ((hwa.block k (Array.getElem?_eq_some_iff.1 hX).1 (fun e => ?_)).trans hX)
      rcases ownsRow_ne_a HROW.out hX (fun cur e => by rw [e] at ho; cases ho) with h | h
      · rw [h] at e; cases e
      · exact h e.symm
    · have h6 := hown5.kept hb6 (ownsRow_ne_a hown5 hu5 (fun cur e => entsBox_ne (Obj.cells.inj e).2.1))
      rw [HFL.out, HX1.out, List.length_append]
      exact h6
  case done =>
    rintro D W hD ⟨⟨u, hu, hrow⟩, hb⟩ hK
    have hcu := hu.cell
    have HROW := Lib.hid hrow
    have HB := Lib.hid hb
    have HK := Lib.hid hK
    clear hrow hb
    gi_wp2
    refine ⟨by simp, .inl ⟨_, _, rfl, run_takeDeferred HK.out, ?_⟩⟩
    exact ⟨_, results_tmp rfl _ _ _, u, rfl, own_base (HROW.out.kept (grownBy_putObj_a _ _ _) (ownsRow_ne_a HROW.out HK.out (fun cur e => by cases e))) (by omega), HB.out.grown (grownBy_putObj_a _ _ _) HB.out.size (fun k e => by cases e; omega)⟩
  case stop => intro _ _ _ _ h _; exact h.elim
theorem collectE (n:Nat) (hn:3 ≤ n) (Bc:Nat) (v:Value) (L:List EJ) (w:World) (hc:w.cell? ⟨Bc,0,none⟩ = some v) (hv:RowOf w v 34 (L.map encE)) (hL:L.length ≤ 1000000) :
  CallsIn Fence.wide n Tryz.prog 94 #[.func (.func 96) #[] #[.pointer (some ⟨Bc,0,none⟩)]] w fun e w' => ∃ u,e = .returned u ∧ w'.ownsRow w.heap.size 84 34 u L.length (flatC encE L) ∧ Below w.heap.size w w':=by
 have h:=appendE (n - 1) (by omega) Bc v L w hc hv hL
 refine callsIn_of_wp Tryz.func94 rfl trivial ?_ rfl
 simp only [Tryz.ntmps94,List.size_toArray,List.length_cons,List.length_nil,Nat.reduceAdd,Nat.reduceSub,Array.replicate_succ,Array.replicate_zero,List.push_toArray,List.append_toArray,List.nil_append,List.cons_append]
 gi_wp2_with fail
 refine ⟨trivial,fun _ => by omega,?_⟩
 refine h.mono ?_
 rintro e w' ⟨u,rfl,hrow,hb⟩
 gi_wp2
 go_ret
 exact ⟨u,rfl,hrow,hb⟩
def SortsTo (N:Nat):Prop:=∀ (B:Nat) (q:Value) (l:List EJ) (w:World),OwnQ w B 34 q l.length (flatC encE l) → l.length ≤ N →
 Calls Tryz.prog 122 #[q,.int .i64 (l.length:Int),.func (.func 55) #[] #[]] w (StbAns B q l w)
theorem sortsTo_small:SortsTo 19:=fun B q l w hq hn => stable_small B q l w hq (by omega)
set_option maxHeartbeats 1000000 in
theorem sortE_any {N:Nat} (hN:SortsTo N) (B:Nat) (q:Value) (l:List EJ) (w:World) (hq:OwnQ w B 34 q l.length (flatC encE l)) (hn:l.length ≤ N) :
  Calls Tryz.prog 95 #[q,.func (.func 55) #[] #[]] w (StbAns B q l w):=by
 have HS:=Lib.hid (hN B q l w hq hn)
 obtain ⟨ao,cap,rfl⟩:∃ ao cap,q = .slice ao l.length cap:=by
  rcases hq.2 with ⟨rfl,h0⟩ | ⟨g,off,cap,rfl,_⟩
  ·exact ⟨none,0,by rw [h0]⟩
  ·exact ⟨_,_,rfl⟩
 clear hq
 go_enter Tryz.func95,Tryz.ntmps95
 go_wp2_with fail
 refine HS.out.mono ?_
 rintro e w1 ⟨rfl,h⟩
 go_wp2_with fail
 go_end0
 exact ⟨rfl,h⟩
def SsAns (l:List EJ) (w:World) (e:Ending) (w':World):Prop:=∃ u m,e = .returned u ∧ List.Perm m l ∧ Row2 m ∧ RowOf w' u 34 (m.map encE) ∧ Below w.heap.size w w'
set_option maxHeartbeats 1000000 in
theorem sstable_any {N:Nat} (hN:SortsTo N) (Bc:Nat) (v:Value) (L:List EJ) (w:World) (hc:w.cell? ⟨Bc,0,none⟩ = some v) (hv:RowOf w v 34 (L.map encE)) (hL:L.length ≤ 1000000) (hn:L.length ≤ N) :
  Calls Tryz.prog 53 #[.func (.func 96) #[] #[.pointer (some ⟨Bc,0,none⟩)],.func (.func 55) #[] #[]] w (SsAns L w):=by
 have HC:=Lib.hid (callsIn_wide.1 (collectE 3 (by omega) Bc v L w hc hv hL))
 clear hc hv
 go_enter Tryz.func53,Tryz.ntmps53
 go_wp2_with fail
 refine HC.out.mono ?_
 rintro e w1 ⟨u,rfl,hrow,hb⟩
 have hq:OwnQ w1 w.heap.size 34 u L.length (flatC encE L):=OwnQ.of_own hrow
 have HS:=Lib.hid (sortE_any hN w.heap.size u L w1 hq hn)
 have HLT:=Lib.hid (fun k (hk:u.ownBlock = some k) => (hrow.lt k hk).1)
 have HB:=Lib.hid hb
 clear hrow hb hq HC
 go_wp2_with fail
 refine HS.out.mono ?_
 rintro e w2 ⟨rfl,m,hp,hr,hq2,hg2⟩
 have HB2:=Lib.hid (HB.out.grown hg2 HB.out.size HLT.out)
 have hml:=hp.length_eq
 rw [← hml] at hq2
 have HR:=Lib.hid (rowOf_ownQ encE 34 encE_len hq2)
 have HP:=Lib.hid hp
 have HR2:=Lib.hid hr
 clear hml hq2 hp hr hg2 HS
 go_wp2
 go_ret
 exact ⟨_,m,rfl,HP.out,HR2.out,HR.out,HB2.out⟩
end Go.Proofs.YtmhjpmenngjmeaaGreatDoor
