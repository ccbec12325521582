/- YtbmiiiccnoiffaaGreatDoorO44: texts Q0, Q2 of this claim, in one. -/
import Derived.Deep.CutRange
import Derived.Laws.MakeOwn
import Derived.Test.YtbmiiiccnoiffaaGreatDoorO17
import Derived.Test.YtbmiiiccnoiffaaGreatDoorO30
import Derived.Test.YtbmiiiccnoiffaaGreatDoorO41
import Derived.Test.YtbmiiiccnoiffaaGreatDoorO42
import Derived.Test.YtbmiiiccnoiffaaGreatDoorO43
namespace Go.Proofs.YtbmiiiccnoiffaaGreatDoor
open Go.RowKit
/-- The law's argument, carried along. -/
structure StH (w0 : World) (v : Value) (l : List Ob) (w : World) : Prop where
  row : ObRow w v l
  ld : Laid w
  bel : Below w0.heap.size w0 w
theorem StH.step {w0 w w' : World} {v : Value} {l : List Ob} (h : StH w0 v l w) (hb : Below w.heap.size w w') : StH w0 v l w' :=
  ⟨h.row.below hb, h.ld.below hb, h.bel.trans (hb.mono h.bel.size)⟩
theorem obGreat_40 {l : List Ob} (h : obGreat l = false) : l.length ≤ 40 := by
  unfold obGreat at h
  simp only [Bool.or_eq_false_iff, decide_eq_false_iff_not] at h
  omega

/-- All that a law carries along. -/
structure HSt (w0 : World) (v : Value) (l : List Ob) (r vl vi : Value) (B : Nat) (rows : List (Nat × List Value)) (W : World) : Prop where
  st : StH w0 v l W
  sr : SrcP W r (getS l)
  sw : SrcRow W (.agg #[vl, vi]) l
  ar : W.rangeAt B 0 [vl, vi] ∧ B < W.heap.size
  rw : ∀ p ∈ rows, W.rangeAt p.1 0 p.2 ∧ p.1 < W.heap.size
theorem HSt.step {w0 : World} {v : Value} {l : List Ob} {r vl vi : Value} {B : Nat} {rows : List (Nat × List Value)} {W W' : World} (h : HSt w0 v l r vl vi B rows W) (hb : Below W.heap.size W W') : HSt w0 v l r vl vi B rows W' :=
  ⟨h.st.step hb, h.sr.below hb, h.sw.below hb, ⟨rangeAt_below h.ar.1 hb h.ar.2, Nat.lt_of_lt_of_le h.ar.2 hb.size⟩, fun p hp => ⟨rangeAt_below (h.rw p hp).1 hb (h.rw p hp).2, Nat.lt_of_lt_of_le (h.rw p hp).2 hb.size⟩⟩
theorem HSt.c0 {w0 : World} {v : Value} {l : List Ob} {r vl vi : Value} {B : Nat} {rows : List (Nat × List Value)} {W : World} (h : HSt w0 v l r vl vi B rows W) : W.cell? ⟨B, 0, none⟩ = some vl := h.ar.1 0 _ rfl
theorem HSt.c1 {w0 : World} {v : Value} {l : List Ob} {r vl vi : Value} {B : Nat} {rows : List (Nat × List Value)} {W : World} (h : HSt w0 v l r vl vi B rows W) : W.cell? ⟨B, 1, none⟩ = some vi := h.ar.1 1 _ rfl
theorem HSt.row0 {w0 : World} {v : Value} {l : List Ob} {r vl vi : Value} {B : Nat} {p : Nat × List Value} {rows : List (Nat × List Value)} {W : World} (h : HSt w0 v l r vl vi B (p :: rows) W) : W.rangeAt p.1 0 p.2 := (h.rw p (by simp)).1
/-- What a law carries along, where it asks the program alone. -/
structure HSp (w0 : World) (v : Value) (l : List Ob) (r : Value) (rows : List (Nat × List Value)) (W : World) : Prop where
  st : StH w0 v l W
  sr : SrcP W r (getS l)
  rw : ∀ p ∈ rows, W.rangeAt p.1 0 p.2 ∧ p.1 < W.heap.size
theorem HSp.step {w0 : World} {v : Value} {l : List Ob} {r : Value} {rows : List (Nat × List Value)} {W W' : World} (h : HSp w0 v l r rows W) (hb : Below W.heap.size W W') : HSp w0 v l r rows W' :=
  ⟨h.st.step hb, h.sr.below hb, fun p hp => ⟨rangeAt_below (h.rw p hp).1 hb (h.rw p hp).2, Nat.lt_of_lt_of_le (h.rw p hp).2 hb.size⟩⟩
theorem HSp.row0 {w0 : World} {v : Value} {l : List Ob} {r : Value} {p : Nat × List Value} {rows : List (Nat × List Value)} {W : World} (h : HSp w0 v l r (p :: rows) W) : W.rangeAt p.1 0 p.2 := (h.rw p (by simp)).1
section
variable {l : List Ob} {U : List Idl} (HU : CmOk (cmG (getS l)) U) {id : Idl} (hid : id.length = 32)
include HU hid
theorem lin_yes {S : List Idl} (hl : lineL (cmG (getS l)) id = some S) (r : Value) (W : World) (h : SrcP W r (getS l)) : Calls Tryz.prog 21 #[r, .agg (idC id).toArray] W fun e w' => ∃ v, e = .returned (.tuple #[v, .int .i64 0]) ∧ IdRow w' v S ∧ Below W.heap.size W w' := by
  refine (hline_any r (getS l) (fun x o h => (getS_some h).2.1) U HU id W h hid).mono ?_
  rintro e w' ⟨hb, ⟨S', v, h1, rfl, hr⟩ | ⟨h1, _⟩⟩
  · obtain rfl : S = S' := Option.some.inj (hl.symm.trans h1)
    exact ⟨v, rfl, hr, hb⟩
  · rw [hl] at h1; cases h1
theorem lin_no (hl : lineL (cmG (getS l)) id = none) (r : Value) (W : World) (h : SrcP W r (getS l)) : Calls Tryz.prog 21 #[r, .agg (idC id).toArray] W fun e w' => e = .returned (.tuple #[.slice none 0 0, .int .i64 13]) ∧ Below W.heap.size W w' := by
  refine (hline_any r (getS l) (fun x o h => (getS_some h).2.1) U HU id W h hid).mono ?_
  rintro e w' ⟨hb, ⟨S', v, h1, rfl, hr⟩ | ⟨h1, rfl⟩⟩
  · rw [hl] at h1; cases h1
  · exact ⟨rfl, hb⟩
theorem lgn_yes (ha : Acyc (cmG (getS l))) {S : List Idl} (hl : lineL (cmG (getS l)) id = some S) (n : Int) (r : Value) (W : World) (h : SrcP W r (getS l)) : Calls Tryz.prog 22 #[r, .agg (idC id).toArray, .int .i64 n] W fun e w' => ∃ v, e = .returned (.tuple #[v, .int .i64 0]) ∧ IdRow w' v (firstN n (logOf (cmG (getS l)) S)) ∧ Below W.heap.size W w' := by
  refine (hlogn_any r (getS l) (fun x o h => (getS_some h).2.1) U HU ha id n W h hid).mono ?_
  rintro e w' ⟨hb, ⟨S', v, h1, rfl, hr⟩ | ⟨h1, _⟩⟩
  · obtain rfl : S = S' := Option.some.inj (hl.symm.trans h1)
    exact ⟨v, rfl, hr, hb⟩
  · rw [hl] at h1; cases h1
theorem lgn_no (ha : Acyc (cmG (getS l))) (hl : lineL (cmG (getS l)) id = none) (n : Int) (r : Value) (W : World) (h : SrcP W r (getS l)) : Calls Tryz.prog 22 #[r, .agg (idC id).toArray, .int .i64 n] W fun e w' => e = .returned (.tuple #[.slice none 0 0, .int .i64 13]) ∧ Below W.heap.size W w' := by
  refine (hlogn_any r (getS l) (fun x o h => (getS_some h).2.1) U HU ha id n W h hid).mono ?_
  rintro e w' ⟨hb, ⟨S', v, h1, rfl, hr⟩ | ⟨h1, rfl⟩⟩
  · rw [hl] at h1; cases h1
  · exact ⟨rfl, hb⟩
theorem age_yes (ha : Acyc (cmG (getS l))) {S : List Idl} (hl : lineL (cmG (getS l)) id = some S) (r : Value) (W : World) (h : SrcP W r (getS l)) : Calls Tryz.prog 23 #[r, .agg (idC id).toArray] W fun e w' => e = .returned (.tuple #[.int .i64 (ageOf (cmG (getS l)) id : Int), .int .i64 0]) ∧ Below W.heap.size W w' := by
  refine (hage_any r (getS l) (fun x o h => (getS_some h).2.1) U HU ha id W h hid).mono ?_
  rintro e w' ⟨hb, ⟨_, rfl⟩ | ⟨h1, _⟩⟩
  · exact ⟨rfl, hb⟩
  · rw [hl] at h1; cases h1
end
/-- 'Older' of two commits whose lines there are. -/
theorem old_yes {l : List Ob} {U : List Idl} (HU : CmOk (cmG (getS l)) U) {x y : Idl} (hx : x.length = 32) (hy : y.length = 32) {A B : List Idl} (hA : lineL (cmG (getS l)) x = some A) (hB : lineL (cmG (getS l)) y = some B) (r : Value) (W : World) (h : SrcP W r (getS l)) : Calls Tryz.prog 29 #[r, .agg (idC x).toArray, .agg (idC y).toArray] W fun e w' => e = .returned (.tuple #[.bool (olderL (cmG (getS l)) x y), .int .i64 0]) ∧ Below W.heap.size W w' := by
  refine (holder_any r (getS l) (fun x o h => (getS_some h).2.1) U HU x y W h hx hy).mono ?_
  rintro e w' ⟨hb, ⟨A', B', h1, h2, rfl⟩ | ⟨h1, _⟩⟩
  · exact ⟨by rw [olderL_line h2], hb⟩
  · rcases h1 with h1 | h1
    · rw [hA] at h1; cases h1
    · rw [hB] at h1; cases h1
theorem log32 {l : List Ob} {U : List Idl} (HU : CmOk (cmG (getS l)) U) {id : Idl} {S : List Idl} (hl : lineL (cmG (getS l)) id = some S) : ∀ y ∈ logOf (cmG (getS l)) S, y.length = 32 := fun y hy => (lineL_32 HU hl).1 y ((logOf_telling S).sub y hy)
end Go.Proofs.YtbmiiiccnoiffaaGreatDoor
namespace Go.Proofs.YtbmiiiccnoiffaaGreatDoor
open Go.RowKit
set_option maxRecDepth 100000 in
set_option maxHeartbeats 8000000 in
theorem horder_walk (v : Value) (l : List Ob) (id : Idl) (w : World) (hv : ObRow w v l) (hL : Laid w) (hid : id.length = 32) :
    Calls Tryz.prog 4 #[v, .agg (idC id).toArray] w fun e w' => e = .returned (.bool true) ∧ Below w.heap.size w w' := by
  have h32id := h32_of (us := idC id) (by rw [idC_len, hid])
  obtain ⟨W, hW⟩ : ∃ W, w.alloc (.cells (idC id).toArray 24) = W := ⟨_, rfl⟩
  have hbW : Below w.heap.size w W := by rw [← hW]; exact (Below.refl _ _).alloc (Nat.le_refl _) _
  have st : Hid (StH w v l W) := Lib.hid (StH.step ⟨hv, hL, Below.refl _ _⟩ hbW)
  have HRid : Hid (W.rangeAt w.heap.size 0 (idC id)) := Lib.hid (by rw [← hW]; exact range_new _ _ _ rfl)
  have HSW : Hid (W.heap.size = w.heap.size + 1) := Lib.hid (by rw [← hW]; simp)
  have HW := Lib.hid hW
  have HIDid := Lib.hid hid
  have HAL := Lib.hid (fun W (h : StH w v l W) => alive28_any W h.ld)
  have HGR := Lib.hid (fun W (h : StH w v l W) => rgreat_any v l W h.row)
  have HCL := Lib.hid (fun W (h : StH w v l W) => clash28_any v l W h.row)
  clear hbW hL hW hv hid
  generalize huid : idC id = uid at h32id HRid HW
  have HIAid := Lib.hid huid
  clear huid
  cases hg : obGreat l with
  | true =>
    rw [hg] at HGR
    clear hg
    go_enter Tryz.func4, Tryz.ntmps4
    go_wp2_with fail
    rw [HW.out]
    refine (HAL.out W st.out).mono ?_
    rintro e w1 ⟨rfl, hb1⟩
    have st1 := Lib.hid (st.out.step hb1)
    clear hb1
    go_wp2_with fail
    refine (HGR.out w1 st1.out).mono ?_
    rintro e w2 ⟨rfl, rfl⟩
    go_wp2_with fail
    refine (HAL.out _ st1.out).mono ?_
    rintro e w3 ⟨rfl, hb3⟩
    have st3 := Lib.hid (st1.out.step hb3)
    clear hb3
    go_wp2
    go_ret
    exact ⟨rfl, st3.out.bel⟩
  | false =>
    rw [hg] at HGR
    have hn := obGreat_40 hg
    clear hg
    cases hc : clashB l with
    | true =>
      rw [hc] at HCL
      clear hc
      go_enter Tryz.func4, Tryz.ntmps4
      go_wp2_with fail
      rw [HW.out]
      refine (HAL.out W st.out).mono ?_
      rintro e w1 ⟨rfl, hb1⟩
      have st1 := Lib.hid (st.out.step hb1)
      clear hb1
      go_wp2_with fail
      refine (HGR.out w1 st1.out).mono ?_
      rintro e w2 ⟨rfl, rfl⟩
      go_wp2_with fail
      refine (HCL.out _ st1.out).mono ?_
      rintro e w3 ⟨rfl, hb3⟩
      have st3 := Lib.hid (st1.out.step hb3)
      clear hb3
      go_wp2_with fail
      refine (HAL.out _ st3.out).mono ?_
      rintro e w4 ⟨rfl, hb4⟩
      have st4 := Lib.hid (st3.out.step hb4)
      clear hb4
      go_wp2
      go_ret
      exact ⟨rfl, st4.out.bel⟩
    | false =>
      rw [hc] at HCL
      have HLG : Hid (lastS l = getS l) := Lib.hid (funext fun x => last_get hc x)
      clear hc
      have HOF := Lib.hid (fun W (h : StH w v l W) => oof_any v l W h.row (by omega) h.ld)
      rw [HLG.out] at HOF
      have HRO := Lib.hid (fun W (h : StH w v l W) => rof_any v l W h.row (by omega))
      have HRN := Lib.hid (fun vl vi W (hs : SrcRow W (.agg #[vl, vi]) l) => rround_any vl vi l (by omega) W hs)
      obtain ⟨U, hU⟩ : ∃ U, U = (rights l).map idO := ⟨_, rfl⟩
      have HU : Hid (CmOk (cmG (getS l)) U) := Lib.hid (by rw [hU]; exact cmOk (by omega))
      have HROW : Hid (∀ X, Below W.heap.size W X → ∀ p ∈ [(w.heap.size, uid)], X.rangeAt p.1 0 p.2 ∧ p.1 < X.heap.size) := Lib.hid (fun X hX p hp => by
        have hsz := hX.size
        have hsw := HSW.out
        rw [List.mem_singleton.1 hp]
        exact ⟨rangeAt_below HRid.out hX (by omega), by show w.heap.size < _; omega⟩)
      clear hU HLG
      go_enter Tryz.func4, Tryz.ntmps4
      go_wp2_with fail
      rw [HW.out]
      refine (HAL.out W st.out).mono ?_
      rintro e w1 ⟨rfl, hb1⟩
      have st1 := Lib.hid (st.out.step hb1)
      have HB1 := Lib.hid hb1
      clear hb1 HW
      go_wp2_with fail
      refine (HGR.out w1 st1.out).mono ?_
      rintro e w2 ⟨rfl, rfl⟩
      go_wp2_with fail
      refine (HCL.out _ st1.out).mono ?_
      rintro e w3 ⟨rfl, hb3⟩
      have st3 := Lib.hid (st1.out.step hb3)
      have HB3 := Lib.hid (HB1.out.trans (hb3.mono HB1.out.size))
      clear hb3
      go_wp2_with fail
      refine (HRO.out _ st3.out).mono ?_
      intro e w4 h
      obtain ⟨vl0, vi0, rfl, ho1, ho2, hb4⟩ := h
      have st4 := Lib.hid (st3.out.step hb4)
      have HB4 := Lib.hid (HB3.out.trans (hb4.mono HB3.out.size))
      have HSR4 : Hid (SrcRow w4 (.agg #[vl0, vi0]) l) := Lib.hid ⟨vl0, vi0, rfl, ho1, ho2⟩
      clear hb4 ho1 ho2
      go_wp2_with fail
      refine (HRN.out vl0 vi0 w4 HSR4.out).mono ?_
      intro e w5 h
      obtain ⟨b, rfl, hac, hb5⟩ := h
      have st5 := Lib.hid (st4.out.step hb5)
      have HB5 := Lib.hid (HB4.out.trans (hb5.mono HB4.out.size))
      have HAC := Lib.hid hac
      clear hb5 hac HSR4
      cases b with
      | true =>
        go_wp2_with fail
        refine (HAL.out _ st5.out).mono ?_
        rintro e w6 ⟨rfl, hb6⟩
        have st6 := Lib.hid (st5.out.step hb6)
        clear hb6
        go_wp2
        go_ret
        exact ⟨rfl, st6.out.bel⟩
      | false =>
        have HACY : Hid (Acyc (cmG (getS l))) := Lib.hid (HAC.out rfl)
        clear HAC
        go_wp2_with fail
        refine (HOF.out w5 st5.out).mono ?_
        intro e w6 h
        obtain ⟨r, rfl, hsr, hb6⟩ := h
        have H6 : Hid (HSp w v l r [(w.heap.size, uid)] w6) := Lib.hid ⟨st5.out.step hb6, hsr, HROW.out w6 (HB5.out.trans (hb6.mono HB5.out.size))⟩
        clear hb6 hsr
        cases hl : lineL (cmG (getS l)) id with
        | none =>
          have hli := lin_no HU.out HIDid.out hl
          have hlo := lgn_no HU.out HIDid.out HACY.out hl 1000
          rw [HIAid.out] at hli hlo
          have HLI := Lib.hid hli
          have HLO := Lib.hid hlo
          clear hli hlo hl
          have f := H6.out.row0
          go_wp2_with (refine wpList_load_mid rfl 24 _ rfl w.heap.size 0 rfl uid _ f Tryz.underlying24 rfl h32id ?_)
          refine (HLI.out r w6 H6.out.sr).mono ?_
          rintro e w7 ⟨rfl, hb7⟩
          have H7 := Lib.hid (H6.out.step hb7)
          clear hb7 f H6
          have f := H7.out.row0
          go_wp2_with (refine wpList_load_mid rfl 24 _ rfl w.heap.size 0 rfl uid _ f Tryz.underlying24 rfl h32id ?_)
          refine (HLO.out r w7 H7.out.sr).mono ?_
          rintro e w8 ⟨rfl, hb8⟩
          have H8 := Lib.hid (H7.out.step hb8)
          clear hb8 f H7
          go_wp2
          go_loopw [10] (fun i wr => i = .int .i64 0 ∧ wr = w8) (fun _ _ => 0)
          case atStart => exact ⟨rfl, rfl⟩
          case round =>
            obtain ⟨rfl, rfl⟩ := hrel
            have hal := fun X : BW (World.heap wr).size wr => HAL.out X.out (H8.out.st.step X.hb)
            go_wp2_with fail
            refine wp_region_bq (by kernel_rfl) (by kernel_rfl) ?_
            repeat (go_big_quiet_step ((go_at_call 15; with_reducible exact calls_bw (hal _))))
            refine wpQuiet_nil ?_
            intro wq hbq
            have HE := Lib.hid (H8.out.st.step hbq)
            clear hbq
            go_wp2
            go_ret
            exact ⟨rfl, HE.out.bel⟩
        | some S =>
          have hon := logOn_of HU.out HACY.out hl
          have hlen := logOf_len HACY.out hon.asc.nodup
          have hli := lin_yes HU.out HIDid.out hl
          have hlo := lgn_yes HU.out HIDid.out HACY.out hl 1000
          have hfn : firstN 1000 (logOf (cmG (getS l)) S) = logOf (cmG (getS l)) S := by
            unfold firstN
            exact List.take_of_length_le (by have := hon.len; omega)
          rw [hfn] at hlo
          rw [HIAid.out] at hli hlo
          have HLI := Lib.hid hli
          have HLO := Lib.hid hlo
          have HON := Lib.hid hon
          have H32 := Lib.hid (log32 HU.out hl)
          have HHD := Lib.hid (log_head HACY.out (lineL_some hl).1)
          have HME : Hid (∀ x ∈ logOf (cmG (getS l)) S, x ∈ S) := Lib.hid (fun x hx => (logOf_telling S).sub x hx)
          have HSB : Hid (∀ x ∈ S, ∃ B, lineL (cmG (getS l)) x = some B) := Lib.hid (fun x hx => lineL_sub hl hx)
          have HNO : Hid (∀ k i (hki : k < i) (hi : i < (logOf (cmG (getS l)) S).length), olderL (cmG (getS l)) ((logOf (cmG (getS l)) S)[k]'(Nat.lt_trans hki hi)) (logOf (cmG (getS l)) S)[i] = false) := Lib.hid (fun k i hki hi => by
            obtain ⟨B, hB⟩ := HSB.out _ (HME.out _ (List.getElem_mem hi))
            exact order_no hl hki hi hB)
          have HNE : Hid (∀ k i (hki : k < i) (hi : i < (logOf (cmG (getS l)) S).length), (logOf (cmG (getS l)) S)[k]'(Nat.lt_trans hki hi) ≠ (logOf (cmG (getS l)) S)[i]) := Lib.hid (fun k i hki hi => order_ne hki hi)
          have HLEN := Lib.hid hlen
          clear hli hlo hl hon hfn hlen
          generalize logOf (cmG (getS l)) S = T at HLO H32 HHD HME HNO HNE HLEN
          have f := H6.out.row0
          go_wp2_with (refine wpList_load_mid rfl 24 _ rfl w.heap.size 0 rfl uid _ f Tryz.underlying24 rfl h32id ?_)
          refine (HLI.out r w6 H6.out.sr).mono ?_
          rintro e w7 ⟨va, rfl, hra, hb7⟩
          have H7 := Lib.hid (H6.out.step hb7)
          have HVA7 := Lib.hid hra
          clear hb7 f H6 hra
          have f := H7.out.row0
          go_wp2_with (refine wpList_load_mid rfl 24 _ rfl w.heap.size 0 rfl uid _ f Tryz.underlying24 rfl h32id ?_)
          refine (HLO.out r w7 H7.out.sr).mono ?_
          rintro e w8 ⟨vb, rfl, hrb, hb8⟩
          have H8 := Lib.hid (H7.out.step hb8)
          have HVA8 := Lib.hid (HVA7.out.below hb8)
          clear hb8 f H7 HVA7
          obtain ⟨aa, ca, rfl, _⟩ := HVA8.out.flat0
          obtain ⟨ab, cb, rfl, hmb, hcb⟩ := hrb.open
          unfold maxLen at hmb
          have HCB := Lib.hid hcb
          have hll : (S.length : Int) = T.length := by rw [HLEN.out]
          have hlle : ((S.length : Int) != (T.length : Int)) = false := by rw [hll]; simp
          have hT1 : T.length ≤ 1000 := by rw [HLEN.out]; exact HON.out.len
          clear hrb hcb hll
          go_wp2
          go_loopw [10] (fun i wr => ∃ k : Nat, i = .int .i64 (k : Int) ∧ k ≤ T.length ∧ Below w8.heap.size w8 wr) (fun i _ => (T.length - intOf i).toNat)
          case atStart => exact ⟨0, rfl, by omega, Below.refl _ _⟩
          case round =>
            obtain ⟨wo, rfl⟩ : ∃ wo : World, wo = wr := ⟨_, rfl⟩
            obtain ⟨k, rfl, hk, hb⟩ := hrel
            have HB := Lib.hid hb
            have HSO := Lib.hid (H8.out.step hb)
            have hszo := hb.size
            by_cases hlt : k < T.length
            · obtain ⟨bt, off, rfl, hbl, hcell⟩ := HCB.out (by intro e; rw [e] at hlt; simp at hlt)
              have HCL := Lib.hid (fun X (h : Below w8.heap.size w8 X) j (hj : j < T.length) => rangeAt_below (hcell j hj) h hbl)
              obtain ⟨x, hx⟩ : ∃ x, T[k] = x := ⟨_, rfl⟩
              have HXK := Lib.hid hx
              have hxT : x ∈ T := by rw [← hx]; exact List.getElem_mem hlt
              have hxl : x.length = 32 := H32.out x hxT
              have h32x := h32_of (us := idC x) (by rw [idC_len, hxl])
              have fx := HCL.out wo hb k hlt
              rw [hx] at fx
              have hin := rin_any (.slice aa S.length ca) S x wo (HVA8.out.below hb) HON.out.l32 hxl
              rw [show S.contains x = true from by rw [List.contains_eq_mem, decide_eq_true_iff]; exact HME.out x hxT] at hin
              have HIN := Lib.hid hin
              have HXL := Lib.hid hxl
              have HXT := Lib.hid hxT
              have k0 : (0 : Int) ≤ k := by omega
              have k1 : (k : Int) < T.length := by omega
              have d1 : decide ((k : Int) < T.length) = true := decide_eq_true k1
              clear hb hcell hx hxT hxl hin
              generalize hix : idC x = ux at h32x fx HIN
              have HIX := Lib.hid hix
              clear hix
              go_wp2_with (refine wpList_load_mid rfl 24 _ rfl bt (off + k * 32) rfl ux _ fx Tryz.underlying24 rfl h32x ?_)
              refine HIN.out.mono ?_
              rintro e w9 ⟨rfl, hb9⟩
              have HB9 := Lib.hid (HB.out.trans (hb9.mono hszo))
              clear hb9 fx HIN
              go_wp2
              go_loopw [11] (fun i wr => ∃ j : Nat, i = .int .i64 (j : Int) ∧ j ≤ k ∧ Below w8.heap.size w8 wr) (fun i _ => (k - intOf i).toNat)
              case atStart => exact ⟨0, rfl, by omega, HB9.out⟩
              case round =>
                obtain ⟨wi, rfl⟩ : ∃ wi : World, wi = wr := ⟨_, rfl⟩
                obtain ⟨j, rfl, hj, hbi⟩ := hrel
                have HBI := Lib.hid hbi
                have hszi := hbi.size
                have HSI := Lib.hid (H8.out.step hbi)
                by_cases hjk : j < k
                · have hjt : j < T.length := by omega
                  obtain ⟨y, hy⟩ : ∃ y, T[j] = y := ⟨_, rfl⟩
                  have hyT : y ∈ T := by rw [← hy]; exact List.getElem_mem hjt
                  have hyl : y.length = 32 := H32.out y hyT
                  have h32y := h32_of (us := idC y) (by rw [idC_len, hyl])
                  have fy := HCL.out wi hbi j hjt
                  rw [hy] at fy
                  have fx := HCL.out wi hbi k hlt
                  rw [HXK.out, HIX.out] at fx
                  have hno := HNO.out j k hjk hlt
                  rw [hy, HXK.out] at hno
                  have hne := HNE.out j k hjk hlt
                  rw [hy, HXK.out] at hne
                  have hold := fun X : BW (World.heap wi).size wi => (by
                    obtain ⟨B1, hB1⟩ := HSB.out y (HME.out y hyT)
                    obtain ⟨B2, hB2⟩ := HSB.out x (HME.out x HXT.out)
                    have := old_yes HU.out hyl HXL.out hB1 hB2 r X.out (HSI.out.sr.below X.hb)
                    rw [hno, HIX.out] at this
                    exact this : Calls Tryz.prog 29 #[r, .agg (idC y).toArray, .agg ux.toArray] X.out fun e w' => e = .returned (.tuple #[.bool false, .int .i64 0]) ∧ Below X.out.heap.size X.out w')
                  have heq := id_eqIn_no hyl HXL.out hne
                  rw [HIX.out] at heq
                  have HOLD := Lib.hid hold
                  have hbw : bt < wi.heap.size := by omega
                  have k0 : (0 : Int) ≤ k := by omega
                  have k1 : (k : Int) < T.length := by omega
                  have j0 : (0 : Int) ≤ j := by omega
                  have j1 : (j : Int) < T.length := by omega
                  have j2 : (j : Int) < k := by omega
                  have d2 : decide ((j : Int) < k) = true := decide_eq_true j2
                  clear hy hyT hyl hno hne hold hbi
                  generalize idC y = uy at h32y fy heq HOLD
                  go_wp2_with fail
                  refine wp_region_bq (by kernel_rfl) (by kernel_rfl) ?_
                  repeat (go_big_quiet_step ((go_at_call 29; with_reducible exact calls_bw (HOLD.out _))))
                  refine bq_row 24 _ _ rfl rfl rfl fy (by omega) Tryz.underlying24 rfl h32y ?_
                  simp only [Act.put, List.setIfInBounds_toArray, List.set_cons_zero, List.set_cons_succ]
                  repeat (go_big_quiet_step ((go_at_call 29; with_reducible exact calls_bw (HOLD.out _))))
                  refine bq_row 24 _ _ rfl rfl rfl fx (by omega) Tryz.underlying24 rfl h32x ?_
                  simp only [Act.put, List.setIfInBounds_toArray, List.set_cons_zero, List.set_cons_succ]
                  repeat (go_big_quiet_step ((go_at_call 29; with_reducible exact calls_bw (HOLD.out _))))
                  refine wpQuiet_nil ?_
                  intro wq hbq
                  have fyq := rangeAt_below fy hbq hbw
                  have fxq := rangeAt_below fx hbq hbw
                  have HBQ := Lib.hid (HBI.out.trans (hbq.mono hszi))
                  have hbw2 : bt < wq.heap.size := by have := hbq.size; omega
                  have hszq : w8.heap.size ≤ wq.heap.size := by have := hbq.size; omega
                  clear hbq fy fx
                  go_wp2_with fail
                  generalize hwq : wq = W9 at fyq fxq HBQ hbw2 hszq ⊢
                  clear hwq
                  refine wp_region_bq (by kernel_rfl) (by kernel_rfl) ?_
                  repeat (go_big_quiet_step (fail))
                  refine bq_row 24 _ _ rfl rfl rfl fyq (by omega) Tryz.underlying24 rfl h32y ?_
                  simp only [Act.put, List.setIfInBounds_toArray, List.set_cons_zero, List.set_cons_succ]
                  repeat (go_big_quiet_step (fail))
                  refine bq_row 24 _ _ rfl rfl rfl fxq (by omega) Tryz.underlying24 rfl h32x ?_
                  simp only [Act.put, List.setIfInBounds_toArray, List.set_cons_zero, List.set_cons_succ]
                  repeat (go_big_quiet_step (fail))
                  refine wpQuiet_nil ?_
                  intro wq hbq
                  have HBZ := Lib.hid (HBQ.out.trans (hbq.mono hszq))
                  clear hbq fyq fxq heq
                  go_wp2
                  go_roundw
                  case rel => exact ⟨j + 1, by go_num, by omega, HBZ.out⟩
                  case measure => simp [intOf]; omega
                · have d2 : decide ((j : Int) < k) = false := decide_eq_false (by omega)
                  clear hbi
                  go_wp2
                  go_roundw
                  case rel => exact ⟨k + 1, by go_num, by omega, HBI.out⟩
                  case measure => simp [intOf]; omega
            · obtain ⟨T2, hT2⟩ := HHD.out
              obtain ⟨bt, off, rfl, hbl, hcell⟩ := HCB.out (by rw [hT2]; simp)
              have hpos : 0 < T.length := by rw [hT2]; simp
              have fx := rangeAt_below (hcell 0 hpos) hb hbl
              have hT0 : T[0] = id := by simp [hT2]
              rw [hT0, HIAid.out, Nat.zero_mul, Nat.add_zero] at fx
              have fi := HSO.out.row0
              have hal := fun X : BW (World.heap wo).size wo => HAL.out X.out (HSO.out.st.step X.hb)
              have heq := id_eqIn_yes (x := id) (y := id) HIDid.out rfl
              rw [HIAid.out] at heq
              have d1 : decide ((k : Int) < T.length) = false := decide_eq_false (by omega)
              have d3 : decide ((0 : Int) < T.length) = true := decide_eq_true (by omega)
              have k3 : (0 : Int) < T.length := by omega
              have d4 : decide (0 < T.length) = true := decide_eq_true hpos
              have hbw : bt < wo.heap.size := by omega
              have hiw := (HSO.out.rw _ (List.mem_singleton.2 rfl)).2
              dsimp only at hiw
              clear hb hcell hT2 hT0
              go_wp2_with fail
              refine wp_region_bq (by kernel_rfl) (by kernel_rfl) ?_
              repeat (go_big_quiet_step ((go_at_call 15; with_reducible exact calls_bw (hal _))))
              refine bq_row 24 _ _ rfl rfl rfl fx (by omega) Tryz.underlying24 rfl h32id ?_
              simp only [Act.put, List.setIfInBounds_toArray, List.set_cons_zero, List.set_cons_succ]
              repeat (go_big_quiet_step ((go_at_call 15; with_reducible exact calls_bw (hal _))))
              refine bq_row 24 _ _ rfl rfl rfl fi (by omega) Tryz.underlying24 rfl h32id ?_
              simp only [Act.put, List.setIfInBounds_toArray, List.set_cons_zero, List.set_cons_succ]
              repeat (go_big_quiet_step ((go_at_call 15; with_reducible exact calls_bw (hal _))))
              refine wpQuiet_nil ?_
              intro wq hbq
              have HE := Lib.hid (HSO.out.st.step hbq)
              clear hbq fx fi heq
              go_wp2
              go_ret
              exact ⟨rfl, HE.out.bel⟩
end Go.Proofs.YtbmiiiccnoiffaaGreatDoor
