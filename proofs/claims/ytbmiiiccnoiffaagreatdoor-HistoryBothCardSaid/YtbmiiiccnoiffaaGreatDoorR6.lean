/- YtbmiiiccnoiffaaGreatDoorR6: texts JC of this claim, in one. -/
import Derived.Test.YtbmiiiccnoiffaaGreatDoorR4
import Derived.Test.YtbmiiiccnoiffaaGreatDoorR5
namespace Go.Proofs.YtbmiiiccnoiffaaGreatDoor
open Go.RowKit

def Rd.text (r : Rd) (most : Nat) : Rd × ByteArray :=
  if r.err ≠ 0 then (r, ByteArray.empty) else
    if ((r.num most).1.raw (r.num most).2).1.err ≠ 0 then ({ ((r.num most).1.raw (r.num most).2).1 with pos := r.pos }, ByteArray.empty) else (r.num most).1.raw (r.num most).2
def Rd.fin (r : Rd) : Nat := if r.err ≠ 0 then r.err else if r.pos < r.s.size then 5 else 0
theorem Rd.num_s (r : Rd) (most : Nat) : (r.num most).1.s = r.s := by unfold Rd.num; split; · rfl
                                                                      split <;> rfl
theorem Rd.raw_s (r : Rd) (n : Nat) : (r.raw n).1.s = r.s := by unfold Rd.raw; split; · rfl
                                                                split <;> rfl
theorem Rd.text_fine (r : Rd) (most : Nat) (h : r.fine) : (r.text most).1.fine := by
  have h1 := Rd.raw_fine _ (r.num most).2 (Rd.num_fine r most h).1
  unfold Rd.text
  split
  · exact h
  · split
    · exact ⟨by show r.pos ≤ ((r.num most).1.raw (r.num most).2).1.s.size; rw [Rd.raw_s, Rd.num_s]; exact h.pos, h1.size, h1.err⟩
    · exact h1

set_option maxHeartbeats 400000 in
theorem rend_any (b : Nat) (r : Rd) (w : World) (hA : Arr w b 3 r.c) (hf : r.fine) :
    Calls Tryz.prog 106 #[.pointer (some ⟨b, 0, none⟩)] w fun e w' => e = .returned (.int .i64 (r.fin : Int)) ∧ Below w.heap.size w w' := by
  have hbl : b < w.heap.size := hA.lt (by omega)
  have c0 : w.cell? ⟨b, 0, none⟩ = some (.string r.s) := hA.cell 0 (by omega)
  have c1 : w.cell? ⟨b, 1, none⟩ = some (.int .i64 (r.pos : Int)) := hA.cell 1 (by omega)
  have c2 : w.cell? ⟨b, 2, none⟩ = some (.int .i64 (r.err : Int)) := hA.cell 2 (by omega)
  have hs := hf.size
  clear hA hf
  by_cases h0 : r.err = 0
  · have h0' : ((r.err : Int) != 0) = false := by rw [bne_eq_false_iff_eq]; omega
    by_cases hlt : r.pos < r.s.size
    · have HR : Hid (r.fin = 5) := by unfold Hid Rd.fin; rw [if_neg (by simp [h0]), if_pos hlt]
      have hd : decide (r.pos < r.s.size) = true := decide_eq_true hlt
      have hd2 : decide ((r.pos : Int) < r.s.size) = true := decide_eq_true (by omega)
      clear h0
      go_enter Tryz.func106, Tryz.ntmps106
      go_wp2
      refine wp_region_bq (by kernel_rfl) (by kernel_rfl) ?_
      have LQ0 := fun x : BW (World.heap w).size w => below_load c0 x.hb (by omega)
      have LQ1 := fun x : BW (World.heap w).size w => below_load c1 x.hb (by omega)
      repeat (go_big_quiet_step (fail))
      refine wpQuiet_nil ?_
      intro wq hbq
      clear LQ0 LQ1
      go_wp2
      go_ret
      rw [HR.out]
      exact ⟨rfl, hbq⟩
    · have HR : Hid (r.fin = 0) := by unfold Hid Rd.fin; rw [if_neg (by simp [h0]), if_neg hlt]
      have hd : decide (r.pos < r.s.size) = false := decide_eq_false hlt
      have hd2 : decide ((r.pos : Int) < r.s.size) = false := decide_eq_false (by omega)
      clear h0
      go_enter Tryz.func106, Tryz.ntmps106
      go_wp2
      refine wp_region_bq (by kernel_rfl) (by kernel_rfl) ?_
      have LQ0 := fun x : BW (World.heap w).size w => below_load c0 x.hb (by omega)
      have LQ1 := fun x : BW (World.heap w).size w => below_load c1 x.hb (by omega)
      repeat (go_big_quiet_step (fail))
      refine wpQuiet_nil ?_
      intro wq hbq
      clear LQ0 LQ1
      go_wp2
      go_ret
      rw [HR.out]
      exact ⟨rfl, hbq⟩
  · have h0' : ((r.err : Int) != 0) = true := by rw [bne_iff_ne]; omega
    have HR : Hid (r.fin = r.err) := by unfold Hid Rd.fin; rw [if_pos h0]
    clear h0
    go_enter Tryz.func106, Tryz.ntmps106
    go_wp2
    go_ret
    rw [HR.out]
    exact ⟨rfl, Below.refl _ _⟩

set_option maxHeartbeats 400000 in
theorem rtext_any (b : Nat) (r : Rd) (most : Nat) (w : World) (hA : Arr w b 3 r.c) (hf : r.fine) (hn : most ≤ 1000000000) :
    Calls Tryz.prog 105 #[.pointer (some ⟨b, 0, none⟩), .int .i64 (most : Int)] w fun e w' => e = .returned (.string (r.text most).2) ∧ Arr w' b 3 (r.text most).1.c ∧ w.grownBy w' (some b) := by
  have c1 : w.cell? ⟨b, 1, none⟩ = some (.int .i64 (r.pos : Int)) := hA.cell 1 (by omega)
  have c2 : w.cell? ⟨b, 2, none⟩ = some (.int .i64 (r.err : Int)) := hA.cell 2 (by omega)
  by_cases h0 : r.err = 0
  · have h0' : ((r.err : Int) != 0) = false := by rw [bne_eq_false_iff_eq]; omega
    have HN := Lib.hid (rnum_any b r most w hA hf hn)
    obtain ⟨hf1, hn1⟩ := Rd.num_fine r most hf
    have HT : Hid (r.text most = if ((r.num most).1.raw (r.num most).2).1.err ≠ 0 then ({ ((r.num most).1.raw (r.num most).2).1 with pos := r.pos }, ByteArray.empty) else (r.num most).1.raw (r.num most).2) := by
      unfold Hid Rd.text; rw [if_neg (by simp [h0])]
    generalize r.num most = x at HN hf1 hn1 HT
    obtain ⟨r1, n⟩ := x
    have HF1 := Lib.hid hf1
    clear hA hf h0 hf1
    dsimp only at HN hn1 HT
    go_enter Tryz.func105, Tryz.ntmps105
    go_wp2_with fail
    refine HN.out.mono ?_
    rintro e w1 ⟨rfl, hA1, hg1⟩
    have HRW := Lib.hid (rraw_any b r1 n w1 hA1 HF1.out (by omega))
    have HG1 := Lib.hid hg1
    generalize r1.raw n = y at HRW HT
    obtain ⟨r2, s⟩ := y
    dsimp only at HRW HT
    clear hA1 hg1 c1 c2
    go_wp2_with fail
    refine HRW.out.mono ?_
    rintro e w2 ⟨rfl, hA2, hg2⟩
    have HG2 := Lib.hid (grown_trans HG1.out hg2)
    have d2 : w2.cell? ⟨b, 2, none⟩ = some (.int .i64 (r2.err : Int)) := hA2.cell 2 (by omega)
    have d1 : w2.cell? ⟨b, 1, none⟩ = some (.int .i64 (r2.pos : Int)) := hA2.cell 1 (by omega)
    have f1 := hA2.free 1 (by omega)
    have HA2 := Lib.hid hA2
    clear hA2 hg2
    by_cases h2 : r2.err = 0
    · have h2' : ((r2.err : Int) != 0) = false := by rw [bne_eq_false_iff_eq]; omega
      have HR : Hid (r.text most = (r2, s)) := by unfold Hid; rw [HT.out, if_neg (by simp [h2])]
      clear h2
      go_wp2
      go_ret
      rw [HR.out]
      exact ⟨rfl, HA2.out, HG2.out⟩
    · have h2' : ((r2.err : Int) != 0) = true := by rw [bne_iff_ne]; omega
      have HR : Hid (r.text most = ({ r2 with pos := r.pos }, ByteArray.empty)) := by unfold Hid; rw [HT.out, if_pos h2]
      clear h2
      go_wp2
      go_ret
      rw [HR.out]
      exact ⟨rfl, (HA2.out.set 1 (by omega) (.int .i64 (r.pos : Int))).congr (Rd.upd_pos r2 _), grown_set HG2.out _⟩
  · have h0' : ((r.err : Int) != 0) = true := by rw [bne_iff_ne]; omega
    have HR : Hid (r.text most = (r, ByteArray.empty)) := by unfold Hid Rd.text; rw [if_pos h0]
    have HA := Lib.hid hA
    clear h0 hA hf
    go_enter Tryz.func105, Tryz.ntmps105
    go_wp2
    go_ret
    rw [HR.out]
    exact ⟨rfl, HA.out, grown_of_below (Below.refl _ _) _⟩
end Go.Proofs.YtbmiiiccnoiffaaGreatDoor

namespace Go.Proofs.YtbmiiiccnoiffaaGreatDoor
open Go.RowKit

set_option maxHeartbeats 400000 in
theorem werr_any (b : Nat) (r : Rd) (w : World) (hA : Arr w b 3 r.c) :
    Calls Tryz.prog 227 #[.pointer (some ⟨b, 0, none⟩)] w fun e w' => e = .returned (.int .i64 (r.err : Int)) ∧ w' = w := by
  have c2 : w.cell? ⟨b, 2, none⟩ = some (.int .i64 (r.err : Int)) := hA.cell 2 (by omega)
  clear hA
  go_enter Tryz.func227, Tryz.ntmps227
  go_wp2
  go_ret
  exact ⟨rfl, rfl⟩
set_option maxHeartbeats 400000 in
theorem wat_any (b : Nat) (r : Rd) (w : World) (hA : Arr w b 3 r.c) :
    Calls Tryz.prog 229 #[.pointer (some ⟨b, 0, none⟩)] w fun e w' => e = .returned (.int .i64 (r.pos : Int)) ∧ w' = w := by
  have c1 : w.cell? ⟨b, 1, none⟩ = some (.int .i64 (r.pos : Int)) := hA.cell 1 (by omega)
  clear hA
  go_enter Tryz.func229, Tryz.ntmps229
  go_wp2
  go_ret
  exact ⟨rfl, rfl⟩
/-- The first error, and where the reader stands then. -/
def Rd.fail (r : Rd) (e p : Nat) : Rd := if r.err = 0 then { r with err := e, pos := p } else r
set_option maxHeartbeats 400000 in
theorem wfail_any (b : Nat) (r : Rd) (e p : Nat) (w : World) (hA : Arr w b 3 r.c) :
    Calls Tryz.prog 228 #[.pointer (some ⟨b, 0, none⟩), .int .i64 (e : Int), .int .i64 (p : Int)] w fun x w' => x = .returned (.tuple #[]) ∧ Arr w' b 3 (r.fail e p).c ∧ w.grownBy w' (some b) := by
  have c1 : w.cell? ⟨b, 1, none⟩ = some (.int .i64 (r.pos : Int)) := hA.cell 1 (by omega)
  have c2 : w.cell? ⟨b, 2, none⟩ = some (.int .i64 (r.err : Int)) := hA.cell 2 (by omega)
  have f1 := hA.free 1 (by omega)
  have f2 := hA.free 2 (by omega)
  have HA := Lib.hid hA
  clear hA
  by_cases h0 : r.err = 0
  · have h0' : ((r.err : Int) == 0) = true := by rw [beq_iff_eq]; omega
    have HR : Hid (r.fail e p = { r with err := e, pos := p }) := by unfold Hid Rd.fail; rw [if_pos h0]
    clear h0
    go_enter Tryz.func228, Tryz.ntmps228
    go_wp2
    go_end0
    rw [HR.out]
    exact ⟨rfl, (((HA.out.set 2 (by omega) (.int .i64 (e : Int))).congr (Rd.upd_err r e)).set 1 (by omega) (.int .i64 (p : Int))).congr (Rd.upd_pos _ p), grown_set (grown_set (grown_of_below (Below.refl _ _) _) _) _⟩
  · have h0' : ((r.err : Int) == 0) = false := by rw [beq_eq_false_iff_ne]; omega
    have HR : Hid (r.fail e p = r) := by unfold Hid Rd.fail; rw [if_neg h0]
    clear h0
    go_enter Tryz.func228, Tryz.ntmps228
    go_wp2
    go_end0
    rw [HR.out]
    exact ⟨rfl, HA.out, grown_of_below (Below.refl _ _) _⟩
end Go.Proofs.YtbmiiiccnoiffaaGreatDoor

namespace Go.Proofs.YtbmiiiccnoiffaaGreatDoor
open Go.RowKit

theorem Rd.fail_raw (r : Rd) (h0 : r.err = 0) : r.fail 3 r.pos = { r with err := 3 } := by unfold Rd.fail; rw [if_pos h0]
set_option maxRecDepth 100000 in
set_option maxHeartbeats 400000 in
theorem wraw_any (b : Nat) (r : Rd) (n : Nat) (w : World) (hA : Arr w b 3 r.c) (hf : r.fine) (hn : n ≤ 1000000000) :
    Calls Tryz.prog 230 #[.pointer (some ⟨b, 0, none⟩), .int .i64 (n : Int)] w fun e w' => e = .returned (.string (r.raw n).2) ∧ Arr w' b 3 (r.raw n).1.c ∧ w.grownBy w' (some b) := by
  have hbl : b < w.heap.size := hA.lt (by omega)
  have c0 : w.cell? ⟨b, 0, none⟩ = some (.string r.s) := hA.cell 0 (by omega)
  have c1 : w.cell? ⟨b, 1, none⟩ = some (.int .i64 (r.pos : Int)) := hA.cell 1 (by omega)
  have f1 := hA.free 1 (by omega)
  have hp := hf.pos
  have hs := hf.size
  have hn0 : decide ((n : Int) < 0) = false := decide_eq_false (by omega)
  have HA := Lib.hid hA
  have HE := Lib.hid (werr_any b r w hA)
  clear hA
  by_cases h0 : r.err = 0
  · have h0' : ((r.err : Int) != 0) = false := by rw [bne_eq_false_iff_eq]; omega
    by_cases hlt : r.s.size - r.pos < n
    · have HR : Hid (r.raw n = (r.fail 3 r.pos, ByteArray.empty)) := by unfold Hid Rd.raw; rw [if_neg (by simp [h0]), if_pos hlt, Rd.fail_raw r h0]
      have hd : decide ((r.s.size : Int) - r.pos < n) = true := decide_eq_true (by omega)
      have hw : IntKind.i64.wrap ((r.s.size : Int) - r.pos) = (r.s.size : Int) - r.pos := IntWalk.i64_in _ (by omega)
      have H0 := Lib.hid h0
      clear h0 hlt hf
      go_enter Tryz.func230, Tryz.ntmps230
      go_wp2_with fail
      refine HE.out.mono ?_
      rintro e w' ⟨rfl, rfl⟩
      go_wp2
      refine wp_region_bq (by kernel_rfl) (by kernel_rfl) ?_
      have LQ0 := fun x : BW (World.heap w').size w' => below_load c0 x.hb (by omega)
      have LQ1 := fun x : BW (World.heap w').size w' => below_load c1 x.hb (by omega)
      repeat (go_big_quiet_step (fail))
      refine wpQuiet_nil ?_
      intro wq hbq
      clear LQ0 LQ1
      have g1 := below_load c1 hbq hbl
      have HF := Lib.hid (wfail_any b r 3 r.pos wq (HA.out.below hbq hbl))
      have HB := Lib.hid hbq
      clear c0 c1 f1 hbq
      go_wp2_with fail
      refine HF.out.mono ?_
      rintro e w2 ⟨rfl, hA2, hg2⟩
      have HA2 := Lib.hid hA2
      have HG2 := Lib.hid (grown_trans (grown_of_below HB.out (some b)) hg2)
      clear hA2 hg2
      go_wp2
      go_ret
      rw [HR.out]
      exact ⟨rfl, HA2.out, HG2.out⟩
    · have HR : Hid (r.raw n = ({ r with pos := r.pos + n }, r.s.extract r.pos (r.pos + n))) := by unfold Hid Rd.raw; rw [if_neg (by simp [h0]), if_neg hlt]
      have hd : decide ((r.s.size : Int) - r.pos < n) = false := decide_eq_false (by omega)
      have hw : IntKind.i64.wrap ((r.s.size : Int) - r.pos) = (r.s.size : Int) - r.pos := IntWalk.i64_in _ (by omega)
      have hw2 : IntKind.i64.wrap ((r.pos : Int) + n) = (r.pos : Int) + n := IntWalk.i64_in _ (by omega)
      have HSL := fun w => slice_two r.s r.pos n (by omega) w
      have H0 := Lib.hid h0
      clear h0 hlt hf
      go_enter Tryz.func230, Tryz.ntmps230
      go_wp2_with fail
      refine HE.out.mono ?_
      rintro e w' ⟨rfl, rfl⟩
      go_wp2
      refine wp_region_bq (by kernel_rfl) (by kernel_rfl) ?_
      have LQ0 := fun x : BW (World.heap w').size w' => below_load c0 x.hb (by omega)
      have LQ1 := fun x : BW (World.heap w').size w' => below_load c1 x.hb (by omega)
      repeat (go_big_quiet_step (fail))
      refine wpQuiet_nil ?_
      intro wq hbq
      clear LQ0 LQ1
      obtain ⟨wa, rfl⟩ : ∃ wa : World, wa = wq := ⟨_, rfl⟩
      have hb1 := hbq
      clear hbq
      have d0 := below_load c0 hb1 hbl
      have d1 := below_load c1 hb1 hbl
      have hbl2 : b < wa.heap.size := by have := hb1.size; omega
      go_wp2
      refine wp_region_bq (by kernel_rfl) (by kernel_rfl) ?_
      have LQ0 := fun x : BW (World.heap wa).size wa => below_load d0 x.hb (by omega)
      have LQ1 := fun x : BW (World.heap wa).size wa => below_load d1 x.hb (by omega)
      repeat (go_big_quiet_step (fail))
      refine wpQuiet_nil ?_
      intro wq hbq
      clear LQ0 LQ1
      have hb2 := hb1.trans (hbq.mono hb1.size)
      have g1 := below_load c1 hb2 hbl
      have k1 : wq.frozen? ⟨b, 1, none⟩ = false := by rw [hb2.frozen (p := ⟨b, 1, none⟩) hbl]; exact f1
      have HB2 := Lib.hid hb2
      clear c0 c1 f1 d0 d1 hb1 hb2 hbq HSL
      go_wp2
      go_ret
      rw [HR.out]
      exact ⟨rfl, ((HA.out.below HB2.out hbl).set 1 (by omega) (.int .i64 ((r.pos + n : Nat) : Int))).congr (Rd.upd_pos r _), grown_set (grown_of_below HB2.out _) _⟩
  · have h0' : ((r.err : Int) != 0) = true := by rw [bne_iff_ne]; omega
    have HR : Hid (r.raw n = (r, ByteArray.empty)) := by unfold Hid Rd.raw; rw [if_pos h0]
    clear h0 hf
    go_enter Tryz.func230, Tryz.ntmps230
    go_wp2_with fail
    refine HE.out.mono ?_
    rintro e w' ⟨rfl, rfl⟩
    go_wp2
    go_ret
    rw [HR.out]
    exact ⟨rfl, HA.out, grown_of_below (Below.refl _ _) _⟩

set_option maxHeartbeats 400000 in
theorem wend_any (b : Nat) (r : Rd) (w : World) (hA : Arr w b 3 r.c) (hf : r.fine) :
    Calls Tryz.prog 208 #[.pointer (some ⟨b, 0, none⟩)] w fun e w' => e = .returned (.int .i64 (r.fin : Int)) ∧ Below w.heap.size w w' := by
  have hbl : b < w.heap.size := hA.lt (by omega)
  have c0 : w.cell? ⟨b, 0, none⟩ = some (.string r.s) := hA.cell 0 (by omega)
  have c1 : w.cell? ⟨b, 1, none⟩ = some (.int .i64 (r.pos : Int)) := hA.cell 1 (by omega)
  have hs := hf.size
  have HE := Lib.hid (werr_any b r w hA)
  clear hA hf
  by_cases h0 : r.err = 0
  · have h0' : ((r.err : Int) != 0) = false := by rw [bne_eq_false_iff_eq]; omega
    by_cases hlt : r.pos < r.s.size
    · have HR : Hid (r.fin = 5) := by unfold Hid Rd.fin; rw [if_neg (by simp [h0]), if_pos hlt]
      have hd : decide (r.pos < r.s.size) = true := decide_eq_true hlt
      have hd2 : decide ((r.pos : Int) < r.s.size) = true := decide_eq_true (by omega)
      clear h0
      go_enter Tryz.func208, Tryz.ntmps208
      go_wp2_with fail
      refine HE.out.mono ?_
      rintro e w' ⟨rfl, rfl⟩
      go_wp2
      refine wp_region_bq (by kernel_rfl) (by kernel_rfl) ?_
      have LQ0 := fun x : BW (World.heap w').size w' => below_load c0 x.hb (by omega)
      have LQ1 := fun x : BW (World.heap w').size w' => below_load c1 x.hb (by omega)
      repeat (go_big_quiet_step (fail))
      refine wpQuiet_nil ?_
      intro wq hbq
      clear LQ0 LQ1
      go_wp2
      go_ret
      rw [HR.out]
      exact ⟨rfl, hbq⟩
    · have HR : Hid (r.fin = 0) := by unfold Hid Rd.fin; rw [if_neg (by simp [h0]), if_neg hlt]
      have hd : decide (r.pos < r.s.size) = false := decide_eq_false hlt
      have hd2 : decide ((r.pos : Int) < r.s.size) = false := decide_eq_false (by omega)
      clear h0
      go_enter Tryz.func208, Tryz.ntmps208
      go_wp2_with fail
      refine HE.out.mono ?_
      rintro e w' ⟨rfl, rfl⟩
      go_wp2
      refine wp_region_bq (by kernel_rfl) (by kernel_rfl) ?_
      have LQ0 := fun x : BW (World.heap w').size w' => below_load c0 x.hb (by omega)
      have LQ1 := fun x : BW (World.heap w').size w' => below_load c1 x.hb (by omega)
      repeat (go_big_quiet_step (fail))
      refine wpQuiet_nil ?_
      intro wq hbq
      clear LQ0 LQ1
      go_wp2
      go_ret
      rw [HR.out]
      exact ⟨rfl, hbq⟩
  · have h0' : ((r.err : Int) != 0) = true := by rw [bne_iff_ne]; omega
    have HR : Hid (r.fin = r.err) := by unfold Hid Rd.fin; rw [if_pos h0]
    clear h0
    go_enter Tryz.func208, Tryz.ntmps208
    go_wp2_with fail
    refine HE.out.mono ?_
    rintro e w' ⟨rfl, rfl⟩
    go_wp2
    go_ret
    rw [HR.out]
    exact ⟨rfl, Below.refl _ _⟩
end Go.Proofs.YtbmiiiccnoiffaaGreatDoor

namespace Go.Proofs.YtbmiiiccnoiffaaGreatDoor
open Go.RowKit

/-- What was made in a call's own blocks, and in one row, by a call within it. -/
theorem grown_frame {w wa w1 w2 : World} {b : Nat} (h0 : Below w.heap.size w wa) (hg : wa.grownBy w1 (some b)) (hb : Below w.heap.size w1 w2) : w.grownBy w2 (some b) :=
  ⟨by rw [hb.os, hg.os, h0.os], by rw [hb.tape, hg.tape, h0.tape], by rw [hb.output, hg.output, h0.output], by have := h0.size; have := hg.size; have := hb.size; omega,
    fun k hk hne => by rw [hb.block k hk, hg.block k (by have := h0.size; omega) hne, h0.block k hk]⟩
theorem Arr.grown {w w' : World} {b n B : Nat} {c : Nat → Value} (h : Arr w b n c) (hg : w.grownBy w' (some B)) (hne : b ≠ B) : Arr w' b n c :=
  ⟨fun k hk => hg.cell (h.cell k hk) (by simpa using hne), fun k hk => by
    rw [World.frozen?_of_block (w := w) (a := ⟨b, k, none⟩) (hg.block b (h.lt (by omega)) (by simpa using hne))]; exact h.free k hk⟩

/-- The bytes of an id out of a text that has none, or 32. -/
def idOf (s : ByteArray) : List UInt8 := (List.range 32).map (blk s)
def Rd.id (r : Rd) : Rd × List UInt8 := ((r.raw 32).1, idOf (r.raw 32).2)
theorem idOf_len (s : ByteArray) : (idOf s).length = 32 := by simp [idOf]
theorem Rd.raw_size (r : Rd) (n : Nat) : (r.raw n).2.size ≤ n := by
  unfold Rd.raw
  split
  · exact Nat.zero_le _
  · split
    · exact Nat.zero_le _
    · show (r.s.extract r.pos (r.pos + n)).size ≤ n
      rw [ByteArray.size_extract]; omega
def idB (s : ByteArray) (n k : Nat) : Value := if k < n then .int .u8 ((blk s k).toNat : Int) else .int .u8 0
theorem idB_zero (s : ByteArray) : idB s 0 = fun _ => .int .u8 0 := by funext k; unfold idB; rw [if_neg (by omega)]
theorem idB_next (s : ByteArray) (n k : Nat) : upd (idB s n) n (.int .u8 ((blk s n).toNat : Int)) k = idB s (n + 1) k := by
  unfold upd idB
  by_cases e : k = n
  · subst e; rw [if_pos rfl, if_pos (by omega)]
  · rw [if_neg e]
    by_cases h : k < n
    · rw [if_pos h, if_pos (by omega)]
    · rw [if_neg h, if_neg (by omega)]
theorem idB_all (s : ByteArray) (k : Nat) : idB s s.size k = .int .u8 ((blk s k).toNat : Int) := by
  unfold idB
  by_cases h : k < s.size
  · rw [if_pos h]
  · rw [if_neg h]
    have e : blk s k = 0 := by unfold blk; rw [List.getD_eq_getElem?_getD, List.getElem?_eq_none (by simpa using h)]; rfl
    rw [e]; rfl
theorem idV_one (x : List UInt8) : ∀ v ∈ x.map (fun b => Value.int .u8 (b.toNat : Int)), v.oneCell' = true := by
  intro v hv; obtain ⟨x, _, rfl⟩ := List.mem_map.1 hv; rfl

set_option maxRecDepth 100000 in
set_option maxHeartbeats 800000 in
theorem rid_any (b : Nat) (r : Rd) (w : World) (hA : Arr w b 3 r.c) (hf : r.fine) :
    Calls Tryz.prog 103 #[.pointer (some ⟨b, 0, none⟩)] w fun e w' => e = .returned (idV r.id.2) ∧ Arr w' b 3 r.id.1.c ∧ w.grownBy w' (some b) := by
  have hbl : b < w.heap.size := hA.lt (by omega)
  have HR := Lib.hid (rraw_any b r 32 (w.alloc (.cells (Array.replicate 32 (.int .u8 0)) 24)) (hA.alloc (by omega) _) hf (by omega))
  have hs := Rd.raw_size r 32
  have HF : Hid (idV r.id.2 = .agg ((idOf (r.raw 32).2).map fun b => Value.int .u8 (b.toNat : Int)).toArray) := Lib.hid rfl
  have HG : Hid (r.id.1 = (r.raw 32).1) := Lib.hid rfl
  have hO := Arr.new w 32 (.int .u8 0) 24
  have HO := Lib.hid hO
  generalize r.raw 32 = x at HR hs HF HG
  obtain ⟨r1, s⟩ := x
  dsimp only at HR hs HF HG
  clear hA hf hO
  go_enter Tryz.func103, Tryz.ntmps103
  go_wp2_with fail
  refine HR.out.mono ?_
  rintro e w1 ⟨rfl, hA1, hg1⟩
  have HA1 := Lib.hid hA1
  have HG1 := Lib.hid hg1
  have HO1 := Lib.hid (HO.out.grown hg1 (by omega))
  have HX0 : Hid (Arr (w1.alloc (.cells (Array.replicate 32 (.int .u8 0)) 24)) w1.heap.size 32 (idB s 0)) := by rw [idB_zero]; exact Lib.hid (Arr.new w1 32 _ _)
  have hw1 : w.heap.size < w1.heap.size := HO1.out.lt (by omega)
  clear hA1 hg1
  go_wp2
  go_loopw [5] (fun i wr => ∃ k : Nat, k ≤ s.size ∧ i = .int .i64 k ∧ Arr wr w1.heap.size 32 (idB s k) ∧ Below w1.heap.size w1 wr) (fun i _ => (s.size - intOf i).toNat)
  case atStart => exact ⟨0, by omega, rfl, HX0.out, (Below.refl _ _).alloc (Nat.le_refl _) _⟩
  case round =>
    obtain ⟨wo, rfl⟩ : ∃ wo : World, wo = wr := ⟨_, rfl⟩
    obtain ⟨k, hk, rfl, hX, hb⟩ := hrel
    clear HX0
    by_cases hlt : k < s.size
    · have HI : ∀ w, (Instr.index 9 (.string s) (.int .i64 (k : Int))).run Tryz.prog w = .ok (.int .u8 ((blk s k).toNat : Int)) w := fun w => by rw [run_index_str s w k hlt, wn_bw]
      have c1 := hX.cell k (by omega)
      have f1 := hX.free k (by omega)
      have hX1 := Lib.hid hX
      have HB := Lib.hid hb
      have k0 : (0 : Int) ≤ k := by omega
      have k1 : (k : Int) < 32 := by omega
      have hd : decide ((k : Int) < s.size) = true := decide_eq_true (by omega)
      clear hX hb
      go_wp2
      go_roundw
      case rel => exact ⟨k + 1, by omega, by go_num, (hX1.out.set k (by omega) (.int .u8 ((blk s k).toNat : Int))).congr (fun q _ => idB_next s k q), HB.out.setCell (Nat.le_refl _) _⟩
      case measure => simp [intOf]; omega
    · obtain rfl : k = s.size := by omega
      have hd : decide ((s.size : Int) < s.size) = false := decide_eq_false (by omega)
      have hr := hX.range
      have e8 : (List.range 32).map (idB s s.size) = (idOf s).map fun b => Value.int .u8 (b.toNat : Int) := by
        unfold idOf; rw [List.map_map]
        exact List.map_congr_left fun k _ => idB_all s k
      rw [e8] at hr
      have hO5 : Arr wo w.heap.size 32 (fun _ => .int .u8 0) := HO1.out.below hb hw1
      have hlen : ((idOf s).map fun b => Value.int .u8 (b.toNat : Int)).length = 32 := by rw [idV_list]; exact idOf_len s
      have hone := idV_one (idOf s)
      generalize (idOf s).map (fun b => Value.int .u8 (b.toNat : Int)) = us at hr hlen hone HF
      have h32 : (Tryz.prog.info? 24).map (·.size) = some 32 := by kernel_rfl
      have h32u : (Tryz.prog.info? 24).map (·.size) = some us.length := by rw [hlen]; exact h32
      have hth := hO5.there
      have HFR := Lib.hid (World.rangeAt_setCells_same wo w.heap.size 0 us (by rw [hlen]; exact hth))
      have HTH := Lib.hid hth
      have HLN := Lib.hid hlen
      have HON := Lib.hid hone
      have HBF := Lib.hid (below_setCells (B := w.heap.size) (a := w1) w.heap.size (Nat.le_refl _) us 0 wo (hb.mono (by omega)))
      have hb1 := HBF.out
      have HFIN := Lib.hid (grown_frame ((Below.refl _ _).alloc (Nat.le_refl _) _) HG1.out hb1)
      have HAF := Lib.hid (HA1.out.below hb1 hbl)
      clear hX hb e8 hth hlen hone hO5 hb1
      go_wp2_with (first | (refine wpList_load_mid rfl 24 _ rfl w1.heap.size 0 rfl us _ hr Tryz.underlying24 rfl h32u ?_) | (refine wpList_store_list rfl 24 _ _ rfl w.heap.size 0 us ?y1 ?y2 32 HLN.out ?y4 h32 HON.out ?_))
      try case y1 => rfl
      try case y2 => rfl
      case y4 => exact HTH.out
      simp only [Act.put]
      refine ret_cell rfl w.heap.size 0 rfl us _ HFR.out Tryz.underlying24 rfl h32u rfl ⟨by rw [HF.out], by rw [HG.out]; exact HAF.out, HFIN.out⟩
end Go.Proofs.YtbmiiiccnoiffaaGreatDoor
