/- Readers: what they hold; bytes read (the document's reader and the program's). -/
import Derived.Test.YtbmiiiccnoiffaaGreatDoorJB
namespace Go.Proofs.YtbmiiiccnoiffaaGreatDoor
open Go.RowKit

/-- A reader. -/
structure Rd where
  s : ByteArray
  pos : Nat
  err : Nat
def Rd.c (r : Rd) (k : Nat) : Value := if k = 0 then .string r.s else if k = 1 then .int .i64 (r.pos : Int) else .int .i64 (r.err : Int)
/-- A reader that stands within its bytes. -/
structure Rd.fine (r : Rd) : Prop where
  pos : r.pos ≤ r.s.size
  size : r.s.size ≤ 1000000
  err : r.err ≤ 100
/-- n bytes. -/
def Rd.raw (r : Rd) (n : Nat) : Rd × ByteArray :=
  if r.err ≠ 0 then (r, ByteArray.empty) else if r.s.size - r.pos < n then ({ r with err := 3 }, ByteArray.empty) else ({ r with pos := r.pos + n }, r.s.extract r.pos (r.pos + n))
theorem Rd.raw_fine (r : Rd) (n : Nat) (h : r.fine) : (r.raw n).1.fine := by
  unfold Rd.raw
  split
  · exact h
  · split
    · exact ⟨h.pos, h.size, by show 3 ≤ 100; omega⟩
    · exact ⟨by show r.pos + n ≤ r.s.size; have := h.pos; omega, h.size, h.err⟩
theorem Rd.upd_err (r : Rd) (e : Nat) : ∀ k, k < 3 → upd r.c 2 (.int .i64 (e : Int)) k = Rd.c { r with err := e } k := by
  intro k hk; unfold upd Rd.c
  obtain h | h | h : k = 0 ∨ k = 1 ∨ k = 2 := by omega
  all_goals subst h; rfl
theorem Rd.upd_pos (r : Rd) (p : Nat) : ∀ k, k < 3 → upd r.c 1 (.int .i64 (p : Int)) k = Rd.c { r with pos := p } k := by
  intro k hk; unfold upd Rd.c
  obtain h | h | h : k = 0 ∨ k = 1 ∨ k = 2 := by omega
  all_goals subst h; rfl
theorem slice_two (o : ByteArray) (m n : Nat) (h : m + n ≤ o.size) (w : World) : (Instr.slice 9 (.string o) (some (.int .i64 (m : Int))) (some (.int .i64 ((m : Int) + n))) none).run Tryz.prog w = .ok (.string (o.extract m (m + n))) w := by
  have h3 : (m : Int) + n ≤ o.size := by omega
  have h4 : ((m : Int) + n).toNat = m + n := by omega
  have h5 : (0 : Int) ≤ (m : Int) + n := by omega
  simp [Instr.slice, run_underlying Tryz.underlying9, Instr.sliceBounds, Instr.sliceBound, asIntOf, h3, h4, h5]

set_option maxRecDepth 100000 in
set_option maxHeartbeats 400000 in
theorem rraw_any (b : Nat) (r : Rd) (n : Nat) (w : World) (hA : Arr w b 3 r.c) (hf : r.fine) (hn : n ≤ 1000000000) :
    Calls Tryz.prog 146 #[.pointer (some ⟨b, 0, none⟩), .int .i64 (n : Int)] w fun e w' => e = .returned (.string (r.raw n).2) ∧ Arr w' b 3 (r.raw n).1.c ∧ w.grownBy w' (some b) := by
  have hbl : b < w.heap.size := hA.lt (by omega)
  have c0 : w.cell? ⟨b, 0, none⟩ = some (.string r.s) := hA.cell 0 (by omega)
  have c1 : w.cell? ⟨b, 1, none⟩ = some (.int .i64 (r.pos : Int)) := hA.cell 1 (by omega)
  have c2 : w.cell? ⟨b, 2, none⟩ = some (.int .i64 (r.err : Int)) := hA.cell 2 (by omega)
  have f1 := hA.free 1 (by omega)
  have f2 := hA.free 2 (by omega)
  have hp := hf.pos
  have hs := hf.size
  have he := hf.err
  have hn0 : decide ((n : Int) < 0) = false := decide_eq_false (by omega)
  have HA := Lib.hid hA
  clear hA
  by_cases h0 : r.err = 0
  · have h0' : ((r.err : Int) != 0) = false := by rw [bne_eq_false_iff_eq]; omega
    by_cases hlt : r.s.size - r.pos < n
    · have HR : Hid (r.raw n = ({ r with err := 3 }, ByteArray.empty)) := by unfold Hid Rd.raw; rw [if_neg (by simp [h0]), if_pos hlt]
      have hd : decide ((r.s.size : Int) - r.pos < n) = true := decide_eq_true (by omega)
      have hw : IntKind.i64.wrap ((r.s.size : Int) - r.pos) = (r.s.size : Int) - r.pos := IntWalk.i64_in _ (by omega)
      have H0 := Lib.hid h0
      clear h0 hlt hf
      go_enter Tryz.func146, Tryz.ntmps146
      go_wp2
      refine wp_region_bq (by kernel_rfl) (by kernel_rfl) ?_
      have LQ0 := fun x : BW (World.heap w).size w => below_load c0 x.hb (by omega)
      have LQ1 := fun x : BW (World.heap w).size w => below_load c1 x.hb (by omega)
      repeat (go_big_quiet_step (fail))
      refine wpQuiet_nil ?_
      intro wq hbq
      clear LQ0 LQ1
      have g2 := below_load c2 hbq hbl
      have k2 : wq.frozen? ⟨b, 2, none⟩ = false := by rw [hbq.frozen (p := ⟨b, 2, none⟩) hbl]; exact f2
      clear c0 c1 c2 f1 f2
      go_wp2
      go_ret
      rw [HR.out]
      exact ⟨rfl, ((HA.out.below hbq hbl).set 2 (by omega) (.int .i64 ((3 : Nat) : Int))).congr (Rd.upd_err r 3), grown_set (grown_of_below hbq _) _⟩
    · have HR : Hid (r.raw n = ({ r with pos := r.pos + n }, r.s.extract r.pos (r.pos + n))) := by unfold Hid Rd.raw; rw [if_neg (by simp [h0]), if_neg hlt]
      have hd : decide ((r.s.size : Int) - r.pos < n) = false := decide_eq_false (by omega)
      have hw : IntKind.i64.wrap ((r.s.size : Int) - r.pos) = (r.s.size : Int) - r.pos := IntWalk.i64_in _ (by omega)
      have hw2 : IntKind.i64.wrap ((r.pos : Int) + n) = (r.pos : Int) + n := IntWalk.i64_in _ (by omega)
      have HSL := fun w => slice_two r.s r.pos n (by omega) w
      have H0 := Lib.hid h0
      clear h0 hlt hf
      go_enter Tryz.func146, Tryz.ntmps146
      go_wp2
      refine wp_region_bq (by kernel_rfl) (by kernel_rfl) ?_
      have LQ0 := fun x : BW (World.heap w).size w => below_load c0 x.hb (by omega)
      have LQ1 := fun x : BW (World.heap w).size w => below_load c1 x.hb (by omega)
      repeat (go_big_quiet_step (fail))
      refine wpQuiet_nil ?_
      intro wq hbq
      clear LQ0 LQ1
      obtain ⟨wa, rfl⟩ : ∃ wa : World, wa = wq := ⟨_, rfl⟩
      have hb1 := hbq
      clear hbq
      have d0 := below_load c0 hb1 hbl
      have d1 := below_load c1 hb1 hbl
      have hbl2 : b < wa.heap.size := by have := hb1.size; omega
      go_wp2
      refine wp_region_bq (by kernel_rfl) (by kernel_rfl) ?_
      have LQ0 := fun x : BW (World.heap wa).size wa => below_load d0 x.hb (by omega)
      have LQ1 := fun x : BW (World.heap wa).size wa => below_load d1 x.hb (by omega)
      repeat (go_big_quiet_step (fail))
      refine wpQuiet_nil ?_
      intro wq hbq
      clear LQ0 LQ1
      have hb2 := hb1.trans (hbq.mono hb1.size)
      have g1 := below_load c1 hb2 hbl
      have k1 : wq.frozen? ⟨b, 1, none⟩ = false := by rw [hb2.frozen (p := ⟨b, 1, none⟩) hbl]; exact f1
      have HB2 := Lib.hid hb2
      clear c0 c1 c2 f1 f2 d0 d1 hb1 hb2 hbq HSL
      go_wp2
      go_ret
      rw [HR.out]
      exact ⟨rfl, ((HA.out.below HB2.out hbl).set 1 (by omega) (.int .i64 ((r.pos + n : Nat) : Int))).congr (Rd.upd_pos r _), grown_set (grown_of_below HB2.out _) _⟩
  · have h0' : ((r.err : Int) != 0) = true := by rw [bne_iff_ne]; omega
    have HR : Hid (r.raw n = (r, ByteArray.empty)) := by unfold Hid Rd.raw; rw [if_pos h0]
    clear h0
    go_enter Tryz.func146, Tryz.ntmps146
    go_wp2
    go_ret
    rw [HR.out]
    exact ⟨rfl, HA.out, grown_of_below (Below.refl _ _) _⟩
end Go.Proofs.YtbmiiiccnoiffaaGreatDoor
