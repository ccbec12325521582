/- Walks: a block taken. -/
import Derived.Test.YtbmiiiccnoiffaaGreatDoorJA
namespace Go.Proofs.YtbmiiiccnoiffaaGreatDoor
open Go.RowKit

def kV : List Value := roundK.map fun k => .int .u32 (wn k)
theorem kV_len : kV.length = 64 := by unfold kV; rw [List.length_map, roundK_len]
def wordsV (f : Nat → W32) (k : Nat) : Value := .int .u32 (wn (f k))
theorem wordsV_upd (f : Nat → W32) (i : Nat) (x : W32) : upd (wordsV f) i (.int .u32 (wn x)) = wordsV (upd f i x) := by
  funext k; unfold upd wordsV; dsimp only; split <;> rfl

theorem Arr.new (w : World) (n : Nat) (v : Value) (e : TypeId) : Arr (w.alloc (.cells (Array.replicate n v) e)) w.heap.size n (fun _ => v) :=
  ⟨fun k hk => by rw [World.cell?_alloc_new]; simp [hk], fun k hk => by rw [World.frozen?_alloc_new]⟩

theorem size8 (w : World) : (sizeOf 5).run Tryz.prog w = .ok 1 w := by kernel_rfl
theorem slice_rest (b : Nat) (k : Nat) (hk : k < 16) (w : World) :
    (Instr.sliceAt 226 (.pointer (some ⟨b, 9, none⟩)) (some (.int .i64 (4 * (k : Int)))) (some (.int .i64 (4 * (k : Int) + 4))) none).run Tryz.prog w = .ok (.slice (some ⟨b, 9 + 4 * k, none⟩) 4 (64 - 4 * k)) w := by
  have ea : Tryz.prog.arrayLen 226 = 64 := by kernel_rfl
  have ee : Tryz.prog.elem 226 = 5 := by kernel_rfl
  have e1 : ((4 * (k : Int))).toNat = 4 * k := by omega
  have e2 : ((4 * (k : Int) + 4)).toNat = 4 * k + 4 := by omega
  rw [run_sliceAt_array_lh _ _ _ (by rw [ea, ee]; exact Tryz.underlying226) _ _ _ _ (by omega) (by omega) (by rw [ea]; omega), ea, ee, size8, e1, e2]
  show Result.ok (slicedAt _ _ _ _ _) w = _
  unfold slicedAt
  rw [if_neg (by omega), show 4 * k + 4 - 4 * k = 4 from by omega, Addr.add_mid, Nat.mul_one]
theorem Arr.eight (w : World) (s : Nat → W32) (e : TypeId) : Arr (w.alloc (.cells #[.int .u32 (wn (s 0)), .int .u32 (wn (s 1)), .int .u32 (wn (s 2)), .int .u32 (wn (s 3)), .int .u32 (wn (s 4)), .int .u32 (wn (s 5)), .int .u32 (wn (s 6)), .int .u32 (wn (s 7))] e)) w.heap.size 8 (wordsV s) := by
  refine ⟨fun k hk => ?_, fun k hk => by rw [World.frozen?_alloc_new]⟩
  rw [World.cell?_alloc_new]
  obtain h | h | h | h | h | h | h | h : k = 0 ∨ k = 1 ∨ k = 2 ∨ k = 3 ∨ k = 4 ∨ k = 5 ∨ k = 6 ∨ k = 7 := by omega
  all_goals subst h; rfl
theorem Arr.setAll {w : World} {b n : Nat} {c : Nat → Value} (h : Arr w b n c) (vs : List Value) (hn : vs.length = n) : Arr (w.setCells b 0 vs) b n (fun k => vs.getD k undef) := by
  refine ⟨fun k hk => ?_, fun k hk => ?_⟩
  · have := World.rangeAt_setCells_same w b 0 vs (by rw [hn]; exact h.there) k (vs.getD k undef) (by simp [hn, hk])
    simpa using this
  · have := (World.there_setCells h.there b 0 vs k hk).2
    simpa using this
/-- A whole array is stored. -/
theorem wpList_store_list {P : Program} {ops : Array Oper} {rest : List Oper} {op : Oper} {a : Act} {w : World} {Q : Exit → Act → World → Prop} (hgd : op.guard = none) (ty : TypeId) (x y : Operand) (ho : op.op = .store ty x y)
    (b o : Nat) (vs : List Value) (hx : a.eval x = .pointer (some ⟨b, o, none⟩)) (hy : a.eval y = .agg vs.toArray) (n : Nat) (hn : vs.length = n)
    (ht : w.there b o n) (hi : (P.info? ty).map (·.size) = some n) (h1 : ∀ v ∈ vs, v.oneCell' = true)
    (h : wpList P ops Q rest (a.put op.dst undef) (w.setCells b o vs)) : wpList P ops Q (op :: rest) a w :=
  wpList_store_mid hgd ty x y ho b o vs.toArray hx hy (by simpa [hn] using ht) (by simpa [hn] using hi) (all_oneCell_toArray h1) (by simpa using h)
theorem grown_set {w w' : World} {b o : Nat} (h : w.grownBy w' (some b)) (v : Value) : w.grownBy (w'.setCell ⟨b, o, none⟩ v) (some b) :=
  ⟨h.os, h.tape, h.output, by simpa [World.setCell] using h.size, fun k hk hne => by rw [Below.heap_setCell _ _ _ _ (fun e => hne (by rw [e]))]; exact h.block k hk hne⟩
theorem grown_below {w w' w2 : World} {row : Option Nat} (h : w.grownBy w' row) (hb : Below w'.heap.size w' w2) : w.grownBy w2 row :=
  ⟨hb.os.trans h.os, hb.tape.trans h.tape, hb.output.trans h.output, Nat.le_trans h.size hb.size, fun k hk hne => (hb.block k (Nat.lt_of_lt_of_le hk h.size)).trans (h.block k hk hne)⟩
theorem run_index_k (w : World) (n : Nat) (hn : n < 64) : (Instr.index 271 (.agg kV.toArray) (.int .i64 (n : Int))).run Tryz.prog w = .ok (.int .u32 (wn (rK n))) w := by
  have hs : (sizeOf 224).run Tryz.prog w = .ok 1 w := by kernel_rfl
  have ha : (isAgg 224).run Tryz.prog w = .ok false w := by kernel_rfl
  have hk : kV.toArray[n]? = some (.int .u32 (wn (rK n))) := by
    unfold kV rK
    have : n < roundK.length := by rw [roundK_len]; exact hn
    simp [this]
  have h1 : (0 : Int) ≤ n ∧ (n : Int) < (64 : Nat) := by omega
  unfold Instr.index
  simp only [Sem.run_bind, asIntOf, Sem.run_pure, Result.andThen_ok, run_underlying Tryz.underlying271, if_pos h1, hs, part, ha, Int.toNat_natCast, Nat.mul_one, hk]
  rfl

set_option maxRecDepth 100000 in
set_option maxHeartbeats 1000000 in
theorem take_any (b : Nat) (h : HS) (w : World) (hA : Arr w b 75 h.c) (hR : w.rangeAt 4 0 kV) (hRl : 4 < w.heap.size) :
    Calls Tryz.prog 207 #[.pointer (some ⟨b, 0, none⟩)] w fun e w' => e = .returned (.tuple #[]) ∧ Arr w' b 75 (HS.c { h with st := blockW h.st h.rest, many := 0 }) ∧ w.grownBy w' (some b) := by
  have hbl : b < w.heap.size := hA.lt (by omega)
  have hW0 : Arr (w.alloc (.cells (Array.replicate 64 (.int .u32 0)) 271)) w.heap.size 64 (wordsV (initW h.rest 0 0)) := by
    rw [initW_zero]; exact Arr.new w 64 _ _
  have HK := Lib.hid (fun (w : World) (n : Nat) (hn : n < 64) => run_index_k w n hn)
  have hz : (Tryz.prog.info? 271).map (·.size) = some kV.length := by rw [kV_len]; kernel_rfl
  have HZ := Lib.hid hz
  clear hz
  generalize kV = KV at hR HK HZ
  have HA := Lib.hid hA
  have HR := Lib.hid hR
  clear hA hR
  go_enter Tryz.func207, Tryz.ntmps207
  go_wp2
  go_loopw [13] (fun i wr => ∃ k : Nat, k ≤ 16 ∧ i = .int .i64 k ∧ Arr wr w.heap.size 64 (wordsV (initW h.rest k 0)) ∧ Below w.heap.size w wr) (fun i _ => (16 - intOf i).toNat)
  case atStart => exact ⟨0, by omega, rfl, hW0, (Below.refl _ _).alloc (Nat.le_refl _) _⟩
  case round =>
    obtain ⟨wo, rfl⟩ : ∃ wo : World, wo = wr := ⟨_, rfl⟩
    obtain ⟨k, hk, rfl, hW, hb⟩ := hrel
    clear hW0
    by_cases hlt : k < 16
    · have hd : decide ((k : Int) < 16) = true := decide_eq_true (by omega)
      have hsl := slice_rest b k hlt
      have k0 : (0 : Int) ≤ k := by omega
      have k1 : (k : Int) < 16 := by omega
      go_wp2
      go_loopw [26] (fun i wr => ∃ j : Nat, j ≤ 4 ∧ i = .int .i64 j ∧ Arr wr w.heap.size 64 (wordsV (initW h.rest k j)) ∧ Below w.heap.size w wr) (fun i _ => (4 - intOf i).toNat)
      case atStart => exact ⟨0, by omega, rfl, hW, hb⟩
      case round =>
        obtain ⟨wi, rfl⟩ : ∃ wi : World, wi = wr := ⟨_, rfl⟩
        obtain ⟨j, hj, rfl, hWi, hbi⟩ := hrel
        clear hW hb
        by_cases hjl : j < 4
        · have cr : wi.cell? ⟨b, 9 + 4 * k + j, none⟩ = some (.int .u8 (wn (bw (h.rest (4 * k + j))))) := by
            rw [hbi.cell (p := ⟨b, 9 + 4 * k + j, none⟩) hbl, Nat.add_assoc, HA.out.cell _ (by omega), HS.c_rest _ _ (by omega), wn_bw]
          have cw := hWi.cell k (by omega)
          have fw := hWi.free k (by omega)
          unfold wordsV at cw
          have b0 := wn_0 (bw (h.rest (4 * k + j)))
          have b1 := bw_lt (h.rest (4 * k + j))
          have x0 := wn_0 (initW h.rest k j k)
          have x1 := wn_lt (initW h.rest k j k)
          have j0 : (0 : Int) ≤ j := by omega
          have j1 : (j : Int) < 4 := by omega
          have HN := Lib.hid (hWi.set k (by omega) (.int .u32 (wn (initW h.rest k j k <<< 8 ||| bw (h.rest (4 * k + j))))))
          have hd2 : decide ((j : Int) < 4) = true := decide_eq_true (by omega)
          clear hWi
          go_wp2
          go_roundw
          case rel =>
            rw [e_shl8, w_or]
            refine ⟨j + 1, by omega, by go_num, ?_, hbi.setCell (Nat.le_refl _) _⟩
            have := HN.out
            rw [wordsV_upd, initW_byte] at this
            exact this
          case measure => simp [intOf]; omega
        · obtain rfl : j = 4 := by omega
          go_wp2
          go_roundw
          case rel => exact ⟨k + 1, by omega, by go_num, by rw [← initW_word]; exact hWi, hbi⟩
          case measure => simp [intOf]; omega
    · obtain rfl : k = 16 := by omega
      obtain ⟨w1, rfl⟩ : ∃ w1 : World, w1 = wo := ⟨_, rfl⟩
      go_wp2
      go_loopw [6] (fun i wr => ∃ n : Nat, n ≤ 48 ∧ i = .int .i64 (16 + n : Nat) ∧ Arr wr w.heap.size 64 (wordsV (schedW h.rest n)) ∧ Below w.heap.size w wr) (fun i _ => (64 - intOf i).toNat)
      case atStart => exact ⟨0, by omega, rfl, hW, hb⟩
      case round =>
        obtain ⟨wi, rfl⟩ : ∃ wi : World, wi = wr := ⟨_, rfl⟩
        obtain ⟨n, hn, rfl, hWi, hbi⟩ := hrel
        clear hW hb
        generalize hm : 16 + n = m
        by_cases hnl : n < 48
        · have c2 := hWi.cell (m - 2) (by omega)
          have c7 := hWi.cell (m - 7) (by omega)
          have c15 := hWi.cell (m - 15) (by omega)
          have c16 := hWi.cell (m - 16) (by omega)
          have cm := hWi.cell m (by omega)
          have fm := hWi.free m (by omega)
          have HN := Lib.hid (hWi.set m (by omega) (.int .u32 (wn (nextW (schedW h.rest n) m))))
          have hsz : w.heap.size < wi.heap.size := hWi.lt (by omega)
          unfold wordsV at c2 c7 c15 c16 cm
          have m0 : (16 : Int) ≤ m := by omega
          have m1 : (m : Int) < 64 := by omega
          have hd2 : decide ((m : Int) < 64) = true := decide_eq_true (by omega)
          have HWI := Lib.hid hWi
          clear hWi
          have a2 : IntKind.i64.wrap ((m : Int) - 2) = (m : Int) - 2 := IntWalk.i64_in _ (by omega)
          have t2 : ((m : Int) - 2).toNat = m - 2 := by omega
          have z2 : (2 : Int) ≤ m := by omega
          have y2 : (m : Int) - 2 < 64 := by omega
          have a7 : IntKind.i64.wrap ((m : Int) - 7) = (m : Int) - 7 := IntWalk.i64_in _ (by omega)
          have t7 : ((m : Int) - 7).toNat = m - 7 := by omega
          have z7 : (7 : Int) ≤ m := by omega
          have y7 : (m : Int) - 7 < 64 := by omega
          have a15 : IntKind.i64.wrap ((m : Int) - 15) = (m : Int) - 15 := IntWalk.i64_in _ (by omega)
          have t15 : ((m : Int) - 15).toNat = m - 15 := by omega
          have z15 : (15 : Int) ≤ m := by omega
          have y15 : (m : Int) - 15 < 64 := by omega
          have a16 : IntKind.i64.wrap ((m : Int) - 16) = (m : Int) - 16 := IntWalk.i64_in _ (by omega)
          have t16 : ((m : Int) - 16).toNat = m - 16 := by omega
          have z16 : (16 : Int) ≤ m := by omega
          have y16 : (m : Int) - 16 < 64 := by omega
          have EA := e_add
          have HT1 : ∀ w, Calls Tryz.prog 225 #[.int .u32 (wn (schedW h.rest n (m - 2))), .int .i64 17, .int .i64 19, .int .i64 10] w fun e w' => e = .returned (.int .u32 (wn (turnW (schedW h.rest n (m - 2)) 17 19 10))) ∧ Below w.heap.size w w' := fun w => turn_any (schedW h.rest n (m - 2)) 17 19 10 (by omega) (by omega) (by omega) (by omega) (by omega) w
          have HT2 : ∀ w, Calls Tryz.prog 225 #[.int .u32 (wn (schedW h.rest n (m - 15))), .int .i64 7, .int .i64 18, .int .i64 3] w fun e w' => e = .returned (.int .u32 (wn (turnW (schedW h.rest n (m - 15)) 7 18 3))) ∧ Below w.heap.size w w' := fun w => turn_any (schedW h.rest n (m - 15)) 7 18 3 (by omega) (by omega) (by omega) (by omega) (by omega) w
          go_wp2
          refine wp_region_bt 23 (by kernel_rfl) (by kernel_rfl) ?_
          simp only [List.take_succ_cons, List.take_zero, List.drop_succ_cons, List.drop_zero]
          have LQ0 := fun x : BW (World.heap wi).size wi => below_load c2 x.hb (by omega)
          have LQ1 := fun x : BW (World.heap wi).size wi => below_load c7 x.hb (by omega)
          have LQ2 := fun x : BW (World.heap wi).size wi => below_load c15 x.hb (by omega)
          have LQ3 := fun x : BW (World.heap wi).size wi => below_load c16 x.hb (by omega)
          repeat (go_big_quiet_step ((first | (go_at_call 225; with_reducible exact calls_bw (HT1 _)) | (go_at_call 225; with_reducible exact calls_bw (HT2 _)))))
          refine wpQuiet_nil ?_
          intro wq hbq
          clear LQ0 LQ1 LQ2 LQ3
          have cmn := below_load cm hbq hsz
          have fmn : wq.frozen? ⟨w.heap.size, m, none⟩ = false := by rw [hbq.frozen (p := ⟨w.heap.size, m, none⟩) hsz]; exact fm
          go_wp2
          go_roundw
          case rel =>
            have h1 := (HWI.out.below hbq hsz).set m (by omega) (.int .u32 (wn (nextW (schedW h.rest n) m)))
            refine ⟨n + 1, by omega, by rw [← hm]; go_num, ?_, (hbi.trans (hbq.mono hbi.size)).setCell (Nat.le_refl _) _⟩
            rw [wordsV_upd, ← hm] at h1
            rw [← hm]
            exact h1
          case measure => simp [intOf]; omega
        · obtain rfl : n = 48 := by omega
          obtain rfl : m = 64 := by omega
          have hsz : w.heap.size < wi.heap.size := hWi.lt (by omega)
          have HWI := Lib.hid hWi
          have hAi := HA.out.below hbi hbl
          have c0 := hAi.cell (1 + 0) (by omega)
          have c1 := hAi.cell (1 + 1) (by omega)
          have c2 := hAi.cell (1 + 2) (by omega)
          have c3 := hAi.cell (1 + 3) (by omega)
          have c4 := hAi.cell (1 + 4) (by omega)
          have c5 := hAi.cell (1 + 5) (by omega)
          have c6 := hAi.cell (1 + 6) (by omega)
          have c7 := hAi.cell (1 + 7) (by omega)
          rw [HS.c_st _ _ (by omega)] at c0 c1 c2 c3 c4 c5 c6 c7
          simp only [Nat.reduceAdd] at c0 c1 c2 c3 c4 c5 c6 c7
          clear hAi hWi
          have hRi : wi.rangeAt 4 0 KV := rangeAt_below HR.out hbi hRl
          go_wp2_with (refine wpList_load_mid rfl 271 _ rfl 4 0 rfl _ _ (World.rangeAt_alloc hRi _) Tryz.underlying271 rfl HZ.out ?_)
          clear hRi c0 c1 c2 c3 c4 c5 c6 c7
          generalize hW : schedW h.rest 48 = W at HWI
          have HWW := Lib.hid hW
          clear hW
          go_loopw [73] (fun i wr => ∃ n : Nat, n ≤ 64 ∧ i = .int .i64 n ∧ Arr wr wi.heap.size 8 (wordsV (roundsW W h.st n)) ∧ Below wi.heap.size wi wr) (fun i _ => (64 - intOf i).toNat)
          case atStart => exact ⟨0, by omega, rfl, Arr.eight _ _ _, (Below.refl _ _).alloc (Nat.le_refl _) _⟩
          case round =>
            obtain ⟨wj, rfl⟩ : ∃ wj : World, wj = wr := ⟨_, rfl⟩
            obtain ⟨n, hn, rfl, hS, hbj⟩ := hrel
            have hsj : wi.heap.size < wj.heap.size := hS.lt (by omega)
            have HS' := Lib.hid hS
            by_cases hnl : n < 64
            · have hk := fun w => HK.out w n hnl
              have cw := (HWI.out.below hbj hsz).cell n (by omega)
              have s0 := hS.cell 0 (by omega)
              have s1 := hS.cell 1 (by omega)
              have s2 := hS.cell 2 (by omega)
              have s3 := hS.cell 3 (by omega)
              have s4 := hS.cell 4 (by omega)
              have s5 := hS.cell 5 (by omega)
              have s6 := hS.cell 6 (by omega)
              have s7 := hS.cell 7 (by omega)
              unfold wordsV at cw s0 s1 s2 s3 s4 s5 s6 s7
              have n0 : (0 : Int) ≤ n := by omega
              have n1 : (n : Int) < 64 := by omega
              have hd3 : decide ((n : Int) < 64) = true := decide_eq_true (by omega)
              clear hS
              have EA := e_add
              have EX := w_xor
              have EN := w_and
              have EC := w_not2
              generalize hR : roundsW W h.st n = R at s0 s1 s2 s3 s4 s5 s6 s7 HS'
              have HRR := Lib.hid hR
              clear hR
              have HP1 : ∀ w, Calls Tryz.prog 226 #[.int .u32 (wn (R 4)), .int .i64 6, .int .i64 11, .int .i64 25] w fun e w' => e = .returned (.int .u32 (wn (spinW (R 4) 6 11 25))) ∧ Below w.heap.size w w' := fun w => same_below (spin_any (R 4) 6 11 25 (by omega) (by omega) (by omega) (by omega) (by omega) (by omega) w)
              have HP2 : ∀ w, Calls Tryz.prog 226 #[.int .u32 (wn (R 0)), .int .i64 2, .int .i64 13, .int .i64 22] w fun e w' => e = .returned (.int .u32 (wn (spinW (R 0) 2 13 22))) ∧ Below w.heap.size w w' := fun w => same_below (spin_any (R 0) 2 13 22 (by omega) (by omega) (by omega) (by omega) (by omega) (by omega) w)
              go_wp2
              refine wp_region_bq (by kernel_rfl) (by kernel_rfl) ?_
              have LQ0 := fun x : BW (World.heap wj).size wj => below_load s4 x.hb (by omega)
              have LQ1 := fun x : BW (World.heap wj).size wj => below_load s5 x.hb (by omega)
              have LQ2 := fun x : BW (World.heap wj).size wj => below_load s6 x.hb (by omega)
              have LQ3 := fun x : BW (World.heap wj).size wj => below_load s7 x.hb (by omega)
              have LQ4 := fun x : BW (World.heap wj).size wj => below_load cw x.hb (by omega)
              repeat (go_big_quiet_step ((go_at_call 226; with_reducible exact calls_bw (HP1 _))))
              refine wpQuiet_nil ?_
              intro wq hbq
              clear LQ0 LQ1 LQ2 LQ3 LQ4
              have q0 := below_load s0 hbq hsj
              have q1 := below_load s1 hbq hsj
              have q2 := below_load s2 hbq hsj
              have q3 := below_load s3 hbq hsj
              have q4 := below_load s4 hbq hsj
              have q5 := below_load s5 hbq hsj
              have q6 := below_load s6 hbq hsj
              have hsq : wi.heap.size < wq.heap.size := by have := hbq.size; omega
              obtain ⟨wa, rfl⟩ : ∃ wa : World, wa = wq := ⟨_, rfl⟩
              have hb7 := hbq
              clear hbq
              go_wp2
              refine wp_region_bq (by kernel_rfl) (by kernel_rfl) ?_
              have LQ0 := fun x : BW (World.heap wa).size wa => below_load q0 x.hb (by omega)
              have LQ1 := fun x : BW (World.heap wa).size wa => below_load q1 x.hb (by omega)
              have LQ2 := fun x : BW (World.heap wa).size wa => below_load q2 x.hb (by omega)
              repeat (go_big_quiet_step ((go_at_call 226; with_reducible exact calls_bw (HP2 _))))
              refine wpQuiet_nil ?_
              intro wq hbq
              clear LQ0 LQ1 LQ2
              obtain ⟨wb, rfl⟩ : ∃ wb : World, wb = wq := ⟨_, rfl⟩
              have p0 := below_load q0 hbq hsq
              have p1 := below_load q1 hbq hsq
              have p2 := below_load q2 hbq hsq
              have p3 := below_load q3 hbq hsq
              have p4 := below_load q4 hbq hsq
              have p5 := below_load q5 hbq hsq
              have p6 := below_load q6 hbq hsq
              clear q0 q1 q2 q3 q4 q5 q6 s0 s1 s2 s3 s4 s5 s6 s7 HP1 HP2 cw hk
              have hbb : Below wi.heap.size wi wb := hbj.trans ((hb7.trans (hbq.mono hb7.size)).mono hbj.size)
              have HSB := Lib.hid (HS'.out.below (hb7.trans (hbq.mono hb7.size)) hsj)
              have hth := HSB.out.there
              rw [e_add, e_add]
              have eT : R 7 + spinW (R 4) 6 11 25 + (R 4 &&& R 5 ^^^ ~~~R 4 &&& R 6) + rK n + W n = tW R (rK n) (W n) := rfl
              have eU : spinW (R 0) 2 13 22 + (R 0 &&& R 1 ^^^ R 0 &&& R 2 ^^^ R 1 &&& R 2) = uW R := rfl
              rw [eT, eU]
              clear eT eU
              generalize hT : tW R (rK n) (W n) = T
              generalize hU : uW R = U
              have HTT := Lib.hid hT
              have HUU := Lib.hid hU
              clear hT hU
              have h8 : (Tryz.prog.info? 225).map (·.size) = some 8 := by kernel_rfl
              go_wp2_with (refine wpList_store_list rfl 225 _ _ rfl wi.heap.size 0 [.int .u32 (wn (T + U)), .int .u32 (wn (R 0)), .int .u32 (wn (R 1)), .int .u32 (wn (R 2)), .int .u32 (wn (R 3 + T)), .int .u32 (wn (R 4)), .int .u32 (wn (R 5)), .int .u32 (wn (R 6))] ?x1 ?x2 8 ?x3 ?x4 ?x5 ?h1 ?_)
              case x1 => rfl
              case x2 => go_simp
              case x3 => rfl
              case x4 => exact hth
              case x5 => exact h8
              case h1 => simp [Value.oneCell']
              go_wp2
              go_roundw
              case rel =>
                refine ⟨n + 1, by omega, by go_num, ?_, ?_⟩
                · have h1 := Arr.setAll HSB.out [.int .u32 (wn (T + U)), .int .u32 (wn (R 0)), .int .u32 (wn (R 1)), .int .u32 (wn (R 2)), .int .u32 (wn (R 3 + T)), .int .u32 (wn (R 4)), .int .u32 (wn (R 5)), .int .u32 (wn (R 6))] rfl
                  refine Arr.congr h1 fun k hk => ?_
                  show _ = Value.int .u32 (wn (stepW (roundsW W h.st n) (rK n) (W n) k))
                  rw [HRR.out]
                  unfold stepW
                  rw [HTT.out, HUU.out]
                  obtain h | h | h | h | h | h | h | h : k = 0 ∨ k = 1 ∨ k = 2 ∨ k = 3 ∨ k = 4 ∨ k = 5 ∨ k = 6 ∨ k = 7 := by omega
                  all_goals subst h; rfl
                · exact below_setCells _ (Nat.le_refl _) _ _ _ hbb
              case measure => simp [intOf]; omega
            · obtain rfl : n = 64 := by omega
              have hSS := HS'.out
              rw [show roundsW W h.st 64 = fun k => roundsW W h.st 64 k from rfl] at hSS
              generalize hR : roundsW W h.st 64 = R at hSS
              have HRR := Lib.hid hR
              have HRS := Lib.hid hSS
              have hbw : Below w.heap.size w wj := hbi.trans (hbj.mono hbi.size)
              have HG := Lib.hid (grown_of_below hbw (some b))
              have HAJ := Lib.hid (HA.out.below hbw hbl)
              clear hS hR hSS HS'
              have hbj' : b < wj.heap.size := by have := hbw.size; omega
              go_wp2
              go_loopw [144] (fun i wr => ∃ n : Nat, n ≤ 8 ∧ i = .int .i64 n ∧ Arr wr b 75 (HS.c { h with st := partW h.st R n }) ∧ Arr wr wi.heap.size 8 (wordsV R) ∧ w.grownBy wr (some b)) (fun i _ => (8 - intOf i).toNat)
              case atStart => exact ⟨0, by omega, rfl, by rw [partW_zero]; exact HAJ.out, HRS.out, HG.out⟩
              case round =>
                obtain ⟨wk, rfl⟩ : ∃ wk : World, wk = wr := ⟨_, rfl⟩
                obtain ⟨n, hn, rfl, hAk, hRk, hgk⟩ := hrel
                have hbk : b < wk.heap.size := hAk.lt (by omega)
                have hik : wi.heap.size < wk.heap.size := hRk.lt (by omega)
                have hbi' : b < wi.heap.size := by have := hbi.size; omega
                by_cases hnl : n < 8
                · have c1 := hAk.cell (1 + n) (by omega)
                  have f1 := hAk.free (1 + n) (by omega)
                  rw [HS.c_st _ _ (by omega)] at c1
                  have e1 : partW h.st R n n = h.st n := by unfold partW; rw [if_neg (by omega)]
                  dsimp only at c1
                  rw [e1] at c1
                  have c2 := hRk.cell n (by omega)
                  unfold wordsV at c2
                  have EA := e_add
                  have n0 : (0 : Int) ≤ n := by omega
                  have n1 : (n : Int) < 8 := by omega
                  have hd3 : decide ((n : Int) < 8) = true := decide_eq_true (by omega)
                  have HAK := Lib.hid hAk
                  have HRK := Lib.hid hRk
                  have HGK := Lib.hid hgk
                  clear hAk hRk hgk e1
                  go_wp2
                  refine wp_region_bt 13 (by kernel_rfl) (by kernel_rfl) ?_
                  simp only [List.take_succ_cons, List.take_zero, List.drop_succ_cons, List.drop_zero]
                  have LQ0 := fun x : BW (World.heap wk).size wk => below_load c1 x.hb (by omega)
                  have LQ1 := fun x : BW (World.heap wk).size wk => below_load c2 x.hb (by omega)
                  repeat (go_big_quiet_step (fail))
                  refine wpQuiet_nil ?_
                  intro wq hbq
                  clear LQ0 LQ1
                  have c1q := below_load c1 hbq hbk
                  have f1q : wq.frozen? ⟨b, 1 + n, none⟩ = false := by rw [hbq.frozen (p := ⟨b, 1 + n, none⟩) hbk]; exact f1
                  clear c1 f1 c2
                  go_wp2
                  go_roundw
                  case rel =>
                    have h1 := (HAK.out.below hbq hbk).set (1 + n) (by omega) (.int .u32 (wn (h.st n + R n)))
                    rw [HS.upd_st _ _ (by omega)] at h1
                    dsimp only at h1
                    rw [partW_next] at h1
                    refine ⟨n + 1, by omega, by go_num, h1, ?_, grown_set (grown_below HGK.out hbq) _⟩
                    exact (HRK.out.below hbq hik).far (by show b ≠ _; omega) _
                  case measure => simp [intOf]; omega
                · obtain rfl : n = 8 := by omega
                  have c1 := hAk.cell 73 (by omega)
                  have f1 := hAk.free 73 (by omega)
                  have HAK := Lib.hid hAk
                  have HGK := Lib.hid hgk
                  clear hAk hRk hgk
                  go_wp2
                  go_end0
                  refine ⟨rfl, ?_, grown_set HGK.out _⟩
                  have h1 := HAK.out.set 73 (by omega) (.int .i64 ((0 : Nat) : Int))
                  rw [HS.upd_many] at h1
                  refine h1.congr fun k hk => ?_
                  unfold HS.c
                  dsimp only
                  by_cases e0 : k = 0
                  · rw [if_pos e0, if_pos e0]
                  · rw [if_neg e0, if_neg e0]
                    by_cases e1 : k < 9
                    · rw [if_pos e1, if_pos e1]
                      unfold partW blockW
                      rw [if_pos (by omega), HWW.out, HRR.out]
                    · rw [if_neg e1, if_neg e1]
end Go.Proofs.YtbmiiiccnoiffaaGreatDoor
