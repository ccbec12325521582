/- YtbmiiiccnoiffaaGreatDoorR14: texts JH, V6 of this claim, in one. -/
import Derived.Stop.BytesEq
import Derived.Test.YtbmiiiccnoiffaaGreatDoorR13
import Derived.Test.YtbmiiiccnoiffaaGreatDoorR7
import Derived.Test.YtbmiiiccnoiffaaGreatDoorR8
namespace Go.Proofs.YtbmiiiccnoiffaaGreatDoor
open Go.RowKit

theorem numB_le6 {n : Nat} (h : n ≤ 1099511627775) : (numB n).length ≤ 6 := numB_len 5 n (by omega)
theorem idC_len (x : List UInt8) : (idC x).length = x.length := by simp [idC]
theorem idC_one (x : List UInt8) : ∀ v ∈ idC x, v.oneCell' = true := idV_one x

set_option maxHeartbeats 1000000 in
theorem rtextw_any (s : ByteArray) (w : World) (hs : s.size ≤ 1000000000) :
    Calls Tryz.prog 145 #[.string s] w fun e w' => e = .returned (.string (ofB (numB s.size ++ s.data.toList))) ∧ Below w.heap.size w w' := by
  have HN := Lib.hid (rnumber_any s.size s.size w (Nat.le_refl _) (by omega))
  have hq : (ofB (numB s.size)).size ≤ 6 := by rw [ofB_size]; exact numB_le6 (by omega)
  have HF : Hid (ofB (numB s.size ++ s.data.toList) = ofB (numB s.size) ++ s) := by unfold Hid; rw [ofB_append, ofB_of]
  generalize ofB (numB s.size) = q at HN hq HF
  go_enter Tryz.func145, Tryz.ntmps145
  go_wp2_with fail
  refine HN.out.mono ?_
  rintro e w1 ⟨rfl, hb⟩
  go_wp2
  go_ret
  exact ⟨ret_str HF.out.symm, hb⟩

/-- The bytes of an array in a block of its own. -/
theorem conv_arr (w w2 : World) (x : List UInt8) (t : TypeId) (hb : Below (w.heap.size + 1) (w.alloc (.cells (idC x).toArray t)) w2) (c : Nat) :
    (convert 133 9 (.slice (some ⟨w.heap.size, 0, none⟩) x.length c)).run Tryz.prog w2 = .ok (.string (ofB x)) w2 :=
  run_convert_bytes_back (P := Tryz.prog) w2 133 9 5 ⟨w.heap.size, 0, none⟩ c x Tryz.underlying133 Tryz.underlying5 Tryz.underlying9 fun j hj => by
    rw [Addr.add_mid, Nat.zero_add, hb.cell (p := ⟨w.heap.size, j, none⟩) (Nat.lt_succ_self _), World.cell?_alloc_new]
    simp [idC, hj]
set_option maxHeartbeats 1000000 in
theorem ridw_any (x : List UInt8) (w : World) (hx : x.length = 32) :
    Calls Tryz.prog 147 #[.agg (idC x).toArray] w fun e w' => e = .returned (.string (ofB x)) ∧ Below w.heap.size w w' := by
  have hcv := conv_arr w (w.alloc (.cells (idC x).toArray 24)) x 24 (Below.refl _ _) 32
  rw [hx] at hcv
  have HX := Lib.hid hx
  clear hx
  generalize idC x = us at hcv
  go_enter Tryz.func147, Tryz.ntmps147
  go_wp2
  go_ret
  exact ⟨rfl, (Below.refl _ _).alloc (Nat.le_refl _) _⟩

/-- An object as a value. -/
def obC (o : Ob) : List Value := [.int .i64 o.kind, .string o.body]
set_option maxHeartbeats 1000000 in
theorem rframe_any (k : Int) (s : ByteArray) (w : World) (hs : s.size ≤ 1000000) :
    Calls Tryz.prog 102 #[.agg #[.int .i64 k, .string s]] w fun e w' => e = .returned (.string (ofB (frameL ⟨k, s⟩))) ∧ Below w.heap.size w w' := by
  have HT := Lib.hid (fun w => rtextw_any s w (by omega))
  have hq : (ofB (numB s.size ++ s.data.toList)).size ≤ 1000006 := by
    rw [ofB_size, List.length_append]
    have h1 := numB_le6 (n := s.size) (by omega)
    have h2 : s.data.toList.length = s.size := by simp
    omega
  have HF : Hid (ofB (frameL ⟨k, s⟩) = ofB [letterOf k] ++ ofB (numB s.size ++ s.data.toList)) := by unfold Hid frameL; rw [ofB_cons]
  generalize ofB (numB s.size ++ s.data.toList) = q at HT hq HF
  by_cases h2 : k = 2
  · have d2 : (k == 2) = true := by rw [beq_iff_eq]; exact h2
    have d3 : (k == 3) = false := by rw [beq_eq_false_iff_ne]; omega
    have HL : Hid (ofB [letterOf k] = ⟨#[116]⟩) := by unfold Hid letterOf; rw [if_pos h2]; rfl
    clear h2
    go_enter Tryz.func102, Tryz.ntmps102
    go_wp2_with fail
    refine (HT.out _).mono ?_
    rintro e w1 ⟨rfl, hb⟩
    go_wp2
    go_ret
    exact ⟨ret_str (by rw [HF.out, HL.out]), ((Below.refl _ _).alloc (Nat.le_refl _) _).trans (hb.mono (by simp))⟩
  · have d2 : (k == 2) = false := by rw [beq_eq_false_iff_ne]; exact h2
    by_cases h3 : k = 3
    · have d3 : (k == 3) = true := by rw [beq_iff_eq]; exact h3
      have HL : Hid (ofB [letterOf k] = ⟨#[99]⟩) := by unfold Hid letterOf; rw [if_neg h2, if_pos h3]; rfl
      clear h2 h3
      go_enter Tryz.func102, Tryz.ntmps102
      go_wp2_with fail
      refine (HT.out _).mono ?_
      rintro e w1 ⟨rfl, hb⟩
      go_wp2
      go_ret
      exact ⟨ret_str (by rw [HF.out, HL.out]), ((Below.refl _ _).alloc (Nat.le_refl _) _).trans (hb.mono (by simp))⟩
    · have d3 : (k == 3) = false := by rw [beq_eq_false_iff_ne]; exact h3
      have HL : Hid (ofB [letterOf k] = ⟨#[98]⟩) := by unfold Hid letterOf; rw [if_neg h2, if_neg h3]; rfl
      clear h2 h3
      go_enter Tryz.func102, Tryz.ntmps102
      go_wp2_with fail
      refine (HT.out _).mono ?_
      rintro e w1 ⟨rfl, hb⟩
      go_wp2
      go_ret
      exact ⟨ret_str (by rw [HF.out, HL.out]), ((Below.refl _ _).alloc (Nat.le_refl _) _).trans (hb.mono (by simp))⟩

theorem idO_len (o : Ob) : (idO o).length = 32 := by simp [idO, shaR]
set_option maxHeartbeats 1000000 in
theorem rido_any (k : Int) (s : ByteArray) (w : World) (hs : s.size ≤ 100000) :
    Calls Tryz.prog 58 #[.agg #[.int .i64 k, .string s]] w fun e w' => e = .returned (.agg (idC (idO ⟨k, s⟩)).toArray) ∧ Below w.heap.size w w' := by
  have HT := Lib.hid (fun w => rframe_any k s w (by omega))
  have hq : (ofB (frameL ⟨k, s⟩)).size ≤ 1000000 := by
    rw [ofB_size]; unfold frameL
    have h1 := numB_le6 (n := s.size) (by omega)
    have h2 : s.data.toList.length = s.size := by simp
    simp; omega
  have HS := Lib.hid (fun w => rsum_any (ofB (frameL ⟨k, s⟩)) w hq)
  have HI : Hid (idV (shaR (ofB (frameL ⟨k, s⟩))) = .agg (idC (idO ⟨k, s⟩)).toArray) := Lib.hid rfl
  have hlen : (idC (idO ⟨k, s⟩)).length = 32 := by rw [idC_len, idO_len]
  have hone := idC_one (idO ⟨k, s⟩)
  have hO := (Arr.new (w.alloc (.cells #[.int .i64 k, .string s] 93)) 32 (.int .u8 0) 24)
  generalize idC (idO ⟨k, s⟩) = us at HI hlen hone
  generalize idV (shaR (ofB (frameL ⟨k, s⟩))) = r at HS HI
  generalize ofB (frameL ⟨k, s⟩) = f at HT hq HS
  obtain rfl : r = .agg us.toArray := HI.out
  rw [World.size_alloc] at hO
  have HO := Lib.hid hO
  have HLN := Lib.hid hlen
  have HON := Lib.hid hone
  have h32 : (Tryz.prog.info? 24).map (·.size) = some 32 := by kernel_rfl
  have h32u : (Tryz.prog.info? 24).map (·.size) = some us.length := by rw [hlen]; exact h32
  clear hO hlen hone HI
  go_enter Tryz.func58, Tryz.ntmps58
  go_wp2_with fail
  refine (HT.out _).mono ?_
  rintro e w1 ⟨rfl, hb1⟩
  go_wp2_with fail
  refine (HS.out _).mono ?_
  rintro e w2 ⟨rfl, hb2⟩
  have hb12 : Below ((w.alloc (.cells #[.int .i64 k, .string s] 93)).alloc (.cells (Array.replicate 32 (.int .u8 0)) 24)).heap.size ((w.alloc (.cells #[.int .i64 k, .string s] 93)).alloc (.cells (Array.replicate 32 (.int .u8 0)) 24)) w2 := hb1.trans (hb2.mono hb1.size)
  have hO2 := HO.out.below hb12 (by simp)
  have HTH := Lib.hid hO2.there
  have HFR := Lib.hid (World.rangeAt_setCells_same w2 (w.heap.size + 1) 0 us (by rw [HLN.out]; exact hO2.there))
  have HBF := Lib.hid (below_setCells (B := w.heap.size) (a := w) (w.heap.size + 1) (by omega) us 0 w2 ((((Below.refl _ _).alloc (Nat.le_refl _) _).alloc (by simp) _).trans (hb12.mono (by simp; omega))))
  clear hb1 hb2 hb12 hO2
  go_wp2_with (refine wpList_store_list rfl 24 _ _ rfl (w.heap.size + 1) 0 us ?y1 ?y2 32 HLN.out ?y4 h32 HON.out ?_)
  try case y1 => rfl
  try case y2 => rfl
  case y4 => exact HTH.out
  simp only [Act.put]
  refine ret_cell rfl (w.heap.size + 1) 0 (by simp) us _ HFR.out Tryz.underlying24 rfl h32u rfl ⟨rfl, HBF.out⟩
end Go.Proofs.YtbmiiiccnoiffaaGreatDoor

namespace Go.Proofs.YtbmiiiccnoiffaaGreatDoor
open Go.RowKit

/-- A load of a row of cells in a drawn region of quiet operations. -/
theorem bq_row {P : Program} {ops : Array Oper} {Q : Act → Prop} {rest : List Oper} {a : Act} {o : Oper} {w : World} {b off : Nat} {cs : List Value} (ty : TypeId) (d : TypeDesc) (x : Operand) (ho : o.op = .load ty x)
    (hw : Region.wanted o (yielded ops a.tmps) = true) (hx : a.eval x = .pointer (some ⟨b, off, none⟩)) (hr : w.rangeAt b off cs) (hb : b < w.heap.size) (hu : P.underlying ty = some d) (hd : d.isRow = true)
    (hi : (P.info? ty).map (·.size) = some cs.length) (hk : wpQuiet P ops (fun w' => ∃ x : BW w.heap.size w, w' = x.out) Q rest (a.put o.dst (.agg cs.toArray))) : wpQuiet P ops (fun w' => ∃ x : BW w.heap.size w, w' = x.out) Q (o :: rest) a := by
  unfold wpQuiet
  rw [if_pos hw]
  refine ⟨_, fun w' hw' => ?_, hk⟩
  obtain ⟨y, rfl⟩ := hw'
  unfold Oper.quietAt
  rw [exec_load_row ty d hr hb hu hd hi y.hb x ho hx]
  exact ⟨rfl, rfl⟩

def IdRow (w : World) (v : Value) (l : List (List UInt8)) : Prop := RowOf w v 32 (l.map idC)
theorem IdRow.below {w w' : World} {v : Value} {l : List (List UInt8)} (h : IdRow w v l) (hb : Below w.heap.size w w') : IdRow w' v l := RowOf.below h hb
theorem IdRow.open {w : World} {v : Value} {l : List (List UInt8)} (h : IdRow w v l) : ∃ ao cap, v = .slice ao l.length cap ∧ l.length ≤ maxLen ∧ (l ≠ [] → ∃ b off, ao = some ⟨b, off, none⟩ ∧ b < w.heap.size ∧ ∀ k (hk : k < l.length), w.rangeAt b (off + k * 32) (idC l[k])) := by
  obtain ⟨ao, cap, rfl, hm, h⟩ := h
  rw [List.length_map] at hm ⊢
  refine ⟨ao, cap, rfl, hm, fun hne => ?_⟩
  obtain ⟨b, off, e, hl, hc⟩ := h (by simpa using hne)
  refine ⟨b, off, e, hl, fun k hk => ?_⟩
  have := hc k (by simpa using hk)
  rw [List.getElem_map] at this
  exact this
theorem h32_of {us : List Value} (h : us.length = 32) : (Tryz.prog.info? 24).map (·.size) = some us.length := by rw [h]; kernel_rfl

theorem treeB_snoc (l : List Ent) (k : Nat) (h : k < l.length) : treeB (l.take (k + 1)) = treeB (l.take k) ++ l[k].bytes := by
  unfold treeB; rw [List.take_succ_eq_append_getElem h, List.map_append, List.flatten_append]; simp [-List.map_take]
theorem ofB_ent (o : ByteArray) (L : List UInt8) (h : o = ofB L) (e : Ent) : o ++ ofB (numB e.kind) ++ ofB (numB e.name.size ++ e.name.data.toList) ++ ofB e.id = ofB (L ++ e.bytes) := by
  subst h
  rw [← ofB_append, ← ofB_append, ← ofB_append]
  unfold Ent.bytes; simp only [List.append_assoc]
set_option maxRecDepth 100000 in
set_option maxHeartbeats 1000000 in
theorem rtreebody_any (v : Value) (l : List Ent) (w : World) (hv : EntRow w v l) (hz : ∀ e ∈ l, e.name.size ≤ 1000 ∧ e.kind ≤ 2 ∧ e.id.length = 32) (hn : l.length ≤ 1000) :
    Calls Tryz.prog 132 #[v] w fun e w' => e = .returned (.string (ofB (treeB l))) ∧ Below w.heap.size w w' := by
  obtain ⟨ao, cap, rfl, hmax, hv⟩ := hv.open
  have HZ := Lib.hid hz
  have HV := Lib.hid hv
  clear hv hz
  go_enter Tryz.func132, Tryz.ntmps132
  go_wp2
  go_loopw [3, 4] (fun s i wr => ∃ (k : Nat) (o : ByteArray), k ≤ l.length ∧ i = .int .i64 k ∧ s = .string o ∧ o.size ≤ k * 1100 ∧ Hid (o = ofB (treeB (l.take k))) ∧ Below w.heap.size w wr) (fun _ i _ => (l.length - intOf i).toNat)
  case atStart => exact ⟨0, _, by omega, rfl, rfl, by simp; rfl, rfl, Below.refl _ _⟩
  case round =>
    obtain ⟨wo, rfl⟩ : ∃ wo : World, wo = wr := ⟨_, rfl⟩
    obtain ⟨k, o, hk, rfl, rfl, hos, hoe, hb⟩ := hrel
    by_cases hlt : k < l.length
    · obtain ⟨b, off, rfl, hbl, hcell⟩ := HV.out (by intro e; rw [e] at hlt; simp at hlt)
      have c1 := below_load (hcell k hlt).1 hb hbl
      have c2 := below_load (hcell k hlt).2.1 hb hbl
      have c3 := rangeAt_below (hcell k hlt).2.2 hb hbl
      have hbo : b < wo.heap.size := by have := hb.size; omega
      obtain ⟨hz1, hz2, hz3⟩ := HZ.out l[k] (List.getElem_mem hlt)
      have HN := Lib.hid (fun w => rnumber_any l[k].kind l[k].kind w (Nat.le_refl _) (by omega))
      have HT := Lib.hid (fun w => rtextw_any l[k].name w (by omega))
      have HI := Lib.hid (fun w => ridw_any l[k].id w hz3)
      have hq1 : (ofB (numB l[k].kind)).size ≤ 6 := by rw [ofB_size]; exact numB_le6 (by omega)
      have hq2 : (ofB (numB l[k].name.size ++ l[k].name.data.toList)).size ≤ 1006 := by
        rw [ofB_size, List.length_append]
        have h1 := numB_le6 (n := l[k].name.size) (by omega)
        have h2 : l[k].name.data.toList.length = l[k].name.size := by simp
        omega
      have hq3 : (ofB l[k].id).size ≤ 32 := by rw [ofB_size]; omega
      have HF := Lib.hid (ofB_ent o _ hoe.out l[k])
      have HTS := Lib.hid (treeB_snoc l k hlt)
      have hlen : (idC l[k].id).length = 32 := by rw [idC_len, hz3]
      have h32 := h32_of hlen
      clear hcell hoe hlen hz1 hz2 hz3
      generalize idC l[k].id = us at c3 HI h32
      generalize ofB (numB l[k].name.size ++ l[k].name.data.toList) = q2 at HT hq2 HF
      generalize ofB (numB l[k].kind) = q1 at HN hq1 HF
      generalize ofB l[k].id = q3 at HI hq3 HF
      generalize l[k].name = x at c1 HT
      generalize l[k].kind = y at c2 HN
      have k0 : (0 : Int) ≤ k := by omega
      have k1 : (k : Int) < l.length := by omega
      go_wp2
      refine wp_region_bq (by kernel_rfl) (by kernel_rfl) ?_
      have LQ0 := fun x : BW (World.heap wo).size wo => below_load c1 x.hb (by omega)
      have LQ1 := fun x : BW (World.heap wo).size wo => below_load c2 x.hb (by omega)
      repeat (go_big_quiet_step ((first | (go_at_call 148; with_reducible exact calls_bw (HN.out _)) | (go_at_call 145; with_reducible exact calls_bw (HT.out _)) | (go_at_call 147; with_reducible exact calls_bw (HI.out _)))))
      refine bq_row 24 _ _ rfl rfl rfl c3 (by omega) Tryz.underlying24 rfl h32 ?_
      simp only [Act.put, List.setIfInBounds_toArray, List.set_cons_zero, List.set_cons_succ]
      repeat (go_big_quiet_step ((first | (go_at_call 148; with_reducible exact calls_bw (HN.out _)) | (go_at_call 145; with_reducible exact calls_bw (HT.out _)) | (go_at_call 147; with_reducible exact calls_bw (HI.out _)))))
      refine wpQuiet_nil ?_
      intro wq hbq
      clear LQ0 LQ1
      have HB := Lib.hid (hb.trans (hbq.mono hb.size))
      clear hb hbq c1 c2 c3
      go_wp2
      go_roundw
      case rel => exact ⟨k + 1, _, by omega, by go_num, rfl, by simp only [ByteArray.size_append]; omega, by unfold Hid; rw [HTS.out, ← HF.out], HB.out⟩
      case measure => simp [intOf]; omega
    · obtain rfl : k = l.length := by omega
      have HE := Lib.hid hoe.out
      rw [List.take_length] at HE
      clear hoe
      go_wp2
      go_ret
      exact ⟨ret_str HE.out, hb⟩

def cmC (t : List UInt8) (v : Value) (x : ByteArray) : List Value := idC t ++ [v, .string x]
theorem cmC_len (t : List UInt8) (v : Value) (x : ByteArray) (h : t.length = 32) : (cmC t v x).length = 34 := by simp [cmC, idC_len, h]
theorem cm_cells (w : World) (t : List UInt8) (v : Value) (x : ByteArray) (ty : TypeId) (h : t.length = 32) :
    (w.alloc (.cells (cmC t v x).toArray ty)).rangeAt w.heap.size 0 (idC t) ∧ (w.alloc (.cells (cmC t v x).toArray ty)).cell? ⟨w.heap.size, 32, none⟩ = some v ∧ (w.alloc (.cells (cmC t v x).toArray ty)).cell? ⟨w.heap.size, 33, none⟩ = some (.string x) := by
  have hl : (idC t).length = 32 := by rw [idC_len, h]
  refine ⟨fun j u hu => ?_, ?_, ?_⟩
  · rw [World.cell?_alloc_new, Nat.zero_add]
    have hj := (List.getElem?_eq_some_iff.1 hu).1
    simp only [cmC, List.getElem?_toArray]
    rw [List.getElem?_append_left hj]; exact hu
  · rw [World.cell?_alloc_new]
    simp only [cmC, List.getElem?_toArray]
    rw [List.getElem?_append_right (by omega), hl]; rfl
  · rw [World.cell?_alloc_new]
    simp only [cmC, List.getElem?_toArray]
    rw [List.getElem?_append_right (by omega), hl]; rfl
theorem flat_snoc (l : List (List UInt8)) (k : Nat) (h : k < l.length) : (l.take (k + 1)).flatten = (l.take k).flatten ++ l[k] := by
  rw [List.take_succ_eq_append_getElem h, List.flatten_append]; simp

set_option maxRecDepth 100000 in
set_option maxHeartbeats 1000000 in
theorem rcommitbody_any (t : List UInt8) (v : Value) (l : List (List UInt8)) (x : ByteArray) (w : World) (hv : IdRow w v l) (ht : t.length = 32) (hl : ∀ y ∈ l, y.length = 32) (hn : l.length ≤ 1000) (hx : x.size ≤ 1000) :
    Calls Tryz.prog 108 #[.agg (cmC t v x).toArray] w fun e w' => e = .returned (.string (ofB (commitB (t, l, x)))) ∧ Below w.heap.size w w' := by
  obtain ⟨ao, cap, rfl, hmax, hv⟩ := hv.open
  obtain ⟨c0, c1, c2⟩ := cm_cells w t (.slice ao l.length cap) x 97 ht
  have hb0 : Below w.heap.size w (w.alloc (.cells (cmC t (.slice ao l.length cap) x).toArray 97)) := (Below.refl _ _).alloc (Nat.le_refl _) _
  have HB0 := Lib.hid hb0
  have hlt0 : w.heap.size < (w.alloc (.cells (cmC t (.slice ao l.length cap) x).toArray 97)).heap.size := by simp
  have HZ := Lib.hid hl
  have HV := Lib.hid hv
  have hlen : (idC t).length = 32 := by rw [idC_len, ht]
  have h32 := h32_of hlen
  have HI := Lib.hid (fun w => ridw_any t w ht)
  have HN := Lib.hid (fun w => rnumber_any l.length l.length w (Nat.le_refl _) (by omega))
  have HT := Lib.hid (fun w => rtextw_any x w (by omega))
  have hq1 : (ofB t).size ≤ 32 := by rw [ofB_size]; omega
  have hq2 : (ofB (numB l.length)).size ≤ 6 := by rw [ofB_size]; exact numB_le6 (by omega)
  have hq3 : (ofB (numB x.size ++ x.data.toList)).size ≤ 1006 := by
    rw [ofB_size, List.length_append]
    have h1 := numB_le6 (n := x.size) (by omega)
    have h2 : x.data.toList.length = x.size := by simp
    omega
  have HF : Hid (∀ o : ByteArray, o = ofB (t ++ (numB l.length ++ l.flatten)) → o ++ ofB (numB x.size ++ x.data.toList) = ofB (commitB (t, l, x))) := Lib.hid (fun o h => by
    subst h; rw [← ofB_append]; unfold commitB; simp only [List.append_assoc])
  have HF0 : Hid (ofB t ++ ofB (numB l.length) = ofB (t ++ (numB l.length ++ (l.take 0).flatten))) := Lib.hid (by rw [← ofB_append]; simp)
  clear hv hl ht hlen hb0
  generalize ofB (numB x.size ++ x.data.toList) = q3 at HT hq3 HF
  generalize hus : idC t = us at c0 HI h32
  have HUS := Lib.hid hus
  clear hus
  generalize cmC t (.slice ao l.length cap) x = cs at c0 c1 c2 HB0 hlt0
  go_enter Tryz.func108, Tryz.ntmps108
  go_wp2
  obtain ⟨W, hW⟩ : ∃ W, W = w.alloc (.cells cs.toArray 97) := ⟨_, rfl⟩
  rw [← hW] at c0 c1 c2 HB0 hlt0 ⊢
  clear hW
  generalize ofB (numB l.length) = q2 at HN hq2 HF0
  generalize ofB t = q1 at HI hq1 HF0
  refine wp_region_bq (by kernel_rfl) (by kernel_rfl) ?_
  have LQ0 := fun x : BW (World.heap W).size W => below_load c1 x.hb (by omega)
  repeat (go_big_quiet_step ((first | (go_at_call 147; with_reducible exact calls_bw (HI.out _)) | (go_at_call 148; with_reducible exact calls_bw (HN.out _)))))
  refine bq_row 24 _ _ rfl rfl rfl c0 (by omega) Tryz.underlying24 rfl h32 ?_
  simp only [Act.put, List.setIfInBounds_toArray, List.set_cons_zero, List.set_cons_succ]
  repeat (go_big_quiet_step ((first | (go_at_call 147; with_reducible exact calls_bw (HI.out _)) | (go_at_call 148; with_reducible exact calls_bw (HN.out _)))))
  refine wpQuiet_nil ?_
  intro wq hbq
  clear LQ0
  have HB := Lib.hid (HB0.out.trans (hbq.mono HB0.out.size))
  have d1 := below_load c1 hbq hlt0
  have d2 := below_load c2 hbq hlt0
  have hltq : w.heap.size < wq.heap.size := by have := hbq.size; omega
  clear c0 c1 c2 hbq HB0 hlt0
  go_wp2
  go_loopw [3, 4] (fun s i wr => ∃ (k : Nat) (o : ByteArray), k ≤ l.length ∧ i = .int .i64 k ∧ s = .string o ∧ o.size ≤ 40 + k * 32 ∧ Hid (o = ofB (t ++ (numB l.length ++ (l.take k).flatten))) ∧ Below wq.heap.size wq wr) (fun _ i _ => (l.length - intOf i).toNat)
  case atStart => exact ⟨0, _, by omega, rfl, rfl, by simp only [ByteArray.size_append]; omega, HF0.out, Below.refl _ _⟩
  case round =>
    obtain ⟨wo, rfl⟩ : ∃ wo : World, wo = wr := ⟨_, rfl⟩
    obtain ⟨k, o, hk, rfl, rfl, hos, hoe, hb⟩ := hrel
    have e1 := below_load d1 hb hltq
    have e2 := below_load d2 hb hltq
    by_cases hlt : k < l.length
    · obtain ⟨b, off, rfl, hbl, hcell⟩ := HV.out (by intro e; rw [e] at hlt; simp at hlt)
      have c3 := rangeAt_below (hcell k hlt) (HB.out.trans (hb.mono HB.out.size)) hbl
      have hz := HZ.out l[k] (List.getElem_mem hlt)
      have hlen : (idC l[k]).length = 32 := by rw [idC_len, hz]
      have h32k := h32_of hlen
      have HIK := Lib.hid (fun w => ridw_any l[k] w hz)
      have hq : (ofB l[k]).size ≤ 32 := by rw [ofB_size]; omega
      have HS : Hid (o ++ ofB l[k] = ofB (t ++ (numB l.length ++ (l.take (k + 1)).flatten))) := Lib.hid (by
        rw [flat_snoc l k hlt, hoe.out, ← ofB_append]; simp only [List.append_assoc])
      clear hcell hoe hlen hz
      generalize idC l[k] = uk at c3 HIK h32k
      generalize ofB l[k] = q at HIK hq HS
      have k0 : (0 : Int) ≤ k := by omega
      have k1 : (k : Int) < l.length := by omega
      go_wp2_with (refine wpList_load_mid rfl 24 _ rfl b (off + k * 32) rfl uk _ c3 Tryz.underlying24 rfl h32k ?_)
      refine (HIK.out _).mono ?_
      rintro e w1 ⟨rfl, hb1⟩
      have HB1 := Lib.hid (hb.trans (hb1.mono hb.size))
      clear hb hb1 e1 e2 d1 d2 c3
      go_wp2
      go_roundw
      case rel => exact ⟨k + 1, _, by omega, by go_num, rfl, by simp only [ByteArray.size_append]; omega, HS.out, HB1.out⟩
      case measure => simp [intOf]; omega
    · obtain rfl : k = l.length := by omega
      have HE := Lib.hid hoe.out
      rw [List.take_length] at HE
      clear hoe
      go_wp2_with fail
      refine (HT.out _).mono ?_
      rintro e w1 ⟨rfl, hb1⟩
      go_wp2
      go_ret
      have hb2 := hb.trans (hb1.mono hb.size)
      exact ⟨ret_str (HF.out _ HE.out), HB.out.trans (hb2.mono HB.out.size)⟩
end Go.Proofs.YtbmiiiccnoiffaaGreatDoor

namespace Go.Proofs.YtbmiiiccnoiffaaGreatDoor
open Go.RowKit

theorem sizeB (w : World) : (sizeOf 5).run Tryz.prog w = .ok 1 w := by kernel_rfl
/-- Ids held against one another. -/
theorem id_eqIn (x y : List UInt8) (hx : x.length = 32) (hy : y.length = 32) (w : World) : (Op.equalIn 10000 24 (.agg (idC x).toArray) (.agg (idC y).toArray)).run Tryz.prog w = .ok (x == y) w :=
  run_equalIn_bytes w 9998 24 5 32 Tryz.underlying24 Tryz.underlying5 sizeB x y hx hy
theorem id_eqIn_yes {x y : List UInt8} (hx : x.length = 32) (h : x = y) (w : World) : (Op.equalIn 10000 24 (.agg (idC x).toArray) (.agg (idC y).toArray)).run Tryz.prog w = .ok true w := by
  subst h; rw [id_eqIn x x hx hx w, beq_self_eq_true]
theorem id_eqIn_no {x y : List UInt8} (hx : x.length = 32) (hy : y.length = 32) (h : x ≠ y) (w : World) : (Op.equalIn 10000 24 (.agg (idC x).toArray) (.agg (idC y).toArray)).run Tryz.prog w = .ok false w := by
  rw [id_eqIn x y hx hy w, beq_eq_false_iff_ne.2 h]
theorem take_nodup {α : Type} {l : List α} {k : Nat} (hk : k < l.length) (h : (l.take k).Nodup) (hn : ∀ j (hj : j < k), l[j] ≠ l[k]) : (l.take (k + 1)).Nodup := by
  rw [List.take_succ_eq_append_getElem hk, List.nodup_append]
  refine ⟨h, by simp, fun a ha b hb e => ?_⟩
  obtain ⟨j, hj, ej⟩ := List.getElem_of_mem ha
  have hjk : j < k := by simp at hj; omega
  rw [List.getElem_take] at ej
  rw [List.mem_singleton.1 hb] at e
  exact hn j hjk (ej.trans e)
theorem not_nodup {α : Type} {l : List α} {j k : Nat} (hj : j < k) (hk : k < l.length) (h : l[j] = l[k]) : ¬ l.Nodup := fun hn => by
  have := (List.getElem_inj hn).1 h
  omega

set_option maxRecDepth 100000 in
set_option maxHeartbeats 2000000 in
theorem rcommitright_any (t : List UInt8) (v : Value) (l : List (List UInt8)) (x : ByteArray) (w : World) (hv : IdRow w v l) (ht : t.length = 32) (hl : ∀ y ∈ l, y.length = 32) (hn : l.length ≤ 1000) :
    Calls Tryz.prog 107 #[.agg (cmC t v x).toArray] w fun e w' => e = .returned (.bool (commitOk (t, l, x))) ∧ Below w.heap.size w w' := by
  obtain ⟨ao, cap, rfl, hmax, hv⟩ := hv.open
  obtain ⟨_, c1, c2⟩ := cm_cells w t (.slice ao l.length cap) x 97 ht
  have hb0 : Below w.heap.size w (w.alloc (.cells (cmC t (.slice ao l.length cap) x).toArray 97)) := (Below.refl _ _).alloc (Nat.le_refl _) _
  have HB0 := Lib.hid hb0
  have hlt0 : w.heap.size < (w.alloc (.cells (cmC t (.slice ao l.length cap) x).toArray 97)).heap.size := by simp
  have HZ := Lib.hid hl
  have HV := Lib.hid hv
  have HC : Hid (commitOk (t, l, x) = (decide l.Nodup && decide (l.length ≤ 4 ∧ x.size ≤ 64))) := Lib.hid rfl
  clear hv hl hb0
  generalize cmC t (.slice ao l.length cap) x = cs at c1 c2 HB0 hlt0
  by_cases h4 : 4 < l.length
  · have HR : Hid (commitOk (t, l, x) = false) := by unfold Hid; rw [HC.out, decide_eq_false (show ¬ (l.length ≤ 4 ∧ x.size ≤ 64) by omega), Bool.and_false]
    have d1 : decide ((4 : Int) < l.length) = true := decide_eq_true (by omega)
    go_enter Tryz.func107, Tryz.ntmps107
    go_wp2
    go_ret
    exact ⟨ret_bool HR.out.symm, HB0.out⟩
  · have d1 : decide ((4 : Int) < l.length) = false := decide_eq_false (by omega)
    by_cases h64 : 64 < x.size
    · have HR : Hid (commitOk (t, l, x) = false) := by unfold Hid; rw [HC.out, decide_eq_false (show ¬ (l.length ≤ 4 ∧ x.size ≤ 64) by omega), Bool.and_false]
      have d2 : decide ((64 : Int) < x.size) = true := decide_eq_true (by omega)
      go_enter Tryz.func107, Tryz.ntmps107
      go_wp2
      go_ret
      exact ⟨ret_bool HR.out.symm, HB0.out⟩
    · have d2 : decide ((64 : Int) < x.size) = false := decide_eq_false (by omega)
      have HC2 : Hid (commitOk (t, l, x) = decide l.Nodup) := by unfold Hid; rw [HC.out, decide_eq_true (show l.length ≤ 4 ∧ x.size ≤ 64 by omega), Bool.and_true]
      clear h4 h64
      go_enter Tryz.func107, Tryz.ntmps107
      go_wp2
      obtain ⟨W, hW⟩ : ∃ W, W = w.alloc (.cells cs.toArray 97) := ⟨_, rfl⟩
      rw [← hW] at c1 c2 HB0 hlt0 ⊢
      clear hW
      go_loopw [3, 4] (fun i j wr => ∃ k : Nat, k ≤ l.length ∧ i = .int .i64 k ∧ Hid ((l.take k).Nodup) ∧ Below W.heap.size W wr) (fun i _ _ => (l.length - intOf i).toNat)
      case atStart => exact ⟨0, by omega, rfl, List.nodup_nil, Below.refl _ _⟩
      case round =>
        obtain ⟨wo, rfl⟩ : ∃ wo : World, wo = wr := ⟨_, rfl⟩
        obtain ⟨k, hk, rfl, hnd, hb⟩ := hrel
        have e1 := below_load c1 hb hlt0
        by_cases hlt : k < l.length
        · obtain ⟨b, off, rfl, hbl, hcell⟩ := HV.out (by intro e; rw [e] at hlt; simp at hlt)
          have c3 := rangeAt_below (hcell k hlt) (HB0.out.trans (hb.mono HB0.out.size)) hbl
          have hzk := HZ.out l[k] (List.getElem_mem hlt)
          have HCK := Lib.hid (fun j (hj : j < l.length) w' (hb' : Below w.heap.size w w') => rangeAt_below (hcell j hj) hb' hbl)
          have hbo : b < wo.heap.size := by have := HB0.out.size; have := hb.size; omega
          have hlto : w.heap.size < wo.heap.size := by have := hb.size; omega
          have HBO := Lib.hid hb
          have HND := Lib.hid hnd.out
          clear hcell hnd hb
          go_wp2
          go_loopw [4] (fun j wr => ∃ m : Nat, m ≤ k ∧ j = .int .i64 m ∧ Hid (∀ j (hj : j < m) (hm : m ≤ k), l[j] ≠ l[k]) ∧ Below wo.heap.size wo wr) (fun j _ => (k - intOf j).toNat)
          case atStart => exact ⟨0, by omega, rfl, fun j hj _ => absurd hj (by omega), Below.refl _ _⟩
          case round =>
            obtain ⟨wi, rfl⟩ : ∃ wi : World, wi = wr := ⟨_, rfl⟩
            obtain ⟨m, hm, rfl, hne, hbi⟩ := hrel
            by_cases hmk : m < k
            · have f1 := below_load e1 hbi hlto
              have f3 := rangeAt_below c3 hbi hbo
              have hlti : w.heap.size < wi.heap.size := by have := hbi.size; omega
              have hbli : b < wi.heap.size := by have := hbi.size; omega
              have hbw : Below w.heap.size w wi := (HB0.out.trans (HBO.out.mono HB0.out.size)).trans (hbi.mono (by have := HB0.out.size; have := HBO.out.size; omega))
              have f4 := HCK.out m (by omega) wi hbw
              have hzm := HZ.out l[m] (List.getElem_mem (show m < l.length by omega))
              have h32k := h32_of (us := idC l[k]) (by rw [idC_len, hzk])
              have h32m := h32_of (us := idC l[m]) (by rw [idC_len, hzm])
              have k0 : (0 : Int) ≤ k := by omega
              have k1 : (k : Int) < l.length := by omega
              have m0 : (0 : Int) ≤ m := by omega
              have m1 : (m : Int) < l.length := by omega
              have m2 : decide ((m : Int) < k) = true := decide_eq_true (by omega)
              have HNE := Lib.hid hne.out
              clear hne hbw
              by_cases he : l[k] = l[m]
              · have heq := fun w => id_eqIn_yes hzk he w
                have HR : Hid (commitOk (t, l, x) = false) := by unfold Hid; rw [HC2.out]; exact decide_eq_false (not_nodup hmk hlt he.symm)
                clear he hzk hzm
                generalize idC l[k] = uk at f3 h32k heq
                generalize idC l[m] = um at f4 h32m heq
                go_wp2
                refine wp_region_bq (by kernel_rfl) (by kernel_rfl) ?_
                have LQ0 := fun x : BW (World.heap wi).size wi => below_load f1 x.hb (by omega)
                repeat (go_big_quiet_step (fail))
                refine bq_row 24 _ _ rfl rfl rfl f3 (by omega) Tryz.underlying24 rfl h32k ?_
                simp only [Act.put, List.setIfInBounds_toArray, List.set_cons_zero, List.set_cons_succ]
                repeat (go_big_quiet_step (fail))
                refine bq_row 24 _ _ rfl rfl rfl f4 (by omega) Tryz.underlying24 rfl h32m ?_
                simp only [Act.put, List.setIfInBounds_toArray, List.set_cons_zero, List.set_cons_succ]
                repeat (go_big_quiet_step (fail))
                refine wpQuiet_nil ?_
                intro wq hbq
                clear LQ0
                go_wp2
                go_ret
                exact ⟨ret_bool HR.out.symm, (HB0.out.trans (HBO.out.mono HB0.out.size)).trans ((hbi.trans (hbq.mono hbi.size)).mono (by have := HB0.out.size; have := HBO.out.size; omega))⟩
              · have heq := fun w => id_eqIn_no hzk hzm he w
                have HE := Lib.hid he
                clear he hzk hzm
                generalize idC l[k] = uk at f3 h32k heq
                generalize idC l[m] = um at f4 h32m heq
                go_wp2
                refine wp_region_bq (by kernel_rfl) (by kernel_rfl) ?_
                have LQ0 := fun x : BW (World.heap wi).size wi => below_load f1 x.hb (by omega)
                repeat (go_big_quiet_step (fail))
                refine bq_row 24 _ _ rfl rfl rfl f3 (by omega) Tryz.underlying24 rfl h32k ?_
                simp only [Act.put, List.setIfInBounds_toArray, List.set_cons_zero, List.set_cons_succ]
                repeat (go_big_quiet_step (fail))
                refine bq_row 24 _ _ rfl rfl rfl f4 (by omega) Tryz.underlying24 rfl h32m ?_
                simp only [Act.put, List.setIfInBounds_toArray, List.set_cons_zero, List.set_cons_succ]
                repeat (go_big_quiet_step (fail))
                refine wpQuiet_nil ?_
                intro wq hbq
                clear LQ0
                have HBI := Lib.hid (hbi.trans (hbq.mono hbi.size))
                clear hbi hbq f1 f3 f4
                go_wp2
                go_roundw
                case rel => exact ⟨m + 1, by omega, by go_num, fun j hj hm2 => by
                  rcases Nat.lt_or_ge j m with h | h
                  · exact HNE.out j h hm
                  · obtain rfl : j = m := by omega
                    exact fun e => HE.out e.symm, HBI.out⟩
                case measure => simp [intOf]; omega
            · obtain rfl : m = k := by omega
              have m2 : decide ((m : Int) < m) = false := decide_eq_false (by omega)
              have HNX := Lib.hid (take_nodup hlt HND.out (fun j hj => hne.out j hj (Nat.le_refl _)))
              have HBI := Lib.hid (HBO.out.trans (hbi.mono HBO.out.size))
              clear hne hbi
              go_wp2
              go_roundw
              case rel => exact ⟨m + 1, by omega, by go_num, HNX.out, HBI.out⟩
              case measure => simp [intOf]; omega
        · obtain rfl : k = l.length := by omega
          have HR : Hid (commitOk (t, l, x) = true) := by
            unfold Hid; rw [HC2.out]
            have := hnd.out
            rw [List.take_length] at this
            exact decide_eq_true this
          clear hnd
          go_wp2
          go_ret
          exact ⟨ret_bool HR.out.symm, HB0.out.trans (hb.mono HB0.out.size)⟩
end Go.Proofs.YtbmiiiccnoiffaaGreatDoor
namespace Go.Proofs.YtbmiiiccnoiffaaGreatDoor
open Go.RowKit

/-- How much is left to read, as the reader in block b has it. -/
def leftM (b : Nat) (w : World) : Nat := match w.cell? ⟨b, 1, none⟩, w.cell? ⟨b, 2, none⟩ with
  | some (.int _ p), some (.int _ e) => if e = 0 then 1000001 - p.toNat else 0
  | _, _ => 0
theorem leftM_eq {b : Nat} {w : World} {r : Rd} (h : Arr w b 3 r.c) : leftM b w = if r.err = 0 then 1000001 - r.pos else 0 := by
  unfold leftM
  have c1 : w.cell? ⟨b, 1, none⟩ = some (.int .i64 (r.pos : Int)) := h.cell 1 (by omega)
  have c2 : w.cell? ⟨b, 2, none⟩ = some (.int .i64 (r.err : Int)) := h.cell 2 (by omega)
  rw [c1, c2]
  by_cases h0 : r.err = 0
  · simp [h0]
  · simp [h0]
theorem rd0_arr (w : World) (s : ByteArray) (e : TypeId) : Arr (w.alloc (.cells #[.string s, .int .i64 0, .int .i64 0] e)) w.heap.size 3 (rd0 s).c :=
  (Arr.ofList w [.string s, .int .i64 0, .int .i64 0] e).congr fun k hk => by
    obtain h | h | h : k = 0 ∨ k = 1 ∨ k = 2 := by simp at hk; omega
    all_goals subst h; rfl
def entZ (k : Nat) : Value := if k = 0 then .string ByteArray.empty else if k = 1 then .int .i64 0 else .int .u8 0
theorem entZ_list : #[.string ⟨#[]⟩, .int .i64 0, .int .u8 0, .int .u8 0, .int .u8 0, .int .u8 0, .int .u8 0, .int .u8 0, .int .u8 0, .int .u8 0, .int .u8 0, .int .u8 0, .int .u8 0, .int .u8 0, .int .u8 0, .int .u8 0, .int .u8 0, .int .u8 0, .int .u8 0, .int .u8 0, .int .u8 0, .int .u8 0, .int .u8 0, .int .u8 0, .int .u8 0, .int .u8 0, .int .u8 0, .int .u8 0, .int .u8 0, .int .u8 0, .int .u8 0, .int .u8 0, .int .u8 0, .int .u8 0] = ((List.range 34).map entZ).toArray := by kernel_rfl
theorem ent_zero : ∃ (zs : Array Value) (i0 : TypeInfo), Tryz.prog.info? 152 = some i0 ∧ i0.zero = some (.agg zs) ∧ i0.size = 34 ∧ i0.bytes = 56 ∧ (∀ w, (zeroValue 152).run Tryz.prog w = .ok (.agg zs) w) ∧ (∀ w, (Instr.build 152 #[]).run Tryz.prog w = .ok (.agg zs) w) ∧ zs = ((List.range 34).map entZ).toArray := by
  have h : (Tryz.prog.info? 152).map (fun i => (i.zero, i.size, i.bytes)) = some (some (.agg #[.string ⟨#[]⟩, .int .i64 0, .int .u8 0, .int .u8 0, .int .u8 0, .int .u8 0, .int .u8 0, .int .u8 0, .int .u8 0, .int .u8 0, .int .u8 0, .int .u8 0, .int .u8 0, .int .u8 0, .int .u8 0, .int .u8 0, .int .u8 0, .int .u8 0, .int .u8 0, .int .u8 0, .int .u8 0, .int .u8 0, .int .u8 0, .int .u8 0, .int .u8 0, .int .u8 0, .int .u8 0, .int .u8 0, .int .u8 0, .int .u8 0, .int .u8 0, .int .u8 0, .int .u8 0, .int .u8 0]), 34, 56) := by kernel_rfl
  obtain ⟨i0, hi, hz0, hz1, hz2⟩ := info_parts h
  exact ⟨#[.string ⟨#[]⟩, .int .i64 0, .int .u8 0, .int .u8 0, .int .u8 0, .int .u8 0, .int .u8 0, .int .u8 0, .int .u8 0, .int .u8 0, .int .u8 0, .int .u8 0, .int .u8 0, .int .u8 0, .int .u8 0, .int .u8 0, .int .u8 0, .int .u8 0, .int .u8 0, .int .u8 0, .int .u8 0, .int .u8 0, .int .u8 0, .int .u8 0, .int .u8 0, .int .u8 0, .int .u8 0, .int .u8 0, .int .u8 0, .int .u8 0, .int .u8 0, .int .u8 0, .int .u8 0, .int .u8 0], i0, hi, hz0, hz1, hz2, fun w => by kernel_rfl, fun w => run_build w 152 #[] _ (by kernel_rfl), entZ_list⟩
theorem entZ_one : ∀ v ∈ (List.range 34).map entZ, v.oneCell' = true := by
  intro v hv
  obtain ⟨k, _, rfl⟩ := List.mem_map.1 hv
  unfold entZ; split
  · rfl
  · split <;> rfl
/-- An entry's cells. -/
def entF (e : Ent) (k : Nat) : Value := (entC e).getD k undef
theorem entF_upd (e : Ent) (h : e.id.length = 32) (k : Nat) (hk : k < 34) : (if 2 ≤ k ∧ k < 2 + (idC e.id).length then (idC e.id).getD (k - 2) undef else upd (upd entZ 1 (.int .i64 (e.kind : Int))) 0 (.string e.name) k) = entF e k := by
  have hl : (idC e.id).length = 32 := by rw [idC_len, h]
  rw [hl]
  unfold upd entF entC
  obtain h0 | h0 | h0 : k = 0 ∨ k = 1 ∨ 2 ≤ k := by omega
  · subst h0; rfl
  · subst h0; rfl
  · rw [if_pos ⟨h0, by omega⟩]
    rw [List.getD_eq_getElem?_getD, List.getD_eq_getElem?_getD, List.getElem?_append_right (by simpa using h0)]; rfl
theorem entC_one (e : Ent) : ∀ v ∈ entC e, v.oneCell' = true := by
  intro v hv
  unfold entC at hv
  rcases List.mem_append.1 hv with h | h
  · simp at h; rcases h with rfl | rfl <;> rfl
  · exact idC_one _ v h
theorem cells_newL (w : World) (cs : List Value) (e : TypeId) (j : Nat) (u : Value) (h : cs[j]? = some u) : (w.alloc (.cells cs.toArray e)).cell? ((⟨w.heap.size, 0, none⟩ : Addr).add j) = some u := by
  rw [Addr.add_mid, Nat.zero_add, World.cell?_alloc_new]; simpa using h
theorem entF_list (e : Ent) (h : e.id.length = 32) : (List.range 34).map (entF e) = entC e := by
  have hl : (entC e).length = 34 := by simp [entC, idC_len, h]
  apply List.ext_getElem
  · simp [hl]
  · intro i h1 h2
    simp [entF, h2]
def entsF (l : List Ent) : List Value := (l.map entC).flatten
theorem entsF_snoc (l : List Ent) (e : Ent) : entsF (l ++ [e]) = entsF l ++ entC e := by simp [entsF]
theorem ents_stop (r : Rd) : ∀ (f : Nat) (es : List Ent), r.more = false → r.entsN f es = (r, es)
  | 0, _, _ => rfl
  | _ + 1, _, h => by unfold Rd.entsN; rw [h]; rfl
theorem ents_on (r : Rd) : ∀ (f : Nat) (es : List Ent), r.more = true → 0 < f → r.entsN f es = r.entry.1.entsN (f - 1) (es ++ [r.entry.2])
  | 0, _, _, h => by omega
  | f + 1, es, h, _ => by conv => lhs; unfold Rd.entsN
                          rw [if_pos h]; rfl
theorem own_below {w w' : World} {B : Nat} {e : TypeId} {sz : Nat} {v : Value} {n : Nat} {xs : List Value} (h : w.ownsRow B e sz v n xs) (hb : Below w.heap.size w w') : w'.ownsRow B e sz v n xs :=
  h.kept (grown_of_below hb none) (by cases hv : v.ownBlock <;> simp)
theorem own_grown {w w' : World} {B b : Nat} {e : TypeId} {sz : Nat} {v : Value} {n : Nat} {xs : List Value} (h : w.ownsRow B e sz v n xs) (hg : w.grownBy w' (some b)) (hb : b < B) : w'.ownsRow B e sz v n xs :=
  h.kept hg (by
    cases hv : v.ownBlock with
    | none => exact .inl rfl
    | some g => right; intro e; cases e; have := (h.lt b hv).1; omega)
theorem own_ne {w : World} {B b : Nat} {e : TypeId} {sz : Nat} {v : Value} {n : Nat} {xs : List Value} (h : w.ownsRow B e sz v n xs) (hb : b < B) : v.ownBlock = none ∨ v.ownBlock ≠ some b := by
  cases hv : v.ownBlock with
  | none => exact .inl rfl
  | some g => right; intro e; cases e; have := (h.lt b hv).1; omega
theorem own_new {w : World} {B : Nat} {e : TypeId} {sz : Nat} {v : Value} {n : Nat} {xs : List Value} (h : w.ownsRow B e sz v n xs) : v.ownBlock = none ∨ v.ownBlock ≠ some w.heap.size := by
  cases hv : v.ownBlock with
  | none => exact .inl rfl
  | some g => right; intro e; cases e; have := (h.lt _ hv).2; omega
theorem own_set {w : World} {B b o : Nat} {e : TypeId} {sz : Nat} {v u : Value} {n : Nat} {xs : List Value} (h : w.ownsRow B e sz v n xs) (hne : v.ownBlock = none ∨ v.ownBlock ≠ some b) : (w.setCell ⟨b, o, none⟩ u).ownsRow B e sz v n xs :=
  h.kept (grown_set (World.grownBy.refl w (some b)) u) hne
theorem own_sets {w : World} {B b o : Nat} {e : TypeId} {sz : Nat} {v : Value} {n : Nat} {xs us : List Value} (h : w.ownsRow B e sz v n xs) (hne : v.ownBlock = none ∨ v.ownBlock ≠ some b) : (w.setCells b o us).ownsRow B e sz v n xs :=
  h.kept (grown_setCells us o w (World.grownBy.refl w (some b))) hne
theorem Arr.grownV {w w' : World} {b n : Nat} {c : Nat → Value} (h : Arr w b n c) {row : Option Nat} (hg : w.grownBy w' row) (hne : row ≠ some b) : Arr w' b n c :=
  ⟨fun k hk => hg.cell (h.cell k hk) (fun e => hne e.symm), fun k hk => by
    rw [World.frozen?_of_block (w := w) (a := ⟨b, k, none⟩) (hg.block b (h.lt (by omega)) (fun e => hne e.symm))]; exact h.free k hk⟩
theorem Arr.farSets {w : World} {b n B : Nat} {c : Nat → Value} (h : Arr w b n c) (hne : B ≠ b) : ∀ (us : List Value) (o : Nat), Arr (w.setCells B o us) b n c := fun us o =>
  h.grownV (grown_setCells us o w (World.grownBy.refl w (some B))) (fun e => hne (Option.some.inj e))
/-- What is left of a round: the reader's measure goes down. -/
theorem entry_left (r : Rd) (hf : r.fine) : (if r.entry.1.err = 0 then 1000001 - r.entry.1.pos else 0) < 1000001 - r.pos := by
  have h1 := hf.pos
  have h2 := hf.size
  split
  · rename_i h
    obtain ⟨_, _, h3, _⟩ := r.entry_canon hf h
    omega
  · omega

set_option maxRecDepth 100000 in
set_option maxHeartbeats 4000000 in
theorem rentries_own (s : ByteArray) (w : World) (hs : s.size ≤ 100000) :
    Calls Tryz.prog 87 #[.string s] w fun e w' => ∃ v, e = .returned (.tuple #[v, .bool (treeOf s).isSome]) ∧ (EntRow w' v ((treeOf s).getD []) ∧ w'.ownsRow (w.heap.size + 1) 152 34 v ((treeOf s).getD []).length (((treeOf s).getD []).map entC).flatten) ∧ Below w.heap.size w w' := by
  obtain ⟨zs, i0, hi, hz0, hz1, hz2, hzv, hbu, hzs⟩ := ent_zero
  have hzl : zs.size = 34 := by rw [hzs]; simp
  have HZL := Lib.hid hzl
  have HZS := Lib.hid hzs
  clear hzl hzs
  have HA0 := Lib.hid (rd0_arr w s 180)
  have hb0 : Below w.heap.size w (w.alloc (.cells #[.string s, .int .i64 0, .int .i64 0] 180)) := (Below.refl _ _).alloc (Nat.le_refl _) _
  have HB0 := Lib.hid hb0
  clear hb0
  go_enter Tryz.func87, Tryz.ntmps87
  go_wp2
  go_loopw [5, 6] (fun v _ wr => ∃ (r : Rd) (es : List Ent) (f : Nat), Arr wr w.heap.size 3 r.c ∧ Hid r.fine ∧ r.err ≤ 4 ∧ Hid (r.s = s) ∧ Hid (r.entsN f es = (rd0 s).entsN (s.size + 1) []) ∧ Hid (r.err = 0 → r.s.size - r.pos < f ∧ es.length ≤ r.pos) ∧ Hid (∀ e ∈ es, e.id.length = 32) ∧ es.length ≤ 100001 ∧ wr.ownsRow (w.heap.size + 1) 152 34 v es.length (entsF es) ∧ Below w.heap.size w wr) (fun _ _ wr => leftM w.heap.size wr)
  case atStart => exact ⟨rd0 s, [], s.size + 1, HA0.out, rd0_fine s (by omega), by show 0 ≤ 4; omega, rfl, rfl, (fun _ => ⟨by show s.size - 0 < s.size + 1; omega, Nat.zero_le _⟩), (fun e he => by cases he), by simp, World.ownsRow_nil _ _ _ _, HB0.out⟩
  case round =>
    obtain ⟨wo, rfl⟩ : ∃ wo : World, wo = wr := ⟨_, rfl⟩
    obtain ⟨r, es, f, hA, hf, h4, hrs, hN, hfu, hid, hlen, hown, hb⟩ := hrel
    have c1 : wo.cell? ⟨w.heap.size, 1, none⟩ = some (.int .i64 (r.pos : Int)) := hA.cell 1 (by omega)
    have c2 : wo.cell? ⟨w.heap.size, 2, none⟩ = some (.int .i64 (r.err : Int)) := hA.cell 2 (by omega)
    have hlto := hA.lt (by omega)
    obtain ⟨co, cc, rfl⟩ := own_form hown
    by_cases hm : r.more = true
    · obtain ⟨he0, hps⟩ := of_decide_eq_true hm
      obtain ⟨hfu1, hfu2⟩ := hfu.out he0
      have d1 : ((r.err : Int) == 0) = true := by rw [beq_iff_eq]; omega
      have d2 : decide ((r.pos : Int) < s.size) = true := decide_eq_true (by rw [hrs.out] at hps; omega)
      have d3 : decide (r.pos < s.size) = true := decide_eq_true (by rw [hrs.out] at hps; omega)
      have HLM := Lib.hid (leftM_eq hA)
      have HE0 := Lib.hid he0
      have HM := Lib.hid hm
      have hel := Lib.hid (entry_left r hf.out)
      have hentry : Hid (r.entry = (((r.num 2).1.text 32).1.id.1, ⟨((r.num 2).1.text 32).2, (r.num 2).2, ((r.num 2).1.text 32).1.id.2⟩)) := Lib.hid rfl
      have hf1 := Lib.hid (Rd.num_fine r 2 hf.out)
      have hf2 := Lib.hid (Rd.text_fine _ 32 hf1.out.1)
      have HA := Lib.hid hA
      have HN := Lib.hid (fun W (hA : Arr W w.heap.size 3 r.c) => rnum_any w.heap.size r 2 W hA hf.out (by omega))
      have HT := Lib.hid (fun W (hA : Arr W w.heap.size 3 (r.num 2).1.c) => rtext_any w.heap.size _ 32 W hA hf1.out.1 (by omega))
      have HI := Lib.hid (fun W (hA : Arr W w.heap.size 3 ((r.num 2).1.text 32).1.c) => rid_any w.heap.size _ W hA hf2.out)
      have HIL : Hid ((((r.num 2).1.text 32).1.id.2).length = 32) := Lib.hid (idOf_len _)
      have HEF := Lib.hid (r.entry_fine hf.out)
      have HE4 := Lib.hid (r.entry_err4 h4)
      have HES := Lib.hid (r.entry_s)
      have HECN := Lib.hid (r.entry_canon hf.out)
      have HST : Hid (r.entsN f es = r.entry.1.entsN (f - 1) (es ++ [r.entry.2])) := Lib.hid (ents_on r f es hm (by omega))
      clear hA hm he0
      generalize r.entry = en at hentry hel HEF HE4 HES HECN HST
      obtain ⟨r', e⟩ := en
      generalize r.num 2 = x1 at hentry HN HT hf1 HI HIL hf2
      obtain ⟨r1, kd⟩ := x1
      dsimp only at hentry HN HT hf1 HI HIL hf2
      generalize r1.text 32 = x2 at hentry HT HI HIL hf2
      obtain ⟨r2, nm⟩ := x2
      dsimp only at hentry HT HI HIL hf2
      generalize r2.id = x3 at hentry HI HIL
      obtain ⟨r3, d⟩ := x3
      dsimp only at hentry HI HIL HEF HE4 HES hel HECN HST
      obtain ⟨rfl, rfl⟩ : r' = r3 ∧ e = ⟨nm, kd, d⟩ := by have := hentry.out; injection this with h1 h2; exact ⟨h1, h2⟩
      clear hentry
      have hE0 : Arr (wo.alloc (.cells zs 152)) wo.heap.size 34 entZ := by
        rw [HZS.out]
        exact (Arr.ofList wo ((List.range 34).map entZ) 152).congr fun k hk => by simp at hk; simp [hk]
      have HE0A := Lib.hid hE0
      have hE : Arr ((wo.alloc (.cells zs 152)).setCells wo.heap.size 0 zs.toList) wo.heap.size 34 entZ :=
        (hE0.setCells 0 zs.toList (by rw [Array.length_toList, HZL.out]; exact Nat.le_refl _)).congr fun k hk => by
          rw [Array.length_toList, HZL.out, if_pos ⟨by omega, by omega⟩, HZS.out]; simp [hk]
      have hbW : Below wo.heap.size wo ((wo.alloc (.cells zs 152)).setCells wo.heap.size 0 zs.toList) := below_setCells _ (Nat.le_refl _) _ _ _ ((Below.refl _ _).alloc (Nat.le_refl _) _)
      have HE := Lib.hid hE
      have HBW := Lib.hid hbW
      clear hE0 hE hbW
      go_wp2_with (refine wpList_store_mid rfl 152 _ _ rfl wo.heap.size 0 zs rfl rfl ?g1 ?g2 ?g3 ?_)
      case g1 => rw [HZL.out]; exact HE0A.out.there
      case g2 => exact HZL.out.symm
      case g3 =>
        intro i hi'
        have hm : zs[i] ∈ zs.toList := by simp
        have h2 : zs.toList = (List.range 34).map entZ := by rw [HZS.out]
        exact entZ_one _ (h2 ▸ hm)
      generalize hW : (wo.alloc _).setCells _ _ _ = W
      rw [hW] at HE HBW
      have hAW := HA.out.below HBW.out hlto
      have HOW := Lib.hid (own_below hown HBW.out)
      have hown0 := Lib.hid hown.lt
      have HNE := Lib.hid (own_new hown)
      have HNB := Lib.hid (own_ne hown (Nat.lt_succ_self w.heap.size))
      have hszW : wo.heap.size < W.heap.size := HE.out.lt (by omega)
      clear hW hown c1 c2 HE0A
      refine (HN.out W hAW).mono ?_
      rintro e w1 ⟨rfl, hA1, hg1⟩
      have hE1 := HE.out.grown hg1 (by omega)
      have hO1 := own_grown HOW.out hg1 (by omega)
      have c1 := hE1.cell 1 (by omega)
      have f1 := hE1.free 1 (by omega)
      have HA1 := Lib.hid (hA1.far (p := ⟨wo.heap.size, 1, none⟩) (by show wo.heap.size ≠ _; omega) (.int .i64 (kd : Int)))
      have HE1 := Lib.hid (hE1.set 1 (by omega) (.int .i64 (kd : Int)))
      have HO1 := Lib.hid (own_set (o := 1) (u := .int .i64 (kd : Int)) hO1 HNE.out)
      have HG1 := Lib.hid hg1
      clear hA1 hE1 hO1 hg1
      go_wp2_with fail
      refine (HT.out _ HA1.out).mono ?_
      rintro e w2 ⟨rfl, hA2, hg2⟩
      have hE2 := HE1.out.grown hg2 (by omega)
      have hO2 := own_grown HO1.out hg2 (by omega)
      have c2 := hE2.cell 0 (by omega)
      have f2 := hE2.free 0 (by omega)
      have HA2 := Lib.hid (hA2.far (p := ⟨wo.heap.size, 0, none⟩) (by show wo.heap.size ≠ _; omega) (.string nm))
      have HE2 := Lib.hid (hE2.set 0 (by omega) (.string nm))
      have HO2 := Lib.hid (own_set (o := 0) (u := .string nm) hO2 HNE.out)
      have HG2 := Lib.hid hg2
      clear hA2 hE2 hO2 hg2 c1 f1
      go_wp2_with fail
      refine (HI.out _ HA2.out).mono ?_
      rintro e w3 ⟨rfl, hA3, hg3⟩
      have hdl : (idC d).length = 32 := by rw [idC_len, HIL.out]
      have hE3 := HE2.out.grown hg3 (by omega)
      have hO3 := own_grown HO2.out hg3 (by omega)
      have HA3 := Lib.hid (hA3.farSets (B := wo.heap.size) (by omega) (idC d) 2)
      have HE3 := Lib.hid ((hE3.setCells 2 (idC d) (by omega)).congr (fun k hk => entF_upd ⟨nm, kd, d⟩ HIL.out k hk))
      have HO3 := Lib.hid (own_sets (o := 2) (us := idC d) hO3 HNE.out)
      have hth : w3.there wo.heap.size 2 32 := fun j hj => ⟨by rw [hE3.cell _ (by omega)]; rfl, hE3.free _ (by omega)⟩
      have HTH := Lib.hid hth
      have HG3 := Lib.hid hg3
      have HDL := Lib.hid hdl
      have HDO := Lib.hid (idC_one d)
      have h32 : (Tryz.prog.info? 24).map (·.size) = some 32 := by kernel_rfl
      have hel34 : (entC ⟨nm, kd, d⟩).length = 34 := by simp [entC, idC_len, HIL.out]
      have h34 : (Tryz.prog.info? 152).map (·.size) = some (entC ⟨nm, kd, d⟩).length := by
        rw [hel34, hi]; exact congrArg some hz1
      have HEL34 := Lib.hid hel34
      have HOC := Lib.hid (entC_one ⟨nm, kd, d⟩)
      clear hel34
      clear hA3 hE3 hO3 hg3 c2 f2 hth hdl
      have hdv : idV d = .agg (idC d).toArray := rfl
      rw [hdv]
      clear hdv
      generalize hcs : entC ⟨nm, kd, d⟩ = cs at h34 HEL34 HOC
      have hrg := HE3.out.range
      rw [entF_list ⟨nm, kd, d⟩ HIL.out, hcs] at hrg
      have HCS := Lib.hid hcs
      clear hcs
      have HSZC : Hid (∀ w, (sizeOf 152).run Tryz.prog w = .ok cs.length w) := Lib.hid (fun w => by rw [HEL34.out]; kernel_rfl)
      have HPC := Lib.hid (show 0 < cs.length by rw [HEL34.out]; omega)
      have HLC := Lib.hid (show cs.length ≤ 1000 by rw [HEL34.out]; omega)
      generalize hus : idC d = us at HA3 HE3 HO3 HDL HDO hrg
      clear hus
      have HRG := Lib.hid hrg
      have hsz4 : wo.heap.size < (w3.setCells wo.heap.size 2 us).heap.size := HE3.out.lt (show 0 < 34 by omega)
      have HSZ4 := Lib.hid hsz4
      clear hrg hsz4
      go_wp2_with (first | (refine wpList_store_list rfl 24 _ _ rfl wo.heap.size 2 us ?y1 ?y2 32 HDL.out ?y4 h32 HDO.out ?_) | (refine wpList_load_mid rfl 152 _ rfl wo.heap.size 0 rfl cs _ HRG.out Tryz.underlying152 rfl h34 ?_) | (refine wpList_buildSlice_one rfl (.tmp 35) 147 152 rfl cs zs rfl Tryz.underlying147 HSZC.out hzv HPC.out HLC.out ?_) | (at_builtin; refine wpList_append_own _ rfl (.tmp 34) (.tmp 36) 147 rfl (w.heap.size + 1) 152 i0 (.agg zs) 34 56 Tryz.underlying147 hi hz0 hz1 hz2 HZL.out (by decide) _ es.length (entsF es) rfl (HO3.out.alloc _) ⟨(w3.setCells wo.heap.size 2 us).heap.size, 0, none⟩ 1 1 cs ?a1 HEL34.out ?a2 HOC.out ?a3 ?a4 ?a5 ?_))
      try case y1 => rfl
      try case y2 => rfl
      try case y4 => exact HTH.out
      case a2 => exact fun j u hj => cells_newL _ cs _ j u hj
      case a3 => unfold maxLen; omega
      case a4 => omega
      case a5 => rw [World.size_alloc]; have := HSZ4.out; omega
      intro v' w5 hown5 hg5 _
      have hb4 : Below w.heap.size w (w3.setCells wo.heap.size 2 us) := by
        refine below_setCells _ (by omega) _ _ _ ?_
        have q1 := (hb.trans (HBW.out.mono hb.size)).grown HG1.out (by have := HBW.out.size; omega) (fun k hk => by cases hk; exact Nat.le_refl _)
        have q2 := (q1.setCell (p := ⟨wo.heap.size, 1, none⟩) (by show w.heap.size ≤ wo.heap.size; omega) (.int .i64 (kd : Int))).grown HG2.out (by have := HG1.out.size; simp; omega) (fun k hk => by cases hk; exact Nat.le_refl _)
        exact (q2.setCell (p := ⟨wo.heap.size, 0, none⟩) (by show w.heap.size ≤ wo.heap.size; omega) (.string nm)).grown HG3.out (by have := HG2.out.size; have := HG1.out.size; simp at *; omega) (fun k hk => by cases hk; exact Nat.le_refl _)
      have hb5 : Below w.heap.size w w5 := (hb4.alloc hb4.size _).grown hg5 (by rw [World.size_alloc]; have := hb4.size; omega) (fun k hk => by have := (hown0.out k hk).1; omega)
      have hA5 : Arr w5 w.heap.size 3 r'.c := (HA3.out.alloc (by omega) _).grownV hg5 (fun e => by have := (hown0.out _ e).1; omega)
      have HA5 := Lib.hid hA5
      have HB5 := Lib.hid hb5
      rw [← HCS.out, ← entsF_snoc] at hown5
      have HO5 := Lib.hid hown5
      have hpos := hf.out.pos
      have hrs' : r.s.size = s.size := by rw [hrs.out]
      clear hA5 hb5 hb4 hown5 hg5
      go_wp2
      go_roundw
      case rel =>
        refine ⟨r', es ++ [⟨nm, kd, d⟩], f - 1, HA5.out, HEF.out, HE4.out, HES.out.trans hrs.out, Lib.hid (HST.out.symm.trans hN.out), fun h0 => ?_, fun e he => ?_, by simp; omega, by rw [List.length_append]; exact HO5.out, HB5.out⟩
        · obtain ⟨_, _, q3, _⟩ := HECN.out h0
          rw [HES.out, List.length_append, List.length_singleton]
          omega
        · rcases List.mem_append.1 he with h | h
          · exact hid.out e h
          · rw [List.mem_singleton.1 h]; exact HIL.out
      case measure =>
        rw [leftM_eq HA5.out, HLM.out, if_pos HE0.out]; exact hel.out
    · have hm2 : r.more = false := by simpa using hm
      have hst : (rd0 s).entsN (s.size + 1) [] = (r, es) := by rw [← hN.out]; exact ents_stop r f es hm2
      rw [Rd.entsN_eq] at hst
      have e1 : (treeRd s).1 = r := congrArg Prod.fst hst
      have e2 : (treeRd s).2 = es := congrArg Prod.snd hst
      have HTO : Hid (treeOf s = if r.fin = 0 ∧ treeOk es = true then some es else none) := by unfold Hid treeOf; rw [e1, e2]
      have HEND := Lib.hid (fun W (hA : Arr W w.heap.size 3 r.c) => rend_any w.heap.size r W hA hf.out)
      have HAR := Lib.hid hA
      have HOWN := Lib.hid hown
      clear hst hN hA hown hm
      by_cases h0 : r.err = 0
      · have hps : ¬ r.pos < r.s.size := fun h => by have := of_decide_eq_false hm2; exact this ⟨h0, h⟩
        have hrs' : r.s.size = s.size := by rw [hrs.out]
        have d1 : ((r.err : Int) == 0) = true := by rw [beq_iff_eq]; omega
        have d2 : decide ((r.pos : Int) < s.size) = false := decide_eq_false (by omega)
        have d3 : decide (r.pos < s.size) = false := decide_eq_false (by omega)
        have hfin : r.fin = 0 := by unfold Rd.fin; rw [if_neg (by simp [h0]), if_neg hps]
        have HER : Hid (∀ W, Below wo.heap.size wo W → EntRow W (.slice co es.length cc) es) := Lib.hid (fun W hb' => (RowOf.of_own (B := w.heap.size + 1) (e := 152) (sz := 34) (rows := es.map entC) (fun r hr => by
          obtain ⟨e, he, rfl⟩ := List.mem_map.1 hr
          simp [entC, idC_len, hid.out e he]) (by rw [List.length_map]; exact HOWN.out)).below hb')
        have e0 : (treeRd s).1.err = 0 := by rw [e1]; exact h0
        have hsm := Rd.ents_small (s.size + 1) (rd0 s) (rd0_fine s (by omega)) e0
        have e3 : ((rd0 s).ents (s.size + 1)).2 = es := e2
        rw [e3] at hsm
        have HTR := Lib.hid (fun W (hb' : Below wo.heap.size wo W) => rtreeright_any (.slice co es.length cc) es W (HER.out W hb') (fun e he => by have := hsm e he; omega))
        have HBD : Hid (treeOk es = true → ∀ W, Below wo.heap.size wo W → Calls Tryz.prog 132 #[.slice co es.length cc] W fun e w' => e = .returned (.string s) ∧ Below W.heap.size W w') := Lib.hid (fun hok W hb' => by
          have h32 : es.length ≤ 32 := by
            rw [treeOk_rows] at hok
            simp only [Bool.and_eq_true, decide_eq_true_eq] at hok
            exact hok.2
          have := rtreebody_any (.slice co es.length cc) es W (HER.out W hb') (fun e he => by have h1 := hsm e he; exact ⟨by omega, by omega, hid.out e he⟩) (by omega)
          have hc := treeOf_canon s (by omega) (by rw [e1]; exact hfin)
          rw [e2] at hc
          rw [hc, ofB_of] at this
          exact this)
        rw [hfin] at HEND
        clear hsm e0 e1 e2 e3 hps h0 hm2
        have HFIN := Lib.hid hfin
        clear hfin
        cases hok : treeOk es with
        | false =>
          have HR : Hid (treeOf s = none) := by unfold Hid; rw [HTO.out, if_neg (by rw [hok]; simp)]
          rw [hok] at HTR
          clear hok
          go_wp2_with fail
          refine (HEND.out _ HAR.out).mono ?_
          rintro e w1 ⟨rfl, hb1⟩
          have HB1 := Lib.hid hb1
          clear hb1
          go_wp2_with fail
          refine (HTR.out _ HB1.out).mono ?_
          rintro e w2 ⟨rfl, hb2⟩
          have HB2 := Lib.hid (hb.trans ((HB1.out.trans (hb2.mono HB1.out.size)).mono hb.size))
          clear hb2
          go_wp2
          go_ret2
          exact ⟨.slice none 0 0, by rw [HR.out]; rfl, by rw [HR.out]; exact ⟨⟨none, 0, rfl, by simp, fun h => absurd rfl h⟩, World.ownsRow_nil _ _ _ _⟩, HB2.out⟩
        | true =>
          have HR : Hid (treeOf s = some es) := by unfold Hid; rw [HTO.out, if_pos ⟨HFIN.out, hok⟩]
          have HBD2 := Lib.hid (HBD.out hok)
          rw [hok] at HTR
          clear hok
          go_wp2_with fail
          refine (HEND.out _ HAR.out).mono ?_
          rintro e w1 ⟨rfl, hb1⟩
          have HB1 := Lib.hid hb1
          clear hb1
          go_wp2_with fail
          refine (HTR.out _ HB1.out).mono ?_
          rintro e w2 ⟨rfl, hb2⟩
          have HB2 := Lib.hid (HB1.out.trans (hb2.mono HB1.out.size))
          clear hb2
          go_wp2_with fail
          refine (HBD2.out _ HB2.out).mono ?_
          rintro e w3 ⟨rfl, hb3⟩
          have HB3 := Lib.hid (HB2.out.trans (hb3.mono HB2.out.size))
          clear hb3
          go_wp2
          go_ret2
          exact ⟨.slice co es.length cc, by rw [HR.out]; rfl, by rw [HR.out]; exact ⟨HER.out _ HB3.out, own_below HOWN.out HB3.out⟩, hb.trans (HB3.out.mono hb.size)⟩
      · have d1 : ((r.err : Int) == 0) = false := by rw [beq_eq_false_iff_ne]; omega
        have hfin : r.fin = r.err := by unfold Rd.fin; rw [if_pos h0]
        have d2 : ((r.err : Int) != 0) = true := by rw [bne_iff_ne]; omega
        have HR : Hid (treeOf s = none) := by unfold Hid; rw [HTO.out, if_neg (by rw [hfin]; exact fun h => h0 h.1)]
        rw [hfin] at HEND
        clear hfin h0 hm2 e1 e2
        go_wp2_with fail
        refine (HEND.out _ HAR.out).mono ?_
        rintro e w1 ⟨rfl, hb1⟩
        have HB1 := Lib.hid (hb.trans (hb1.mono hb.size))
        clear hb1
        go_wp2
        go_ret2
        exact ⟨.slice none 0 0, by rw [HR.out]; rfl, by rw [HR.out]; exact ⟨⟨none, 0, rfl, by simp, fun h => absurd rfl h⟩, World.ownsRow_nil _ _ _ _⟩, HB1.out⟩
theorem rentries_any (s : ByteArray) (w : World) (hs : s.size ≤ 100000) :
    Calls Tryz.prog 87 #[.string s] w fun e w' => ∃ v, e = .returned (.tuple #[v, .bool (treeOf s).isSome]) ∧ EntRow w' v ((treeOf s).getD []) ∧ Below w.heap.size w w' :=
  (rentries_own s w hs).mono fun _ _ ⟨v, h1, h2, h3⟩ => ⟨v, h1, h2.1, h3⟩
end Go.Proofs.YtbmiiiccnoiffaaGreatDoor
