/- V3; V4; V5, in one text. -/
import Derived.Test.YtbmiiiccnoiffaaGreatDoorJG
import Derived.Test.YtbmiiiccnoiffaaGreatDoorSE
import Derived.Stop.BytesEq
/- Walks: texts, ids, frames, digests of objects (the document's). -/
namespace Go.Proofs.YtbmiiiccnoiffaaGreatDoor
open Go.RowKit

theorem numB_le6 {n : Nat} (h : n ≤ 1099511627775) : (numB n).length ≤ 6 := numB_len 5 n (by omega)
theorem idC_len (x : List UInt8) : (idC x).length = x.length := by simp [idC]
theorem idC_one (x : List UInt8) : ∀ v ∈ idC x, v.oneCell' = true := idV_one x

set_option maxHeartbeats 1000000 in
theorem rtextw_any (s : ByteArray) (w : World) (hs : s.size ≤ 1000000000) :
    Calls Tryz.prog 145 #[.string s] w fun e w' => e = .returned (.string (ofB (numB s.size ++ s.data.toList))) ∧ Below w.heap.size w w' := by
  have HN := Lib.hid (rnumber_any s.size s.size w (Nat.le_refl _) (by omega))
  have hq : (ofB (numB s.size)).size ≤ 6 := by rw [ofB_size]; exact numB_le6 (by omega)
  have HF : Hid (ofB (numB s.size ++ s.data.toList) = ofB (numB s.size) ++ s) := by unfold Hid; rw [ofB_append, ofB_of]
  generalize ofB (numB s.size) = q at HN hq HF
  go_enter Tryz.func145, Tryz.ntmps145
  go_wp2_with fail
  refine HN.out.mono ?_
  rintro e w1 ⟨rfl, hb⟩
  go_wp2
  go_ret
  exact ⟨ret_str HF.out.symm, hb⟩

/-- The bytes of an array in a block of its own. -/
theorem conv_arr (w w2 : World) (x : List UInt8) (t : TypeId) (hb : Below (w.heap.size + 1) (w.alloc (.cells (idC x).toArray t)) w2) (c : Nat) :
    (convert 133 9 (.slice (some ⟨w.heap.size, 0, none⟩) x.length c)).run Tryz.prog w2 = .ok (.string (ofB x)) w2 :=
  run_convert_bytes_back (P := Tryz.prog) w2 133 9 5 ⟨w.heap.size, 0, none⟩ c x Tryz.underlying133 Tryz.underlying5 Tryz.underlying9 fun j hj => by
    rw [Addr.add_mid, Nat.zero_add, hb.cell (p := ⟨w.heap.size, j, none⟩) (Nat.lt_succ_self _), World.cell?_alloc_new]
    simp [idC, hj]
set_option maxHeartbeats 1000000 in
theorem ridw_any (x : List UInt8) (w : World) (hx : x.length = 32) :
    Calls Tryz.prog 147 #[.agg (idC x).toArray] w fun e w' => e = .returned (.string (ofB x)) ∧ Below w.heap.size w w' := by
  have hcv := conv_arr w (w.alloc (.cells (idC x).toArray 24)) x 24 (Below.refl _ _) 32
  rw [hx] at hcv
  have HX := Lib.hid hx
  clear hx
  generalize idC x = us at hcv
  go_enter Tryz.func147, Tryz.ntmps147
  go_wp2
  go_ret
  exact ⟨rfl, (Below.refl _ _).alloc (Nat.le_refl _) _⟩

/-- An object as a value. -/
def obC (o : Ob) : List Value := [.int .i64 o.kind, .string o.body]
theorem ret_of {a b : Value} (h : a = b) : Ending.returned a = .returned b := by rw [h]
set_option maxHeartbeats 1000000 in
theorem rframe_any (k : Int) (s : ByteArray) (w : World) (hs : s.size ≤ 1000000) :
    Calls Tryz.prog 102 #[.agg #[.int .i64 k, .string s]] w fun e w' => e = .returned (.string (ofB (frameL ⟨k, s⟩))) ∧ Below w.heap.size w w' := by
  have HT := Lib.hid (fun w => rtextw_any s w (by omega))
  have hq : (ofB (numB s.size ++ s.data.toList)).size ≤ 1000006 := by
    rw [ofB_size, List.length_append]
    have h1 := numB_le6 (n := s.size) (by omega)
    have h2 : s.data.toList.length = s.size := by simp
    omega
  have HF : Hid (ofB (frameL ⟨k, s⟩) = ofB [letterOf k] ++ ofB (numB s.size ++ s.data.toList)) := by unfold Hid frameL; rw [ofB_cons]
  generalize ofB (numB s.size ++ s.data.toList) = q at HT hq HF
  by_cases h2 : k = 2
  · have d2 : (k == 2) = true := by rw [beq_iff_eq]; exact h2
    have d3 : (k == 3) = false := by rw [beq_eq_false_iff_ne]; omega
    have HL : Hid (ofB [letterOf k] = ⟨#[116]⟩) := by unfold Hid letterOf; rw [if_pos h2]; rfl
    clear h2
    go_enter Tryz.func102, Tryz.ntmps102
    go_wp2_with fail
    refine (HT.out _).mono ?_
    rintro e w1 ⟨rfl, hb⟩
    go_wp2
    go_ret
    exact ⟨ret_str (by rw [HF.out, HL.out]), ((Below.refl _ _).alloc (Nat.le_refl _) _).trans (hb.mono (by simp))⟩
  · have d2 : (k == 2) = false := by rw [beq_eq_false_iff_ne]; exact h2
    by_cases h3 : k = 3
    · have d3 : (k == 3) = true := by rw [beq_iff_eq]; exact h3
      have HL : Hid (ofB [letterOf k] = ⟨#[99]⟩) := by unfold Hid letterOf; rw [if_neg h2, if_pos h3]; rfl
      clear h2 h3
      go_enter Tryz.func102, Tryz.ntmps102
      go_wp2_with fail
      refine (HT.out _).mono ?_
      rintro e w1 ⟨rfl, hb⟩
      go_wp2
      go_ret
      exact ⟨ret_str (by rw [HF.out, HL.out]), ((Below.refl _ _).alloc (Nat.le_refl _) _).trans (hb.mono (by simp))⟩
    · have d3 : (k == 3) = false := by rw [beq_eq_false_iff_ne]; exact h3
      have HL : Hid (ofB [letterOf k] = ⟨#[98]⟩) := by unfold Hid letterOf; rw [if_neg h2, if_neg h3]; rfl
      clear h2 h3
      go_enter Tryz.func102, Tryz.ntmps102
      go_wp2_with fail
      refine (HT.out _).mono ?_
      rintro e w1 ⟨rfl, hb⟩
      go_wp2
      go_ret
      exact ⟨ret_str (by rw [HF.out, HL.out]), ((Below.refl _ _).alloc (Nat.le_refl _) _).trans (hb.mono (by simp))⟩

theorem idO_len (o : Ob) : (idO o).length = 32 := by simp [idO, shaR]
theorem idV_C (x : List UInt8) : idV x = .agg (idC x).toArray := rfl
set_option maxHeartbeats 1000000 in
theorem rido_any (k : Int) (s : ByteArray) (w : World) (hs : s.size ≤ 100000) :
    Calls Tryz.prog 58 #[.agg #[.int .i64 k, .string s]] w fun e w' => e = .returned (.agg (idC (idO ⟨k, s⟩)).toArray) ∧ Below w.heap.size w w' := by
  have HT := Lib.hid (fun w => rframe_any k s w (by omega))
  have hq : (ofB (frameL ⟨k, s⟩)).size ≤ 1000000 := by
    rw [ofB_size]; unfold frameL
    have h1 := numB_le6 (n := s.size) (by omega)
    have h2 : s.data.toList.length = s.size := by simp
    simp; omega
  have HS := Lib.hid (fun w => rsum_any (ofB (frameL ⟨k, s⟩)) w hq)
  have HI : Hid (idV (shaR (ofB (frameL ⟨k, s⟩))) = .agg (idC (idO ⟨k, s⟩)).toArray) := Lib.hid rfl
  have hlen : (idC (idO ⟨k, s⟩)).length = 32 := by rw [idC_len, idO_len]
  have hone := idC_one (idO ⟨k, s⟩)
  have hO := (Arr.new (w.alloc (.cells #[.int .i64 k, .string s] 93)) 32 (.int .u8 0) 24)
  generalize idC (idO ⟨k, s⟩) = us at HI hlen hone
  generalize idV (shaR (ofB (frameL ⟨k, s⟩))) = r at HS HI
  generalize ofB (frameL ⟨k, s⟩) = f at HT hq HS
  obtain rfl : r = .agg us.toArray := HI.out
  rw [World.size_alloc] at hO
  have HO := Lib.hid hO
  have HLN := Lib.hid hlen
  have HON := Lib.hid hone
  have h32 : (Tryz.prog.info? 24).map (·.size) = some 32 := by kernel_rfl
  have h32u : (Tryz.prog.info? 24).map (·.size) = some us.length := by rw [hlen]; exact h32
  clear hO hlen hone HI
  go_enter Tryz.func58, Tryz.ntmps58
  go_wp2_with fail
  refine (HT.out _).mono ?_
  rintro e w1 ⟨rfl, hb1⟩
  go_wp2_with fail
  refine (HS.out _).mono ?_
  rintro e w2 ⟨rfl, hb2⟩
  have hb12 : Below ((w.alloc (.cells #[.int .i64 k, .string s] 93)).alloc (.cells (Array.replicate 32 (.int .u8 0)) 24)).heap.size ((w.alloc (.cells #[.int .i64 k, .string s] 93)).alloc (.cells (Array.replicate 32 (.int .u8 0)) 24)) w2 := hb1.trans (hb2.mono hb1.size)
  have hO2 := HO.out.below hb12 (by simp)
  have HTH := Lib.hid hO2.there
  have HFR := Lib.hid (World.rangeAt_setCells_same w2 (w.heap.size + 1) 0 us (by rw [HLN.out]; exact hO2.there))
  have HBF := Lib.hid (below_setCells (B := w.heap.size) (a := w) (w.heap.size + 1) (by omega) us 0 w2 ((((Below.refl _ _).alloc (Nat.le_refl _) _).alloc (by simp) _).trans (hb12.mono (by simp; omega))))
  clear hb1 hb2 hb12 hO2
  go_wp2_with (refine wpList_store_list rfl 24 _ _ rfl (w.heap.size + 1) 0 us ?y1 ?y2 32 HLN.out ?y4 h32 HON.out ?_)
  try case y1 => rfl
  try case y2 => rfl
  case y4 => exact HTH.out
  simp only [Act.put]
  refine ret_cell rfl (w.heap.size + 1) 0 (by simp) us _ HFR.out Tryz.underlying24 rfl h32u rfl ⟨rfl, HBF.out⟩
end Go.Proofs.YtbmiiiccnoiffaaGreatDoor

/- Walks: bodies of trees and commits written (the document's). -/
namespace Go.Proofs.YtbmiiiccnoiffaaGreatDoor
open Go.RowKit

/-- A load of a row of cells in a drawn region of quiet operations. -/
theorem bq_row {P : Program} {ops : Array Oper} {Q : Act → Prop} {rest : List Oper} {a : Act} {o : Oper} {w : World} {b off : Nat} {cs : List Value} (ty : TypeId) (d : TypeDesc) (x : Operand) (ho : o.op = .load ty x)
    (hw : Region.wanted o (yielded ops a.tmps) = true) (hx : a.eval x = .pointer (some ⟨b, off, none⟩)) (hr : w.rangeAt b off cs) (hb : b < w.heap.size) (hu : P.underlying ty = some d) (hd : d.isRow = true)
    (hi : (P.info? ty).map (·.size) = some cs.length) (hk : wpQuiet P ops (fun w' => ∃ x : BW w.heap.size w, w' = x.out) Q rest (a.put o.dst (.agg cs.toArray))) : wpQuiet P ops (fun w' => ∃ x : BW w.heap.size w, w' = x.out) Q (o :: rest) a := by
  unfold wpQuiet
  rw [if_pos hw]
  refine ⟨_, fun w' hw' => ?_, hk⟩
  obtain ⟨y, rfl⟩ := hw'
  unfold Oper.quietAt
  rw [exec_load_row ty d hr hb hu hd hi y.hb x ho hx]
  exact ⟨rfl, rfl⟩

def IdRow (w : World) (v : Value) (l : List (List UInt8)) : Prop := RowOf w v 32 (l.map idC)
theorem IdRow.below {w w' : World} {v : Value} {l : List (List UInt8)} (h : IdRow w v l) (hb : Below w.heap.size w w') : IdRow w' v l := RowOf.below h hb
theorem IdRow.open {w : World} {v : Value} {l : List (List UInt8)} (h : IdRow w v l) : ∃ ao cap, v = .slice ao l.length cap ∧ l.length ≤ maxLen ∧ (l ≠ [] → ∃ b off, ao = some ⟨b, off, none⟩ ∧ b < w.heap.size ∧ ∀ k (hk : k < l.length), w.rangeAt b (off + k * 32) (idC l[k])) := by
  obtain ⟨ao, cap, rfl, hm, h⟩ := h
  rw [List.length_map] at hm ⊢
  refine ⟨ao, cap, rfl, hm, fun hne => ?_⟩
  obtain ⟨b, off, e, hl, hc⟩ := h (by simpa using hne)
  refine ⟨b, off, e, hl, fun k hk => ?_⟩
  have := hc k (by simpa using hk)
  rw [List.getElem_map] at this
  exact this
theorem h32_of {us : List Value} (h : us.length = 32) : (Tryz.prog.info? 24).map (·.size) = some us.length := by rw [h]; kernel_rfl

theorem treeB_snoc (l : List Ent) (k : Nat) (h : k < l.length) : treeB (l.take (k + 1)) = treeB (l.take k) ++ l[k].bytes := by
  unfold treeB; rw [List.take_succ_eq_append_getElem h, List.map_append, List.flatten_append]; simp [-List.map_take]
theorem ofB_ent (o : ByteArray) (L : List UInt8) (h : o = ofB L) (e : Ent) : o ++ ofB (numB e.kind) ++ ofB (numB e.name.size ++ e.name.data.toList) ++ ofB e.id = ofB (L ++ e.bytes) := by
  subst h
  rw [← ofB_append, ← ofB_append, ← ofB_append]
  unfold Ent.bytes; simp only [List.append_assoc]
theorem str_of {a b : ByteArray} (h : a = b) : Value.string a = .string b := by rw [h]

set_option maxRecDepth 100000 in
set_option maxHeartbeats 1000000 in
theorem rtreebody_any (v : Value) (l : List Ent) (w : World) (hv : EntRow w v l) (hz : ∀ e ∈ l, e.name.size ≤ 1000 ∧ e.kind ≤ 2 ∧ e.id.length = 32) (hn : l.length ≤ 1000) :
    Calls Tryz.prog 132 #[v] w fun e w' => e = .returned (.string (ofB (treeB l))) ∧ Below w.heap.size w w' := by
  obtain ⟨ao, cap, rfl, hmax, hv⟩ := hv.open
  have HZ := Lib.hid hz
  have HV := Lib.hid hv
  clear hv hz
  go_enter Tryz.func132, Tryz.ntmps132
  go_wp2
  go_loopw [3, 4] (fun s i wr => ∃ (k : Nat) (o : ByteArray), k ≤ l.length ∧ i = .int .i64 k ∧ s = .string o ∧ o.size ≤ k * 1100 ∧ Hid (o = ofB (treeB (l.take k))) ∧ Below w.heap.size w wr) (fun _ i _ => (l.length - intOf i).toNat)
  case atStart => exact ⟨0, _, by omega, rfl, rfl, by simp; rfl, rfl, Below.refl _ _⟩
  case round =>
    obtain ⟨wo, rfl⟩ : ∃ wo : World, wo = wr := ⟨_, rfl⟩
    obtain ⟨k, o, hk, rfl, rfl, hos, hoe, hb⟩ := hrel
    by_cases hlt : k < l.length
    · obtain ⟨b, off, rfl, hbl, hcell⟩ := HV.out (by intro e; rw [e] at hlt; simp at hlt)
      have c1 := below_load (hcell k hlt).1 hb hbl
      have c2 := below_load (hcell k hlt).2.1 hb hbl
      have c3 := rangeAt_below (hcell k hlt).2.2 hb hbl
      have hbo : b < wo.heap.size := by have := hb.size; omega
      obtain ⟨hz1, hz2, hz3⟩ := HZ.out l[k] (List.getElem_mem hlt)
      have HN := Lib.hid (fun w => rnumber_any l[k].kind l[k].kind w (Nat.le_refl _) (by omega))
      have HT := Lib.hid (fun w => rtextw_any l[k].name w (by omega))
      have HI := Lib.hid (fun w => ridw_any l[k].id w hz3)
      have hq1 : (ofB (numB l[k].kind)).size ≤ 6 := by rw [ofB_size]; exact numB_le6 (by omega)
      have hq2 : (ofB (numB l[k].name.size ++ l[k].name.data.toList)).size ≤ 1006 := by
        rw [ofB_size, List.length_append]
        have h1 := numB_le6 (n := l[k].name.size) (by omega)
        have h2 : l[k].name.data.toList.length = l[k].name.size := by simp
        omega
      have hq3 : (ofB l[k].id).size ≤ 32 := by rw [ofB_size]; omega
      have HF := Lib.hid (ofB_ent o _ hoe.out l[k])
      have HTS := Lib.hid (treeB_snoc l k hlt)
      have hlen : (idC l[k].id).length = 32 := by rw [idC_len, hz3]
      have h32 := h32_of hlen
      clear hcell hoe hlen hz1 hz2 hz3
      generalize idC l[k].id = us at c3 HI h32
      generalize ofB (numB l[k].name.size ++ l[k].name.data.toList) = q2 at HT hq2 HF
      generalize ofB (numB l[k].kind) = q1 at HN hq1 HF
      generalize ofB l[k].id = q3 at HI hq3 HF
      generalize l[k].name = x at c1 HT
      generalize l[k].kind = y at c2 HN
      have k0 : (0 : Int) ≤ k := by omega
      have k1 : (k : Int) < l.length := by omega
      go_wp2
      refine wp_region_bq (by kernel_rfl) (by kernel_rfl) ?_
      have LQ0 := fun x : BW (World.heap wo).size wo => below_load c1 x.hb (by omega)
      have LQ1 := fun x : BW (World.heap wo).size wo => below_load c2 x.hb (by omega)
      repeat (go_big_quiet_step ((first | (go_at_call 148; with_reducible exact calls_bw (HN.out _)) | (go_at_call 145; with_reducible exact calls_bw (HT.out _)) | (go_at_call 147; with_reducible exact calls_bw (HI.out _)))))
      refine bq_row 24 _ _ rfl rfl rfl c3 (by omega) Tryz.underlying24 rfl h32 ?_
      simp only [Act.put, List.setIfInBounds_toArray, List.set_cons_zero, List.set_cons_succ]
      repeat (go_big_quiet_step ((first | (go_at_call 148; with_reducible exact calls_bw (HN.out _)) | (go_at_call 145; with_reducible exact calls_bw (HT.out _)) | (go_at_call 147; with_reducible exact calls_bw (HI.out _)))))
      refine wpQuiet_nil ?_
      intro wq hbq
      clear LQ0 LQ1
      have HB := Lib.hid (hb.trans (hbq.mono hb.size))
      clear hb hbq c1 c2 c3
      go_wp2
      go_roundw
      case rel => exact ⟨k + 1, _, by omega, by go_num, rfl, by simp only [ByteArray.size_append]; omega, by unfold Hid; rw [HTS.out, ← HF.out], HB.out⟩
      case measure => simp [intOf]; omega
    · obtain rfl : k = l.length := by omega
      have HE := Lib.hid hoe.out
      rw [List.take_length] at HE
      clear hoe
      go_wp2
      go_ret
      exact ⟨ret_str HE.out, hb⟩

/-! Commits as values. -/
abbrev Cm := List UInt8 × List (List UInt8) × ByteArray
def cmC (t : List UInt8) (v : Value) (x : ByteArray) : List Value := idC t ++ [v, .string x]
theorem cmC_len (t : List UInt8) (v : Value) (x : ByteArray) (h : t.length = 32) : (cmC t v x).length = 34 := by simp [cmC, idC_len, h]
theorem cm_cells (w : World) (t : List UInt8) (v : Value) (x : ByteArray) (ty : TypeId) (h : t.length = 32) :
    (w.alloc (.cells (cmC t v x).toArray ty)).rangeAt w.heap.size 0 (idC t) ∧ (w.alloc (.cells (cmC t v x).toArray ty)).cell? ⟨w.heap.size, 32, none⟩ = some v ∧ (w.alloc (.cells (cmC t v x).toArray ty)).cell? ⟨w.heap.size, 33, none⟩ = some (.string x) := by
  have hl : (idC t).length = 32 := by rw [idC_len, h]
  refine ⟨fun j u hu => ?_, ?_, ?_⟩
  · rw [World.cell?_alloc_new, Nat.zero_add]
    have hj := (List.getElem?_eq_some_iff.1 hu).1
    simp only [cmC, List.getElem?_toArray]
    rw [List.getElem?_append_left hj]; exact hu
  · rw [World.cell?_alloc_new]
    simp only [cmC, List.getElem?_toArray]
    rw [List.getElem?_append_right (by omega), hl]; rfl
  · rw [World.cell?_alloc_new]
    simp only [cmC, List.getElem?_toArray]
    rw [List.getElem?_append_right (by omega), hl]; rfl
theorem flat_snoc (l : List (List UInt8)) (k : Nat) (h : k < l.length) : (l.take (k + 1)).flatten = (l.take k).flatten ++ l[k] := by
  rw [List.take_succ_eq_append_getElem h, List.flatten_append]; simp

set_option maxRecDepth 100000 in
set_option maxHeartbeats 1000000 in
theorem rcommitbody_any (t : List UInt8) (v : Value) (l : List (List UInt8)) (x : ByteArray) (w : World) (hv : IdRow w v l) (ht : t.length = 32) (hl : ∀ y ∈ l, y.length = 32) (hn : l.length ≤ 1000) (hx : x.size ≤ 1000) :
    Calls Tryz.prog 108 #[.agg (cmC t v x).toArray] w fun e w' => e = .returned (.string (ofB (commitB (t, l, x)))) ∧ Below w.heap.size w w' := by
  obtain ⟨ao, cap, rfl, hmax, hv⟩ := hv.open
  obtain ⟨c0, c1, c2⟩ := cm_cells w t (.slice ao l.length cap) x 97 ht
  have hb0 : Below w.heap.size w (w.alloc (.cells (cmC t (.slice ao l.length cap) x).toArray 97)) := (Below.refl _ _).alloc (Nat.le_refl _) _
  have HB0 := Lib.hid hb0
  have hlt0 : w.heap.size < (w.alloc (.cells (cmC t (.slice ao l.length cap) x).toArray 97)).heap.size := by simp
  have HZ := Lib.hid hl
  have HV := Lib.hid hv
  have hlen : (idC t).length = 32 := by rw [idC_len, ht]
  have h32 := h32_of hlen
  have HI := Lib.hid (fun w => ridw_any t w ht)
  have HN := Lib.hid (fun w => rnumber_any l.length l.length w (Nat.le_refl _) (by omega))
  have HT := Lib.hid (fun w => rtextw_any x w (by omega))
  have hq1 : (ofB t).size ≤ 32 := by rw [ofB_size]; omega
  have hq2 : (ofB (numB l.length)).size ≤ 6 := by rw [ofB_size]; exact numB_le6 (by omega)
  have hq3 : (ofB (numB x.size ++ x.data.toList)).size ≤ 1006 := by
    rw [ofB_size, List.length_append]
    have h1 := numB_le6 (n := x.size) (by omega)
    have h2 : x.data.toList.length = x.size := by simp
    omega
  have HF : Hid (∀ o : ByteArray, o = ofB (t ++ (numB l.length ++ l.flatten)) → o ++ ofB (numB x.size ++ x.data.toList) = ofB (commitB (t, l, x))) := Lib.hid (fun o h => by
    subst h; rw [← ofB_append]; unfold commitB; simp only [List.append_assoc])
  have HF0 : Hid (ofB t ++ ofB (numB l.length) = ofB (t ++ (numB l.length ++ (l.take 0).flatten))) := Lib.hid (by rw [← ofB_append]; simp)
  clear hv hl ht hlen hb0
  generalize ofB (numB x.size ++ x.data.toList) = q3 at HT hq3 HF
  generalize hus : idC t = us at c0 HI h32
  have HUS := Lib.hid hus
  clear hus
  generalize cmC t (.slice ao l.length cap) x = cs at c0 c1 c2 HB0 hlt0
  go_enter Tryz.func108, Tryz.ntmps108
  go_wp2
  obtain ⟨W, hW⟩ : ∃ W, W = w.alloc (.cells cs.toArray 97) := ⟨_, rfl⟩
  rw [← hW] at c0 c1 c2 HB0 hlt0 ⊢
  clear hW
  generalize ofB (numB l.length) = q2 at HN hq2 HF0
  generalize ofB t = q1 at HI hq1 HF0
  refine wp_region_bq (by kernel_rfl) (by kernel_rfl) ?_
  have LQ0 := fun x : BW (World.heap W).size W => below_load c1 x.hb (by omega)
  repeat (go_big_quiet_step ((first | (go_at_call 147; with_reducible exact calls_bw (HI.out _)) | (go_at_call 148; with_reducible exact calls_bw (HN.out _)))))
  refine bq_row 24 _ _ rfl rfl rfl c0 (by omega) Tryz.underlying24 rfl h32 ?_
  simp only [Act.put, List.setIfInBounds_toArray, List.set_cons_zero, List.set_cons_succ]
  repeat (go_big_quiet_step ((first | (go_at_call 147; with_reducible exact calls_bw (HI.out _)) | (go_at_call 148; with_reducible exact calls_bw (HN.out _)))))
  refine wpQuiet_nil ?_
  intro wq hbq
  clear LQ0
  have HB := Lib.hid (HB0.out.trans (hbq.mono HB0.out.size))
  have d1 := below_load c1 hbq hlt0
  have d2 := below_load c2 hbq hlt0
  have hltq : w.heap.size < wq.heap.size := by have := hbq.size; omega
  clear c0 c1 c2 hbq HB0 hlt0
  go_wp2
  go_loopw [3, 4] (fun s i wr => ∃ (k : Nat) (o : ByteArray), k ≤ l.length ∧ i = .int .i64 k ∧ s = .string o ∧ o.size ≤ 40 + k * 32 ∧ Hid (o = ofB (t ++ (numB l.length ++ (l.take k).flatten))) ∧ Below wq.heap.size wq wr) (fun _ i _ => (l.length - intOf i).toNat)
  case atStart => exact ⟨0, _, by omega, rfl, rfl, by simp only [ByteArray.size_append]; omega, HF0.out, Below.refl _ _⟩
  case round =>
    obtain ⟨wo, rfl⟩ : ∃ wo : World, wo = wr := ⟨_, rfl⟩
    obtain ⟨k, o, hk, rfl, rfl, hos, hoe, hb⟩ := hrel
    have e1 := below_load d1 hb hltq
    have e2 := below_load d2 hb hltq
    by_cases hlt : k < l.length
    · obtain ⟨b, off, rfl, hbl, hcell⟩ := HV.out (by intro e; rw [e] at hlt; simp at hlt)
      have c3 := rangeAt_below (hcell k hlt) (HB.out.trans (hb.mono HB.out.size)) hbl
      have hz := HZ.out l[k] (List.getElem_mem hlt)
      have hlen : (idC l[k]).length = 32 := by rw [idC_len, hz]
      have h32k := h32_of hlen
      have HIK := Lib.hid (fun w => ridw_any l[k] w hz)
      have hq : (ofB l[k]).size ≤ 32 := by rw [ofB_size]; omega
      have HS : Hid (o ++ ofB l[k] = ofB (t ++ (numB l.length ++ (l.take (k + 1)).flatten))) := Lib.hid (by
        rw [flat_snoc l k hlt, hoe.out, ← ofB_append]; simp only [List.append_assoc])
      clear hcell hoe hlen hz
      generalize idC l[k] = uk at c3 HIK h32k
      generalize ofB l[k] = q at HIK hq HS
      have k0 : (0 : Int) ≤ k := by omega
      have k1 : (k : Int) < l.length := by omega
      go_wp2_with (refine wpList_load_mid rfl 24 _ rfl b (off + k * 32) rfl uk _ c3 Tryz.underlying24 rfl h32k ?_)
      refine (HIK.out _).mono ?_
      rintro e w1 ⟨rfl, hb1⟩
      have HB1 := Lib.hid (hb.trans (hb1.mono hb.size))
      clear hb hb1 e1 e2 d1 d2 c3
      go_wp2
      go_roundw
      case rel => exact ⟨k + 1, _, by omega, by go_num, rfl, by simp only [ByteArray.size_append]; omega, HS.out, HB1.out⟩
      case measure => simp [intOf]; omega
    · obtain rfl : k = l.length := by omega
      have HE := Lib.hid hoe.out
      rw [List.take_length] at HE
      clear hoe
      go_wp2_with fail
      refine (HT.out _).mono ?_
      rintro e w1 ⟨rfl, hb1⟩
      go_wp2
      go_ret
      have hb2 := hb.trans (hb1.mono hb.size)
      exact ⟨ret_str (HF.out _ HE.out), HB.out.trans (hb2.mono HB.out.size)⟩
end Go.Proofs.YtbmiiiccnoiffaaGreatDoor

/- Walks: whether a commit may be (the document's). -/
namespace Go.Proofs.YtbmiiiccnoiffaaGreatDoor
open Go.RowKit

theorem sizeB (w : World) : (sizeOf 5).run Tryz.prog w = .ok 1 w := by kernel_rfl
/-- Ids held against one another. -/
theorem id_eqIn (x y : List UInt8) (hx : x.length = 32) (hy : y.length = 32) (w : World) : (Op.equalIn 10000 24 (.agg (idC x).toArray) (.agg (idC y).toArray)).run Tryz.prog w = .ok (x == y) w :=
  run_equalIn_bytes w 9998 24 5 32 Tryz.underlying24 Tryz.underlying5 sizeB x y hx hy
theorem id_eqIn_yes {x y : List UInt8} (hx : x.length = 32) (h : x = y) (w : World) : (Op.equalIn 10000 24 (.agg (idC x).toArray) (.agg (idC y).toArray)).run Tryz.prog w = .ok true w := by
  subst h; rw [id_eqIn x x hx hx w, beq_self_eq_true]
theorem id_eqIn_no {x y : List UInt8} (hx : x.length = 32) (hy : y.length = 32) (h : x ≠ y) (w : World) : (Op.equalIn 10000 24 (.agg (idC x).toArray) (.agg (idC y).toArray)).run Tryz.prog w = .ok false w := by
  rw [id_eqIn x y hx hy w, beq_eq_false_iff_ne.2 h]
theorem take_nodup {α : Type} {l : List α} {k : Nat} (hk : k < l.length) (h : (l.take k).Nodup) (hn : ∀ j (hj : j < k), l[j] ≠ l[k]) : (l.take (k + 1)).Nodup := by
  rw [List.take_succ_eq_append_getElem hk, List.nodup_append]
  refine ⟨h, by simp, fun a ha b hb e => ?_⟩
  obtain ⟨j, hj, ej⟩ := List.getElem_of_mem ha
  have hjk : j < k := by simp at hj; omega
  rw [List.getElem_take] at ej
  rw [List.mem_singleton.1 hb] at e
  exact hn j hjk (ej.trans e)
theorem not_nodup {α : Type} {l : List α} {j k : Nat} (hj : j < k) (hk : k < l.length) (h : l[j] = l[k]) : ¬ l.Nodup := fun hn => by
  have := (List.getElem_inj hn).1 h
  omega

set_option maxRecDepth 100000 in
set_option maxHeartbeats 2000000 in
theorem rcommitright_any (t : List UInt8) (v : Value) (l : List (List UInt8)) (x : ByteArray) (w : World) (hv : IdRow w v l) (ht : t.length = 32) (hl : ∀ y ∈ l, y.length = 32) (hn : l.length ≤ 1000) :
    Calls Tryz.prog 107 #[.agg (cmC t v x).toArray] w fun e w' => e = .returned (.bool (commitOk (t, l, x))) ∧ Below w.heap.size w w' := by
  obtain ⟨ao, cap, rfl, hmax, hv⟩ := hv.open
  obtain ⟨_, c1, c2⟩ := cm_cells w t (.slice ao l.length cap) x 97 ht
  have hb0 : Below w.heap.size w (w.alloc (.cells (cmC t (.slice ao l.length cap) x).toArray 97)) := (Below.refl _ _).alloc (Nat.le_refl _) _
  have HB0 := Lib.hid hb0
  have hlt0 : w.heap.size < (w.alloc (.cells (cmC t (.slice ao l.length cap) x).toArray 97)).heap.size := by simp
  have HZ := Lib.hid hl
  have HV := Lib.hid hv
  have HC : Hid (commitOk (t, l, x) = (decide l.Nodup && decide (l.length ≤ 4 ∧ x.size ≤ 64))) := Lib.hid rfl
  clear hv hl hb0
  generalize cmC t (.slice ao l.length cap) x = cs at c1 c2 HB0 hlt0
  by_cases h4 : 4 < l.length
  · have HR : Hid (commitOk (t, l, x) = false) := by unfold Hid; rw [HC.out, decide_eq_false (show ¬ (l.length ≤ 4 ∧ x.size ≤ 64) by omega), Bool.and_false]
    have d1 : decide ((4 : Int) < l.length) = true := decide_eq_true (by omega)
    go_enter Tryz.func107, Tryz.ntmps107
    go_wp2
    go_ret
    exact ⟨ret_bool HR.out.symm, HB0.out⟩
  · have d1 : decide ((4 : Int) < l.length) = false := decide_eq_false (by omega)
    by_cases h64 : 64 < x.size
    · have HR : Hid (commitOk (t, l, x) = false) := by unfold Hid; rw [HC.out, decide_eq_false (show ¬ (l.length ≤ 4 ∧ x.size ≤ 64) by omega), Bool.and_false]
      have d2 : decide ((64 : Int) < x.size) = true := decide_eq_true (by omega)
      go_enter Tryz.func107, Tryz.ntmps107
      go_wp2
      go_ret
      exact ⟨ret_bool HR.out.symm, HB0.out⟩
    · have d2 : decide ((64 : Int) < x.size) = false := decide_eq_false (by omega)
      have HC2 : Hid (commitOk (t, l, x) = decide l.Nodup) := by unfold Hid; rw [HC.out, decide_eq_true (show l.length ≤ 4 ∧ x.size ≤ 64 by omega), Bool.and_true]
      clear h4 h64
      go_enter Tryz.func107, Tryz.ntmps107
      go_wp2
      obtain ⟨W, hW⟩ : ∃ W, W = w.alloc (.cells cs.toArray 97) := ⟨_, rfl⟩
      rw [← hW] at c1 c2 HB0 hlt0 ⊢
      clear hW
      go_loopw [3, 4] (fun i j wr => ∃ k : Nat, k ≤ l.length ∧ i = .int .i64 k ∧ Hid ((l.take k).Nodup) ∧ Below W.heap.size W wr) (fun i _ _ => (l.length - intOf i).toNat)
      case atStart => exact ⟨0, by omega, rfl, List.nodup_nil, Below.refl _ _⟩
      case round =>
        obtain ⟨wo, rfl⟩ : ∃ wo : World, wo = wr := ⟨_, rfl⟩
        obtain ⟨k, hk, rfl, hnd, hb⟩ := hrel
        have e1 := below_load c1 hb hlt0
        by_cases hlt : k < l.length
        · obtain ⟨b, off, rfl, hbl, hcell⟩ := HV.out (by intro e; rw [e] at hlt; simp at hlt)
          have c3 := rangeAt_below (hcell k hlt) (HB0.out.trans (hb.mono HB0.out.size)) hbl
          have hzk := HZ.out l[k] (List.getElem_mem hlt)
          have HCK := Lib.hid (fun j (hj : j < l.length) w' (hb' : Below w.heap.size w w') => rangeAt_below (hcell j hj) hb' hbl)
          have hbo : b < wo.heap.size := by have := HB0.out.size; have := hb.size; omega
          have hlto : w.heap.size < wo.heap.size := by have := hb.size; omega
          have HBO := Lib.hid hb
          have HND := Lib.hid hnd.out
          clear hcell hnd hb
          go_wp2
          go_loopw [4] (fun j wr => ∃ m : Nat, m ≤ k ∧ j = .int .i64 m ∧ Hid (∀ j (hj : j < m) (hm : m ≤ k), l[j] ≠ l[k]) ∧ Below wo.heap.size wo wr) (fun j _ => (k - intOf j).toNat)
          case atStart => exact ⟨0, by omega, rfl, fun j hj _ => absurd hj (by omega), Below.refl _ _⟩
          case round =>
            obtain ⟨wi, rfl⟩ : ∃ wi : World, wi = wr := ⟨_, rfl⟩
            obtain ⟨m, hm, rfl, hne, hbi⟩ := hrel
            by_cases hmk : m < k
            · have f1 := below_load e1 hbi hlto
              have f3 := rangeAt_below c3 hbi hbo
              have hlti : w.heap.size < wi.heap.size := by have := hbi.size; omega
              have hbli : b < wi.heap.size := by have := hbi.size; omega
              have hbw : Below w.heap.size w wi := (HB0.out.trans (HBO.out.mono HB0.out.size)).trans (hbi.mono (by have := HB0.out.size; have := HBO.out.size; omega))
              have f4 := HCK.out m (by omega) wi hbw
              have hzm := HZ.out l[m] (List.getElem_mem (show m < l.length by omega))
              have h32k := h32_of (us := idC l[k]) (by rw [idC_len, hzk])
              have h32m := h32_of (us := idC l[m]) (by rw [idC_len, hzm])
              have k0 : (0 : Int) ≤ k := by omega
              have k1 : (k : Int) < l.length := by omega
              have m0 : (0 : Int) ≤ m := by omega
              have m1 : (m : Int) < l.length := by omega
              have m2 : decide ((m : Int) < k) = true := decide_eq_true (by omega)
              have HNE := Lib.hid hne.out
              clear hne hbw
              by_cases he : l[k] = l[m]
              · have heq := fun w => id_eqIn_yes hzk he w
                have HR : Hid (commitOk (t, l, x) = false) := by unfold Hid; rw [HC2.out]; exact decide_eq_false (not_nodup hmk hlt he.symm)
                clear he hzk hzm
                generalize idC l[k] = uk at f3 h32k heq
                generalize idC l[m] = um at f4 h32m heq
                go_wp2
                refine wp_region_bq (by kernel_rfl) (by kernel_rfl) ?_
                have LQ0 := fun x : BW (World.heap wi).size wi => below_load f1 x.hb (by omega)
                repeat (go_big_quiet_step (fail))
                refine bq_row 24 _ _ rfl rfl rfl f3 (by omega) Tryz.underlying24 rfl h32k ?_
                simp only [Act.put, List.setIfInBounds_toArray, List.set_cons_zero, List.set_cons_succ]
                repeat (go_big_quiet_step (fail))
                refine bq_row 24 _ _ rfl rfl rfl f4 (by omega) Tryz.underlying24 rfl h32m ?_
                simp only [Act.put, List.setIfInBounds_toArray, List.set_cons_zero, List.set_cons_succ]
                repeat (go_big_quiet_step (fail))
                refine wpQuiet_nil ?_
                intro wq hbq
                clear LQ0
                go_wp2
                go_ret
                exact ⟨ret_bool HR.out.symm, (HB0.out.trans (HBO.out.mono HB0.out.size)).trans ((hbi.trans (hbq.mono hbi.size)).mono (by have := HB0.out.size; have := HBO.out.size; omega))⟩
              · have heq := fun w => id_eqIn_no hzk hzm he w
                have HE := Lib.hid he
                clear he hzk hzm
                generalize idC l[k] = uk at f3 h32k heq
                generalize idC l[m] = um at f4 h32m heq
                go_wp2
                refine wp_region_bq (by kernel_rfl) (by kernel_rfl) ?_
                have LQ0 := fun x : BW (World.heap wi).size wi => below_load f1 x.hb (by omega)
                repeat (go_big_quiet_step (fail))
                refine bq_row 24 _ _ rfl rfl rfl f3 (by omega) Tryz.underlying24 rfl h32k ?_
                simp only [Act.put, List.setIfInBounds_toArray, List.set_cons_zero, List.set_cons_succ]
                repeat (go_big_quiet_step (fail))
                refine bq_row 24 _ _ rfl rfl rfl f4 (by omega) Tryz.underlying24 rfl h32m ?_
                simp only [Act.put, List.setIfInBounds_toArray, List.set_cons_zero, List.set_cons_succ]
                repeat (go_big_quiet_step (fail))
                refine wpQuiet_nil ?_
                intro wq hbq
                clear LQ0
                have HBI := Lib.hid (hbi.trans (hbq.mono hbi.size))
                clear hbi hbq f1 f3 f4
                go_wp2
                go_roundw
                case rel => exact ⟨m + 1, by omega, by go_num, fun j hj hm2 => by
                  rcases Nat.lt_or_ge j m with h | h
                  · exact HNE.out j h hm
                  · obtain rfl : j = m := by omega
                    exact fun e => HE.out e.symm, HBI.out⟩
                case measure => simp [intOf]; omega
            · obtain rfl : m = k := by omega
              have m2 : decide ((m : Int) < m) = false := decide_eq_false (by omega)
              have HNX := Lib.hid (take_nodup hlt HND.out (fun j hj => hne.out j hj (Nat.le_refl _)))
              have HBI := Lib.hid (HBO.out.trans (hbi.mono HBO.out.size))
              clear hne hbi
              go_wp2
              go_roundw
              case rel => exact ⟨m + 1, by omega, by go_num, HNX.out, HBI.out⟩
              case measure => simp [intOf]; omega
        · obtain rfl : k = l.length := by omega
          have HR : Hid (commitOk (t, l, x) = true) := by
            unfold Hid; rw [HC2.out]
            have := hnd.out
            rw [List.take_length] at this
            exact decide_eq_true this
          clear hnd
          go_wp2
          go_ret
          exact ⟨ret_bool HR.out.symm, HB0.out.trans (hb.mono HB0.out.size)⟩
end Go.Proofs.YtbmiiiccnoiffaaGreatDoor
