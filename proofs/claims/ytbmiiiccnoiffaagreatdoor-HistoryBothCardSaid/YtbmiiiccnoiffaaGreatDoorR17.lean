/- YtbmiiiccnoiffaaGreatDoorR17: texts H3, CW28 of this claim, in one. -/
import Derived.Test.YtbmiiiccnoiffaaGreatDoorR16
namespace Go.Proofs.YtbmiiiccnoiffaaGreatDoor
variable {cm : Idl → Option Cmt}
/-- Is a commit older than another one? -/
noncomputable def olderL (cm : Idl → Option Cmt) (x y : Idl) : Bool := decide (x ∈ (lineL cm y).getD []) && decide (x ≠ y)
theorem olderL_line {x y : Idl} {B : List Idl} (h : lineL cm y = some B) : olderL cm x y = (decide (x ∈ B) && decide (x ≠ y)) := by unfold olderL; rw [h]; rfl
theorem olderL_iff {x y : Idl} {B : List Idl} (h : lineL cm y = some B) : olderL cm x y = true ↔ Older cm x y := by
  rw [olderL_line h, Bool.and_eq_true, decide_eq_true_iff, decide_eq_true_iff]
  exact older_line (lineL_some h).1
/-- HistoryBoth. -/
theorem bases_comm {a b : Idl} {A B : List Idl} (hA : lineL cm a = some A) (hB : lineL cm b = some B) : basesL cm A B = basesL cm B A := by
  obtain ⟨h1, h2⟩ := lineL_some hA
  obtain ⟨h3, h4⟩ := lineL_some hB
  exact ascL_ext (basesL_asc h2) (basesL_asc h4) fun x => by rw [basesL_mem h1 h3, basesL_mem h3 h1, base_comm]
theorem bases_one (ha : Acyc cm) {a b : Idl} {A B : List Idl} (hA : lineL cm a = some A) (hB : lineL cm b = some B) (h : olderL cm a b = true ∨ a = b) : basesL cm A B = [a] := by
  obtain ⟨h1, h2⟩ := lineL_some hA
  obtain ⟨h3, h4⟩ := lineL_some hB
  have hr : Reach cm b a := by
    rcases h with h | rfl
    · exact ((olderL_iff hB).1 h).2
    · exact .refl _
  refine ascL_ext (basesL_asc h2) (by unfold AscL; exact List.pairwise_singleton _ _) fun x => ?_
  rw [basesL_mem h1 h3, base_older ha hr, List.mem_singleton]
theorem both_fine (ha : Acyc cm) {a b x : Idl} {A B : List Idl} (hA : lineL cm a = some A) (hB : lineL cm b = some B) (hxA : x ∈ A) (hxB : x ∈ B) : ((basesL cm A B).contains x || (basesL cm A B).any (olderL cm x)) = true := by
  obtain ⟨h1, h2⟩ := lineL_some hA
  obtain ⟨h3, h4⟩ := lineL_some hB
  obtain ⟨z, hz, he⟩ := base_above ha (S := A) (fun z hz => (h1.mem z).2 hz) ((h1.mem x).1 hxA) ((h3.mem x).1 hxB)
  have hzm := (basesL_mem h1 h3 z).2 hz
  rw [Bool.or_eq_true]
  rcases he with rfl | ho
  · exact .inl (by simpa using hzm)
  · obtain ⟨Z, hZ⟩ := lineL_sub hA ((h1.mem z).2 hz.1.1)
    exact .inr (List.any_eq_true.2 ⟨z, hzm, (olderL_iff hZ).2 ho⟩)
theorem bases_sub {A B : List Idl} {x : Idl} (h : x ∈ basesL cm A B) : x ∈ A := by
  unfold basesL at h
  exact (List.mem_filter.1 h).1
open Classical in
/-- The program's bases: all in both lines but those that are older than a parent's. -/
theorem bases_strike {a b : Idl} {A B : List Idl} (hA : lineL cm a = some A) (hB : lineL cm b = some B) (o : Idl) :
    o ∈ basesL cm A B ↔ (o ∈ A ∧ o ∈ B) ∧ ∀ y, y ∈ A → y ∈ B → ∀ p ∈ par cm y, Reach cm p o → o = y := by
  obtain ⟨h1, h2⟩ := lineL_some hA
  obtain ⟨h3, h4⟩ := lineL_some hB
  unfold basesL
  rw [List.mem_filter, decide_eq_true_iff]
  constructor
  · rintro ⟨k1, k2, k3⟩
    refine ⟨⟨k1, k2⟩, fun y hy1 hy2 p hp hr => ?_⟩
    by_cases e : o = y
    · exact e
    · exact absurd ⟨e, Reach.head hp hr⟩ (k3 y hy1 hy2)
  · rintro ⟨⟨k1, k2⟩, k3⟩
    refine ⟨k1, k2, fun y hy1 hy2 ho => ?_⟩
    obtain ⟨p, hp, hr⟩ := older_par ho
    exact ho.1 (k3 y hy1 hy2 p hp hr)
end Go.Proofs.YtbmiiiccnoiffaaGreatDoor
namespace Go.Proofs.YtbmiiiccnoiffaaGreatDoor
open Go.RowKit

set_option maxRecDepth 100000 in
set_option maxHeartbeats 4000000 in
theorem clash28_any (v : Value) (l : List Ob) (w : World) (hv : ObRow w v l) :
    Calls Tryz.prog 17 #[v] w fun e w' => e = .returned (.bool (clashB l)) ∧ Below w.heap.size w w' := by
  obtain ⟨ao, cap, rfl, hmax, hv⟩ := hv.open
  unfold maxLen at hmax
  have HV := Lib.hid hv
  have h2 : ∀ (a : Int) (s : ByteArray), (Tryz.prog.info? 93).map (·.size) = some [Value.int .i64 a, Value.string s].length := fun a s => by kernel_rfl
  have H2 := Lib.hid h2
  clear hv h2
  go_enter Tryz.func17, Tryz.ntmps17
  go_wp2
  go_loopw [3, 4] (fun i _ wr => ∃ k : Nat, k ≤ l.length ∧ i = .int .i64 k ∧ Hid (∀ i, i < k → ∀ j, j < i → clashAt l i j = false) ∧ Below w.heap.size w wr) (fun i _ _ => (l.length - intOf i).toNat)
  case atStart => exact ⟨0, by omega, rfl, (fun i hi => absurd hi (by omega)), Below.refl _ _⟩
  case round =>
    obtain ⟨wo, rfl⟩ : ∃ wo : World, wo = wr := ⟨_, rfl⟩
    obtain ⟨k, hk, rfl, hno, hb⟩ := hrel
    by_cases hlt : k < l.length
    · have HNO := Lib.hid hno.out
      have HBO := Lib.hid hb
      obtain ⟨b, off, rfl, hbl, hcell⟩ := HV.out (by intro e; rw [e] at hlt; simp at hlt)
      have HC := Lib.hid (fun j (hj : j < l.length) (w' : World) (hb' : Below w.heap.size w w') => rangeAt_below (hcell j hj) hb' hbl)
      clear hno hb hcell
      go_wp2
      go_loopw [4] (fun j wr => ∃ m : Nat, m ≤ k ∧ j = .int .i64 m ∧ Hid (∀ j, j < m → clashAt l k j = false) ∧ Below wo.heap.size wo wr) (fun j _ => (k - intOf j).toNat)
      case atStart => exact ⟨0, by omega, rfl, (fun j hj => absurd hj (by omega)), Below.refl _ _⟩
      case round =>
        obtain ⟨wi, rfl⟩ : ∃ wi : World, wi = wr := ⟨_, rfl⟩
        obtain ⟨m, hm, rfl, hnm, hbi⟩ := hrel
        by_cases hmk : m < k
        · have hbw : Below w.heap.size w wi := HBO.out.trans (hbi.mono HBO.out.size)
          have f1 : wi.rangeAt b (off + k * 2) [.int .i64 l[k].kind, .string l[k].body] := HC.out k hlt wi hbw
          have f2 : wi.rangeAt b (off + m * 2) [.int .i64 l[m].kind, .string l[m].body] := HC.out m (by omega) wi hbw
          have hbli : b < wi.heap.size := by have := hbw.size; omega
          have k0 : (0 : Int) ≤ k := by omega
          have k1 : (k : Int) < l.length := by omega
          have m0 : (0 : Int) ≤ m := by omega
          have m1 : (m : Int) < l.length := by omega
          have hma : m < l.length := by omega
          have HA := Lib.hid (clashAt_eq l hlt hma)
          have HF := Lib.hid (clash_found (l := l) hlt hmk)
          have HRA := Lib.hid (fun w => rright_any l[k].kind l[k].body w)
          have HRB := Lib.hid (fun w => rright_any l[m].kind l[m].body w)
          have HIA := Lib.hid (fun w (h : rightOb ⟨l[k].kind, l[k].body⟩ = true) => rido_any l[k].kind l[k].body w (by have := right_small h; omega))
          have HIB := Lib.hid (fun w (h : rightOb ⟨l[m].kind, l[m].body⟩ = true) => rido_any l[m].kind l[m].body w (by have := right_small h; omega))
          have HNM := Lib.hid hnm.out
          have HNX : Hid (clashAt l k m = false → ∀ j, j < m + 1 → clashAt l k j = false) := Lib.hid (fun h j hj => by
            rcases Nat.lt_or_ge j m with h1 | h1
            · exact hnm.out j h1
            · obtain rfl : j = m := by omega
              exact h)
          have s1 := H2.out l[k].kind l[k].body
          have s2 := H2.out l[m].kind l[m].body
          have HYES := Lib.hid (fun hh w => ob_eq_yes (a := l[k]'hlt) (b := l[m]'hma) hh w)
          have HNOT := Lib.hid (fun hh w => ob_eq_no (a := l[k]'hlt) (b := l[m]'hma) hh w)
          have HLA := idO_len l[k]
          have HLB := idO_len l[m]
          clear hnm hbw
          generalize l[k] = A at f1 HA HRA HIA s1 HYES HNOT HLA
          generalize l[m] = B at f2 HA HRB HIB s2 HYES HNOT HLB
          obtain ⟨ka, sa⟩ := A
          obtain ⟨kb, sb⟩ := B
          dsimp only at f1 f2 HRA HRB HIA HIB s1 s2 HYES HNOT
          cases hne : obNe ⟨ka, sa⟩ ⟨kb, sb⟩ with
          | false =>
            have heq := HYES.out hne
            have HCA : Hid (clashAt l k m = false) := by unfold Hid; rw [HA.out, hne]; rfl
            clear hne
            go_wp2
            refine wp_region_bq (by kernel_rfl) (by kernel_rfl) ?_
            repeat (go_big_quiet_step ((go_at_call 57; with_reducible exact calls_bw (HRA.out _))))
            refine bq_row 93 _ _ rfl rfl rfl f1 (by omega) Tryz.underlying93 rfl s1 ?_
            simp only [Act.put, List.setIfInBounds_toArray, List.set_cons_zero, List.set_cons_succ]
            repeat (go_big_quiet_step ((go_at_call 57; with_reducible exact calls_bw (HRA.out _))))
            refine bq_row 93 _ _ rfl rfl rfl f2 (by omega) Tryz.underlying93 rfl s2 ?_
            simp only [Act.put, List.setIfInBounds_toArray, List.set_cons_zero, List.set_cons_succ]
            repeat (go_big_quiet_step ((go_at_call 57; with_reducible exact calls_bw (HRA.out _))))
            refine wpQuiet_nil ?_
            intro wq hbq
            have HBI := Lib.hid (hbi.trans (hbq.mono hbi.size))
            clear hbi hbq f1 f2
            go_wp2
            go_roundw
            case rel => exact ⟨m + 1, by omega, by go_num, HNX.out HCA.out, HBI.out⟩
            case measure => simp [intOf]; omega
          | true =>
            have heq := HNOT.out hne
            cases hra : rightOb ⟨ka, sa⟩ with
            | false =>
              have HCA : Hid (clashAt l k m = false) := by unfold Hid; rw [HA.out, hne, hra]; rfl
              rw [hra] at HRA
              clear hne hra
              go_wp2
              refine wp_region_bq (by kernel_rfl) (by kernel_rfl) ?_
              repeat (go_big_quiet_step ((go_at_call 57; with_reducible exact calls_bw (HRA.out _))))
              refine bq_row 93 _ _ rfl rfl rfl f1 (by omega) Tryz.underlying93 rfl s1 ?_
              simp only [Act.put, List.setIfInBounds_toArray, List.set_cons_zero, List.set_cons_succ]
              repeat (go_big_quiet_step ((go_at_call 57; with_reducible exact calls_bw (HRA.out _))))
              refine bq_row 93 _ _ rfl rfl rfl f2 (by omega) Tryz.underlying93 rfl s2 ?_
              simp only [Act.put, List.setIfInBounds_toArray, List.set_cons_zero, List.set_cons_succ]
              repeat (go_big_quiet_step ((go_at_call 57; with_reducible exact calls_bw (HRA.out _))))
              refine bq_row 93 _ _ rfl rfl rfl f1 (by omega) Tryz.underlying93 rfl s1 ?_
              simp only [Act.put, List.setIfInBounds_toArray, List.set_cons_zero, List.set_cons_succ]
              repeat (go_big_quiet_step ((go_at_call 57; with_reducible exact calls_bw (HRA.out _))))
              refine wpQuiet_nil ?_
              intro wq hbq
              have HBI := Lib.hid (hbi.trans (hbq.mono hbi.size))
              clear hbi hbq f1 f2
              go_wp2
              go_roundw
              case rel => exact ⟨m + 1, by omega, by go_num, HNX.out HCA.out, HBI.out⟩
              case measure => simp [intOf]; omega
            | true =>
              cases hrb : rightOb ⟨kb, sb⟩ with
              | false =>
                have HCA : Hid (clashAt l k m = false) := by unfold Hid; rw [HA.out, hne, hra, hrb]; rfl
                rw [hra] at HRA
                rw [hrb] at HRB
                clear hne hra hrb
                go_wp2
                refine wp_region_bq (by kernel_rfl) (by kernel_rfl) ?_
                repeat (go_big_quiet_step ((first | (go_at_call 57; with_reducible exact calls_bw (HRA.out _)) | (go_at_call 57; with_reducible exact calls_bw (HRB.out _)))))
                refine bq_row 93 _ _ rfl rfl rfl f1 (by omega) Tryz.underlying93 rfl s1 ?_
                simp only [Act.put, List.setIfInBounds_toArray, List.set_cons_zero, List.set_cons_succ]
                repeat (go_big_quiet_step ((first | (go_at_call 57; with_reducible exact calls_bw (HRA.out _)) | (go_at_call 57; with_reducible exact calls_bw (HRB.out _)))))
                refine bq_row 93 _ _ rfl rfl rfl f2 (by omega) Tryz.underlying93 rfl s2 ?_
                simp only [Act.put, List.setIfInBounds_toArray, List.set_cons_zero, List.set_cons_succ]
                repeat (go_big_quiet_step ((first | (go_at_call 57; with_reducible exact calls_bw (HRA.out _)) | (go_at_call 57; with_reducible exact calls_bw (HRB.out _)))))
                refine bq_row 93 _ _ rfl rfl rfl f1 (by omega) Tryz.underlying93 rfl s1 ?_
                simp only [Act.put, List.setIfInBounds_toArray, List.set_cons_zero, List.set_cons_succ]
                repeat (go_big_quiet_step ((first | (go_at_call 57; with_reducible exact calls_bw (HRA.out _)) | (go_at_call 57; with_reducible exact calls_bw (HRB.out _)))))
                refine bq_row 93 _ _ rfl rfl rfl f2 (by omega) Tryz.underlying93 rfl s2 ?_
                simp only [Act.put, List.setIfInBounds_toArray, List.set_cons_zero, List.set_cons_succ]
                repeat (go_big_quiet_step ((first | (go_at_call 57; with_reducible exact calls_bw (HRA.out _)) | (go_at_call 57; with_reducible exact calls_bw (HRB.out _)))))
                refine wpQuiet_nil ?_
                intro wq hbq
                have HBI := Lib.hid (hbi.trans (hbq.mono hbi.size))
                clear hbi hbq f1 f2
                go_wp2
                go_roundw
                case rel => exact ⟨m + 1, by omega, by go_num, HNX.out HCA.out, HBI.out⟩
                case measure => simp [intOf]; omega
              | true =>
                have HIA2 := Lib.hid (fun w => HIA.out w hra)
                have HIB2 := Lib.hid (fun w => HIB.out w hrb)
                by_cases he : idO ⟨ka, sa⟩ = idO ⟨kb, sb⟩
                · have HCA : Hid (clashAt l k m = true) := by unfold Hid; rw [HA.out, hne, hra, hrb, decide_eq_true he]; rfl
                  have hid := fun w => id_eqIn_yes HLA he w
                  rw [hra] at HRA
                  rw [hrb] at HRB
                  clear hne hra hrb he
                  generalize idC (idO ⟨ka, sa⟩) = ua at HIA2 hid
                  generalize idC (idO ⟨kb, sb⟩) = ub at HIB2 hid
                  go_wp2
                  refine wp_region_bq (by kernel_rfl) (by kernel_rfl) ?_
                  repeat (go_big_quiet_step ((first | (go_at_call 57; with_reducible exact calls_bw (HRA.out _)) | (go_at_call 57; with_reducible exact calls_bw (HRB.out _)) | (go_at_call 58; with_reducible exact calls_bw (HIA2.out _)) | (go_at_call 58; with_reducible exact calls_bw (HIB2.out _)))))
                  refine bq_row 93 _ _ rfl rfl rfl f1 (by omega) Tryz.underlying93 rfl s1 ?_
                  simp only [Act.put, List.setIfInBounds_toArray, List.set_cons_zero, List.set_cons_succ]
                  repeat (go_big_quiet_step ((first | (go_at_call 57; with_reducible exact calls_bw (HRA.out _)) | (go_at_call 57; with_reducible exact calls_bw (HRB.out _)) | (go_at_call 58; with_reducible exact calls_bw (HIA2.out _)) | (go_at_call 58; with_reducible exact calls_bw (HIB2.out _)))))
                  refine bq_row 93 _ _ rfl rfl rfl f2 (by omega) Tryz.underlying93 rfl s2 ?_
                  simp only [Act.put, List.setIfInBounds_toArray, List.set_cons_zero, List.set_cons_succ]
                  repeat (go_big_quiet_step ((first | (go_at_call 57; with_reducible exact calls_bw (HRA.out _)) | (go_at_call 57; with_reducible exact calls_bw (HRB.out _)) | (go_at_call 58; with_reducible exact calls_bw (HIA2.out _)) | (go_at_call 58; with_reducible exact calls_bw (HIB2.out _)))))
                  refine bq_row 93 _ _ rfl rfl rfl f1 (by omega) Tryz.underlying93 rfl s1 ?_
                  simp only [Act.put, List.setIfInBounds_toArray, List.set_cons_zero, List.set_cons_succ]
                  repeat (go_big_quiet_step ((first | (go_at_call 57; with_reducible exact calls_bw (HRA.out _)) | (go_at_call 57; with_reducible exact calls_bw (HRB.out _)) | (go_at_call 58; with_reducible exact calls_bw (HIA2.out _)) | (go_at_call 58; with_reducible exact calls_bw (HIB2.out _)))))
                  refine bq_row 93 _ _ rfl rfl rfl f2 (by omega) Tryz.underlying93 rfl s2 ?_
                  simp only [Act.put, List.setIfInBounds_toArray, List.set_cons_zero, List.set_cons_succ]
                  repeat (go_big_quiet_step ((first | (go_at_call 57; with_reducible exact calls_bw (HRA.out _)) | (go_at_call 57; with_reducible exact calls_bw (HRB.out _)) | (go_at_call 58; with_reducible exact calls_bw (HIA2.out _)) | (go_at_call 58; with_reducible exact calls_bw (HIB2.out _)))))
                  refine bq_row 93 _ _ rfl rfl rfl f1 (by omega) Tryz.underlying93 rfl s1 ?_
                  simp only [Act.put, List.setIfInBounds_toArray, List.set_cons_zero, List.set_cons_succ]
                  repeat (go_big_quiet_step ((first | (go_at_call 57; with_reducible exact calls_bw (HRA.out _)) | (go_at_call 57; with_reducible exact calls_bw (HRB.out _)) | (go_at_call 58; with_reducible exact calls_bw (HIA2.out _)) | (go_at_call 58; with_reducible exact calls_bw (HIB2.out _)))))
                  refine bq_row 93 _ _ rfl rfl rfl f2 (by omega) Tryz.underlying93 rfl s2 ?_
                  simp only [Act.put, List.setIfInBounds_toArray, List.set_cons_zero, List.set_cons_succ]
                  repeat (go_big_quiet_step ((first | (go_at_call 57; with_reducible exact calls_bw (HRA.out _)) | (go_at_call 57; with_reducible exact calls_bw (HRB.out _)) | (go_at_call 58; with_reducible exact calls_bw (HIA2.out _)) | (go_at_call 58; with_reducible exact calls_bw (HIB2.out _)))))
                  refine wpQuiet_nil ?_
                  intro wq hbq
                  go_wp2
                  go_ret
                  exact ⟨ret_bool (HF.out HCA.out).symm, HBO.out.trans ((hbi.trans (hbq.mono hbi.size)).mono HBO.out.size)⟩
                · have HCA : Hid (clashAt l k m = false) := by unfold Hid; rw [HA.out, decide_eq_false he, Bool.and_false]
                  have hid := fun w => id_eqIn_no HLA HLB he w
                  rw [hra] at HRA
                  rw [hrb] at HRB
                  clear hne hra hrb he
                  generalize idC (idO ⟨ka, sa⟩) = ua at HIA2 hid
                  generalize idC (idO ⟨kb, sb⟩) = ub at HIB2 hid
                  go_wp2
                  refine wp_region_bq (by kernel_rfl) (by kernel_rfl) ?_
                  repeat (go_big_quiet_step ((first | (go_at_call 57; with_reducible exact calls_bw (HRA.out _)) | (go_at_call 57; with_reducible exact calls_bw (HRB.out _)) | (go_at_call 58; with_reducible exact calls_bw (HIA2.out _)) | (go_at_call 58; with_reducible exact calls_bw (HIB2.out _)))))
                  refine bq_row 93 _ _ rfl rfl rfl f1 (by omega) Tryz.underlying93 rfl s1 ?_
                  simp only [Act.put, List.setIfInBounds_toArray, List.set_cons_zero, List.set_cons_succ]
                  repeat (go_big_quiet_step ((first | (go_at_call 57; with_reducible exact calls_bw (HRA.out _)) | (go_at_call 57; with_reducible exact calls_bw (HRB.out _)) | (go_at_call 58; with_reducible exact calls_bw (HIA2.out _)) | (go_at_call 58; with_reducible exact calls_bw (HIB2.out _)))))
                  refine bq_row 93 _ _ rfl rfl rfl f2 (by omega) Tryz.underlying93 rfl s2 ?_
                  simp only [Act.put, List.setIfInBounds_toArray, List.set_cons_zero, List.set_cons_succ]
                  repeat (go_big_quiet_step ((first | (go_at_call 57; with_reducible exact calls_bw (HRA.out _)) | (go_at_call 57; with_reducible exact calls_bw (HRB.out _)) | (go_at_call 58; with_reducible exact calls_bw (HIA2.out _)) | (go_at_call 58; with_reducible exact calls_bw (HIB2.out _)))))
                  refine bq_row 93 _ _ rfl rfl rfl f1 (by omega) Tryz.underlying93 rfl s1 ?_
                  simp only [Act.put, List.setIfInBounds_toArray, List.set_cons_zero, List.set_cons_succ]
                  repeat (go_big_quiet_step ((first | (go_at_call 57; with_reducible exact calls_bw (HRA.out _)) | (go_at_call 57; with_reducible exact calls_bw (HRB.out _)) | (go_at_call 58; with_reducible exact calls_bw (HIA2.out _)) | (go_at_call 58; with_reducible exact calls_bw (HIB2.out _)))))
                  refine bq_row 93 _ _ rfl rfl rfl f2 (by omega) Tryz.underlying93 rfl s2 ?_
                  simp only [Act.put, List.setIfInBounds_toArray, List.set_cons_zero, List.set_cons_succ]
                  repeat (go_big_quiet_step ((first | (go_at_call 57; with_reducible exact calls_bw (HRA.out _)) | (go_at_call 57; with_reducible exact calls_bw (HRB.out _)) | (go_at_call 58; with_reducible exact calls_bw (HIA2.out _)) | (go_at_call 58; with_reducible exact calls_bw (HIB2.out _)))))
                  refine bq_row 93 _ _ rfl rfl rfl f1 (by omega) Tryz.underlying93 rfl s1 ?_
                  simp only [Act.put, List.setIfInBounds_toArray, List.set_cons_zero, List.set_cons_succ]
                  repeat (go_big_quiet_step ((first | (go_at_call 57; with_reducible exact calls_bw (HRA.out _)) | (go_at_call 57; with_reducible exact calls_bw (HRB.out _)) | (go_at_call 58; with_reducible exact calls_bw (HIA2.out _)) | (go_at_call 58; with_reducible exact calls_bw (HIB2.out _)))))
                  refine bq_row 93 _ _ rfl rfl rfl f2 (by omega) Tryz.underlying93 rfl s2 ?_
                  simp only [Act.put, List.setIfInBounds_toArray, List.set_cons_zero, List.set_cons_succ]
                  repeat (go_big_quiet_step ((first | (go_at_call 57; with_reducible exact calls_bw (HRA.out _)) | (go_at_call 57; with_reducible exact calls_bw (HRB.out _)) | (go_at_call 58; with_reducible exact calls_bw (HIA2.out _)) | (go_at_call 58; with_reducible exact calls_bw (HIB2.out _)))))
                  refine wpQuiet_nil ?_
                  intro wq hbq
                  have HBI := Lib.hid (hbi.trans (hbq.mono hbi.size))
                  clear hbi hbq f1 f2
                  go_wp2
                  go_roundw
                  case rel => exact ⟨m + 1, by omega, by go_num, HNX.out HCA.out, HBI.out⟩
                  case measure => simp [intOf]; omega
        · obtain rfl : m = k := by omega
          have HN2 : Hid (∀ i, i < m + 1 → ∀ j, j < i → clashAt l i j = false) := Lib.hid (fun i hi => by
            rcases Nat.lt_or_ge i m with h | h
            · exact HNO.out i h
            · obtain rfl : i = m := by omega
              exact hnm.out)
          have HBI := Lib.hid (HBO.out.trans (hbi.mono HBO.out.size))
          clear hnm hbi
          go_wp2
          go_roundw
          case rel => exact ⟨m + 1, by omega, by go_num, HN2.out, HBI.out⟩
          case measure => simp [intOf]; omega
    · obtain rfl : k = l.length := by omega
      have HR : Hid (clashB l = false) := Lib.hid (clash_none hno.out)
      clear hno
      go_wp2
      go_ret
      exact ⟨ret_bool HR.out.symm, hb⟩
end Go.Proofs.YtbmiiiccnoiffaaGreatDoor
