/- Walks: whether an object may be; its entries; its commit (the program's). -/
import Derived.Test.YtbmiiiccnoiffaaGreatDoorY6
namespace Go.Proofs.YtbmiiiccnoiffaaGreatDoor
open Go.RowKit

set_option maxRecDepth 100000 in
set_option maxHeartbeats 1000000 in
theorem oright_any (k : Int) (s : ByteArray) (w : World) :
    Calls Tryz.prog 138 #[.agg #[.int .i64 k, .string s]] w fun e w' => e = .returned (.bool (rightOb ⟨k, s⟩)) ∧ Below w.heap.size w w' := by
  have HR := Lib.hid (fun w => oread_any k s w)
  have HB0 : Hid (∀ o, Below w.heap.size w (w.alloc o)) := Lib.hid (fun o => (Below.refl _ _).alloc (Nat.le_refl _) _)
  go_enter Tryz.func138, Tryz.ntmps138
  go_wp2_with fail
  refine (HR.out _).mono ?_
  intro e w1 h
  obtain ⟨⟨p, rfl, _, _⟩, hb⟩ := h
  have HB := Lib.hid ((HB0.out _).trans (hb.mono (HB0.out _).size))
  clear hb
  go_wp2
  go_ret
  exact ⟨rfl, HB.out⟩

theorem nil_ents (w : World) : EntRow w (.slice none 0 0) [] := ⟨none, 0, rfl, by simp, fun h => absurd rfl h⟩
/-- May an object be a tree? A commit? -/
def isT (k : Int) (s : ByteArray) : Bool := rightOb ⟨k, s⟩ && decide (k = 2)
def isC (k : Int) (s : ByteArray) : Bool := rightOb ⟨k, s⟩ && decide (k = 3)
def okI (b : Bool) : Int := if b = true then 0 else 1

def EntsAns (k : Int) (s : ByteArray) (w : World) (e : Ending) (w' : World) : Prop := ∃ v, e = .returned (.tuple #[v, .int .i64 (okI (isT k s))]) ∧ FreshV w v ∧ EntRow w' v (if isT k s = true then (treeOf s).getD [] else []) ∧ Below w.heap.size w w'
theorem entsAns_no {k : Int} {s : ByteArray} {w w' : World} (h : isT k s = false) (hb : Below w.heap.size w w') : EntsAns k s w (.returned (.tuple #[.slice none 0 0, .int .i64 1])) w' :=
  ⟨_, by rw [h]; rfl, fun g hg => (by cases hg), by rw [h]; exact nil_ents _, hb⟩
theorem entsAns_yes {k : Int} {s : ByteArray} {w w' : World} {v : Value} (h : isT k s = true) (hfr : FreshV w v) (hr : EntRow w' v ((treeOf s).getD [])) (hb : Below w.heap.size w w') : EntsAns k s w (.returned (.tuple #[v, .int .i64 0])) w' :=
  ⟨_, by rw [h]; rfl, hfr, by rw [h]; exact hr, hb⟩
set_option maxRecDepth 100000 in
set_option maxHeartbeats 2000000 in
theorem oents_any (k : Int) (s : ByteArray) (w : World) :
    Calls Tryz.prog 134 #[.agg #[.int .i64 k, .string s]] w (EntsAns k s w) := by
  have HR := Lib.hid (fun w => oread_any k s w)
  have HB0 : Hid (∀ o, Below w.heap.size w (w.alloc o)) := Lib.hid (fun o => (Below.refl _ _).alloc (Nat.le_refl _) _)
  cases hr : rightOb ⟨k, s⟩ with
  | false =>
    have HI : Hid (isT k s = false) := by unfold Hid isT; rw [hr]; rfl
    have HRB := Lib.hid hr
    clear hr
    go_enter Tryz.func134, Tryz.ntmps134
    go_wp2_with fail
    refine (HR.out _).mono ?_
    intro e w1 h
    obtain ⟨⟨p, rfl, _, _⟩, hb⟩ := h
    rw [HRB.out]
    have HB := Lib.hid ((HB0.out _).trans (hb.mono (HB0.out _).size))
    clear hb
    go_wp2
    go_ret2
    exact entsAns_no HI.out HB.out
  | true =>
    have HRB := Lib.hid hr
    clear hr
    by_cases h2 : k = 2
    · subst h2
      have HI : Hid (isT 2 s = true) := by unfold Hid isT; rw [HRB.out]; rfl
      go_enter Tryz.func134, Tryz.ntmps134
      go_wp2_with fail
      refine (HR.out _).mono ?_
      intro e w1 h
      obtain ⟨⟨p, rfl, h2, _⟩, hb⟩ := h
      rw [HRB.out]
      obtain ⟨b, v, rfl, hbl, hv, hfr, hrow⟩ := h2 HRB.out rfl
      have HB := Lib.hid ((HB0.out _).trans (hb.mono (HB0.out _).size))
      have c0 : w1.cell? ⟨w.heap.size, 0, none⟩ = some (.int .i64 2) := by
        rw [hb.cell (p := ⟨w.heap.size, 0, none⟩) (by simp), World.cell?_alloc_new]; rfl
      have HROW := Lib.hid hrow
      have HFR := Lib.hid (fun g hg => Nat.le_trans (HB0.out _).size (hfr g hg))
      clear hb h2 hrow hfr
      go_wp2
      go_ret2
      exact entsAns_yes HI.out HFR.out HROW.out HB.out
    · have HI : Hid (isT k s = false) := by unfold Hid isT; rw [HRB.out, decide_eq_false h2]; rfl
      have e2 : (k != 2) = true := by rw [bne_iff_ne]; exact h2
      go_enter Tryz.func134, Tryz.ntmps134
      go_wp2_with fail
      refine (HR.out _).mono ?_
      intro e w1 h
      obtain ⟨⟨p, rfl, _, _⟩, hb⟩ := h
      rw [HRB.out]
      have HB := Lib.hid ((HB0.out _).trans (hb.mono (HB0.out _).size))
      have c0 : w1.cell? ⟨w.heap.size, 0, none⟩ = some (.int .i64 k) := by
        rw [hb.cell (p := ⟨w.heap.size, 0, none⟩) (by simp), World.cell?_alloc_new]; rfl
      clear hb
      go_wp2
      go_ret2
      exact entsAns_no HI.out HB.out
def CmAns (k : Int) (s : ByteArray) (w : World) (e : Ending) (w' : World) : Prop := ∃ t v l x, e = .returned (.tuple #[.agg (cmC t v x).toArray, .int .i64 (okI (isC k s))]) ∧ (isC k s = true → commitOf s = some (t, l, x)) ∧ FreshV w v ∧ IdRow w' v l ∧ t.length = 32 ∧ Below w.heap.size w w'
theorem nil_ids (w : World) : IdRow w (.slice none 0 0) [] := ⟨none, 0, rfl, by simp, fun h => absurd rfl h⟩
theorem cmAns_no {k : Int} {s : ByteArray} {w w' : World} (h : isC k s = false) (hb : Below w.heap.size w w') : CmAns k s w (.returned (.tuple #[.agg (cmC zid (.slice none 0 0) ⟨#[]⟩).toArray, .int .i64 1])) w' :=
  ⟨zid, _, [], ⟨#[]⟩, by rw [h]; rfl, fun h' => (by rw [h] at h'; cases h'), fun g hg => (by cases hg), nil_ids _, zid_len, hb⟩
theorem cmAns_yes {k : Int} {s : ByteArray} {w w' : World} {t : List UInt8} {v : Value} {l : List (List UInt8)} {x : ByteArray} (h : isC k s = true) (hc : commitOf s = some (t, l, x)) (ht : t.length = 32) (hfr : FreshV w v) (hr : IdRow w' v l) (hb : Below w.heap.size w w') :
    CmAns k s w (.returned (.tuple #[.agg (cmC t v x).toArray, .int .i64 0])) w' :=
  ⟨t, v, l, x, by rw [h]; rfl, fun _ => hc, hfr, hr, ht, hb⟩
theorem commitOf_id {s : ByteArray} {t : List UInt8} {l : List (List UInt8)} {x : ByteArray} (h : commitOf s = some (t, l, x)) : t.length = 32 := by
  unfold commitOf at h
  split at h
  · have e := Option.some.inj h
    have : (rd0 s).commit.2.1 = t := congrArg Prod.fst e
    rw [← this]; exact idOf_len _
  · cases h
theorem idRow_sets {w : World} {v : Value} {l : List (List UInt8)} (h : IdRow w v l) (E : Nat) (hv : v.ownBlock ≠ some E) (us : List Value) : IdRow (w.setCells E 0 us) v l := by
  obtain ⟨ao, cap, rfl, hm, h2⟩ := h
  refine ⟨ao, cap, rfl, hm, fun hne => ?_⟩
  obtain ⟨b, off, rfl, hbl, hc⟩ := h2 hne
  have hbk : b ≠ E := fun e => hv (by rw [← e]; rfl)
  refine ⟨b, off, rfl, by have := (grown_setCells us 0 w (World.grownBy.refl w (some E))).size; omega, fun i hi j u hu => ?_⟩
  rw [World.cell?_setCells_out E _ 0 w ⟨b, _, none⟩ (fun e3 _ => absurd e3 hbk)]
  exact hc i hi j u hu

set_option maxRecDepth 100000 in
set_option maxHeartbeats 2000000 in
theorem ocm_any (k : Int) (s : ByteArray) (w : World) :
    Calls Tryz.prog 109 #[.agg #[.int .i64 k, .string s]] w (CmAns k s w) := by
  obtain ⟨zs, hz, hbu, rfl⟩ := cm_zero
  have hcl : (cmC zid (.slice none 0 0) ⟨#[]⟩).length = 34 := cmC_len _ _ _ zid_len
  have HR := Lib.hid (fun w => oread_any k s w)
  have hA : Arr ((w.alloc (.cells #[.int .i64 k, .string s] 93)).alloc (.cells (cmC zid (.slice none 0 0) ⟨#[]⟩).toArray 97)) (w.heap.size + 1) 34 (cmF zid (.slice none 0 0) ⟨#[]⟩) := by
    have := cmF_arr (w.alloc (.cells #[.int .i64 k, .string s] 93)) zid_len (.slice none 0 0) ⟨#[]⟩ 97
    rw [World.size_alloc] at this; exact this
  have hon := cmC_one zid none 0 0 ⟨#[]⟩
  have HNA : Hid (∀ w', isC k s = false → Below w.heap.size w w' → CmAns k s w (.returned (.tuple #[.agg (cmC zid (.slice none 0 0) ⟨#[]⟩).toArray, .int .i64 1])) w') := Lib.hid (fun w' h hb => cmAns_no h hb)
  generalize cmC zid (.slice none 0 0) ⟨#[]⟩ = cz at hz hbu hcl hA hon HNA
  obtain ⟨W0, hW0⟩ : ∃ W0, W0 = (w.alloc (.cells #[.int .i64 k, .string s] 93)).alloc (.cells cz.toArray 97) := ⟨_, rfl⟩
  rw [← hW0] at hA
  have hB0 : Below w.heap.size w W0 := by rw [hW0]; exact ((Below.refl _ _).alloc (Nat.le_refl _) _).alloc (by simp) _
  have hs0 : W0.heap.size = w.heap.size + 1 + 1 := by rw [hW0]; simp
  have hc0 : W0.cell? ⟨w.heap.size, 0, none⟩ = some (.int .i64 k) := by
    rw [hW0, World.cell?_alloc_lt _ _ _ (by simp), World.cell?_alloc_new]; rfl
  have hc1 : W0.cell? ⟨w.heap.size, 1, none⟩ = some (.string s) := by
    rw [hW0, World.cell?_alloc_lt _ _ _ (by simp), World.cell?_alloc_new]; rfl
  have h34 : (Tryz.prog.info? 97).map (·.size) = some 34 := by kernel_rfl
  have h34z : (Tryz.prog.info? 97).map (·.size) = some cz.length := by rw [hcl]; exact h34
  have HB0 := Lib.hid hB0
  have HA := Lib.hid hA
  have HC0 := Lib.hid hc0
  have HS0 := Lib.hid hs0
  have HCL := Lib.hid hcl
  have HON := Lib.hid hon
  -- behind the read
  have HNO : Hid (∀ w1, Below W0.heap.size W0 w1 → w1.there (w.heap.size + 1) 0 34) := Lib.hid (fun w1 hb => (HA.out.below hb (by rw [HS0.out]; omega)).there)
  have HST : Hid (∀ w1 cs, cs.length = 34 → Below W0.heap.size W0 w1 → (w1.setCells (w.heap.size + 1) 0 cs).rangeAt (w.heap.size + 1) 0 cs ∧ Below w.heap.size w (w1.setCells (w.heap.size + 1) 0 cs)) := Lib.hid (fun w1 cs hl hb => 
    ⟨World.rangeAt_setCells_same w1 _ 0 _ (by rw [hl]; exact HNO.out w1 hb), below_setCells _ (by omega) _ _ _ (HB0.out.trans (hb.mono HB0.out.size))⟩)
  clear hB0 hA hs0 hcl hon
  cases hr : rightOb ⟨k, s⟩ with
  | false =>
    have HI : Hid (isC k s = false) := by unfold Hid isC; rw [hr]; rfl
    have HRB := Lib.hid hr
    clear hr
    go_enter Tryz.func109, Tryz.ntmps109
    go_wp2_with fail
    rw [← hW0]
    clear hW0
    refine (HR.out _).mono ?_
    intro e w1 h
    obtain ⟨⟨p, rfl, _, _⟩, hb⟩ := h
    rw [HRB.out]
    have HB := Lib.hid hb
    clear hb
    go_wp2_with (refine wpList_store_list rfl 97 _ _ rfl (w.heap.size + 1) 0 cz rfl rfl 34 HCL.out (HNO.out _ HB.out) h34 HON.out ?_)
    refine ret_cell2 rfl (w.heap.size + 1) 0 rfl _ _ (HST.out _ cz HCL.out HB.out).1 Tryz.underlying97 rfl h34z rfl _ rfl (HNA.out _ HI.out (HST.out _ cz HCL.out HB.out).2)
  | true =>
    have HRB := Lib.hid hr
    clear hr
    by_cases h3 : k = 3
    · subst h3
      have HI : Hid (isC 3 s = true) := by unfold Hid isC; rw [HRB.out]; rfl
      go_enter Tryz.func109, Tryz.ntmps109
      go_wp2_with fail
      rw [← hW0]
      clear hW0
      refine (HR.out _).mono ?_
      intro e w1 h
      obtain ⟨⟨p, rfl, _, h3⟩, hb⟩ := h
      rw [HRB.out]
      obtain ⟨b, t, v, l, x, rfl, hbl, hcm, hrow, hfr, hids⟩ := h3 HRB.out rfl
      have htl := commitOf_id hcm
      have c0 : w1.cell? ⟨w.heap.size, 0, none⟩ = some (.int .i64 3) := by
        rw [hb.cell (p := ⟨w.heap.size, 0, none⟩) (by rw [HS0.out]; show w.heap.size < w.heap.size + 1 + 1; omega)]; exact HC0.out
      have hcl : (cmC t v x).length = 34 := cmC_len _ _ _ htl
      have h34c : (Tryz.prog.info? 97).map (·.size) = some (cmC t v x).length := by rw [hcl]; exact h34
      have hids2 := hids
      obtain ⟨ao, cap, rfl, _, _⟩ := hids2.open
      have HCL1 := Lib.hid hcl
      have HON1 := Lib.hid (cmC_one t ao l.length cap x)
      have HB := Lib.hid hb
      have HROW := Lib.hid hrow
      have HFIN : Hid (CmAns 3 s w (.returned (.tuple #[.agg (cmC t (.slice ao l.length cap) x).toArray, .int .i64 0])) (w1.setCells (w.heap.size + 1) 0 (cmC t (.slice ao l.length cap) x))) :=
        Lib.hid (cmAns_yes HI.out hcm htl (fun g hg => Nat.le_trans HB0.out.size (hfr g hg)) (idRow_sets hids _ (fun e => by have := hfr _ e; have := HS0.out; omega) _) (HST.out _ _ hcl hb).2)
      clear hb h3 hrow hfr hids hids2 hcm htl hcl hc0 hc1
      generalize cmC t (.slice ao l.length cap) x = cs at HCL1 HON1 h34c HROW HFIN
      go_wp2_with (first | (refine wpList_load_mid rfl 97 _ rfl b 2 rfl cs _ HROW.out Tryz.underlying97 rfl h34c ?_) | (refine wpList_store_list rfl 97 _ _ rfl (w.heap.size + 1) 0 cs rfl rfl 34 HCL1.out (HNO.out _ HB.out) h34 HON1.out ?_))
      refine ret_cell2 rfl (w.heap.size + 1) 0 rfl _ _ (HST.out _ cs HCL1.out HB.out).1 Tryz.underlying97 rfl h34c rfl _ rfl HFIN.out
    · have HI : Hid (isC k s = false) := by unfold Hid isC; rw [HRB.out, decide_eq_false h3]; rfl
      have e3 : (k != 3) = true := by rw [bne_iff_ne]; exact h3
      go_enter Tryz.func109, Tryz.ntmps109
      go_wp2_with fail
      rw [← hW0]
      clear hW0
      refine (HR.out _).mono ?_
      intro e w1 h
      obtain ⟨⟨p, rfl, _, _⟩, hb⟩ := h
      rw [HRB.out]
      have c0 : w1.cell? ⟨w.heap.size, 0, none⟩ = some (.int .i64 k) := by
        rw [hb.cell (p := ⟨w.heap.size, 0, none⟩) (by rw [HS0.out]; show w.heap.size < w.heap.size + 1 + 1; omega)]; exact HC0.out
      have HB := Lib.hid hb
      clear hb hc0 hc1
      go_wp2_with (refine wpList_store_list rfl 97 _ _ rfl (w.heap.size + 1) 0 cz rfl rfl 34 HCL.out (HNO.out _ HB.out) h34 HON.out ?_)
      refine ret_cell2 rfl (w.heap.size + 1) 0 rfl _ _ (HST.out _ cz HCL.out HB.out).1 Tryz.underlying97 rfl h34z rfl _ rfl (HNA.out _ HI.out (HST.out _ cz HCL.out HB.out).2)
end Go.Proofs.YtbmiiiccnoiffaaGreatDoor
