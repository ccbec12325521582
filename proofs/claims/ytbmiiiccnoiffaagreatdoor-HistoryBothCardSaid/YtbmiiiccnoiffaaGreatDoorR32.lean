/- YtbmiiiccnoiffaaGreatDoorR32: texts Y7 of this claim, in one. -/
import Derived.Test.YtbmiiiccnoiffaaGreatDoorR27
import Derived.Test.YtbmiiiccnoiffaaGreatDoorR28
import Derived.Test.YtbmiiiccnoiffaaGreatDoorR8
namespace Go.Proofs.YtbmiiiccnoiffaaGreatDoor
open Go.RowKit

theorem letter_slice (k : Nat) (h : k = 1 ∨ k = 2 ∨ k = 3) (w : World) : (Instr.slice 9 (.string ⟨#[32, 98, 116, 99]⟩) (some (.int .i64 (k : Int))) (some (.int .i64 ((k : Int) + 1))) none).run Tryz.prog w = .ok (.string (ofB [letterOf k])) w := by
  rcases h with rfl | rfl | rfl
  · exact slice_two ⟨#[32, 98, 116, 99]⟩ 1 1 (by decide) w
  · exact slice_two ⟨#[32, 98, 116, 99]⟩ 2 1 (by decide) w
  · exact slice_two ⟨#[32, 98, 116, 99]⟩ 3 1 (by decide) w
theorem rightOb_kind {o : Ob} (h : rightOb o = true) : (o.kind = 1 ∨ o.kind = 2 ∨ o.kind = 3) ∧ o.body.size ≤ 4096 := by
  unfold rightOb at h
  simp only [Bool.and_eq_true, decide_eq_true_eq] at h
  refine ⟨?_, h.1⟩
  have h2 := h.2
  split at h2
  · exact .inl (by assumption)
  · split at h2
    · exact .inr (.inl (by assumption))
    · split at h2
      · exact .inr (.inr (by assumption))
      · cases h2

def FrAns (k : Int) (s : ByteArray) (w : World) (e : Ending) (w' : World) : Prop := e = .returned (.tuple #[.string (if rightOb ⟨k, s⟩ = true then ofB (frameL ⟨k, s⟩) else ⟨#[]⟩), .int .i64 (okI (rightOb ⟨k, s⟩))]) ∧ Below w.heap.size w w'
theorem frAns_no {k : Int} {s : ByteArray} {w w' : World} (h : rightOb ⟨k, s⟩ = false) (hb : Below w.heap.size w w') : FrAns k s w (.returned (.tuple #[.string ⟨#[]⟩, .int .i64 1])) w' := ⟨by rw [h]; rfl, hb⟩
theorem frAns_yes {k : Int} {s q : ByteArray} {w w' : World} (h : rightOb ⟨k, s⟩ = true) (hq : q = ofB (frameL ⟨k, s⟩)) (hb : Below w.heap.size w w') : FrAns k s w (.returned (.tuple #[.string q, .int .i64 0])) w' := ⟨by rw [h, hq]; rfl, hb⟩

set_option maxRecDepth 100000 in
set_option maxHeartbeats 2000000 in
theorem oframe_any (k : Int) (s : ByteArray) (w : World) :
    Calls Tryz.prog 99 #[.agg #[.int .i64 k, .string s]] w (FrAns k s w) := by
  have HR := Lib.hid (fun w => oright_any k s w)
  have HB0 : Hid (∀ o, Below w.heap.size w (w.alloc o)) := Lib.hid (fun o => (Below.refl _ _).alloc (Nat.le_refl _) _)
  cases hr : rightOb ⟨k, s⟩ with
  | false =>
    have HRB := Lib.hid hr
    rw [hr] at HR
    clear hr
    go_enter Tryz.func99, Tryz.ntmps99
    go_wp2_with fail
    refine (HR.out _).mono ?_
    rintro e w1 ⟨rfl, hb⟩
    have HB := Lib.hid ((HB0.out _).trans (hb.mono (HB0.out _).size))
    clear hb
    go_wp2
    go_ret2
    exact frAns_no HRB.out HB.out
  | true =>
    obtain ⟨hk, hs⟩ := rightOb_kind hr
    have HRB := Lib.hid hr
    rw [hr] at HR
    clear hr
    dsimp only at hk hs
    obtain ⟨n, rfl, hn⟩ : ∃ n : Nat, k = (n : Int) ∧ (n = 1 ∨ n = 2 ∨ n = 3) := ⟨k.toNat, by omega, by omega⟩
    have hls := fun w => letter_slice n hn w
    have k0 : (0 : Int) ≤ n := by omega
    have k3 : (n : Int) ≤ 3 := by omega
    clear hk hn
    go_enter Tryz.func99, Tryz.ntmps99
    go_wp2_with fail
    refine (HR.out _).mono ?_
    rintro e w1 ⟨rfl, hb⟩
    have hsz1 : w.heap.size < w1.heap.size := by have := hb.size; simp at this; omega
    have c0 : w1.cell? ⟨w.heap.size, 0, none⟩ = some (.int .i64 n) := by rw [hb.cell (p := ⟨w.heap.size, 0, none⟩) (by simp), World.cell?_alloc_new]; rfl
    have c1 : w1.cell? ⟨w.heap.size, 1, none⟩ = some (.string s) := by rw [hb.cell (p := ⟨w.heap.size, 1, none⟩) (by simp), World.cell?_alloc_new]; rfl
    have HB := Lib.hid ((HB0.out _).trans (hb.mono (HB0.out _).size))
    clear hb
    go_wp2_with fail
    generalize hlt : letterOf (n : Int) = lt
    have hz1 : (ofB [lt]).size = 1 := by rw [ofB_size]; rfl
    have hd1 : (ofB [lt]).data.toList = [lt] := by rw [ofB_data]
    have hW0 : Wr w1.heap.size w1.heap.size [] ((w1.alloc (.cells #[.pointer none, .slice none 0 0] 166)).alloc (.cells #[.string (ofB [lt])] 9)) :=
      Wr.below (Lib.fresh_isBuilder 166 5 w1) ((Below.refl _ _).alloc (Nat.le_refl _) _)
    have hBB : Below w1.heap.size w1 ((w1.alloc (.cells #[.pointer none, .slice none 0 0] 166)).alloc (.cells #[.string (ofB [lt])] 9)) := ((Below.refl _ _).alloc (Nat.le_refl _) _).alloc (by simp) _
    have hcg : ((w1.alloc (.cells #[.pointer none, .slice none 0 0] 166)).alloc (.cells #[.string (ofB [lt])] 9)).cell? ⟨w1.heap.size + 1, 0, none⟩ = some (.string (ofB [lt])) := by
      have := World.cell?_alloc_new (w1.alloc (.cells #[.pointer none, .slice none 0 0] 166)) #[.string (ofB [lt])] 9 0
      rw [World.size_alloc] at this
      rw [this]; rfl
    have hRW := wwraw_any w1.heap.size w1.heap.size [] (w1.heap.size + 1) (ofB [lt]) _ hW0 hcg (by rw [hz1]; simp) hBB.size
    rw [hd1, List.nil_append] at hRW
    have HBB := Lib.hid hBB
    have HLT := Lib.hid hlt
    clear hlt hz1 hd1 hW0 hBB hcg
    refine hRW.mono ?_
    rintro e w2 ⟨rfl, hW2, hb2⟩
    have HB2 := Lib.hid (HBB.out.trans hb2)
    have c2 : w2.cell? ⟨w.heap.size, 1, none⟩ = some (.string s) := below_load c1 HB2.out hsz1
    have HW2 := Lib.hid hW2
    have hs2 := HB2.out.size
    clear hRW hW2 hb2 HBB hls c0 c1
    go_wp2_with fail
    have hBB2 : Below w2.heap.size w2 (w2.alloc (.cells #[.string s] 9)) := (Below.refl _ _).alloc (Nat.le_refl _) _
    have hTX := wwtext_any w1.heap.size w1.heap.size [lt] w2.heap.size s _ (HW2.out.below hBB2) (by rw [World.cell?_alloc_new]; rfl) (by omega) (by simp) (by have := hBB2.size; omega)
    have HBB2 := Lib.hid hBB2
    clear hBB2
    refine hTX.mono ?_
    rintro e w3 ⟨rfl, hW3, hb3⟩
    have HB3 := Lib.hid ((HB2.out.trans (HBB2.out.mono hs2)).trans hb3)
    have hST := wwout_any w1.heap.size w1.heap.size _ w3 hW3 (by simp)
    clear hTX hW3 hb3 c2
    go_wp2_with fail
    refine hST.mono ?_
    rintro e w4 ⟨rfl, hb4⟩
    have HB4 := Lib.hid (HB.out.trans ((HB3.out.trans hb4).mono HB.out.size))
    clear hST hb4
    go_wp2
    go_ret2
    exact frAns_yes HRB.out (by unfold frameL; rw [HLT.out]) HB4.out
theorem id_zeroC : (∀ w, (zeroValue 24).run Tryz.prog w = .ok (.agg (idC zid).toArray) w) ∧ ∀ w, (Instr.build 24 #[]).run Tryz.prog w = .ok (.agg (idC zid).toArray) w :=
  ⟨fun w => by kernel_rfl, fun w => run_build w 24 #[] _ (by kernel_rfl)⟩
def IdAns (k : Int) (s : ByteArray) (w : World) (e : Ending) (w' : World) : Prop := e = .returned (.tuple #[.agg (idC (if rightOb ⟨k, s⟩ = true then idO ⟨k, s⟩ else zid)).toArray, .bool (rightOb ⟨k, s⟩)]) ∧ Below w.heap.size w w'
theorem idAns_no {k : Int} {s : ByteArray} {w w' : World} (h : rightOb ⟨k, s⟩ = false) (hb : Below w.heap.size w w') : IdAns k s w (.returned (.tuple #[.agg (idC zid).toArray, .bool false])) w' := ⟨by rw [h]; rfl, hb⟩
theorem idAns_yes {k : Int} {s : ByteArray} {x : List UInt8} {w w' : World} (h : rightOb ⟨k, s⟩ = true) (hq : x = idO ⟨k, s⟩) (hb : Below w.heap.size w w') : IdAns k s w (.returned (.tuple #[.agg (idC x).toArray, .bool true])) w' := ⟨by rw [h, hq]; rfl, hb⟩

set_option maxRecDepth 100000 in
set_option maxHeartbeats 2000000 in
theorem oid_any (k : Int) (s : ByteArray) (w : World) (hL : Laid w) :
    Calls Tryz.prog 56 #[.agg #[.int .i64 k, .string s]] w (IdAns k s w) := by
  obtain ⟨hz, hbu⟩ := id_zeroC
  have hcl : (idC zid).length = 32 := by rw [idC_len, zid_len]
  have HR := Lib.hid (fun w => oframe_any k s w)
  have hon := idC_one zid
  have HNA : Hid (∀ w', rightOb ⟨k, s⟩ = false → Below w.heap.size w w' → IdAns k s w (.returned (.tuple #[.agg (idC zid).toArray, .bool false])) w') := Lib.hid (fun w' h hb => idAns_no h hb)
  generalize idC zid = cz at hz hbu hcl hon HNA
  obtain ⟨W0, hW0⟩ : ∃ W0, W0 = (w.alloc (.cells #[.int .i64 k, .string s] 93)).alloc (.cells cz.toArray 24) := ⟨_, rfl⟩
  have hA : W0.there (w.heap.size + 1) 0 32 := by
    have := (Arr.ofList (w.alloc (.cells #[.int .i64 k, .string s] 93)) cz 24).there
    rw [World.size_alloc, hcl] at this; rw [hW0]; exact this
  have hB0 : Below w.heap.size w W0 := by rw [hW0]; exact ((Below.refl _ _).alloc (Nat.le_refl _) _).alloc (by simp) _
  have hs0 : W0.heap.size = w.heap.size + 1 + 1 := by rw [hW0]; simp
  have h32 : (Tryz.prog.info? 24).map (·.size) = some 32 := by kernel_rfl
  have h32z : (Tryz.prog.info? 24).map (·.size) = some cz.length := by rw [hcl]; exact h32
  have HB0 := Lib.hid hB0
  have HS0 := Lib.hid hs0
  have HCL := Lib.hid hcl
  have HON := Lib.hid hon
  have HL := Lib.hid (hL.below hB0)
  -- behind the frame
  have HNO : Hid (∀ w1, Below W0.heap.size W0 w1 → w1.there (w.heap.size + 1) 0 32) := Lib.hid (fun w1 hb => there_below hA hb (by rw [hs0]; omega))
  have HST : Hid (∀ w1 cs, cs.length = 32 → Below W0.heap.size W0 w1 → (w1.setCells (w.heap.size + 1) 0 cs).rangeAt (w.heap.size + 1) 0 cs ∧ Below w.heap.size w (w1.setCells (w.heap.size + 1) 0 cs)) := Lib.hid (fun w1 cs hl hb => 
    ⟨World.rangeAt_setCells_same w1 _ 0 _ (by rw [hl]; exact HNO.out w1 hb), below_setCells _ (by omega) _ _ _ (HB0.out.trans (hb.mono HB0.out.size))⟩)
  clear hB0 hA hs0 hcl hon hL
  cases hr : rightOb ⟨k, s⟩ with
  | false =>
    have HRB := Lib.hid hr
    clear hr
    go_enter Tryz.func56, Tryz.ntmps56
    go_wp2_with fail
    rw [← hW0]
    clear hW0
    refine (HR.out _).mono ?_
    intro e w1 h
    obtain ⟨rfl, hb⟩ := h
    rw [HRB.out]
    have HB := Lib.hid hb
    clear hb
    rw [if_neg (show ¬ (false = true) by simp), show okI false = 1 from rfl]
    go_wp2_with (refine wpList_store_list rfl 24 _ _ rfl (w.heap.size + 1) 0 cz rfl rfl 32 HCL.out (HNO.out _ HB.out) h32 HON.out ?_)
    refine ret_cell2 rfl (w.heap.size + 1) 0 rfl _ _ (HST.out _ cz HCL.out HB.out).1 Tryz.underlying24 rfl h32z rfl _ rfl (HNA.out _ HRB.out (HST.out _ cz HCL.out HB.out).2)
  | true =>
    have HRB := Lib.hid hr
    have hfz : (ofB (frameL ⟨k, s⟩)).size ≤ 1000000000 := by
      rw [ofB_size]; unfold frameL
      have := (rightOb_kind hr).2
      have h6 := numB_le6 (n := s.size) (by dsimp only at this; omega)
      simp at *; omega
    clear hr
    go_enter Tryz.func56, Tryz.ntmps56
    go_wp2_with fail
    rw [← hW0]
    clear hW0
    refine (HR.out _).mono ?_
    intro e w1 h
    obtain ⟨rfl, hb⟩ := h
    rw [HRB.out]
    have HB := Lib.hid hb
    have HL1 := Lib.hid (HL.out.below hb)
    clear hb
    rw [if_pos rfl, show okI true = 0 from rfl]
    have hix : shaP (ofB (frameL ⟨k, s⟩)) = idO ⟨k, s⟩ := sha_eq _
    have hil := idO_len ⟨k, s⟩
    generalize ofB (frameL ⟨k, s⟩) = q at hfz hix
    have hDS := fun (W : World) (hL : Laid W) (p : Nat) (hc : W.cell? ⟨p, 0, none⟩ = some (.string q)) => dsum_any p 0 1 q W hc hL hfz
    rw [hix] at hDS
    have HDS := Lib.hid hDS
    have HFY : Hid (∀ w', Below w.heap.size w w' → IdAns k s w (.returned (.tuple #[.agg (idC (idO ⟨k, s⟩)).toArray, .bool true])) w') := Lib.hid (fun w' hb => idAns_yes HRB.out rfl hb)
    clear hDS hix
    go_wp2_with fail
    refine (HDS.out _ (HL1.out.below ((Below.refl _ _).alloc (Nat.le_refl _) _)) _ (by rw [World.cell?_alloc_new]; rfl)).mono ?_
    rintro e w2 ⟨rfl, hb2⟩
    have HB2 := Lib.hid (HB.out.trans ((((Below.refl _ _).alloc (Nat.le_refl _) _).trans (hb2.mono (by simp))).mono HB.out.size))
    clear hb2
    have hdv : idV (idO ⟨k, s⟩) = .agg (idC (idO ⟨k, s⟩)).toArray := rfl
    rw [hdv]
    clear hdv
    have hcx : (idC (idO ⟨k, s⟩)).length = 32 := by rw [idC_len, hil]
    have hox := idC_one (idO ⟨k, s⟩)
    generalize idC (idO ⟨k, s⟩) = cx at hcx hox HFY
    have h32x : (Tryz.prog.info? 24).map (·.size) = some cx.length := by rw [hcx]; exact h32
    have HCX := Lib.hid hcx
    have HOX := Lib.hid hox
    clear hcx hox hil
    go_wp2_with (refine wpList_store_list rfl 24 _ _ rfl (w.heap.size + 1) 0 cx rfl rfl 32 HCX.out (HNO.out _ HB2.out) h32 HOX.out ?_)
    refine ret_cell2 rfl (w.heap.size + 1) 0 rfl _ _ (HST.out _ cx HCX.out HB2.out).1 Tryz.underlying24 rfl h32x rfl _ rfl (HFY.out _ (HST.out _ cx HCX.out HB2.out).2)
end Go.Proofs.YtbmiiiccnoiffaaGreatDoor
