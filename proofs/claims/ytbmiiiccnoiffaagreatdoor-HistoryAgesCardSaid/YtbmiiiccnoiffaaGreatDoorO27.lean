/- YtbmiiiccnoiffaaGreatDoorO27: texts Y5 of this claim, in one. -/
import Derived.Test.YtbmiiiccnoiffaaGreatDoorO23
import Derived.Test.YtbmiiiccnoiffaaGreatDoorO26
namespace Go.Proofs.YtbmiiiccnoiffaaGreatDoor
open Go.RowKit

/-- The cells of a reader of bodies: its reader, no entries, its commit. -/
def bodyF (rb : Nat) (t : List UInt8) (v : Value) (x : ByteArray) (k : Nat) : Value := if k = 0 then .pointer (some ⟨rb, 0, none⟩) else if k = 1 then .slice none 0 0 else cmF t v x (k - 2)
theorem bodyF_lo (rb : Nat) (t : List UInt8) (v : Value) (x : ByteArray) {k : Nat} (h : 2 ≤ k) : bodyF rb t v x k = cmF t v x (k - 2) := by unfold bodyF; rw [if_neg (by omega), if_neg (by omega)]
theorem bodyF_t {rb : Nat} {t d : List UInt8} (h : t.length = 32) (hd : d.length = 32) (v : Value) (x : ByteArray) : ∀ k, k < 36 → (if 2 ≤ k ∧ k < 2 + (idC d).length then (idC d).getD (k - 2) undef else bodyF rb t v x k) = bodyF rb d v x k := by
  intro k hk
  have hl : (idC d).length = 32 := by rw [idC_len, hd]
  by_cases h2 : 2 ≤ k
  · rw [bodyF_lo rb t v x h2, bodyF_lo rb d v x h2]
    have := cmF_t h hd v x (k - 2) (by omega)
    rw [← this]
    by_cases h3 : k < 2 + (idC d).length
    · rw [if_pos ⟨h2, h3⟩, if_pos ⟨by omega, by omega⟩]; rfl
    · rw [if_neg (fun h => h3 h.2), if_neg (fun h => h3 (by omega))]
  · rw [if_neg (fun h => h2 h.1)]
    obtain h0 | h0 : k = 0 ∨ k = 1 := by omega
    all_goals subst h0; rfl
theorem bodyF_v {rb : Nat} {t : List UInt8} (h : t.length = 32) (v u : Value) (x : ByteArray) : ∀ k, k < 36 → upd (bodyF rb t v x) 34 u k = bodyF rb t u x k := by
  intro k hk
  by_cases h2 : 2 ≤ k
  · have := cmF_v h v u x (k - 2) (by omega)
    rw [bodyF_lo rb t u x h2, ← this]
    unfold upd
    by_cases h3 : k = 34
    · subst h3; simp
    · rw [if_neg h3, if_neg (show ¬ k - 2 = 32 by omega), bodyF_lo rb t v x h2]
  · obtain h0 | h0 : k = 0 ∨ k = 1 := by omega
    all_goals subst h0; rfl
theorem bodyF_x {rb : Nat} {t : List UInt8} (h : t.length = 32) (v : Value) (x y : ByteArray) : ∀ k, k < 36 → upd (bodyF rb t v x) 35 (.string y) k = bodyF rb t v y k := by
  intro k hk
  by_cases h2 : 2 ≤ k
  · have := cmF_x h v x y (k - 2) (by omega)
    rw [bodyF_lo rb t v y h2, ← this]
    unfold upd
    by_cases h3 : k = 35
    · subst h3; simp
    · rw [if_neg h3, if_neg (show ¬ k - 2 = 33 by omega), bodyF_lo rb t v x h2]
  · obtain h0 | h0 : k = 0 ∨ k = 1 := by omega
    all_goals subst h0; rfl
theorem bodyF_34 {t : List UInt8} (rb : Nat) (h : t.length = 32) (v : Value) (x : ByteArray) : bodyF rb t v x 34 = v := by rw [bodyF_lo rb t v x (by omega)]; exact cmF_32 h v x
theorem bodyF_row {w : World} {b rb : Nat} {t : List UInt8} {v : Value} {x : ByteArray} (h : t.length = 32) (hA : Arr w b 36 (bodyF rb t v x)) : w.rangeAt b 2 (cmC t v x) := by
  intro j u hu
  have hj : j < 34 := by
    have := (List.getElem?_eq_some_iff.1 hu).1
    rwa [cmC_len _ _ _ h] at this
  rw [hA.cell (2 + j) (by omega), bodyF_lo rb t v x (by omega), Nat.add_sub_cancel_left]
  have e := cmF_list h v x
  rw [← e, List.getElem?_map, List.getElem?_range hj] at hu
  exact hu

/-- A row's load behind a guard. -/
theorem wpList_load_midG {P : Program} {ops : Array Oper} {rest : List Oper} {op : Oper} {a : Act} {w : World} {Q : Exit → Act → World → Prop} (hw : Region.wanted op (yielded ops a.tmps) = true) (ty : TypeId) (x : Operand) (ho : op.op = .load ty x)
    (b o : Nat) (hx : a.eval x = .pointer (some ⟨b, o, none⟩)) (cs : List Value) (d : TypeDesc) (hc : w.rangeAt b o cs) (hu : P.underlying ty = some d) (hd : d.isRow = true) (hi : (P.info? ty).map (·.size) = some cs.length)
    (h : wpList P ops Q rest (a.put op.dst (.agg cs.toArray)) w) : wpList P ops Q (op :: rest) a w := by
  simp only [wpList]
  rw [if_pos hw]
  exact .inl (wp_load_mid ty x ho b o hx cs d hc hu hd hi h)
theorem own_cap {w : World} {B : Nat} {e : TypeId} {sz : Nat} {v : Value} {n : Nat} {xs : List Value} (h : w.ownsRow B e sz v n xs) : CapI v := by
  intro ao m c hv
  rcases h.2 with ⟨h1, _⟩ | ⟨g, cap, cur, h1, _, _, h4, _⟩
  · rw [h1] at hv; cases hv; exact Nat.le_refl _
  · rw [h1] at hv; cases hv; exact h4

set_option maxRecDepth 100000 in
set_option maxHeartbeats 8000000 in
theorem ocommitbody_any (B rb b : Nat) (s : ByteArray) (w : World) (hr : Arr w rb 3 (rd0 s).c) (hb : Arr w b 36 (bodyF rb zid (.slice none 0 0) ⟨#[]⟩)) (hrb : B ≤ rb) (hbb : B ≤ b) (hne : rb ≠ b) (hs : s.size ≤ 100000) :
    Calls Tryz.prog 186 #[.pointer (some ⟨b, 0, none⟩)] w fun e w' => e = .returned (.bool (commitOf s).isSome) ∧ ((commitOf s).isSome = true → ∃ t v l x, commitOf s = some (t, l, x) ∧ w'.rangeAt b 2 (cmC t v x) ∧ FreshV w v ∧ IdRow w' v l) ∧ Below B w w' := by
  obtain ⟨zi, i0, hi, hz0, hz1, hz2, hziv, hzil⟩ := id_zero
  have HZI := Lib.hid hzil
  clear hzil
  have hrl := hr.lt (by omega)
  have hbl := hb.lt (by omega)
  have c0 : w.cell? ⟨b, 0, none⟩ = some (.pointer (some ⟨rb, 0, none⟩)) := hb.cell 0 (by omega)
  have HC := Lib.hid hb
  have hfd := Lib.hid (rd0_fine s (show s.size ≤ 1000000 by omega))
  have HID := Lib.hid (wid_any rb (rd0 s) w hr hfd.out)
  have hf0 := Lib.hid ((rd0 s).id_fine hfd.out)
  have HTL : Hid ((rd0 s).id.2.length = 32) := Lib.hid (idOf_len _)
  have HCM : Hid ((rd0 s).commit = ((((((rd0 s).id.1.num 4).1.ids ((rd0 s).id.1.num 4).2).1.text 64).1, (rd0 s).id.2, (((rd0 s).id.1.num 4).1.ids ((rd0 s).id.1.num 4).2).2, ((((rd0 s).id.1.num 4).1.ids ((rd0 s).id.1.num 4).2).1.text 64).2))) := Lib.hid rfl
  have HCO : Hid (commitOf s = if (rd0 s).commit.1.fin = 0 ∧ commitOk (rd0 s).commit.2 = true then some (rd0 s).commit.2 else none) := Lib.hid rfl
  have HCF := Lib.hid ((rd0 s).commit_fine hfd.out)
  generalize (rd0 s).commit = cm at HCM HCO HCF
  generalize (rd0 s).id = x0 at HID hf0 HTL HCM
  obtain ⟨r0, t⟩ := x0
  dsimp only at HID hf0 HTL HCM
  clear hr hb
  go_enter Tryz.func186, Tryz.ntmps186
  go_wp2_with fail
  refine HID.out.mono ?_
  rintro e w1 ⟨rfl, hB1, hg1⟩
  have hdl : (idC t).length = 32 := by rw [idC_len, HTL.out]
  have hC1 := HC.out.grown hg1 (by omega)
  have hth : w1.there b 2 32 := fun j hj => ⟨by rw [hC1.cell _ (by omega)]; rfl, hC1.free _ (by omega)⟩
  have HTH := Lib.hid hth
  have HB1 := Lib.hid (hB1.farSets (B := b) (by omega) (idC t) 2)
  have HC1 := Lib.hid ((hC1.setCells 2 (idC t) (by omega)).congr (bodyF_t zid_len HTL.out _ _))
  have HBL1 := Lib.hid (below_setCells (B := B) (a := w) b hbb (idC t) 2 w1 ((Below.refl B w).grown hg1 (by omega) (fun k hk => by cases hk; omega)))
  have HDL := Lib.hid hdl
  have HDO := Lib.hid (idC_one t)
  have h32 : (Tryz.prog.info? 24).map (·.size) = some 32 := by kernel_rfl
  clear hB1 hC1 hg1 hth hdl HC HID c0
  have hdv : idV t = .agg (idC t).toArray := rfl
  rw [hdv]
  clear hdv
  generalize hus : idC t = us at HB1 HC1 HBL1 HDL HDO
  clear hus
  have HT1 := Lib.hid (show TS B rb b 36 w.heap.size 24 32 w r0.c (bodyF rb t (.slice none 0 0) ⟨#[]⟩) (.slice none 0 0) 0 (idsF []) (w1.setCells b 2 us) from ⟨HB1.out, HC1.out, World.ownsRow_nil _ _ _ _, HBL1.out⟩)
  clear HB1 HC1 HBL1
  have c2 : (w1.setCells b 2 us).cell? ⟨b, 0, none⟩ = some (.pointer (some ⟨rb, 0, none⟩)) := HT1.out.f.cell 0 (by omega)
  have HNU := Lib.hid (fun W (hA : Arr W rb 3 r0.c) => wnum_any rb r0 4 W hA hf0.out (by omega))
  have hnf := Lib.hid (Rd.num_fine r0 4 hf0.out)
  generalize r0.num 4 = x1 at HNU hnf HCM
  obtain ⟨r1, n⟩ := x1
  dsimp only at HNU hnf HCM
  have hn4 : n ≤ 4 := hnf.out.2
  have hf1 := Lib.hid hnf.out.1
  go_wp2_with (refine wpList_store_list rfl 24 _ _ rfl b 2 us rfl rfl 32 HDL.out HTH.out h32 HDO.out ?_)
  refine (HNU.out _ HT1.out.a).mono ?_
  rintro e w3 ⟨rfl, hA3, hg3⟩
  have HT3 := Lib.hid (HT1.out.read hA3 hg3 hne hrb hrl)
  clear hA3 hg3 HT1 HNU hnf c2 HTH
  go_wp2
  have HL : Hid (∀ k, ((r1.ids k).2).length = k) := Lib.hid (fun k => Rd.ids_len k r1)
  go_loopw [17] (fun i wr => ∃ (k : Nat) (v : Value), k ≤ n ∧ i = .int .i64 k ∧ Hid (TS B rb b 36 w.heap.size 24 32 w (r1.ids k).1.c (bodyF rb t v ⟨#[]⟩) v k (idsF (r1.ids k).2) wr)) (fun i _ => (n - intOf i).toNat)
  case atStart => exact ⟨0, .slice none 0 0, by omega, rfl, HT3⟩
  case round =>
    obtain ⟨wo, rfl⟩ : ∃ wo : World, wo = wr := ⟨_, rfl⟩
    obtain ⟨k, v, hk, rfl, T⟩ := hrel
    obtain ⟨co, cc, rfl⟩ := own_form T.out.o
    by_cases hlt : k < n
    · have d1 : decide ((k : Int) < n) = true := decide_eq_true (by omega)
      have d2 : decide (k < n) = true := decide_eq_true hlt
      have TD := Lib.hid (T.out.below (Below.refl _ _).drew (by omega) hrb)
      have hS0 : wo.drew.cell? ⟨b, 0, none⟩ = some (.pointer (some ⟨rb, 0, none⟩)) ∧ wo.drew.cell? ⟨b, 34, none⟩ = some (.slice co k cc) :=
        ⟨TD.out.f.cell 0 (by omega), by rw [TD.out.f.cell 34 (by omega), bodyF_34 rb HTL.out]⟩
      have HI := Lib.hid (wid_any rb (r1.ids k).1 wo.drew TD.out.a (Rd.ids_fine k r1 hf1.out))
      have HSN := Lib.hid (Rd.ids_snoc k r1)
      clear T
      go_wp2
      refine wp_region_L 16 (fun w' => w'.cell? ⟨b, 0, none⟩ = some (.pointer (some ⟨rb, 0, none⟩)) ∧ w'.cell? ⟨b, 34, none⟩ = some (.slice co k cc)) (by kernel_rfl) (by kernel_rfl) ?_
      refine WL.take (i := 0) (v := ?_) rfl (by kernel_rfl) (by decide) (by decide +kernel) (by decide +kernel) (fun _ _ _ h => h) rfl ?_ hS0 ?_
      rotate_left
      · (intro w' hSw; (try dsimp only at hSw); go_simp; (try with_reducible rfl))
      simp only [Act.put]; (try simp only [List.getElem_toArray]); (try simp only [List.getElem_cons_succ]); (try simp only [List.getElem_cons_zero]); (try simp only [List.setIfInBounds_toArray]); (try simp only [List.set_cons_succ]); (try simp only [List.set_cons_zero])
      refine WL.take (i := 1) (v := ?_) rfl (by kernel_rfl) (by decide) (by decide +kernel) (by decide +kernel) (fun _ _ _ h => h) rfl ?_ hS0 ?_
      rotate_left
      · (intro w' hSw; (try dsimp only at hSw); go_simp; (try with_reducible rfl))
      simp only [Act.put]; (try simp only [List.getElem_toArray]); (try simp only [List.getElem_cons_succ]); (try simp only [List.getElem_cons_zero]); (try simp only [List.setIfInBounds_toArray]); (try simp only [List.set_cons_succ]); (try simp only [List.set_cons_zero])
      refine WL.take (i := 2) (v := ?_) rfl (by kernel_rfl) (by decide) (by decide +kernel) (by decide +kernel) (fun _ _ _ h => h) rfl ?_ hS0 ?_
      rotate_left
      · (intro w' hSw; (try dsimp only at hSw); go_simp; (try with_reducible rfl))
      simp only [Act.put]; (try simp only [List.getElem_toArray]); (try simp only [List.getElem_cons_succ]); (try simp only [List.getElem_cons_zero]); (try simp only [List.setIfInBounds_toArray]); (try simp only [List.set_cons_succ]); (try simp only [List.set_cons_zero])
      refine WL.take (i := 3) (v := ?_) rfl (by kernel_rfl) (by decide) (by decide +kernel) (by decide +kernel) (fun _ _ _ h => h) rfl ?_ hS0 ?_
      rotate_left
      · (intro w' hSw; (try dsimp only at hSw); go_simp; (try with_reducible rfl))
      simp only [Act.put]; (try simp only [List.getElem_toArray]); (try simp only [List.getElem_cons_succ]); (try simp only [List.getElem_cons_zero]); (try simp only [List.setIfInBounds_toArray]); (try simp only [List.set_cons_succ]); (try simp only [List.set_cons_zero])
      refine WL.take (i := 4) (v := ?_) rfl (by kernel_rfl) (by decide) (by decide +kernel) (by decide +kernel) (fun _ _ _ h => h) rfl ?_ hS0 ?_
      rotate_left
      · (intro w' hSw; (try dsimp only at hSw); go_simp; (try with_reducible rfl))
      simp only [Act.put]; (try simp only [List.getElem_toArray]); (try simp only [List.getElem_cons_succ]); (try simp only [List.getElem_cons_zero]); (try simp only [List.setIfInBounds_toArray]); (try simp only [List.set_cons_succ]); (try simp only [List.set_cons_zero])
      refine WL.take (i := 5) (v := ?_) rfl (by kernel_rfl) (by decide) (by decide +kernel) (by decide +kernel) (fun _ _ _ h => h) rfl ?_ hS0 ?_
      rotate_left
      · (intro w' hSw; (try dsimp only at hSw); go_simp; (try with_reducible rfl))
      simp only [Act.put]; (try simp only [List.getElem_toArray]); (try simp only [List.getElem_cons_succ]); (try simp only [List.getElem_cons_zero]); (try simp only [List.setIfInBounds_toArray]); (try simp only [List.set_cons_succ]); (try simp only [List.set_cons_zero])
      refine WL.take (i := 6) (v := ?_) rfl (by kernel_rfl) (by decide) (by decide +kernel) (by decide +kernel) (fun _ _ _ h => h) rfl ?_ hS0 ?_
      rotate_left
      · (intro w' hSw; (try dsimp only at hSw); go_simp; (try with_reducible rfl))
      simp only [Act.put]; (try simp only [List.getElem_toArray]); (try simp only [List.getElem_cons_succ]); (try simp only [List.getElem_cons_zero]); (try simp only [List.setIfInBounds_toArray]); (try simp only [List.set_cons_succ]); (try simp only [List.set_cons_zero])
      refine WL.take (i := 7) (v := ?_) rfl (by kernel_rfl) (by decide) (by decide +kernel) (by decide +kernel) (fun _ _ _ h => h) rfl ?_ hS0 ?_
      rotate_left
      · (intro w' hSw; (try dsimp only at hSw); go_simp; (try with_reducible rfl))
      simp only [Act.put]; (try simp only [List.getElem_toArray]); (try simp only [List.getElem_cons_succ]); (try simp only [List.getElem_cons_zero]); (try simp only [List.setIfInBounds_toArray]); (try simp only [List.set_cons_succ]); (try simp only [List.set_cons_zero])
      refine WL.take (i := 8) (v := ?_) rfl (by kernel_rfl) (by decide) (by decide +kernel) (by decide +kernel) (fun _ _ _ h => h) rfl ?_ hS0 ?_
      rotate_left
      · (intro w' hSw; (try dsimp only at hSw); go_simp; (try with_reducible rfl))
      simp only [Act.put]; (try simp only [List.getElem_toArray]); (try simp only [List.getElem_cons_succ]); (try simp only [List.getElem_cons_zero]); (try simp only [List.setIfInBounds_toArray]); (try simp only [List.set_cons_succ]); (try simp only [List.set_cons_zero])
      refine WL.take (i := 9) (v := ?_) rfl (by kernel_rfl) (by decide) (by decide +kernel) (by decide +kernel) (fun _ _ _ h => h) rfl ?_ hS0 ?_
      rotate_left
      · (intro w' hSw; (try dsimp only at hSw); go_simp; (try with_reducible rfl))
      simp only [Act.put]; (try simp only [List.getElem_toArray]); (try simp only [List.getElem_cons_succ]); (try simp only [List.getElem_cons_zero]); (try simp only [List.setIfInBounds_toArray]); (try simp only [List.set_cons_succ]); (try simp only [List.set_cons_zero])
      refine WL.one (i := 10) rfl (by decide) (by decide +kernel) ?_
      go_wp2_with fail
      refine HI.out.mono ?_
      rintro e w3 ⟨rfl, hA3, hg3⟩
      have T3 := Lib.hid (TD.out.read hA3 hg3 hne hrb hrl)
      have hS3 : w3.cell? ⟨b, 0, none⟩ = some (.pointer (some ⟨rb, 0, none⟩)) ∧ w3.cell? ⟨b, 34, none⟩ = some (.slice co k cc) :=
        ⟨T3.out.f.cell 0 (by omega), by rw [T3.out.f.cell 34 (by omega), bodyF_34 rb HTL.out]⟩
      have HS3 := Lib.hid hS3
      have hdk : (idC (r1.ids k).1.id.2).length = 32 := by rw [idC_len]; exact idOf_len _
      have hone := idC_one (r1.ids k).1.id.2
      have hdv : idV (r1.ids k).1.id.2 = .agg (idC (r1.ids k).1.id.2).toArray := rfl
      rw [hdv]
      clear hdv
      have HUK : Hid (idsF (r1.ids (k + 1)).2 = idsF (r1.ids k).2 ++ idC (r1.ids k).1.id.2) := by unfold Hid; rw [HSN.out]; exact idsF_snoc _ _
      have HRK : Hid ((r1.ids (k + 1)).1 = (r1.ids k).1.id.1) := by unfold Hid; rw [HSN.out]
      clear hA3 hg3 hS3 HI HSN TD hS0
      generalize idC (r1.ids k).1.id.2 = uk at hdk hone HUK
      have HDK := Lib.hid hdk
      have HON2 := Lib.hid hone
      have HSZC : Hid (∀ w, (sizeOf 24).run Tryz.prog w = .ok uk.length w) := Lib.hid (fun w => by rw [HDK.out]; kernel_rfl)
      clear hdk hone
      go_wp2
      refine ⟨HS3.out, ?_⟩
      refine WL.one (i := 11) rfl (by decide) (by decide +kernel) ?_
      refine wpList_buildSlice_one rfl (.tmp 29) 28 24 rfl uk zi rfl Tryz.underlying28 HSZC.out hziv (by rw [HDK.out]; omega) (by rw [HDK.out]; omega) ?_
      simp only [Act.put]; (try simp only [List.getElem_toArray]); (try simp only [List.getElem_cons_succ]); (try simp only [List.getElem_cons_zero]); (try simp only [List.setIfInBounds_toArray]); (try simp only [List.set_cons_succ]); (try simp only [List.set_cons_zero])
      have hlt3 := T3.out.lt
      have hown0 := T3.out.o.lt
      have T8a := T3.out.a.alloc (by omega) (.cells uk.toArray 24)
      have T8f := T3.out.f.alloc (by omega) (.cells uk.toArray 24)
      have T8o := T3.out.o.alloc (.cells uk.toArray 24)
      have T8b := T3.out.bl.alloc (by have := T3.out.lt; omega) (.cells uk.toArray 24)
      have S8 : (w3.alloc (.cells uk.toArray 24)).cell? ⟨b, 0, none⟩ = some (.pointer (some ⟨rb, 0, none⟩)) ∧ (w3.alloc (.cells uk.toArray 24)).cell? ⟨b, 34, none⟩ = some (.slice co k cc) :=
        ⟨T8f.cell 0 (by omega), by rw [T8f.cell 34 (by omega), bodyF_34 rb HTL.out]⟩
      refine ⟨S8, ?_⟩
      refine WL.one (i := 12) rfl (by decide) (by decide +kernel) ?_
      refine wpList_append_own _ rfl (.tmp 24) (.tmp 30) 28 rfl w.heap.size 24 i0 (.agg zi) 32 32 Tryz.underlying28 hi hz0 hz1 hz2 HZI.out (by decide) _ k (idsF (r1.ids k).2) rfl T8o ⟨w3.heap.size, 0, none⟩ 1 1 uk rfl HDK.out (fun j u hj => cells_newL _ uk _ j u hj) HON2.out (by unfold maxLen; omega) (by omega) (by rw [World.size_alloc]; have := T3.out.bl.size; omega) ?_
      intro v' w5 hown5 hg5 _
      obtain ⟨co5, cc5, rfl⟩ := own_form hown5
      have T5a := T8a.grownV hg5 (fun e => by have := (hown0 _ e).1; omega)
      have T5f := T8f.grownV hg5 (fun e => by have := (hown0 _ e).1; omega)
      have T5b := T8b.grown hg5 (by rw [World.size_alloc]; have := T3.out.lt; omega) (fun j hj => by have := (hown0 j hj).1; omega)
      have S5 : w5.cell? ⟨b, 0, none⟩ = some (.pointer (some ⟨rb, 0, none⟩)) ∧ w5.cell? ⟨b, 34, none⟩ = some (.slice co k cc) :=
        ⟨T5f.cell 0 (by omega), by rw [T5f.cell 34 (by omega), bodyF_34 rb HTL.out]⟩
      have HNE5 := Lib.hid (own_ne hown5 hbl)
      have f5 := T5f.free 34 (by omega)
      have HA5 := Lib.hid T5a
      have HF5 := Lib.hid T5f
      have HB5 := Lib.hid T5b
      have HO5 := Lib.hid hown5
      have HS5 := Lib.hid S5
      simp only [Act.put]; (try simp only [List.getElem_toArray]); (try simp only [List.getElem_cons_succ]); (try simp only [List.getElem_cons_zero]); (try simp only [List.setIfInBounds_toArray]); (try simp only [List.set_cons_succ]); (try simp only [List.set_cons_zero])
      refine ⟨S5, ?_⟩
      clear T8a T8f T8o T8b S8 hown0 hown5 hg5 T5a T5f T5b S5 hlt3
      have S5 := HS5.out
      refine WL.take (i := 13) (v := ?_) rfl (by kernel_rfl) (by decide) (by decide +kernel) (by decide +kernel) (fun _ _ _ h => h) rfl ?_ S5 ?_
      rotate_left
      · (intro w' hSw; (try dsimp only at hSw); go_simp; (try with_reducible rfl))
      simp only [Act.put]; (try simp only [List.getElem_toArray]); (try simp only [List.getElem_cons_succ]); (try simp only [List.getElem_cons_zero]); (try simp only [List.setIfInBounds_toArray]); (try simp only [List.set_cons_succ]); (try simp only [List.set_cons_zero])
      refine WL.take (i := 14) (v := ?_) rfl (by kernel_rfl) (by decide) (by decide +kernel) (by decide +kernel) (fun _ _ _ h => h) rfl ?_ S5 ?_
      rotate_left
      · (intro w' hSw; (try dsimp only at hSw); go_simp; (try with_reducible rfl))
      simp only [Act.put]; (try simp only [List.getElem_toArray]); (try simp only [List.getElem_cons_succ]); (try simp only [List.getElem_cons_zero]); (try simp only [List.setIfInBounds_toArray]); (try simp only [List.set_cons_succ]); (try simp only [List.set_cons_zero])
      refine WL.take (i := 15) (v := ?_) rfl (by kernel_rfl) (by decide) (by decide +kernel) (by decide +kernel) (fun _ _ _ h => h) rfl ?_ S5 ?_
      rotate_left
      · (intro w' hSw; (try dsimp only at hSw); go_simp; (try with_reducible rfl))
      simp only [Act.put]; (try simp only [List.getElem_toArray]); (try simp only [List.getElem_cons_succ]); (try simp only [List.getElem_cons_zero]); (try simp only [List.setIfInBounds_toArray]); (try simp only [List.set_cons_succ]); (try simp only [List.set_cons_zero])
      refine WL.last (n := 16) rfl rfl (by decide +kernel) (by decide +kernel) ?_
      have g5 := S5.2
      clear S5
      go_wp2
      go_roundw
      case rel =>
        refine ⟨k + 1, .slice co5 (k + 1) cc5, by omega, by go_num, Lib.hid ⟨?_, (HF5.out.set 34 (by omega) _).congr (bodyF_v HTL.out _ _ _), ?_, HB5.out.setCell (p := ⟨b, 34, none⟩) hbb _⟩⟩
        · rw [HRK.out]; exact HA5.out.far (p := ⟨b, 34, none⟩) (by show b ≠ rb; omega) _
        · rw [HUK.out]; exact own_set HO5.out HNE5.out
      case measure => simp [intOf]; omega
    · obtain rfl : k = n := by omega
      have d1 : decide ((k : Int) < k) = false := decide_eq_false (by omega)
      have hft := Lib.hid (Rd.text_fine _ 64 (Rd.ids_fine k r1 hf1.out))
      have HT := Lib.hid (wtext_any rb (r1.ids k).1 64 wo T.out.a (Rd.ids_fine k r1 hf1.out) (by omega))
      have hidl := Lib.hid (Rd.ids_all k r1)
      have hil := HL.out k
      have c0 : wo.cell? ⟨b, 0, none⟩ = some (.pointer (some ⟨rb, 0, none⟩)) := T.out.f.cell 0 (by omega)
      generalize hir : r1.ids k = x2 at HT HCM hft hidl hil T
      obtain ⟨r2, l⟩ := x2
      dsimp only at HT HCM hft hidl hil T
      clear hir
      generalize r2.text 64 = x3 at HT HCM hft
      obtain ⟨r3, x⟩ := x3
      dsimp only at HT HCM hft
      obtain rfl : cm = (r3, t, l, x) := HCM.out
      dsimp only at HCO HCF
      clear HCM hft
      have HIL := Lib.hid hil
      clear hil
      go_wp2_with fail
      refine HT.out.mono ?_
      rintro e w3 ⟨rfl, hA3, hg3⟩
      have T3 := Lib.hid (T.out.read hA3 hg3 hne hrb hrl)
      have f35 := T3.out.f.free 35 (by omega)
      have c35 := T3.out.f.cell 35 (by omega)
      have T4 := Lib.hid (show TS B rb b 36 w.heap.size 24 32 w r3.c (bodyF rb t (.slice co k cc) x) (.slice co k cc) k (idsF l) (w3.setCell ⟨b, 35, none⟩ (.string x)) from
        ⟨T3.out.a.far (p := ⟨b, 35, none⟩) (by show b ≠ rb; omega) _, (T3.out.f.set 35 (by omega) _).congr (bodyF_x HTL.out _ _ x), own_set T3.out.o (own_ne T3.out.o hbl), T3.out.bl.setCell (p := ⟨b, 35, none⟩) hbb _⟩)
      have c4 : (w3.setCell ⟨b, 35, none⟩ (.string x)).cell? ⟨b, 0, none⟩ = some (.pointer (some ⟨rb, 0, none⟩)) := T4.out.f.cell 0 (by omega)
      have HEND := Lib.hid (fun W hA => wend_any rb r3 W hA HCF.out)
      clear hA3 hg3 T3 c0
      go_wp2_with fail
      refine (HEND.out _ T4.out.a).mono ?_
      rintro e w4 ⟨rfl, hb4⟩
      have T5 := Lib.hid (T4.out.below hb4 (by omega) hrb)
      clear hb4 c4 c35 f35 T4
      by_cases hfin : r3.fin = 0
      · have d0 : ((r3.fin : Int) == 0) = true := by rw [beq_iff_eq]; omega
        have HTR : Hid (commitOf s = if commitOk (t, l, x) = true then some (t, l, x) else none) := by
          unfold Hid; rw [HCO.out]
          by_cases ht : commitOk (t, l, x) = true
          · rw [if_pos ⟨hfin, ht⟩, if_pos ht]
          · rw [if_neg (fun h => ht h.2), if_neg ht]
        have HROW : Hid (∀ W, W.ownsRow w.heap.size 24 32 (.slice co k cc) k (idsF l) → IdRow W (.slice co k cc) l) := Lib.hid (fun W h => RowOf.of_own (B := w.heap.size) (e := 24) (sz := 32) (rows := l.map idC) (fun r hr => by
          obtain ⟨y, hy, rfl⟩ := List.mem_map.1 hr
          rw [idC_len]; exact hidl.out y hy) (by rw [List.length_map, HIL.out]; exact h))
        have hl4 : l.length ≤ 4 := by rw [HIL.out]; omega
        have HOC := Lib.hid (fun W (h : W.ownsRow w.heap.size 24 32 (.slice co k cc) k (idsF l)) => ocommit_any t (.slice co k cc) l x W (HROW.out W h) HTL.out hidl.out (by omega) (own_cap h))
        have hrg := bodyF_row HTL.out T5.out.f
        have hlenC : (cmC t (.slice co k cc) x).length = 34 := cmC_len _ _ _ HTL.out
        have h34c : (Tryz.prog.info? 97).map (·.size) = some (cmC t (.slice co k cc) x).length := by rw [hlenC]; kernel_rfl
        have c5 : w4.cell? ⟨b, 0, none⟩ = some (.pointer (some ⟨rb, 0, none⟩)) := T5.out.f.cell 0 (by omega)
        clear hfin HCO HCF hlenC hl4
        generalize commitOk (t, l, x) = ok at HTR HOC
        have HRG := Lib.hid hrg
        clear hrg
        go_wp2_with (refine wpList_load_midG rfl 97 _ rfl b 2 rfl (cmC t (.slice co k cc) x) _ HRG.out Tryz.underlying97 rfl h34c ?_)
        refine (HOC.out w4 T5.out.o).mono ?_
        rintro e w5 ⟨rfl, hb5⟩
        have T6 := Lib.hid (T5.out.below hb5 (by omega) hrb)
        clear hb5 c5
        go_wp2
        go_ret
        rw [HTR.out]
        cases ok with
        | false => exact ⟨rfl, fun h => (by cases h), T6.out.bl⟩
        | true => exact ⟨rfl, fun _ => ⟨t, _, l, x, rfl, bodyF_row HTL.out T6.out.f, fun g hg => (T6.out.o.lt g hg).1, HROW.out _ T6.out.o⟩, T6.out.bl⟩
      · have d0 : ((r3.fin : Int) == 0) = false := by rw [beq_eq_false_iff_ne]; omega
        have HR : Hid (commitOf s = none) := by unfold Hid; rw [HCO.out, if_neg (fun h => hfin h.1)]
        clear hfin HCO HCF
        go_wp2
        go_ret
        rw [HR.out]
        exact ⟨rfl, fun h => (by cases h), T5.out.bl⟩
end Go.Proofs.YtbmiiiccnoiffaaGreatDoor
