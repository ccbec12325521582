/- YtbmiiiccnoiffaaGreatDoorR15: texts V7 of this claim, in one. -/
import Derived.Test.YtbmiiiccnoiffaaGreatDoorR14
namespace Go.Proofs.YtbmiiiccnoiffaaGreatDoor
open Go.RowKit

def zid : List UInt8 := List.replicate 32 0
theorem zid_len : zid.length = 32 := by simp [zid]
theorem cmZ_list : #[.int .u8 0, .int .u8 0, .int .u8 0, .int .u8 0, .int .u8 0, .int .u8 0, .int .u8 0, .int .u8 0, .int .u8 0, .int .u8 0, .int .u8 0, .int .u8 0, .int .u8 0, .int .u8 0, .int .u8 0, .int .u8 0, .int .u8 0, .int .u8 0, .int .u8 0, .int .u8 0, .int .u8 0, .int .u8 0, .int .u8 0, .int .u8 0, .int .u8 0, .int .u8 0, .int .u8 0, .int .u8 0, .int .u8 0, .int .u8 0, .int .u8 0, .int .u8 0, .slice none 0 0, .string ⟨#[]⟩] = (cmC zid (.slice none 0 0) ⟨#[]⟩).toArray := by kernel_rfl
theorem cm_zero : ∃ zs : Array Value, (∀ w, (zeroValue 97).run Tryz.prog w = .ok (.agg zs) w) ∧ (∀ w, (Instr.build 97 #[]).run Tryz.prog w = .ok (.agg zs) w) ∧ zs = (cmC zid (.slice none 0 0) ⟨#[]⟩).toArray :=
  ⟨#[.int .u8 0, .int .u8 0, .int .u8 0, .int .u8 0, .int .u8 0, .int .u8 0, .int .u8 0, .int .u8 0, .int .u8 0, .int .u8 0, .int .u8 0, .int .u8 0, .int .u8 0, .int .u8 0, .int .u8 0, .int .u8 0, .int .u8 0, .int .u8 0, .int .u8 0, .int .u8 0, .int .u8 0, .int .u8 0, .int .u8 0, .int .u8 0, .int .u8 0, .int .u8 0, .int .u8 0, .int .u8 0, .int .u8 0, .int .u8 0, .int .u8 0, .int .u8 0, .slice none 0 0, .string ⟨#[]⟩], fun w => by kernel_rfl, fun w => run_build w 97 #[] _ (by kernel_rfl), cmZ_list⟩
theorem id_zero : ∃ (zs : Array Value) (i0 : TypeInfo), Tryz.prog.info? 24 = some i0 ∧ i0.zero = some (.agg zs) ∧ i0.size = 32 ∧ i0.bytes = 32 ∧ (∀ w, (zeroValue 24).run Tryz.prog w = .ok (.agg zs) w) ∧ zs.size = 32 := by
  have h : (Tryz.prog.info? 24).map (fun i => (i.zero, i.size, i.bytes)) = some (some (.agg #[.int .u8 0, .int .u8 0, .int .u8 0, .int .u8 0, .int .u8 0, .int .u8 0, .int .u8 0, .int .u8 0, .int .u8 0, .int .u8 0, .int .u8 0, .int .u8 0, .int .u8 0, .int .u8 0, .int .u8 0, .int .u8 0, .int .u8 0, .int .u8 0, .int .u8 0, .int .u8 0, .int .u8 0, .int .u8 0, .int .u8 0, .int .u8 0, .int .u8 0, .int .u8 0, .int .u8 0, .int .u8 0, .int .u8 0, .int .u8 0, .int .u8 0, .int .u8 0]), 32, 32) := by kernel_rfl
  obtain ⟨i0, hi, hz0, hz1, hz2⟩ := info_parts h
  exact ⟨#[.int .u8 0, .int .u8 0, .int .u8 0, .int .u8 0, .int .u8 0, .int .u8 0, .int .u8 0, .int .u8 0, .int .u8 0, .int .u8 0, .int .u8 0, .int .u8 0, .int .u8 0, .int .u8 0, .int .u8 0, .int .u8 0, .int .u8 0, .int .u8 0, .int .u8 0, .int .u8 0, .int .u8 0, .int .u8 0, .int .u8 0, .int .u8 0, .int .u8 0, .int .u8 0, .int .u8 0, .int .u8 0, .int .u8 0, .int .u8 0, .int .u8 0, .int .u8 0], i0, hi, hz0, hz1, hz2, fun w => by kernel_rfl, rfl⟩
/-- A commit's cells. -/
def cmF (t : List UInt8) (v : Value) (x : ByteArray) (k : Nat) : Value := (cmC t v x).getD k undef
theorem cmF_lo {t : List UInt8} (h : t.length = 32) (v : Value) (x : ByteArray) {k : Nat} (hk : k < 32) : cmF t v x k = (idC t).getD k undef := by
  unfold cmF cmC
  rw [List.getD_eq_getElem?_getD, List.getD_eq_getElem?_getD, List.getElem?_append_left (by rw [idC_len, h]; exact hk)]
theorem cmF_32 {t : List UInt8} (h : t.length = 32) (v : Value) (x : ByteArray) : cmF t v x 32 = v := by
  unfold cmF cmC
  rw [List.getD_eq_getElem?_getD, List.getElem?_append_right (by rw [idC_len, h]; exact Nat.le_refl _), idC_len, h]; rfl
theorem cmF_33 {t : List UInt8} (h : t.length = 32) (v : Value) (x : ByteArray) : cmF t v x 33 = .string x := by
  unfold cmF cmC
  rw [List.getD_eq_getElem?_getD, List.getElem?_append_right (by rw [idC_len, h]; omega), idC_len, h]; rfl
theorem cmF_v {t : List UInt8} (h : t.length = 32) (v u : Value) (x : ByteArray) : ∀ k, k < 34 → upd (cmF t v x) 32 u k = cmF t u x k := by
  intro k hk
  unfold upd
  by_cases e : k = 32
  · subst e; rw [if_pos rfl, cmF_32 h]
  · rw [if_neg e]
    by_cases hl : k < 32
    · rw [cmF_lo h _ _ hl, cmF_lo h _ _ hl]
    · obtain rfl : k = 33 := by omega
      rw [cmF_33 h, cmF_33 h]
theorem cmF_x {t : List UInt8} (h : t.length = 32) (v : Value) (x y : ByteArray) : ∀ k, k < 34 → upd (cmF t v x) 33 (.string y) k = cmF t v y k := by
  intro k hk
  unfold upd
  by_cases e : k = 33
  · subst e; rw [if_pos rfl, cmF_33 h]
  · rw [if_neg e]
    by_cases hl : k < 32
    · rw [cmF_lo h _ _ hl, cmF_lo h _ _ hl]
    · obtain rfl : k = 32 := by omega
      rw [cmF_32 h, cmF_32 h]
theorem cmF_t {t d : List UInt8} (h : t.length = 32) (hd : d.length = 32) (v : Value) (x : ByteArray) : ∀ k, k < 34 → (if 0 ≤ k ∧ k < 0 + (idC d).length then (idC d).getD (k - 0) undef else cmF t v x k) = cmF d v x k := by
  intro k hk
  have hl : (idC d).length = 32 := by rw [idC_len, hd]
  rw [hl]
  by_cases hlo : k < 32
  · rw [if_pos ⟨by omega, by omega⟩, cmF_lo hd _ _ hlo, Nat.sub_zero]
  · rw [if_neg (by omega)]
    obtain e | e : k = 32 ∨ k = 33 := by omega
    · subst e; rw [cmF_32 h, cmF_32 hd]
    · subst e; rw [cmF_33 h, cmF_33 hd]
theorem cmF_list {t : List UInt8} (h : t.length = 32) (v : Value) (x : ByteArray) : (List.range 34).map (cmF t v x) = cmC t v x := by
  have hl : (cmC t v x).length = 34 := cmC_len t v x h
  apply List.ext_getElem
  · simp [hl]
  · intro i h1 h2
    simp [cmF, h2]
theorem cmF_arr (w : World) {t : List UInt8} (h : t.length = 32) (v : Value) (x : ByteArray) (e : TypeId) : Arr (w.alloc (.cells (cmC t v x).toArray e)) w.heap.size 34 (cmF t v x) := by
  have := Arr.ofList w (cmC t v x) e
  rw [cmC_len t v x h] at this
  exact this
theorem cmC_one (t : List UInt8) (a : Option Addr) (n c : Nat) (x : ByteArray) : ∀ v ∈ cmC t (.slice a n c) x, v.oneCell' = true := by
  intro v hv
  unfold cmC at hv
  rcases List.mem_append.1 hv with h | h
  · exact idC_one _ v h
  · simp at h; rcases h with rfl | rfl <;> rfl
theorem cell_alloc_old (w : World) (o : Obj) (p : Addr) (h : p.block < w.heap.size) : (w.alloc o).cell? p = w.cell? p := World.cell?_alloc_lt _ _ _ h
def idsF (l : List (List UInt8)) : List Value := (l.map idC).flatten
theorem idsF_snoc (l : List (List UInt8)) (x : List UInt8) : idsF (l ++ [x]) = idsF l ++ idC x := by simp [idsF]

set_option maxRecDepth 100000 in
set_option maxHeartbeats 4000000 in
theorem rcommit_fc (s : ByteArray) (w : World) (hs : s.size ≤ 100000) :
    Calls Tryz.prog 59 #[.string s] w fun e w' => ∃ v, e = .returned (.tuple #[.agg (cmC ((commitOf s).getD (zid, [], ⟨#[]⟩)).1 v ((commitOf s).getD (zid, [], ⟨#[]⟩)).2.2).toArray, .bool (commitOf s).isSome]) ∧ IdRow w' v ((commitOf s).getD (zid, [], ⟨#[]⟩)).2.1 ∧ (∀ g, v.ownBlock = some g → w.heap.size ≤ g) ∧ (∀ ao n c, v = .slice ao n c → n ≤ c) ∧ Below w.heap.size w w' := by
  obtain ⟨zs, hzv, hbu, hzs⟩ := cm_zero
  obtain ⟨zi, i0, hi, hz0, hz1, hz2, hziv, hzil⟩ := id_zero
  have HZI := Lib.hid hzil
  clear hzil
  have hA0 : Arr (w.alloc (.cells zs 97)) w.heap.size 34 (cmF zid (.slice none 0 0) ⟨#[]⟩) := by rw [hzs]; exact cmF_arr w zid_len _ _ _
  have hA1 := rd0_arr (w.alloc (.cells zs 97)) s 180
  rw [World.size_alloc] at hA1
  have hA2 : Arr (((w.alloc (.cells zs 97)).alloc (.cells #[.string s, .int .i64 0, .int .i64 0] 180)).alloc (.cells zs 97)) (w.heap.size + 1 + 1) 34 (cmF zid (.slice none 0 0) ⟨#[]⟩) := by
    have := cmF_arr ((w.alloc (.cells zs 97)).alloc (.cells #[.string s, .int .i64 0, .int .i64 0] 180)) zid_len (.slice none 0 0) ⟨#[]⟩ 97
    rw [World.size_alloc, World.size_alloc, ← hzs] at this
    exact this
  have hzl : zs.size = 34 := by rw [hzs, List.size_toArray, cmC_len _ _ _ zid_len]
  have hzt : zs.toList = cmC zid (.slice none 0 0) ⟨#[]⟩ := by rw [hzs]
  have HON : Hid (zs.all (·.oneCell') = true) := by unfold Hid; rw [hzs]; exact all_oneCell_toArray (cmC_one _ _ _ _ _)
  have h34 : (Tryz.prog.info? 97).map (·.size) = some 34 := by kernel_rfl
  have HA0 := Lib.hid hA0
  have HA1 := Lib.hid hA1
  have HA2 := Lib.hid hA2
  have HZL := Lib.hid hzl
  have HZT := Lib.hid hzt
  clear hA0 hA1 hA2 hzl hzt hzs
  go_enter Tryz.func59, Tryz.ntmps59
  go_wp2_with (refine wpList_store_mid rfl 97 _ _ rfl (w.heap.size + 1 + 1) 0 zs rfl rfl ?g1 ?g2 ?g3 ?_)
  case g1 => rw [HZL.out]; exact HA2.out.there
  case g2 => rw [HZL.out]; exact h34
  case g3 => exact HON.out
  generalize hW : (((w.alloc (.cells zs 97)).alloc _).alloc _).setCells _ _ _ = W
  have hb2 : Below w.heap.size w W := by
    rw [← hW]
    exact below_setCells _ (by omega) _ _ _ ((((Below.refl _ _).alloc (Nat.le_refl _) _).alloc (by simp) _).alloc (by simp; omega) _)
  have hR : Arr W w.heap.size 34 (cmF zid (.slice none 0 0) ⟨#[]⟩) := by
    rw [← hW]; exact ((HA0.out.alloc (by omega) _).alloc (by omega) _).farSets (by omega) _ _
  have hB : Arr W (w.heap.size + 1) 3 (rd0 s).c := by
    rw [← hW]; exact (HA1.out.alloc (by omega) _).farSets (by omega) _ _
  have hC : Arr W (w.heap.size + 1 + 1) 34 (cmF zid (.slice none 0 0) ⟨#[]⟩) := by
    rw [← hW]
    exact (HA2.out.setCells 0 zs.toList (by rw [Array.length_toList, HZL.out]; exact Nat.le_refl _)).congr fun k hk => by
      rw [Array.length_toList, HZL.out, if_pos ⟨by omega, by omega⟩, HZT.out]; rfl
  have hszW : w.heap.size + 1 + 1 < W.heap.size := hC.lt (by omega)
  have HB2 := Lib.hid hb2
  have HR := Lib.hid hR
  clear hW HA0 HA1 HA2 hb2 hR
  have hfd := Lib.hid (rd0_fine s (show s.size ≤ 1000000 by omega))
  have HID := Lib.hid (rid_any (w.heap.size + 1) (rd0 s) W hB hfd.out)
  have hf0 := Lib.hid ((rd0 s).id_fine hfd.out)
  have HTL : Hid ((rd0 s).id.2.length = 32) := Lib.hid (idOf_len _)
  have HCM : Hid ((rd0 s).commit = ((((((rd0 s).id.1.num 4).1.ids ((rd0 s).id.1.num 4).2).1.text 64).1, (rd0 s).id.2, (((rd0 s).id.1.num 4).1.ids ((rd0 s).id.1.num 4).2).2, ((((rd0 s).id.1.num 4).1.ids ((rd0 s).id.1.num 4).2).1.text 64).2))) := Lib.hid rfl
  have HCO : Hid (commitOf s = if (rd0 s).commit.1.fin = 0 ∧ commitOk (rd0 s).commit.2 = true then some (rd0 s).commit.2 else none) := Lib.hid rfl
  have HCC := Lib.hid (commitOf_canon s (by omega))
  have HCF := Lib.hid ((rd0 s).commit_fine hfd.out)
  generalize (rd0 s).commit = cm at HCM HCO HCC HCF
  generalize (rd0 s).id = x0 at HID hf0 HTL HCM
  obtain ⟨r0, t⟩ := x0
  dsimp only at HID hf0 HTL HCM
  have HC := Lib.hid hC
  clear hB hC
  refine HID.out.mono ?_
  rintro e w1 ⟨rfl, hB1, hg1⟩
  have hdl : (idC t).length = 32 := by rw [idC_len, HTL.out]
  have hR1 := HR.out.grown hg1 (by omega)
  have hC1 := HC.out.grown hg1 (by omega)
  have hth : w1.there (w.heap.size + 1 + 1) 0 32 := fun j hj => ⟨by rw [hC1.cell _ (by omega)]; rfl, hC1.free _ (by omega)⟩
  have HTH := Lib.hid hth
  have HB1 := Lib.hid (hB1.farSets (B := w.heap.size + 1 + 1) (by omega) (idC t) 0)
  have HR1 := Lib.hid (hR1.farSets (B := w.heap.size + 1 + 1) (by omega) (idC t) 0)
  have HC1 := Lib.hid ((hC1.setCells 0 (idC t) (by omega)).congr (cmF_t zid_len HTL.out _ _))
  have HBL1 := Lib.hid (below_setCells (B := w.heap.size) (a := w) (w.heap.size + 1 + 1) (by omega) (idC t) 0 w1 (HB2.out.grown hg1 (by have := HB2.out.size; omega) (fun k hk => by cases hk; omega)))
  have HDL := Lib.hid hdl
  have HDO := Lib.hid (idC_one t)
  have h32 : (Tryz.prog.info? 24).map (·.size) = some 32 := by kernel_rfl
  clear hB1 hR1 hC1 hg1 hth hdl HR HC HB2 HID
  have hdv : idV t = .agg (idC t).toArray := rfl
  rw [hdv]
  clear hdv
  generalize hus : idC t = us at HB1 HR1 HC1 HBL1 HDL HDO
  have HUS := Lib.hid hus
  clear hus
  go_wp2_with (first | (refine wpList_store_list rfl 24 _ _ rfl (w.heap.size + 1 + 1) 0 us ?y1 ?y2 32 HDL.out ?y4 h32 HDO.out ?_) | fail)
  try case y1 => rfl
  try case y2 => rfl
  try case y4 => exact HTH.out
  have HNU := Lib.hid (rnum_any (w.heap.size + 1) r0 4 (w1.setCells (w.heap.size + 1 + 1) 0 us) HB1.out hf0.out (by omega))
  have hnf := Lib.hid (Rd.num_fine r0 4 hf0.out)
  generalize r0.num 4 = x1 at HNU hnf HCM
  obtain ⟨r1, n⟩ := x1
  dsimp only at HNU hnf HCM
  have hn4 : n ≤ 4 := hnf.out.2
  have hf1 := Lib.hid hnf.out.1
  refine HNU.out.mono ?_
  rintro e w2 ⟨rfl, hB2, hg2⟩
  have HB2 := Lib.hid hB2
  have HR2 := Lib.hid (HR1.out.grown hg2 (by omega))
  have HC2 := Lib.hid (HC1.out.grown hg2 (by omega))
  have HBL2 := Lib.hid (HBL1.out.grown hg2 (by have := HBL1.out.size; omega) (fun k hk => by cases hk; omega))
  clear hB2 hg2 HB1 HR1 HC1 HBL1 HNU hnf HTH
  go_wp2
  have HL : Hid (∀ k, ((r1.ids k).2).length = k) := Lib.hid (fun k => Rd.ids_len k r1)
  go_loopw [7] (fun i wr => ∃ (k : Nat) (v : Value), k ≤ n ∧ i = .int .i64 k ∧ Arr wr (w.heap.size + 1) 3 (r1.ids k).1.c ∧ Arr wr (w.heap.size + 1 + 1) 34 (cmF t v ⟨#[]⟩) ∧ wr.ownsRow (w.heap.size + 1 + 1 + 1) 24 32 v k (idsF (r1.ids k).2) ∧ Arr wr w.heap.size 34 (cmF zid (.slice none 0 0) ⟨#[]⟩) ∧ Below w.heap.size w wr) (fun i _ => (n - intOf i).toNat)
  case atStart => exact ⟨0, .slice none 0 0, by omega, rfl, HB2.out, HC2.out, World.ownsRow_nil _ _ _ _, HR2.out, HBL2.out⟩
  case round =>
    obtain ⟨wo, rfl⟩ : ∃ wo : World, wo = wr := ⟨_, rfl⟩
    obtain ⟨k, v, hk, rfl, hB, hC, hown, hR, hb⟩ := hrel
    obtain ⟨co, cc, rfl⟩ := own_form hown
    have hCl := hC.lt (by omega)
    by_cases hlt : k < n
    · have d1 : decide ((k : Int) < n) = true := decide_eq_true (by omega)
      have d2 : decide (k < n) = true := decide_eq_true hlt
      have hS0 : wo.drew.cell? ⟨w.heap.size + 1 + 1, 32, none⟩ = some (.slice co k cc) := by
        show wo.cell? ⟨w.heap.size + 1 + 1, 32, none⟩ = _
        rw [hC.cell 32 (by omega), cmF_32 HTL.out]
      have HI := Lib.hid (rid_any (w.heap.size + 1) (r1.ids k).1 wo.drew ⟨hB.cell, hB.free⟩ (Rd.ids_fine k r1 hf1.out))
      have HSN := Lib.hid (Rd.ids_snoc k r1)
      have hbd : Below wo.heap.size wo wo.drew := (Below.refl _ _).drew
      have HCD := Lib.hid (hC.below hbd hCl)
      have HRD := Lib.hid (hR.below hbd (by omega))
      have HOD := Lib.hid (own_below hown hbd)
      have HBD := Lib.hid (hb.trans (hbd.mono hb.size))
      clear hB hC hR hown hb hbd
      go_wp2
      refine wp_region_L 7 (fun w' => w'.cell? ⟨w.heap.size + 1 + 1, 32, none⟩ = some (.slice co k cc)) (by kernel_rfl) (by kernel_rfl) ?_
      refine WL.take (i := 0) (v := ?_) rfl (by kernel_rfl) (by decide) (by decide +kernel) (by decide +kernel) (fun _ _ _ h => h) rfl ?_ hS0 ?_
      rotate_left
      · (intro w' hSw; (try dsimp only at hSw); go_simp; (try with_reducible rfl))
      simp only [Act.put]; (try simp only [List.getElem_toArray]); (try simp only [List.getElem_cons_succ]); (try simp only [List.getElem_cons_zero]); (try simp only [List.setIfInBounds_toArray]); (try simp only [List.set_cons_succ]); (try simp only [List.set_cons_zero])
      refine WL.take (i := 1) (v := ?_) rfl (by kernel_rfl) (by decide) (by decide +kernel) (by decide +kernel) (fun _ _ _ h => h) rfl ?_ hS0 ?_
      rotate_left
      · (intro w' hSw; (try dsimp only at hSw); go_simp; (try with_reducible rfl))
      simp only [Act.put]; (try simp only [List.getElem_toArray]); (try simp only [List.getElem_cons_succ]); (try simp only [List.getElem_cons_zero]); (try simp only [List.setIfInBounds_toArray]); (try simp only [List.set_cons_succ]); (try simp only [List.set_cons_zero])
      refine WL.take (i := 2) (v := ?_) rfl (by kernel_rfl) (by decide) (by decide +kernel) (by decide +kernel) (fun _ _ _ h => h) rfl ?_ hS0 ?_
      rotate_left
      · (intro w' hSw; (try dsimp only at hSw); go_simp; (try with_reducible rfl))
      simp only [Act.put]; (try simp only [List.getElem_toArray]); (try simp only [List.getElem_cons_succ]); (try simp only [List.getElem_cons_zero]); (try simp only [List.setIfInBounds_toArray]); (try simp only [List.set_cons_succ]); (try simp only [List.set_cons_zero])
      refine WL.one (i := 3) rfl (by decide) (by decide +kernel) ?_
      go_wp2_with fail
      refine HI.out.mono ?_
      rintro e w3 ⟨rfl, hB3, hg3⟩
      have hC3 := HCD.out.grown hg3 (by omega)
      have hS3 : w3.cell? ⟨w.heap.size + 1 + 1, 32, none⟩ = some (.slice co k cc) := by rw [hC3.cell 32 (by omega), cmF_32 HTL.out]
      have hdk : (idC (r1.ids k).1.id.2).length = 32 := by rw [idC_len]; exact idOf_len _
      have hone := idC_one (r1.ids k).1.id.2
      have hdv : idV (r1.ids k).1.id.2 = .agg (idC (r1.ids k).1.id.2).toArray := rfl
      rw [hdv]
      clear hdv
      have HUK : Hid (idsF (r1.ids (k + 1)).2 = idsF (r1.ids k).2 ++ idC (r1.ids k).1.id.2) := by unfold Hid; rw [HSN.out]; exact idsF_snoc _ _
      have HRK : Hid ((r1.ids (k + 1)).1 = (r1.ids k).1.id.1) := by unfold Hid; rw [HSN.out]
      have HO3 := Lib.hid (own_grown HOD.out hg3 (by omega))
      have HC3 := Lib.hid hC3
      have HB3 := Lib.hid hB3
      have HR3 := Lib.hid (HRD.out.grown hg3 (by omega))
      have HBL3 := Lib.hid (HBD.out.grown hg3 (by have := HBD.out.size; omega) (fun k hk => by cases hk; omega))
      have HSZ3 := Lib.hid (show w.heap.size + 1 + 1 < w3.heap.size from hC3.lt (by omega))
      have HS3 := Lib.hid hS3
      clear hC3 hB3 hg3 hS3 HI HSN HCD HRD HOD HBD
      generalize idC (r1.ids k).1.id.2 = uk at hdk hone HUK
      have HDK := Lib.hid hdk
      have HON2 := Lib.hid hone
      have HSZC : Hid (∀ w, (sizeOf 24).run Tryz.prog w = .ok uk.length w) := Lib.hid (fun w => by rw [HDK.out]; kernel_rfl)
      clear hdk hone
      go_wp2
      refine ⟨HS3.out, ?_⟩
      refine WL.one (i := 4) rfl (by decide) (by decide +kernel) ?_
      refine wpList_buildSlice_one rfl (.tmp 25) 28 24 rfl uk zi rfl Tryz.underlying28 HSZC.out hziv (by rw [HDK.out]; omega) (by rw [HDK.out]; omega) ?_
      simp only [Act.put]
      refine ⟨(cell_alloc_old w3 _ _ HSZ3.out).trans HS3.out, ?_⟩
      refine WL.one (i := 5) rfl (by decide) (by decide +kernel) ?_
      refine wpList_append_own _ rfl (.tmp 23) (.tmp 26) 28 rfl (w.heap.size + 1 + 1 + 1) 24 i0 (.agg zi) 32 32 Tryz.underlying28 hi hz0 hz1 hz2 HZI.out (by decide) _ k (idsF (r1.ids k).2) rfl (HO3.out.alloc _) ⟨w3.heap.size, 0, none⟩ 1 1 uk rfl HDK.out (fun j u hj => cells_newL _ uk _ j u hj) HON2.out (by unfold maxLen; omega) (by omega) (by rw [World.size_alloc]; have := HSZ3.out; omega) ?_
      intro v' w5 hown5 hg5 _
      obtain ⟨co5, cc5, rfl⟩ := own_form hown5
      have hne5 : (Value.slice co k cc).ownBlock ≠ some (w.heap.size + 1 + 1) := fun e => by have := (HO3.out.lt _ e).1; omega
      have hC5 := (HC3.out.alloc (by omega) (.cells uk.toArray 24)).grownV hg5 hne5
      have hB5 := (HB3.out.alloc (by omega) (.cells uk.toArray 24)).grownV hg5 (fun e => by have := (HO3.out.lt _ e).1; omega)
      have hR5 := (HR3.out.alloc (by omega) (.cells uk.toArray 24)).grownV hg5 (fun e => by have := (HO3.out.lt _ e).1; omega)
      have hbl5 := (HBL3.out.alloc HBL3.out.size (.cells uk.toArray 24)).grown hg5 (by rw [World.size_alloc]; have := HBL3.out.size; omega) (fun j hj => by have := (HO3.out.lt j hj).1; omega)
      have c5 := hC5.cell 32 (by omega)
      rw [cmF_32 HTL.out] at c5
      have f5 := hC5.free 32 (by omega)
      have HC5 := Lib.hid hC5
      have HB5 := Lib.hid hB5
      have HR5 := Lib.hid hR5
      have HBL5 := Lib.hid hbl5
      have HO5 := Lib.hid hown5
      have HNE5 := Lib.hid (own_ne hown5 (show w.heap.size + 1 + 1 < w.heap.size + 1 + 1 + 1 by omega))
      clear hC5 hB5 hR5 hbl5 hown5 hg5 hne5
      simp only [Act.put]
      refine ⟨c5, ?_⟩
      refine WL.one (i := 6) rfl (by decide) (by decide +kernel) ?_
      go_wp2
      refine ⟨c5, ?_⟩
      refine WL.last (n := 7) rfl rfl (by decide +kernel) (by decide +kernel) ?_
      go_wp2
      go_roundw
      case rel =>
        refine ⟨k + 1, .slice co5 (k + 1) cc5, by omega, by go_num, ?_, ?_, ?_, HR5.out.far (by show w.heap.size + 1 + 1 ≠ w.heap.size; omega) _, HBL5.out.setCell (by show w.heap.size ≤ w.heap.size + 1 + 1; omega) _⟩
        · rw [HRK.out]; exact HB5.out.far (by show w.heap.size + 1 + 1 ≠ w.heap.size + 1; omega) _
        · exact (HC5.out.set 32 (by omega) _).congr (cmF_v HTL.out _ _ _)
        · rw [HUK.out]; exact own_set HO5.out HNE5.out
      case measure => simp [intOf]; omega
    · obtain rfl : k = n := by omega
      have hft := Lib.hid (Rd.text_fine _ 64 (Rd.ids_fine k r1 hf1.out))
      have HT := Lib.hid (rtext_any (w.heap.size + 1) (r1.ids k).1 64 wo hB (Rd.ids_fine k r1 hf1.out) (by omega))
      have hidl := Lib.hid (Rd.ids_all k r1)
      have hil := HL.out k
      generalize hir : r1.ids k = x2 at HT HCM hft hown hidl hil
      obtain ⟨r2, l⟩ := x2
      dsimp only at HT HCM hft hown hidl hil
      clear hB hir
      generalize r2.text 64 = x3 at HT HCM hft
      obtain ⟨r3, x⟩ := x3
      dsimp only at HT HCM hft
      obtain rfl : cm = (r3, t, l, x) := HCM.out
      dsimp only at HCO HCC HCF
      clear HCM hft
      have HR := Lib.hid hR
      have HC := Lib.hid hC
      have HO := Lib.hid hown
      have HB := Lib.hid hb
      have HIL := Lib.hid hil
      clear hR hC hown hb hil
      go_wp2_with fail
      refine HT.out.mono ?_
      rintro e w3 ⟨rfl, hB3, hg3⟩
      have hC3 := HC.out.grown hg3 (by omega)
      have c33 := hC3.cell 33 (by omega)
      have f33 := hC3.free 33 (by omega)
      have hC4 := (hC3.set 33 (by omega) (.string x)).congr (cmF_x HTL.out _ _ x)
      have HB4 := Lib.hid (hB3.far (p := ⟨w.heap.size + 1 + 1, 33, none⟩) (by show w.heap.size + 1 + 1 ≠ w.heap.size + 1; omega) (.string x))
      have HR4 := Lib.hid ((HR.out.grown hg3 (by omega)).far (p := ⟨w.heap.size + 1 + 1, 33, none⟩) (by show w.heap.size + 1 + 1 ≠ w.heap.size; omega) (.string x))
      have HO4 := Lib.hid (own_set (o := 33) (u := .string x) (own_grown HO.out hg3 (by omega)) (own_ne (own_grown HO.out hg3 (by omega)) (show w.heap.size + 1 + 1 < w.heap.size + 1 + 1 + 1 by omega)))
      have HBL4 := Lib.hid ((HB.out.grown hg3 (by have := HB.out.size; omega) (fun k hk => by cases hk; omega)).setCell (p := ⟨w.heap.size + 1 + 1, 33, none⟩) (by show w.heap.size ≤ w.heap.size + 1 + 1; omega) (.string x))
      have HC4 := Lib.hid hC4
      have HEND := Lib.hid (fun W hA => rend_any (w.heap.size + 1) r3 W hA HCF.out)
      clear hB3 hC3 hC4 hg3 HR HC HO HB HT
      go_wp2_with fail
      generalize hW4 : w3.setCell _ _ = W4
      rw [hW4] at HB4 HR4 HO4 HBL4 HC4
      clear hW4 c33 f33
      have hlenC : (cmC t (.slice co k cc) x).length = 34 := cmC_len _ _ _ HTL.out
      have hrg := HC4.out.range
      rw [cmF_list HTL.out] at hrg
      have h34c : (Tryz.prog.info? 97).map (·.size) = some (cmC t (.slice co k cc) x).length := by rw [hlenC]; exact h34
      have hzlen : (cmC zid (.slice none 0 0) ⟨#[]⟩).length = 34 := cmC_len _ _ _ zid_len
      have h34z : (Tryz.prog.info? 97).map (·.size) = some (cmC zid (.slice none 0 0) ⟨#[]⟩).length := by rw [hzlen]; exact h34
      have HROW : Hid (∀ W, Below W4.heap.size W4 W → IdRow W (.slice co k cc) l) := Lib.hid (fun W hb' => (RowOf.of_own (B := w.heap.size + 1 + 1 + 1) (e := 24) (sz := 32) (rows := l.map idC) (fun r hr => by
        obtain ⟨y, hy, rfl⟩ := List.mem_map.1 hr
        rw [idC_len]; exact hidl.out y hy) (by rw [List.length_map, HIL.out]; exact HO4.out)).below hb')
      have HRG := Lib.hid hrg
      have HLR := Lib.hid (HR4.out.lt (show 0 < 34 by omega))
      have HLC := Lib.hid (HC4.out.lt (show 0 < 34 by omega))
      have hl4 : l.length ≤ 4 := by rw [HIL.out]; omega
      -- none: the zero commit
      have HNO : Hid (∀ (W : World), Below W4.heap.size W4 W → W.there w.heap.size 0 34 ∧ (W.setCells w.heap.size 0 zs.toList).rangeAt w.heap.size 0 (cmC zid (.slice none 0 0) ⟨#[]⟩) ∧ Below w.heap.size w (W.setCells w.heap.size 0 zs.toList)) := Lib.hid (fun W hb' => by
        have hr := HR4.out.below hb' HLR.out
        refine ⟨hr.there, ?_, below_setCells _ (Nat.le_refl _) _ _ _ (HBL4.out.trans (hb'.mono HBL4.out.size))⟩
        rw [HZT.out]
        exact World.rangeAt_setCells_same W w.heap.size 0 _ (by rw [hzlen]; exact hr.there))
      clear hrg hlenC hzlen
      by_cases hfin : r3.fin = 0
      · rw [hfin] at HEND
        have HCR := Lib.hid (fun W (hb' : Below W4.heap.size W4 W) => rcommitright_any t (.slice co k cc) l x W (HROW.out W hb') HTL.out hidl.out (by omega))
        cases hok : commitOk (t, l, x) with
        | false =>
          have HRES : Hid (commitOf s = none) := by unfold Hid; rw [HCO.out, if_neg (by rw [hok]; simp)]
          rw [hok] at HCR
          clear hok hfin
          refine (HEND.out W4 HB4.out).mono ?_
          rintro e w4 ⟨rfl, hb4⟩
          have HB5 := Lib.hid hb4
          have HRG5 := Lib.hid (rangeAt_below HRG.out hb4 HLC.out)
          clear hb4
          go_wp2_with (refine wpList_load_mid_g rfl 97 _ rfl (w.heap.size + 1 + 1) 0 rfl _ _ HRG5.out Tryz.underlying97 rfl h34c ?_)
          refine (HCR.out _ HB5.out).mono ?_
          rintro e w5 ⟨rfl, hb5⟩
          have HB6 := Lib.hid (HB5.out.trans (hb5.mono HB5.out.size))
          clear hb5
          go_wp2_with (refine wpList_store_mid rfl 97 _ _ rfl w.heap.size 0 zs rfl rfl ?k1 ?k2 ?k3 ?_)
          case k1 => rw [HZL.out]; exact (HNO.out _ HB6.out).1
          case k2 => rw [HZL.out]; exact h34
          case k3 => exact HON.out
          refine ret_cell2 rfl w.heap.size 0 rfl _ _ (HNO.out _ HB6.out).2.1 Tryz.underlying97 rfl h34z rfl _ rfl ⟨.slice none 0 0, ?_, ?_, fun g hg => (by cases hg), fun _ _ _ e => (by cases e; exact Nat.le_refl _), (HNO.out _ HB6.out).2.2⟩
          · rw [HRES.out]; rfl
          · rw [HRES.out]; exact ⟨none, 0, rfl, by simp, fun h => absurd rfl h⟩
        | true =>
          have HRES : Hid (commitOf s = some (t, l, x)) := by unfold Hid; rw [HCO.out, if_pos ⟨hfin, hok⟩]
          have hx64 : x.size ≤ 64 := by
            unfold commitOk at hok
            simp only [Bool.and_eq_true, decide_eq_true_eq] at hok
            exact hok.2.2
          have hcb := HCC.out hfin
          have HBD : Hid (∀ W, Below W4.heap.size W4 W → Calls Tryz.prog 108 #[.agg (cmC t (.slice co k cc) x).toArray] W fun e w' => e = .returned (.string s) ∧ Below W.heap.size W w') := Lib.hid (fun W hb' => by
            have := rcommitbody_any t (.slice co k cc) l x W (HROW.out W hb') HTL.out hidl.out (by omega) (by omega)
            rw [hcb, ofB_of] at this
            exact this)
          rw [hok] at HCR
          clear hok hfin hcb
          refine (HEND.out W4 HB4.out).mono ?_
          rintro e w4 ⟨rfl, hb4⟩
          have HB5 := Lib.hid hb4
          have HRG5 := Lib.hid (rangeAt_below HRG.out hb4 HLC.out)
          clear hb4
          go_wp2_with (refine wpList_load_mid_g rfl 97 _ rfl (w.heap.size + 1 + 1) 0 rfl _ _ HRG5.out Tryz.underlying97 rfl h34c ?_)
          refine (HCR.out _ HB5.out).mono ?_
          rintro e w5 ⟨rfl, hb5⟩
          have HB6 := Lib.hid (HB5.out.trans (hb5.mono HB5.out.size))
          have HRG6 := Lib.hid (rangeAt_below HRG.out HB6.out HLC.out)
          clear hb5
          go_wp2_with (refine wpList_load_mid_g rfl 97 _ rfl (w.heap.size + 1 + 1) 0 rfl _ _ HRG6.out Tryz.underlying97 rfl h34c ?_)
          refine (HBD.out _ HB6.out).mono ?_
          rintro e w6 ⟨rfl, hb6⟩
          have HB7 := Lib.hid (HB6.out.trans (hb6.mono HB6.out.size))
          have HRG7 := Lib.hid (rangeAt_below HRG.out HB7.out HLC.out)
          have HR7 := Lib.hid (HR4.out.below HB7.out HLR.out)
          have HBZ := Lib.hid (below_setCells (B := w.heap.size) (a := w) w.heap.size (Nat.le_refl _) (cmC t (.slice co k cc) x) 0 w6 (HBL4.out.trans (HB7.out.mono HBL4.out.size)))
          have hl34 : (cmC t (.slice co k cc) x).length = 34 := cmC_len _ _ _ HTL.out
          have HFR := Lib.hid (World.rangeAt_setCells_same w6 w.heap.size 0 (cmC t (.slice co k cc) x) (by rw [hl34]; exact HR7.out.there))
          have HON2 := Lib.hid (cmC_one t co k cc x)
          have HL34 := Lib.hid hl34
          clear hb6 hl34
          go_wp2_with (first | (refine wpList_load_mid rfl 97 _ rfl (w.heap.size + 1 + 1) 0 rfl _ _ HRG7.out Tryz.underlying97 rfl h34c ?_) | (refine wpList_store_list rfl 97 _ _ rfl w.heap.size 0 (cmC t (.slice co k cc) x) ?z1 ?z2 34 HL34.out ?z4 h34 HON2.out ?_))
          try case z1 => rfl
          try case z2 => rfl
          try case z4 => exact HR7.out.there
          try simp only [Act.put]
          have HRO : Hid (IdRow (w6.setCells w.heap.size 0 (cmC t (.slice co k cc) x)) (.slice co k cc) l) := Lib.hid (by
            have h := HROW.out w6 HB7.out
            obtain ⟨ao, cap, e, hm, h2⟩ := h
            refine ⟨ao, cap, e, hm, fun hne => ?_⟩
            obtain ⟨b, off, e1, hbl, hc⟩ := h2 hne
            have hbk : b ≠ w.heap.size := fun e2 => by
              injection e with q1 q2 q3
              have := (HO4.out.lt b (by rw [← q1] at e1; rw [e1]; rfl)).1
              omega
            refine ⟨b, off, e1, by have := (grown_setCells (cmC t (.slice co k cc) x) 0 w6 (World.grownBy.refl w6 (some w.heap.size))).size; omega, fun i hi j u hu => ?_⟩
            rw [World.cell?_setCells_out w.heap.size _ 0 w6 ⟨b, _, none⟩ (fun e3 _ => absurd e3 hbk)]
            exact hc i hi j u hu)
          refine ret_cell2 rfl w.heap.size 0 rfl _ _ HFR.out Tryz.underlying97 rfl h34c rfl _ rfl ⟨.slice co k cc, ?_, ?_, fun g hg => (by have := (HO4.out.lt g hg).1; omega), fun _ _ _ e => (by cases e; rcases HO4.out.2 with ⟨h1, h2⟩ | ⟨_, _, _, h1, _, _, h2, _⟩ <;> cases h1 <;> omega), HBZ.out⟩
          · rw [HRES.out]; rfl
          · rw [HRES.out]; exact HRO.out
      · have HRES : Hid (commitOf s = none) := by unfold Hid; rw [HCO.out, if_neg (fun h => hfin h.1)]
        have d2 : ((r3.fin : Int) != 0) = true := by rw [bne_iff_ne]; omega
        clear hfin
        refine (HEND.out W4 HB4.out).mono ?_
        rintro e w4 ⟨rfl, hb4⟩
        have HB6 := Lib.hid hb4
        clear hb4
        go_wp2_with (refine wpList_store_mid rfl 97 _ _ rfl w.heap.size 0 zs rfl rfl ?n1 ?n2 ?n3 ?_)
        case n1 => rw [HZL.out]; exact (HNO.out _ HB6.out).1
        case n2 => rw [HZL.out]; exact h34
        case n3 => exact HON.out
        refine ret_cell2 rfl w.heap.size 0 rfl _ _ (HNO.out _ HB6.out).2.1 Tryz.underlying97 rfl h34z rfl _ rfl ⟨.slice none 0 0, ?_, ?_, fun g hg => (by cases hg), fun _ _ _ e => (by cases e; exact Nat.le_refl _), (HNO.out _ HB6.out).2.2⟩
        · rw [HRES.out]; rfl
        · rw [HRES.out]; exact ⟨none, 0, rfl, by simp, fun h => absurd rfl h⟩
theorem rcommit_fr (s : ByteArray) (w : World) (hs : s.size ≤ 100000) :
    Calls Tryz.prog 59 #[.string s] w fun e w' => ∃ v, e = .returned (.tuple #[.agg (cmC ((commitOf s).getD (zid, [], ⟨#[]⟩)).1 v ((commitOf s).getD (zid, [], ⟨#[]⟩)).2.2).toArray, .bool (commitOf s).isSome]) ∧ IdRow w' v ((commitOf s).getD (zid, [], ⟨#[]⟩)).2.1 ∧ (∀ g, v.ownBlock = some g → w.heap.size ≤ g) ∧ Below w.heap.size w w' :=
  (rcommit_fc s w hs).mono fun _ _ ⟨v, h1, h2, h3, _, h4⟩ => ⟨v, h1, h2, h3, h4⟩
theorem rcommit_any (s : ByteArray) (w : World) (hs : s.size ≤ 100000) :
    Calls Tryz.prog 59 #[.string s] w fun e w' => ∃ v, e = .returned (.tuple #[.agg (cmC ((commitOf s).getD (zid, [], ⟨#[]⟩)).1 v ((commitOf s).getD (zid, [], ⟨#[]⟩)).2.2).toArray, .bool (commitOf s).isSome]) ∧ IdRow w' v ((commitOf s).getD (zid, [], ⟨#[]⟩)).2.1 ∧ Below w.heap.size w w' :=
  (rcommit_fr s w hs).mono fun _ _ ⟨v, h1, h2, _, h4⟩ => ⟨v, h1, h2, h4⟩
end Go.Proofs.YtbmiiiccnoiffaaGreatDoor
