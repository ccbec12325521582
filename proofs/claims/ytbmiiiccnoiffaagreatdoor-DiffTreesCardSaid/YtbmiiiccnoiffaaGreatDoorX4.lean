/- Walks: how trees are apart (the document's). -/
import Derived.Test.YtbmiiiccnoiffaaGreatDoorJO
import Derived.Test.YtbmiiiccnoiffaaGreatDoorJE
import Derived.Test.YtbmiiiccnoiffaaGreatDoorD5
namespace Go.Proofs.YtbmiiiccnoiffaaGreatDoor
open Go.RowKit

def treesF (get : List UInt8 → Option Ob) (a b : List UInt8) : Sum Nat (List (ByteArray × Nat)) := if a = b then .inr [] else match filesF get a with
  | .inl c => .inl c
  | .inr x => match filesF get b with
    | .inl c => .inl c
    | .inr y => .inr (filesS x y)
def apsOf : Sum Nat (List (ByteArray × Nat)) → List (ByteArray × Nat)
  | .inl _ => []
  | .inr z => z
theorem treesF_same {get : List UInt8 → Option Ob} {a b : List UInt8} (h : a = b) : treesF get a b = .inr [] := by unfold treesF; rw [if_pos h]
theorem treesF_one {get : List UInt8 → Option Ob} {a b : List UInt8} {c : Nat} (h : a ≠ b) (h1 : filesF get a = .inl c) : treesF get a b = .inl c := by unfold treesF; rw [if_neg h, h1]
theorem treesF_two {get : List UInt8 → Option Ob} {a b : List UInt8} {c : Nat} {x : Lfs} (h : a ≠ b) (h1 : filesF get a = .inr x) (h2 : filesF get b = .inl c) : treesF get a b = .inl c := by unfold treesF; rw [if_neg h, h1]; dsimp only; rw [h2]
theorem treesF_both {get : List UInt8 → Option Ob} {a b : List UInt8} {x y : Lfs} (h : a ≠ b) (h1 : filesF get a = .inr x) (h2 : filesF get b = .inr y) : treesF get a b = .inr (filesS x y) := by unfold treesF; rw [if_neg h, h1]; dsimp only; rw [h2]
theorem apRow_nil (w : World) : ApRow w (.slice none 0 0) [] := ⟨none, 0, rfl, by simp, fun h => absurd rfl h⟩

set_option maxRecDepth 100000 in
set_option maxHeartbeats 4000000 in
theorem rtrees_any (vl vi : Value) (l : List Ob) (a b : List UInt8) (w : World) (hs : SrcRow w (.agg #[vl, vi]) l) (ha : a.length = 32) (hb : b.length = 32) :
    Calls Tryz.prog 36 #[.agg #[vl, vi], .agg (idC a).toArray, .agg (idC b).toArray] w fun e w' => ∃ v, e = .returned (.tuple #[v, .int .i64 (errOf (treesF (getS l) a b))]) ∧ ApRow w' v (apsOf (treesF (getS l) a b)) ∧ Below w.heap.size w w' := by
  have h32a := h32_of (us := idC a) (by rw [idC_len, ha])
  have h32b := h32_of (us := idC b) (by rw [idC_len, hb])
  have HFA := Lib.hid (fun W (h : Below w.heap.size w W) => rfilesof_any vl vi l a W (hs.below h) ha)
  have HFB := Lib.hid (fun W (h : Below w.heap.size w W) => rfilesof_any vl vi l b W (hs.below h) hb)
  obtain ⟨W, hW⟩ : ∃ W, W = ((w.alloc (.cells #[vl, vi] 30)).alloc (.cells (idC a).toArray 24)).alloc (.cells (idC b).toArray 24) := ⟨_, rfl⟩
  have hbW : Below w.heap.size w W := by rw [hW]; exact (((Below.refl _ _).alloc (Nat.le_refl _) _).alloc (by simp) _).alloc (by simp; omega) _
  have hA := ((Arr.ofList w [vl, vi] 30).alloc (by simp) (.cells (idC a).toArray 24)).alloc (by simp) (.cells (idC b).toArray 24)
  have c0 : W.cell? ⟨w.heap.size, 0, none⟩ = some vl := by rw [hW]; exact hA.cell 0 (by simp)
  have c1 : W.cell? ⟨w.heap.size, 1, none⟩ = some vi := by rw [hW]; exact hA.cell 1 (by simp)
  have hra : W.rangeAt (w.heap.size + 1) 0 (idC a) := by
    rw [hW]
    exact rangeAt_below (range_new _ _ _ (by simp) : ((w.alloc (.cells #[vl, vi] 30)).alloc (.cells (idC a).toArray 24)).rangeAt (w.heap.size + 1) 0 (idC a)) ((Below.refl _ _).alloc (Nat.le_refl _) _) (by simp)
  have hrb : W.rangeAt (w.heap.size + 1 + 1) 0 (idC b) := by rw [hW]; exact range_new _ _ _ (by simp)
  have hszW : W.heap.size = w.heap.size + 1 + 1 + 1 := by rw [hW]; simp
  have hraE : (((w.alloc (.cells #[vl, vi] 30)).alloc (.cells (idC a).toArray 24)).alloc (.cells (idC b).toArray 24)).rangeAt (w.heap.size + 1) 0 (idC a) := by rw [← hW]; exact hra
  have hrbE : (((w.alloc (.cells #[vl, vi] 30)).alloc (.cells (idC a).toArray 24)).alloc (.cells (idC b).toArray 24)).rangeAt (w.heap.size + 1 + 1) 0 (idC b) := by rw [← hW]; exact hrb
  have heq := id_eqIn a b ha hb
  have HBW := Lib.hid hbW
  have HAB : Hid ((a == b) = decide (a = b)) := Lib.hid (by by_cases h : a = b <;> simp [h])
  clear hbW hA ha hb hs
  generalize idC a = ua at h32a HFA hW hra heq hraE hrbE
  generalize idC b = ub at h32b HFB hW hrb heq hraE hrbE
  go_enter Tryz.func36, Tryz.ntmps36
  by_cases he : a = b
  · have HT := Lib.hid (treesF_same (get := getS l) he)
    rw [HAB.out, show decide (a = b) = true from decide_eq_true he] at heq
    clear he
    go_wp2_with (first
      | (refine wpList_load_mid rfl 24 _ rfl (w.heap.size + 1) 0 rfl ua _ hraE Tryz.underlying24 rfl h32a ?_)
      | refine wpList_load_mid rfl 24 _ rfl (w.heap.size + 1 + 1) 0 rfl ub _ hrbE Tryz.underlying24 rfl h32b ?_)
    rw [← hW]
    go_ret2
    exact ⟨_, by rw [HT.out]; rfl, by rw [HT.out]; exact apRow_nil _, HBW.out⟩
  · rw [HAB.out, show decide (a = b) = false from decide_eq_false he] at heq
    have HNE := Lib.hid he
    clear he
    go_wp2_with (first
      | refine wpList_load_mid rfl 24 _ rfl (w.heap.size + 1) 0 rfl ua _ hraE Tryz.underlying24 rfl h32a ?_
      | refine wpList_load_mid rfl 24 _ rfl (w.heap.size + 1 + 1) 0 rfl ub _ hrbE Tryz.underlying24 rfl h32b ?_)
    first | rw [← hW] | skip
    refine (HFA.out W HBW.out).mono ?_
    rintro e w1 ⟨va, rfl, hva, hca, hb1⟩
    have HB1 := Lib.hid (HBW.out.trans (hb1.mono HBW.out.size))
    have q0 := below_load c0 hb1 (by omega)
    have q1 := below_load c1 hb1 (by omega)
    have qb := rangeAt_below hrb hb1 (by omega)
    clear hra c0 c1 hrb
    cases hfa : filesF (getS l) a with
    | inl c =>
      obtain ⟨hc1, hc2⟩ := hca c hfa
      have HT := Lib.hid (treesF_one HNE.out hfa)
      have d5 : ((c : Int) != 0) = true := by rw [bne_iff_ne]; omega
      clear hfa hva hca
      simp only [errOf]
      go_wp2
      go_ret2
      exact ⟨_, by rw [HT.out]; rfl, by rw [HT.out]; exact apRow_nil _, HB1.out⟩
    | inr x =>
      obtain ⟨hx1, hx2⟩ := hva x hfa
      have HFX := Lib.hid hfa
      clear hca hva hfa
      simp only [errOf]
      go_wp2_with (refine wpList_load_mid rfl 24 _ rfl (w.heap.size + 1 + 1) 0 rfl ub _ qb Tryz.underlying24 rfl h32b ?_)
      refine (HFB.out w1 HB1.out).mono ?_
      rintro e w2 ⟨vb, rfl, hvb, hcb, hb2⟩
      have HB2 := Lib.hid (HB1.out.trans (hb2.mono HB1.out.size))
      have HX := Lib.hid (RowOf.below hx1 hb2)
      clear qb q0 q1 hx1
      cases hfb : filesF (getS l) b with
      | inl c =>
        obtain ⟨hc1, hc2⟩ := hcb c hfb
        have HT := Lib.hid (treesF_two HNE.out HFX.out hfb)
        have d5 : ((c : Int) != 0) = true := by rw [bne_iff_ne]; omega
        clear hfb hvb hcb
        simp only [errOf]
        go_wp2
        go_ret2
        exact ⟨_, by rw [HT.out]; rfl, by rw [HT.out]; exact apRow_nil _, HB2.out⟩
      | inr y =>
        obtain ⟨hy1, hy2⟩ := hvb y hfb
        have HT := Lib.hid (treesF_both HNE.out HFX.out hfb)
        have HC := Lib.hid (rfiles_any va vb x y w2 HX.out hy1 (fun f hf => by have := filesF_small HFX.out f hf; omega) (fun f hf => by have := filesF_small hfb f hf; omega) (by omega))
        clear hfb hvb hcb hy1
        simp only [errOf]
        go_wp2_with fail
        refine HC.out.mono ?_
        rintro e w3 ⟨o, rfl, ho, hb3⟩
        have HB3 := Lib.hid (HB2.out.trans (hb3.mono HB2.out.size))
        have HO := Lib.hid ho
        clear ho hb3
        go_wp2
        go_ret2
        exact ⟨_, by rw [HT.out]; rfl, by rw [HT.out]; exact HO.out, HB3.out⟩
end Go.Proofs.YtbmiiiccnoiffaaGreatDoor
