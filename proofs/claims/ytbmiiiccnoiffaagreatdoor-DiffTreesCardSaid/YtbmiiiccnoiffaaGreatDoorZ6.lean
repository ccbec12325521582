/- Walks: all files of a tree, how trees are apart (the program's). -/
import Derived.Test.YtbmiiiccnoiffaaGreatDoorZ5
import Derived.Test.YtbmiiiccnoiffaaGreatDoorX4
import Derived.Test.YtbmiiiccnoiffaaGreatDoorJK
namespace Go.Proofs.YtbmiiiccnoiffaaGreatDoor
open Go.RowKit

theorem pwalk_all (wb ob lb mb nm base : Nat) (f : List UInt8 → Option Ob) (hf : ∀ x o, f x = some o → rightOb o = true) (hB : WB wb ob lb mb base) : ∀ d, d ≤ 8 → WalkC wb ob lb mb nm base f (8 - d) (walkF f d)
  | 0, _ => by
    have := pwalk_step wb ob lb mb nm base f hf hB 8 (Nat.le_refl _) (fun _ _ _ _ => .inl 4) (fun h => absurd h (by omega))
    exact this
  | d + 1, h => by
    have := pwalk_step wb ob lb mb nm base f hf hB (8 - (d + 1)) (by omega) (walkF f d) (fun _ => by
      rw [show 8 - (d + 1) + 1 = 8 - d from by omega]
      exact pwalk_all wb ob lb mb nm base f hf hB d (by omega))
    rw [show decide (8 - (d + 1) = 8) = false from decide_eq_false (by omega)] at this
    exact this

theorem loopF_body {get : List UInt8 → Option Ob} (hg : ∀ x o, get x = some o → o.body.size ≤ 4096) {deep : Bool} {rec : List UInt8 → ByteArray → Lfs → Nat → FRes} {ahead : ByteArray}
    (hrec : deep = false → ∀ x (a : ByteArray) (l : Lfs) n y, (∀ f ∈ l, f.2.size ≤ 4096) → rec x a l n = .inr y → ∀ f ∈ y.1, f.2.size ≤ 4096) :
    ∀ (es : List Ent) (l : Lfs) n y, (∀ f ∈ l, f.2.size ≤ 4096) → loopF get deep rec ahead es l n = .inr y → ∀ f ∈ y.1, f.2.size ≤ 4096
  | [], l, n, y, hl, h, f, hf => by
    unfold loopF at h
    cases h
    exact hl f hf
  | e :: es, l, n, y, hl, h, f, hf => by
    unfold loopF at h
    cases hd : deep with
    | true => rw [if_pos hd] at h; cases h
    | false =>
      rw [if_neg (by rw [hd]; simp)] at h
      by_cases hk : e.kind = 2
      · rw [if_pos hk] at h
        cases hr : rec e.id (ahead ++ e.name ++ slashL) l n with
        | inl c => rw [hr] at h; cases h
        | inr z =>
          rw [hr] at h
          exact loopF_body hg hrec es z.1 z.2 y (hrec hd _ _ _ _ _ hl hr) h f hf
      · rw [if_neg hk] at h
        cases hge : get e.id with
        | none => rw [hge] at h; cases h
        | some b =>
          rw [hge] at h
          dsimp only at h
          by_cases hb : b.kind = 1
          · rw [if_pos hb] at h
            by_cases h3 : l.length = 300
            · rw [if_pos h3] at h; cases h
            · rw [if_neg h3] at h
              refine loopF_body hg hrec es _ n y (fun f' hf' => ?_) h f hf
              rcases List.mem_append.1 hf' with h1 | h1
              · exact hl f' h1
              · obtain rfl := List.mem_singleton.1 h1
                exact hg _ _ hge
          · rw [if_neg hb] at h; cases h
theorem walkG_body {get : List UInt8 → Option Ob} (hg : ∀ x o, get x = some o → o.body.size ≤ 4096) {deep : Bool} {rec : List UInt8 → ByteArray → Lfs → Nat → FRes}
    (hrec : deep = false → ∀ x (a : ByteArray) (l : Lfs) n y, (∀ f ∈ l, f.2.size ≤ 4096) → rec x a l n = .inr y → ∀ f ∈ y.1, f.2.size ≤ 4096)
    (x : List UInt8) (ahead : ByteArray) (l : Lfs) (n : Nat) (y : Lfs × Nat) (hl : ∀ f ∈ l, f.2.size ≤ 4096) (h : walkG get deep rec x ahead l n = .inr y) : ∀ f ∈ y.1, f.2.size ≤ 4096 := by
  unfold walkG at h
  by_cases h3 : 300 < n + 1
  · rw [if_pos h3] at h; cases h
  · rw [if_neg h3] at h
    cases ht : treeG get x with
    | none => rw [ht] at h; cases h
    | some es =>
      rw [ht] at h
      exact loopF_body hg hrec es l (n + 1) y hl h
theorem walkF_body {get : List UInt8 → Option Ob} (hg : ∀ x o, get x = some o → o.body.size ≤ 4096) : ∀ d x (ahead : ByteArray) (l : Lfs) n y, (∀ f ∈ l, f.2.size ≤ 4096) → walkF get d x ahead l n = .inr y → ∀ f ∈ y.1, f.2.size ≤ 4096
  | 0, x, ahead, l, n, y, hl, h => walkG_body hg (fun h => by cases h) x ahead l n y hl h
  | d + 1, x, ahead, l, n, y, hl, h => walkG_body hg (fun _ x' a' l' n' y' hl' h' => walkF_body hg d x' a' l' n' y' hl' h') x ahead l n y hl h
theorem filesF_body {get : List UInt8 → Option Ob} (hg : ∀ x o, get x = some o → o.body.size ≤ 4096) {x : List UInt8} {y : Lfs} (h : filesF get x = .inr y) : ∀ f ∈ y, f.2.size ≤ 4096 := by
  unfold filesF at h
  cases hw : walkF get 8 x ByteArray.empty [] 0 with
  | inl c => rw [hw] at h; cases h
  | inr z =>
    rw [hw] at h
    have e : z.1 = y := Sum.inr.inj h
    rw [← e]
    exact walkF_body hg 8 x ByteArray.empty [] 0 z (fun f hf => by cases hf) hw
def PFAns (f : List UInt8 → Option Ob) (x : List UInt8) (w : World) (e : Ending) (w' : World) : Prop :=
  ∃ v, e = .returned (.tuple #[v, .int .i64 (errOf (filesF f x))]) ∧ (∀ y, filesF f x = .inr y → LeafRow w' v y ∧ y.length ≤ 300) ∧ (∀ c, filesF f x = .inl c → v = .slice none 0 0 ∧ 0 < c ∧ c < 100) ∧ Below w.heap.size w w'
theorem pfAns_err {f : List UInt8 → Option Ob} {x : List UInt8} {w w' : World} {c : Nat} (h : filesF f x = .inl c) (h0 : 0 < c) (h1 : c < 100) (hb : Below w.heap.size w w') : PFAns f x w (.returned (.tuple #[.slice none 0 0, .int .i64 (c : Int)])) w' :=
  ⟨_, by rw [h]; rfl, (fun y hy => by rw [h] at hy; cases hy), (fun c' hc => by rw [h] at hc; cases hc; exact ⟨rfl, h0, h1⟩), hb⟩
theorem pfAns_ok {f : List UInt8 → Option Ob} {x : List UInt8} {w w' : World} {y : Lfs} {v : Value} (h : filesF f x = .inr y) (hr : LeafRow w' v y) (hl : y.length ≤ 300) (hb : Below w.heap.size w w') : PFAns f x w (.returned (.tuple #[v, .int .i64 0])) w' :=
  ⟨_, by rw [h]; rfl, (fun y' hy => by rw [h] at hy; cases hy; exact ⟨hr, hl⟩), (fun c' hc => by rw [h] at hc; cases hc), hb⟩

set_option maxRecDepth 100000 in
set_option maxHeartbeats 4000000 in
theorem pfiles_any (v : Value) (f : List UInt8 → Option Ob) (hf : ∀ x o, f x = some o → rightOb o = true) (x : List UInt8) (w : World) (hs : SrcP w v f) (hx : x.length = 32) :
    Calls Tryz.prog 44 #[v, .agg (idC x).toArray] w (PFAns f x w) := by
  obtain ⟨lb, mb, nm, rfl, hc, hm⟩ := hs
  have hlb : lb < w.heap.size := World.block_lt_of_cell? w _ hc
  have hlm := hm.lt
  have hB : WB (w.heap.size + 1 + 1) (w.heap.size + 1) lb mb (w.heap.size + 1 + 1 + 1) := ⟨by omega, by omega, by omega, by omega, by omega, by omega, by omega, by omega, by omega⟩
  have hWC := pwalk_all (w.heap.size + 1 + 1) (w.heap.size + 1) lb mb nm (w.heap.size + 1 + 1 + 1) f hf hB 8 (Nat.le_refl _)
  have h32x := h32_of (us := idC x) (by rw [idC_len, hx])
  obtain ⟨W, hW⟩ : ∃ W, W = ((w.alloc (.cells (idC x).toArray 24)).alloc (.cells #[.slice none 0 0] 62)).alloc (.cells #[.iface 105 (.pointer (some ⟨lb, 0, none⟩)), .func (.func 79) #[] #[.pointer (some ⟨w.heap.size + 1, 0, none⟩)], .int .i64 0] 140) := ⟨_, rfl⟩
  have hbW : Below w.heap.size w W := by rw [hW]; exact (((Below.refl _ _).alloc (Nat.le_refl _) _).alloc (by simp) _).alloc (by simp; omega) _
  have hsW : W.heap.size = w.heap.size + 1 + 1 + 1 := by rw [hW]; simp
  have hrW : W.rangeAt w.heap.size 0 (idC x) := by
    rw [hW]
    exact rangeAt_below (range_new w (idC x) 24 rfl) (((Below.refl _ _).alloc (Nat.le_refl _) _).alloc (by simp) _) (by simp)
  have hWS : WS (w.heap.size + 1 + 1) (w.heap.size + 1) lb mb nm (w.heap.size + 1 + 1 + 1) f [] 0 (.slice none 0 0) W := by
    refine ⟨?_, ?_, World.ownsRow_nil _ _ _ _, below_load hc hbW hlb, hm.below hbW hlm, by omega⟩
    · rw [hW]
      have := Arr.ofList ((w.alloc (.cells (idC x).toArray 24)).alloc (.cells #[.slice none 0 0] 62)) [.iface 105 (.pointer (some ⟨lb, 0, none⟩)), .func (.func 79) #[] #[.pointer (some ⟨w.heap.size + 1, 0, none⟩)], .int .i64 0] 140
      rw [World.size_alloc, World.size_alloc] at this
      exact this.congr fun k hk => by
        obtain h | h | h : k = 0 ∨ k = 1 ∨ k = 2 := by simp at hk; omega
        all_goals subst h; rfl
    · rw [hW]
      have := (Arr.ofList (w.alloc (.cells (idC x).toArray 24)) [.slice none 0 0] 62).alloc (by simp) (.cells #[.iface 105 (.pointer (some ⟨lb, 0, none⟩)), .func (.func 79) #[] #[.pointer (some ⟨w.heap.size + 1, 0, none⟩)], .int .i64 0] 140)
      rw [World.size_alloc] at this
      exact this.congr fun k hk => by
        obtain h : k = 0 := by simp at hk; omega
        subst h; rfl
  have HC := Lib.hid (hWC x ByteArray.empty (.slice none 0 0) [] 0 W hx (by simp) (by simp) (by omega) hWS)
  have HEQ := Lib.hid (filesF_eq f x)
  have HBW := Lib.hid hbW
  have HSW := Lib.hid hsW
  clear hB hWC hbW hsW hWS hx hf hm
  generalize idC x = ux at h32x HC hW hrW
  have hrX := hrW
  rw [hW] at hrX
  have HRX := Lib.hid hrX
  have HWE := Lib.hid hW
  clear hW hrW hrX
  go_enter Tryz.func44, Tryz.ntmps44
  go_wp2_with (refine wpList_load_mid rfl 24 _ rfl w.heap.size 0 rfl ux _ HRX.out Tryz.underlying24 rfl h32x ?_)
  rw [← HWE.out]
  clear HWE HRX hc
  refine HC.out.mono ?_
  intro e w1 h
  clear HC
  rcases HEQ.out with ⟨c, h1, h2⟩ | ⟨y, h1, h2⟩
  · rw [h1] at h
    obtain ⟨rfl, hc1, hc2, v', hk⟩ := h
    have H2 := Lib.hid h2
    have HB1 := Lib.hid (HBW.out.trans (hk.bw w.heap.size (by omega) (by omega) (fun g hg => by cases hg) (by have := HSW.out; omega)))
    have d5 : ((c : Int) != 0) = true := by rw [bne_iff_ne]; omega
    clear h1 h2 hk HEQ
    go_wp2
    go_ret2
    exact pfAns_err H2.out hc1 hc2 HB1.out
  · rw [h1] at h
    obtain ⟨ly, ny⟩ := y
    obtain ⟨rfl, hy1, hy2, v', hs', hk⟩ := h
    have H2 := Lib.hid h2
    have HB1 := Lib.hid (HBW.out.trans (hk.bw w.heap.size (by omega) (by omega) (fun g hg => by cases hg) (by have := HSW.out; omega)))
    have HROW := Lib.hid (leafRow_own hs'.own)
    have c1 : w1.cell? ⟨w.heap.size + 1, 0, none⟩ = some v' := hs'.o.cell 0 (by omega)
    clear h1 h2 hk HEQ hs'
    go_wp2
    go_ret2
    exact pfAns_ok H2.out HROW.out hy1 HB1.out

def PTAns (f : List UInt8 → Option Ob) (a b : List UInt8) (w : World) (e : Ending) (w' : World) : Prop :=
  ∃ v, e = .returned (.tuple #[v, .int .i64 (errOf (treesF f a b))]) ∧ ApRow w' v (apsOf (treesF f a b)) ∧ Below w.heap.size w w'
theorem ptAns_of {f : List UInt8 → Option Ob} {a b : List UInt8} {w w' : World} {v : Value} {n : Int} {r : Sum Nat (List (ByteArray × Nat))} (h : treesF f a b = r) (he : n = errOf r) (hr : ApRow w' v (apsOf r)) (hb : Below w.heap.size w w') : PTAns f a b w (.returned (.tuple #[v, .int .i64 n])) w' :=
  ⟨v, by rw [h, he], by rw [h]; exact hr, hb⟩

set_option maxRecDepth 100000 in
set_option maxHeartbeats 4000000 in
theorem ptrees_any (v : Value) (f : List UInt8 → Option Ob) (hf : ∀ x o, f x = some o → rightOb o = true) (a b : List UInt8) (w : World) (hs : SrcP w v f) (ha : a.length = 32) (hb : b.length = 32) (hm : MaxAt w) :
    Calls Tryz.prog 35 #[v, .agg (idC a).toArray, .agg (idC b).toArray] w (PTAns f a b w) := by
  have h32a := h32_of (us := idC a) (by rw [idC_len, ha])
  have h32b := h32_of (us := idC b) (by rw [idC_len, hb])
  have HFA := Lib.hid (fun W (h : Below w.heap.size w W) => pfiles_any v f hf a W (hs.below h) ha)
  have HFB := Lib.hid (fun W (h : Below w.heap.size w W) => pfiles_any v f hf b W (hs.below h) hb)
  obtain ⟨W, hW⟩ : ∃ W, W = (w.alloc (.cells (idC a).toArray 24)).alloc (.cells (idC b).toArray 24) := ⟨_, rfl⟩
  have hbW : Below w.heap.size w W := by rw [hW]; exact ((Below.refl _ _).alloc (Nat.le_refl _) _).alloc (by simp) _
  have hra : W.rangeAt w.heap.size 0 (idC a) := by
    rw [hW]; exact rangeAt_below (range_new w (idC a) 24 rfl) ((Below.refl _ _).alloc (Nat.le_refl _) _) (by simp)
  have hrb : W.rangeAt (w.heap.size + 1) 0 (idC b) := by rw [hW]; exact range_new _ _ _ (by simp)
  have hsW : W.heap.size = w.heap.size + 1 + 1 := by rw [hW]; simp
  have hraX := hra
  have hrbX := hrb
  rw [hW] at hraX hrbX
  have heq := id_eqIn a b ha hb
  have HAB : Hid ((a == b) = decide (a = b)) := Lib.hid (by by_cases h : a = b <;> simp [h])
  have HBW := Lib.hid hbW
  have HSW := Lib.hid hsW
  have HRA := Lib.hid hra
  have HRB := Lib.hid hrb
  have HRAX := Lib.hid hraX
  have HRBX := Lib.hid hrbX
  have HM := Lib.hid hm
  have HWE := Lib.hid hW
  clear hbW hra hrb hsW hraX hrbX hm hW ha hb hs
  generalize idC a = ua at h32a HFA HWE HRA HRAX heq HRBX
  generalize idC b = ub at h32b HFB HWE HRB HRBX heq HRAX
  by_cases he : a = b
  · have HT := Lib.hid (treesF_same (get := f) he)
    rw [HAB.out, show decide (a = b) = true from decide_eq_true he] at heq
    clear he
    go_enter Tryz.func35, Tryz.ntmps35
    go_wp2_with (first
      | (refine wpList_load_mid rfl 24 _ rfl w.heap.size 0 rfl ua _ HRAX.out Tryz.underlying24 rfl h32a ?_)
      | refine wpList_load_mid rfl 24 _ rfl (w.heap.size + 1) 0 rfl ub _ HRBX.out Tryz.underlying24 rfl h32b ?_)
    rw [← HWE.out]
    go_ret2
    exact ptAns_of HT.out rfl (apRow_nil _) HBW.out
  · rw [HAB.out, show decide (a = b) = false from decide_eq_false he] at heq
    have HNE := Lib.hid he
    clear he
    go_enter Tryz.func35, Tryz.ntmps35
    go_upto_region 3 with ((first
      | (refine wpList_load_mid rfl 24 _ rfl w.heap.size 0 rfl ua _ HRAX.out Tryz.underlying24 rfl h32a ?_)
      | refine wpList_load_mid rfl 24 _ rfl (w.heap.size + 1) 0 rfl ub _ HRBX.out Tryz.underlying24 rfl h32b ?_))
    rw [← HWE.out]
    go_wp2_with (refine wpList_load_mid rfl 24 _ rfl w.heap.size 0 rfl ua _ HRA.out Tryz.underlying24 rfl h32a ?_)
    refine (HFA.out W HBW.out).mono ?_
    intro e w1 h
    obtain ⟨va, rfl, hva, hca, hb1⟩ := h
    have HB1 := Lib.hid (HBW.out.trans (hb1.mono HBW.out.size))
    have hrb1 := rangeAt_below HRB.out hb1 (by rw [HSW.out]; omega)
    clear HRAX HRBX HRA HWE
    cases hfa : filesF f a with
    | inl c =>
      obtain ⟨rfl, hc1, hc2⟩ := hca c hfa
      have HT := Lib.hid (treesF_one HNE.out hfa)
      have d5 : ((c : Int) != 0) = true := by rw [bne_iff_ne]; omega
      clear hfa hva hca hrb1 hb1
      simp only [errOf]
      go_wp2
      go_ret2
      exact ptAns_of HT.out rfl (apRow_nil _) HB1.out
    | inr xa =>
      obtain ⟨hx1, hx2⟩ := hva xa hfa
      have HFX := Lib.hid hfa
      have HRB1 := Lib.hid hrb1
      clear hca hva hfa hrb1 hb1
      simp only [errOf]
      go_wp2_with (refine wpList_load_mid rfl 24 _ rfl (w.heap.size + 1) 0 rfl ub _ HRB1.out Tryz.underlying24 rfl h32b ?_)
      refine (HFB.out w1 HB1.out).mono ?_
      intro e w2 h
      obtain ⟨vb, rfl, hvb, hcb, hb2⟩ := h
      have HB2 := Lib.hid (HB1.out.trans (hb2.mono HB1.out.size))
      have HX := Lib.hid (RowOf.below hx1 hb2)
      clear hx1
      cases hfb : filesF f b with
      | inl c =>
        obtain ⟨rfl, hc1, hc2⟩ := hcb c hfb
        have HT := Lib.hid (treesF_two HNE.out HFX.out hfb)
        have d5 : ((c : Int) != 0) = true := by rw [bne_iff_ne]; omega
        clear hfb hvb hcb hb2
        simp only [errOf]
        go_wp2
        go_ret2
        exact ptAns_of HT.out rfl (apRow_nil _) HB2.out
      | inr y =>
        obtain ⟨hy1, hy2⟩ := hvb y hfb
        have hgb : ∀ x o, f x = some o → o.body.size ≤ 4096 := fun x o h => right_small (hf x o h)
        have HT := Lib.hid (treesF_both HNE.out HFX.out hfb)
        have HC := Lib.hid (dfiles_any va vb xa y w2 HX.out hy1 (fun g hg => by have := filesF_small HFX.out g hg; have := filesF_body hgb HFX.out g hg; omega) (fun g hg => by have := filesF_small hfb g hg; have := filesF_body hgb hfb g hg; omega) (by omega) (by omega) (HM.out.step HB2.out))
        clear hfb hvb hcb hy1 hgb hb2
        simp only [errOf]
        go_wp2_with fail
        refine HC.out.mono ?_
        rintro e w3 ⟨o, rfl, ho, hb3⟩
        have HB3 := Lib.hid (HB2.out.trans (hb3.mono HB2.out.size))
        have HO := Lib.hid ho
        clear ho hb3
        go_wp2
        go_ret2
        exact ptAns_of HT.out rfl HO.out HB3.out
end Go.Proofs.YtbmiiiccnoiffaaGreatDoor
