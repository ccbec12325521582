/- Walks: all files of a tree (the document's): one level. -/
import Derived.Test.YtbmiiiccnoiffaaGreatDoorJI
import Derived.Test.YtbmiiiccnoiffaaGreatDoorJE
import Derived.Test.YtbmiiiccnoiffaaGreatDoorJF
namespace Go.Proofs.YtbmiiiccnoiffaaGreatDoor
open Go.RowKit

def lfC (f : ByteArray × ByteArray) : List Value := [.string f.1, .string f.2]
def lfsF (l : Lfs) : List Value := (l.map lfC).flatten
theorem lfsF_snoc (l : Lfs) (f : ByteArray × ByteArray) : lfsF (l ++ [f]) = lfsF l ++ lfC f := by simp [lfsF]
theorem infoLeaf : (Tryz.prog.info? 82).map (fun i => (i.zero, i.size, i.bytes)) = some (some (.agg #[.string ⟨#[]⟩, .string ⟨#[]⟩]), 2, 32) := by kernel_rfl
/-- What comes of a tree's files. -/
def FilesR (B : Nat) (w' : World) (vf vr : Value) (nr er : Int) (w : World) : FRes → Prop
  | .inl c => er = c ∧ 0 < c ∧ c < 100
  | .inr y => er = 0 ∧ nr = y.2 ∧ y.1.length ≤ 300 ∧ y.2 ≤ 300 ∧ w'.ownsRow B 82 2 vr y.1.length (lfsF y.1) ∧ Fr w vf vr
def FilesC (v : Value) (w0 : World) (D : Nat) (walk : List UInt8 → ByteArray → Lfs → Nat → FRes) : Prop :=
  ∀ (x : List UInt8) (ahead : ByteArray) (vf : Value) (lf : Lfs) (n : Nat) (w : World), x.length = 32 → ahead.size ≤ 40 * D → lf.length ≤ 300 → n ≤ 300 → Below w0.heap.size w0 w → w.ownsRow w0.heap.size 82 2 vf lf.length (lfsF lf) →
    Calls Tryz.prog 81 #[v, .agg (idC x).toArray, .string ahead, .int .i64 (D : Int), vf, .int .i64 (n : Int)] w fun e w' =>
      ∃ vr nr er, e = .returned (.tuple #[vr, .int .i64 nr, .int .i64 er]) ∧ FilesR w0.heap.size w' vf vr nr er w (walk x ahead lf n) ∧ w.grownBy w' vf.ownBlock

section
variable {get : List UInt8 → Option Ob} {rec : List UInt8 → ByteArray → Lfs → Nat → FRes} {ahead : ByteArray} {e : Ent} {es : List Ent} {l : Lfs} {n : Nat}
theorem loopF_deep : loopF get true rec ahead (e :: es) l n = .inl 11 := rfl
theorem loopF_err {c : Nat} (h : e.kind = 2) (hr : rec e.id (ahead ++ e.name ++ slashL) l n = .inl c) : loopF get false rec ahead (e :: es) l n = .inl c := by
  unfold loopF; rw [if_neg (by decide), if_pos h, hr]
theorem loopF_ok {y : Lfs × Nat} (h : e.kind = 2) (hr : rec e.id (ahead ++ e.name ++ slashL) l n = .inr y) : loopF get false rec ahead (e :: es) l n = loopF get false rec ahead es y.1 y.2 := by
  conv => lhs; unfold loopF
  rw [if_neg (by decide), if_pos h, hr]
theorem loopF_none (h : ¬ e.kind = 2) (hg : get e.id = none) : loopF get false rec ahead (e :: es) l n = .inl 13 := by
  unfold loopF; rw [if_neg (by decide), if_neg h, hg]
theorem loopF_wrong {b : Ob} (h : ¬ e.kind = 2) (hg : get e.id = some b) (hb : ¬ b.kind = 1) : loopF get false rec ahead (e :: es) l n = .inl 13 := by
  unfold loopF; rw [if_neg (by decide), if_neg h, hg]; dsimp only; rw [if_neg hb]
theorem loopF_full {b : Ob} (h : ¬ e.kind = 2) (hg : get e.id = some b) (hb : b.kind = 1) (hl : l.length = 300) : loopF get false rec ahead (e :: es) l n = .inl 4 := by
  unfold loopF; rw [if_neg (by decide), if_neg h, hg]; dsimp only; rw [if_pos hb, if_pos hl]
theorem loopF_file {b : Ob} (h : ¬ e.kind = 2) (hg : get e.id = some b) (hb : b.kind = 1) (hl : ¬ l.length = 300) : loopF get false rec ahead (e :: es) l n = loopF get false rec ahead es (l ++ [(ahead ++ e.name, b.body)]) n := by
  conv => lhs; unfold loopF
  rw [if_neg (by decide), if_neg h, hg]; dsimp only; rw [if_pos hb, if_neg hl]
end
theorem grown_drew {W w2 : World} {r : Option Nat} (h : W.drew.grownBy w2 r) : W.grownBy w2 r := ⟨h.os, h.tape, h.output, h.size, h.block⟩
theorem ret_three {a b c : Value} {a' b' c' : Value} (h1 : a = a') (h2 : b = b') (h3 : c = c') : Ending.returned (.tuple #[a, b, c]) = .returned (.tuple #[a', b', c']) := by rw [h1, h2, h3]

set_option maxRecDepth 100000 in
set_option maxHeartbeats 8000000 in
theorem rfiles_step (vl vi : Value) (l : List Ob) (w0 : World) (hs : SrcRow w0 (.agg #[vl, vi]) l) (D : Nat) (hD : D ≤ 8) (rec : List UInt8 → ByteArray → Lfs → Nat → FRes) (hrec : D < 8 → FilesC (.agg #[vl, vi]) w0 (D + 1) rec) :
    FilesC (.agg #[vl, vi]) w0 D (walkG (getS l) (decide (D = 8)) rec) := by
  intro x ahead vf lf n w hx hah hlf hn hbw hown
  obtain ⟨lo, lc, rfl⟩ := own_form hown
  obtain ⟨iL, hiL⟩ := info_parts infoLeaf
  have HIL := Lib.hid hiL
  clear hiL
  have HREC := Lib.hid hrec
  have HGET : Hid (∀ W, Below w0.heap.size w0 W → ∀ (y : List UInt8), y.length = 32 → Calls Tryz.prog 86 #[.agg #[vl, vi], .agg (idC y).toArray] W fun e w' => e = .returned (.tuple #[.agg #[.int .i64 ((getS l y).getD ob0).kind, .string ((getS l y).getD ob0).body], .bool (getS l y).isSome]) ∧ Below W.heap.size W w') :=
    Lib.hid (fun W hb y hy => rget_any (.agg #[vl, vi]) l y W (hs.below hb) hy)
  have HBW := Lib.hid hbw
  have HOWN := Lib.hid hown
  have HX := Lib.hid hx
  have hxl : (idC x).length = 32 := by rw [idC_len, hx]
  have h32x := h32_of hxl
  have HG1 := Lib.hid (fun W hb => HGET.out W hb x hx)
  have HOB : Hid (∀ o : Ob, (Tryz.prog.info? 93).map (·.size) = some [Value.int .i64 o.kind, Value.string o.body].length) := Lib.hid (fun o => by kernel_rfl)
  generalize hux : idC x = ux at hxl h32x HG1
  have hr1 : ((w.alloc (.cells #[vl, vi] 30)).alloc (.cells ux.toArray 24)).rangeAt (w.heap.size + 1) 0 ux := range_new _ _ _ (by simp)
  clear hux hs hrec hbw hx hxl
  by_cases h3 : 300 < n + 1
  · have HW : Hid (walkG (getS l) (decide (D = 8)) rec x ahead lf n = .inl 4) := by unfold Hid walkG; rw [if_pos h3]
    have d1 : decide ((300 : Int) < ((n : Int) + 1)) = true := decide_eq_true (by omega)
    go_enter Tryz.func81, Tryz.ntmps81
    go_wp2
    go_ret3
    exact ⟨_, _, _, rfl, by rw [HW.out]; exact ⟨rfl, by omega, by omega⟩, grown_of_below (((Below.refl _ _).alloc (Nat.le_refl _) _).alloc (by simp) _) _⟩
  · have d1 : decide ((300 : Int) < ((n : Int) + 1)) = false := decide_eq_false (by omega)
    go_enter Tryz.func81, Tryz.ntmps81
    go_wp2_with (refine wpList_load_mid rfl 24 _ rfl (w.heap.size + 1) 0 rfl ux _ hr1 Tryz.underlying24 rfl h32x ?_)
    obtain ⟨W1, hW1⟩ : ∃ W1, W1 = (w.alloc (.cells #[vl, vi] 30)).alloc (.cells ux.toArray 24) := ⟨_, rfl⟩
    have hA := (Arr.ofList w [vl, vi] 30).alloc (by simp) (.cells ux.toArray 24)
    have hB1 : Hid (Below w.heap.size w W1) := by rw [hW1]; exact Lib.hid (((Below.refl _ _).alloc (Nat.le_refl _) _).alloc (by simp) _)
    have hc0 : W1.cell? ⟨w.heap.size, 0, none⟩ = some vl := by rw [hW1]; exact hA.cell 0 (by simp)
    have hc1 : W1.cell? ⟨w.heap.size, 1, none⟩ = some vi := by rw [hW1]; exact hA.cell 1 (by simp)
    have hsz1 : w.heap.size < W1.heap.size := by rw [hW1]; simp; omega
    rw [← hW1]
    clear hW1 hA hr1
    have HC0 := Lib.hid hc0
    have HC1 := Lib.hid hc1
    clear hc0 hc1
    refine (HG1.out W1 (HBW.out.trans (hB1.out.mono HBW.out.size))).mono ?_
    rintro e w1 ⟨rfl, hb1⟩
    have HB1 := Lib.hid hb1
    have hB2 : Hid (Below w.heap.size w w1) := Lib.hid (hB1.out.trans (hb1.mono hB1.out.size))
    clear hb1
    cases hg : getS l x with
    | none =>
      have HW : Hid (walkG (getS l) (decide (D = 8)) rec x ahead lf n = .inl 13) := by
        unfold Hid walkG treeG; rw [if_neg h3, hg]
      clear hg
      dsimp only [Option.getD, Option.isSome, ob0]
      go_wp2
      go_ret3
      exact ⟨_, _, _, rfl, by rw [HW.out]; exact ⟨rfl, by omega, by omega⟩, grown_of_below (hB2.out.alloc hB2.out.size _) _⟩
    | some o =>
      obtain ⟨-, hro, -⟩ := getS_some hg
      have hos := right_small hro
      dsimp only [Option.getD, Option.isSome]
      by_cases hk2 : o.kind = 2
      · obtain ⟨es, hes⟩ : ∃ es, treeOf o.body = some es := by
          simp [rightOb, hk2] at hro
          exact Option.isSome_iff_exists.1 hro.2
        have HWG : Hid (walkG (getS l) (decide (D = 8)) rec x ahead lf n = loopF (getS l) (decide (D = 8)) rec ahead es lf (n + 1)) := by
          unfold Hid walkG treeG; rw [if_neg h3, hg]; dsimp only; rw [if_pos hk2, hes]
        have HES := Lib.hid (treeOf_some hes)
        have HEN : Hid (∀ W, Calls Tryz.prog 87 #[.string o.body] W fun e w' => ∃ v, e = .returned (.tuple #[v, .bool true]) ∧ (EntRow w' v es ∧ w'.ownsRow (W.heap.size + 1) 152 34 v es.length (es.map entC).flatten) ∧ Below W.heap.size W w') := Lib.hid (fun W => by
          have := rentries_own o.body W (by omega)
          rw [hes] at this
          exact this)
        have d2 : (o.kind != 2) = false := by rw [hk2]; rfl
        clear hg hro hes hk2
        go_wp2_with fail
        have hB3 : Hid (Below w.heap.size w (w1.alloc (.cells #[.int .i64 o.kind, .string o.body] 93))) := Lib.hid (hB2.out.alloc hB2.out.size _)
        have hB13 : Hid (Below W1.heap.size W1 (w1.alloc (.cells #[.int .i64 o.kind, .string o.body] 93))) := Lib.hid (HB1.out.alloc HB1.out.size _)
        have hsz3 : w.heap.size < (w1.alloc (.cells #[.int .i64 o.kind, .string o.body] 93)).heap.size := by have := HB1.out.size; rw [World.size_alloc]; omega
        generalize w1.alloc (.cells #[.int .i64 o.kind, .string o.body] 93) = W3 at hB3 hB13 hsz3
        refine (HEN.out W3).mono ?_
        rintro e w2 ⟨ve, rfl, ⟨her, heo⟩, hb2⟩
        have HB4 : Hid (Below w.heap.size w w2) := Lib.hid (hB3.out.trans (hb2.mono hB3.out.size))
        have c0 : w2.cell? ⟨w.heap.size, 0, none⟩ = some vl := below_load HC0.out (hB13.out.trans (hb2.mono hB13.out.size)) hsz1
        have c1 : w2.cell? ⟨w.heap.size, 1, none⟩ = some vi := below_load HC1.out (hB13.out.trans (hb2.mono hB13.out.size)) hsz1
        have hsz4 : w.heap.size < w2.heap.size := by have := hb2.size; omega
        obtain ⟨eo, ec, rfl, hem, hER⟩ := her.open
        have hne : (Value.slice lo lf.length lc).ownBlock ≠ some w.heap.size := fun e => by have := (HOWN.out.lt _ e).2; omega
        have HE : Hid (es ≠ [] → ∃ b off, eo = some ⟨b, off, none⟩ ∧ b < w2.heap.size ∧ (Value.slice lo lf.length lc).ownBlock ≠ some b ∧ ∀ k (hk : k < es.length), w2.cell? ⟨b, off + k * 34, none⟩ = some (.string es[k].name) ∧ w2.cell? ⟨b, off + k * 34 + 1, none⟩ = some (.int .i64 (es[k].kind : Int)) ∧ w2.rangeAt b (off + k * 34 + 2) (idC es[k].id)) := Lib.hid (fun hne' => by
          obtain ⟨b, off, he, hl, hc⟩ := hER hne'
          refine ⟨b, off, he, hl, fun e => ?_, hc⟩
          have h1 := (HOWN.out.lt _ e).2
          have h2 := (heo.lt b (by rw [he]; rfl)).1
          omega)
        have hown2 := own_below HOWN.out HB4.out
        have HC2 := Lib.hid c0
        have HC3 := Lib.hid c1
        have HNE := Lib.hid hne
        clear her heo hb2 hER hem hB13 HC0 HC1 hB3 HB1 hB2 hB1 c0 c1 hne HEN
        go_wp2_with fail
        go_loopw [4, 5, 19] (fun vk nv i wr => ∃ (k nk : Nat) (lk : Lfs), k ≤ es.length ∧ i = .int .i64 k ∧ nv = .int .i64 nk ∧ lk.length ≤ 300 ∧ nk ≤ 300 ∧ Hid (walkG (getS l) (decide (D = 8)) rec x ahead lf n = loopF (getS l) (decide (D = 8)) rec ahead (es.drop k) lk nk) ∧ wr.ownsRow w0.heap.size 82 2 vk lk.length (lfsF lk) ∧ Fr w2 (.slice lo lf.length lc) vk ∧ w2.grownBy wr (Value.slice lo lf.length lc).ownBlock) (fun _ _ i _ => (es.length - intOf i).toNat)
        case atStart => exact ⟨0, n + 1, lf, by omega, rfl, by go_num, hlf, by omega, HWG, hown2, Fr.refl _ _, (World.grownBy.refl _ _)⟩
        case round =>
          obtain ⟨wo, rfl⟩ : ∃ wo : World, wo = wr := ⟨_, rfl⟩
          obtain ⟨k, nk, lk, hk, rfl, rfl, hlk, hnk, hwk, hok, hfr, hgr⟩ := hrel
          have hbwo : Hid (Below w0.heap.size w0 wo) := Lib.hid ((HBW.out.trans (HB4.out.mono HBW.out.size)).grown hgr (by have := HBW.out.size; have := HB4.out.size; omega) (fun j hj => (HOWN.out.lt j hj).1))
          have e0 : wo.cell? ⟨w.heap.size, 0, none⟩ = some vl := cell_grown HC2.out hgr HNE.out
          have e1 : wo.cell? ⟨w.heap.size, 1, none⟩ = some vi := cell_grown HC3.out hgr HNE.out
          obtain ⟨ko, kc, rfl⟩ := own_form hok
          have hszo := hgr.size
          have hel := HES.out.1
          have HGR := Lib.hid hgr
          have HFR := Lib.hid hfr
          have HOK := Lib.hid hok
          clear hgr hfr hok
          by_cases hlt : k < es.length
          · obtain ⟨b, off, rfl, hbl, hnb, hce⟩ := HE.out (by intro e; rw [e] at hlt; simp at hlt)
            have HDR : Hid (es.drop k = es[k] :: es.drop (k + 1)) := Lib.hid (List.drop_eq_getElem_cons hlt)
            obtain ⟨he1, he2, he3⟩ := hce k hlt
            have f1 := cell_grown he1 HGR.out hnb
            have f2 := cell_grown he2 HGR.out hnb
            have f3 := range_grown he3 HGR.out hnb
            obtain ⟨hid, hnm, hkd⟩ := HES.out.2 es[k] (List.getElem_mem hlt)
            have k0 : (0 : Int) ≤ k := by omega
            have k1 : (k : Int) < es.length := by omega
            generalize es[k] = en at HDR f1 f2 f3 hid hnm hkd
            obtain ⟨nm, kd, id⟩ := en
            dsimp only at f1 f2 f3 hid hnm hkd
            clear hce he1 he2 he3
            by_cases h8 : D = 8
            · have HW : Hid (walkG (getS l) (decide (D = 8)) rec x ahead lf n = .inl 11) := by
                unfold Hid; rw [hwk.out, HDR.out, show decide (D = 8) = true from decide_eq_true h8]; rfl
              have d3 : ((D : Int) == 8) = true := by rw [beq_iff_eq]; omega
              clear hwk
              go_wp2
              go_ret3
              exact ⟨_, _, _, rfl, by rw [HW.out]; exact ⟨rfl, by omega, by omega⟩, below_grown' HB4.out HGR.out⟩
            · have HW0 : Hid (walkG (getS l) (decide (D = 8)) rec x ahead lf n = loopF (getS l) false rec ahead (⟨nm, kd, id⟩ :: es.drop (k + 1)) lk nk) := by
                unfold Hid; rw [hwk.out, HDR.out, show decide (D = 8) = false from decide_eq_false h8]
              have HW1 : Hid (∀ (lk' : Lfs) (nk' : Nat), walkG (getS l) (decide (D = 8)) rec x ahead lf n = loopF (getS l) false rec ahead (es.drop (k + 1)) lk' nk' → walkG (getS l) (decide (D = 8)) rec x ahead lf n = loopF (getS l) (decide (D = 8)) rec ahead (es.drop (k + 1)) lk' nk') := Lib.hid (fun lk' nk' h => by rw [h, show decide (D = 8) = false from decide_eq_false h8])
              have d3 : ((D : Int) == 8) = false := by rw [beq_eq_false_iff_ne]; omega
              have HRC := Lib.hid (HREC.out (by omega))
              clear hwk HDR
              have h32i := h32_of (us := idC id) (by rw [idC_len, hid])
              by_cases h2 : kd = 2
              · have d4 : ((kd : Int) == 2) = true := by rw [beq_iff_eq]; omega
                
                have hcat1 : ∀ W, (Op.stringOp .add ahead nm).run Tryz.prog W = .ok (.string (ahead ++ nm)) W := fun W => run_string_add_sum W _ _ (by omega)
                have hcat2 : ∀ W, (Op.stringOp .add (ahead ++ nm) ⟨#[47]⟩).run Tryz.prog W = .ok (.string (ahead ++ nm ++ slashL)) W := fun W => run_string_add_sum W _ _ (by rw [ByteArray.size_append]; show ahead.size + nm.size + 1 ≤ _; omega)
                obtain ⟨D1, hD1⟩ : ∃ D1, D1 = D + 1 := ⟨_, rfl⟩
                have hwr : IntKind.i64.wrap ((D : Int) + 1) = (D1 : Int) := by rw [hD1]; exact IntWalk.i64_in _ (by omega)
                have HCL := Lib.hid (HRC.out id (ahead ++ nm ++ slashL) (.slice ko lk.length kc) lk nk wo.drew hid (by rw [ByteArray.size_append, ByteArray.size_append]; show ahead.size + nm.size + 1 ≤ _; omega) hlk hnk hbwo.out.drew HOK.out)
                rw [← hD1] at HCL
                generalize hue : idC id = ue at f3 h32i HCL
                have hnk0 : (Value.slice ko lk.length kc).ownBlock ≠ some w.heap.size := HFR.out.ne hsz4 HNE.out
                have hnkb : (Value.slice ko lk.length kc).ownBlock ≠ some b := HFR.out.ne hbl hnb
                have hS0 : wo.drew.cell? ⟨w.heap.size, 0, none⟩ = some vl ∧ wo.drew.cell? ⟨w.heap.size, 1, none⟩ = some vi ∧ wo.drew.cell? ⟨b, off + k * 34, none⟩ = some (.string nm) ∧ wo.drew.rangeAt b (off + k * 34 + 2) ue := ⟨e0, e1, f1, f3⟩
                clear hue HRC hD1
                go_wp2
                refine wp_region_L 25 (fun w' => w'.cell? ⟨w.heap.size, 0, none⟩ = some vl ∧ w'.cell? ⟨w.heap.size, 1, none⟩ = some vi ∧ w'.cell? ⟨b, off + k * 34, none⟩ = some (.string nm) ∧ w'.rangeAt b (off + k * 34 + 2) ue) (by kernel_rfl) (by kernel_rfl) ?_
                refine WL.take (i := 0) (v := ?_) rfl (by kernel_rfl) (by decide) (by decide +kernel) (by decide +kernel) (fun _ _ _ h => h) rfl ?_ hS0 ?_
                rotate_left
                · (intro w' hSw; (try dsimp only at hSw); go_simp; (try with_reducible rfl))
                simp only [Act.put]; (try simp only [List.getElem_toArray]); (try simp only [List.getElem_cons_succ]); (try simp only [List.getElem_cons_zero]); (try simp only [List.setIfInBounds_toArray]); (try simp only [List.set_cons_succ]); (try simp only [List.set_cons_zero])
                refine WL.take (i := 1) (v := ?_) rfl (by kernel_rfl) (by decide) (by decide +kernel) (by decide +kernel) (fun _ _ _ h => h) rfl ?_ hS0 ?_
                rotate_left
                · (intro w' hSw; (try dsimp only at hSw); go_simp; (try with_reducible rfl))
                simp only [Act.put]; (try simp only [List.getElem_toArray]); (try simp only [List.getElem_cons_succ]); (try simp only [List.getElem_cons_zero]); (try simp only [List.setIfInBounds_toArray]); (try simp only [List.set_cons_succ]); (try simp only [List.set_cons_zero])
                refine WL.take (i := 2) (v := ?_) rfl (by kernel_rfl) (by decide) (by decide +kernel) (by decide +kernel) (fun _ _ _ h => h) rfl ?_ hS0 ?_
                rotate_left
                · (intro w' hSw; (try dsimp only at hSw); go_simp; (try with_reducible rfl))
                simp only [Act.put]; (try simp only [List.getElem_toArray]); (try simp only [List.getElem_cons_succ]); (try simp only [List.getElem_cons_zero]); (try simp only [List.setIfInBounds_toArray]); (try simp only [List.set_cons_succ]); (try simp only [List.set_cons_zero])
                refine WL.take (i := 3) (v := ?_) rfl (by kernel_rfl) (by decide) (by decide +kernel) (by decide +kernel) (fun _ _ _ h => h) rfl ?_ hS0 ?_
                rotate_left
                · (intro w' hSw; (try dsimp only at hSw); go_simp; (try with_reducible rfl))
                simp only [Act.put]; (try simp only [List.getElem_toArray]); (try simp only [List.getElem_cons_succ]); (try simp only [List.getElem_cons_zero]); (try simp only [List.setIfInBounds_toArray]); (try simp only [List.set_cons_succ]); (try simp only [List.set_cons_zero])
                refine WL.take (i := 4) (v := ?_) rfl (by kernel_rfl) (by decide) (by decide +kernel) (by decide +kernel) (fun _ _ _ h => h) rfl ?_ hS0 ?_
                rotate_left
                · (intro w' hSw; (try dsimp only at hSw); go_simp; (try with_reducible rfl))
                simp only [Act.put]; (try simp only [List.getElem_toArray]); (try simp only [List.getElem_cons_succ]); (try simp only [List.getElem_cons_zero]); (try simp only [List.setIfInBounds_toArray]); (try simp only [List.set_cons_succ]); (try simp only [List.set_cons_zero])
                refine WL.take (i := 5) (v := _) rfl (by kernel_rfl) (by decide) (by decide +kernel) (by decide +kernel) (fun _ _ _ h => h) rfl (fun w' hSw => exec_row 24 _ (hSw.2.2.2) Tryz.underlying24 rfl h32i _ rfl rfl) hS0 ?_
                simp only [Act.put]; (try simp only [List.getElem_toArray]); (try simp only [List.getElem_cons_succ]); (try simp only [List.getElem_cons_zero]); (try simp only [List.setIfInBounds_toArray]); (try simp only [List.set_cons_succ]); (try simp only [List.set_cons_zero])
                refine WL.take (i := 6) (v := ?_) rfl (by kernel_rfl) (by decide) (by decide +kernel) (by decide +kernel) (fun _ _ _ h => h) rfl ?_ hS0 ?_
                rotate_left
                · (intro w' hSw; (try dsimp only at hSw); go_simp; (try with_reducible rfl))
                simp only [Act.put]; (try simp only [List.getElem_toArray]); (try simp only [List.getElem_cons_succ]); (try simp only [List.getElem_cons_zero]); (try simp only [List.setIfInBounds_toArray]); (try simp only [List.set_cons_succ]); (try simp only [List.set_cons_zero])
                refine WL.take (i := 7) (v := ?_) rfl (by kernel_rfl) (by decide) (by decide +kernel) (by decide +kernel) (fun _ _ _ h => h) rfl ?_ hS0 ?_
                rotate_left
                · (intro w' hSw; (try dsimp only at hSw); go_simp; (try with_reducible rfl))
                simp only [Act.put]; (try simp only [List.getElem_toArray]); (try simp only [List.getElem_cons_succ]); (try simp only [List.getElem_cons_zero]); (try simp only [List.setIfInBounds_toArray]); (try simp only [List.set_cons_succ]); (try simp only [List.set_cons_zero])
                refine WL.take (i := 8) (v := ?_) rfl (by kernel_rfl) (by decide) (by decide +kernel) (by decide +kernel) (fun _ _ _ h => h) rfl ?_ hS0 ?_
                rotate_left
                · (intro w' hSw; (try dsimp only at hSw); go_simp; (try with_reducible rfl))
                simp only [Act.put]; (try simp only [List.getElem_toArray]); (try simp only [List.getElem_cons_succ]); (try simp only [List.getElem_cons_zero]); (try simp only [List.setIfInBounds_toArray]); (try simp only [List.set_cons_succ]); (try simp only [List.set_cons_zero])
                refine WL.take (i := 9) (v := ?_) rfl (by kernel_rfl) (by decide) (by decide +kernel) (by decide +kernel) (fun _ _ _ h => h) rfl ?_ hS0 ?_
                rotate_left
                · (intro w' hSw; (try dsimp only at hSw); go_simp; (try with_reducible rfl))
                simp only [Act.put]; (try simp only [List.getElem_toArray]); (try simp only [List.getElem_cons_succ]); (try simp only [List.getElem_cons_zero]); (try simp only [List.setIfInBounds_toArray]); (try simp only [List.set_cons_succ]); (try simp only [List.set_cons_zero])
                refine WL.take (i := 10) (v := ?_) rfl (by kernel_rfl) (by decide) (by decide +kernel) (by decide +kernel) (fun _ _ _ h => h) rfl ?_ hS0 ?_
                rotate_left
                · (intro w' hSw; (try dsimp only at hSw); go_simp; (try with_reducible rfl))
                simp only [Act.put]; (try simp only [List.getElem_toArray]); (try simp only [List.getElem_cons_succ]); (try simp only [List.getElem_cons_zero]); (try simp only [List.setIfInBounds_toArray]); (try simp only [List.set_cons_succ]); (try simp only [List.set_cons_zero])
                refine WL.take (i := 11) (v := ?_) rfl (by kernel_rfl) (by decide) (by decide +kernel) (by decide +kernel) (fun _ _ _ h => h) rfl ?_ hS0 ?_
                rotate_left
                · (intro w' hSw; (try dsimp only at hSw); go_simp; (try with_reducible rfl))
                simp only [Act.put]; (try simp only [List.getElem_toArray]); (try simp only [List.getElem_cons_succ]); (try simp only [List.getElem_cons_zero]); (try simp only [List.setIfInBounds_toArray]); (try simp only [List.set_cons_succ]); (try simp only [List.set_cons_zero])
                refine WL.take (i := 12) (v := ?_) rfl (by kernel_rfl) (by decide) (by decide +kernel) (by decide +kernel) (fun _ _ _ h => h) rfl ?_ hS0 ?_
                rotate_left
                · (intro w' hSw; (try dsimp only at hSw); go_simp; (try with_reducible rfl))
                simp only [Act.put]; (try simp only [List.getElem_toArray]); (try simp only [List.getElem_cons_succ]); (try simp only [List.getElem_cons_zero]); (try simp only [List.setIfInBounds_toArray]); (try simp only [List.set_cons_succ]); (try simp only [List.set_cons_zero])
                refine WL.take (i := 13) (v := ?_) rfl (by kernel_rfl) (by decide) (by decide +kernel) (by decide +kernel) (fun _ _ _ h => h) rfl ?_ hS0 ?_
                rotate_left
                · (intro w' hSw; (try dsimp only at hSw); go_simp; (try with_reducible rfl))
                simp only [Act.put]; (try simp only [List.getElem_toArray]); (try simp only [List.getElem_cons_succ]); (try simp only [List.getElem_cons_zero]); (try simp only [List.setIfInBounds_toArray]); (try simp only [List.set_cons_succ]); (try simp only [List.set_cons_zero])
                refine WL.take (i := 14) (v := ?_) rfl (by kernel_rfl) (by decide) (by decide +kernel) (by decide +kernel) (fun _ _ _ h => h) rfl ?_ hS0 ?_
                rotate_left
                · (intro w' hSw; (try dsimp only at hSw); go_simp; (try with_reducible rfl))
                simp only [Act.put]; (try simp only [List.getElem_toArray]); (try simp only [List.getElem_cons_succ]); (try simp only [List.getElem_cons_zero]); (try simp only [List.setIfInBounds_toArray]); (try simp only [List.set_cons_succ]); (try simp only [List.set_cons_zero])
                refine WL.take (i := 15) (v := ?_) rfl (by kernel_rfl) (by decide) (by decide +kernel) (by decide +kernel) (fun _ _ _ h => h) rfl ?_ hS0 ?_
                rotate_left
                · (intro w' hSw; (try dsimp only at hSw); go_simp; (try with_reducible rfl))
                simp only [Act.put]; (try simp only [List.getElem_toArray]); (try simp only [List.getElem_cons_succ]); (try simp only [List.getElem_cons_zero]); (try simp only [List.setIfInBounds_toArray]); (try simp only [List.set_cons_succ]); (try simp only [List.set_cons_zero])
                refine WL.take (i := 16) (v := ?_) rfl (by kernel_rfl) (by decide) (by decide +kernel) (by decide +kernel) (fun _ _ _ h => h) rfl ?_ hS0 ?_
                rotate_left
                · (intro w' hSw; (try dsimp only at hSw); go_simp; (try with_reducible rfl))
                simp only [Act.put]; (try simp only [List.getElem_toArray]); (try simp only [List.getElem_cons_succ]); (try simp only [List.getElem_cons_zero]); (try simp only [List.setIfInBounds_toArray]); (try simp only [List.set_cons_succ]); (try simp only [List.set_cons_zero])
                refine WL.take (i := 17) (v := ?_) rfl (by kernel_rfl) (by decide) (by decide +kernel) (by decide +kernel) (fun _ _ _ h => h) rfl ?_ hS0 ?_
                rotate_left
                · (intro w' hSw; (try dsimp only at hSw); go_simp; (try with_reducible rfl))
                simp only [Act.put]; (try simp only [List.getElem_toArray]); (try simp only [List.getElem_cons_succ]); (try simp only [List.getElem_cons_zero]); (try simp only [List.setIfInBounds_toArray]); (try simp only [List.set_cons_succ]); (try simp only [List.set_cons_zero])
                refine WL.one (i := 18) rfl (by decide) (by decide +kernel) ?_
                go_wp2_with fail
                refine HCL.out.mono ?_
                rintro e w4 ⟨vr, nr, er, rfl, hres, hg4⟩
                have hg4' := grown_drew hg4
                have hS4 : w4.cell? ⟨w.heap.size, 0, none⟩ = some vl ∧ w4.cell? ⟨w.heap.size, 1, none⟩ = some vi ∧ w4.cell? ⟨b, off + k * 34, none⟩ = some (.string nm) ∧ w4.rangeAt b (off + k * 34 + 2) ue := ⟨cell_grown e0 hg4' hnk0, cell_grown e1 hg4' hnk0, cell_grown f1 hg4' hnkb, range_grown f3 hg4' hnkb⟩
                have HG4 : Hid (w2.grownBy w4 (Value.slice lo lf.length lc).ownBlock) := Lib.hid (grown_fr HGR.out HFR.out hg4')
                have hfr4 : Fr wo (.slice ko lk.length kc) vr → Fr w2 (.slice lo lf.length lc) vr := fun h => HFR.out.trans h hszo
                have HF4 := Lib.hid hfr4
                clear hg4 hg4' hS0 hnk0 hnkb hfr4 HCL
                go_wp2
                refine ⟨hS4, ?_⟩
                refine WL.take (i := 19) (v := ?_) rfl (by kernel_rfl) (by decide) (by decide +kernel) (by decide +kernel) (fun _ _ _ h => h) rfl ?_ hS4 ?_
                rotate_left
                · (intro w' hSw; (try dsimp only at hSw); go_simp; (try with_reducible rfl))
                simp only [Act.put]; (try simp only [List.getElem_toArray]); (try simp only [List.getElem_cons_succ]); (try simp only [List.getElem_cons_zero]); (try simp only [List.setIfInBounds_toArray]); (try simp only [List.set_cons_succ]); (try simp only [List.set_cons_zero])
                refine WL.take (i := 20) (v := ?_) rfl (by kernel_rfl) (by decide) (by decide +kernel) (by decide +kernel) (fun _ _ _ h => h) rfl ?_ hS4 ?_
                rotate_left
                · (intro w' hSw; (try dsimp only at hSw); go_simp; (try with_reducible rfl))
                simp only [Act.put]; (try simp only [List.getElem_toArray]); (try simp only [List.getElem_cons_succ]); (try simp only [List.getElem_cons_zero]); (try simp only [List.setIfInBounds_toArray]); (try simp only [List.set_cons_succ]); (try simp only [List.set_cons_zero])
                refine WL.take (i := 21) (v := ?_) rfl (by kernel_rfl) (by decide) (by decide +kernel) (by decide +kernel) (fun _ _ _ h => h) rfl ?_ hS4 ?_
                rotate_left
                · (intro w' hSw; (try dsimp only at hSw); go_simp; (try with_reducible rfl))
                simp only [Act.put]; (try simp only [List.getElem_toArray]); (try simp only [List.getElem_cons_succ]); (try simp only [List.getElem_cons_zero]); (try simp only [List.setIfInBounds_toArray]); (try simp only [List.set_cons_succ]); (try simp only [List.set_cons_zero])
                refine WL.take (i := 22) (v := ?_) rfl (by kernel_rfl) (by decide) (by decide +kernel) (by decide +kernel) (fun _ _ _ h => h) rfl ?_ hS4 ?_
                rotate_left
                · (intro w' hSw; (try dsimp only at hSw); go_simp; (try with_reducible rfl))
                simp only [Act.put]; (try simp only [List.getElem_toArray]); (try simp only [List.getElem_cons_succ]); (try simp only [List.getElem_cons_zero]); (try simp only [List.setIfInBounds_toArray]); (try simp only [List.set_cons_succ]); (try simp only [List.set_cons_zero])
                refine WL.one (i := 23) rfl (by decide) (by decide +kernel) ?_
                go_wp2
                refine ⟨hS4, ?_⟩
                refine WL.one (i := 24) rfl (by decide) (by decide +kernel) ?_
                go_wp2
                refine ⟨hS4, ?_⟩
                refine WL.last (n := 25) rfl rfl (by decide +kernel) (by decide +kernel) ?_
                clear hS4 e0 e1 f1 f2 f3
                cases hr : rec id (ahead ++ nm ++ slashL) lk nk with
                | inl c =>
                  rw [hr] at hres
                  obtain ⟨rfl, hc1, hc2⟩ := hres
                  have HW : Hid (walkG (getS l) (decide (D = 8)) rec x ahead lf n = .inl c) := by unfold Hid; rw [HW0.out, loopF_err h2 hr]
                  have d5 : ((c : Int) != 0) = true := by rw [bne_iff_ne]; omega
                  clear hr
                  go_wp2
                  go_ret3
                  exact ⟨_, _, _, rfl, by rw [HW.out]; exact ⟨rfl, hc1, hc2⟩, below_grown' HB4.out HG4.out⟩
                | inr y =>
                  rw [hr] at hres
                  obtain ⟨rfl, rfl, hy1, hy2, hy3, hy4⟩ := hres
                  have HW2 : Hid (walkG (getS l) (decide (D = 8)) rec x ahead lf n = loopF (getS l) (decide (D = 8)) rec ahead (es.drop (k + 1)) y.1 y.2) := HW1.out y.1 y.2 (by rw [HW0.out, loopF_ok h2 hr])
                  obtain ⟨ly, ny⟩ := y
                  dsimp only at hy1 hy2 hy3 hy4 HW2
                  have HY3 := Lib.hid hy3
                  have HY4 := Lib.hid (HF4.out hy4)
                  clear hr hy3 hy4
                  go_wp2
                  go_roundw
                  case rel => exact ⟨k + 1, ny, ly, by omega, by go_num, rfl, hy1, hy2, HW2, HY3.out, HY4.out, HG4.out⟩
                  case measure => simp [intOf]; omega
                
              · have d4 : ((kd : Int) == 2) = false := by rw [beq_eq_false_iff_ne]; omega
                have hcat1 : ∀ W, (Op.stringOp .add ahead nm).run Tryz.prog W = .ok (.string (ahead ++ nm)) W := fun W => run_string_add_sum W _ _ (by omega)
                have HGT := Lib.hid (fun W (hb : Below wo.heap.size wo W) => HGET.out W (hbwo.out.trans (hb.mono hbwo.out.size)) id hid)
                generalize hue : idC id = ue at f3 h32i HGT
                have hnk0 : (Value.slice ko lk.length kc).ownBlock ≠ some w.heap.size := HFR.out.ne hsz4 HNE.out
                have hnkb : (Value.slice ko lk.length kc).ownBlock ≠ some b := HFR.out.ne hbl hnb
                have hbo : b < wo.heap.size := by omega
                have hno : w.heap.size < wo.heap.size := by omega
                have hSX : ∀ X, Below wo.heap.size wo X → X.cell? ⟨w.heap.size, 0, none⟩ = some vl ∧ X.cell? ⟨w.heap.size, 1, none⟩ = some vi ∧ X.rangeAt b (off + k * 34 + 2) ue := fun X hb => ⟨below_load e0 hb hno, below_load e1 hb hno, rangeAt_below f3 hb hbo⟩
                have hNX : ∀ X, Below wo.heap.size wo X → X.cell? ⟨b, off + k * 34, none⟩ = some (.string nm) := fun X hb => below_load f1 hb hbo
                have HSX := Lib.hid hSX
                have HNX := Lib.hid hNX
                have hS0 := hSX wo.drew (Below.refl _ _).drew
                clear hue HRC e0 e1 f1 hSX hNX
                go_wp2
                refine wp_region_L 12 (fun w' => w'.cell? ⟨w.heap.size, 0, none⟩ = some vl ∧ w'.cell? ⟨w.heap.size, 1, none⟩ = some vi ∧ w'.rangeAt b (off + k * 34 + 2) ue) (by kernel_rfl) (by kernel_rfl) ?_
                refine WL.take (i := 0) (v := ?_) rfl (by kernel_rfl) (by decide) (by decide +kernel) (by decide +kernel) (fun _ _ _ h => h) rfl ?_ hS0 ?_
                rotate_left
                · (intro w' hSw; (try dsimp only at hSw); go_simp; (try with_reducible rfl))
                simp only [Act.put]; (try simp only [List.getElem_toArray]); (try simp only [List.getElem_cons_succ]); (try simp only [List.getElem_cons_zero]); (try simp only [List.setIfInBounds_toArray]); (try simp only [List.set_cons_succ]); (try simp only [List.set_cons_zero])
                refine WL.take (i := 1) (v := ?_) rfl (by kernel_rfl) (by decide) (by decide +kernel) (by decide +kernel) (fun _ _ _ h => h) rfl ?_ hS0 ?_
                rotate_left
                · (intro w' hSw; (try dsimp only at hSw); go_simp; (try with_reducible rfl))
                simp only [Act.put]; (try simp only [List.getElem_toArray]); (try simp only [List.getElem_cons_succ]); (try simp only [List.getElem_cons_zero]); (try simp only [List.setIfInBounds_toArray]); (try simp only [List.set_cons_succ]); (try simp only [List.set_cons_zero])
                refine WL.take (i := 2) (v := ?_) rfl (by kernel_rfl) (by decide) (by decide +kernel) (by decide +kernel) (fun _ _ _ h => h) rfl ?_ hS0 ?_
                rotate_left
                · (intro w' hSw; (try dsimp only at hSw); go_simp; (try with_reducible rfl))
                simp only [Act.put]; (try simp only [List.getElem_toArray]); (try simp only [List.getElem_cons_succ]); (try simp only [List.getElem_cons_zero]); (try simp only [List.setIfInBounds_toArray]); (try simp only [List.set_cons_succ]); (try simp only [List.set_cons_zero])
                refine WL.take (i := 3) (v := ?_) rfl (by kernel_rfl) (by decide) (by decide +kernel) (by decide +kernel) (fun _ _ _ h => h) rfl ?_ hS0 ?_
                rotate_left
                · (intro w' hSw; (try dsimp only at hSw); go_simp; (try with_reducible rfl))
                simp only [Act.put]; (try simp only [List.getElem_toArray]); (try simp only [List.getElem_cons_succ]); (try simp only [List.getElem_cons_zero]); (try simp only [List.setIfInBounds_toArray]); (try simp only [List.set_cons_succ]); (try simp only [List.set_cons_zero])
                refine WL.take (i := 4) (v := ?_) rfl (by kernel_rfl) (by decide) (by decide +kernel) (by decide +kernel) (fun _ _ _ h => h) rfl ?_ hS0 ?_
                rotate_left
                · (intro w' hSw; (try dsimp only at hSw); go_simp; (try with_reducible rfl))
                simp only [Act.put]; (try simp only [List.getElem_toArray]); (try simp only [List.getElem_cons_succ]); (try simp only [List.getElem_cons_zero]); (try simp only [List.setIfInBounds_toArray]); (try simp only [List.set_cons_succ]); (try simp only [List.set_cons_zero])
                refine WL.take (i := 5) (v := _) rfl (by kernel_rfl) (by decide) (by decide +kernel) (by decide +kernel) (fun _ _ _ h => h) rfl (fun w' hSw => exec_row 24 _ (hSw.2.2) Tryz.underlying24 rfl h32i _ rfl rfl) hS0 ?_
                simp only [Act.put]; (try simp only [List.getElem_toArray]); (try simp only [List.getElem_cons_succ]); (try simp only [List.getElem_cons_zero]); (try simp only [List.setIfInBounds_toArray]); (try simp only [List.set_cons_succ]); (try simp only [List.set_cons_zero])
                refine WL.two (i := 6) (k := 10) rfl rfl (by decide) (by decide) (by decide +kernel) ?_ ?_
                focus
                  go_wp2_with fail
                  refine (HGT.out _ (Below.refl _ _).drew).mono ?_
                  rintro e w4 ⟨rfl, hb4⟩
                  have hb4 := Lib.hid (drew_below hb4)
                  have hS4 := HSX.out _ hb4.out
                  have hth := Lib.hid (Arr.ofList w4 [.int .i64 0, .string ⟨#[]⟩] 93).there
                  have hb5 : Hid (Below wo.heap.size wo (w4.alloc (.cells #[.int .i64 0, .string ⟨#[]⟩] 93))) := Lib.hid (hb4.out.alloc hb4.out.size _)
                  go_wp2
                  refine ⟨hS4, ?_⟩
                  refine WL.take (i := 7) (v := ?_) rfl (by kernel_rfl) (by decide) (by decide +kernel) (by decide +kernel) (fun _ _ _ h => h) rfl ?_ hS4 ?_
                  rotate_left
                  · (intro w' hSw; (try dsimp only at hSw); go_simp; (try with_reducible rfl))
                  simp only [Act.put]; (try simp only [List.getElem_toArray]); (try simp only [List.getElem_cons_succ]); (try simp only [List.getElem_cons_zero]); (try simp only [List.setIfInBounds_toArray]); (try simp only [List.set_cons_succ]); (try simp only [List.set_cons_zero])
                  refine WL.take (i := 8) (v := ?_) rfl (by kernel_rfl) (by decide) (by decide +kernel) (by decide +kernel) (fun _ _ _ h => h) rfl ?_ hS4 ?_
                  rotate_left
                  · (intro w' hSw; (try dsimp only at hSw); go_simp; (try with_reducible rfl))
                  simp only [Act.put]; (try simp only [List.getElem_toArray]); (try simp only [List.getElem_cons_succ]); (try simp only [List.getElem_cons_zero]); (try simp only [List.setIfInBounds_toArray]); (try simp only [List.set_cons_succ]); (try simp only [List.set_cons_zero])
                  refine WL.take (i := 9) (v := ?_) rfl (by kernel_rfl) (by decide) (by decide +kernel) (by decide +kernel) (fun _ _ _ h => h) rfl ?_ hS4 ?_
                  rotate_left
                  · (intro w' hSw; (try dsimp only at hSw); go_simp; (try with_reducible rfl))
                  simp only [Act.put]; (try simp only [List.getElem_toArray]); (try simp only [List.getElem_cons_succ]); (try simp only [List.getElem_cons_zero]); (try simp only [List.setIfInBounds_toArray]); (try simp only [List.set_cons_succ]); (try simp only [List.set_cons_zero])
                  clear hS4
                  refine WL.one (i := 10) rfl (by decide) (by decide +kernel) ?_
                  go_wp2
                  refine ⟨HSX.out _ hb5.out, ?_⟩
                  refine WL.one (i := 11) rfl (by decide) (by decide +kernel) ?_
                  refine wpList_store_list rfl 93 _ _ rfl w4.heap.size 0 [.int .i64 ((getS l id).getD ob0).kind, .string ((getS l id).getD ob0).body] rfl rfl 2 rfl hth.out (HOB.out ((getS l id).getD ob0)) (by simp [Value.oneCell']) ?_
                  obtain ⟨p, hp⟩ : ∃ p, p = w4.heap.size := ⟨_, rfl⟩
                  have HP := World.rangeAt_setCells_same (w4.alloc (.cells #[.int .i64 0, .string ⟨#[]⟩] 93)) w4.heap.size 0 [.int .i64 ((getS l id).getD ob0).kind, .string ((getS l id).getD ob0).body] hth.out
                  have HB5 := Lib.hid (below_setCells _ hb4.out.size [.int .i64 ((getS l id).getD ob0).kind, .string ((getS l id).getD ob0).body] 0 _ hb5.out)
                  have hpl : p < ((w4.alloc (.cells #[.int .i64 0, .string ⟨#[]⟩] 93)).setCells w4.heap.size 0 [.int .i64 ((getS l id).getD ob0).kind, .string ((getS l id).getD ob0).body]).heap.size := by rw [hp]; exact World.block_lt_of_cell? _ ⟨w4.heap.size, 0, none⟩ (HP 0 _ rfl)
                  have hpo : wo.heap.size ≤ p := by rw [hp]; exact hb4.out.size
                  generalize (w4.alloc (.cells #[.int .i64 0, .string ⟨#[]⟩] 93)).setCells w4.heap.size 0 [.int .i64 ((getS l id).getD ob0).kind, .string ((getS l id).getD ob0).body] = W5 at HP HB5 hpl
                  rw [← hp] at HP ⊢
                  clear hp hth hb4 hb5
                rotate_left
                focus
                  go_wp2_with fail
                  have hb3 : Hid (Below wo.heap.size wo (wo.drew.alloc (.cells #[.int .i64 0, .string ⟨#[]⟩] 93))) := Lib.hid ((Below.refl _ _).drew.alloc (Nat.le_refl _) _)
                  have hth3 := Lib.hid (Arr.ofList wo.drew [.int .i64 0, .string ⟨#[]⟩] 93).there
                  have hS4 := HSX.out _ hb3.out
                  refine ⟨hS4, ?_⟩
                  refine WL.one (i := 6) rfl (by decide) (by decide +kernel) ?_
                  go_wp2_with fail
                  refine (HGT.out _ hb3.out).mono ?_
                  rintro e w4 ⟨rfl, hb4⟩
                  have hth := Lib.hid (there_below hth3.out hb4 (by simp))
                  have hb4 := Lib.hid (hb3.out.trans (hb4.mono hb3.out.size))
                  have hS5 := HSX.out _ hb4.out
                  go_wp2
                  refine ⟨hS5, ?_⟩
                  refine WL.take (i := 7) (v := ?_) rfl (by kernel_rfl) (by decide) (by decide +kernel) (by decide +kernel) (fun _ _ _ h => h) rfl ?_ hS5 ?_
                  rotate_left
                  · (intro w' hSw; (try dsimp only at hSw); go_simp; (try with_reducible rfl))
                  simp only [Act.put]; (try simp only [List.getElem_toArray]); (try simp only [List.getElem_cons_succ]); (try simp only [List.getElem_cons_zero]); (try simp only [List.setIfInBounds_toArray]); (try simp only [List.set_cons_succ]); (try simp only [List.set_cons_zero])
                  refine WL.take (i := 8) (v := ?_) rfl (by kernel_rfl) (by decide) (by decide +kernel) (by decide +kernel) (fun _ _ _ h => h) rfl ?_ hS5 ?_
                  rotate_left
                  · (intro w' hSw; (try dsimp only at hSw); go_simp; (try with_reducible rfl))
                  simp only [Act.put]; (try simp only [List.getElem_toArray]); (try simp only [List.getElem_cons_succ]); (try simp only [List.getElem_cons_zero]); (try simp only [List.setIfInBounds_toArray]); (try simp only [List.set_cons_succ]); (try simp only [List.set_cons_zero])
                  refine WL.take (i := 9) (v := ?_) rfl (by kernel_rfl) (by decide) (by decide +kernel) (by decide +kernel) (fun _ _ _ h => h) rfl ?_ hS5 ?_
                  rotate_left
                  · (intro w' hSw; (try dsimp only at hSw); go_simp; (try with_reducible rfl))
                  simp only [Act.put]; (try simp only [List.getElem_toArray]); (try simp only [List.getElem_cons_succ]); (try simp only [List.getElem_cons_zero]); (try simp only [List.setIfInBounds_toArray]); (try simp only [List.set_cons_succ]); (try simp only [List.set_cons_zero])
                  clear hS4 hS5
                  refine WL.one (i := 11) rfl (by decide) (by decide +kernel) ?_
                  refine wpList_store_list rfl 93 _ _ rfl wo.heap.size 0 [.int .i64 ((getS l id).getD ob0).kind, .string ((getS l id).getD ob0).body] rfl rfl 2 rfl hth.out (HOB.out ((getS l id).getD ob0)) (by simp [Value.oneCell']) ?_
                  obtain ⟨p, hp⟩ : ∃ p, p = wo.heap.size := ⟨_, rfl⟩
                  have HP := World.rangeAt_setCells_same w4 wo.heap.size 0 [.int .i64 ((getS l id).getD ob0).kind, .string ((getS l id).getD ob0).body] hth.out
                  have HB5 := Lib.hid (below_setCells _ (Nat.le_refl _) [.int .i64 ((getS l id).getD ob0).kind, .string ((getS l id).getD ob0).body] 0 _ hb4.out)
                  have hpl : p < (w4.setCells wo.heap.size 0 [.int .i64 ((getS l id).getD ob0).kind, .string ((getS l id).getD ob0).body]).heap.size := by rw [hp]; exact World.block_lt_of_cell? _ ⟨wo.heap.size, 0, none⟩ (HP 0 _ rfl)
                  have hpo : wo.heap.size ≤ p := by omega
                  generalize w4.setCells wo.heap.size 0 [.int .i64 ((getS l id).getD ob0).kind, .string ((getS l id).getD ob0).body] = W5 at HP HB5 hpl
                  rw [← hp] at HP ⊢
                  clear hp hth hb4 hth3 hb3
                all_goals
                  have hSF := HSX.out _ HB5.out
                  refine ⟨hSF, ?_⟩
                  refine WL.last (n := 12) rfl rfl (by decide +kernel) (by decide +kernel) ?_
                  clear hS0 hSF
                  have HG5 : Hid (w2.grownBy W5 (Value.slice lo lf.length lc).ownBlock) := Lib.hid (grown_below' HGR.out HB5.out)
                  have p0 := HP 0 _ rfl
                  have p1 := HP 1 _ rfl
                  have hn1 := HNX.out _ HB5.out
                  have hnkp : (Value.slice ko lk.length kc).ownBlock ≠ some p := fun e => by have := (HOK.out.lt _ e).2; omega
                  have HOK5 := Lib.hid (own_below HOK.out HB5.out)
                  rw [Nat.zero_add] at p1
                  clear HP f2 f3
                  cases hgi : getS l id with
                  | none =>
                    have HW : Hid (walkG (getS l) (decide (D = 8)) rec x ahead lf n = .inl 13) := by unfold Hid; rw [HW0.out, loopF_none h2 hgi]
                    rw [hgi] at p0 p1
                    clear hgi
                    dsimp only [Option.getD, Option.isSome, ob0] at p0 p1 ⊢
                    go_wp2
                    go_ret3
                    exact ⟨_, _, _, rfl, by rw [HW.out]; exact ⟨rfl, by omega, by omega⟩, below_grown' HB4.out HG5.out⟩
                  | some bo =>
                    rw [hgi] at p0 p1
                    dsimp only [Option.getD, Option.isSome] at p0 p1 ⊢
                    have hbos : bo.body.size ≤ 4096 := right_small (getS_some hgi).2.1
                    by_cases hb1 : bo.kind = 1
                    · have d5 : (bo.kind != 1) = false := by rw [hb1]; rfl
                      by_cases h300 : lk.length = 300
                      · have HW : Hid (walkG (getS l) (decide (D = 8)) rec x ahead lf n = .inl 4) := by unfold Hid; rw [HW0.out, loopF_full h2 hgi hb1 h300]
                        have d6 : ((lk.length : Int) == 300) = true := by rw [beq_iff_eq]; omega
                        clear hgi hb1
                        go_wp2
                        go_ret3
                        exact ⟨_, _, _, rfl, by rw [HW.out]; exact ⟨rfl, by omega, by omega⟩, below_grown' HB4.out HG5.out⟩
                      · have HW2 : Hid (walkG (getS l) (decide (D = 8)) rec x ahead lf n = loopF (getS l) (decide (D = 8)) rec ahead (es.drop (k + 1)) (lk ++ [(ahead ++ nm, bo.body)]) nk) := HW1.out _ _ (by rw [HW0.out, loopF_file h2 hgi hb1 h300])
                        have d6 : ((lk.length : Int) == 300) = false := by rw [beq_eq_false_iff_ne]; omega
                        clear hgi hb1
                        have hS6 : W5.drew.cell? ⟨b, off + k * 34, none⟩ = some (.string nm) ∧ W5.drew.cell? ⟨p, 1, none⟩ = some (.string bo.body) := ⟨hn1, p1⟩
                        have hbl5 : b < W5.heap.size := by have := HB5.out.size; omega
                        go_wp2
                        refine wp_region_L 13 (fun w' => w'.cell? ⟨b, off + k * 34, none⟩ = some (.string nm) ∧ w'.cell? ⟨p, 1, none⟩ = some (.string bo.body)) (by kernel_rfl) (by kernel_rfl) ?_
                        refine WL.take (i := 0) (v := ?_) rfl (by kernel_rfl) (by decide) (by decide +kernel) (by decide +kernel) (fun _ _ _ h => h) rfl ?_ hS6 ?_
                        rotate_left
                        · (intro w' hSw; (try dsimp only at hSw); go_simp; (try with_reducible rfl))
                        simp only [Act.put]; (try simp only [List.getElem_toArray]); (try simp only [List.getElem_cons_succ]); (try simp only [List.getElem_cons_zero]); (try simp only [List.setIfInBounds_toArray]); (try simp only [List.set_cons_succ]); (try simp only [List.set_cons_zero])
                        refine WL.take (i := 1) (v := ?_) rfl (by kernel_rfl) (by decide) (by decide +kernel) (by decide +kernel) (fun _ _ _ h => h) rfl ?_ hS6 ?_
                        rotate_left
                        · (intro w' hSw; (try dsimp only at hSw); go_simp; (try with_reducible rfl))
                        simp only [Act.put]; (try simp only [List.getElem_toArray]); (try simp only [List.getElem_cons_succ]); (try simp only [List.getElem_cons_zero]); (try simp only [List.setIfInBounds_toArray]); (try simp only [List.set_cons_succ]); (try simp only [List.set_cons_zero])
                        refine WL.take (i := 2) (v := ?_) rfl (by kernel_rfl) (by decide) (by decide +kernel) (by decide +kernel) (fun _ _ _ h => h) rfl ?_ hS6 ?_
                        rotate_left
                        · (intro w' hSw; (try dsimp only at hSw); go_simp; (try with_reducible rfl))
                        simp only [Act.put]; (try simp only [List.getElem_toArray]); (try simp only [List.getElem_cons_succ]); (try simp only [List.getElem_cons_zero]); (try simp only [List.setIfInBounds_toArray]); (try simp only [List.set_cons_succ]); (try simp only [List.set_cons_zero])
                        refine WL.take (i := 3) (v := ?_) rfl (by kernel_rfl) (by decide) (by decide +kernel) (by decide +kernel) (fun _ _ _ h => h) rfl ?_ hS6 ?_
                        rotate_left
                        · (intro w' hSw; (try dsimp only at hSw); go_simp; (try with_reducible rfl))
                        simp only [Act.put]; (try simp only [List.getElem_toArray]); (try simp only [List.getElem_cons_succ]); (try simp only [List.getElem_cons_zero]); (try simp only [List.setIfInBounds_toArray]); (try simp only [List.set_cons_succ]); (try simp only [List.set_cons_zero])
                        refine WL.take (i := 4) (v := ?_) rfl (by kernel_rfl) (by decide) (by decide +kernel) (by decide +kernel) (fun _ _ _ h => h) rfl ?_ hS6 ?_
                        rotate_left
                        · (intro w' hSw; (try dsimp only at hSw); go_simp; (try with_reducible rfl))
                        simp only [Act.put]; (try simp only [List.getElem_toArray]); (try simp only [List.getElem_cons_succ]); (try simp only [List.getElem_cons_zero]); (try simp only [List.setIfInBounds_toArray]); (try simp only [List.set_cons_succ]); (try simp only [List.set_cons_zero])
                        refine WL.take (i := 5) (v := ?_) rfl (by kernel_rfl) (by decide) (by decide +kernel) (by decide +kernel) (fun _ _ _ h => h) rfl ?_ hS6 ?_
                        rotate_left
                        · (intro w' hSw; (try dsimp only at hSw); go_simp; (try with_reducible rfl))
                        simp only [Act.put]; (try simp only [List.getElem_toArray]); (try simp only [List.getElem_cons_succ]); (try simp only [List.getElem_cons_zero]); (try simp only [List.setIfInBounds_toArray]); (try simp only [List.set_cons_succ]); (try simp only [List.set_cons_zero])
                        refine WL.take (i := 6) (v := ?_) rfl (by kernel_rfl) (by decide) (by decide +kernel) (by decide +kernel) (fun _ _ _ h => h) rfl ?_ hS6 ?_
                        rotate_left
                        · (intro w' hSw; (try dsimp only at hSw); go_simp; (try with_reducible rfl))
                        simp only [Act.put]; (try simp only [List.getElem_toArray]); (try simp only [List.getElem_cons_succ]); (try simp only [List.getElem_cons_zero]); (try simp only [List.setIfInBounds_toArray]); (try simp only [List.set_cons_succ]); (try simp only [List.set_cons_zero])
                        refine WL.take (i := 7) (v := ?_) rfl (by kernel_rfl) (by decide) (by decide +kernel) (by decide +kernel) (fun _ _ _ h => h) rfl ?_ hS6 ?_
                        rotate_left
                        · (intro w' hSw; (try dsimp only at hSw); go_simp; (try with_reducible rfl))
                        simp only [Act.put]; (try simp only [List.getElem_toArray]); (try simp only [List.getElem_cons_succ]); (try simp only [List.getElem_cons_zero]); (try simp only [List.setIfInBounds_toArray]); (try simp only [List.set_cons_succ]); (try simp only [List.set_cons_zero])
                        refine WL.take (i := 8) (v := ?_) rfl (by kernel_rfl) (by decide) (by decide +kernel) (by decide +kernel) (fun _ _ _ h => h) rfl ?_ hS6 ?_
                        rotate_left
                        · (intro w' hSw; (try dsimp only at hSw); go_simp; (try with_reducible rfl))
                        simp only [Act.put]; (try simp only [List.getElem_toArray]); (try simp only [List.getElem_cons_succ]); (try simp only [List.getElem_cons_zero]); (try simp only [List.setIfInBounds_toArray]); (try simp only [List.set_cons_succ]); (try simp only [List.set_cons_zero])
                        refine WL.take (i := 9) (v := ?_) rfl (by kernel_rfl) (by decide) (by decide +kernel) (by decide +kernel) (fun _ _ _ h => h) rfl ?_ hS6 ?_
                        rotate_left
                        · (intro w' hSw; (try dsimp only at hSw); go_simp; (try with_reducible rfl))
                        simp only [Act.put]; (try simp only [List.getElem_toArray]); (try simp only [List.getElem_cons_succ]); (try simp only [List.getElem_cons_zero]); (try simp only [List.setIfInBounds_toArray]); (try simp only [List.set_cons_succ]); (try simp only [List.set_cons_zero])
                        refine WL.take (i := 10) (v := ?_) rfl (by kernel_rfl) (by decide) (by decide +kernel) (by decide +kernel) (fun _ _ _ h => h) rfl ?_ hS6 ?_
                        rotate_left
                        · (intro w' hSw; (try dsimp only at hSw); go_simp; (try with_reducible rfl))
                        simp only [Act.put]; (try simp only [List.getElem_toArray]); (try simp only [List.getElem_cons_succ]); (try simp only [List.getElem_cons_zero]); (try simp only [List.setIfInBounds_toArray]); (try simp only [List.set_cons_succ]); (try simp only [List.set_cons_zero])
                        refine WL.one (i := 11) rfl (by decide) (by decide +kernel) ?_
                        go_wp2
                        have hbA : Below W5.heap.size W5 (W5.alloc (.cells #[.string (ahead ++ nm), .string bo.body] 82)).drew := ((Below.refl _ _).alloc (Nat.le_refl _) _).drew
                        have hnew : ∀ j u, (lfC (ahead ++ nm, bo.body))[j]? = some u → (W5.alloc (.cells #[.string (ahead ++ nm), .string bo.body] 82)).drew.cell? ((⟨W5.heap.size, 0, none⟩ : Addr).add j) = some u := fun j u hj => by
                          rw [World.cell?_drew]; exact cells_newL W5 (lfC (ahead ++ nm, bo.body)) 82 j u hj
                        have hszA : W5.heap.size ≤ (W5.alloc (.cells #[.string (ahead ++ nm), .string bo.body] 82)).drew.heap.size := hbA.size
                        have HOKA := Lib.hid (own_below HOK5.out hbA)
                        have hSA : (W5.alloc (.cells #[.string (ahead ++ nm), .string bo.body] 82)).drew.cell? ⟨b, off + k * 34, none⟩ = some (.string nm) ∧ (W5.alloc (.cells #[.string (ahead ++ nm), .string bo.body] 82)).drew.cell? ⟨p, 1, none⟩ = some (.string bo.body) := ⟨below_load hn1 hbA hbl5, below_load p1 hbA hpl⟩
                        have HG6 := Lib.hid (grown_below' HG5.out hbA)
                        have hw02 : w0.heap.size ≤ W5.heap.size := by have := hbwo.out.size; omega
                        have hw2A : w2.heap.size ≤ W5.heap.size := HG5.out.size
                        refine ⟨hSA, ?_⟩
                        refine WL.one (i := 12) rfl (by decide) (by decide +kernel) ?_
                        refine wpList_append_fr _ rfl (.tmp 116) (.tmp 127) 62 rfl w0.heap.size 82 iL (.agg #[.string ⟨#[]⟩, .string ⟨#[]⟩]) 2 32 Tryz.underlying62 HIL.out.1 HIL.out.2.1 HIL.out.2.2.1 HIL.out.2.2.2 rfl (by decide) _ lk.length (lfsF lk) rfl HOKA.out ⟨W5.heap.size, 0, none⟩ 1 1 (lfC (ahead ++ nm, bo.body)) rfl rfl hnew (by simp [lfC, Value.oneCell']) (by unfold maxLen; omega) (by omega) (by omega) ?_
                        intro v6 w6 ho6 hg6 hf6
                        have hS7 : w6.cell? ⟨b, off + k * 34, none⟩ = some (.string nm) ∧ w6.cell? ⟨p, 1, none⟩ = some (.string bo.body) := ⟨cell_grown hSA.1 hg6 hnkb, cell_grown hSA.2 hg6 hnkp⟩
                        have HO6 := Lib.hid ho6
                        have HF6 : Hid (Fr w2 (.slice lo lf.length lc) v6) := Lib.hid (HFR.out.trans hf6 (by omega))
                        have HG7 : Hid (w2.grownBy w6 (Value.slice lo lf.length lc).ownBlock) := Lib.hid (grown_fr HG6.out HFR.out hg6)
                        clear ho6 hg6 hf6 hSA hnew hbA hS6 hn1 p0 p1 HOKA HG6
                        simp only [Act.put]
                        refine ⟨hS7, ?_⟩
                        refine WL.last (n := 13) rfl rfl (by decide +kernel) (by decide +kernel) ?_
                        go_wp2
                        go_roundw
                        case rel => exact ⟨k + 1, nk, lk ++ [(ahead ++ nm, bo.body)], by omega, by go_num, rfl, by rw [List.length_append]; simp; omega, hnk, HW2, by rw [lfsF_snoc, List.length_append]; exact HO6.out, HF6.out, HG7.out⟩
                        case measure => simp [intOf]; omega
                    · have HW : Hid (walkG (getS l) (decide (D = 8)) rec x ahead lf n = .inl 13) := by unfold Hid; rw [HW0.out, loopF_wrong h2 hgi hb1]
                      have d5 : (bo.kind != 1) = true := by rw [bne_iff_ne]; exact hb1
                      clear hgi hb1
                      go_wp2
                      go_ret3
                      exact ⟨_, _, _, rfl, by rw [HW.out]; exact ⟨rfl, by omega, by omega⟩, below_grown' HB4.out HG5.out⟩
          · have HW : Hid (walkG (getS l) (decide (D = 8)) rec x ahead lf n = .inr (lk, nk)) := by
              unfold Hid; rw [hwk.out, List.drop_eq_nil_of_le (by omega)]; rfl
            have d3 : decide ((k : Int) < es.length) = false := decide_eq_false (by omega)
            clear hwk
            go_wp2
            go_ret3
            exact ⟨_, _, _, rfl, by rw [HW.out]; exact ⟨rfl, rfl, hlk, hnk, HOK.out, HFR.out.mono HB4.out.size⟩, below_grown' HB4.out HGR.out⟩
      · have HW : Hid (walkG (getS l) (decide (D = 8)) rec x ahead lf n = .inl 13) := by
          unfold Hid walkG treeG; rw [if_neg h3, hg]; dsimp only; rw [if_neg hk2]
        have d2 : (o.kind != 2) = true := by rw [bne_iff_ne]; exact hk2
        clear hg hro
        go_wp2
        go_ret3
        exact ⟨_, _, _, rfl, by rw [HW.out]; exact ⟨rfl, by omega, by omega⟩, grown_of_below (hB2.out.alloc hB2.out.size _) _⟩
end Go.Proofs.YtbmiiiccnoiffaaGreatDoor
