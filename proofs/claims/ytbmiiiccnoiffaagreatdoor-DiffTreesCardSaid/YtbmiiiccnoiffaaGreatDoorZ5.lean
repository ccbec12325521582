/- Walks: all files of a tree (the program's): one level. -/
import Derived.Test.YtbmiiiccnoiffaaGreatDoorJO
import Derived.Deep.CutRange
namespace Go.Proofs.YtbmiiiccnoiffaaGreatDoor
open Go.RowKit

def wkF (lb ob n : Nat) (k : Nat) : Value := if k = 0 then .iface 105 (.pointer (some ⟨lb, 0, none⟩)) else if k = 1 then .func (.func 79) #[] #[.pointer (some ⟨ob, 0, none⟩)] else .int .i64 (n : Int)
theorem wkF_n (lb ob n m : Nat) : ∀ k, k < 3 → upd (wkF lb ob n) 2 (.int .i64 (m : Int)) k = wkF lb ob m k := by
  intro k hk
  obtain h | h | h : k = 0 ∨ k = 1 ∨ k = 2 := by omega
  all_goals subst h; rfl
theorem IdMap.grownV {w w' : World} {b n : Nat} {f : List UInt8 → Option Ob} {row : Option Nat} (h : IdMap w b n f) (hg : w.grownBy w' row) (hne : row ≠ some b) : IdMap w' b n f := by
  have hl := h.lt
  obtain ⟨D, ⟨es, clock, h1, h2⟩, h3⟩ := h
  exact ⟨D, ⟨es, clock, (hg.block b hl (fun e => hne e.symm)).trans h1, h2⟩, h3⟩
/-- The walker between two steps. -/
structure WS (wb ob lb mb nm base : Nat) (f : List UInt8 → Option Ob) (lf : Lfs) (n : Nat) (v : Value) (w : World) : Prop where
  a : Arr w wb 3 (wkF lb ob n)
  o : Arr w ob 1 (fun _ => v)
  own : w.ownsRow base 82 2 v lf.length (lfsF lf)
  src : w.cell? ⟨lb, 0, none⟩ = some (.map (some mb))
  map : IdMap w mb nm f
  bs : base ≤ w.heap.size
structure WB (wb ob lb mb base : Nat) : Prop where
  hwb : wb < base
  hob : ob < base
  hlb : lb < base
  hmb : mb < base
  n1 : wb ≠ ob
  n2 : lb ≠ wb
  n3 : mb ≠ wb
  n4 : lb ≠ ob
  n5 : mb ≠ ob
section
variable {wb ob lb mb nm base : Nat} {f : List UInt8 → Option Ob} {lf : Lfs} {n : Nat} {v : Value} {w w' : World}
theorem WS.below (h : WS wb ob lb mb nm base f lf n v w) (hb : Below w.heap.size w w') : WS wb ob lb mb nm base f lf n v w' :=
  ⟨h.a.below hb (h.a.lt (by omega)), h.o.below hb (h.o.lt (by omega)), own_below h.own hb, below_load h.src hb (World.block_lt_of_cell? w _ h.src), h.map.below hb h.map.lt, Nat.le_trans h.bs hb.size⟩
theorem WS.grown (h : WS wb ob lb mb nm base f lf n v w) {E : Nat} (hg : w.grownBy w' (some E)) (h1 : E ≠ wb) (h2 : E ≠ ob) (h3 : E ≠ lb) (h4 : E ≠ mb) (h5 : v.ownBlock = none ∨ v.ownBlock ≠ some E) : WS wb ob lb mb nm base f lf n v w' :=
  ⟨h.a.grown hg (Ne.symm h1), h.o.grown hg (Ne.symm h2), h.own.kept hg h5, hg.cell (a := ⟨lb, 0, none⟩) h.src (fun e => h3 (Option.some.inj e).symm), h.map.grownV hg (fun e => h4 (Option.some.inj e)), Nat.le_trans h.bs hg.size⟩
theorem WS.count (h : WS wb ob lb mb nm base f lf n v w) (B : WB wb ob lb mb base) (m : Nat) : WS wb ob lb mb nm base f lf m v (w.setCell ⟨wb, 2, none⟩ (.int .i64 (m : Int))) := by
  have hg := grown_set (World.grownBy.refl w (some wb)) (.int .i64 (m : Int)) (o := 2)
  exact ⟨(h.a.set 2 (by omega) _).congr (wkF_n lb ob n m), h.o.far (p := ⟨wb, 2, none⟩) B.n1 _, own_set h.own (own_ne h.own B.hwb),
    hg.cell (a := ⟨lb, 0, none⟩) h.src (fun e => B.n2 (Option.some.inj e)), h.map.grownV hg (fun e => B.n3 (Option.some.inj e).symm), Nat.le_trans h.bs hg.size⟩
theorem WS.file (h : WS wb ob lb mb nm base f lf n v w) (B : WB wb ob lb mb base) {lf' : Lfs} {v' : Value} (hk : Wk ob ob w w' v v') (ho : Arr w' ob 1 (fun _ => v')) (hown : w'.ownsRow base 82 2 v' lf'.length (lfsF lf')) : WS wb ob lb mb nm base f lf' n v' w' := by
  have hvb : ∀ g, v.ownBlock = some g → base ≤ g := fun g hg => (h.own.lt g hg).1
  have hwl := h.a.lt (show 0 < 3 by omega)
  have hml := h.map.lt
  have hbw := hk.block wb hwl B.n1 B.n1 (fun e => by have := hvb _ e; have := B.hwb; omega)
  have hbm := hk.block mb hml B.n5 B.n5 (fun e => by have := hvb _ e; have := B.hmb; omega)
  refine ⟨⟨fun k hk' => ?_, fun k hk' => ?_⟩, ho, hown, hk.cell h.src B.n4 B.n4 (fun e => by have := hvb _ e; have := B.hlb; omega), ?_, Nat.le_trans h.bs hk.size⟩
  · rw [World.cell?_of_block (w := w) (a := ⟨wb, k, none⟩) hbw]; exact h.a.cell k hk'
  · rw [World.frozen?_of_block (w := w) (a := ⟨wb, k, none⟩) hbw]; exact h.a.free k hk'
  · obtain ⟨Dm, ⟨es, clock, h1, h2⟩, h3⟩ := h.map
    exact ⟨Dm, ⟨es, clock, hbm.trans h1, h2⟩, h3⟩
theorem WS.lt (h : WS wb ob lb mb nm base f lf n v w) : wb < w.heap.size := h.a.lt (by omega)
theorem WS.sets {E' : Nat} (h : WS wb ob lb mb nm base f lf n v w) (B : WB wb ob lb mb base) (hn : v.ownBlock = none ∨ v.ownBlock ≠ some E') {us : List Value} {o : Nat} (hE : base ≤ E') : WS wb ob lb mb nm base f lf n v (w.setCells E' o us) :=
  h.grown (grown_setCells us o w (World.grownBy.refl w (some E'))) (by have := B.hwb; omega) (by have := B.hob; omega) (by have := B.hlb; omega) (by have := B.hmb; omega) hn
theorem Wk.range {w w' : World} {v v' : Value} (h : Wk wb ob w w' v v') {b o : Nat} {cs : List Value} (hc : w.rangeAt b o cs) (n1 : b ≠ wb) (n2 : b ≠ ob) (n3 : v.ownBlock ≠ some b) : w'.rangeAt b o cs :=
  fun j u hu => h.cell (hc j u hu) n1 n2 n3
theorem Wk.bw {w w' : World} {v v' : Value} (h : Wk wb ob w w' v v') (Bn : Nat) (h1 : Bn ≤ wb) (h2 : Bn ≤ ob) (h3 : ∀ g, v.ownBlock = some g → Bn ≤ g) (hs : Bn ≤ w.heap.size) : Below Bn w w' :=
  ⟨h.os, h.tape, h.output, h.size, fun k hk => h.block k (by omega) (by omega) (by omega) (fun e => by have := h3 k e; omega)⟩
end

/-- What a walk answers. -/
def WalkAns (wb ob lb mb nm base : Nat) (f : List UInt8 → Option Ob) (r : FRes) (v : Value) (w : World) (e : Ending) (w' : World) : Prop := match r with
  | .inl c => e = .returned (.int .i64 (c : Int)) ∧ 0 < c ∧ c < 100 ∧ ∃ v', Wk wb ob w w' v v'
  | .inr y => e = .returned (.int .i64 0) ∧ y.1.length ≤ 300 ∧ y.2 ≤ 300 ∧ ∃ v', WS wb ob lb mb nm base f y.1 y.2 v' w' ∧ Wk wb ob w w' v v'
def WalkC (wb ob lb mb nm base : Nat) (f : List UInt8 → Option Ob) (D : Nat) (walk : List UInt8 → ByteArray → Lfs → Nat → FRes) : Prop :=
  ∀ (x : List UInt8) (ahead : ByteArray) (v : Value) (lf : Lfs) (n : Nat) (w : World), x.length = 32 → ahead.size ≤ 40 * D → lf.length ≤ 300 → n ≤ 300 → WS wb ob lb mb nm base f lf n v w →
    Calls Tryz.prog 80 #[.pointer (some ⟨wb, 0, none⟩), .agg (idC x).toArray, .string ahead, .int .i64 (D : Int)] w (WalkAns wb ob lb mb nm base f (walk x ahead lf n) v w)
theorem walkAns_err {wb ob lb mb nm base : Nat} {f : List UInt8 → Option Ob} {r : FRes} {v v' : Value} {w w' : World} {c : Nat} (h : r = .inl c) (h0 : 0 < c) (h1 : c < 100) (hw : Wk wb ob w w' v v') : WalkAns wb ob lb mb nm base f r v w (.returned (.int .i64 (c : Int))) w' := by
  subst h; exact ⟨rfl, h0, h1, v', hw⟩
theorem walkAns_ok {wb ob lb mb nm base : Nat} {f : List UInt8 → Option Ob} {r : FRes} {v v' : Value} {w w' : World} {l : Lfs} {n : Nat} (h : r = .inr (l, n)) (h0 : l.length ≤ 300) (h1 : n ≤ 300) (hs : WS wb ob lb mb nm base f l n v' w') (hw : Wk wb ob w w' v v') : WalkAns wb ob lb mb nm base f r v w (.returned (.int .i64 0)) w' := by
  subst h; exact ⟨rfl, h0, h1, v', hs, hw⟩

set_option maxRecDepth 100000 in
set_option maxHeartbeats 8000000 in
theorem pwalk_step (wb ob lb mb nm base : Nat) (f : List UInt8 → Option Ob) (hf : ∀ x o, f x = some o → rightOb o = true) (hB : WB wb ob lb mb base) (D : Nat) (hD : D ≤ 8) (rec : List UInt8 → ByteArray → Lfs → Nat → FRes) (hrec : D < 8 → WalkC wb ob lb mb nm base f (D + 1) rec) :
    WalkC wb ob lb mb nm base f D (walkG f (decide (D = 8)) rec) := by
  intro x ahead v lf n w hx hah hlf hn hS
  have HREC := Lib.hid hrec
  have HBB := Lib.hid hB
  have HF := Lib.hid hf
  have HX := Lib.hid hx
  have hxl : (idC x).length = 32 := by rw [idC_len, hx]
  have h32x := h32_of hxl
  have hwbl := hS.lt
  have cw2 : w.cell? ⟨wb, 2, none⟩ = some (.int .i64 (n : Int)) := hS.a.cell 2 (by omega)
  have fw2 := hS.a.free 2 (by omega)
  have hcast : ((n + 1 : Nat) : Int) = (n : Int) + 1 := by omega
  have hS1 := hS.count hB (n + 1)
  rw [hcast] at hS1
  have hk1 : Wk wb ob w (w.setCell ⟨wb, 2, none⟩ (.int .i64 ((n : Int) + 1))) v v := Wk.set v 2 _
  have hsz0 : (w.setCell ⟨wb, 2, none⟩ (.int .i64 ((n : Int) + 1))).heap.size = w.heap.size := by simp
  have hr0 := range_new (w.setCell ⟨wb, 2, none⟩ (.int .i64 ((n : Int) + 1))) (idC x) 24 hsz0
  have hba : Below (w.setCell ⟨wb, 2, none⟩ (.int .i64 ((n : Int) + 1))).heap.size (w.setCell ⟨wb, 2, none⟩ (.int .i64 ((n : Int) + 1))) ((w.setCell ⟨wb, 2, none⟩ (.int .i64 ((n : Int) + 1))).alloc (.cells (idC x).toArray 24)) := (Below.refl _ _).alloc (Nat.le_refl _) _
  have HTR := Lib.hid (fun W (h : WS wb ob lb mb nm base f lf (n + 1) v W) => ptree_any lb mb nm f hf x W h.src h.map hx)
  generalize idC x = ux at hxl h32x hr0 hba HTR
  obtain ⟨W1, hW1⟩ : ∃ W1, W1 = (w.setCell ⟨wb, 2, none⟩ (.int .i64 ((n : Int) + 1))).alloc (.cells ux.toArray 24) := ⟨_, rfl⟩
  rw [← hW1] at hr0 hba
  have HS1 := Lib.hid (hS1.below hba)
  have HWK1 : Hid (Wk wb ob w W1 v v) := Lib.hid (hk1.trans (Wk.below v hba))
  have hs1 : w.heap.size < W1.heap.size := by rw [hW1]; simp
  have hwn : IntKind.i64.wrap ((n : Int) + 1) = (n : Int) + 1 := IntWalk.i64_in _ (by omega)
  have HR0 := Lib.hid hr0
  have HW1 := Lib.hid hW1
  have hwbw : wb ≠ w.heap.size := by omega
  have HVL := Lib.hid (fun g hg => (hS.own.lt g hg).2 : ∀ g, v.ownBlock = some g → g < w.heap.size)
  have HBS := Lib.hid hS.bs
  clear hrec hB hf hS hS1 hk1 hr0 hba hW1 hx hcast hsz0
  by_cases h3 : 300 < n + 1
  · have HW : Hid (walkG f (decide (D = 8)) rec x ahead lf n = .inl 4) := by unfold Hid walkG; rw [if_pos h3]
    have d1 : decide ((300 : Int) < (n : Int) + 1) = true := decide_eq_true (by omega)
    go_enter Tryz.func80, Tryz.ntmps80
    go_wp2_with fail
    rw [← HW1.out]
    go_ret
    exact walkAns_err HW.out (by decide) (by decide) HWK1.out
  · have d1 : decide ((300 : Int) < (n : Int) + 1) = false := decide_eq_false (by omega)
    have HW0 : Hid (walkG f (decide (D = 8)) rec x ahead lf n = match treeG f x with | none => .inl 13 | some es => loopF f (decide (D = 8)) rec ahead es lf (n + 1)) := by unfold Hid walkG; rw [if_neg h3]; rfl
    go_enter Tryz.func80, Tryz.ntmps80
    go_wp2_with fail
    rw [← HW1.out]
    have hn1 : n + 1 ≤ 300 := by omega
    clear HW1 cw2 fw2 hwn d1 h3
    have c0 : W1.drew.cell? ⟨wb, 0, none⟩ = some (.iface 105 (.pointer (some ⟨lb, 0, none⟩))) := HS1.out.a.cell 0 (by omega)
    have HSS : W1.drew.cell? ⟨wb, 0, none⟩ = some (.iface 105 (.pointer (some ⟨lb, 0, none⟩))) ∧ W1.drew.rangeAt w.heap.size 0 ux := ⟨c0, HR0.out⟩
    refine wp_region_L 10 (fun w' => w'.cell? ⟨wb, 0, none⟩ = some (.iface 105 (.pointer (some ⟨lb, 0, none⟩))) ∧ w'.rangeAt w.heap.size 0 ux) (by kernel_rfl) (by kernel_rfl) ?_
    refine WL.take (i := 0) (v := ?_) rfl (by kernel_rfl) (by decide) (by decide +kernel) (by decide +kernel) (fun _ _ _ h => h) rfl ?_ HSS ?_
    rotate_left
    · (intro w' hSw; (try dsimp only at hSw); go_simp; (try with_reducible rfl))
    simp only [Act.put]; (try simp only [List.getElem_toArray]); (try simp only [List.getElem_cons_succ]); (try simp only [List.getElem_cons_zero]); (try simp only [List.setIfInBounds_toArray]); (try simp only [List.set_cons_succ]); (try simp only [List.set_cons_zero])
    refine WL.take (i := 1) (v := ?_) rfl (by kernel_rfl) (by decide) (by decide +kernel) (by decide +kernel) (fun _ _ _ h => h) rfl ?_ HSS ?_
    rotate_left
    · (intro w' hSw; (try dsimp only at hSw); go_simp; (try with_reducible rfl))
    simp only [Act.put]; (try simp only [List.getElem_toArray]); (try simp only [List.getElem_cons_succ]); (try simp only [List.getElem_cons_zero]); (try simp only [List.setIfInBounds_toArray]); (try simp only [List.set_cons_succ]); (try simp only [List.set_cons_zero])
    refine WL.take (i := 2) (v := ?_) rfl (by kernel_rfl) (by decide) (by decide +kernel) (by decide +kernel) (fun _ _ _ h => h) rfl ?_ HSS ?_
    rotate_left
    · (intro w' hSw; (try dsimp only at hSw); go_simp; (try with_reducible rfl))
    simp only [Act.put]; (try simp only [List.getElem_toArray]); (try simp only [List.getElem_cons_succ]); (try simp only [List.getElem_cons_zero]); (try simp only [List.setIfInBounds_toArray]); (try simp only [List.set_cons_succ]); (try simp only [List.set_cons_zero])
    refine WL.take (i := 3) (v := ?_) rfl (by kernel_rfl) (by decide) (by decide +kernel) (by decide +kernel) (fun _ _ _ h => h) rfl ?_ HSS ?_
    rotate_left
    · (intro w' hSw; (try dsimp only at hSw); go_simp; (try with_reducible rfl))
    simp only [Act.put]; (try simp only [List.getElem_toArray]); (try simp only [List.getElem_cons_succ]); (try simp only [List.getElem_cons_zero]); (try simp only [List.setIfInBounds_toArray]); (try simp only [List.set_cons_succ]); (try simp only [List.set_cons_zero])
    refine WL.take (i := 4) (v := _) rfl (by kernel_rfl) (by decide) (by decide +kernel) (by decide +kernel) (fun _ _ _ h => h) rfl (fun w' hSw => exec_row 24 _ (hSw.2) Tryz.underlying24 rfl h32x _ rfl rfl) HSS ?_
    simp only [Act.put]; (try simp only [List.getElem_toArray]); (try simp only [List.getElem_cons_succ]); (try simp only [List.getElem_cons_zero]); (try simp only [List.setIfInBounds_toArray]); (try simp only [List.set_cons_succ]); (try simp only [List.set_cons_zero])
    refine WL.one (i := 5) rfl (by decide) (by decide +kernel) ?_
    go_wp2_with fail
    refine (HTR.out _ (HS1.out.below (Below.refl _ _).drew)).mono ?_
    intro e w2 h
    obtain ⟨ve, rfl, hrow, hfr, hb2⟩ := h
    have hb2' : Below W1.heap.size W1 w2 := drew_below hb2
    have HS2 := Lib.hid (HS1.out.below hb2')
    have HWK2 := Lib.hid (HWK1.out.trans (Wk.below v hb2'))
    have hs2 := hb2'.size
    have hSS2 : w2.cell? ⟨wb, 0, none⟩ = some (.iface 105 (.pointer (some ⟨lb, 0, none⟩))) ∧ w2.rangeAt w.heap.size 0 ux := ⟨HS2.out.a.cell 0 (by omega), rangeAt_below HR0.out hb2' hs1⟩
    have HROW := Lib.hid hrow
    have HFR : Hid (FreshV W1 ve) := Lib.hid hfr
    clear HSS c0 hrow hfr hb2 hb2' HTR
    obtain ⟨tg, htg⟩ : ∃ tg, treeG f x = tg := ⟨_, rfl⟩
    rw [htg] at HROW HW0 ⊢
    go_wp2
    refine ⟨hSS2, ?_⟩
    refine WL.take (i := 6) (v := ?_) rfl (by kernel_rfl) (by decide) (by decide +kernel) (by decide +kernel) (fun _ _ _ h => h) rfl ?_ hSS2 ?_
    rotate_left
    · (intro w' hSw; (try dsimp only at hSw); go_simp; (try with_reducible rfl))
    simp only [Act.put]; (try simp only [List.getElem_toArray]); (try simp only [List.getElem_cons_succ]); (try simp only [List.getElem_cons_zero]); (try simp only [List.setIfInBounds_toArray]); (try simp only [List.set_cons_succ]); (try simp only [List.set_cons_zero])
    refine WL.take (i := 7) (v := ?_) rfl (by kernel_rfl) (by decide) (by decide +kernel) (by decide +kernel) (fun _ _ _ h => h) rfl ?_ hSS2 ?_
    rotate_left
    · (intro w' hSw; (try dsimp only at hSw); go_simp; (try with_reducible rfl))
    simp only [Act.put]; (try simp only [List.getElem_toArray]); (try simp only [List.getElem_cons_succ]); (try simp only [List.getElem_cons_zero]); (try simp only [List.setIfInBounds_toArray]); (try simp only [List.set_cons_succ]); (try simp only [List.set_cons_zero])
    refine WL.take (i := 8) (v := ?_) rfl (by kernel_rfl) (by decide) (by decide +kernel) (by decide +kernel) (fun _ _ _ h => h) rfl ?_ hSS2 ?_
    rotate_left
    · (intro w' hSw; (try dsimp only at hSw); go_simp; (try with_reducible rfl))
    simp only [Act.put]; (try simp only [List.getElem_toArray]); (try simp only [List.getElem_cons_succ]); (try simp only [List.getElem_cons_zero]); (try simp only [List.setIfInBounds_toArray]); (try simp only [List.set_cons_succ]); (try simp only [List.set_cons_zero])
    refine WL.one (i := 9) rfl (by decide) (by decide +kernel) ?_
    go_wp2
    refine ⟨hSS2, ?_⟩
    refine WL.last (n := 10) rfl rfl (by decide +kernel) (by decide +kernel) ?_
    clear hSS2
    cases tg with
    | none =>
      have HW : Hid (walkG f (decide (D = 8)) rec x ahead lf n = .inl 13) := Lib.hid HW0.out
      clear HW0 htg
      dsimp only [Option.isSome]
      go_wp2
      go_ret
      exact walkAns_err HW.out (by decide) (by decide) HWK2.out
    | some es =>
      have HW1 : Hid (walkG f (decide (D = 8)) rec x ahead lf n = loopF f (decide (D = 8)) rec ahead es lf (n + 1)) := Lib.hid HW0.out
      have HES : Hid (es.length ≤ 32 ∧ ∀ e ∈ es, e.id.length = 32 ∧ e.name.size ≤ 32 ∧ (e.kind = 1 ∨ e.kind = 2)) := Lib.hid (by
        unfold treeG at htg
        split at htg
        · split at htg
          · exact treeOf_some htg
          · cases htg
        · cases htg)
      have hrow : EntRow w2 ve es := HROW.out
      obtain ⟨eo, ec, rfl, hem, hER⟩ := hrow.open2
      unfold maxLen at hem
      have HE : Hid (es ≠ [] → ∃ b off, eo = some ⟨b, off, none⟩ ∧ b < w2.heap.size ∧ W1.heap.size ≤ b ∧ ∀ k (hk : k < es.length), w2.rangeAt b (off + k * 34) (entC es[k])) := Lib.hid (fun hne => by
        obtain ⟨b, off, h1, h2, h3⟩ := hER hne
        exact ⟨b, off, h1, h2, HFR.out b (by rw [h1]; rfl), h3⟩)
      clear HW0 htg hrow hER HROW HFR
      dsimp only [Option.isSome, Option.getD]
      go_wp2_with fail
      obtain ⟨zs, i0, hi, hz0, hz1, hz2, hzv, hbu, hzs⟩ := ent_zero
      have HZS := Lib.hid hzs
      have hi34 : (Tryz.prog.info? 152).map (·.size) = some 34 := by rw [hi]; exact congrArg some hz1
      clear hbu hzs hz0 hz2
      go_loopw [41] (fun i wr => ∃ (k nk : Nat) (lk : Lfs) (vk : Value), k ≤ es.length ∧ i = .int .i64 k ∧ lk.length ≤ 300 ∧ nk ≤ 300 ∧ Hid (walkG f (decide (D = 8)) rec x ahead lf n = loopF f (decide (D = 8)) rec ahead (es.drop k) lk nk) ∧ Hid (WS wb ob lb mb nm base f lk nk vk wr) ∧ Hid (Wk wb ob w2 wr v vk)) (fun i _ => (es.length - intOf i).toNat)
      case atStart => exact ⟨0, n + 1, lf, v, by omega, rfl, hlf, by omega, HW1, HS2, Lib.hid (Wk.below v (Below.refl _ _))⟩
      case round =>
        obtain ⟨wo, rfl⟩ : ∃ wo : World, wo = wr := ⟨_, rfl⟩
        obtain ⟨k, nk, lk, vk, hk, rfl, hlk, hnk, hwk, HSO, HKO⟩ := hrel
        have hszo := HKO.out.size
        by_cases hlt : k < es.length
        · obtain ⟨b, off, rfl, hbl, hbb, hce⟩ := HE.out (by intro e; rw [e] at hlt; simp at hlt)
          have HDR : Hid (es.drop k = es[k] :: es.drop (k + 1)) := Lib.hid (List.drop_eq_getElem_cons hlt)
          have hq1 := HBB.out.hwb
          have hq2 := HBB.out.hob
          have hq3 := HBS.out
          have f1 := HKO.out.range (hce k hlt) (by omega) (by omega) (fun e => by have := HVL.out b e; omega)
          obtain ⟨hid, hnm, hkd⟩ := HES.out.2 es[k] (List.getElem_mem hlt)
          have k0 : (0 : Int) ≤ k := by omega
          have k1 : (k : Int) < es.length := by omega
          generalize es[k] = en at HDR f1 hid hnm hkd
          obtain ⟨nm', kd, id⟩ := en
          dsimp only at hid hnm hkd
          have hcl : (entC ⟨nm', kd, id⟩).length = 34 := by simp [entC, idC_len, hid]
          have h34 : (Tryz.prog.info? 152).map (·.size) = some (entC ⟨nm', kd, id⟩).length := by rw [hcl]; exact hi34
          have hone := entC_one ⟨nm', kd, id⟩
          have hth : (wo.alloc (.cells zs 152)).there wo.heap.size 0 34 := by
            rw [HZS.out]
            have := (Arr.ofList wo ((List.range 34).map entZ) 152).there
            rw [List.length_map, List.length_range] at this
            exact this
          have hr3 := World.rangeAt_setCells_same (wo.alloc (.cells zs 152)) wo.heap.size 0 (entC ⟨nm', kd, id⟩) (by rw [hcl]; exact hth)
          have hB3 := below_setCells (B := wo.heap.size) (a := wo) wo.heap.size (Nat.le_refl _) (entC ⟨nm', kd, id⟩) 0 _ ((Below.refl _ _).alloc (Nat.le_refl _) (.cells zs 152))
          obtain ⟨c1, c2⟩ := ent_name hr3
          rw [Nat.zero_add] at c2
          dsimp only at c1 c2
          have hri : ((wo.alloc (.cells zs 152)).setCells wo.heap.size 0 (entC ⟨nm', kd, id⟩)).rangeAt wo.heap.size 2 (idC id) := fun j u hu => by
            have := hr3 (j + 2) u (by unfold entC; rw [List.getElem?_append_right (by simp)]; simpa using hu)
            rw [show 0 + (j + 2) = 2 + j by omega] at this
            exact this
          obtain ⟨us, hus⟩ : ∃ us, us = entC ⟨nm', kd, id⟩ := ⟨_, rfl⟩
          rw [← hus] at hcl h34 hone hB3 c1 c2 f1 hri
          clear hr3 hus hce
          obtain ⟨W5, hW5⟩ : ∃ W5, (wo.alloc (.cells zs 152)).setCells wo.heap.size 0 us = W5 := ⟨_, rfl⟩
          rw [hW5] at hB3 c1 c2 hri
          have hszW : wo.heap.size < W5.heap.size := World.block_lt_of_cell? W5 ⟨wo.heap.size, 0, none⟩ c1
          have HS5 := Lib.hid (HSO.out.below hB3)
          have HK5 : Hid (Wk wb ob w2 W5 v vk) := Lib.hid (HKO.out.trans (Wk.below vk hB3))
          have HW5 := Lib.hid hW5
          have HTH := Lib.hid hth
          have HCL := Lib.hid hcl
          have HON := Lib.hid hone
          have F1 := Lib.hid f1
          have HRI := Lib.hid hri
          obtain ⟨E, hE⟩ : ∃ E, E = wo.heap.size := ⟨_, rfl⟩
          clear hth hcl hone f1 hW5 hri hB3
          go_upto_region 10 with ((first | (refine wpList_load_mid rfl 152 _ rfl b (off + k * 34) rfl us _ F1.out Tryz.underlying152 rfl h34 ?_) | (refine wpList_store_list rfl 152 _ _ rfl wo.heap.size 0 us rfl rfl 34 HCL.out HTH.out hi34 HON.out ?_)))
          simp only [Act.put]
          rw [HW5.out]
          clear HW5 F1 HTH HCL HON
          rw [← hE] at c1 c2 hszW HRI ⊢
          have hEo : wo.heap.size ≤ E := by omega
          clear hE
          by_cases h8 : D = 8
          · have HW : Hid (walkG f (decide (D = 8)) rec x ahead lf n = .inl 11) := by
              unfold Hid; rw [hwk.out, HDR.out, show decide (D = 8) = true from decide_eq_true h8]; rfl
            have d3 : ((D : Int) == 8) = true := by rw [beq_iff_eq]; omega
            have HK := Lib.hid (HWK2.out.trans HK5.out)
            clear hwk
            go_wp2
            go_ret
            exact walkAns_err HW.out (by decide) (by decide) HK.out
          · have HW0 : Hid (walkG f (decide (D = 8)) rec x ahead lf n = loopF f false rec ahead (⟨nm', kd, id⟩ :: es.drop (k + 1)) lk nk) := by
              unfold Hid; rw [hwk.out, HDR.out, show decide (D = 8) = false from decide_eq_false h8]
            have HWX : Hid (∀ (lk' : Lfs) (nk' : Nat), walkG f (decide (D = 8)) rec x ahead lf n = loopF f false rec ahead (es.drop (k + 1)) lk' nk' → walkG f (decide (D = 8)) rec x ahead lf n = loopF f (decide (D = 8)) rec ahead (es.drop (k + 1)) lk' nk') := Lib.hid (fun lk' nk' h => by rw [h, show decide (D = 8) = false from decide_eq_false h8])
            have d3 : ((D : Int) == 8) = false := by rw [beq_eq_false_iff_ne]; omega
            have HRC := Lib.hid (HREC.out (by omega))
            clear hwk HDR
            have h32i := h32_of (us := idC id) (by rw [idC_len, hid])
            by_cases h2 : kd = 2
            · have d4 : ((kd : Int) == 2) = true := by rw [beq_iff_eq]; omega
              have hcat1 : ∀ W, (Op.stringOp .add ahead nm').run Tryz.prog W = .ok (.string (ahead ++ nm')) W := fun W => run_string_add_sum W _ _ (by omega)
              have hcat2 : ∀ W, (Op.stringOp .add (ahead ++ nm') ⟨#[47]⟩).run Tryz.prog W = .ok (.string (ahead ++ nm' ++ slashL)) W := fun W => run_string_add_sum W _ _ (by rw [ByteArray.size_append]; show ahead.size + nm'.size + 1 ≤ _; omega)
              obtain ⟨D1, hD1⟩ : ∃ D1, D1 = D + 1 := ⟨_, rfl⟩
              have hwr : IntKind.i64.wrap ((D : Int) + 1) = (D1 : Int) := by rw [hD1]; exact IntWalk.i64_in _ (by omega)
              have hwr2 : (D : Int) + 1 = (D1 : Int) := by omega
              have HCL := Lib.hid (HRC.out id (ahead ++ nm' ++ slashL) vk lk nk W5 hid (by rw [ByteArray.size_append, ByteArray.size_append]; show ahead.size + nm'.size + 1 ≤ _; omega) hlk hnk HS5.out)
              rw [← hD1] at HCL
              generalize hue : idC id = ue at HRI h32i HCL
              clear hue HRC hD1
              go_wp2_with (refine wpList_load_mid rfl 24 _ rfl E 2 rfl ue _ HRI.out Tryz.underlying24 rfl h32i ?_)
              refine HCL.out.mono ?_
              intro e w6 h
              cases hr : rec id (ahead ++ nm' ++ slashL) lk nk with
              | inl c =>
                rw [hr] at h
                obtain ⟨rfl, hc1, hc2, v', hk'⟩ := h
                have HW : Hid (walkG f (decide (D = 8)) rec x ahead lf n = .inl c) := by unfold Hid; rw [HW0.out, loopF_err h2 hr]
                have HK := Lib.hid ((HWK2.out.trans HK5.out).trans hk')
                have d5 : ((c : Int) != 0) = true := by rw [bne_iff_ne]; omega
                clear hr hk'
                go_wp2
                go_ret
                exact walkAns_err HW.out hc1 hc2 HK.out
              | inr y =>
                rw [hr] at h
                obtain ⟨ly, ny⟩ := y
                obtain ⟨rfl, hy1, hy2, v', hs', hk'⟩ := h
                have HW2 : Hid (walkG f (decide (D = 8)) rec x ahead lf n = loopF f (decide (D = 8)) rec ahead (es.drop (k + 1)) ly ny) := HWX.out ly ny (by rw [HW0.out, loopF_ok h2 hr])
                have HS6 := Lib.hid hs'
                have HK6 := Lib.hid (HK5.out.trans hk')
                clear hr hk' hs'
                go_wp2
                go_roundw
                case rel => exact ⟨k + 1, ny, ly, v', by omega, by go_num, hy1, hy2, HW2, HS6, HK6⟩
                case measure => simp [intOf]; omega
            · have d4 : ((kd : Int) == 2) = false := by rw [beq_eq_false_iff_ne]; omega
              go_upto_region 15 with fail
              obtain ⟨ob1, hob1⟩ : ∃ o : Option Ob, f id = o := ⟨_, rfl⟩
              have HOBE := Lib.hid hob1
              have HGT := Lib.hid (fun W (h : Below W5.heap.size W5 W) => oget_any lb mb nm f id W (HS5.out.below h).src (HS5.out.below h).map hid)
              rw [hob1] at HGT
              clear hob1
              have HSX : Hid (∀ W, Below W5.heap.size W5 W → W.cell? ⟨wb, 0, none⟩ = some (.iface 105 (.pointer (some ⟨lb, 0, none⟩))) ∧ W.rangeAt E 2 (idC id)) := Lib.hid (fun W h => ⟨(HS5.out.below h).a.cell 0 (by omega), rangeAt_below HRI.out h hszW⟩)
              have HOB1 : Hid (∀ u ∈ ([.int .i64 (ob1.getD ob0).kind, .string (ob1.getD ob0).body] : List Value), u.oneCell' = true) := Lib.hid (by simp [Value.oneCell'])
              generalize hue : idC id = ue at HRI h32i HGT HSX
              clear hue HRC
              have hmg := method_get
              go_cut [14, 15, 41] from 41 to 92 (fun s14 s15 s41 wx => ∃ P, s14 = .pointer (some ⟨P, 0, none⟩) ∧ s15 = .bool ob1.isSome ∧ s41 = .int .i64 (k : Int) ∧ W5.heap.size ≤ P ∧ Hid (wx.rangeAt P 0 [.int .i64 (ob1.getD ob0).kind, .string (ob1.getD ob0).body]) ∧ Hid (Below W5.heap.size W5 wx))
              case first =>
                have HS0 := HSX.out W5.drew (Below.refl _ _).drew
                refine wp_region_L 12 (fun w' => w'.cell? ⟨wb, 0, none⟩ = some (.iface 105 (.pointer (some ⟨lb, 0, none⟩))) ∧ w'.rangeAt E 2 ue) (by kernel_rfl) (by kernel_rfl) ?_
                refine WL.take (i := 0) (v := ?_) rfl (by kernel_rfl) (by decide) (by decide +kernel) (by decide +kernel) (fun _ _ _ h => h) rfl ?_ HS0 ?_
                rotate_left
                · (intro w' hSw; (try dsimp only at hSw); go_simp; (try with_reducible rfl))
                simp only [Act.put]; (try simp only [List.getElem_toArray]); (try simp only [List.getElem_cons_succ]); (try simp only [List.getElem_cons_zero]); (try simp only [List.setIfInBounds_toArray]); (try simp only [List.set_cons_succ]); (try simp only [List.set_cons_zero])
                refine WL.take (i := 1) (v := ?_) rfl (by kernel_rfl) (by decide) (by decide +kernel) (by decide +kernel) (fun _ _ _ h => h) rfl ?_ HS0 ?_
                rotate_left
                · (intro w' hSw; (try dsimp only at hSw); go_simp; (try with_reducible rfl))
                simp only [Act.put]; (try simp only [List.getElem_toArray]); (try simp only [List.getElem_cons_succ]); (try simp only [List.getElem_cons_zero]); (try simp only [List.setIfInBounds_toArray]); (try simp only [List.set_cons_succ]); (try simp only [List.set_cons_zero])
                refine WL.take (i := 2) (v := ?_) rfl (by kernel_rfl) (by decide) (by decide +kernel) (by decide +kernel) (fun _ _ _ h => h) rfl ?_ HS0 ?_
                rotate_left
                · (intro w' hSw; (try dsimp only at hSw); go_simp; (try with_reducible rfl))
                simp only [Act.put]; (try simp only [List.getElem_toArray]); (try simp only [List.getElem_cons_succ]); (try simp only [List.getElem_cons_zero]); (try simp only [List.setIfInBounds_toArray]); (try simp only [List.set_cons_succ]); (try simp only [List.set_cons_zero])
                refine WL.take (i := 3) (v := ?_) rfl (by kernel_rfl) (by decide) (by decide +kernel) (by decide +kernel) (fun _ _ _ h => h) rfl ?_ HS0 ?_
                rotate_left
                · (intro w' hSw; (try dsimp only at hSw); go_simp; (try with_reducible rfl))
                simp only [Act.put]; (try simp only [List.getElem_toArray]); (try simp only [List.getElem_cons_succ]); (try simp only [List.getElem_cons_zero]); (try simp only [List.setIfInBounds_toArray]); (try simp only [List.set_cons_succ]); (try simp only [List.set_cons_zero])
                refine WL.take (i := 4) (v := ?_) rfl (by kernel_rfl) (by decide) (by decide +kernel) (by decide +kernel) (fun _ _ _ h => h) rfl ?_ HS0 ?_
                rotate_left
                · (intro w' hSw; (try dsimp only at hSw); go_simp; (try with_reducible rfl))
                simp only [Act.put]; (try simp only [List.getElem_toArray]); (try simp only [List.getElem_cons_succ]); (try simp only [List.getElem_cons_zero]); (try simp only [List.setIfInBounds_toArray]); (try simp only [List.set_cons_succ]); (try simp only [List.set_cons_zero])
                refine WL.take (i := 5) (v := _) rfl (by kernel_rfl) (by decide) (by decide +kernel) (by decide +kernel) (fun _ _ _ h => h) rfl (fun w' hSw => exec_row 24 _ (hSw.2) Tryz.underlying24 rfl h32i _ rfl rfl) HS0 ?_
                simp only [Act.put]; (try simp only [List.getElem_toArray]); (try simp only [List.getElem_cons_succ]); (try simp only [List.getElem_cons_zero]); (try simp only [List.setIfInBounds_toArray]); (try simp only [List.set_cons_succ]); (try simp only [List.set_cons_zero])
                refine WL.two (i := 6) (k := 10) rfl rfl (by decide) (by decide) (by decide +kernel) ?_ ?_
                focus
                  go_wp2_with fail
                  refine (HGT.out _ (Below.refl _ _).drew).mono ?_
                  rintro e w6 ⟨rfl, hb6⟩
                  have HB6 := Lib.hid (drew_below hb6)
                  have HS6 := HSX.out w6 HB6.out
                  have HB7 : Hid (Below W5.heap.size W5 (w6.alloc (.cells #[.int .i64 0, .string ⟨#[]⟩] 93))) := Lib.hid (HB6.out.alloc HB6.out.size _)
                  have HS7 := HSX.out _ HB7.out
                  have hth := Lib.hid (Arr.ofList w6 [.int .i64 0, .string ⟨#[]⟩] 93).there
                  have hp6 := HB6.out.size
                  clear hb6
                  go_wp2
                  refine ⟨HS6, ?_⟩
                  refine WL.take (i := 7) (v := ?_) rfl (by kernel_rfl) (by decide) (by decide +kernel) (by decide +kernel) (fun _ _ _ h => h) rfl ?_ HS6 ?_
                  rotate_left
                  · (intro w' hSw; (try dsimp only at hSw); go_simp; (try with_reducible rfl))
                  simp only [Act.put]; (try simp only [List.getElem_toArray]); (try simp only [List.getElem_cons_succ]); (try simp only [List.getElem_cons_zero]); (try simp only [List.setIfInBounds_toArray]); (try simp only [List.set_cons_succ]); (try simp only [List.set_cons_zero])
                  refine WL.take (i := 8) (v := ?_) rfl (by kernel_rfl) (by decide) (by decide +kernel) (by decide +kernel) (fun _ _ _ h => h) rfl ?_ HS6 ?_
                  rotate_left
                  · (intro w' hSw; (try dsimp only at hSw); go_simp; (try with_reducible rfl))
                  simp only [Act.put]; (try simp only [List.getElem_toArray]); (try simp only [List.getElem_cons_succ]); (try simp only [List.getElem_cons_zero]); (try simp only [List.setIfInBounds_toArray]); (try simp only [List.set_cons_succ]); (try simp only [List.set_cons_zero])
                  refine WL.take (i := 9) (v := ?_) rfl (by kernel_rfl) (by decide) (by decide +kernel) (by decide +kernel) (fun _ _ _ h => h) rfl ?_ HS6 ?_
                  rotate_left
                  · (intro w' hSw; (try dsimp only at hSw); go_simp; (try with_reducible rfl))
                  simp only [Act.put]; (try simp only [List.getElem_toArray]); (try simp only [List.getElem_cons_succ]); (try simp only [List.getElem_cons_zero]); (try simp only [List.setIfInBounds_toArray]); (try simp only [List.set_cons_succ]); (try simp only [List.set_cons_zero])
                  refine WL.one (i := 10) rfl (by decide) (by decide +kernel) ?_
                  go_wp2
                  refine ⟨HS7, ?_⟩
                  obtain ⟨P, hP⟩ : ∃ P, w6.heap.size = P := ⟨_, rfl⟩
                  obtain ⟨w7, hw7⟩ : ∃ w7, w6.alloc (.cells #[.int .i64 0, .string ⟨#[]⟩] 93) = w7 := ⟨_, rfl⟩
                  rw [hw7] at HB7 HS7 hth ⊢
                  rw [hP] at hth hp6
                  simp only [hP]
                  clear hP hw7 HS6
                rotate_left
                focus
                  have HB6 : Hid (Below W5.heap.size W5 (W5.alloc (.cells #[.int .i64 0, .string ⟨#[]⟩] 93)).drew) := Lib.hid (((Below.refl _ _).alloc (Nat.le_refl _) _).drew)
                  have hth6 := (Arr.ofList W5 [.int .i64 0, .string ⟨#[]⟩] 93).drew.there
                  have HS6 := HSX.out _ HB6.out
                  go_wp2
                  refine ⟨HS6, ?_⟩
                  refine WL.one (i := 6) rfl (by decide) (by decide +kernel) ?_
                  go_wp2_with fail
                  refine (HGT.out _ HB6.out).mono ?_
                  rintro e w7 ⟨rfl, hb7⟩
                  have hth := Lib.hid (there_below hth6 hb7 (by simp))
                  have HB7 := Lib.hid (HB6.out.trans (hb7.mono HB6.out.size))
                  have HS7 := HSX.out _ HB7.out
                  have hp6 : W5.heap.size ≤ W5.heap.size := Nat.le_refl _
                  clear hb7 hth6
                  go_wp2
                  refine ⟨HS7, ?_⟩
                  refine WL.take (i := 7) (v := ?_) rfl (by kernel_rfl) (by decide) (by decide +kernel) (by decide +kernel) (fun _ _ _ h => h) rfl ?_ HS7 ?_
                  rotate_left
                  · (intro w' hSw; (try dsimp only at hSw); go_simp; (try with_reducible rfl))
                  simp only [Act.put]; (try simp only [List.getElem_toArray]); (try simp only [List.getElem_cons_succ]); (try simp only [List.getElem_cons_zero]); (try simp only [List.setIfInBounds_toArray]); (try simp only [List.set_cons_succ]); (try simp only [List.set_cons_zero])
                  refine WL.take (i := 8) (v := ?_) rfl (by kernel_rfl) (by decide) (by decide +kernel) (by decide +kernel) (fun _ _ _ h => h) rfl ?_ HS7 ?_
                  rotate_left
                  · (intro w' hSw; (try dsimp only at hSw); go_simp; (try with_reducible rfl))
                  simp only [Act.put]; (try simp only [List.getElem_toArray]); (try simp only [List.getElem_cons_succ]); (try simp only [List.getElem_cons_zero]); (try simp only [List.setIfInBounds_toArray]); (try simp only [List.set_cons_succ]); (try simp only [List.set_cons_zero])
                  refine WL.take (i := 9) (v := ?_) rfl (by kernel_rfl) (by decide) (by decide +kernel) (by decide +kernel) (fun _ _ _ h => h) rfl ?_ HS7 ?_
                  rotate_left
                  · (intro w' hSw; (try dsimp only at hSw); go_simp; (try with_reducible rfl))
                  simp only [Act.put]; (try simp only [List.getElem_toArray]); (try simp only [List.getElem_cons_succ]); (try simp only [List.getElem_cons_zero]); (try simp only [List.setIfInBounds_toArray]); (try simp only [List.set_cons_succ]); (try simp only [List.set_cons_zero])
                  obtain ⟨P, hP⟩ : ∃ P, P = W5.heap.size := ⟨_, rfl⟩
                  rw [← hP] at hth
                  have hp6 : W5.heap.size ≤ P := by omega
                  simp only [← hP]
                  clear hP HS6
                all_goals
                  refine WL.one (i := 11) rfl (by decide) (by decide +kernel) ?_
                  refine wpList_store_list rfl 93 _ _ rfl P 0 [.int .i64 (ob1.getD ob0).kind, .string (ob1.getD ob0).body] rfl rfl 2 rfl hth.out (by kernel_rfl) HOB1.out ?_
                  simp only [Act.put]; (try simp only [List.getElem_toArray]); (try simp only [List.getElem_cons_succ]); (try simp only [List.getElem_cons_zero]); (try simp only [List.setIfInBounds_toArray]); (try simp only [List.set_cons_succ]); (try simp only [List.set_cons_zero])
                  have HB8 := Lib.hid (below_setCells (B := W5.heap.size) (a := W5) P hp6 [.int .i64 (ob1.getD ob0).kind, .string (ob1.getD ob0).body] 0 w7 HB7.out)
                  have HR8 := Lib.hid (World.rangeAt_setCells_same w7 P 0 [.int .i64 (ob1.getD ob0).kind, .string (ob1.getD ob0).body] hth.out)
                  generalize w7.setCells P 0 [.int .i64 (ob1.getD ob0).kind, .string (ob1.getD ob0).body] = w8 at HB8 HR8
                  have HS8 := HSX.out _ HB8.out
                  refine ⟨HS8, ?_⟩
                  refine WL.last (n := 12) rfl rfl (by decide +kernel) (by decide +kernel) ?_
                  clear HS8 HS7 HS0
                  go_wp2_with fail
                  go_meet
                  exact ⟨P, rfl, rfl, rfl, hp6, HR8, HB8⟩
              case rest =>
                obtain ⟨P, rfl, rfl, rfl, hP, HR8, HB8⟩ := hcut
                have HS8 := Lib.hid (HS5.out.below HB8.out)
                have HK8 : Hid (Wk wb ob w2 wc v vk) := Lib.hid (HK5.out.trans (Wk.below vk HB8.out))
                have n1 := below_load c1 HB8.out hszW
                have p0 := HR8.out 0 _ rfl
                have p1 := HR8.out 1 _ rfl
                have hPl : P < wc.heap.size := World.block_lt_of_cell? wc ⟨P, _, none⟩ p0
                rw [Nat.zero_add] at p0 p1
                clear HGT HSX HOB1 hmg HRI c1 c2 h32i
                cases ob1 with
                | none =>
                  have HW : Hid (walkG f (decide (D = 8)) rec x ahead lf n = .inl 13) := by unfold Hid; rw [HW0.out, loopF_none h2 HOBE.out]
                  have HK := Lib.hid (HWK2.out.trans HK8.out)
                  dsimp only [Option.getD, Option.isSome] at p0 p1 ⊢
                  go_wp2
                  go_ret
                  exact walkAns_err HW.out (by decide) (by decide) HK.out
                | some bo =>
                  dsimp only [Option.getD, Option.isSome] at p0 p1 ⊢
                  by_cases hb1 : bo.kind = 1
                  · have d5 : (bo.kind == 1) = true := by rw [hb1]; rfl
                    have hcat1 : ∀ W, (Op.stringOp .add ahead nm').run Tryz.prog W = .ok (.string (ahead ++ nm')) W := fun W => run_string_add_sum W _ _ (by omega)
                    have hfc : wc.cell? ⟨wb, 1, none⟩ = some (.func (.func 79) #[] #[.pointer (some ⟨ob, 0, none⟩)]) := HS8.out.a.cell 1 (by omega)
                    have HS0 : wc.drew.cell? ⟨wb, 1, none⟩ = some (.func (.func 79) #[] #[.pointer (some ⟨ob, 0, none⟩)]) ∧ wc.drew.cell? ⟨E, 0, none⟩ = some (.string nm') ∧ wc.drew.cell? ⟨P, 1, none⟩ = some (.string bo.body) := ⟨hfc, n1, p1⟩
                    have HPF := Lib.hid (pfile_any ob base lk (ahead ++ nm') bo.body vk wc.drew HS8.out.o.drew (own_below HS8.out.own (Below.refl _ _).drew) hq2 HS8.out.bs hlk)
                    clear hfc
                    go_wp2_with fail
                    refine wp_region_L 12 (fun w' => w'.cell? ⟨wb, 1, none⟩ = some (.func (.func 79) #[] #[.pointer (some ⟨ob, 0, none⟩)]) ∧ w'.cell? ⟨E, 0, none⟩ = some (.string nm') ∧ w'.cell? ⟨P, 1, none⟩ = some (.string bo.body)) (by kernel_rfl) (by kernel_rfl) ?_
                    refine WL.take (i := 0) (v := ?_) rfl (by kernel_rfl) (by decide) (by decide +kernel) (by decide +kernel) (fun _ _ _ h => h) rfl ?_ HS0 ?_
                    rotate_left
                    · (intro w' hSw; (try dsimp only at hSw); go_simp; (try with_reducible rfl))
                    simp only [Act.put]; (try simp only [List.getElem_toArray]); (try simp only [List.getElem_cons_succ]); (try simp only [List.getElem_cons_zero]); (try simp only [List.setIfInBounds_toArray]); (try simp only [List.set_cons_succ]); (try simp only [List.set_cons_zero])
                    refine WL.take (i := 1) (v := ?_) rfl (by kernel_rfl) (by decide) (by decide +kernel) (by decide +kernel) (fun _ _ _ h => h) rfl ?_ HS0 ?_
                    rotate_left
                    · (intro w' hSw; (try dsimp only at hSw); go_simp; (try with_reducible rfl))
                    simp only [Act.put]; (try simp only [List.getElem_toArray]); (try simp only [List.getElem_cons_succ]); (try simp only [List.getElem_cons_zero]); (try simp only [List.setIfInBounds_toArray]); (try simp only [List.set_cons_succ]); (try simp only [List.set_cons_zero])
                    refine WL.take (i := 2) (v := ?_) rfl (by kernel_rfl) (by decide) (by decide +kernel) (by decide +kernel) (fun _ _ _ h => h) rfl ?_ HS0 ?_
                    rotate_left
                    · (intro w' hSw; (try dsimp only at hSw); go_simp; (try with_reducible rfl))
                    simp only [Act.put]; (try simp only [List.getElem_toArray]); (try simp only [List.getElem_cons_succ]); (try simp only [List.getElem_cons_zero]); (try simp only [List.setIfInBounds_toArray]); (try simp only [List.set_cons_succ]); (try simp only [List.set_cons_zero])
                    refine WL.take (i := 3) (v := ?_) rfl (by kernel_rfl) (by decide) (by decide +kernel) (by decide +kernel) (fun _ _ _ h => h) rfl ?_ HS0 ?_
                    rotate_left
                    · (intro w' hSw; (try dsimp only at hSw); go_simp; (try with_reducible rfl))
                    simp only [Act.put]; (try simp only [List.getElem_toArray]); (try simp only [List.getElem_cons_succ]); (try simp only [List.getElem_cons_zero]); (try simp only [List.setIfInBounds_toArray]); (try simp only [List.set_cons_succ]); (try simp only [List.set_cons_zero])
                    refine WL.take (i := 4) (v := ?_) rfl (by kernel_rfl) (by decide) (by decide +kernel) (by decide +kernel) (fun _ _ _ h => h) rfl ?_ HS0 ?_
                    rotate_left
                    · (intro w' hSw; (try dsimp only at hSw); go_simp; (try with_reducible rfl))
                    simp only [Act.put]; (try simp only [List.getElem_toArray]); (try simp only [List.getElem_cons_succ]); (try simp only [List.getElem_cons_zero]); (try simp only [List.setIfInBounds_toArray]); (try simp only [List.set_cons_succ]); (try simp only [List.set_cons_zero])
                    refine WL.take (i := 5) (v := ?_) rfl (by kernel_rfl) (by decide) (by decide +kernel) (by decide +kernel) (fun _ _ _ h => h) rfl ?_ HS0 ?_
                    rotate_left
                    · (intro w' hSw; (try dsimp only at hSw); go_simp; (try with_reducible rfl))
                    simp only [Act.put]; (try simp only [List.getElem_toArray]); (try simp only [List.getElem_cons_succ]); (try simp only [List.getElem_cons_zero]); (try simp only [List.setIfInBounds_toArray]); (try simp only [List.set_cons_succ]); (try simp only [List.set_cons_zero])
                    refine WL.take (i := 6) (v := ?_) rfl (by kernel_rfl) (by decide) (by decide +kernel) (by decide +kernel) (fun _ _ _ h => h) rfl ?_ HS0 ?_
                    rotate_left
                    · (intro w' hSw; (try dsimp only at hSw); go_simp; (try with_reducible rfl))
                    simp only [Act.put]; (try simp only [List.getElem_toArray]); (try simp only [List.getElem_cons_succ]); (try simp only [List.getElem_cons_zero]); (try simp only [List.setIfInBounds_toArray]); (try simp only [List.set_cons_succ]); (try simp only [List.set_cons_zero])
                    refine WL.take (i := 7) (v := ?_) rfl (by kernel_rfl) (by decide) (by decide +kernel) (by decide +kernel) (fun _ _ _ h => h) rfl ?_ HS0 ?_
                    rotate_left
                    · (intro w' hSw; (try dsimp only at hSw); go_simp; (try with_reducible rfl))
                    simp only [Act.put]; (try simp only [List.getElem_toArray]); (try simp only [List.getElem_cons_succ]); (try simp only [List.getElem_cons_zero]); (try simp only [List.setIfInBounds_toArray]); (try simp only [List.set_cons_succ]); (try simp only [List.set_cons_zero])
                    refine WL.take (i := 8) (v := ?_) rfl (by kernel_rfl) (by decide) (by decide +kernel) (by decide +kernel) (fun _ _ _ h => h) rfl ?_ HS0 ?_
                    rotate_left
                    · (intro w' hSw; (try dsimp only at hSw); go_simp; (try with_reducible rfl))
                    simp only [Act.put]; (try simp only [List.getElem_toArray]); (try simp only [List.getElem_cons_succ]); (try simp only [List.getElem_cons_zero]); (try simp only [List.setIfInBounds_toArray]); (try simp only [List.set_cons_succ]); (try simp only [List.set_cons_zero])
                    refine WL.take (i := 9) (v := ?_) rfl (by kernel_rfl) (by decide) (by decide +kernel) (by decide +kernel) (fun _ _ _ h => h) rfl ?_ HS0 ?_
                    rotate_left
                    · (intro w' hSw; (try dsimp only at hSw); go_simp; (try with_reducible rfl))
                    simp only [Act.put]; (try simp only [List.getElem_toArray]); (try simp only [List.getElem_cons_succ]); (try simp only [List.getElem_cons_zero]); (try simp only [List.setIfInBounds_toArray]); (try simp only [List.set_cons_succ]); (try simp only [List.set_cons_zero])
                    refine WL.take (i := 10) (v := ?_) rfl (by kernel_rfl) (by decide) (by decide +kernel) (by decide +kernel) (fun _ _ _ h => h) rfl ?_ HS0 ?_
                    rotate_left
                    · (intro w' hSw; (try dsimp only at hSw); go_simp; (try with_reducible rfl))
                    simp only [Act.put]; (try simp only [List.getElem_toArray]); (try simp only [List.getElem_cons_succ]); (try simp only [List.getElem_cons_zero]); (try simp only [List.setIfInBounds_toArray]); (try simp only [List.set_cons_succ]); (try simp only [List.set_cons_zero])
                    refine WL.one (i := 11) rfl (by decide) (by decide +kernel) ?_
                    go_wp2_with fail
                    refine HPF.out.mono ?_
                    intro e w9 h
                    have hEob : E ≠ ob := by omega
                    have hPob : P ≠ ob := by omega
                    have hvE : vk.ownBlock ≠ some E := fun e => by have := (HSO.out.own.lt E e).2; omega
                    have hvP : vk.ownBlock ≠ some P := fun e => by have := (HS5.out.own.lt P e).2; omega
                    by_cases h300 : lk.length = 300
                    · have HW : Hid (walkG f (decide (D = 8)) rec x ahead lf n = .inl 4) := by unfold Hid; rw [HW0.out, loopF_full h2 HOBE.out hb1 h300]
                      obtain ⟨rfl, hb9⟩ := h.1 h300
                      have hb9' := drew_below hb9
                      have hS9 : w9.cell? ⟨wb, 1, none⟩ = some (.func (.func 79) #[] #[.pointer (some ⟨ob, 0, none⟩)]) ∧ w9.cell? ⟨E, 0, none⟩ = some (.string nm') ∧ w9.cell? ⟨P, 1, none⟩ = some (.string bo.body) :=
                        ⟨below_load HS0.1 hb9 HS8.out.lt, below_load n1 hb9' (World.block_lt_of_cell? wc _ n1), below_load p1 hb9' hPl⟩
                      have HK := Lib.hid (HWK2.out.trans (HK8.out.trans (Wk.below vk hb9')))
                      clear h hb9 hb9' h300 hb1
                      go_wp2
                      refine ⟨hS9, ?_⟩
                      refine WL.last (n := 12) rfl rfl (by decide +kernel) (by decide +kernel) ?_
                      clear hS9 HS0
                      go_wp2
                      go_ret
                      exact walkAns_err HW.out (by decide) (by decide) HK.out
                    · have HW2 : Hid (walkG f (decide (D = 8)) rec x ahead lf n = loopF f (decide (D = 8)) rec ahead (es.drop (k + 1)) (lk ++ [(ahead ++ nm', bo.body)]) nk) := HWX.out _ _ (by rw [HW0.out, loopF_file h2 HOBE.out hb1 h300])
                      obtain ⟨rfl, v', ho9, hown9, hk9⟩ := h.2 h300
                      have hk9' : ∀ wb', Wk wb' ob wc w9 vk v' := fun wb' => (Wk.below vk ((Below.refl wc.heap.size wc).drew)).trans (hk9 wb')
                      have hws9 : WS wb ob lb mb nm base f (lk ++ [(ahead ++ nm', bo.body)]) nk v' w9 := HS8.out.file HBB.out (hk9' ob) ho9 (by rw [List.length_append]; exact hown9)
                      have hS9 : w9.cell? ⟨wb, 1, none⟩ = some (.func (.func 79) #[] #[.pointer (some ⟨ob, 0, none⟩)]) ∧ w9.cell? ⟨E, 0, none⟩ = some (.string nm') ∧ w9.cell? ⟨P, 1, none⟩ = some (.string bo.body) :=
                        ⟨hws9.a.cell 1 (by omega), (hk9' ob).cell n1 hEob hEob hvE, (hk9' ob).cell p1 hPob hPob hvP⟩
                      have HWS9 := Lib.hid hws9
                      have HK9 : Hid (Wk wb ob w2 w9 v v') := Lib.hid (HK8.out.trans (hk9' wb))
                      have hl9 : (lk ++ [(ahead ++ nm', bo.body)]).length ≤ 300 := by rw [List.length_append]; simp; omega
                      clear h ho9 hown9 hk9 hk9' hws9 hb1
                      go_wp2
                      refine ⟨hS9, ?_⟩
                      refine WL.last (n := 12) rfl rfl (by decide +kernel) (by decide +kernel) ?_
                      clear hS9 HS0 hEob hPob hvE hvP h300
                      go_wp2
                      go_roundw
                      case rel => exact ⟨k + 1, nk, lk ++ [(ahead ++ nm', bo.body)], v', by omega, by go_num, hl9, hnk, HW2, HWS9, HK9⟩
                      case measure => simp [intOf]; omega
                  · have HW : Hid (walkG f (decide (D = 8)) rec x ahead lf n = .inl 13) := by unfold Hid; rw [HW0.out, loopF_wrong h2 HOBE.out hb1]
                    have HK := Lib.hid (HWK2.out.trans HK8.out)
                    have d5 : (bo.kind == 1) = false := by rw [beq_eq_false_iff_ne]; exact hb1
                    clear hb1
                    go_wp2
                    go_ret
                    exact walkAns_err HW.out (by decide) (by decide) HK.out
        · have HW : Hid (walkG f (decide (D = 8)) rec x ahead lf n = .inr (lk, nk)) := by
            unfold Hid; rw [hwk.out, List.drop_eq_nil_of_le (by omega)]; rfl
          have d3 : decide ((k : Int) < es.length) = false := decide_eq_false (by omega)
          have HK := Lib.hid (HWK2.out.trans HKO.out)
          clear hwk
          go_wp2
          go_ret
          exact walkAns_ok HW.out hlk hnk HSO.out HK.out
end Go.Proofs.YtbmiiiccnoiffaaGreatDoor
