/- X2; Z3; Z2; Z4, in one text. -/
import Derived.Test.YtbmiiiccnoiffaaGreatDoorX1
import Derived.Test.YtbmiiiccnoiffaaGreatDoorJJ
import Derived.Test.YtbmiiiccnoiffaaGreatDoorZ1
/- Walks: all files of a tree, of all levels (the document's). -/
namespace Go.Proofs.YtbmiiiccnoiffaaGreatDoor
open Go.RowKit

theorem files_all (vl vi : Value) (l : List Ob) (w0 : World) (hs : SrcRow w0 (.agg #[vl, vi]) l) : ∀ d, d ≤ 8 → FilesC (.agg #[vl, vi]) w0 (8 - d) (walkF (getS l) d)
  | 0, _ => by
    have := rfiles_step vl vi l w0 hs 8 (Nat.le_refl _) (fun _ _ _ _ => .inl 4) (fun h => absurd h (by omega))
    exact this
  | d + 1, h => by
    have := rfiles_step vl vi l w0 hs (8 - (d + 1)) (by omega) (walkF (getS l) d) (fun _ => by
      rw [show 8 - (d + 1) + 1 = 8 - d from by omega]
      exact files_all vl vi l w0 hs d (by omega))
    rw [show decide (8 - (d + 1) = 8) = false from decide_eq_false (by omega)] at this
    exact this
theorem lfsF_rows (l : Lfs) : lfsF l = (l.map leafC).flatten := rfl
theorem leafRow_own {w : World} {B : Nat} {v : Value} {l : Lfs} (h : w.ownsRow B 82 2 v l.length (lfsF l)) : LeafRow w v l :=
  RowOf.of_own (B := B) (e := 82) (sz := 2) (rows := l.map leafC) (fun r hr => by
    obtain ⟨y, _, rfl⟩ := List.mem_map.1 hr
    rfl) (by rw [List.length_map]; exact h)
theorem leafRow_nil (w : World) : LeafRow w (.slice none 0 0) [] := ⟨none, 0, rfl, by simp, fun h => absurd rfl h⟩
/-- An answer of files. -/
def errOf {α : Type} : Sum Nat α → Int
  | .inl c => c
  | .inr _ => 0
def filesOf : Sum Nat Lfs → Lfs
  | .inl _ => []
  | .inr y => y
theorem filesF_eq (get : List UInt8 → Option Ob) (x : List UInt8) : (∃ c, walkF get 8 x ByteArray.empty [] 0 = .inl c ∧ filesF get x = .inl c) ∨ ∃ y, walkF get 8 x ByteArray.empty [] 0 = .inr y ∧ filesF get x = .inr y.1 := by
  unfold filesF
  cases h : walkF get 8 x ByteArray.empty [] 0 with
  | inl c => exact .inl ⟨c, rfl, rfl⟩
  | inr y => exact .inr ⟨y, rfl, rfl⟩

set_option maxRecDepth 100000 in
set_option maxHeartbeats 4000000 in
/-- Files, of a source. Where there is an error the leaves are whatever they are. -/
theorem rfilesof_any (vl vi : Value) (l : List Ob) (x : List UInt8) (w : World) (hs : SrcRow w (.agg #[vl, vi]) l) (hx : x.length = 32) :
    Calls Tryz.prog 45 #[.agg #[vl, vi], .agg (idC x).toArray] w fun e w' => ∃ v, e = .returned (.tuple #[v, .int .i64 (errOf (filesF (getS l) x))]) ∧ (∀ y, filesF (getS l) x = .inr y → LeafRow w' v y ∧ y.length ≤ 300) ∧ (∀ c, filesF (getS l) x = .inl c → 0 < c ∧ c < 100) ∧ Below w.heap.size w w' := by
  have hF := files_all vl vi l w hs 8 (Nat.le_refl _)
  have hxl : (idC x).length = 32 := by rw [idC_len, hx]
  have h32x := h32_of hxl
  obtain ⟨W, hW⟩ : ∃ W, W = (w.alloc (.cells #[vl, vi] 30)).alloc (.cells (idC x).toArray 24) := ⟨_, rfl⟩
  have hbW : Below w.heap.size w W := by rw [hW]; exact ((Below.refl _ _).alloc (Nat.le_refl _) _).alloc (by simp) _
  have hC := hF x ByteArray.empty (.slice none 0 0) [] 0 W hx (by simp) (by simp) (by omega) hbW (World.ownsRow_nil _ _ _ _)
  have hr1 : ((w.alloc (.cells #[vl, vi] 30)).alloc (.cells (idC x).toArray 24)).rangeAt (w.heap.size + 1) 0 (idC x) := range_new _ _ _ (by simp)
  have HC := Lib.hid hC
  have HBW := Lib.hid hbW
  have HEQ := Lib.hid (filesF_eq (getS l) x)
  clear hF hC hbW hx hs hxl
  generalize idC x = ux at h32x HC hW hr1
  go_enter Tryz.func45, Tryz.ntmps45
  go_wp2_with (refine wpList_load_mid rfl 24 _ rfl (w.heap.size + 1) 0 rfl ux _ hr1 Tryz.underlying24 rfl h32x ?_)
  rw [← hW]
  clear hW hr1
  refine HC.out.mono ?_
  rintro e w1 ⟨vr, nr, er, rfl, hres, hg1⟩
  have HB1 : Hid (Below w.heap.size w w1) := Lib.hid (HBW.out.grown hg1 HBW.out.size (fun j hj => by cases hj))
  clear hg1 HC
  rcases HEQ.out with ⟨c, h1, h2⟩ | ⟨y, h1, h2⟩
  · rw [h1] at hres
    obtain ⟨rfl, hc1, hc2⟩ := hres
    have H2 := Lib.hid h2
    clear h1 h2 HEQ
    go_wp2
    go_ret2
    exact ⟨_, by rw [H2.out]; rfl, (fun y hy => by rw [H2.out] at hy; cases hy), (fun c' hc => by rw [H2.out] at hc; cases hc; exact ⟨hc1, hc2⟩), HB1.out⟩
  · rw [h1] at hres
    obtain ⟨rfl, rfl, hy1, hy2, hy3, hy4⟩ := hres
    have H2 := Lib.hid h2
    have HY3 := Lib.hid hy3
    clear h1 h2 HEQ hy4 hy3
    go_wp2
    go_ret2
    exact ⟨_, by rw [H2.out]; rfl, (fun z hz => by rw [H2.out] at hz; cases hz; exact ⟨leafRow_own HY3.out, hy1⟩), (fun c' hc => by rw [H2.out] at hc; cases hc), HB1.out⟩
end Go.Proofs.YtbmiiiccnoiffaaGreatDoor

/- Plain: what a walk through a tree does to the world. -/
namespace Go.Proofs.YtbmiiiccnoiffaaGreatDoor
open Go.RowKit

/-- Every block lies as it lay but the walker's, the gathered row's cell, and the row. -/
structure Wk (wb ob : Nat) (w w' : World) (v v' : Value) : Prop where
  os : w'.os = w.os
  tape : w'.tape = w.tape
  output : w'.output = w.output
  size : w.heap.size ≤ w'.heap.size
  block : ∀ k, k < w.heap.size → k ≠ wb → k ≠ ob → v.ownBlock ≠ some k → w'.heap[k]? = w.heap[k]?
  fr : Fr w v v'
theorem Wk.below {wb ob : Nat} {w w' : World} (v : Value) (h : Below w.heap.size w w') : Wk wb ob w w' v v := ⟨h.os, h.tape, h.output, h.size, fun k hk _ _ _ => h.block k hk, Fr.refl _ _⟩
theorem Wk.trans {wb ob : Nat} {w w1 w2 : World} {a b c : Value} (h1 : Wk wb ob w w1 a b) (h2 : Wk wb ob w1 w2 b c) : Wk wb ob w w2 a c :=
  ⟨h2.os.trans h1.os, h2.tape.trans h1.tape, h2.output.trans h1.output, Nat.le_trans h1.size h2.size, fun k hk n1 n2 n3 => (h2.block k (Nat.lt_of_lt_of_le hk h1.size) n1 n2 (h1.fr.ne hk n3)).trans (h1.block k hk n1 n2 n3), h1.fr.trans h2.fr h1.size⟩
theorem Wk.set {wb ob : Nat} {w : World} (v : Value) (o : Nat) (u : Value) : Wk wb ob w (w.setCell ⟨wb, o, none⟩ u) v v := by
  have hg := grown_set (World.grownBy.refl w (some wb)) u (o := o)
  exact ⟨hg.os, hg.tape, hg.output, hg.size, fun k hk n1 _ _ => hg.block k hk (by intro e; cases e; exact n1 rfl), Fr.refl _ _⟩
theorem Wk.put {wb ob : Nat} {w : World} (v u : Value) (o : Nat) : Wk wb ob w (w.setCell ⟨ob, o, none⟩ u) v v := by
  have hg := grown_set (World.grownBy.refl w (some ob)) u (o := o)
  exact ⟨hg.os, hg.tape, hg.output, hg.size, fun k hk _ n2 _ => hg.block k hk (by intro e; cases e; exact n2 rfl), Fr.refl _ _⟩
theorem Wk.grown {wb ob : Nat} {w w' : World} {v v' : Value} (h : w.grownBy w' v.ownBlock) (hf : Fr w v v') : Wk wb ob w w' v v' :=
  ⟨h.os, h.tape, h.output, h.size, fun k hk _ _ n3 => h.block k hk (fun e => n3 e.symm), hf⟩
theorem Wk.cell {wb ob : Nat} {w w' : World} {v v' : Value} (h : Wk wb ob w w' v v') {b o : Nat} {u : Value} (hc : w.cell? ⟨b, o, none⟩ = some u) (n1 : b ≠ wb) (n2 : b ≠ ob) (n3 : v.ownBlock ≠ some b) : w'.cell? ⟨b, o, none⟩ = some u := by
  have hb : b < w.heap.size := World.block_lt_of_cell? w _ hc
  have := h.block b hb n1 n2 n3
  rw [World.cell?_of_block (w := w) (a := ⟨b, o, none⟩) this]; exact hc
end Go.Proofs.YtbmiiiccnoiffaaGreatDoor

/- Walks: a tree's entries out of a source (the program's). -/

namespace Go.Proofs.YtbmiiiccnoiffaaGreatDoor
open Go.RowKit

theorem method_get (a : Addr) (w : World) : (method 440 105 (.pointer (some a)) "Get").run Tryz.prog w = .ok (269, .pointer (some a)) w := by kernel_rfl
def TreeAns (f : List UInt8 → Option Ob) (x : List UInt8) (w : World) (e : Ending) (w' : World) : Prop := ∃ v, e = .returned (.tuple #[v, .bool (treeG f x).isSome]) ∧ EntRow w' v ((treeG f x).getD []) ∧ FreshV w v ∧ Below w.heap.size w w'

theorem treeAns_no {f : List UInt8 → Option Ob} {x : List UInt8} {w w' : World} {v : Value} (h : treeG f x = none) (hr : EntRow w' v []) (hfr : FreshV w v) (hb : Below w.heap.size w w') : TreeAns f x w (.returned (.tuple #[v, .bool false])) w' :=
  ⟨v, by rw [h]; rfl, by rw [h]; exact hr, hfr, hb⟩
theorem treeAns_yes {f : List UInt8 → Option Ob} {x : List UInt8} {w w' : World} {v : Value} {t : Option (List Ent)} (h : treeG f x = t) (ht : t.isSome = true) (hr : EntRow w' v (t.getD [])) (hfr : FreshV w v) (hb : Below w.heap.size w w') : TreeAns f x w (.returned (.tuple #[v, .bool true])) w' :=
  ⟨v, by rw [h, ht], by rw [h]; exact hr, hfr, hb⟩
set_option maxRecDepth 100000 in
set_option maxHeartbeats 2000000 in
theorem ptree_any (lb mb n : Nat) (f : List UInt8 → Option Ob) (hf : ∀ x o, f x = some o → rightOb o = true) (x : List UInt8) (w : World) (hc : w.cell? ⟨lb, 0, none⟩ = some (.map (some mb))) (hm : IdMap w mb n f) (hx : x.length = 32) :
    Calls Tryz.prog 83 #[.iface 105 (.pointer (some ⟨lb, 0, none⟩)), .agg (idC x).toArray] w (TreeAns f x w) := by
  have hlb := World.block_lt_of_cell? w _ hc
  have hlm := hm.lt
  have hxl : (idC x).length = 32 := by rw [idC_len, hx]
  have h32x := h32_of hxl
  have HG := Lib.hid (fun W (h : Below w.heap.size w W) => oget_any lb mb n f x W (below_load hc h hlb) (hm.below h hlm) hx)
  have HTG : Hid (treeG f x = match f x with | some o => (if o.kind = 2 then treeOf o.body else none) | none => none) := Lib.hid rfl
  have HF := Lib.hid (hf x)
  generalize f x = r at HG HTG HF
  have hr0 := range_new w (idC x) 24 rfl
  have HR0 := Lib.hid hr0
  generalize idC x = ux at hxl h32x HG HR0
  have hmg := method_get
  clear hm hc hr0
  go_enter Tryz.func83, Tryz.ntmps83
  go_wp2_with (refine wpList_load_mid rfl 24 _ rfl w.heap.size 0 rfl ux _ HR0.out Tryz.underlying24 rfl h32x ?_)
  refine (HG.out _ ((Below.refl _ _).alloc (Nat.le_refl _) _)).mono ?_
  rintro e w1 ⟨rfl, hb1⟩
  have HB1 := Lib.hid (((Below.refl w.heap.size w).alloc (Nat.le_refl _) (.cells ux.toArray 24)).trans (hb1.mono (by simp)))
  clear hb1 HG HR0
  cases r with
  | none =>
    have HOE := Lib.hid (fun w => oents_any 0 ⟨#[]⟩ w)
    have HN : Hid (isT 0 ⟨#[]⟩ = false) := Lib.hid (by unfold isT; rw [decide_eq_false (show ¬ (0 : Int) = 2 by decide), Bool.and_false])
    have HT2 : Hid (treeG f x = none) := Lib.hid HTG.out
    clear HTG HF
    go_wp2_with fail
    refine (HOE.out _).mono ?_
    intro e w2 h
    obtain ⟨v, rfl, hfr, hrow, hb2⟩ := h
    rw [HN.out, show okI false = 1 from rfl]
    have HBF := Lib.hid (HB1.out.trans ((((Below.refl _ _).alloc (Nat.le_refl _) _).trans (hb2.mono (by simp))).mono HB1.out.size))
    have HROW : Hid (EntRow w2 v []) := Lib.hid (by rw [HN.out] at hrow; exact hrow)
    have HFR : Hid (FreshV w v) := Lib.hid (fun g hg => by have := hfr g hg; have := HB1.out.size; simp at *; omega)
    clear hrow hfr hb2
    go_wp2
    go_ret2
    exact treeAns_no HT2.out HROW.out HFR.out HBF.out
  | some o =>
    obtain ⟨k, s⟩ := o
    have HOE := Lib.hid (fun w => oents_any k s w)
    have HT2 : Hid (treeG f x = if isT k s = true then treeOf s else none) := Lib.hid (by
      rw [HTG.out]
      show (if k = 2 then treeOf s else none) = _
      have hr := HF.out _ rfl
      unfold isT; rw [hr]
      by_cases h2 : k = 2
      · rw [if_pos h2, decide_eq_true h2]; rfl
      · rw [if_neg h2, decide_eq_false h2]; rfl)
    have HT3 : Hid (isT k s = true → (treeOf s).isSome = true) := Lib.hid (fun h => by
      unfold isT at h
      simp only [Bool.and_eq_true, decide_eq_true_eq] at h
      obtain ⟨h1, rfl⟩ := h
      unfold rightOb at h1
      simp only [Bool.and_eq_true, decide_eq_true_eq] at h1
      exact h1.2)
    clear HTG HF
    go_wp2_with fail
    refine (HOE.out _).mono ?_
    intro e w2 h
    obtain ⟨v, rfl, hfr, hrow, hb2⟩ := h
    have HBF := Lib.hid (HB1.out.trans ((((Below.refl _ _).alloc (Nat.le_refl _) _).trans (hb2.mono (by simp))).mono HB1.out.size))
    have HROW := Lib.hid hrow
    have HFR : Hid (FreshV w v) := Lib.hid (fun g hg => by have := hfr g hg; have := HB1.out.size; simp at *; omega)
    clear hrow hfr hb2 HOE
    cases ht : isT k s with
    | false =>
      rw [show okI false = 1 from rfl]
      rw [ht] at HROW HT2
      clear ht HT3
      go_wp2
      go_ret2
      exact treeAns_no HT2.out HROW.out HFR.out HBF.out
    | true =>
      rw [show okI true = 0 from rfl]
      have HIS := Lib.hid (HT3.out ht)
      rw [ht] at HROW HT2
      clear ht HT3
      go_wp2
      go_ret2
      exact treeAns_yes HT2.out HIS.out HROW.out HFR.out HBF.out
end Go.Proofs.YtbmiiiccnoiffaaGreatDoor

/- Walks: a file gathered (the program's). -/
namespace Go.Proofs.YtbmiiiccnoiffaaGreatDoor
open Go.RowKit

def FileAns (ob base : Nat) (lf : Lfs) (q : ByteArray × ByteArray) (v : Value) (w : World) (e : Ending) (w' : World) : Prop :=
  (lf.length = 300 → e = .returned (.int .i64 4) ∧ Below w.heap.size w w') ∧
  (lf.length ≠ 300 → e = .returned (.int .i64 0) ∧ ∃ v', Arr w' ob 1 (fun _ => v') ∧ w'.ownsRow base 82 2 v' (lf.length + 1) (lfsF (lf ++ [q])) ∧ ∀ wb, Wk wb ob w w' v v')

set_option maxRecDepth 100000 in
set_option maxHeartbeats 2000000 in
theorem pfile_any (ob base : Nat) (lf : Lfs) (p b : ByteArray) (v : Value) (w : World) (ho : Arr w ob 1 (fun _ => v)) (hown : w.ownsRow base 82 2 v lf.length (lfsF lf)) (hob : ob < base) (hbase : base ≤ w.heap.size) (hlen : lf.length ≤ 300) :
    Calls Tryz.prog 79 #[.agg #[.string p, .string b], .pointer (some ⟨ob, 0, none⟩)] w (FileAns ob base lf (p, b) v w) := by
  obtain ⟨iL, hiL⟩ := info_parts infoLeaf
  obtain ⟨lo, lc, rfl⟩ := own_form hown
  have HIL := Lib.hid hiL
  have HO := Lib.hid ho
  have HOWN := Lib.hid hown
  have c0 : w.cell? ⟨ob, 0, none⟩ = some (.slice lo lf.length lc) := ho.cell 0 (by omega)
  have hol : ob < w.heap.size := ho.lt (by omega)
  have hb0 : Below w.heap.size w (w.alloc (.cells #[.string p, .string b] 82)) := (Below.refl _ _).alloc (Nat.le_refl _) _
  have HB0 := Lib.hid hb0
  clear hiL ho hown hb0
  by_cases h3 : lf.length = 300
  · have d1 : ((lf.length : Int) == 300) = true := by rw [beq_iff_eq]; omega
    have H3 := Lib.hid h3
    clear h3
    go_enter Tryz.func79, Tryz.ntmps79
    go_wp2
    go_ret
    exact ⟨fun _ => ⟨rfl, HB0.out⟩, fun h => absurd H3.out h⟩
  · have d1 : ((lf.length : Int) == 300) = false := by rw [beq_eq_false_iff_ne]; omega
    have H3 := Lib.hid h3
    clear h3
    have hbA : Below w.heap.size w ((w.alloc (.cells #[.string p, .string b] 82)).alloc (.cells #[.string p, .string b] 82)) := HB0.out.alloc HB0.out.size _
    have hOA := own_below HOWN.out hbA
    have hAA := HO.out.below hbA hol
    have hnew : ∀ j u, (lfC (p, b))[j]? = some u → ((w.alloc (.cells #[.string p, .string b] 82)).alloc (.cells #[.string p, .string b] 82)).cell? ((⟨w.heap.size + 1, 0, none⟩ : Addr).add j) = some u := fun j u hj => by
      have := cells_newL (w.alloc (.cells #[.string p, .string b] 82)) (lfC (p, b)) 82 j u hj
      rw [World.size_alloc] at this
      exact this
    have hone : ∀ u ∈ lfC (p, b), u.oneCell' = true := by simp [lfC, Value.oneCell']
    have HOA := Lib.hid hOA
    have HAA := Lib.hid hAA
    have HBA := Lib.hid hbA
    have HNEW := Lib.hid hnew
    have HONE := Lib.hid hone
    clear hbA hOA hAA hnew hone
    go_enter Tryz.func79, Tryz.ntmps79
    go_wp2_with (at_builtin; refine wpList_append_fr _ rfl (.tmp 7) (.tmp 9) 62 rfl base 82 iL (.agg #[.string ⟨#[]⟩, .string ⟨#[]⟩]) 2 32 Tryz.underlying62 HIL.out.1 HIL.out.2.1 HIL.out.2.2.1 HIL.out.2.2.2 rfl (by decide) _ lf.length (lfsF lf) rfl HOA.out ⟨w.heap.size + 1, 0, none⟩ 1 1 (lfC (p, b)) rfl rfl HNEW.out HONE.out ?a1 ?a2 ?a3 ?_)
    case a1 => unfold maxLen; omega
    case a2 => omega
    case a3 => rw [World.size_alloc, World.size_alloc]; omega
    intro v6 w6 ho6 hg6 hf6
    obtain ⟨lo6, lc6, rfl⟩ := own_form ho6
    have hne6 : (Value.slice lo lf.length lc).ownBlock ≠ some ob := fun e => by have := (HOWN.out.lt ob e).1; omega
    have hA6 : Arr w6 ob 1 (fun _ => .slice lo lf.length lc) := HAA.out.grownV hg6 hne6
    have f6 := hA6.free 0 (by omega)
    have g6 := hA6.cell 0 (by omega)
    have HA6 := Lib.hid ((hA6.set 0 (by omega) (.slice lo6 (lf.length + 1) lc6)).congr (d := fun _ => .slice lo6 (lf.length + 1) lc6) (fun k hk => by unfold upd; rw [if_pos (by omega)]))
    have hne7 : (Value.slice lo6 (lf.length + 1) lc6).ownBlock = none ∨ (Value.slice lo6 (lf.length + 1) lc6).ownBlock ≠ some ob := own_ne ho6 hob
    have HO6 := Lib.hid (own_set (o := 0) (u := .slice lo6 (lf.length + 1) lc6) ho6 hne7)
    have HW6 : Hid (∀ wb, Wk wb ob w (w6.setCell ⟨ob, 0, none⟩ (.slice lo6 (lf.length + 1) lc6)) (.slice lo lf.length lc) (.slice lo6 (lf.length + 1) lc6)) := Lib.hid (fun wb =>
      ((Wk.below _ HBA.out).trans (Wk.grown hg6 hf6)).trans (Wk.put _ _ _))
    clear ho6 hg6 hf6 hne6 hA6 hne7
    go_wp2
    go_ret
    exact ⟨fun h => absurd h H3.out, fun _ => ⟨rfl, _, HA6.out, by rw [lfsF_snoc]; exact HO6.out, HW6.out⟩⟩
end Go.Proofs.YtbmiiiccnoiffaaGreatDoor
