/- YtbmiiiccnoiffaaGreatDoorR40: texts KR, LG, HN of this claim, in one. -/
import Derived.Test.YtbmiiiccnoiffaaGreatDoorR16
import Derived.Test.YtbmiiiccnoiffaaGreatDoorR29
import Derived.Test.YtbmiiiccnoiffaaGreatDoorR30
import Derived.Test.YtbmiiiccnoiffaaGreatDoorR34
import Derived.Test.YtbmiiiccnoiffaaGreatDoorR38
namespace Go.Proofs.YtbmiiiccnoiffaaGreatDoor
open Go.RowKit Go.Maps Go.Sort Go.Shelf
set_option maxRecDepth 100000

def RisAns (S : List Idl) (w : World) (e : Ending) (w' : World) : Prop := ∃ v m, e = .returned v ∧ IdRow w' v m ∧ AscL m ∧ (∀ x, x ∈ m ↔ x ∈ S) ∧ Below w.heap.size w w'
set_option maxHeartbeats 1000000 in
theorem sfuncI (b n : Nat) (g : Idl → Option Value) (S : List Idl) (w : World) (hm : MapG vlV w b n g) (hnd : S.Nodup) (h32 : ∀ x ∈ S, x.length = 32) (hdom : ∀ x, x.length = 32 → ((g x).isSome = true ↔ x ∈ S)) (hlen : S.length ≤ 1000) :
    Calls Tryz.prog 110 #[.func (.func 151) #[] #[.pointer (some ⟨w.heap.size, 0, none⟩)], .func (.func 112) #[] #[]] (w.alloc (.cells #[.map (some b)] 110)) (RisAns S w) := by
  have hb0 : Below w.heap.size w (w.alloc (.cells #[.map (some b)] 110)) := (Below.refl _ w).alloc (Nat.le_refl _) _
  have hseq := ikeys_gives (enc := vlV) 3 (by omega) w.heap.size b n g S (w.alloc (.cells #[.map (some b)] 110)) (by simp) (by simp) (hm.on hb0) hnd h32 hdom
  have hc := callsIn_wide.1 (collectI 5 (by omega) 151 #[.pointer (some ⟨w.heap.size, 0, none⟩)] (enters_of Tryz.func151 (by kernel_rfl) rfl) _ S.length (by omega) _ hseq)
  have HC := Lib.hid hc
  have HB0 := Lib.hid hb0
  have HND := Lib.hid hnd
  have H32 := Lib.hid h32
  obtain ⟨W, hW⟩ : ∃ W, w.alloc (.cells #[.map (some b)] 110) = W := ⟨_, rfl⟩
  rw [hW] at HC HB0 ⊢
  clear hW hc hseq hb0 hnd h32 hdom hm
  go_enter Tryz.func110, Tryz.ntmps110
  go_wp2_with fail
  refine HC.out.mono ?_
  rintro e w1 ⟨v, ss, rfl, hp, hrow, hb⟩
  have HB1 := Lib.hid (HB0.out.trans (hb.mono HB0.out.size))
  have hq : OwnQ w1 W.heap.size 32 v (rawI ss).length (idsF (rawI ss)) := by rw [rawI_len]; exact OwnQ.of_own hrow
  have hle : (rawI ss).length ≤ 1000000 := by rw [hp.length_eq]; omega
  have HS := Lib.hid (isort_any W.heap.size v (rawI ss) w1 hq (rawI_32 ss) (hp.nodup_iff.2 HND.out) hle)
  have HP := Lib.hid hp
  have HLT := Lib.hid (fun k (hk : v.ownBlock = some k) => (hrow.lt k hk).1)
  clear hp hrow hb hq hle HC
  go_wp2_with fail
  refine HS.out.mono ?_
  rintro e w2 ⟨rfl, m, hpm, hasc, hq2, hg2⟩
  have HB2 := Lib.hid (HB1.out.grown hg2 HB1.out.size (fun k hk => by have := HLT.out k hk; have := HB0.out.size; omega))
  have hml := hpm.length_eq
  rw [← hml] at hq2
  have HR := Lib.hid (hq2.row (fun x hx => H32.out x (HP.out.mem_iff.1 (hpm.mem_iff.1 hx))))
  have HA := Lib.hid hasc
  have HM : Hid (∀ x, x ∈ m ↔ x ∈ S) := Lib.hid (fun x => hpm.mem_iff.trans HP.out.mem_iff)
  clear hml hq2 hpm hasc hg2 HS HP
  go_wp2
  go_ret
  exact ⟨_, m, rfl, HR.out, HA.out, HM.out, HB2.out⟩
theorem hrising_any {cm : Idl → Option Cmt} (b n : Nat) (S : List Idl) (q : Option Nat) (w : World) (hl : LineM cm w b n S q) (hnd : S.Nodup) (h32 : ∀ x ∈ S, x.length = 32) (hlen : S.length ≤ 1000) :
    Calls Tryz.prog 62 #[.map (some b)] w (RisAns S w) := by
  obtain ⟨g, hm, hdom, _⟩ := hl
  have HS := Lib.hid (sfuncI b n g S w hm hnd h32 hdom hlen)
  have HK := Lib.hid (ikeys_any (some b) w)
  clear hm hdom hnd h32
  go_enter Tryz.func62, Tryz.ntmps62
  go_wp2_with fail
  refine HK.out.mono ?_
  rintro e w1 ⟨rfl, rfl⟩
  go_wp2_with fail
  refine HS.out.mono ?_
  rintro e w2 ⟨v, m, rfl, hr, ha, hm, hb⟩
  have HR := Lib.hid hr
  have HA := Lib.hid ha
  have HM := Lib.hid hm
  have HB := Lib.hid hb
  clear hr ha hm hb
  go_wp2
  go_ret
  exact ⟨_, m, rfl, HR.out, HA.out, HM.out, HB.out⟩
def LinAns (cm : Idl → Option Cmt) (x : Idl) (w : World) (e : Ending) (w' : World) : Prop :=
  Below w.heap.size w w' ∧ ((∃ S v, lineL cm x = some S ∧ e = .returned (.tuple #[v, .int .i64 0]) ∧ IdRow w' v S) ∨ (lineL cm x = none ∧ e = .returned (.tuple #[.slice none 0 0, .int .i64 13])))
theorem linAns_yes {cm : Idl → Option Cmt} {x : Idl} {w w' : World} {S : List Idl} {v : Value} (h : lineL cm x = some S) (hr : IdRow w' v S) (hb : Below w.heap.size w w') : LinAns cm x w (.returned (.tuple #[v, .int .i64 0])) w' := ⟨hb, .inl ⟨S, v, h, rfl, hr⟩⟩
theorem linAns_no {cm : Idl → Option Cmt} {x : Idl} {w w' : World} (h : lineL cm x = none) (hb : Below w.heap.size w w') : LinAns cm x w (.returned (.tuple #[.slice none 0 0, .int .i64 13])) w' := ⟨hb, .inr ⟨h, rfl⟩⟩
theorem lineL_32 {cm : Idl → Option Cmt} {U : List Idl} (hU : CmOk cm U) {x : Idl} {S : List Idl} (h : lineL cm x = some S) : (∀ y ∈ S, y.length = 32) ∧ S.length ≤ 1000 ∧ S.Nodup := by
  obtain ⟨h1, h2⟩ := lineL_some h
  exact ⟨fun y hy => by
    have := h1.there y hy
    cases e : cm y with
    | none => rw [e] at this; cases this
    | some c => exact hU.len y c e, Nat.le_trans (h1.few hU) hU.few, h2.nodup⟩
set_option maxHeartbeats 1000000 in
theorem hline_any (v : Value) (f : Idl → Option Ob) (hf : ∀ x o, f x = some o → rightOb o = true) (U : List Idl) (hU : CmOk (cmG f) U) (x : Idl) (w : World) (hs : SrcP w v f) (hx : x.length = 32) :
    Calls Tryz.prog 21 #[v, .agg (idC x).toArray] w (LinAns (cmG f) x w) := by
  have hxl : (idC x).length = 32 := by rw [idC_len, hx]
  have h32x := h32_of hxl
  have hb0 : Below w.heap.size w (w.alloc (.cells (idC x).toArray 24)) := (Below.refl _ _).alloc (Nat.le_refl _) _
  have HO := Lib.hid (hof_any v f hf U hU x (w.alloc (.cells (idC x).toArray 24)) (hs.below hb0) hx)
  have HR0 := Lib.hid (range_new w (idC x) 24 rfl)
  have HB0 := Lib.hid hb0
  have HU := Lib.hid hU
  clear hs hx hf hU hxl hb0
  generalize idC x = ux at h32x HO HR0 HB0
  go_enter Tryz.func21, Tryz.ntmps21
  go_wp2_with (refine wpList_load_mid rfl 24 _ rfl w.heap.size 0 rfl ux _ HR0.out Tryz.underlying24 rfl h32x ?_)
  refine HO.out.mono ?_
  intro e w1 h
  obtain ⟨hb1, ⟨S, b, n, hl, rfl, hn, hb, hm⟩ | ⟨hl, rfl⟩⟩ := h
  · obtain ⟨k1, k2, k3⟩ := lineL_32 HU.out hl
    have HRI := Lib.hid (hrising_any b n S none w1 hm k3 k1 k2)
    have HB1 := Lib.hid (HB0.out.trans (hb1.mono HB0.out.size))
    have HL := Lib.hid hl
    clear hb1 hm hl k1 k2 k3 HO HR0
    go_wp2_with fail
    refine HRI.out.mono ?_
    rintro e w2 ⟨u, m, rfl, hr, ha, hmm, hb2⟩
    have HR := Lib.hid (show IdRow w2 u S by rw [← ascL_ext ha (lineL_some HL.out).2 hmm]; exact hr)
    have HB2 := Lib.hid (HB1.out.trans (hb2.mono HB1.out.size))
    clear hr ha hmm hb2
    go_wp2
    go_ret2
    exact linAns_yes HL.out HR.out HB2.out
  · have HB1 := Lib.hid (HB0.out.trans (hb1.mono HB0.out.size))
    have HL := Lib.hid hl
    clear hb1 hl HO HR0
    go_wp2
    go_ret2
    exact linAns_no HL.out HB1.out
end Go.Proofs.YtbmiiiccnoiffaaGreatDoor
namespace Go.Proofs.YtbmiiiccnoiffaaGreatDoor
open Go.RowKit Go.Maps
variable {cm : Idl → Option Cmt}

/-- Children counted so far of the first parents of one more. -/
def kidsI (cm : Idl → Option Cmt) (G : List Idl) (x : Idl) (k : Nat) (p : Idl) : Nat := kids cm G p + if p ∈ (par cm x).take k then 1 else 0
theorem kidsI_0 (G : List Idl) (x : Idl) : kidsI cm G x 0 = kids cm G := by funext p; simp [kidsI]
theorem kidsI_end (G : List Idl) (x : Idl) {k : Nat} (h : (par cm x).length ≤ k) : kidsI cm G x k = kids cm (G ++ [x]) := by
  funext p
  unfold kidsI
  rw [List.take_of_length_le h, kids_snoc]
theorem kidsI_next (G : List Idl) (x : Idl) {k : Nat} (h : k < (par cm x).length) (hn : (par cm x).Nodup) (p : Idl) : kidsI cm G x (k + 1) p = if p = (par cm x)[k] then kidsI cm G x k (par cm x)[k] + 1 else kidsI cm G x k p := by
  have hnd : (par cm x)[k] ∉ (par cm x).take k := by
    have := hn
    rw [← List.take_append_drop k (par cm x), List.nodup_append] at this
    intro hm
    exact this.2.2 _ hm _ (by rw [List.drop_eq_getElem_cons h]; exact List.mem_cons_self) rfl
  unfold kidsI
  rw [List.take_succ_eq_append_getElem h]
  by_cases e : p = (par cm x)[k]
  · subst e
    rw [if_pos rfl, if_neg hnd, if_pos (List.mem_append_right _ (List.mem_singleton.2 rfl))]
  · rw [if_neg e]
    congr 1
    by_cases h2 : p ∈ (par cm x).take k
    · rw [if_pos h2, if_pos (List.mem_append_left _ h2)]
    · rw [if_neg h2, if_neg (fun h3 => by rcases List.mem_append.1 h3 with h4 | h4; exact h2 h4; exact e (List.mem_singleton.1 h4))]
theorem kidsI_le (G : List Idl) (x : Idl) (k : Nat) (p : Idl) : kidsI cm G x k p ≤ G.length + 1 := by
  unfold kidsI
  have := kids_le (cm := cm) G p
  split <;> omega
/-- What a line's log walks over. -/
structure LogOn (cm : Idl → Option Cmt) (L : List Idl) : Prop where
  asc : AscL L
  len : L.length ≤ 1000
  l32 : ∀ x ∈ L, x.length = 32
  pars : ∀ x ∈ L, ∀ p ∈ par cm x, p ∈ L
  nod : ∀ x, (par cm x).Nodup
  four : ∀ x, (par cm x).length ≤ 4
  acyc : Acyc cm
  tree : ∀ x c, cm x = some c → c.tree.length = 32

theorem grownBy_trans' {w w1 w2 : World} {r : Option Nat} (h1 : w.grownBy w1 r) (h2 : w1.grownBy w2 r) : w.grownBy w2 r :=
  ⟨h2.os.trans h1.os, h2.tape.trans h1.tape, h2.output.trans h1.output, Nat.le_trans h1.size h2.size, fun k hk hne => (h2.block k (Nat.lt_of_lt_of_le hk h1.size) hne).trans (h1.block k hk hne)⟩
theorem run_field_pars (W : World) (ct : List Value) (v : Value) (h : ct[32]? = some v) : (Instr.field 97 (.agg ct.toArray) 1).run Tryz.prog W = .ok v W := by
  unfold Instr.field
  simp [run_underlying Tryz.underlying97, asAgg, part, h, Tryz.isAgg28]
theorem wpList_field_run {P : Program} {w : World} {ops : Array Oper} {rest : List Oper} {o : Oper} {a : Act} {Q : Exit → Act → World → Prop} (hg : o.guard = none) (t : TypeId) (x : Operand) (i : Nat) (hop : o.op = .field t x i) (xv : Value) (hx : a.eval x = xv) (v : Value) (h : (Instr.field t xv i).run P w = .ok v w) (hK : wpList P ops Q rest (a.put o.dst v) w) : wpList P ops Q (o :: rest) a w := by
  refine wpList_exec hg v ?_ hK
  unfold execOp
  simp only [hop, hx, Sem.run_bind, h, Result.andThen_ok]
  rfl
theorem OwnQ.lt {w : World} {B sz n : Nat} {v : Value} {xs : List Value} (h : OwnQ w B sz v n xs) : ∀ k, v.ownBlock = some k → B ≤ k ∧ k < w.heap.size := fun k hk => by
  rcases h.2 with ⟨rfl, _⟩ | ⟨g, off, cap, rfl, hB, hg, _⟩
  · cases hk
  · cases hk; exact ⟨hB, hg⟩
theorem OwnQ.mono {w : World} {B B' sz n : Nat} {v : Value} {xs : List Value} (h : OwnQ w B sz v n xs) (hB : B' ≤ B) : OwnQ w B' sz v n xs := by
  refine ⟨h.1, ?_⟩
  rcases h.2 with h2 | ⟨g, off, cap, hv, hb, r⟩
  · exact .inl h2
  · exact .inr ⟨g, off, cap, hv, Nat.le_trans hB hb, r⟩
theorem exec_lookupF {P : Program} {w : World} {o : Oper} {a : Act} {v : Value} (t : TypeId) (m x : Operand) (mv xv : Value) (hop : o.op = .lookup t m x false) (hm : a.eval m = mv) (hx : a.eval x = xv) (h : (Instr.lookup t mv xv false).run P w = .ok v w) : (execOp a.eval o).run P w = .ok (.value v) w := by
  unfold execOp
  simp only [hop, hm, hx, Sem.run_bind, h, Result.andThen_ok]
  rfl
/-- Counting children: between two commits, between two parents. -/
def Lp1 (cm : Idl → Option Cmt) (g : Idl → Option Value) (L : List Idl) (w : World) (b n : Nat) (wr : World) : Prop :=
  ∃ (G Lr : List Idl) (nn : Nat), RangeG vlV wr b (w.heap.size + 1) n g Lr ∧ (G ++ Lr).Perm L ∧ CntM wr w.heap.size nn (kids cm G) ∧ nn ≤ 4 * G.length ∧ Below w.heap.size w wr
def Lp2 (cm : Idl → Option Cmt) (g : Idl → Option Value) (Lr : List Idl) (w W : World) (b n : Nat) (G : List Idl) (x : Idl) (l : Nat) (i : Value) (wr : World) : Prop :=
  ∃ (k nn : Nat), i = .int .i64 (k : Int) ∧ k ≤ l ∧ RangeG vlV wr b (w.heap.size + 1) n g Lr ∧ CntM wr w.heap.size nn (kidsI cm G x k) ∧ nn ≤ 4 * G.length + k ∧ W.grownBy wr (some w.heap.size)
/-- What is ready at first, gathered. -/
def Lp3 (cm : Idl → Option Cmt) (g : Idl → Option Value) (L : List Idl) (w : World) (b n r2 nn : Nat) (q : Value) (wr : World) : Prop :=
  ∃ (G Lr : List Idl), RangeG vlV wr b r2 n g Lr ∧ (G ++ Lr).Perm L ∧ OwnQ wr (r2 + 1) 32 q (G.filter fun x => decide (kids cm L x = 0)).length (idsF (G.filter fun x => decide (kids cm L x = 0))) ∧ CntM wr w.heap.size nn (kids cm L) ∧ Below w.heap.size w wr
/-- The main loop. -/
def Lp4 (cm : Idl → Option Cmt) (L : List Idl) (w : World) (B : Nat) (gk : Nat) (o q : Value) (wr : World) : Prop :=
  ∃ (T G R : List Idl) (nn : Nat), Tells cm L T G R ∧ gk + T.length = L.length ∧ OwnQ wr B 32 o T.length (idsF T) ∧ OwnQ wr B 32 q R.length (idsF R) ∧ (∀ k, o.ownBlock = some k → q.ownBlock ≠ some k) ∧ CntM wr w.heap.size nn (kids cm G) ∧ nn ≤ 4000 + 4 * T.length ∧ Below w.heap.size w wr
/-- The parents of one that is told. -/
def Lp5 (cm : Idl → Option Cmt) (w : World) (B : Nat) (G : List Idl) (x : Idl) (T M : List Idl) (o : Value) (l nm : Nat) (i q : Value) (wr : World) : Prop :=
  ∃ (k nn : Nat), i = .int .i64 (k : Int) ∧ k ≤ l ∧ OwnQ wr B 32 q (M ++ ((par cm x).take k).filter fun p => decide (kids cm (G.erase x) p = 0)).length (idsF (M ++ ((par cm x).take k).filter fun p => decide (kids cm (G.erase x) p = 0))) ∧
    OwnQ wr B 32 o T.length (idsF T) ∧ (∀ k, o.ownBlock = some k → q.ownBlock ≠ some k) ∧ CntM wr w.heap.size nn (kidsJ cm G x k) ∧ nn ≤ nm + k ∧ B ≤ wr.heap.size ∧ Below w.heap.size w wr
def LogAns (cm : Idl → Option Cmt) (L : List Idl) (w : World) (e : Ending) (w' : World) : Prop := ∃ v, e = .returned v ∧ OwnQ w' w.heap.size 32 v L.length (idsF (logOf cm L)) ∧ Below w.heap.size w w'

set_option maxRecDepth 100000 in
set_option maxHeartbeats 4000000 in
theorem hlog_any (L : List Idl) (hL : LogOn cm L) (b n : Nat) (w : World) (hm : LineM cm w b n L none) :
    Calls Tryz.prog 63 #[.map (some b)] w (LogAns cm L w) := by
  have hmm := @run_makeMap Tryz.prog
  obtain ⟨zi, i0, hi, hz0, hz1, hz2, hzi, hzil⟩ := id_zero
  obtain ⟨zc, hzc, _, hzce⟩ := cm_zero
  have HZI := Lib.hid hzil
  have HZC := Lib.hid (show zc.size = 34 by rw [hzce]; exact cmC_len _ _ _ zid_len)
  obtain ⟨g, hg, hdom, hval⟩ := hm
  have hbl := hg.lt
  have HLM : Hid (LineM cm w b n L none) := Lib.hid ⟨g, hg, hdom, hval⟩
  have HLO := Lib.hid hL
  have HDOM := Lib.hid hdom
  have HVAL := Lib.hid hval
  have HG := Lib.hid hg
  have HM0 := Lib.hid (cntM_made w)
  have hg1 : Below w.heap.size w (w.alloc (.map #[] 0)) := (Below.refl _ _).alloc (Nat.le_refl _) _
  have HB1 := Lib.hid hg1
  have HGM := Lib.hid (hg.on hg1)
  clear hL hdom hval hg hzil hzce hg1
  go_enter Tryz.func63, Tryz.ntmps63
  go_wp2_with (refine wpList_range_G (enc := vlV) rfl _ 110 97 rfl Tryz.underlying110 b n g L rfl HGM.out HLO.out.asc.nodup HLO.out.l32 HDOM.out ?_)
  intro w1 hr1 hgr1 hs1
  have HR1 := Lib.hid hr1
  have HM1 := Lib.hid (HM0.out.grown hgr1 (fun e => by cases e))
  have HBW1 := Lib.hid (HB1.out.grown hgr1 HB1.out.size (fun j hj => by cases hj))
  clear hr1 hgr1 hs1 HGM HM0 HB1
  go_wp2
  go_loopw [5] (fun _ wr => Lp1 cm g L w b n wr) (fun _ wr => wr.rangeLeft b (w.heap.size + 1))
  case atStart => exact ⟨[], L, 0, HR1.out, List.Perm.refl _, HM1.out.ext (fun _ _ => rfl), by simp, HBW1.out⟩
  case round =>
    obtain ⟨wo, rfl⟩ : ∃ wo : World, wo = wr := ⟨_, rfl⟩
    obtain ⟨G, Lr, nn, hrg, hp, hc, hnn, hb⟩ := hrel
    have HP := Lib.hid hp
    have HC := Lib.hid hc
    have HB := Lib.hid hb
    have hGl : G.length ≤ 1000 := by
      have := hp.length_eq
      rw [List.length_append] at this
      have := HLO.out.len
      omega
    clear hp hc hb
    go_wp2_with (refine wpList_next_G (enc := vlV) rfl _ rfl b (w.heap.size + 1) n g Lr rfl hrg ?_ ?_)
    · intro hL0
      have HPG : Hid (G.Perm L) := Lib.hid (by have := HP.out; rw [hL0, List.append_nil] at this; exact this)
      have HC2 : Hid (CntM wo w.heap.size nn (kids cm L)) := Lib.hid (HC.out.ext (fun p _ => kids_perm HPG.out p))
      have HMW := Lib.hid hrg.map
      have hws : w.heap.size < wo.heap.size := HC.out.lt
      clear hrg hL0
      go_wp2_with (refine wpList_range_G (enc := vlV) rfl _ 110 97 rfl Tryz.underlying110 b n g L rfl HMW.out HLO.out.asc.nodup HLO.out.l32 HDOM.out ?_)
      intro w2 hr2 hgr2 hs2
      have HR2 := Lib.hid hr2
      have HC3 := Lib.hid (HC2.out.grown hgr2 (fun e => by cases e))
      have HB3 := Lib.hid (HB.out.grown hgr2 HB.out.size (fun j hj => by cases hj))
      obtain ⟨r2, hr2e⟩ : ∃ r2, r2 = wo.heap.size := ⟨_, rfl⟩
      have hs2' : w2.heap.size = r2 + 1 := by rw [hr2e]; exact hs2
      have hwr2 : w.heap.size < r2 := by rw [hr2e]; exact hws
      rw [← hr2e] at HR2 ⊢
      have hbr2 : b < r2 := by omega
      clear hr2 hgr2 hs2 hr2e HC2 HMW HC HB HP
      go_wp2
      go_loopw [9, 10] (fun q _ wr => Lp3 cm g L w b n r2 nn q wr) (fun _ _ wr => wr.rangeLeft b r2)
      case atStart => exact ⟨[], L, HR2.out, List.Perm.refl _, ownQ_nil _ _ _, HC3.out, HB3.out⟩
      case round =>
        obtain ⟨wp, rfl⟩ : ∃ wp : World, wp = wr := ⟨_, rfl⟩
        obtain ⟨G2, Lr2, hrg, hp, hq, hc, hb⟩ := hrel
        have HP := Lib.hid hp
        have HQ := Lib.hid hq
        have HC := Lib.hid hc
        have HB := Lib.hid hb
        clear hp hq hc hb HR2 HC3 HB3
        go_wp2_with (refine wpList_next_G (enc := vlV) rfl _ rfl b r2 n g Lr2 rfl hrg ?_ ?_)
        · intro hL0
          have HPG : Hid (G2.Perm L) := Lib.hid (by have := HP.out; rw [hL0, List.append_nil] at this; exact this)
          have hr2l := hrg.lt
          have hgl := HPG.out.length_eq
          have HT0 : Hid (Tells cm L [] G2 (G2.filter fun x => decide (kids cm L x = 0))) := Lib.hid (Tells.start HPG.out HLO.out.asc.nodup (by
            rw [show (fun x => decide (kids cm G2 x = 0)) = fun x => decide (kids cm L x = 0) from by funext p; rw [kids_perm HPG.out p]]))
          have HC2 : Hid (CntM wp w.heap.size nn (kids cm G2)) := Lib.hid (HC.out.ext (fun p _ => (kids_perm HPG.out p).symm))
          clear hrg hL0 HC HP
          go_wp2
          go_loopg [8, 9] L.length (fun gk o q wr => Lp4 cm L w (r2 + 1) gk o q wr)
          case atStart => exact ⟨[], G2, _, nn, HT0.out, rfl, ownQ_nil _ _ _, HQ.out, (fun k hk => by cases hk), HC2.out, by omega, HB.out⟩
          case round =>
            obtain ⟨wm, rfl⟩ : ∃ wm : World, wm = wr := ⟨_, rfl⟩
            clear HT0 HC2 HQ HB
            obtain ⟨T, G, R, nm, ht, hgk, ho, hq, hne, hc, hnm, hb⟩ := hrel
            obtain ⟨hTl, hGl2, hRl⟩ := ht.len
            have hL1 := HLO.out.len
            cases R with
            | nil =>
              have HTD := Lib.hid (ht.done HLO.out.asc HLO.out.acyc)
              have HO := Lib.hid ho
              have HB := Lib.hid hb
              have hq2 := hq.2
              clear ht ho hq hne hc hb
              rcases hq2 with ⟨rfl, _⟩ | ⟨gg, off, cap, rfl, _⟩
              all_goals
                go_wp2
                go_ret
                exact ⟨_, rfl, by have h := HO.out; rw [HTD.out, logOf_len HLO.out.acyc HLO.out.asc.nodup] at h; exact h.mono (by omega), HB.out⟩
            | cons y R =>
              have hG32 : ∀ z ∈ y :: R, z.length = 32 := fun z hz => HLO.out.l32 z ((ht.mem z).1 hz).1
              have hnR : (y :: R).Nodup := ht.ready.nodup_iff.2 (List.Pairwise.filter _ ht.nodup)
              have HSRT := Lib.hid (isort_any (r2 + 1) _ (y :: R) wm hq hG32 hnR (by omega))
              have HT := Lib.hid ht
              have HO := Lib.hid ho
              have HQ := Lib.hid hq
              have HNE := Lib.hid hne
              have HC := Lib.hid hc
              have HB := Lib.hid hb
              have H32 := Lib.hid hG32
              have hcbl := hc.lt
              obtain ⟨ao, cap, hqe⟩ : ∃ ao cap, u9 = .slice ao (R.length + 1) cap := by
                rcases hq.2 with ⟨_, h0⟩ | ⟨gg, off, cap, h, _⟩
                · cases h0
                · exact ⟨_, _, h⟩
              subst hqe
              rw [List.length_cons] at HQ
              clear ht ho hq hne hc hb hG32 hnR
              go_wp2_with fail
              refine HSRT.out.mono ?_
              rintro e w2 ⟨rfl, m, hpm, hasc, hq2, hg2⟩
              obtain ⟨x, M, rfl⟩ : ∃ x M, m = x :: M := by
                cases m with
                | nil => have := hpm.length_eq; simp at this
                | cons x M => exact ⟨x, M, rfl⟩
              have hml : M.length = R.length := by have := hpm.length_eq; simpa using this
              have hx : x.length = 32 := H32.out x (hpm.mem_iff.1 (by simp))
              have ht2 := HT.out.sorted hpm
              obtain ⟨hxG, ht3⟩ := ht2.step HLO.out.asc hasc HLO.out.pars HLO.out.acyc (HLO.out.nod x)
              have hxL : x ∈ L := ((ht2.mem x).1 (by simp)).1
              rw [idsF_cons] at hq2
              have hxl : (idC x).length = 32 := by rw [idC_len, hx]
              rw [show (y :: R).length = M.length + 1 from by rw [List.length_cons, hml]] at hq2
              obtain ⟨gq, oq, cq, hqe, hBq, hgq, hcm, hnc, hr0, hcut⟩ := hq2.cut hxl
              obtain ⟨rfl, hlen, rfl⟩ : ao = some ⟨gq, oq, none⟩ ∧ R.length = M.length ∧ cap = cq + 1 := by
                injection hqe with e1 e2 e3
                exact ⟨e1, by omega, e3⟩
              have how : (Value.slice (some ⟨gq, oq, none⟩) (R.length + 1) (cq + 1)).ownBlock = some gq := rfl
              rw [hlen]
              rw [how] at hg2 HNE
              obtain ⟨p, hp⟩ : ∃ p, p = (if cq = 0 then (⟨gq, oq, none⟩ : Addr) else ⟨gq, oq + 32, none⟩) := ⟨_, rfl⟩
              have hpb : (Value.slice (some p) M.length cq).ownBlock = some gq := by rw [hp]; show some (Addr.block (if cq = 0 then _ else _)) = some gq; split <;> rfl
              have HSL : Hid (∀ W, (Instr.sliceAt 28 (.slice (some ⟨gq, oq, none⟩) (M.length + 1) (cq + 1)) (some (.int .i64 1)) none none).run Tryz.prog W = .ok (.slice (some p) M.length cq) W) := Lib.hid (fun W => by rw [hp]; exact run_cut_ids W gq oq M.length cq (by omega))
              have ho2 := HO.out.grown hg2 (fun k hk e => HNE.out k hk e.symm)
              have hc2 := HC.out.grown hg2 (fun e => by have := Option.some.inj e; omega)
              have hb2 := HB.out.grown hg2 HB.out.size (fun k hk => by cases hk; omega)
              obtain ⟨W3, hW3⟩ : ∃ W3, (w2.alloc (.cells zi 24)).setCells w2.heap.size 0 (idC x) = W3 := ⟨_, rfl⟩
              have wr3 := wrote (by rw [hxl, HZI.out]) (by rw [HZI.out]; omega) hW3
              have hb4 : Below W3.heap.size W3 (W3.alloc (.cells (idC x).toArray 24)) := (Below.refl _ _).alloc (Nat.le_refl _) _
              have hbb : Below w2.heap.size w2 (W3.alloc (.cells (idC x).toArray 24)) := wr3.bel.trans (hb4.mono wr3.bel.size)
              have HO4 := Lib.hid (ho2.below hbb)
              have HQ4 := Lib.hid ((hcut p hp).below hbb)
              have HC4 := Lib.hid (hc2.on hbb)
              have HB4 := Lib.hid (hb2.trans (hbb.mono hb2.size))
              have HR4 := Lib.hid (rangeAt_below wr3.row hb4 wr3.lt)
              have HR3 := Lib.hid wr3.row
              have HR0 := Lib.hid hr0
              have hB4 : r2 + 1 ≤ (W3.alloc (.cells (idC x).toArray 24)).heap.size := by rw [World.size_alloc]; have := wr3.bel.size; omega
              have HGB : Hid (gq < w2.heap.size ∧ w2.heap.size < W3.heap.size ∧ w.heap.size < w2.heap.size ∧ r2 + 1 ≤ gq) := Lib.hid ⟨hgq, wr3.lt, by have := hc2.lt; omega, hBq⟩
              have hTl2 : T.length ≤ 1000 := by omega
              have h32x := h32_of hxl
              have h32 : (Tryz.prog.info? 24).map (·.size) = some 32 := by kernel_rfl
              have HTH := Lib.hid (there_alloc w2 zi 24 HZI.out)
              have HON := Lib.hid (idC_one x)
              have HXL := Lib.hid hxl
              have HW3 := Lib.hid hW3
              have HSZ : Hid (∀ w, (sizeOf 24).run Tryz.prog w = .ok (idC x).length w) := Lib.hid (fun w => by rw [hxl]; kernel_rfl)
              have HNEW : Hid (∀ j u, (idC x)[j]? = some u → (W3.alloc (.cells (idC x).toArray 24)).cell? ((⟨W3.heap.size, 0, none⟩ : Addr).add j) = some u) := Lib.hid (fun j u hj => cells_newL _ (idC x) _ j u hj)
              have hRM : M.length ≤ 1000 := by have := hRl; rw [List.length_cons] at this; omega
              have HOB : Hid (∀ k, u8.ownBlock = some k → r2 + 1 ≤ k ∧ k < w2.heap.size) := Lib.hid (fun k hk => by have := HO.out.lt k hk; have := hg2.size; omega)
              have HTS : Hid (idsF (T ++ [x]) = idsF T ++ idC x) := Lib.hid (idsF_snoc _ _)
              obtain ⟨ct, hct1, hct2, _, hct4, hct5⟩ := HLM.out.look (t := 110) Tryz.underlying110 hx (fun c hc => HLO.out.tree x c hc)
              obtain ⟨cc, pv, hcmx, hcte, hrowp, _⟩ := hct5 hxL
              obtain ⟨ap, capp, rfl, hmaxp, hcellp⟩ := hrowp.open
              have hc32 : ct[32]? = some (.slice ap cc.pars.length capp) := by
                rw [hcte]; unfold cmC
                rw [List.getElem?_append_right (by rw [idC_len, HLO.out.tree x cc hcmx]; exact Nat.le_refl _), idC_len, HLO.out.tree x cc hcmx]; rfl
              have HFLD := Lib.hid (fun W => run_field_pars W ct _ hc32)
              have HLKC := Lib.hid hct4
              have HPA := Lib.hid (par_of hcmx)
              have HCE := Lib.hid hcellp
              have HT3 := Lib.hid ht3
              have HXG := Lib.hid hxG
              have HXIL := Lib.hid hxL
              have HPB := Lib.hid hpb
              have HNE2 := Lib.hid HNE.out
              clear hpm hasc hq2 hg2 hml ht2 hxG ht3 hxL hxl hqe hcut hp hpb ho2 hc2 hb2 wr3 hb4 hbb hr0 hW3 hct1 hct2 hct4 hct5 hcte hrowp hcellp hc32 hcmx hBq hgq hcm HSRT HQ HT HO HC HB H32 how HNE hlen hRl
              generalize hux : idC x = ux at h32x HTH HON HXL HW3 HSZ HNEW HTS HO4 HQ4 HC4 HB4 HR4 HR3 HR0 HLKC hB4
              go_wp2_with (first
                | (refine wpList_load_mid rfl 24 _ rfl gq oq rfl ux _ HR0.out Tryz.underlying24 rfl h32x ?_)
                | (refine wpList_store_list rfl 24 _ _ rfl w2.heap.size 0 ux rfl rfl 32 HXL.out HTH.out h32 HON.out ?_; rw [HW3.out])
                | (refine wpList_slice_run rfl 28 _ _ rfl _ _ rfl rfl _ (HSL.out _) ?_)
                | (refine wpList_load_mid rfl 24 _ rfl w2.heap.size 0 rfl ux _ HR3.out Tryz.underlying24 rfl h32x ?_)
                | (refine wpList_buildSlice_one rfl (.tmp 60) 28 24 rfl ux zi rfl Tryz.underlying28 HSZ.out hzi (by rw [HXL.out]; omega) (by rw [HXL.out]; omega) ?_)
                | (refine wpList_append_q rfl (.tmp 59) (.tmp 61) 28 rfl (r2 + 1) 24 i0 (.agg zi) 32 32 Tryz.underlying28 hi hz0 hz1 hz2 HZI.out (by decide) _ T.length (idsF T) rfl HO4.out (some ⟨W3.heap.size, 0, none⟩) 1 1 ux rfl (by rw [HXL.out]) (fun _ => ⟨_, rfl, HNEW.out⟩) HON.out (by unfold maxLen; omega) (by omega) hB4 ?_))
              intro o5 w5 ho5 hg5 hf5
              have HO5 : Hid (OwnQ w5 (r2 + 1) 32 o5 (T ++ [x]).length (idsF (T ++ [x]))) := Lib.hid (by rw [HTS.out, List.length_append, List.length_singleton]; exact ho5)
              have HQ5 := Lib.hid (HQ4.out.grown hg5 (fun k hk e => by rw [HPB.out] at hk; exact HNE2.out k e.symm hk))
              have HC5 := Lib.hid (HC4.out.grown hg5 (fun e => by have := (HOB.out _ e.symm).1; omega))
              have HB5 := Lib.hid (HB4.out.grown hg5 HB4.out.size (fun k hk => by have := (HOB.out k hk).1; omega))
              have HR5 := Lib.hid (range_grown HR4.out hg5 (fun e => by have := (HOB.out _ e).2; omega))
              have HOFF : Hid (∀ k, o5.ownBlock = some k → (Value.slice (some p) M.length cq).ownBlock ≠ some k) := Lib.hid (fun k hk e => by
                rw [HPB.out] at e
                rcases hf5 with h | h
                · rw [h] at hk; exact HNE2.out k hk e
                · have h1 := h k hk
                  rw [World.size_alloc] at h1
                  have h2 := HGB.out
                  have h3 := Option.some.inj e
                  omega)
              have HLK5 := Lib.hid (HLKC.out w5 HB5.out)
              have hB5 : r2 + 1 ≤ w5.heap.size := Nat.le_trans hB4 hg5.size
              clear ho5 hg5 hf5 HO4 HQ4 HC4 HB4 HR4 HR3 HR0 HW3 HTH HLKC
              go_wp2_with (first
                | (refine wpList_load_mid rfl 24 _ rfl w2.heap.size 0 rfl ux _ HR5.out Tryz.underlying24 rfl h32x ?_)
                | (refine wpList_lookup_run rfl 110 _ _ false rfl _ _ rfl rfl _ HLK5.out ?_)
                | (refine wpList_field_run rfl 97 _ 1 rfl _ rfl _ (HFLD.out _) ?_))
              go_loopw [68, 9] (fun i q wr => Lp5 cm w (r2 + 1) G x (T ++ [x]) M o5 cc.pars.length nm i q wr) (fun i _ _ => (cc.pars.length - intOf i).toNat)
              case atStart => exact ⟨0, nm, rfl, by omega, by simpa using HQ5.out, HO5.out, HOFF.out, by rw [kidsJ_start HXG.out]; exact HC5.out, by omega, hB5, HB5.out⟩
              case round =>
                obtain ⟨wi, rfl⟩ : ∃ wi : World, wi = wr := ⟨_, rfl⟩
                clear HO5 HQ5 HC5 HB5 HOFF HLK5 HR5 HNE2 HPB HFLD
                obtain ⟨k, ni, rfl, hk, hq, ho, hne, hc, hni, hBi, hb⟩ := hrel
                have HQI := Lib.hid hq
                have HOI := Lib.hid ho
                have HNI := Lib.hid hne
                have HCI := Lib.hid hc
                have HBI := Lib.hid hb
                clear hq ho hne hc hb
                by_cases hlt : k < cc.pars.length
                · obtain ⟨br, off, rfl, hbl2, hcell⟩ := HCE.out (by intro e; rw [e] at hlt; simp at hlt)
                  have f1 := rangeAt_below (hcell k hlt) HBI.out hbl2
                  have hkp : k < (par cm x).length := by rw [HPA.out]; exact hlt
                  have h4 : cc.pars.length ≤ 4 := by have := HLO.out.four x; rw [HPA.out] at this; exact this
                  have hpe : (par cm x)[k] = cc.pars[k] := by simp only [HPA.out]
                  obtain ⟨z, hz⟩ : ∃ z, cc.pars[k] = z := ⟨_, rfl⟩
                  rw [hz] at hpe f1
                  have hzl : z.length = 32 := HLO.out.l32 _ (HLO.out.pars x HXIL.out _ (by rw [← hpe]; exact List.getElem_mem hkp))
                  obtain ⟨c, hcv⟩ : ∃ c, kids cm (G.erase x) z = c := ⟨_, rfl⟩
                  have hcle : c ≤ 1000 := by
                    have h1 := kids_le (cm := cm) (G.erase x) z
                    rw [hcv] at h1
                    have h2 := (HT3.out.len).2.1
                    omega
                  have hat : kidsJ cm G x k z = c + 1 := by
                    have := kidsJ_at (G := G) hkp
                    rw [hpe, hcv] at this
                    exact this
                  have HNX : Hid (∀ q, kidsJ cm G x (k + 1) q = if q = z then c else kidsJ cm G x k q) := Lib.hid (fun q => by
                    rw [kidsJ_next hkp (HLO.out.nod x), hpe]
                    by_cases e : q = z
                    · rw [if_pos e, if_pos e, e, hat]; rfl
                    · rw [if_neg e, if_neg e])
                  have HFI : Hid (((par cm x).take (k + 1)).filter (fun p => decide (kids cm (G.erase x) p = 0)) = ((par cm x).take k).filter (fun p => decide (kids cm (G.erase x) p = 0)) ++ if c = 0 then [z] else []) := Lib.hid (by
                    rw [List.take_succ_eq_append_getElem hkp, hpe, List.filter_append]
                    by_cases h0 : c = 0
                    · rw [if_pos h0]; simp [hcv, h0]
                    · rw [if_neg h0]; simp [hcv, h0])
                  have hRk : (((par cm x).take k).filter (fun p => decide (kids cm (G.erase x) p = 0))).length ≤ 4 := Nat.le_trans (List.length_filter_le _ _) (by rw [List.length_take, HPA.out]; omega)
                  obtain ⟨F, hF⟩ : ∃ F, ((par cm x).take k).filter (fun p => decide (kids cm (G.erase x) p = 0)) = F := ⟨_, rfl⟩
                  rw [hF] at HFI hRk HQI
                  have hzc : (idC z).length = 32 := by rw [idC_len, hzl]
                  have h32z := h32_of hzc
                  obtain ⟨W5, hW5⟩ : ∃ W5, (wi.alloc (.cells zi 24)).setCells wi.heap.size 0 (idC z) = W5 := ⟨_, rfl⟩
                  have wr5 := wrote (by rw [hzc, HZI.out]) (by rw [HZI.out]; omega) hW5
                  have hc5 : CntM W5.drew w.heap.size ni (kidsJ cm G x k) := (HCI.out.on wr5.bel).on (Below.refl _ _).drew
                  have hni : ni < maxLen := by unfold maxLen; omega
                  obtain ⟨v0, st, w6, he1, he2, he3, he4⟩ := hc5.entry Tryz.underlying114 hni hzl
                  have hlk := hc5.look Tryz.underlying114 hzl W5.drew (Below.refl _ _)
                  obtain ⟨w7, hs1, hs2, hs3⟩ := he4 w6 c rfl
                  rw [hat] at hlk he3
                  have hlk7 := hs3.look Tryz.underlying114 hzl w7 (Below.refl _ _)
                  rw [if_pos rfl] at hlk7
                  obtain ⟨cI, hcI⟩ : ∃ cI : Int, ((c + 1 : Nat) : Int) = cI := ⟨_, rfl⟩
                  have hcc : (c : Int) = cI - 1 := by omega
                  rw [hcI] at hlk he3
                  rw [hcc] at hs1
                  have hwr : IntKind.i64.wrap (cI - 1) = cI - 1 := IntWalk.i64_in _ (by omega)
                  have HTH5 := Lib.hid (there_alloc wi zi 24 HZI.out)
                  have hcbw : w.heap.size < wi.heap.size := HCI.out.lt
                  have HS0 : Hid (W5.drew.rangeAt wi.heap.size 0 (idC z) ∧ (Instr.lookup 114 (.map (some w.heap.size)) (.agg (idC z).toArray) false).run Tryz.prog W5.drew = .ok (.int .i64 cI) W5.drew) := Lib.hid ⟨wr5.row, hlk⟩
                  have HS6 : Hid (w6.rangeAt wi.heap.size 0 (idC z) ∧ (Instr.lookup 114 (.map (some w.heap.size)) (.agg (idC z).toArray) false).run Tryz.prog w6 = .ok (.int .i64 cI) w6) := Lib.hid ⟨range_grown (w := W5.drew) wr5.row he2 (fun e => by have := Option.some.inj e; omega), he3 w6 rfl⟩
                  have hgb : wi.grownBy w7 (some w.heap.size) := grownBy_trans' (grownBy_trans' (grown_none (below_grownBy (wr5.bel.drew)) _) he2) hs2
                  have hg57 : W5.drew.grownBy w7 (some w.heap.size) := grownBy_trans' he2 hs2
                  have HR7 := Lib.hid (range_grown (w := W5.drew) wr5.row hg57 (fun e => by have := Option.some.inj e; omega))
                  have HC7 := Lib.hid (hs3.ext (fun q _ => (HNX.out q).symm))
                  have HQ7 := Lib.hid (HQI.out.grown hgb (fun k hk e => by have := (HQI.out.lt k hk).1; have := Option.some.inj e; omega))
                  have HO7 := Lib.hid (HOI.out.grown hgb (fun k hk e => by have := (HOI.out.lt k hk).1; have := Option.some.inj e; omega))
                  have HB7 := Lib.hid (HBI.out.grown hgb HBI.out.size (fun j hj => by cases hj; exact Nat.le_refl _))
                  have hB7 : r2 + 1 ≤ w7.heap.size := Nat.le_trans hBi hgb.size
                  have HE1 := Lib.hid he1
                  have HE5 := Lib.hid hs1
                  have HLK7 := Lib.hid hlk7
                  have HZC2 := Lib.hid hzc
                  have HZO := Lib.hid (idC_one z)
                  have HW5 := Lib.hid hW5
                  have F1 := Lib.hid f1
                  have HSZ5 : Hid (∀ w, (sizeOf 24).run Tryz.prog w = .ok (idC z).length w) := Lib.hid (fun w => by rw [hzc]; kernel_rfl)
                  have HF1 : Hid (idsF (M ++ (F ++ [z])) = idsF (M ++ F) ++ idC z) := Lib.hid (by rw [← List.append_assoc]; exact idsF_snoc _ _)
                  have k0 : (0 : Int) ≤ k := by omega
                  have k1 : (k : Int) < cc.pars.length := by omega
                  have d1 : decide ((k : Int) < cc.pars.length) = true := decide_eq_true k1
                  clear hcell hkp hpe hzc hW5 wr5 hc5 hni he1 he2 he3 he4 hlk hs1 hs2 hs3 hgb hg57 f1 HNX hat hF hz hlk7 hcI HQI HOI HCI HBI
                  generalize hux2 : idC z = uz at h32z HS0 HS6 HE1 HZC2 HZO HW5 F1 HR7 HLK7 HSZ5 HF1
                  clear hux2
                  go_wp2_with (first
                    | (refine wpList_load_mid rfl 24 _ rfl br (off + k * 32) rfl uz _ F1.out Tryz.underlying24 rfl h32z ?_)
                    | (refine wpList_store_list rfl 24 _ _ rfl wi.heap.size 0 uz rfl rfl 32 HZC2.out HTH5.out h32 HZO.out ?_; rw [HW5.out]))
                  have hS0 := HS0.out
                  refine wp_region_L 6 (fun w' => w'.rangeAt wi.heap.size 0 uz ∧ (Instr.lookup 114 (.map (some w.heap.size)) (.agg uz.toArray) false).run Tryz.prog w' = .ok (.int .i64 cI) w') (by kernel_rfl) (by kernel_rfl) ?_
                  refine WL.take (i := 0) (v := ?_) rfl (by kernel_rfl) (by decide) (by decide +kernel) (by decide +kernel) (fun _ _ _ h => h) rfl ?_ hS0 ?_
                  rotate_left
                  · (intro w' hSw; (try dsimp only at hSw); go_simp; (try with_reducible rfl))
                  simp only [Act.put]; (try simp only [List.getElem_toArray]); (try simp only [List.getElem_cons_succ]); (try simp only [List.getElem_cons_zero]); (try simp only [List.setIfInBounds_toArray]); (try simp only [List.set_cons_succ]); (try simp only [List.set_cons_zero])
                  refine WL.take (i := 1) (v := _) rfl (by kernel_rfl) (by decide) (by decide +kernel) (by decide +kernel) (fun _ _ _ h => h) rfl (fun w' hSw => exec_row 24 _ (hSw.1) Tryz.underlying24 rfl h32z _ rfl rfl) hS0 ?_
                  simp only [Act.put]; (try simp only [List.getElem_toArray]); (try simp only [List.getElem_cons_succ]); (try simp only [List.getElem_cons_zero]); (try simp only [List.setIfInBounds_toArray]); (try simp only [List.set_cons_succ]); (try simp only [List.set_cons_zero])
                  refine WL.take (i := 2) (v := .int .i64 cI) rfl (by kernel_rfl) (by decide) (by decide +kernel) (by decide +kernel) (fun _ _ _ h => h) rfl (fun w' hSw => exec_lookupF 114 _ _ _ _ rfl rfl rfl hSw.2) hS0 ?_
                  simp only [Act.put]; (try simp only [List.getElem_toArray]); (try simp only [List.getElem_cons_succ]); (try simp only [List.getElem_cons_zero]); (try simp only [List.setIfInBounds_toArray]); (try simp only [List.set_cons_succ]); (try simp only [List.set_cons_zero])
                  refine WL.take (i := 3) (v := ?_) rfl (by kernel_rfl) (by decide) (by decide +kernel) (by decide +kernel) (fun _ _ _ h => h) rfl ?_ hS0 ?_
                  rotate_left
                  · (intro w' hSw; (try dsimp only at hSw); go_simp; (try with_reducible rfl))
                  simp only [Act.put]; (try simp only [List.getElem_toArray]); (try simp only [List.getElem_cons_succ]); (try simp only [List.getElem_cons_zero]); (try simp only [List.setIfInBounds_toArray]); (try simp only [List.set_cons_succ]); (try simp only [List.set_cons_zero])
                  refine WL.one (i := 4) rfl (by decide) (by decide +kernel) ?_
                  refine wpList_entry_run rfl 114 (.tmp 72) (.tmp 73) rfl _ _ rfl rfl _ HE1.out ?_
                  simp only [Act.put]; (try simp only [List.getElem_toArray]); (try simp only [List.getElem_cons_succ]); (try simp only [List.getElem_cons_zero]); (try simp only [List.setIfInBounds_toArray]); (try simp only [List.set_cons_succ]); (try simp only [List.set_cons_zero])
                  have hS6 := HS6.out
                  refine ⟨hS6, ?_⟩
                  refine WL.take (i := 5) (v := ?_) rfl (by kernel_rfl) (by decide) (by decide +kernel) (by decide +kernel) (fun _ _ _ h => h) rfl ?_ hS6 ?_
                  rotate_left
                  · (intro w' hSw; (try dsimp only at hSw); go_simp; (try with_reducible rfl))
                  simp only [Act.put]; (try simp only [List.getElem_toArray]); (try simp only [List.getElem_cons_succ]); (try simp only [List.getElem_cons_zero]); (try simp only [List.setIfInBounds_toArray]); (try simp only [List.set_cons_succ]); (try simp only [List.set_cons_zero])
                  refine WL.last (n := 6) rfl rfl (by decide +kernel) (by decide +kernel) ?_
                  refine wpList_estore_run rfl 114 (.tmp 72) (.tmp 77) (.tmp 75) rfl _ _ _ rfl rfl rfl HE5.out ?_
                  clear hS0 hS6 HS0 HS6 HE1 HE5 hwr
                  have hFl : (M ++ F).length ≤ 1004 := by rw [List.length_append]; omega
                  have HLF : Hid ((M ++ (F ++ [z])).length = (M ++ F).length + 1) := Lib.hid (by simp; omega)
                  have HME : Hid (M ++ F = M ++ F) := Lib.hid rfl
                  obtain ⟨MF, hMF⟩ : ∃ MF, M ++ F = MF := ⟨_, rfl⟩
                  rw [hMF] at hFl HQ7 HF1 HLF
                  have HMF := Lib.hid hMF
                  clear hMF HME
                  by_cases h0 : c = 0
                  · rw [if_pos h0] at HFI
                    rw [h0] at HLK7
                    have HCZ := Lib.hid hcc
                    have HCA := Lib.hid hcv
                    clear hcc hcv h0
                    have hb8 : Below w7.heap.size w7 (w7.alloc (.cells uz.toArray 24)) := (Below.refl _ _).alloc (Nat.le_refl _) _
                    have HQ8 := Lib.hid (HQ7.out.below hb8)
                    have HO8 := Lib.hid (HO7.out.below hb8)
                    have HC8 := Lib.hid (HC7.out.on hb8)
                    have HB8 := Lib.hid (HB7.out.trans (hb8.mono HB7.out.size))
                    have HNEW : Hid (∀ j u, uz[j]? = some u → (w7.alloc (.cells uz.toArray 24)).cell? ((⟨w7.heap.size, 0, none⟩ : Addr).add j) = some u) := Lib.hid (fun j u hj => cells_newL _ uz _ j u hj)
                    have hcb7 := HC7.out.lt
                    have hcw : w.heap.size < r2 + 1 := by have := hwr2; omega
                    have HLK8 : Hid ((Instr.lookup 114 (.map (some w.heap.size)) (.agg uz.toArray) false).run Tryz.prog w7 = .ok (.int .i64 0) w7) := Lib.hid HLK7.out
                    clear hb8 HLK7
                    go_wp2_with (first
                      | (refine wpList_load_mid rfl 24 _ rfl wi.heap.size 0 rfl uz _ HR7.out Tryz.underlying24 rfl h32z ?_)
                      | (refine wpList_lookup_run rfl 114 _ _ false rfl _ _ rfl rfl _ HLK8.out ?_)
                      | (refine wpList_buildSlice_one rfl (.tmp 83) 28 24 rfl uz zi rfl Tryz.underlying28 HSZ5.out hzi (by rw [HZC2.out]; omega) (by rw [HZC2.out]; omega) ?_)
                      | (refine wpList_append_q rfl (.tmp 82) (.tmp 84) 28 rfl (r2 + 1) 24 i0 (.agg zi) 32 32 Tryz.underlying28 hi hz0 hz1 hz2 HZI.out (by decide) _ MF.length (idsF MF) rfl HQ8.out (some ⟨w7.heap.size, 0, none⟩) 1 1 uz rfl (by rw [HZC2.out]) (fun _ => ⟨_, rfl, HNEW.out⟩) HZO.out (by unfold maxLen; omega) (by omega) (by rw [World.size_alloc]; omega) ?_))
                    intro q9 w9 hq9 hg9 hf9
                    have HEND : Hid (Lp5 cm w (r2 + 1) G x (T ++ [x]) M o5 cc.pars.length nm (.int .i64 ((k + 1 : Nat) : Int)) q9 w9) := Lib.hid ⟨k + 1, ni + 1, rfl, by omega, by
                      rw [HFI.out, HF1.out, HLF.out]
                      exact hq9, HO8.out.grown hg9 (fun k' hk' e => HNI.out k' hk' e.symm), fun k' hk' e => by
                      rcases hf9 with h | h
                      · rw [h] at e; exact HNI.out k' hk' e
                      · have h1 := h k' e
                        have h2 := (HO7.out.lt k' hk').2
                        rw [World.size_alloc] at h1
                        omega, HC8.out.grown hg9 (fun e => by have := (HQ8.out.lt _ e.symm).1; omega), by omega, by
                      have := hg9.size
                      rw [World.size_alloc] at this
                      omega, HB8.out.grown hg9 HB8.out.size (fun k' hk' => by have := (HQ8.out.lt k' hk').1; omega)⟩
                    clear hq9 hg9 hf9
                    go_wp2
                    go_roundw
                    case rel => exact HEND.out
                    case measure => simp [intOf]; omega
                  · rw [if_neg h0, List.append_nil] at HFI
                    have d0 : ((c : Int) == 0) = false := by rw [beq_eq_false_iff_ne]; omega
                    have HEND : Hid (∀ q, OwnQ w7 (r2 + 1) 32 q MF.length (idsF MF) → (∀ k, o5.ownBlock = some k → q.ownBlock ≠ some k) → Lp5 cm w (r2 + 1) G x (T ++ [x]) M o5 cc.pars.length nm (.int .i64 ((k + 1 : Nat) : Int)) q w7) := Lib.hid (fun q hq hne => ⟨k + 1, ni + 1, rfl, by omega, by rw [HFI.out, HMF.out]; exact hq, HO7.out, hne, HC7.out, by omega, hB7, HB7.out⟩)
                    clear hcc hcv h0
                    go_wp2_with (first
                      | (refine wpList_load_mid rfl 24 _ rfl wi.heap.size 0 rfl uz _ HR7.out Tryz.underlying24 rfl h32z ?_)
                      | (refine wpList_lookup_run rfl 114 _ _ false rfl _ _ rfl rfl _ HLK7.out ?_))
                    go_roundw
                    case rel => exact HEND.out _ HQ7.out HNI.out
                    case measure => simp [intOf]; omega
                · have hke : k = cc.pars.length := by omega
                  have d1 : decide ((k : Int) < cc.pars.length) = false := decide_eq_false (by omega)
                  have hTk : ((par cm x).take k) = par cm x := List.take_of_length_le (by rw [HPA.out]; omega)
                  have hq2 := HQI.out
                  rw [hTk] at hq2
                  have hc2 := HCI.out
                  rw [kidsJ_end G x (by rw [HPA.out]; omega)] at hc2
                  have h4 := HLO.out.four x
                  rw [HPA.out] at h4
                  have HEND : Hid (∀ q, OwnQ wi (r2 + 1) 32 q (M ++ (par cm x).filter fun p => decide (kids cm (G.erase x) p = 0)).length (idsF (M ++ (par cm x).filter fun p => decide (kids cm (G.erase x) p = 0))) → (∀ k, o5.ownBlock = some k → q.ownBlock ≠ some k) → Lp4 cm L w (r2 + 1) (gk - 1) o5 q wi) := Lib.hid (fun q hq hne => ⟨T ++ [x], G.erase x, _, ni, HT3.out, by
                    rw [List.length_append, List.length_singleton]
                    have := (HT3.out.len).1
                    rw [List.length_append, List.length_singleton] at this
                    omega, HOI.out, hq, hne, hc2, by rw [List.length_append, List.length_singleton]; omega, HBI.out⟩)
                  have HQ2 := Lib.hid hq2
                  have HGK : Hid (gk - 1 < gk) := Lib.hid (by
                    have := (HT3.out.len).1
                    rw [List.length_append, List.length_singleton] at this
                    omega)
                  clear hke hTk hq2 hc2
                  go_wp2
                  go_roundg (gk - 1)
                  case measure => exact HGK.out
                  case rel => exact HEND.out _ HQ2.out HNI.out
        · intro x c w3 hxL hx hfx hrg2 hlt hg2 hs3 hen
          have hxl : (idC x).length = 32 := by rw [idC_len, hx]
          have h32x := h32_of hxl
          have h32 : (Tryz.prog.info? 24).map (·.size) = some 32 := by kernel_rfl
          have hG2 : G2.length ≤ 1000 := by
            have := HP.out.length_eq
            rw [List.length_append] at this
            have := HLO.out.len
            omega
          obtain ⟨W4, hW4⟩ : ∃ W4, (w3.alloc (.cells zi 24)).setCells w3.heap.size 0 (idC x) = W4 := ⟨_, rfl⟩
          have wr4 := wrote (by rw [hxl, HZI.out]) (by rw [HZI.out]; omega) hW4
          have HRG4 := Lib.hid (hrg2.on wr4.bel)
          have HLT4 := Lib.hid (show W4.rangeLeft b r2 < wp.rangeLeft b r2 by rw [rangeLeft_heap (wr4.bel.block b hrg2.map.lt) (wr4.bel.block _ hrg2.lt)]; exact hlt)
          have hc3 := HC.out.grown hg2 (fun e => by have := Option.some.inj e; omega)
          have hc4 := hc3.on wr4.bel
          have HC4 := Lib.hid hc4
          have hlk := hc4.look Tryz.underlying114 hx W4 (Below.refl _ _)
          have hb3 := HB.out.grown hg2 HB.out.size (fun j hj => by cases hj; omega)
          have HB4 := Lib.hid (hb3.trans (wr4.bel.mono hb3.size))
          have hq3 := HQ.out.grown hg2 (fun k hk e => by have := (HQ.out.lt k hk).1; have := Option.some.inj e; omega)
          have HQ4 := Lib.hid (hq3.below wr4.bel)
          have hr2l : r2 + 1 ≤ W4.heap.size := by have := HRG4.out.lt; omega
          have HPE : Hid (((G2 ++ [x]) ++ Lr2.erase x).Perm L) := Lib.hid (by
            rw [List.append_assoc]
            exact ((List.perm_cons_erase hxL).symm.append_left G2).trans HP.out)
          have HFI : Hid ((G2 ++ [x]).filter (fun x => decide (kids cm L x = 0)) = G2.filter (fun x => decide (kids cm L x = 0)) ++ if kids cm L x = 0 then [x] else []) := Lib.hid (by
            rw [List.filter_append]
            by_cases h0 : kids cm L x = 0
            · rw [if_pos h0]; simp [h0]
            · rw [if_neg h0]; simp [h0])
          have hRl : (G2.filter fun x => decide (kids cm L x = 0)).length ≤ 1000 := Nat.le_trans (List.length_filter_le _ _) hG2
          have HTH := Lib.hid (there_alloc w3 zi 24 HZI.out)
          have HON := Lib.hid (idC_one x)
          have HXL := Lib.hid hxl
          have HROW := Lib.hid wr4.row
          have HW4 := Lib.hid hW4
          have HSZ : Hid (∀ w, (sizeOf 24).run Tryz.prog w = .ok (idC x).length w) := Lib.hid (fun w => by rw [hxl]; kernel_rfl)
          have HF1 : Hid (idsF ((G2.filter fun x => decide (kids cm L x = 0)) ++ [x]) = idsF (G2.filter fun x => decide (kids cm L x = 0)) ++ idC x) := Lib.hid (idsF_snoc _ _)
          obtain ⟨R, hR⟩ : ∃ R, (G2.filter fun x => decide (kids cm L x = 0)) = R := ⟨_, rfl⟩
          rw [hR] at HQ4 HFI hRl HF1
          clear hxl hrg hrg2 hlt hg2 hs3 hc3 hc4 hb3 hq3 wr4 hW4 hR HQ HP HC HB hfx hxL
          generalize hux : idC x = ux at hen h32x HTH HON HXL HROW HW4 HSZ HF1 hlk ⊢
          clear hux
          by_cases h0 : kids cm L x = 0
          · rw [if_pos h0] at HFI
            rw [h0] at hlk
            have HLK := Lib.hid hlk
            clear h0 hlk
            have hb5 : Below W4.heap.size W4 (W4.alloc (.cells ux.toArray 24)) := (Below.refl _ _).alloc (Nat.le_refl _) _
            have HQ5 := Lib.hid (HQ4.out.below hb5)
            have HNEW : Hid (∀ j u, ux[j]? = some u → (W4.alloc (.cells ux.toArray 24)).cell? ((⟨W4.heap.size, 0, none⟩ : Addr).add j) = some u) := Lib.hid (fun j u hj => cells_newL _ ux _ j u hj)
            have HB5 := Lib.hid hb5
            have e0 : ((0 : Nat) : Int) = 0 := rfl
            rw [e0] at HLK
            clear hb5 e0
            go_wp2_with (first
              | (refine wpList_store_list rfl 24 _ _ rfl w3.heap.size 0 ux rfl rfl 32 HXL.out HTH.out h32 HON.out ?_; rw [HW4.out])
              | (refine wpList_load_mid rfl 24 _ rfl w3.heap.size 0 rfl ux _ HROW.out Tryz.underlying24 rfl h32x ?_)
              | (refine wpList_lookup_run rfl 114 _ _ false rfl _ _ rfl rfl _ HLK.out ?_)
              | (refine wpList_buildSlice_one rfl (.tmp 46) 28 24 rfl ux zi rfl Tryz.underlying28 HSZ.out hzi (by rw [HXL.out]; omega) (by rw [HXL.out]; omega) ?_)
              | (refine wpList_append_q rfl (.tmp 45) (.tmp 47) 28 rfl (r2 + 1) 24 i0 (.agg zi) 32 32 Tryz.underlying28 hi hz0 hz1 hz2 HZI.out (by decide) _ R.length (idsF R) rfl HQ5.out (some ⟨W4.heap.size, 0, none⟩) 1 1 ux rfl (by rw [HXL.out]) (fun _ => ⟨_, rfl, HNEW.out⟩) HON.out (by unfold maxLen; omega) (by omega) (by rw [World.size_alloc]; omega) ?_))
            intro v' w6 hq6 hg6 _
            have hoff : ∀ k, k ≤ r2 → (some k : Option Nat) ≠ u9.ownBlock := fun k hk e => by have := (HQ5.out.lt k e.symm).1; omega
            have hg7 : W4.grownBy w6 u9.ownBlock := below_grown' HB5.out hg6
            have HEND : Hid (Lp3 cm g L w b n r2 nn v' w6) := Lib.hid ⟨G2 ++ [x], Lr2.erase x, HRG4.out.grown hg7 (hoff b (by omega)) (hoff r2 (Nat.le_refl _)), HPE.out, by
              rw [HFI.out, List.length_append, List.length_singleton, HF1.out]; exact hq6, HC4.out.grown hg7 (hoff _ (by omega)), HB4.out.grown hg7 HB4.out.size (fun k hk => by have := (HQ5.out.lt k hk).1; omega)⟩
            have HLT6 : Hid (w6.rangeLeft b r2 < wp.rangeLeft b r2) := Lib.hid (by
              rw [rangeLeft_heap (hg7.block b HRG4.out.map.lt (hoff b (by omega))) (hg7.block r2 HRG4.out.lt (hoff r2 (Nat.le_refl _)))]
              exact HLT4.out)
            clear hoff hg7 hq6 hg6
            go_wp2
            go_roundw
            case rel => exact HEND.out
            case measure => exact HLT6.out
          · rw [if_neg h0, List.append_nil] at HFI
            have d0 : ((kids cm L x : Int) == 0) = false := by rw [beq_eq_false_iff_ne]; omega
            have HEND : Hid (∀ q, OwnQ W4 (r2 + 1) 32 q R.length (idsF R) → Lp3 cm g L w b n r2 nn q W4) := Lib.hid (fun q hq => ⟨G2 ++ [x], Lr2.erase x, HRG4.out, HPE.out, by rw [HFI.out]; exact hq, HC4.out, HB4.out⟩)
            have HLK := Lib.hid hlk
            clear hlk
            generalize kids cm L x = c0 at h0 d0 HLK
            clear h0
            go_wp2_with (first
              | (refine wpList_store_list rfl 24 _ _ rfl w3.heap.size 0 ux rfl rfl 32 HXL.out HTH.out h32 HON.out ?_; rw [HW4.out])
              | (refine wpList_load_mid rfl 24 _ rfl w3.heap.size 0 rfl ux _ HROW.out Tryz.underlying24 rfl h32x ?_)
              | (refine wpList_lookup_run rfl 114 _ _ false rfl _ _ rfl rfl _ HLK.out ?_))
            go_roundw
            case rel => exact HEND.out _ HQ4.out
            case measure => exact HLT4.out
    · intro x c w2 hxL hx hfx hrg2 hlt hg2 hs2 hen
      obtain ⟨cc, pv, hcm, rfl, hrow, _⟩ := HVAL.out x c hfx
      obtain ⟨ao, cap, rfl, hmax, hcells⟩ := hrow.open
      unfold vlV at hen ⊢
      have hcl : (cmC cc.tree (.slice ao cc.pars.length cap) cc.text).length = 34 := cmC_len _ _ _ (HLO.out.tree x cc hcm)
      have hco := cmC_one cc.tree ao cc.pars.length cap cc.text
      have hc32 : (cmC cc.tree (.slice ao cc.pars.length cap) cc.text)[32]? = some (.slice ao cc.pars.length cap) := by
        unfold cmC
        rw [List.getElem?_append_right (by rw [idC_len, HLO.out.tree x cc hcm]; exact Nat.le_refl _), idC_len, HLO.out.tree x cc hcm]; rfl
      obtain ⟨W3, hW3⟩ : ∃ W3, (w2.alloc (.cells zc 97)).setCells w2.heap.size 0 (cmC cc.tree (.slice ao cc.pars.length cap) cc.text) = W3 := ⟨_, rfl⟩
      have wr3 := wrote (by rw [hcl, HZC.out]) (by rw [HZC.out]; omega) hW3
      have c32 : W3.cell? ⟨w2.heap.size, 32, none⟩ = some (.slice ao cc.pars.length cap) := by have := wr3.row 32 _ hc32; rwa [Nat.zero_add] at this
      have HTH := Lib.hid (there_alloc w2 zc 97 HZC.out)
      have HRG3 := Lib.hid (hrg2.on wr3.bel)
      have HC2 := Lib.hid (HC.out.grown hg2 (fun e => by have := Option.some.inj e; omega))
      have HC3 := Lib.hid (HC2.out.on wr3.bel)
      have HB2 := Lib.hid (HB.out.grown hg2 HB.out.size (fun j hj => by cases hj; omega))
      have HB3 := Lib.hid (HB2.out.trans (wr3.bel.mono HB2.out.size))
      have HLT := Lib.hid (show W3.rangeLeft b (w.heap.size + 1) < wo.rangeLeft b (w.heap.size + 1) by rw [rangeLeft_heap (wr3.bel.block b hrg2.map.lt) (wr3.bel.block _ hrg2.lt)]; exact hlt)
      have h34 : (Tryz.prog.info? 97).map (·.size) = some 34 := by kernel_rfl
      have HCL := Lib.hid hcl
      have HCO := Lib.hid hco
      have HCE := Lib.hid hcells
      have HPA := Lib.hid (par_of hcm)
      have h4 : cc.pars.length ≤ 4 := by have := HLO.out.four x; rw [HPA.out] at this; exact this
      have HW3 := Lib.hid hW3
      have HXL := Lib.hid hxL
      clear hcl hco hc32 hW3 wr3 hrg hrg2 hlt hg2 hs2 hrow hcells hfx hxL hcm HC2
      generalize hct : cmC cc.tree (.slice ao cc.pars.length cap) cc.text = ct at hen HCL HCO HW3 ⊢
      clear hct
      go_wp2_with (refine wpList_store_list rfl 97 _ _ rfl w2.heap.size 0 ct rfl rfl 34 HCL.out HTH.out h34 HCO.out ?_; rw [HW3.out])
      go_loopw [24] (fun i wr => Lp2 cm g (Lr.erase x) w W3 b n G x cc.pars.length i wr) (fun i _ => (cc.pars.length - intOf i).toNat)
      case atStart => exact ⟨0, nn, rfl, by omega, HRG3.out, by rw [kidsI_0]; exact HC3.out, by omega, World.grownBy.refl _ _⟩
      case round =>
        obtain ⟨wi, rfl⟩ : ∃ wi : World, wi = wr := ⟨_, rfl⟩
        obtain ⟨k, ni, rfl, hk, hrgi, hci, hni, hgi⟩ := hrel
        have HRGI := Lib.hid hrgi
        have HCI := Lib.hid hci
        have HGI := Lib.hid hgi
        have HBI := Lib.hid (HB3.out.grown hgi HB3.out.size (fun j hj => by cases hj; exact Nat.le_refl _))
        clear hrgi hci hgi
        by_cases hlt : k < cc.pars.length
        · obtain ⟨br, off, rfl, hbl, hcell⟩ := HCE.out (by intro e; rw [e] at hlt; simp at hlt)
          have f1 := rangeAt_below (hcell k hlt) HBI.out hbl
          have hkp : k < (par cm x).length := by rw [HPA.out]; exact hlt
          have hyl : cc.pars[k].length = 32 := HLO.out.l32 _ (HLO.out.pars x (HP.out.mem_iff.1 (List.mem_append_right _ HXL.out)) _ (by rw [HPA.out]; exact List.getElem_mem hlt))
          have hpe : (par cm x)[k] = cc.pars[k] := by simp only [HPA.out]
          have HNX := Lib.hid (kidsI_next G x hkp (HLO.out.nod x))
          rw [hpe] at HNX
          have hyc : (idC cc.pars[k]).length = 32 := by rw [idC_len, hyl]
          have h32y := h32_of hyc
          obtain ⟨W5, hW5⟩ : ∃ W5, (wi.alloc (.cells zi 24)).setCells wi.heap.size 0 (idC cc.pars[k]) = W5 := ⟨_, rfl⟩
          have wr5 := wrote (by rw [hyc, HZI.out]) (by rw [HZI.out]; omega) hW5
          have hc5 : CntM W5.drew w.heap.size ni (kidsI cm G x k) := (HCI.out.on wr5.bel).on (Below.refl _ _).drew
          have hni : ni < maxLen := by unfold maxLen; omega
          obtain ⟨v0, st, w6, he1, he2, he3, he4⟩ := hc5.entry Tryz.underlying114 hni hyl
          have hlk := hc5.look Tryz.underlying114 hyl W5.drew (Below.refl _ _)
          have hle := kidsI_le (cm := cm) G x k cc.pars[k]
          obtain ⟨c, hcv⟩ : ∃ c, kidsI cm G x k cc.pars[k] = c := ⟨_, rfl⟩
          obtain ⟨w7, hs1, hs2, hs3⟩ := he4 w6 (c + 1) rfl
          rw [hcv] at hlk he3 hle HNX
          rw [show ((c + 1 : Nat) : Int) = (c : Int) + 1 from by omega] at hs1
          have hwr : IntKind.i64.wrap ((c : Int) + 1) = (c : Int) + 1 := IntWalk.i64_in _ (by omega)
          have HTH5 := Lib.hid (there_alloc wi zi 24 HZI.out)
          have h32 : (Tryz.prog.info? 24).map (·.size) = some 32 := by kernel_rfl
          have hcbw : w.heap.size < wi.heap.size := HCI.out.lt
          have HS0 : Hid (W5.drew.rangeAt wi.heap.size 0 (idC cc.pars[k]) ∧ (Instr.lookup 114 (.map (some w.heap.size)) (.agg (idC cc.pars[k]).toArray) false).run Tryz.prog W5.drew = .ok (.int .i64 (c : Int)) W5.drew) := Lib.hid ⟨wr5.row, hlk⟩
          have HS6 : Hid (w6.rangeAt wi.heap.size 0 (idC cc.pars[k]) ∧ (Instr.lookup 114 (.map (some w.heap.size)) (.agg (idC cc.pars[k]).toArray) false).run Tryz.prog w6 = .ok (.int .i64 (c : Int)) w6) := Lib.hid ⟨range_grown (w := W5.drew) wr5.row he2 (fun e => by have := Option.some.inj e; omega), he3 w6 rfl⟩
          have hgb : wi.grownBy w7 (some w.heap.size) := grownBy_trans' (grownBy_trans' (grown_none (below_grownBy (wr5.bel.drew)) _) he2) hs2
          have hrw : b ≠ w.heap.size ∧ w.heap.size + 1 ≠ w.heap.size := ⟨by omega, by omega⟩
          have HRG7 := Lib.hid (HRGI.out.grown hgb (fun e => hrw.1 (Option.some.inj e)) (fun e => hrw.2 (Option.some.inj e)))
          have HC7 := Lib.hid (hs3.ext (fun q _ => (HNX.out q).symm))
          have HG7 := Lib.hid (grownBy_trans' HGI.out hgb)
          have HE1 := Lib.hid he1
          have HE5 := Lib.hid hs1
          have HYC := Lib.hid hyc
          have HYO := Lib.hid (idC_one cc.pars[k])
          have HW5 := Lib.hid hW5
          have F1 := Lib.hid f1
          have k0 : (0 : Int) ≤ k := by omega
          have k1 : (k : Int) < cc.pars.length := by omega
          have d1 : decide ((k : Int) < cc.pars.length) = true := decide_eq_true k1
          clear hcell hkp hyl hpe hyc hW5 wr5 hc5 hni he1 he2 he3 he4 hlk hle hs1 hs2 hs3 hgb hrw f1 hcv HNX
          generalize hux : idC cc.pars[k] = uy at h32y HS0 HS6 HE1 HYC HYO HW5 F1
          clear hux
          go_wp2_with (first
            | (refine wpList_load_mid rfl 24 _ rfl br (off + k * 32) rfl uy _ F1.out Tryz.underlying24 rfl h32y ?_)
            | (refine wpList_store_list rfl 24 _ _ rfl wi.heap.size 0 uy rfl rfl 32 HYC.out HTH5.out h32 HYO.out ?_; rw [HW5.out]))
          have hS0 := HS0.out
          refine wp_region_L 6 (fun w' => w'.rangeAt wi.heap.size 0 uy ∧ (Instr.lookup 114 (.map (some w.heap.size)) (.agg uy.toArray) false).run Tryz.prog w' = .ok (.int .i64 (c : Int)) w') (by kernel_rfl) (by kernel_rfl) ?_
          refine WL.take (i := 0) (v := ?_) rfl (by kernel_rfl) (by decide) (by decide +kernel) (by decide +kernel) (fun _ _ _ h => h) rfl ?_ hS0 ?_
          rotate_left
          · (intro w' hSw; (try dsimp only at hSw); go_simp; (try with_reducible rfl))
          simp only [Act.put]; (try simp only [List.getElem_toArray]); (try simp only [List.getElem_cons_succ]); (try simp only [List.getElem_cons_zero]); (try simp only [List.setIfInBounds_toArray]); (try simp only [List.set_cons_succ]); (try simp only [List.set_cons_zero])
          refine WL.take (i := 1) (v := _) rfl (by kernel_rfl) (by decide) (by decide +kernel) (by decide +kernel) (fun _ _ _ h => h) rfl (fun w' hSw => exec_row 24 _ (hSw.1) Tryz.underlying24 rfl h32y _ rfl rfl) hS0 ?_
          simp only [Act.put]; (try simp only [List.getElem_toArray]); (try simp only [List.getElem_cons_succ]); (try simp only [List.getElem_cons_zero]); (try simp only [List.setIfInBounds_toArray]); (try simp only [List.set_cons_succ]); (try simp only [List.set_cons_zero])
          refine WL.take (i := 2) (v := .int .i64 (c : Int)) rfl (by kernel_rfl) (by decide) (by decide +kernel) (by decide +kernel) (fun _ _ _ h => h) rfl (fun w' hSw => exec_lookupF 114 _ _ _ _ rfl rfl rfl hSw.2) hS0 ?_
          simp only [Act.put]; (try simp only [List.getElem_toArray]); (try simp only [List.getElem_cons_succ]); (try simp only [List.getElem_cons_zero]); (try simp only [List.setIfInBounds_toArray]); (try simp only [List.set_cons_succ]); (try simp only [List.set_cons_zero])
          refine WL.take (i := 3) (v := ?_) rfl (by kernel_rfl) (by decide) (by decide +kernel) (by decide +kernel) (fun _ _ _ h => h) rfl ?_ hS0 ?_
          rotate_left
          · (intro w' hSw; (try dsimp only at hSw); go_simp; (try with_reducible rfl))
          simp only [Act.put]; (try simp only [List.getElem_toArray]); (try simp only [List.getElem_cons_succ]); (try simp only [List.getElem_cons_zero]); (try simp only [List.setIfInBounds_toArray]); (try simp only [List.set_cons_succ]); (try simp only [List.set_cons_zero])
          refine WL.one (i := 4) rfl (by decide) (by decide +kernel) ?_
          refine wpList_entry_run rfl 114 (.tmp 28) (.tmp 29) rfl _ _ rfl rfl _ HE1.out ?_
          simp only [Act.put]; (try simp only [List.getElem_toArray]); (try simp only [List.getElem_cons_succ]); (try simp only [List.getElem_cons_zero]); (try simp only [List.setIfInBounds_toArray]); (try simp only [List.set_cons_succ]); (try simp only [List.set_cons_zero])
          have hS6 := HS6.out
          refine ⟨hS6, ?_⟩
          refine WL.take (i := 5) (v := ?_) rfl (by kernel_rfl) (by decide) (by decide +kernel) (by decide +kernel) (fun _ _ _ h => h) rfl ?_ hS6 ?_
          rotate_left
          · (intro w' hSw; (try dsimp only at hSw); go_simp; (try with_reducible rfl))
          simp only [Act.put]; (try simp only [List.getElem_toArray]); (try simp only [List.getElem_cons_succ]); (try simp only [List.getElem_cons_zero]); (try simp only [List.setIfInBounds_toArray]); (try simp only [List.set_cons_succ]); (try simp only [List.set_cons_zero])
          refine WL.last (n := 6) rfl rfl (by decide +kernel) (by decide +kernel) ?_
          refine wpList_estore_run rfl 114 (.tmp 28) (.tmp 33) (.tmp 31) rfl _ _ _ rfl rfl rfl HE5.out ?_
          clear hS0 hS6
          go_wp2
          go_roundw
          case rel => exact ⟨k + 1, ni + 1, by go_num, by omega, HRG7.out, HC7.out, by omega, HG7.out⟩
          case measure => simp [intOf]; omega
        · have hke : k = cc.pars.length := by omega
          have d1 : decide ((k : Int) < cc.pars.length) = false := decide_eq_false (by omega)
          have HEND : Hid (Lp1 cm g L w b n wi) := Lib.hid ⟨G ++ [x], Lr.erase x, ni, HRGI.out, by
            rw [List.append_assoc]
            exact ((List.perm_cons_erase HXL.out).symm.append_left G).trans HP.out, by
            have := HCI.out
            rw [kidsI_end G x (by rw [HPA.out]; omega)] at this
            exact this, by rw [List.length_append, List.length_singleton]; omega, HBI.out⟩
          have HLT2 : Hid (wi.rangeLeft b (w.heap.size + 1) < wo.rangeLeft b (w.heap.size + 1)) := Lib.hid (by
            have h1 := HGI.out
            have h2 := HRG3.out.map.lt
            rw [rangeLeft_heap (h1.block b HRG3.out.map.lt (fun e => by have := Option.some.inj e; omega)) (h1.block _ HRG3.out.lt (fun e => by have := Option.some.inj e; omega))]
            exact HLT.out)
          clear hke
          go_wp2
          go_roundw
          case rel => exact HEND.out
          case measure => exact HLT2.out
end Go.Proofs.YtbmiiiccnoiffaaGreatDoor
namespace Go.Proofs.YtbmiiiccnoiffaaGreatDoor
open Go.RowKit Go.Maps
theorem logOn_of {cm : Idl → Option Cmt} {U : List Idl} (hU : CmOk cm U) (ha : Acyc cm) {x : Idl} {S : List Idl} (h : lineL cm x = some S) : LogOn cm S := by
  obtain ⟨k1, k2, k3⟩ := lineL_32 hU h
  obtain ⟨h1, h2⟩ := lineL_some h
  exact ⟨h2, k2, k1, h1.closed, hU.parNodup, fun y => by
    cases e : cm y with
    | none => unfold par; rw [e]; simp
    | some c => rw [par_of e]; exact hU.four y c e, ha, hU.tree⟩
/-- The first n of a list. -/
def firstN (n : Int) (l : List Idl) : List Idl := l.take (min n l.length).toNat
def LgnAns (cm : Idl → Option Cmt) (x : Idl) (n : Int) (w : World) (e : Ending) (w' : World) : Prop :=
  Below w.heap.size w w' ∧ ((∃ S v, lineL cm x = some S ∧ e = .returned (.tuple #[v, .int .i64 0]) ∧ IdRow w' v (firstN n (logOf cm S))) ∨ (lineL cm x = none ∧ e = .returned (.tuple #[.slice none 0 0, .int .i64 13])))
theorem lgnAns_yes {cm : Idl → Option Cmt} {x : Idl} {n : Int} {w w' : World} {S : List Idl} {v : Value} (h : lineL cm x = some S) (hr : IdRow w' v (firstN n (logOf cm S))) (hb : Below w.heap.size w w') : LgnAns cm x n w (.returned (.tuple #[v, .int .i64 0])) w' := ⟨hb, .inl ⟨S, v, h, rfl, hr⟩⟩
theorem lgnAns_no {cm : Idl → Option Cmt} {x : Idl} {n : Int} {w w' : World} (h : lineL cm x = none) (hb : Below w.heap.size w w') : LgnAns cm x n w (.returned (.tuple #[.slice none 0 0, .int .i64 13])) w' := ⟨hb, .inr ⟨h, rfl⟩⟩
theorem IdRow.take {w : World} {ao : Option Addr} {cap : Nat} {l : List Idl} (h : IdRow w (.slice ao l.length cap) l) (k : Nat) (hk : k ≤ l.length) : IdRow w (.slice ao k cap) (l.take k) := by
  obtain ⟨ao', cap', e, hm, h2⟩ := h.open
  injection e with e1 e2 e3
  subst e1; subst e3
  refine ⟨ao, cap, by rw [List.length_map, List.length_take, Nat.min_eq_left hk], by rw [List.length_map, List.length_take]; omega, fun hne => ?_⟩
  have hl : l ≠ [] := fun e => hne (by rw [e]; simp)
  obtain ⟨b, off, rfl, hb, hc⟩ := h2 hl
  refine ⟨b, off, rfl, hb, fun i hi => ?_⟩
  rw [List.length_map, List.length_take] at hi
  have := hc i (by omega)
  rw [List.getElem_map, List.getElem_take]
  exact this
set_option maxRecDepth 100000 in
set_option maxHeartbeats 1000000 in
theorem hlogn_any (v : Value) (f : Idl → Option Ob) (hf : ∀ x o, f x = some o → rightOb o = true) (U : List Idl) (hU : CmOk (cmG f) U) (ha : Acyc (cmG f)) (x : Idl) (n : Int) (w : World) (hs : SrcP w v f) (hx : x.length = 32) :
    Calls Tryz.prog 22 #[v, .agg (idC x).toArray, .int .i64 n] w (LgnAns (cmG f) x n w) := by
  have hxl : (idC x).length = 32 := by rw [idC_len, hx]
  have h32x := h32_of hxl
  have hb0 : Below w.heap.size w (w.alloc (.cells (idC x).toArray 24)) := (Below.refl _ _).alloc (Nat.le_refl _) _
  have HO := Lib.hid (hof_any v f hf U hU x (w.alloc (.cells (idC x).toArray 24)) (hs.below hb0) hx)
  have HR0 := Lib.hid (range_new w (idC x) 24 rfl)
  have HB0 := Lib.hid hb0
  have HU := Lib.hid hU
  have HA := Lib.hid ha
  clear hs hx hf hU hxl hb0 ha
  generalize idC x = ux at h32x HO HR0 HB0
  go_enter Tryz.func22, Tryz.ntmps22
  go_wp2_with (refine wpList_load_mid rfl 24 _ rfl w.heap.size 0 rfl ux _ HR0.out Tryz.underlying24 rfl h32x ?_)
  refine HO.out.mono ?_
  intro e w1 h
  obtain ⟨hb1, ⟨S, b, k, hl, rfl, hn, hb, hm⟩ | ⟨hl, rfl⟩⟩ := h
  · have hon := logOn_of HU.out HA.out hl
    have HLG := Lib.hid (hlog_any S hon b k w1 hm)
    have HB1 := Lib.hid (HB0.out.trans (hb1.mono HB0.out.size))
    have HL := Lib.hid hl
    have HLEN := Lib.hid (logOf_len (cm := cmG f) HA.out hon.asc.nodup)
    have HON := Lib.hid hon
    clear hb1 hm hl hon HO HR0
    go_wp2_with fail
    refine HLG.out.mono ?_
    rintro e w2 ⟨u, rfl, hq, hb2⟩
    have hq2 : OwnQ w2 w1.heap.size 32 u (logOf (cmG f) S).length (idsF (logOf (cmG f) S)) := by rw [HLEN.out]; exact hq
    have h32 : ∀ y ∈ logOf (cmG f) S, y.length = 32 := fun y hy => HON.out.l32 y ((logOf_mem HA.out HON.out.asc.nodup y).1 hy)
    have HROW := Lib.hid (hq2.row h32)
    have HB2 := Lib.hid (HB1.out.trans (hb2.mono HB1.out.size))
    have hl1 : (logOf (cmG f) S).length ≤ 1000 := by rw [HLEN.out]; exact HON.out.len
    obtain ⟨ao, cap, rfl, hcap⟩ : ∃ ao cap, u = .slice ao (logOf (cmG f) S).length cap ∧ (logOf (cmG f) S).length ≤ cap := by
      rcases hq2.2 with ⟨rfl, h0⟩ | ⟨g, off, cap, rfl, _, _, hn, _⟩
      · exact ⟨none, 0, by rw [h0], by omega⟩
      · exact ⟨_, _, rfl, hn⟩
    have HF : Hid (firstN n (logOf (cmG f) S) = (logOf (cmG f) S).take (min n (logOf (cmG f) S).length).toNat) := Lib.hid rfl
    generalize hlo : logOf (cmG f) S = l at HROW hl1 hcap HF ⊢
    have HLO := Lib.hid hlo
    clear hlo
    clear hq hq2 hb2 h32 HLEN HON HLG
    go_wp2_with fail
    go_ret2
    refine lgnAns_yes HL.out ?_ HB2.out
    show IdRow w2 (.slice ao (max 0 (min n (l.length : Int))).toNat cap) _
    rw [HLO.out, HF.out, show (max 0 (min n (l.length : Int))).toNat = (min n (l.length : Int)).toNat from by omega]
    exact HROW.out.take _ (by omega)
  · have HB1 := Lib.hid (HB0.out.trans (hb1.mono HB0.out.size))
    have HL := Lib.hid hl
    clear hb1 hl HO HR0
    go_wp2
    go_ret2
    exact lgnAns_no HL.out HB1.out
def OldAns (cm : Idl → Option Cmt) (a b : Idl) (w : World) (e : Ending) (w' : World) : Prop :=
  Below w.heap.size w w' ∧ ((∃ A B, lineL cm a = some A ∧ lineL cm b = some B ∧ e = .returned (.tuple #[.bool (decide (a ∈ B) && decide (a ≠ b)), .int .i64 0])) ∨ ((lineL cm a = none ∨ lineL cm b = none) ∧ e = .returned (.tuple #[.bool false, .int .i64 13])))
theorem oldAns_yes {cm : Idl → Option Cmt} {a b : Idl} {w w' : World} {A B : List Idl} {r : Bool} (ha : lineL cm a = some A) (hb : lineL cm b = some B) (hr : r = (decide (a ∈ B) && decide (a ≠ b))) (h : Below w.heap.size w w') : OldAns cm a b w (.returned (.tuple #[.bool r, .int .i64 0])) w' := ⟨h, .inl ⟨A, B, ha, hb, by rw [hr]⟩⟩
theorem oldAns_no {cm : Idl → Option Cmt} {a b : Idl} {w w' : World} (h : lineL cm a = none ∨ lineL cm b = none) (hb : Below w.heap.size w w') : OldAns cm a b w (.returned (.tuple #[.bool false, .int .i64 13])) w' := ⟨hb, .inr ⟨h, rfl⟩⟩
set_option maxRecDepth 100000 in
set_option maxHeartbeats 2000000 in
theorem holder_any (v : Value) (f : Idl → Option Ob) (hf : ∀ x o, f x = some o → rightOb o = true) (U : List Idl) (hU : CmOk (cmG f) U) (x y : Idl) (w : World) (hs : SrcP w v f) (hx : x.length = 32) (hy : y.length = 32) :
    Calls Tryz.prog 29 #[v, .agg (idC x).toArray, .agg (idC y).toArray] w (OldAns (cmG f) x y w) := by
  have h32x := h32_of (us := idC x) (by rw [idC_len, hx])
  have h32y := h32_of (us := idC y) (by rw [idC_len, hy])
  obtain ⟨W, hW⟩ : ∃ W, (w.alloc (.cells (idC x).toArray 24)).alloc (.cells (idC y).toArray 24) = W := ⟨_, rfl⟩
  have hbW : Below w.heap.size w W := by rw [← hW]; exact ((Below.refl _ _).alloc (Nat.le_refl _) _).alloc (by simp) _
  have hrx : W.rangeAt w.heap.size 0 (idC x) := by
    rw [← hW]; exact rangeAt_below (range_new w (idC x) 24 rfl) ((Below.refl _ _).alloc (Nat.le_refl _) _) (by simp)
  have hry : W.rangeAt (w.heap.size + 1) 0 (idC y) := by rw [← hW]; exact range_new _ _ _ (by simp)
  have hsW : W.heap.size = w.heap.size + 1 + 1 := by rw [← hW]; simp
  have HOX := Lib.hid (hof_any v f hf U hU x W (hs.below hbW) hx)
  have HOY := Lib.hid (fun w1 (h : Below W.heap.size W w1) => hof_any v f hf U hU y w1 ((hs.below hbW).below h) hy)
  have heq := id_eqIn x y hx hy
  have HXX := Lib.hid hx
  have HUT := Lib.hid hU.tree
  obtain ⟨zc, hzc, _, hzce⟩ := cm_zero
  have HZC := Lib.hid (show zc.size = 34 by rw [hzce]; exact cmC_len _ _ _ zid_len)
  have HBW := Lib.hid hbW
  have HRX := Lib.hid hrx
  have HRY := Lib.hid hry
  have HSW := Lib.hid hsW
  have HW := Lib.hid hW
  have hXY : (x == y) = decide (x = y) := by by_cases h : x = y <;> simp [h]
  have HXY := Lib.hid hXY
  have HLKX := Lib.hid (fun (w1 : World) (b n : Nat) (S : List Idl) (q : Option Nat) (hm : LineM (cmG f) w1 b n S q) => hm.look (t := 110) Tryz.underlying110 hx (fun c hc => HUT.out x c hc))
  have h34 : (Tryz.prog.info? 97).map (·.size) = some 34 := by kernel_rfl
  clear hs hx hy hf hU hbW hrx hry hsW hW hzce hXY
  generalize idC x = ux at h32x HOX HRX HW heq HLKX
  generalize idC y = uy at h32y HOY HRY HW heq
  generalize (x == y) = exy at heq HXY
  go_enter Tryz.func29, Tryz.ntmps29
  go_wp2_with (rw [HW.out]; refine wpList_load_mid rfl 24 _ rfl w.heap.size 0 rfl ux _ HRX.out Tryz.underlying24 rfl h32x ?_)
  refine HOX.out.mono ?_
  intro e w1 h
  clear HOX HW
  obtain ⟨hb1, ⟨A, ba, na, hla, rfl, hna, hba, hma⟩ | ⟨hla, rfl⟩⟩ := h
  · have HLA := Lib.hid hla
    have HRX1 := Lib.hid (rangeAt_below HRX.out hb1 (by rw [HSW.out]; omega))
    have HRY1 := Lib.hid (rangeAt_below HRY.out hb1 (by rw [HSW.out]; omega))
    have HB1 := Lib.hid (HBW.out.trans (hb1.mono HBW.out.size))
    have HO2 := Lib.hid (HOY.out w1 hb1)
    have hs1 : w.heap.size + 1 + 1 ≤ w1.heap.size := by rw [← HSW.out]; exact hb1.size
    clear hb1 hla hma HOY HRX HRY
    go_wp2_with (refine wpList_load_mid rfl 24 _ rfl (w.heap.size + 1) 0 rfl uy _ HRY1.out Tryz.underlying24 rfl h32y ?_)
    refine HO2.out.mono ?_
    intro e w2 h
    obtain ⟨hb2, ⟨B, bb, nb, hlb, rfl, hnb, hbb, hmb⟩ | ⟨hlb, rfl⟩⟩ := h
    · have HLB := Lib.hid hlb
      have HRX2 := Lib.hid (rangeAt_below HRX1.out hb2 (by omega))
      have HRY2 := Lib.hid (rangeAt_below HRY1.out hb2 (by omega))
      have HB2 := Lib.hid (HB1.out.trans (hb2.mono HB1.out.size))
      obtain ⟨cs, hcs1, hcs2, hcs3, _, _⟩ := HLKX.out w2 bb nb B none hmb
      have HLK := Lib.hid (hcs3 w2 (Below.refl _ _))
      obtain ⟨W3, hW3⟩ : ∃ W3, (w2.alloc (.cells zc 97)).setCells w2.heap.size 0 cs = W3 := ⟨_, rfl⟩
      have wr3 := wrote (by rw [hcs1, HZC.out]) (by rw [HZC.out]; omega) hW3
      have HB3 := Lib.hid (HB2.out.trans (wr3.bel.mono HB2.out.size))
      have hs2 : w.heap.size + 1 + 1 ≤ w2.heap.size := by have := hb2.size; omega
      have HRX3 := Lib.hid (rangeAt_below HRX2.out wr3.bel (by omega))
      have HRY3 := Lib.hid (rangeAt_below HRY2.out wr3.bel (by omega))
      have HTH := Lib.hid (there_alloc w2 zc 97 HZC.out)
      have HCS1 := Lib.hid hcs1
      have HCS2 := Lib.hid hcs2
      have HW3 := Lib.hid hW3
      clear hb2 hlb hmb hcs1 hcs2 hcs3 hW3 wr3 HRX1 HRY1 HRY2 HLKX HO2
      cases hd : decide (x ∈ B) with
      | false =>
        rw [hd] at HLK
        have HR : Hid (false = (decide (x ∈ B) && decide (x ≠ y))) := Lib.hid (by rw [hd]; rfl)
        clear hd
        go_wp2_with (first
          | (refine wpList_load_mid rfl 24 _ rfl w.heap.size 0 rfl ux _ HRX2.out Tryz.underlying24 rfl h32x ?_)
          | (refine wpList_lookup_run rfl 110 _ _ true rfl _ _ rfl rfl _ HLK.out ?_)
          | (refine wpList_store_list rfl 97 _ _ rfl w2.heap.size 0 cs rfl rfl 34 HCS1.out HTH.out h34 HCS2.out ?_; rw [HW3.out]))
        go_ret2
        exact oldAns_yes HLA.out HLB.out HR.out HB3.out
      | true =>
        rw [hd] at HLK
        have HR : Hid ((!exy) = (decide (x ∈ B) && decide (x ≠ y))) := Lib.hid (by rw [hd, HXY.out]; by_cases h : x = y <;> simp [h])
        clear hd
        cases exy with
        | false =>
          go_wp2_with (first
            | (refine wpList_load_mid rfl 24 _ rfl w.heap.size 0 rfl ux _ HRX2.out Tryz.underlying24 rfl h32x ?_)
            | (refine wpList_lookup_run rfl 110 _ _ true rfl _ _ rfl rfl _ HLK.out ?_)
            | (refine wpList_store_list rfl 97 _ _ rfl w2.heap.size 0 cs rfl rfl 34 HCS1.out HTH.out h34 HCS2.out ?_; rw [HW3.out])
            | (refine wpList_load_mid_g rfl 24 _ rfl w.heap.size 0 rfl ux _ HRX3.out Tryz.underlying24 rfl h32x ?_)
            | (refine wpList_load_mid_g rfl 24 _ rfl (w.heap.size + 1) 0 rfl uy _ HRY3.out Tryz.underlying24 rfl h32y ?_))
          go_ret2
          exact oldAns_yes HLA.out HLB.out HR.out HB3.out
        | true =>
          go_wp2_with (first
            | (refine wpList_load_mid rfl 24 _ rfl w.heap.size 0 rfl ux _ HRX2.out Tryz.underlying24 rfl h32x ?_)
            | (refine wpList_lookup_run rfl 110 _ _ true rfl _ _ rfl rfl _ HLK.out ?_)
            | (refine wpList_store_list rfl 97 _ _ rfl w2.heap.size 0 cs rfl rfl 34 HCS1.out HTH.out h34 HCS2.out ?_; rw [HW3.out])
            | (refine wpList_load_mid_g rfl 24 _ rfl w.heap.size 0 rfl ux _ HRX3.out Tryz.underlying24 rfl h32x ?_)
            | (refine wpList_load_mid_g rfl 24 _ rfl (w.heap.size + 1) 0 rfl uy _ HRY3.out Tryz.underlying24 rfl h32y ?_))
          go_ret2
          exact oldAns_yes HLA.out HLB.out HR.out HB3.out
    · have HB2 := Lib.hid (HB1.out.trans (hb2.mono HB1.out.size))
      have HL := Lib.hid hlb
      clear hb2 hlb HO2
      go_wp2
      go_ret2
      exact oldAns_no (.inr HL.out) HB2.out
  · have HB1 := Lib.hid (HBW.out.trans (hb1.mono HBW.out.size))
    have HL := Lib.hid hla
    clear hb1 hla HOY
    go_wp2
    go_ret2
    exact oldAns_no (.inl HL.out) HB1.out
end Go.Proofs.YtbmiiiccnoiffaaGreatDoor
