/- YtbmiiiccnoiffaaGreatDoorO40: texts KR of this claim, in one. -/
import Derived.Test.YtbmiiiccnoiffaaGreatDoorO31
import Derived.Test.YtbmiiiccnoiffaaGreatDoorO35
import Derived.Test.YtbmiiiccnoiffaaGreatDoorO39
namespace Go.Proofs.YtbmiiiccnoiffaaGreatDoor
open Go.RowKit Go.Maps Go.Sort Go.Shelf
set_option maxRecDepth 100000

def RisAns (S : List Idl) (w : World) (e : Ending) (w' : World) : Prop := ∃ v m, e = .returned v ∧ IdRow w' v m ∧ AscL m ∧ (∀ x, x ∈ m ↔ x ∈ S) ∧ Below w.heap.size w w'
set_option maxHeartbeats 1000000 in
theorem sfuncI (b n : Nat) (g : Idl → Option Value) (S : List Idl) (w : World) (hm : MapG vlV w b n g) (hnd : S.Nodup) (h32 : ∀ x ∈ S, x.length = 32) (hdom : ∀ x, x.length = 32 → ((g x).isSome = true ↔ x ∈ S)) (hlen : S.length ≤ 1000) :
    Calls Tryz.prog 110 #[.func (.func 151) #[] #[.pointer (some ⟨w.heap.size, 0, none⟩)], .func (.func 112) #[] #[]] (w.alloc (.cells #[.map (some b)] 110)) (RisAns S w) := by
  have hb0 : Below w.heap.size w (w.alloc (.cells #[.map (some b)] 110)) := (Below.refl _ w).alloc (Nat.le_refl _) _
  have hseq := ikeys_gives (enc := vlV) 3 (by omega) w.heap.size b n g S (w.alloc (.cells #[.map (some b)] 110)) (by simp) (by simp) (hm.on hb0) hnd h32 hdom
  have hc := callsIn_wide.1 (collectI 5 (by omega) 151 #[.pointer (some ⟨w.heap.size, 0, none⟩)] (enters_of Tryz.func151 (by kernel_rfl) rfl) _ S.length (by omega) _ hseq)
  have HC := Lib.hid hc
  have HB0 := Lib.hid hb0
  have HND := Lib.hid hnd
  have H32 := Lib.hid h32
  obtain ⟨W, hW⟩ : ∃ W, w.alloc (.cells #[.map (some b)] 110) = W := ⟨_, rfl⟩
  rw [hW] at HC HB0 ⊢
  clear hW hc hseq hb0 hnd h32 hdom hm
  go_enter Tryz.func110, Tryz.ntmps110
  go_wp2_with fail
  refine HC.out.mono ?_
  rintro e w1 ⟨v, ss, rfl, hp, hrow, hb⟩
  have HB1 := Lib.hid (HB0.out.trans (hb.mono HB0.out.size))
  have hq : OwnQ w1 W.heap.size 32 v (rawI ss).length (idsF (rawI ss)) := by rw [rawI_len]; exact OwnQ.of_own hrow
  have hle : (rawI ss).length ≤ 1000000 := by rw [hp.length_eq]; omega
  have HS := Lib.hid (isort_any W.heap.size v (rawI ss) w1 hq (rawI_32 ss) (hp.nodup_iff.2 HND.out) hle)
  have HP := Lib.hid hp
  have HLT := Lib.hid (fun k (hk : v.ownBlock = some k) => (hrow.lt k hk).1)
  clear hp hrow hb hq hle HC
  go_wp2_with fail
  refine HS.out.mono ?_
  rintro e w2 ⟨rfl, m, hpm, hasc, hq2, hg2⟩
  have HB2 := Lib.hid (HB1.out.grown hg2 HB1.out.size (fun k hk => by have := HLT.out k hk; have := HB0.out.size; omega))
  have hml := hpm.length_eq
  rw [← hml] at hq2
  have HR := Lib.hid (hq2.row (fun x hx => H32.out x (HP.out.mem_iff.1 (hpm.mem_iff.1 hx))))
  have HA := Lib.hid hasc
  have HM : Hid (∀ x, x ∈ m ↔ x ∈ S) := Lib.hid (fun x => hpm.mem_iff.trans HP.out.mem_iff)
  clear hml hq2 hpm hasc hg2 HS HP
  go_wp2
  go_ret
  exact ⟨_, m, rfl, HR.out, HA.out, HM.out, HB2.out⟩
theorem hrising_any {cm : Idl → Option Cmt} (b n : Nat) (S : List Idl) (q : Option Nat) (w : World) (hl : LineM cm w b n S q) (hnd : S.Nodup) (h32 : ∀ x ∈ S, x.length = 32) (hlen : S.length ≤ 1000) :
    Calls Tryz.prog 62 #[.map (some b)] w (RisAns S w) := by
  obtain ⟨g, hm, hdom, _⟩ := hl
  have HS := Lib.hid (sfuncI b n g S w hm hnd h32 hdom hlen)
  have HK := Lib.hid (ikeys_any (some b) w)
  clear hm hdom hnd h32
  go_enter Tryz.func62, Tryz.ntmps62
  go_wp2_with fail
  refine HK.out.mono ?_
  rintro e w1 ⟨rfl, rfl⟩
  go_wp2_with fail
  refine HS.out.mono ?_
  rintro e w2 ⟨v, m, rfl, hr, ha, hm, hb⟩
  have HR := Lib.hid hr
  have HA := Lib.hid ha
  have HM := Lib.hid hm
  have HB := Lib.hid hb
  clear hr ha hm hb
  go_wp2
  go_ret
  exact ⟨_, m, rfl, HR.out, HA.out, HM.out, HB.out⟩
def LinAns (cm : Idl → Option Cmt) (x : Idl) (w : World) (e : Ending) (w' : World) : Prop :=
  Below w.heap.size w w' ∧ ((∃ S v, lineL cm x = some S ∧ e = .returned (.tuple #[v, .int .i64 0]) ∧ IdRow w' v S) ∨ (lineL cm x = none ∧ e = .returned (.tuple #[.slice none 0 0, .int .i64 13])))
theorem linAns_yes {cm : Idl → Option Cmt} {x : Idl} {w w' : World} {S : List Idl} {v : Value} (h : lineL cm x = some S) (hr : IdRow w' v S) (hb : Below w.heap.size w w') : LinAns cm x w (.returned (.tuple #[v, .int .i64 0])) w' := ⟨hb, .inl ⟨S, v, h, rfl, hr⟩⟩
theorem linAns_no {cm : Idl → Option Cmt} {x : Idl} {w w' : World} (h : lineL cm x = none) (hb : Below w.heap.size w w') : LinAns cm x w (.returned (.tuple #[.slice none 0 0, .int .i64 13])) w' := ⟨hb, .inr ⟨h, rfl⟩⟩
theorem lineL_32 {cm : Idl → Option Cmt} {U : List Idl} (hU : CmOk cm U) {x : Idl} {S : List Idl} (h : lineL cm x = some S) : (∀ y ∈ S, y.length = 32) ∧ S.length ≤ 1000 ∧ S.Nodup := by
  obtain ⟨h1, h2⟩ := lineL_some h
  exact ⟨fun y hy => by
    have := h1.there y hy
    cases e : cm y with
    | none => rw [e] at this; cases this
    | some c => exact hU.len y c e, Nat.le_trans (h1.few hU) hU.few, h2.nodup⟩
set_option maxHeartbeats 1000000 in
theorem hline_any (v : Value) (f : Idl → Option Ob) (hf : ∀ x o, f x = some o → rightOb o = true) (U : List Idl) (hU : CmOk (cmG f) U) (x : Idl) (w : World) (hs : SrcP w v f) (hx : x.length = 32) :
    Calls Tryz.prog 21 #[v, .agg (idC x).toArray] w (LinAns (cmG f) x w) := by
  have hxl : (idC x).length = 32 := by rw [idC_len, hx]
  have h32x := h32_of hxl
  have hb0 : Below w.heap.size w (w.alloc (.cells (idC x).toArray 24)) := (Below.refl _ _).alloc (Nat.le_refl _) _
  have HO := Lib.hid (hof_any v f hf U hU x (w.alloc (.cells (idC x).toArray 24)) (hs.below hb0) hx)
  have HR0 := Lib.hid (range_new w (idC x) 24 rfl)
  have HB0 := Lib.hid hb0
  have HU := Lib.hid hU
  clear hs hx hf hU hxl hb0
  generalize idC x = ux at h32x HO HR0 HB0
  go_enter Tryz.func21, Tryz.ntmps21
  go_wp2_with (refine wpList_load_mid rfl 24 _ rfl w.heap.size 0 rfl ux _ HR0.out Tryz.underlying24 rfl h32x ?_)
  refine HO.out.mono ?_
  intro e w1 h
  obtain ⟨hb1, ⟨S, b, n, hl, rfl, hn, hb, hm⟩ | ⟨hl, rfl⟩⟩ := h
  · obtain ⟨k1, k2, k3⟩ := lineL_32 HU.out hl
    have HRI := Lib.hid (hrising_any b n S none w1 hm k3 k1 k2)
    have HB1 := Lib.hid (HB0.out.trans (hb1.mono HB0.out.size))
    have HL := Lib.hid hl
    clear hb1 hm hl k1 k2 k3 HO HR0
    go_wp2_with fail
    refine HRI.out.mono ?_
    rintro e w2 ⟨u, m, rfl, hr, ha, hmm, hb2⟩
    have HR := Lib.hid (show IdRow w2 u S by rw [← ascL_ext ha (lineL_some HL.out).2 hmm]; exact hr)
    have HB2 := Lib.hid (HB1.out.trans (hb2.mono HB1.out.size))
    clear hr ha hmm hb2
    go_wp2
    go_ret2
    exact linAns_yes HL.out HR.out HB2.out
  · have HB1 := Lib.hid (HB0.out.trans (hb1.mono HB0.out.size))
    have HL := Lib.hid hl
    clear hb1 hl HO HR0
    go_wp2
    go_ret2
    exact linAns_no HL.out HB1.out
end Go.Proofs.YtbmiiiccnoiffaaGreatDoor
