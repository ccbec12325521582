/- YtbmiiiccnoiffaaGreatDoorR41: texts AG, AH, AL, K5, K6 of this claim, in one. -/
import Derived.Test.YtbmiiiccnoiffaaGreatDoorR16
import Derived.Test.YtbmiiiccnoiffaaGreatDoorR17
import Derived.Test.YtbmiiiccnoiffaaGreatDoorR32
import Derived.Test.YtbmiiiccnoiffaaGreatDoorR36
import Derived.Test.YtbmiiiccnoiffaaGreatDoorR37
import Derived.Test.YtbmiiiccnoiffaaGreatDoorR39
import Derived.Test.YtbmiiiccnoiffaaGreatDoorR40
namespace Go.Proofs.YtbmiiiccnoiffaaGreatDoor
open Go.RowKit Go.Maps
variable {cm : Idl → Option Cmt}

/-- 'm[id] = k'. -/
theorem wpList_update_C {w : World} {ops : Array Oper} {rest : List Oper} {o : Oper} {a : Act} {Q : Exit → Act → World → Prop} (hg : o.guard = none) (m x v : Operand) (t : TypeId) (hop : o.op = Op.mapUpdate t m x v)
    (ht : Tryz.prog.underlying t = some (.map 24 3)) (b n : Nat) (h : Idl → Nat) (hm : a.eval m = .map (some b)) (hc : CntM w b n h) (p : Idl) (hp : p.length = 32) (k : Nat) (hx : a.eval x = .agg (idC p).toArray) (hv : a.eval v = .int .i64 (k : Int)) (hn : n < maxLen)
    (hK : ∀ w', CntM w' b (n + 1) (fun q => if q = p then k else h q) → w.grownBy w' (some b) → wpList Tryz.prog ops Q rest (a.put o.dst undef) w') : wpList Tryz.prog ops Q (o :: rest) a w := by
  obtain ⟨f, h1, h2⟩ := hc
  refine wpList_update_G (enc := natV) hg m x v t 3 hop ht b n f hm h1 p hp k hx hv hn fun w' k1 k2 => hK w' ⟨_, k1, fun q hq => ?_⟩ k2
  show (if q = p then some k else f q).getD 0 = if q = p then k else h q
  split
  · rfl
  · exact h2 q hq

/-- What is known of ages. -/
structure AgH (cm : Idl → Option Cmt) (S : List Idl) (n : Nat) (h : Idl → Nat) : Prop where
  is : ∀ y, y.length = 32 → h y = 0 ∨ (y ∈ S ∧ h y = ageOf cm y)
  few : n ≤ (S.filter fun y => decide (h y ≠ 0)).length
theorem AgH.start (S : List Idl) : AgH cm S 0 fun _ => 0 := ⟨fun _ _ => .inl rfl, Nat.zero_le _⟩
theorem AgH.put {S : List Idl} {n : Nat} {h : Idl → Nat} {x : Idl} (hh : AgH cm S n h) (hx : x ∈ S) (h0 : h x = 0) (hp : 1 ≤ ageOf cm x) : AgH cm S (n + 1) fun q => if q = x then ageOf cm x else h q := by
  refine ⟨fun y hy => ?_, ?_⟩
  · show (if y = x then ageOf cm x else h y) = 0 ∨ (y ∈ S ∧ (if y = x then ageOf cm x else h y) = ageOf cm y)
    by_cases e : y = x
    · subst e; rw [if_pos rfl]; exact .inr ⟨hx, rfl⟩
    · rw [if_neg e]; exact hh.is y hy
  · have := filter_lt (fun y => decide (h y ≠ 0)) (fun y => decide ((if y = x then ageOf cm x else h y) ≠ 0)) S x hx (by simp; omega) (by simp [h0]) (fun y hy => by
      have h1 := of_decide_eq_true hy
      by_cases e : y = x
      · subst e; exact absurd h0 h1
      · rw [if_neg e]; exact hy)
    exact Nat.lt_of_le_of_lt hh.few this
theorem AgH.le {S : List Idl} {n : Nat} {h : Idl → Nat} (hh : AgH cm S n h) : n ≤ S.length := Nat.le_trans hh.few (List.length_filter_le _ _)

/-- The closure's variables. -/
structure AgSt (cm : Idl → Option Cmt) (S : List Idl) (kc lc ac kb lb nl n : Nat) (h : Idl → Nat) (w : World) : Prop where
  ck : w.cell? ⟨kc, 0, none⟩ = some (.map (some kb))
  cl : w.cell? ⟨lc, 0, none⟩ = some (.map (some lb))
  ca : w.cell? ⟨ac, 0, none⟩ = some (.func (.func 64) #[] #[.pointer (some ⟨kc, 0, none⟩), .pointer (some ⟨lc, 0, none⟩), .pointer (some ⟨ac, 0, none⟩)])
  line : LineM cm w lb nl S (some kb)
  cnt : CntM w kb n h
  ag : AgH cm S n h
  ne : kc ≠ kb ∧ lc ≠ kb ∧ ac ≠ kb ∧ lb ≠ kb
section
variable {S : List Idl} {kc lc ac kb lb nl n n' : Nat} {h h' : Idl → Nat} {w w' : World}
theorem AgSt.below (s : AgSt cm S kc lc ac kb lb nl n h w) (hb : Below w.heap.size w w') : AgSt cm S kc lc ac kb lb nl n h w' :=
  ⟨below_load s.ck hb (World.block_lt_of_cell? w _ s.ck), below_load s.cl hb (World.block_lt_of_cell? w _ s.cl), below_load s.ca hb (World.block_lt_of_cell? w _ s.ca), s.line.on hb, s.cnt.on hb, s.ag, s.ne⟩
theorem AgSt.grown (s : AgSt cm S kc lc ac kb lb nl n h w) (hg : w.grownBy w' (some kb)) (hc : CntM w' kb n' h') (ha : AgH cm S n' h') : AgSt cm S kc lc ac kb lb nl n' h' w' :=
  ⟨hg.cell (a := ⟨kc, 0, none⟩) s.ck (fun e => s.ne.1 (Option.some.inj e)), hg.cell (a := ⟨lc, 0, none⟩) s.cl (fun e => s.ne.2.1 (Option.some.inj e)), hg.cell (a := ⟨ac, 0, none⟩) s.ca (fun e => s.ne.2.2.1 (Option.some.inj e)), s.line.grown hg (fun e => s.ne.2.2.2 (Option.some.inj e)) (.inl rfl), hc, ha, s.ne⟩
end
def AgPost (cm : Idl → Option Cmt) (S : List Idl) (kc lc ac kb lb nl : Nat) (x : Idl) (h : Idl → Nat) (w : World) (e : Ending) (w' : World) : Prop :=
  e = .returned (.int .i64 (ageOf cm x : Int)) ∧ w.grownBy w' (some kb) ∧ ∃ n' h', AgSt cm S kc lc ac kb lb nl n' h' w' ∧ ∀ y, y.length = 32 → h' y = h y ∨ Reach cm x y
def foldA (cm : Idl → Option Cmt) (l : List Idl) : Nat := (l.map (ageOf cm)).foldl max 0
theorem foldA_snoc (l : List Idl) (p : Idl) : foldA cm (l ++ [p]) = max (foldA cm l) (ageOf cm p) := by unfold foldA; rw [List.map_append, List.foldl_append]; rfl
/-- Between two parents. -/
def AgLp (cm : Idl → Option Cmt) (S : List Idl) (kc lc ac kb lb nl : Nat) (x : Idl) (h : Idl → Nat) (W : World) (l : Nat) (u i : Value) (wr : World) : Prop :=
  ∃ (k n' : Nat) (h' : Idl → Nat), i = .int .i64 (k : Int) ∧ k ≤ l ∧ u = .int .i64 ((foldA cm ((par cm x).take k) : Nat) : Int) ∧ AgSt cm S kc lc ac kb lb nl n' h' wr ∧ (∀ y, y.length = 32 → h' y = h y ∨ ∃ p ∈ par cm x, Reach cm p y) ∧ W.grownBy wr (some kb)

set_option maxRecDepth 100000 in
set_option maxHeartbeats 4000000 in
theorem age1_any (S : List Idl) (hL : LogOn cm S) (kc lc ac kb lb nl : Nat) : ∀ H x n h w, x ∈ S → height cm S x ≤ H → AgSt cm S kc lc ac kb lb nl n h w →
    Calls Tryz.prog 64 #[.agg (idC x).toArray, .pointer (some ⟨kc, 0, none⟩), .pointer (some ⟨lc, 0, none⟩), .pointer (some ⟨ac, 0, none⟩)] w (AgPost cm S kc lc ac kb lb nl x h w) := by
  intro H
  induction H with
  | zero => intro x n h w hx hH _; have := height_pos (cm := cm) hx; omega
  | succ H ih =>
    intro x n h w hx hH hs
    have HIH := Lib.hid ih
    clear ih
    obtain ⟨zi, i0, hi, hz0, hz1, hz2, hzi, hzil⟩ := id_zero
    have HZI := Lib.hid hzil
    have hxl : x.length = 32 := hL.l32 x hx
    have hxc : (idC x).length = 32 := by rw [idC_len, hxl]
    have h32x := h32_of hxc
    have h32 : (Tryz.prog.info? 24).map (·.size) = some 32 := by kernel_rfl
    have hb0 : Below w.heap.size w (w.alloc (.cells (idC x).toArray 24)) := (Below.refl _ _).alloc (Nat.le_refl _) _
    have HR0 := Lib.hid (range_new w (idC x) 24 rfl)
    have hs0 := hs.below hb0
    have hlk := hs0.cnt.look Tryz.underlying114 hxl _ (Below.refl _ _)
    have hkbl : kb < w.heap.size := hs.cnt.lt
    have ck0 := hs0.ck
    have HG0 : Hid (w.grownBy (w.alloc (.cells (idC x).toArray 24)) (some kb)) := Lib.hid (grown_none (below_grownBy hb0) _)
    have HXL := Lib.hid hxl
    have HXS := Lib.hid hx
    have HLO := Lib.hid hL
    have HH := Lib.hid hH
    have HS0 := Lib.hid hs0
    obtain ⟨ct, hct1, hct2, _, hct4, hct5⟩ := hs0.line.look (t := 110) Tryz.underlying110 hxl (fun c hc => hL.tree x c hc)
    obtain ⟨cc, pv, hcmx, hcte, hrowp, hoff⟩ := hct5 hx
    obtain ⟨ap, capp, rfl, hmaxp, hcellp⟩ := hrowp.open
    have hc32 : ct[32]? = some (.slice ap cc.pars.length capp) := by
      rw [hcte]; unfold cmC
      rw [List.getElem?_append_right (by rw [idC_len, hL.tree x cc hcmx]; exact Nat.le_refl _), idC_len, hL.tree x cc hcmx]; rfl
    have HFLD := Lib.hid (fun W => run_field_pars W ct _ hc32)
    have HLKC := Lib.hid (hct4 _ (Below.refl _ _))
    have HPA := Lib.hid (par_of hcmx)
    have HCE := Lib.hid hcellp
    have HOF := Lib.hid hoff
    have cl0 := hs0.cl
    have HAGE : Hid (foldA cm (par cm x) + 1 = ageOf cm x) := Lib.hid (ageOf_eq hL.acyc hL.pars hL.len hx).symm
    have HLE : Hid (ageOf cm x ≤ 1000) := Lib.hid (Nat.le_trans (age_le hL.acyc hL.pars hL.len hx) hL.len)
    have HPOS := Lib.hid (age_pos hL.acyc hL.pars hL.len hx)
    have hlen4 : cc.pars.length ≤ 4 := by have := hL.four x; rw [HPA.out] at this; exact this
    clear hs hs0 hxl hL hxc hb0 hx hH hct1 hct2 hct4 hct5 hcte hrowp hcellp hc32 hcmx hoff hzil
    generalize hiy : idC x = ux at h32x HR0 HG0 HS0 hlk ck0 cl0 HLKC HCE
    have HIY := Lib.hid hiy
    clear hiy
    cases hh : h x with
    | succ c =>
      rw [hh] at hlk
      have HA : Hid (ageOf cm x = c + 1) := Lib.hid (by rcases HS0.out.ag.is x HXL.out with h0 | ⟨_, h1⟩ <;> omega)
      have d0 : (((c + 1 : Nat) : Int) == 0) = false := by rw [beq_eq_false_iff_ne]; omega
      have HLK := Lib.hid hlk
      clear hlk hh
      generalize hci : ((c + 1 : Nat) : Int) = ci at d0 HLK
      have HCI := Lib.hid hci
      clear hci
      go_enter Tryz.func64, Tryz.ntmps64
      go_wp2_with (first
        | (refine wpList_load_mid rfl 24 _ rfl w.heap.size 0 rfl ux _ HR0.out Tryz.underlying24 rfl h32x ?_)
        | (refine wpList_lookup_run rfl 114 _ _ false rfl _ _ rfl rfl _ HLK.out ?_))
      go_ret
      exact ⟨by rw [HA.out, HCI.out]; rfl, HG0.out, n, h, HS0.out, fun y _ => .inl rfl⟩
    | zero =>
      rw [hh] at hlk
      have e0 : ((0 : Nat) : Int) = 0 := rfl
      rw [e0] at hlk
      have HLK := Lib.hid hlk
      have H0 := Lib.hid hh
      clear hlk hh e0
      go_enter Tryz.func64, Tryz.ntmps64
      go_wp2_with (first
        | (refine wpList_load_mid rfl 24 _ rfl w.heap.size 0 rfl ux _ HR0.out Tryz.underlying24 rfl h32x ?_)
        | (refine wpList_lookup_run rfl 114 _ _ false rfl _ _ rfl rfl _ HLK.out ?_)
        | (refine wpList_lookup_run rfl 110 _ _ false rfl _ _ rfl rfl _ HLKC.out ?_)
        | (refine wpList_field_run rfl 97 _ 1 rfl _ rfl _ (HFLD.out _) ?_))
      go_loopw [6, 18] (fun u i wr => AgLp cm S kc lc ac kb lb nl x h (w.alloc (.cells ux.toArray 24)) cc.pars.length u i wr) (fun _ i _ => (cc.pars.length - intOf i).toNat)
      case atStart => exact ⟨0, n, h, rfl, by omega, rfl, HS0.out, fun _ _ => .inl rfl, World.grownBy.refl _ _⟩
      case round =>
        obtain ⟨wi, rfl⟩ : ∃ wi : World, wi = wr := ⟨_, rfl⟩
        obtain ⟨k, ni, hi', rfl, hk, rfl, hsi, hri, hgi⟩ := hrel
        have HSI := Lib.hid hsi
        have HRI := Lib.hid hri
        have HGI := Lib.hid hgi
        have HRX := Lib.hid (range_grown HR0.out hgi (fun e => by have := Option.some.inj e; omega))
        have cki := hsi.ck
        clear hsi hri hgi
        by_cases hlt : k < cc.pars.length
        · obtain ⟨br, off, rfl, hbl, hcell⟩ := HCE.out (by intro e; rw [e] at hlt; simp at hlt)
          have f1 := range_grown (hcell k hlt) HGI.out (fun e => by
            rcases HOF.out with h0 | h0
            · rw [h0] at hlt; simp at hlt
            · exact h0 br rfl e)
          have hkp : k < (par cm x).length := by rw [HPA.out]; exact hlt
          have hpe : (par cm x)[k] = cc.pars[k] := by simp only [HPA.out]
          obtain ⟨p, hp⟩ : ∃ p, cc.pars[k] = p := ⟨_, rfl⟩
          rw [hp] at hpe f1
          have hpm : p ∈ par cm x := by rw [← hpe]; exact List.getElem_mem hkp
          have hpS : p ∈ S := HLO.out.pars x HXS.out p hpm
          have hpl : p.length = 32 := HLO.out.l32 _ hpS
          have hpc : (idC p).length = 32 := by rw [idC_len, hpl]
          have h32p := h32_of hpc
          have hpH : height cm S p ≤ H := by have := height_par HLO.out.acyc HXS.out hpm; have := HH.out; omega
          obtain ⟨W1, hW1⟩ : ∃ W1, (wi.alloc (.cells zi 24)).setCells wi.heap.size 0 (idC p) = W1 := ⟨_, rfl⟩
          have wr1 := wrote (by rw [hpc, HZI.out]) (by rw [HZI.out]; omega) hW1
          have hs1 := HSI.out.below wr1.bel
          have HC1 := Lib.hid (HIH.out p ni hi' W1 hpS hpH hs1)
          have ca1 := hs1.ca
          have HG1 : Hid ((w.alloc (.cells ux.toArray 24)).grownBy W1 (some kb)) := Lib.hid (grownBy_trans' HGI.out (grown_none (below_grownBy wr1.bel) _))
          have HTH := Lib.hid (there_alloc wi zi 24 HZI.out)
          have HON := Lib.hid (idC_one p)
          have HPC := Lib.hid hpc
          have HR1 := Lib.hid wr1.row
          have HW1 := Lib.hid hW1
          have F1 := Lib.hid f1
          have HPM := Lib.hid hpm
          have k0 : (0 : Int) ≤ k := by omega
          have k1 : (k : Int) < cc.pars.length := by omega
          have d1 : decide ((k : Int) < cc.pars.length) = true := decide_eq_true k1
          have HFN : Hid (foldA cm ((par cm x).take (k + 1)) = max (foldA cm ((par cm x).take k)) (ageOf cm p)) := Lib.hid (by rw [List.take_succ_eq_append_getElem hkp, hpe, foldA_snoc])
          clear hcell hkp hpe hp hpm hpS hpl hpc hpH wr1 hs1 hW1 f1 cki
          generalize idC p = up at h32p HC1 HTH HON HPC HR1 HW1 F1
          generalize foldA cm ((par cm x).take k) = fa at HFN
          go_wp2_with (first
            | (refine wpList_load_mid rfl 24 _ rfl br (off + k * 32) rfl up _ F1.out Tryz.underlying24 rfl h32p ?_)
            | (refine wpList_store_list rfl 24 _ _ rfl wi.heap.size 0 up rfl rfl 32 HPC.out HTH.out h32 HON.out ?_; rw [HW1.out])
            | (refine wpList_load_mid rfl 24 _ rfl wi.heap.size 0 rfl up _ HR1.out Tryz.underlying24 rfl h32p ?_))
          refine HC1.out.mono ?_
          rintro e w2 ⟨rfl, hg2, n2, h2, hs2, hr2⟩
          have HEND : Hid (AgLp cm S kc lc ac kb lb nl x h (w.alloc (.cells ux.toArray 24)) cc.pars.length (.int .i64 (max (fa : Int) (ageOf cm p : Int))) (.int .i64 ((k : Int) + 1)) w2) := Lib.hid ⟨k + 1, n2, h2, by simp, by omega, by rw [HFN.out]; congr 1; omega, hs2, fun y hy => by
            rcases hr2 y hy with h3 | h3
            · rw [h3]; exact HRI.out y hy
            · exact .inr ⟨p, HPM.out, h3⟩, grownBy_trans' HG1.out hg2⟩
          clear hg2 hs2 hr2
          generalize (ageOf cm p : Int) = ap at HEND
          go_wp2
          go_roundw
          case rel => exact HEND.out
          case measure => simp [intOf]; omega
        · have hke : k = cc.pars.length := by omega
          have d1 : decide ((k : Int) < cc.pars.length) = false := decide_eq_false (by omega)
          have hfa : foldA cm ((par cm x).take k) + 1 = ageOf cm x := by rw [List.take_of_length_le (by rw [HPA.out]; omega)]; exact HAGE.out
          obtain ⟨fa, hfe⟩ : ∃ fa, foldA cm ((par cm x).take k) = fa := ⟨_, rfl⟩
          rw [hfe] at hfa ⊢
          have hwr : IntKind.i64.wrap ((fa : Int) + 1) = (fa : Int) + 1 := IntWalk.i64_in _ (by have := HLE.out; omega)
          have hX0 : hi' x = 0 := by
            rcases HRI.out x HXL.out with h1 | ⟨p, hp, hr⟩
            · rw [h1]; exact H0.out
            · exact absurd hr (HLO.out.acyc x p hp)
          have HX0 := Lib.hid hX0
          have HFA := Lib.hid hfa
          have HAP := Lib.hid (HSI.out.ag.put HXS.out hX0 HPOS.out)
          have hni : ni < maxLen := by have := HSI.out.ag.le; have := HLO.out.len; unfold maxLen; omega
          clear hke hfa hfe hX0
          go_wp2_with (first
            | (refine wpList_load_mid rfl 24 _ rfl w.heap.size 0 rfl ux _ HRX.out Tryz.underlying24 rfl h32x ?_)
            | (refine wpList_update_C rfl (.tmp 28) (.tmp 29) (.tmp 31) 114 rfl Tryz.underlying114 kb ni hi' rfl HSI.out.cnt x HXL.out (fa + 1) (by rw [HIY.out]; rfl) (by rw [show ((fa + 1 : Nat) : Int) = (fa : Int) + 1 from by omega]; rfl) hni ?_))
          intro w2 hc2 hg2
          have hs2 := HSI.out.grown hg2 (hc2.ext (h' := fun q => if q = x then ageOf cm x else hi' q) (fun q _ => by rw [HFA.out])) HAP.out
          have hlk2 := hc2.look Tryz.underlying114 HXL.out w2 (Below.refl _ _)
          rw [if_pos rfl, HIY.out] at hlk2
          have HLK2 := Lib.hid hlk2
          have ck2 := hs2.ck
          have HR2 := Lib.hid (range_grown HRX.out hg2 (fun e => by have := Option.some.inj e; omega))
          have HEND : Hid (AgPost cm S kc lc ac kb lb nl x h w (.returned (.int .i64 ((fa + 1 : Nat) : Int))) w2) := Lib.hid ⟨by rw [HFA.out], grownBy_trans' HG0.out (grownBy_trans' HGI.out hg2), _, _, hs2, fun y hy => by
            show (if y = x then ageOf cm x else hi' y) = h y ∨ Reach cm x y
            by_cases e : y = x
            · exact .inr (e ▸ .refl _)
            · rw [if_neg e]
              rcases HRI.out y hy with h3 | ⟨p, hp, h3⟩
              · exact .inl h3
              · exact .inr (Reach.head hp h3)⟩
          clear hc2 hg2 hs2 hlk2 cki
          go_wp2_with (first
            | (refine wpList_load_mid rfl 24 _ rfl w.heap.size 0 rfl ux _ HR2.out Tryz.underlying24 rfl h32x ?_)
            | (refine wpList_lookup_run rfl 114 _ _ false rfl _ _ rfl rfl _ HLK2.out ?_))
          go_ret
          exact HEND.out
end Go.Proofs.YtbmiiiccnoiffaaGreatDoor
namespace Go.Proofs.YtbmiiiccnoiffaaGreatDoor
open Go.RowKit Go.Maps
def AgeAns (cm : Idl → Option Cmt) (x : Idl) (w : World) (e : Ending) (w' : World) : Prop :=
  Below w.heap.size w w' ∧ (((lineL cm x).isSome = true ∧ e = .returned (.tuple #[.int .i64 (ageOf cm x : Int), .int .i64 0])) ∨ (lineL cm x = none ∧ e = .returned (.tuple #[.int .i64 0, .int .i64 13])))
theorem ageAns_yes {cm : Idl → Option Cmt} {x : Idl} {w w' : World} {S : List Idl} (h : lineL cm x = some S) (hb : Below w.heap.size w w') : AgeAns cm x w (.returned (.tuple #[.int .i64 (ageOf cm x : Int), .int .i64 0])) w' := ⟨hb, .inl ⟨by rw [h]; rfl, rfl⟩⟩
theorem ageAns_no {cm : Idl → Option Cmt} {x : Idl} {w w' : World} (h : lineL cm x = none) (hb : Below w.heap.size w w') : AgeAns cm x w (.returned (.tuple #[.int .i64 0, .int .i64 13])) w' := ⟨hb, .inr ⟨h, rfl⟩⟩
set_option maxRecDepth 100000 in
set_option maxHeartbeats 2000000 in
theorem hage_any (v : Value) (f : Idl → Option Ob) (hf : ∀ x o, f x = some o → rightOb o = true) (U : List Idl) (hU : CmOk (cmG f) U) (ha : Acyc (cmG f)) (x : Idl) (w : World) (hs : SrcP w v f) (hx : x.length = 32) :
    Calls Tryz.prog 23 #[v, .agg (idC x).toArray] w (AgeAns (cmG f) x w) := by
  have hmm := @run_makeMap Tryz.prog
  have hxl : (idC x).length = 32 := by rw [idC_len, hx]
  have h32x := h32_of hxl
  have hb0 : Below w.heap.size w (w.alloc (.cells (idC x).toArray 24)) := (Below.refl _ _).alloc (Nat.le_refl _) _
  have HO := Lib.hid (hof_any v f hf U hU x (w.alloc (.cells (idC x).toArray 24)) (hs.below hb0) hx)
  have HR0 := Lib.hid (range_new w (idC x) 24 rfl)
  have HB0 := Lib.hid hb0
  have HU := Lib.hid hU
  have HA := Lib.hid ha
  clear hs hx hf hU hxl hb0 ha
  generalize hiy : idC x = ux at h32x HO HR0 HB0
  have HIY := Lib.hid hiy
  clear hiy
  go_enter Tryz.func23, Tryz.ntmps23
  go_wp2_with (refine wpList_load_mid rfl 24 _ rfl w.heap.size 0 rfl ux _ HR0.out Tryz.underlying24 rfl h32x ?_)
  refine HO.out.mono ?_
  intro e w1 h
  obtain ⟨hb1, ⟨S, b, k, hl, rfl, hn, hb, hm⟩ | ⟨hl, rfl⟩⟩ := h
  · have hon := logOn_of HU.out HA.out hl
    have HB1 := Lib.hid (HB0.out.trans (hb1.mono HB0.out.size))
    have HR1 := Lib.hid (rangeAt_below HR0.out hb1 (by simp))
    have HL := Lib.hid hl
    have HON := Lib.hid hon
    have HM := Lib.hid hm
    obtain ⟨W2, hW2⟩ : ∃ W2, (((w1.alloc (.cells #[.map (some b)] 110)).alloc (.map #[] 0)).alloc (.cells #[.map (some (w1.heap.size + 1))] 114)).alloc (.cells #[.func (.func 64) #[] #[.pointer (some ⟨w1.heap.size + 1 + 1, 0, none⟩), .pointer (some ⟨w1.heap.size, 0, none⟩), .pointer (some ⟨w1.heap.size + 1 + 1 + 1, 0, none⟩)]] 115) = W2 := ⟨_, rfl⟩
    have HW2 := Lib.hid hW2
    have b1 : Below w1.heap.size w1 (w1.alloc (.cells #[.map (some b)] 110)) := (Below.refl _ _).alloc (Nat.le_refl _) _
    have b2 : Below w1.heap.size w1 ((w1.alloc (.cells #[.map (some b)] 110)).alloc (.map #[] 0)) := b1.alloc b1.size _
    have b4 : Below w1.heap.size w1 W2 := by rw [← hW2]; exact (b2.alloc b2.size _).alloc (by simp; omega) _
    have b24 : Below ((w1.alloc (.cells #[.map (some b)] 110)).alloc (.map #[] 0)).heap.size ((w1.alloc (.cells #[.map (some b)] 110)).alloc (.map #[] 0)) W2 := by rw [← hW2]; exact ((Below.refl _ _).alloc (Nat.le_refl _) _).alloc (by simp) _
    have hcnt : CntM W2 (w1.heap.size + 1) 0 fun _ => 0 := by
      have := (cntM_made (w1.alloc (.cells #[.map (some b)] 110))).on b24
      rw [World.size_alloc] at this
      exact this
    have hline : LineM (cmG f) W2 b k S (some (w1.heap.size + 1)) := hm.grown (below_grownBy b4) (fun e => by cases e) (.inr fun j hj => by cases hj; omega)
    have ck : W2.cell? ⟨w1.heap.size + 1 + 1, 0, none⟩ = some (.map (some (w1.heap.size + 1))) := by
      have := range_new ((w1.alloc (.cells #[.map (some b)] 110)).alloc (.map #[] 0)) [.map (some (w1.heap.size + 1))] 114 (n := w1.heap.size + 1 + 1) (by simp)
      rw [← hW2]
      exact below_load (this 0 _ rfl) ((Below.refl _ _).alloc (Nat.le_refl _) _) (by simp)
    have cl : W2.cell? ⟨w1.heap.size, 0, none⟩ = some (.map (some b)) := by
      have := range_new w1 [.map (some b)] 110 (n := w1.heap.size) rfl
      rw [← hW2]
      exact below_load (this 0 _ rfl) ((((Below.refl _ _).alloc (Nat.le_refl _) _).alloc (by simp) _).alloc (by simp) _) (by simp)
    have ca : W2.cell? ⟨w1.heap.size + 1 + 1 + 1, 0, none⟩ = some (.func (.func 64) #[] #[.pointer (some ⟨w1.heap.size + 1 + 1, 0, none⟩), .pointer (some ⟨w1.heap.size, 0, none⟩), .pointer (some ⟨w1.heap.size + 1 + 1 + 1, 0, none⟩)]) := by
      rw [← hW2]
      exact (range_new _ _ _ (by simp)) 0 _ rfl
    have hbl := hm.lt
    have hst : AgSt (cmG f) S (w1.heap.size + 1 + 1) w1.heap.size (w1.heap.size + 1 + 1 + 1) (w1.heap.size + 1) b k 0 (fun _ => 0) W2 := ⟨ck, cl, ca, hline, hcnt, AgH.start S, by omega, by omega, by omega, by omega⟩
    have hx1 : x ∈ S := ((lineL_some hl).1.mem x).2 (.refl x)
    have HC := Lib.hid (age1_any S hon _ _ _ _ _ _ _ x 0 _ W2 hx1 (Nat.le_refl _) hst)
    rw [HIY.out] at HC
    have HR2 := Lib.hid (rangeAt_below HR1.out b4 (by have := hb1.size; simp at this; omega))
    have HB2 := Lib.hid (HB1.out.trans (b4.mono HB1.out.size))
    have HSZ : Hid (w.heap.size ≤ w1.heap.size) := Lib.hid HB1.out.size
    clear hb1 hm hl hon HO HR0 hst hx1 b1 b2 b4 b24 hcnt hline ck cl ca hW2
    go_wp2_with (rw [HW2.out]; refine wpList_load_mid rfl 24 _ rfl w.heap.size 0 rfl ux _ HR2.out Tryz.underlying24 rfl h32x ?_)
    refine HC.out.mono ?_
    rintro e w3 ⟨rfl, hg3, _⟩
    have HB3 := Lib.hid (HB2.out.grown hg3 HB2.out.size (fun j hj => by cases hj; have := HSZ.out; omega))
    clear hg3
    go_wp2
    go_ret2
    exact ageAns_yes HL.out HB3.out
  · have HB1 := Lib.hid (HB0.out.trans (hb1.mono HB0.out.size))
    have HL := Lib.hid hl
    clear hb1 hl HO HR0
    go_wp2
    go_ret2
    exact ageAns_no HL.out (HB1.out.alloc HB1.out.size _)
end Go.Proofs.YtbmiiiccnoiffaaGreatDoor
namespace Go.Proofs.YtbmiiiccnoiffaaGreatDoor
open Go.RowKit
def txA : ByteArray := ⟨#[97]⟩
def txB : ByteArray := ⟨#[98]⟩
def oA : Ob := ⟨3, ofB (commitB (zid, [], txA))⟩
def xA : Idl := shaL (frameL oA)
def oB : Ob := ⟨3, ofB (commitB (zid, [xA], txB))⟩
def xB : Idl := shaL (frameL oB)
theorem idO_shaL (o : Ob) : idO o = shaL (frameL o) := by
  unfold idO
  rw [← shaL_eq, ofB_data]
theorem idO_A : idO oA = xA := idO_shaL oA
theorem idO_B : idO oB = xB := idO_shaL oB
set_option maxRecDepth 100000 in
theorem okA : commitOk (zid, [], txA) = true ∧ rightOb oA = true := by decide +kernel
set_option maxRecDepth 100000 in
theorem okB : commitOk (zid, [xA], txB) = true ∧ rightOb oB = true := by decide +kernel
set_option maxRecDepth 100000 in
theorem neAB : xA ≠ xB := by decide +kernel
set_option maxRecDepth 100000 in
theorem comA : commitOf oA.body = some (zid, [], txA) := by kernel_rfl
set_option maxRecDepth 100000 in
theorem comB : commitOf oB.body = some (zid, [xA], txB) := by kernel_rfl
def lAB : List Ob := [oA, oB]
theorem xA_len : xA.length = 32 := by rw [← idO_A]; exact idO_len _
theorem xB_len : xB.length = 32 := by rw [← idO_B]; exact idO_len _
theorem clashAB : clashB lAB = false := by
  have h : idO oB ≠ idO oA := by rw [idO_A, idO_B]; exact fun e => neAB e.symm
  unfold clashB lAB
  simp [List.range_succ, h]
theorem rightsAB : rights lAB = [oA, oB] := by unfold rights lAB; simp [okA.2, okB.2]
theorem getAB (x : Idl) : getS lAB x = if x = xA then some oA else if x = xB then some oB else none := by
  unfold getS
  rw [rightsAB]
  by_cases h1 : x = xA
  · rw [if_pos h1, List.find?_cons_of_pos (by rw [idO_A, h1]; simp)]
  · rw [if_neg h1, List.find?_cons_of_neg (by rw [idO_A]; simpa using fun e => h1 e.symm)]
    by_cases h2 : x = xB
    · rw [if_pos h2, List.find?_cons_of_pos (by rw [idO_B, h2]; simp)]
    · rw [if_neg h2, List.find?_cons_of_neg (by rw [idO_B]; simpa using fun e => h2 e.symm)]; rfl
abbrev cmAB : Idl → Option Cmt := cmG (getS lAB)
theorem cmA : cmAB xA = some ⟨zid, [], txA⟩ := cmG_of (o := oA) (by rw [getAB, if_pos rfl]) rfl comA
theorem cmB' : cmAB xB = some ⟨zid, [xA], txB⟩ := cmG_of (o := oB) (by rw [getAB, if_neg (fun e => neAB e.symm), if_pos rfl]) rfl comB
theorem cmN {x : Idl} (h1 : x ≠ xA) (h2 : x ≠ xB) : cmAB x = none := cmG_none (by rw [getAB, if_neg h1, if_neg h2])
theorem parA : par cmAB xA = [] := par_of cmA
theorem parB : par cmAB xB = [xA] := par_of cmB'
theorem reachA {z : Idl} (h : Reach cmAB xA z) : z = xA := by
  rcases h.cases_head with e | ⟨y, hy, _⟩
  · exact e.symm
  · rw [parA] at hy; cases hy
theorem reachB {z : Idl} (h : Reach cmAB xB z) : z = xB ∨ z = xA := by
  rcases h.cases_head with e | ⟨y, hy, hr⟩
  · exact .inl e.symm
  · rw [parB] at hy
    rw [List.mem_singleton.1 hy] at hr
    exact .inr (reachA hr)
theorem acycAB : Acyc cmAB := fun x y hy hr => by
  by_cases h1 : x = xA
  · rw [h1, parA] at hy; cases hy
  · by_cases h2 : x = xB
    · rw [h2, parB] at hy
      rw [List.mem_singleton.1 hy] at hr
      exact h1 (reachA hr)
    · unfold par at hy
      rw [cmN h1 h2] at hy
      cases hy
theorem isLineA : IsLine cmAB xA [xA] := ⟨by simp, fun x => ⟨fun h => by rw [List.mem_singleton.1 h]; exact .refl _, fun h => by rw [reachA h]; simp⟩, fun x h => by rw [List.mem_singleton.1 h, cmA]; rfl⟩
theorem isLineB : IsLine cmAB xB [xB, xA] := by
  refine ⟨by simpa using fun e => neAB e.symm, fun x => ⟨fun h => ?_, fun h => ?_⟩, fun x h => ?_⟩
  · rcases List.mem_cons.1 h with rfl | h
    · exact .refl _
    · rw [List.mem_singleton.1 h]
      exact Reach.one (by rw [parB]; simp)
  · rcases reachB h with rfl | rfl <;> simp
  · rcases List.mem_cons.1 h with rfl | h
    · rw [cmB']; rfl
    · rw [List.mem_singleton.1 h, cmA]; rfl
theorem lineA : lineL cmAB xA = some (sortL [xA]) := lineL_sort isLineA
theorem lineB : lineL cmAB xB = some (sortL [xB, xA]) := lineL_sort isLineB
theorem cmOkAB : CmOk cmAB ((rights lAB).map idO) := cmOk (by unfold lAB; simp)
theorem logB : ∃ z, firstN 9 (logOf cmAB (sortL [xB, xA])) = [xB, z] := by
  obtain ⟨h1, h2⟩ := lineL_some lineB
  obtain ⟨T, hT⟩ := log_head acycAB h1
  have hl := logOf_len acycAB h1.nodup
  have hl2 : (sortL [xB, xA]).length = 2 := by
    have a := nodup_sub_len _ [xB, xA] h1.nodup (fun x hx => (sortL_mem _ x).1 hx)
    have b := nodup_sub_len [xB, xA] _ isLineB.nodup (fun x hx => (sortL_mem _ x).2 hx)
    simp at a b; omega
  rw [hT, hl2] at hl
  obtain ⟨z, rfl⟩ : ∃ z, T = [z] := by
    cases T with
    | nil => simp at hl
    | cons z T => cases T with
      | nil => exact ⟨z, rfl⟩
      | cons _ _ => simp at hl
  exact ⟨z, by rw [hT]; rfl⟩
theorem ageB' : ageOf cmAB xB = 2 := by
  obtain ⟨h1, h2⟩ := lineL_some lineB
  have hs : (sortL [xB, xA]).length ≤ 1000 := Nat.le_trans (h1.few cmOkAB) cmOkAB.few
  have ha : ageOf cmAB xA = 1 := by rw [ageOf_eq acycAB h1.closed hs ((sortL_mem _ _).2 (by simp)), parA]; rfl
  rw [ageOf_eq acycAB h1.closed hs ((sortL_mem _ _).2 (by simp)), parB]
  simp [ha]
theorem olderAB : (decide (xA ∈ sortL [xB, xA]) && decide (xA ≠ xB)) = true := by
  rw [Bool.and_eq_true, decide_eq_true_iff, decide_eq_true_iff]
  exact ⟨(sortL_mem _ _).2 (by simp), neAB⟩
theorem lastAB : lastS lAB = getS lAB := funext fun x => last_get clashAB x
theorem idAB (o : Ob) (x : Idl) (W : World) (hr : rightOb o = true) (hx : idO o = x) (hL : Laid W) : Calls Tryz.prog 56 #[.agg #[.int .i64 o.kind, .string o.body]] W fun e w' => e = .returned (.tuple #[.agg (idC x).toArray, .bool true]) ∧ Below W.heap.size W w' := by
  refine (oid_any o.kind o.body W hL).mono ?_
  rintro e w' ⟨rfl, hb⟩
  refine ⟨?_, hb⟩
  show Ending.returned (.tuple #[.agg (idC (if rightOb o = true then idO o else zid)).toArray, .bool (rightOb o)]) = _
  rw [if_pos hr, hr, hx]
theorem comABb (W : World) (g : Nat) (h : W.rangeAt g 0 (idC xA)) (hg : g < W.heap.size) : Calls Tryz.prog 55 #[.agg (cmC zid (.slice (some ⟨g, 0, none⟩) 1 1) txB).toArray] W fun e w' => e = .returned (.tuple #[.agg #[.int .i64 3, .string oB.body], .int .i64 0]) ∧ Below W.heap.size W w' := by
  have hrow : IdRow W (.slice (some ⟨g, 0, none⟩) 1 1) [xA] := ⟨some ⟨g, 0, none⟩, 1, rfl, by unfold maxLen; simp, fun _ => ⟨g, 0, rfl, hg, fun i hi => by
    have hi0 : i = 0 := by simpa using hi
    subst hi0
    show W.rangeAt g (0 + 0 * 32) (idC xA)
    rw [Nat.zero_mul]
    exact h⟩⟩
  refine (ocmk_any zid _ [xA] txB W hrow zid_len (fun y hy => by rw [List.mem_singleton.1 hy]; exact xA_len) (by simp) (fun _ _ _ e => by cases e; exact Nat.le_refl _) (by decide)).mono ?_
  rintro e w' ⟨rfl, hb⟩
  refine ⟨?_, hb⟩
  have h : (commitOk (zid, [xA], txB) && rightOb ⟨3, ofB (commitB (zid, [xA], txB))⟩) = true := by rw [okB.1, show rightOb ⟨3, ofB (commitB (zid, [xA], txB))⟩ = true from okB.2]; rfl
  unfold mkOb mkE
  rw [if_pos h, if_pos h]; rfl
theorem obRowAB (W : World) (b : Nat) (h : W.rangeAt b 0 [.int .i64 3, .string oA.body, .int .i64 3, .string oB.body]) (hb : b < W.heap.size) : ObRow W (.slice (some ⟨b, 0, none⟩) 2 2) lAB := by
  refine ⟨some ⟨b, 0, none⟩, 2, rfl, by unfold maxLen lAB; simp, fun _ => ⟨b, 0, rfl, hb, fun i hi j u hu => ?_⟩⟩
  have hi2 : i = 0 ∨ i = 1 := by unfold lAB at hi; simp at hi; omega
  rcases hi2 with rfl | rfl
  · have hu' : [Value.int .i64 3, .string oA.body][j]? = some u := hu
    rcases j with _ | _ | j
    · simp at hu'; rw [← hu']; exact h 0 _ rfl
    · simp at hu'; rw [← hu']; exact h 1 _ rfl
    · simp at hu'
  · have hu' : [Value.int .i64 3, .string oB.body][j]? = some u := hu
    rcases j with _ | _ | j
    · simp at hu'; rw [← hu']; exact h 2 _ rfl
    · simp at hu'; rw [← hu']; exact h 3 _ rfl
    · simp at hu'
theorem logAB (r : Value) (W : World) (h : SrcP W r (getS lAB)) : Calls Tryz.prog 22 #[r, .agg (idC xB).toArray, .int .i64 9] W fun e w' => ∃ v z, e = .returned (.tuple #[v, .int .i64 0]) ∧ IdRow w' v [xB, z] ∧ Below W.heap.size W w' := by
  refine (hlogn_any r (getS lAB) (fun x o h => (getS_some h).2.1) _ cmOkAB acycAB xB 9 W h xB_len).mono ?_
  rintro e w' ⟨hb, ⟨S, v, hl, rfl, hr⟩ | ⟨hl, _⟩⟩
  · obtain rfl : sortL [xB, xA] = S := Option.some.inj (lineB.symm.trans hl)
    obtain ⟨z, hz⟩ := logB
    rw [hz] at hr
    exact ⟨v, z, rfl, hr, hb⟩
  · exact absurd (lineB.symm.trans hl) (by simp)
theorem ageAB (r : Value) (W : World) (h : SrcP W r (getS lAB)) : Calls Tryz.prog 23 #[r, .agg (idC xB).toArray] W fun e w' => e = .returned (.tuple #[.int .i64 2, .int .i64 0]) ∧ Below W.heap.size W w' := by
  refine (hage_any r (getS lAB) (fun x o h => (getS_some h).2.1) _ cmOkAB acycAB xB W h xB_len).mono ?_
  rintro e w' ⟨hb, ⟨_, rfl⟩ | ⟨hl, _⟩⟩
  · exact ⟨by rw [ageB']; rfl, hb⟩
  · exact absurd (lineB.symm.trans hl) (by simp)
theorem oldAB (r : Value) (W : World) (h : SrcP W r (getS lAB)) : Calls Tryz.prog 29 #[r, .agg (idC xA).toArray, .agg (idC xB).toArray] W fun e w' => e = .returned (.tuple #[.bool true, .int .i64 0]) ∧ Below W.heap.size W w' := by
  refine (holder_any r (getS lAB) (fun x o h => (getS_some h).2.1) _ cmOkAB xA xB W h xA_len xB_len).mono ?_
  rintro e w' ⟨hb, ⟨A, B, hla, hlb, rfl⟩ | ⟨hl, _⟩⟩
  · obtain rfl : sortL [xB, xA] = B := Option.some.inj (lineB.symm.trans hlb)
    exact ⟨by rw [olderAB], hb⟩
  · rcases hl with hl | hl
    · exact absurd (lineA.symm.trans hl) (by simp)
    · exact absurd (lineB.symm.trans hl) (by simp)
set_option maxRecDepth 100000 in
set_option maxHeartbeats 4000000 in
theorem alive28_any (w : World) (hL : Laid w) : Calls Tryz.prog 15 #[] w fun e w' => e = .returned (.bool true) ∧ Below w.heap.size w w' := by
  obtain ⟨zi, i0, hi, hz0, hz1, hz2, hzi, hzil⟩ := id_zero
  have HZI := Lib.hid hzil
  have HLD := Lib.hid hL
  have hcA : Calls Tryz.prog 55 #[.agg (cmC zid (.slice none 0 0) txA).toArray] w fun e w' => e = .returned (.tuple #[.agg #[.int .i64 3, .string oA.body], .int .i64 0]) ∧ Below w.heap.size w w' := by
    refine (ocmk_any zid (.slice none 0 0) [] txA w (ids_nil w) zid_len (fun y hy => by cases hy) (by simp) (fun _ _ _ e => by cases e; exact Nat.le_refl _) (by decide)).mono ?_
    rintro e w' ⟨rfl, hb⟩
    refine ⟨?_, hb⟩
    have h : (commitOk (zid, [], txA) && rightOb ⟨3, ofB (commitB (zid, [], txA))⟩) = true := by rw [okA.1, show rightOb ⟨3, ofB (commitB (zid, [], txA))⟩ = true from okA.2]; rfl
    unfold mkOb mkE
    rw [if_pos h, if_pos h]; rfl
  have HCA := Lib.hid hcA
  clear hcA hzil
  go_enter Tryz.func15, Tryz.ntmps15
  go_wp2_with fail
  refine HCA.out.mono ?_
  rintro e w1 ⟨rfl, hb1⟩
  have HB1 := Lib.hid hb1
  have h2 : ∀ (a : Int) (s : ByteArray), (Tryz.prog.info? 93).map (·.size) = some [Value.int .i64 a, Value.string s].length := fun a s => by kernel_rfl
  have HIA := Lib.hid (fun W (h : Laid W) => idAB oA xA W okA.2 idO_A h)
  have HIB := Lib.hid (fun W (h : Laid W) => idAB oB xB W okB.2 idO_B h)
  have HCB := Lib.hid (fun W g (h : W.rangeAt g 0 (idC xA)) (hg : g < W.heap.size) => comABb W g h hg)
  have HOB : Hid (∀ W v, ObRow W v lAB → Laid W → Calls Tryz.prog 20 #[v] W fun e w' => ∃ r, e = .returned r ∧ SrcP w' r (getS lAB) ∧ Below W.heap.size W w') := Lib.hid (fun W v h hl => by rw [← lastAB]; exact oof_any v lAB W h (by unfold lAB; simp) hl)
  have HRO : Hid (∀ W b, W.rangeAt b 0 [.int .i64 3, .string oA.body, .int .i64 3, .string oB.body] → b < W.heap.size → ObRow W (.slice (some ⟨b, 0, none⟩) 2 2) lAB) := Lib.hid (fun W b h hb => obRowAB W b h hb)
  have hk : oA.kind = 3 ∧ oB.kind = 3 := ⟨rfl, rfl⟩
  generalize oA.body = sa at HIA HRO ⊢
  generalize oB.body = sb at HIB HCB HRO
  have HFR : Hid (∀ x o, getS lAB x = some o → rightOb o = true) := Lib.hid (fun x o h => (getS_some h).2.1)
  clear hb1 HCA hk
  go_wp2_with fail
  have hb2 : Below w1.heap.size w1 (w1.alloc (.cells #[.int .i64 3, .string sa] 93)) := (Below.refl _ _).alloc (Nat.le_refl _) _
  have HB2 := Lib.hid (HB1.out.trans (hb2.mono HB1.out.size))
  refine (HIA.out _ (HLD.out.below HB2.out)).mono ?_
  rintro e w3 ⟨rfl, hb3⟩
  have hs3 := hb3.size
  rw [World.size_alloc] at hs3
  have HB3 := Lib.hid (HB2.out.trans (hb3.mono HB2.out.size))
  have HOA3 := Lib.hid (rangeAt_below (range_new w1 [.int .i64 3, .string sa] 93 rfl) hb3 (by simp))
  have hxa : (idC xA).length = 32 := by rw [idC_len, xA_len]
  have hxb : (idC xB).length = 32 := by rw [idC_len, xB_len]
  have h32a := h32_of hxa
  have h32b := h32_of hxb
  have h32 : (Tryz.prog.info? 24).map (·.size) = some 32 := by kernel_rfl
  have HXA := Lib.hid hxa
  have HXB := Lib.hid hxb
  have HAO := Lib.hid (idC_one xA)
  have HBO := Lib.hid (idC_one xB)
  have HSZ : Hid (∀ w, (sizeOf 24).run Tryz.prog w = .ok (idC xA).length w) := Lib.hid (fun w => by rw [hxa]; kernel_rfl)
  have heq := id_eqIn xB xB xB_len xB_len
  rw [show (xB == xB) = true from by simp] at heq
  have HEQ := Lib.hid heq
  have HLOG := Lib.hid (fun r W (h : SrcP W r (getS lAB)) => logAB r W h)
  have HAGE := Lib.hid (fun r W (h : SrcP W r (getS lAB)) => ageAB r W h)
  have HOLD := Lib.hid (fun r W (h : SrcP W r (getS lAB)) => oldAB r W h)
  clear hb2 hb3 hxa hxb heq
  generalize idC xA = ua at h32a HIA HCB HXA HAO HSZ HOLD ⊢
  generalize hub : idC xB = ub at h32b HIB HXB HBO HEQ HLOG HAGE HOLD
  have HUB := Lib.hid hub
  clear hub
  obtain ⟨W4, hW4⟩ : ∃ W4, (w3.alloc (.cells zi 24)).setCells w3.heap.size 0 ua = W4 := ⟨_, rfl⟩
  have wr4 := wrote (by rw [HXA.out, HZI.out]) (by rw [HZI.out]; omega) hW4
  have HTH4 := Lib.hid (there_alloc w3 zi 24 HZI.out)
  have HB4 := Lib.hid (HB3.out.trans (wr4.bel.mono HB3.out.size))
  have HRA4 := Lib.hid wr4.row
  have hl4 := wr4.lt
  have HOA4 := Lib.hid (rangeAt_below HOA3.out wr4.bel (by omega))
  have HW4 := Lib.hid hW4
  have hsz3 := HB3.out.size
  clear wr4 hW4 HOA3
  go_wp2_with (first
    | (refine wpList_store_list rfl 24 _ _ rfl w3.heap.size 0 ua rfl rfl 32 HXA.out HTH4.out h32 HAO.out ?_; rw [HW4.out])
    | (refine wpList_load_mid rfl 24 _ rfl w3.heap.size 0 rfl ua _ HRA4.out Tryz.underlying24 rfl h32a ?_)
    | (refine wpList_buildSlice_one rfl (.tmp 27) 28 24 rfl ua zi rfl Tryz.underlying28 HSZ.out hzi (by rw [HXA.out]; omega) (by rw [HXA.out]; omega) ?_))
  have hb5 : Below W4.heap.size W4 (W4.alloc (.cells ua.toArray 24)) := (Below.refl _ _).alloc (Nat.le_refl _) _
  have HB5 := Lib.hid (HB4.out.trans (hb5.mono HB4.out.size))
  have HRA5 := Lib.hid (rangeAt_below HRA4.out hb5 hl4)
  have HOA5 := Lib.hid (rangeAt_below HOA4.out hb5 (by omega))
  refine (HCB.out (W4.alloc (.cells ua.toArray 24)) W4.heap.size (range_new _ _ _ rfl) (by simp)).mono ?_
  rintro e w6 ⟨rfl, hb6⟩
  have hs6 : W4.heap.size + 1 ≤ w6.heap.size := by have := hb6.size; rwa [World.size_alloc] at this
  have HB6 := Lib.hid (HB5.out.trans (hb6.mono HB5.out.size))
  have HRA6 := Lib.hid (rangeAt_below HRA5.out hb6 (by simp; omega))
  have HOA6 := Lib.hid (rangeAt_below HOA5.out hb6 (by simp; omega))
  clear hb5 hb6 HRA4 HOA4 HRA5 HOA5 HTH4 HW4 HCB
  go_wp2_with fail
  have hb7 : Below w6.heap.size w6 (w6.alloc (.cells #[.int .i64 3, .string sb] 93)) := (Below.refl _ _).alloc (Nat.le_refl _) _
  have HB7 := Lib.hid (HB6.out.trans (hb7.mono HB6.out.size))
  refine (HIB.out _ (HLD.out.below HB7.out)).mono ?_
  rintro e w8 ⟨rfl, hb8⟩
  have hs8 : w6.heap.size + 1 ≤ w8.heap.size := by have := hb8.size; rwa [World.size_alloc] at this
  have HB8 := Lib.hid (HB7.out.trans (hb8.mono HB7.out.size))
  have HOB8 := Lib.hid (rangeAt_below (range_new w6 [.int .i64 3, .string sb] 93 rfl) hb8 (by simp))
  have hb68 : Below w6.heap.size w6 w8 := hb7.trans (hb8.mono (by simp))
  have HRA8 := Lib.hid (rangeAt_below HRA6.out hb68 (by omega))
  have HOA8 := Lib.hid (rangeAt_below HOA6.out hb68 (by omega))
  obtain ⟨W9, hW9⟩ : ∃ W9, (w8.alloc (.cells zi 24)).setCells w8.heap.size 0 ub = W9 := ⟨_, rfl⟩
  have wr9 := wrote (by rw [HXB.out, HZI.out]) (by rw [HZI.out]; omega) hW9
  have HTH9 := Lib.hid (there_alloc w8 zi 24 HZI.out)
  have HB9 := Lib.hid (HB8.out.trans (wr9.bel.mono HB8.out.size))
  have HRB9 := Lib.hid wr9.row
  have hl9 := wr9.lt
  have HRA9 := Lib.hid (rangeAt_below HRA8.out wr9.bel (by omega))
  have HOA9 := Lib.hid (rangeAt_below HOA8.out wr9.bel (by omega))
  have HOB9 := Lib.hid (rangeAt_below HOB8.out wr9.bel (by omega))
  have HW9 := Lib.hid hW9
  have s2a : (Tryz.prog.info? 93).map (·.size) = some [Value.int .i64 3, Value.string sa].length := h2 3 sa
  have s2b : (Tryz.prog.info? 93).map (·.size) = some [Value.int .i64 3, Value.string sb].length := h2 3 sb
  have hs9 : w8.heap.size ≤ W9.heap.size := by omega
  clear hb7 hb8 hb68 HOB8 HRA6 HOA6 HRA8 HOA8 wr9 hW9 h2
  go_wp2_with (first
    | (refine wpList_store_list rfl 24 _ _ rfl w8.heap.size 0 ub rfl rfl 32 HXB.out HTH9.out h32 HBO.out ?_; rw [HW9.out])
    | (refine wpList_load_mid rfl 93 _ rfl w1.heap.size 0 rfl _ _ HOA9.out Tryz.underlying93 rfl s2a ?_)
    | (refine wpList_load_mid rfl 93 _ rfl w6.heap.size 0 rfl _ _ HOB9.out Tryz.underlying93 rfl s2b ?_))
  have hbX : Below W9.heap.size W9 (W9.alloc (.cells #[.int .i64 3, .string sa, .int .i64 3, .string sb] 93)) := (Below.refl _ _).alloc (Nat.le_refl _) _
  have HBX := Lib.hid (HB9.out.trans (hbX.mono HB9.out.size))
  refine (HOB.out (W9.alloc (.cells #[.int .i64 3, .string sa, .int .i64 3, .string sb] 93)) (.slice (some ⟨W9.heap.size, 0, none⟩) 2 2) (HRO.out _ _ (range_new _ _ _ rfl) (by simp)) (HLD.out.below HBX.out)).mono ?_
  intro e wa h
  obtain ⟨r, rfl, hsr, hba⟩ := h
  have hb9a : Below W9.heap.size W9 wa := hbX.trans (hba.mono (by simp))
  have HBA := Lib.hid (HBX.out.trans (hba.mono HBX.out.size))
  have HSR := Lib.hid hsr
  have HRAA := Lib.hid (rangeAt_below HRA9.out hb9a (by omega))
  have HRBA := Lib.hid (rangeAt_below HRB9.out hb9a hl9)
  have hsa2 := hb9a.size
  clear hbX hba hb9a hsr HRA9 HRB9 HOA9 HOB9 HTH9 HW9 HOB HRO
  go_wp2_with (refine wpList_load_mid rfl 24 _ rfl w8.heap.size 0 rfl ub _ HRBA.out Tryz.underlying24 rfl h32b ?_)
  refine (HLOG.out r wa HSR.out).mono ?_
  rintro e wb ⟨v, z, rfl, hrow, hbb⟩
  have HBB := Lib.hid (HBA.out.trans (hbb.mono HBA.out.size))
  have HSRB := Lib.hid (HSR.out.below hbb)
  have HRAB := Lib.hid (rangeAt_below HRAA.out hbb (by omega))
  have HRBB := Lib.hid (rangeAt_below HRBA.out hbb (by omega))
  have HROW := Lib.hid hrow
  have hsb2 := hbb.size
  clear hbb hrow HSR HRAA HRBA
  go_wp2_with (refine wpList_load_mid rfl 24 _ rfl w8.heap.size 0 rfl ub _ HRBB.out Tryz.underlying24 rfl h32b ?_)
  refine (HAGE.out r wb HSRB.out).mono ?_
  rintro e wc ⟨rfl, hbc⟩
  have HBC := Lib.hid (HBB.out.trans (hbc.mono HBB.out.size))
  have HSRC := Lib.hid (HSRB.out.below hbc)
  have HRAC := Lib.hid (rangeAt_below HRAB.out hbc (by omega))
  have HRBC := Lib.hid (rangeAt_below HRBB.out hbc (by omega))
  have HROWC := Lib.hid (HROW.out.below hbc)
  have hsc2 := hbc.size
  clear hbc HSRB HRAB HRBB HROW
  go_wp2_with (first
    | (refine wpList_load_mid rfl 24 _ rfl w3.heap.size 0 rfl ua _ HRAC.out Tryz.underlying24 rfl h32a ?_)
    | (refine wpList_load_mid rfl 24 _ rfl w8.heap.size 0 rfl ub _ HRBC.out Tryz.underlying24 rfl h32b ?_))
  refine (HOLD.out r wc HSRC.out).mono ?_
  rintro e wd ⟨rfl, hbd⟩
  have HBD := Lib.hid (HBC.out.trans (hbd.mono HBC.out.size))
  have frb := rangeAt_below HRBC.out hbd (by omega)
  have hrd := HROWC.out.below hbd
  obtain ⟨ar, cr, rfl, hmr, hcr⟩ := hrd.open
  obtain ⟨br, offr, rfl, hbr, hcell⟩ := hcr (by simp)
  have frx := hcell 0 (by simp)
  have frx' : wd.rangeAt br offr ub := by
    rw [Nat.zero_mul, Nat.add_zero] at frx
    rw [← HUB.out]; exact frx
  have heq := HEQ.out
  have hwd : w8.heap.size < wd.heap.size := by have := hbd.size; omega
  clear hbd HRAC HRBC HROWC HSRC hrd hcr frx hcell
  go_wp2_with fail
  refine wp_region_bq (by kernel_rfl) (by kernel_rfl) ?_
  repeat (go_big_quiet_step (fail))
  refine bq_row 24 _ _ rfl rfl rfl frx' (by omega) Tryz.underlying24 rfl h32b ?_
  simp only [Act.put, List.setIfInBounds_toArray, List.set_cons_zero, List.set_cons_succ]
  repeat (go_big_quiet_step (fail))
  refine bq_row 24 _ _ rfl rfl rfl frb (by omega) Tryz.underlying24 rfl h32b ?_
  simp only [Act.put, List.setIfInBounds_toArray, List.set_cons_zero, List.set_cons_succ]
  repeat (go_big_quiet_step (fail))
  refine wpQuiet_nil ?_
  intro wq hbq
  have HBQ := Lib.hid (HBD.out.trans (hbq.mono HBD.out.size))
  clear hbq frx' frb heq
  go_wp2
  go_ret
  exact ⟨rfl, HBQ.out⟩
end Go.Proofs.YtbmiiiccnoiffaaGreatDoor
namespace Go.Proofs.YtbmiiiccnoiffaaGreatDoor
open Go.RowKit

set_option maxRecDepth 100000 in
set_option maxHeartbeats 2000000 in
theorem rolder_any (vl vi : Value) (l : List Ob) (U : List Idl) (hU : CmOk (cmG (getS l)) U) (x y : Idl) (w : World) (hs : SrcRow w (.agg #[vl, vi]) l) (hx : x.length = 32) (hy : y.length = 32) :
    Calls Tryz.prog 31 #[.agg #[vl, vi], .agg (idC x).toArray, .agg (idC y).toArray] w fun e w' => e = .returned (.bool (olderL (cmG (getS l)) x y)) ∧ Below w.heap.size w w' := by
  have h32x := h32_of (us := idC x) (by rw [idC_len, hx])
  have h32y := h32_of (us := idC y) (by rw [idC_len, hy])
  obtain ⟨W, hW⟩ : ∃ W, ((w.alloc (.cells #[vl, vi] 30)).alloc (.cells (idC x).toArray 24)).alloc (.cells (idC y).toArray 24) = W := ⟨_, rfl⟩
  have hbW : Below w.heap.size w W := by rw [← hW]; exact (((Below.refl _ _).alloc (Nat.le_refl _) _).alloc (by simp) _).alloc (by simp; omega) _
  have hA := ((Arr.ofList w [vl, vi] 30).alloc (by simp) (.cells (idC x).toArray 24)).alloc (by simp) (.cells (idC y).toArray 24)
  have c0 : W.cell? ⟨w.heap.size, 0, none⟩ = some vl := by rw [← hW]; exact hA.cell 0 (by simp)
  have c1 : W.cell? ⟨w.heap.size, 1, none⟩ = some vi := by rw [← hW]; exact hA.cell 1 (by simp)
  have hrx : W.rangeAt (w.heap.size + 1) 0 (idC x) := by
    rw [← hW]; exact rangeAt_below (range_new (w.alloc (.cells #[vl, vi] 30)) (idC x) 24 (by simp)) ((Below.refl _ _).alloc (Nat.le_refl _) _) (by simp)
  have hry : W.rangeAt (w.heap.size + 1 + 1) 0 (idC y) := by rw [← hW]; exact range_new _ _ _ (by simp)
  have hsW : W.heap.size = w.heap.size + 1 + 1 + 1 := by rw [← hW]; simp
  have HL := Lib.hid (rline_any vl vi l U hU y W (hs.below hbW) hy)
  have heq := id_eqIn x y hx hy
  have HX := Lib.hid hx
  have H32 : Hid (∀ B, lineL (cmG (getS l)) y = some B → ∀ z ∈ B, z.length = 32) := Lib.hid (fun B hB => (lineL_32 hU hB).1)
  have HBW := Lib.hid hbW
  have HRX := Lib.hid hrx
  have HRY := Lib.hid hry
  have HSW := Lib.hid hsW
  have HW := Lib.hid hW
  have HXY : Hid ((x == y) = decide (x = y)) := Lib.hid (by by_cases h : x = y <;> simp [h])
  have HIN := Lib.hid (fun (v : Value) (B : List Idl) (w1 : World) (hv : IdRow w1 v B) (hB : ∀ z ∈ B, z.length = 32) => rin_any v B x w1 hv hB HX.out)
  have HOL : Hid (olderL (cmG (getS l)) x y = (decide (x ∈ (lineL (cmG (getS l)) y).getD []) && decide (x ≠ y))) := Lib.hid rfl
  clear hs hx hy hU hbW hrx hry hsW hW hA
  generalize olderL (cmG (getS l)) x y = ol at HOL
  generalize idC x = ux at h32x HRX HW heq HIN
  generalize idC y = uy at h32y HRY HW heq HL
  generalize (x == y) = exy at heq HXY
  go_enter Tryz.func31, Tryz.ntmps31
  go_wp2_with (rw [HW.out]; refine wpList_load_mid rfl 24 _ rfl (w.heap.size + 1 + 1) 0 rfl uy _ HRY.out Tryz.underlying24 rfl h32y ?_)
  refine HL.out.mono ?_
  rintro e w1 ⟨v, rfl, hrow, hb1⟩
  clear HL HW c0 c1
  have HB1 := Lib.hid (HBW.out.trans (hb1.mono HBW.out.size))
  have HRX1 := Lib.hid (rangeAt_below HRX.out hb1 (by rw [HSW.out]; omega))
  have HRY1 := Lib.hid (rangeAt_below HRY.out hb1 (by rw [HSW.out]; omega))
  have HROW := Lib.hid hrow
  have HB32 : Hid (∀ z ∈ (lineL (cmG (getS l)) y).getD [], z.length = 32) := Lib.hid (by
    cases e : lineL (cmG (getS l)) y with
    | none => intro z hz; cases hz
    | some B => exact H32.out B e)
  have HI1 := Lib.hid (HIN.out v _ w1 hrow HB32.out)
  clear hb1 hrow HRX HRY H32 HIN
  generalize (lineL (cmG (getS l)) y).isSome = is
  generalize (lineL (cmG (getS l)) y).getD [] = B at HOL HROW HB32 HI1
  cases exy with
  | true =>
    have HR : Hid (false = ol) := Lib.hid (by
      rw [HOL.out]
      have : x = y := of_decide_eq_true HXY.out.symm
      simp [this])
    go_wp2_with (first
      | (refine wpList_load_mid_g rfl 24 _ rfl (w.heap.size + 1) 0 rfl ux _ HRX1.out Tryz.underlying24 rfl h32x ?_)
      | (refine wpList_load_mid_g rfl 24 _ rfl (w.heap.size + 1 + 1) 0 rfl uy _ HRY1.out Tryz.underlying24 rfl h32y ?_)
      | (refine wpList_load_mid rfl 24 _ rfl (w.heap.size + 1) 0 rfl ux _ HRX1.out Tryz.underlying24 rfl h32x ?_)
      | (refine wpList_load_mid rfl 24 _ rfl (w.heap.size + 1 + 1) 0 rfl uy _ HRY1.out Tryz.underlying24 rfl h32y ?_))
    go_ret
    exact ⟨by rw [← HR.out]; rfl, HB1.out⟩
  | false =>
    have HR : Hid (B.contains x = ol) := Lib.hid (by
      rw [HOL.out]
      have : x ≠ y := of_decide_eq_false HXY.out.symm
      simp [this])
    go_wp2_with (first
      | (refine wpList_load_mid_g rfl 24 _ rfl (w.heap.size + 1) 0 rfl ux _ HRX1.out Tryz.underlying24 rfl h32x ?_)
      | (refine wpList_load_mid_g rfl 24 _ rfl (w.heap.size + 1 + 1) 0 rfl uy _ HRY1.out Tryz.underlying24 rfl h32y ?_)
      | (refine wpList_load_mid rfl 24 _ rfl (w.heap.size + 1) 0 rfl ux _ HRX1.out Tryz.underlying24 rfl h32x ?_)
      | (refine wpList_load_mid rfl 24 _ rfl (w.heap.size + 1 + 1) 0 rfl uy _ HRY1.out Tryz.underlying24 rfl h32y ?_))
    refine HI1.out.mono ?_
    rintro e w2 ⟨rfl, hb2⟩
    have HB2 := Lib.hid (HB1.out.trans (hb2.mono HB1.out.size))
    clear hb2
    rw [HR.out]
    go_wp2
    go_ret
    exact ⟨rfl, HB2.out⟩
end Go.Proofs.YtbmiiiccnoiffaaGreatDoor
namespace Go.Proofs.YtbmiiiccnoiffaaGreatDoor
open Go.RowKit

theorem par_getD (cm : Idl → Option Cmt) (x : Idl) : ((cm x).getD cmt0).pars = par cm x := by unfold par; cases cm x <;> rfl
end Go.Proofs.YtbmiiiccnoiffaaGreatDoor
