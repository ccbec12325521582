/- YtbmiiiccnoiffaaGreatDoorR16: texts JI, X1, H0, H1, H2 of this claim, in one. -/
import Derived.Test.YtbmiiiccnoiffaaGreatDoorR1
import Derived.Test.YtbmiiiccnoiffaaGreatDoorR11
import Derived.Test.YtbmiiiccnoiffaaGreatDoorR15
import Derived.Test.YtbmiiiccnoiffaaGreatDoorR7
namespace Go.Proofs.YtbmiiiccnoiffaaGreatDoor
open Go.RowKit

theorem commitOf_len {s : ByteArray} {c : List UInt8 × List (List UInt8) × ByteArray} (h : commitOf s = some c) : c.1.length = 32 ∧ (∀ x ∈ c.2.1, x.length = 32) ∧ c.2.1.length ≤ 4 ∧ c.2.2.size ≤ 64 ∧ c.2.1.Nodup := by
  unfold commitOf at h
  split at h
  · rename_i hc
    cases h
    obtain ⟨_, hok⟩ := hc
    unfold commitOk parsOk at hok
    simp only [Bool.and_eq_true, decide_eq_true_eq] at hok
    exact ⟨idOf_len _, Rd.ids_all _ _, hok.2.1, hok.2.2, hok.1⟩
  · cases h
theorem commitG_len (s : ByteArray) : ((commitOf s).getD (zid, [], ⟨#[]⟩)).1.length = 32 := by
  cases h : commitOf s with
  | none => exact zid_len
  | some c => exact (commitOf_len h).1
theorem ob_cells (w : World) (k : Int) (s : ByteArray) (e : TypeId) : (w.alloc (.cells #[.int .i64 k, .string s] e)).cell? ⟨w.heap.size, 0, none⟩ = some (.int .i64 k) ∧ (w.alloc (.cells #[.int .i64 k, .string s] e)).cell? ⟨w.heap.size, 1, none⟩ = some (.string s) :=
  ⟨by rw [World.cell?_alloc_new]; rfl, by rw [World.cell?_alloc_new]; rfl⟩

set_option maxRecDepth 100000 in
set_option maxHeartbeats 2000000 in
theorem rright_any (k : Int) (s : ByteArray) (w : World) :
    Calls Tryz.prog 57 #[.agg #[.int .i64 k, .string s]] w fun e w' => e = .returned (.bool (rightOb ⟨k, s⟩)) ∧ Below w.heap.size w w' := by
  have hb0 : Below w.heap.size w (w.alloc (.cells #[.int .i64 k, .string s] 93)) := (Below.refl _ _).alloc (Nat.le_refl _) _
  have HB0 := Lib.hid hb0
  clear hb0
  by_cases h4 : 4096 < s.size
  · have HR : Hid (rightOb ⟨k, s⟩ = false) := by unfold Hid rightOb; rw [decide_eq_false (show ¬ s.size ≤ 4096 by omega)]; rfl
    have d1 : decide ((4096 : Int) < s.size) = true := decide_eq_true (by omega)
    go_enter Tryz.func57, Tryz.ntmps57
    go_wp2_with fail
    go_ret
    exact ⟨ret_bool HR.out.symm, HB0.out⟩
  · have d1 : decide ((4096 : Int) < s.size) = false := decide_eq_false (by omega)
    have HR0 : Hid (rightOb ⟨k, s⟩ = if k = 1 then true else if k = 2 then (treeOf s).isSome else if k = 3 then (commitOf s).isSome else false) := by
      unfold Hid rightOb; rw [decide_eq_true (show s.size ≤ 4096 by omega)]; rfl
    by_cases h2 : k = 2
    · have d2 : (k == 2) = true := by rw [beq_iff_eq]; exact h2
      have HR : Hid (rightOb ⟨k, s⟩ = (treeOf s).isSome) := by unfold Hid; rw [HR0.out, if_neg (by omega), if_pos h2]
      have HE := Lib.hid (fun w => rentries_any s w (by omega))
      generalize (treeOf s).isSome = b at HR HE
      clear h2
      go_enter Tryz.func57, Tryz.ntmps57
      go_wp2_with fail
      refine (HE.out _).mono ?_
      rintro e w1 ⟨v, rfl, _, hb1⟩
      go_wp2
      go_ret
      exact ⟨ret_bool HR.out.symm, HB0.out.trans (hb1.mono HB0.out.size)⟩
    · have d2 : (k == 2) = false := by rw [beq_eq_false_iff_ne]; exact h2
      by_cases h3 : k = 3
      · have d3 : (k == 3) = true := by rw [beq_iff_eq]; exact h3
        have HR : Hid (rightOb ⟨k, s⟩ = (commitOf s).isSome) := by unfold Hid; rw [HR0.out, if_neg (by omega), if_neg h2, if_pos h3]
        have HC := Lib.hid (fun w => rcommit_any s w (by omega))
        have hG := commitG_len s
        generalize (commitOf s).getD (zid, [], ⟨#[]⟩) = c at HC hG
        generalize (commitOf s).isSome = b at HR HC
        have HG := Lib.hid hG
        clear h2 h3 hG
        obtain ⟨zs, hzv, hbu, hzs⟩ := cm_zero
        have HZS := Lib.hid hzs
        clear hzs
        have h34 : (Tryz.prog.info? 97).map (·.size) = some 34 := by kernel_rfl
        go_enter Tryz.func57, Tryz.ntmps57
        go_wp2_with fail
        refine (HC.out _).mono ?_
        rintro e w1 ⟨v, rfl, hrow, hb1⟩
        obtain ⟨ao, cap, rfl, _⟩ := hrow
        generalize (c.2.1.map idC).length = n
        have hth : (w1.alloc (.cells zs 97)).there w1.heap.size 0 34 := by
          rw [HZS.out]; exact (cmF_arr w1 zid_len _ _ _).there
        have HTH := Lib.hid hth
        have HL := Lib.hid (cmC_len c.1 (.slice ao n cap) c.2.2 HG.out)
        have HO := Lib.hid (cmC_one c.1 ao n cap c.2.2)
        have HB1 := Lib.hid (below_setCells (B := w.heap.size) (a := w) w1.heap.size (by have := HB0.out.size; have := hb1.size; omega) (cmC c.1 (.slice ao n cap) c.2.2) 0 _ ((HB0.out.trans (hb1.mono HB0.out.size)).alloc (by have := HB0.out.size; have := hb1.size; omega) (.cells zs 97)))
        clear hth hb1
        generalize cmC c.1 (.slice ao n cap) c.2.2 = cs at HL HO HB1
        go_wp2_with (refine wpList_store_list rfl 97 _ _ rfl w1.heap.size 0 cs ?z1 ?z2 34 HL.out ?z4 h34 HO.out ?_)
        try case z1 => rfl
        try case z2 => rfl
        try case z4 => exact HTH.out
        try simp only [Act.put]
        go_wp2
        go_ret
        exact ⟨ret_bool HR.out.symm, HB1.out⟩
      · have d3 : (k == 3) = false := by rw [beq_eq_false_iff_ne]; exact h3
        have HR : Hid (rightOb ⟨k, s⟩ = (k == 1)) := by
          unfold Hid; rw [HR0.out, if_neg h2, if_neg h3]
          by_cases h1 : k = 1
          · rw [if_pos h1]; exact (beq_iff_eq.2 h1).symm
          · rw [if_neg h1]; exact (beq_eq_false_iff_ne.2 h1).symm
        clear h2 h3
        go_enter Tryz.func57, Tryz.ntmps57
        go_wp2_with fail
        go_ret
        exact ⟨ret_bool HR.out.symm, HB0.out⟩

def ObRow (w : World) (v : Value) (l : List Ob) : Prop := RowOf w v 2 (l.map obC)
theorem ObRow.below {w w' : World} {v : Value} {l : List Ob} (h : ObRow w v l) (hb : Below w.heap.size w w') : ObRow w' v l := RowOf.below h hb
theorem ObRow.open {w : World} {v : Value} {l : List Ob} (h : ObRow w v l) : ∃ ao cap, v = .slice ao l.length cap ∧ l.length ≤ maxLen ∧ (l ≠ [] → ∃ b off, ao = some ⟨b, off, none⟩ ∧ b < w.heap.size ∧ ∀ k (hk : k < l.length), w.rangeAt b (off + k * 2) (obC l[k])) := by
  obtain ⟨ao, cap, rfl, hm, h⟩ := h
  rw [List.length_map] at hm ⊢
  refine ⟨ao, cap, rfl, hm, fun hne => ?_⟩
  obtain ⟨b, off, e, hl, hc⟩ := h (by simpa using hne)
  refine ⟨b, off, e, hl, fun k hk => ?_⟩
  have := hc k (by simpa using hk)
  rw [List.getElem_map] at this
  exact this

set_option maxRecDepth 100000 in
set_option maxHeartbeats 1000000 in
theorem rin_any (v : Value) (l : List (List UInt8)) (x : List UInt8) (w : World) (hv : IdRow w v l) (hl : ∀ y ∈ l, y.length = 32) (hx : x.length = 32) :
    Calls Tryz.prog 28 #[v, .agg (idC x).toArray] w fun e w' => e = .returned (.bool (l.contains x)) ∧ Below w.heap.size w w' := by
  obtain ⟨ao, cap, rfl, hmax, hv⟩ := hv.open
  unfold maxLen at hmax
  have hb0 : Below w.heap.size w (w.alloc (.cells (idC x).toArray 24)) := (Below.refl _ _).alloc (Nat.le_refl _) _
  have HB0 := Lib.hid hb0
  have hxl : (idC x).length = 32 := by rw [idC_len, hx]
  have hr0 : (w.alloc (.cells (idC x).toArray 24)).rangeAt w.heap.size 0 (idC x) := fun j u hu => by rw [World.cell?_alloc_new, Nat.zero_add]; simpa using hu
  have h32x := h32_of hxl
  have HV := Lib.hid hv
  have HL := Lib.hid hl
  have hlt0 : w.heap.size < (w.alloc (.cells (idC x).toArray 24)).heap.size := by simp
  have HEQ := Lib.hid (fun (y : List UInt8) (hy : y.length = 32) => id_eqIn y x hy hx)
  clear hv hl hb0 hxl
  generalize hux : idC x = ux at hr0 h32x HB0 hlt0 HEQ
  have HUX := Lib.hid hux
  clear hux
  go_enter Tryz.func28, Tryz.ntmps28
  go_wp2
  obtain ⟨W, hW⟩ : ∃ W, W = w.alloc (.cells ux.toArray 24) := ⟨_, rfl⟩
  rw [← hW] at hr0 HB0 hlt0 ⊢
  clear hW
  go_loopw [5] (fun i wr => ∃ k : Nat, k ≤ l.length ∧ i = .int .i64 k ∧ Hid (x ∉ l.take k) ∧ Below W.heap.size W wr) (fun i _ => (l.length - intOf i).toNat)
  case atStart => exact ⟨0, by omega, rfl, (by unfold Hid; simp), Below.refl _ _⟩
  case round =>
    obtain ⟨wo, rfl⟩ : ∃ wo : World, wo = wr := ⟨_, rfl⟩
    obtain ⟨k, hk, rfl, hni, hb⟩ := hrel
    by_cases hlt : k < l.length
    · obtain ⟨b, off, rfl, hbl, hcell⟩ := HV.out (by intro e; rw [e] at hlt; simp at hlt)
      have c1 := rangeAt_below (hcell k hlt) (HB0.out.trans (hb.mono HB0.out.size)) hbl
      have c2 := rangeAt_below hr0 hb hlt0
      have hz := HL.out l[k] (List.getElem_mem hlt)
      have h32 := h32_of (us := idC l[k]) (by rw [idC_len, hz])
      have hbo : b < wo.heap.size := by have := HB0.out.size; have := hb.size; omega
      have hlo : w.heap.size < wo.heap.size := by have := hb.size; omega
      have heq := HEQ.out l[k] hz
      have k0 : (0 : Int) ≤ k := by omega
      have k1 : (k : Int) < l.length := by omega
      clear hcell hz
      by_cases he : l[k] = x
      · have HR : Hid (l.contains x = true) := by unfold Hid; rw [List.contains_iff_mem, ← he]; exact List.getElem_mem hlt
        rw [show (l[k] == x) = true from beq_iff_eq.2 he] at heq
        clear he hni
        generalize idC l[k] = uk at c1 h32 heq
        go_wp2
        refine wp_region_bq (by kernel_rfl) (by kernel_rfl) ?_
        repeat (go_big_quiet_step (fail))
        refine bq_row 24 _ _ rfl rfl rfl c1 (by omega) Tryz.underlying24 rfl h32 ?_
        simp only [Act.put, List.setIfInBounds_toArray, List.set_cons_zero, List.set_cons_succ]
        repeat (go_big_quiet_step (fail))
        refine bq_row 24 _ _ rfl rfl rfl c2 (by omega) Tryz.underlying24 rfl h32x ?_
        simp only [Act.put, List.setIfInBounds_toArray, List.set_cons_zero, List.set_cons_succ]
        repeat (go_big_quiet_step (fail))
        refine wpQuiet_nil ?_
        intro wq hbq
        go_wp2
        go_ret
        exact ⟨ret_bool HR.out.symm, HB0.out.trans ((hb.trans (hbq.mono hb.size)).mono HB0.out.size)⟩
      · have HN : Hid (x ∉ l.take (k + 1)) := by
          unfold Hid
          rw [List.take_succ_eq_append_getElem hlt]
          intro h
          rcases List.mem_append.1 h with h | h
          · exact hni.out h
          · exact he (List.mem_singleton.1 h).symm
        rw [show (l[k] == x) = false from beq_eq_false_iff_ne.2 he] at heq
        clear he hni
        generalize idC l[k] = uk at c1 h32 heq
        go_wp2
        refine wp_region_bq (by kernel_rfl) (by kernel_rfl) ?_
        repeat (go_big_quiet_step (fail))
        refine bq_row 24 _ _ rfl rfl rfl c1 (by omega) Tryz.underlying24 rfl h32 ?_
        simp only [Act.put, List.setIfInBounds_toArray, List.set_cons_zero, List.set_cons_succ]
        repeat (go_big_quiet_step (fail))
        refine bq_row 24 _ _ rfl rfl rfl c2 (by omega) Tryz.underlying24 rfl h32x ?_
        simp only [Act.put, List.setIfInBounds_toArray, List.set_cons_zero, List.set_cons_succ]
        repeat (go_big_quiet_step (fail))
        refine wpQuiet_nil ?_
        intro wq hbq
        have HB := Lib.hid (hb.trans (hbq.mono hb.size))
        clear hb hbq c1 c2
        go_wp2
        go_roundw
        case rel => exact ⟨k + 1, by omega, by go_num, HN, HB.out⟩
        case measure => simp [intOf]; omega
    · obtain rfl : k = l.length := by omega
      have HR : Hid (l.contains x = false) := by
        unfold Hid
        have := hni.out
        rw [List.take_length] at this
        simpa using this
      clear hni
      go_wp2
      go_ret
      exact ⟨ret_bool HR.out.symm, HB0.out.trans (hb.mono HB0.out.size)⟩

set_option maxHeartbeats 1000000 in
theorem rgreat_any (v : Value) (l : List Ob) (w : World) (hv : ObRow w v l) :
    Calls Tryz.prog 16 #[v] w fun e w' => e = .returned (.bool (obGreat l)) ∧ w' = w := by
  obtain ⟨ao, cap, rfl, hmax, hv⟩ := hv.open
  by_cases hg : 40 < l.length
  · have HR : Hid (obGreat l = true) := by unfold Hid obGreat; rw [decide_eq_true hg]; rfl
    have d1 : decide ((40 : Int) < l.length) = true := decide_eq_true (by omega)
    clear hv
    go_enter Tryz.func16, Tryz.ntmps16
    go_wp2
    go_ret
    exact ⟨ret_bool HR.out.symm, rfl⟩
  · have HR0 : Hid (obGreat l = l.any fun o => decide (2500 < o.body.size)) := by unfold Hid obGreat; rw [decide_eq_false hg]; rfl
    have d1 : decide ((40 : Int) < l.length) = false := decide_eq_false (by omega)
    have HV := Lib.hid hv
    clear hv
    go_enter Tryz.func16, Tryz.ntmps16
    go_wp2
    go_loopw [3] (fun i wr => ∃ k : Nat, k ≤ l.length ∧ i = .int .i64 k ∧ Hid ((l.take k).any (fun o => decide (2500 < o.body.size)) = false) ∧ wr = w) (fun i _ => (l.length - intOf i).toNat)
    case atStart => exact ⟨0, by omega, rfl, rfl, rfl⟩
    case round =>
      obtain ⟨k, hk, rfl, hni, rfl⟩ := hrel
      by_cases hlt : k < l.length
      · obtain ⟨b, off, rfl, hbl, hcell⟩ := HV.out (by intro e; rw [e] at hlt; simp at hlt)
        have c1 : wr.cell? ⟨b, off + k * 2 + 1, none⟩ = some (.string l[k].body) := hcell k hlt 1 _ rfl
        have k0 : (0 : Int) ≤ k := by omega
        have k1 : (k : Int) < l.length := by omega
        have HT := Lib.hid (List.take_succ_eq_append_getElem hlt)
        clear hcell
        by_cases h2 : 2500 < l[k].body.size
        · have HR : Hid (obGreat l = true) := by
            unfold Hid; rw [HR0.out, List.any_eq_true]
            exact ⟨l[k], List.getElem_mem hlt, decide_eq_true h2⟩
          have d2 : decide ((2500 : Int) < l[k].body.size) = true := decide_eq_true (by omega)
          generalize l[k].body = s at c1 d2 h2
          clear h2 hni
          go_wp2
          go_ret
          exact ⟨ret_bool HR.out.symm, rfl⟩
        · have HN : Hid ((l.take (k + 1)).any (fun o => decide (2500 < o.body.size)) = false) := by
            unfold Hid; rw [HT.out, List.any_append, hni.out]; simp; omega
          have d2 : decide ((2500 : Int) < l[k].body.size) = false := decide_eq_false (by omega)
          generalize l[k].body = s at c1 d2 h2
          clear h2 hni
          go_wp2
          go_roundw
          case rel => exact ⟨k + 1, by omega, by go_num, HN, by simp⟩
          case measure => simp [intOf]; omega
      · obtain rfl : k = l.length := by omega
        have HR : Hid (obGreat l = false) := by
          unfold Hid; rw [HR0.out]
          have := hni.out
          rwa [List.take_length] at this
        clear hni
        go_wp2
        go_ret
        exact ⟨ret_bool HR.out.symm, rfl⟩
end Go.Proofs.YtbmiiiccnoiffaaGreatDoor

namespace Go.Proofs.YtbmiiiccnoiffaaGreatDoor
open Go.RowKit

theorem ob_eqIn (a b : Int) (s t : ByteArray) (w : World) : (Op.equalIn 10000 93 (.agg #[.int .i64 a, .string s]) (.agg #[.int .i64 b, .string t])).run Tryz.prog w = .ok (a == b && s.toList == t.toList) w := by
  have u3 := Tryz.underlying3
  have u9 := Tryz.underlying9
  have a3 := Tryz.isAgg3
  have a9 := Tryz.isAgg9
  have z3 := Tryz.sizeOf3
  have z9 := Tryz.sizeOf9
  have hS : Tryz.prog.underlying 93 = some (.struct (Tryz.prog.fieldsOf 93)) := by kernel_rfl
  rw [show (10000 : Nat) = 9999 + 1 from rfl, run_equalIn_agg w 9999 93 _ _ hS (by kernel_rfl)]
  simp only [Program.fieldsOf, Tryz.underlying93]
  go_simp
  by_cases h1 : a = b <;> by_cases h2 : s.toList = t.toList <;> simp [h1, h2]
theorem ob_eq_yes {a b : Ob} (h : obNe a b = false) (w : World) : (Op.equalIn 10000 93 (.agg #[.int .i64 a.kind, .string a.body]) (.agg #[.int .i64 b.kind, .string b.body])).run Tryz.prog w = .ok true w := by
  rw [obNe_no h, ob_eqIn]; simp
theorem ob_eq_no {a b : Ob} (h : obNe a b = true) (w : World) : (Op.equalIn 10000 93 (.agg #[.int .i64 a.kind, .string a.body]) (.agg #[.int .i64 b.kind, .string b.body])).run Tryz.prog w = .ok false w := by
  rw [ob_eqIn, beq_data]
  unfold obNe at h
  simp only [Bool.not_eq_true', Bool.and_eq_false_iff, decide_eq_false_iff_not] at h
  congr 1
  rw [Bool.and_eq_false_iff]
  rcases h with h | h
  · exact .inl (beq_eq_false_iff_ne.2 h)
  · exact .inr (decide_eq_false fun e => h (ba_eq e))
theorem right_small {k : Int} {s : ByteArray} (h : rightOb ⟨k, s⟩ = true) : s.size ≤ 4096 := by
  unfold rightOb at h
  simp only [Bool.and_eq_true, decide_eq_true_eq] at h
  exact h.1

def clashAt (l : List Ob) (i k : Nat) : Bool := match l[i]?, l[k]? with
  | some a, some b => obNe a b && rightOb a && rightOb b && decide (idO a = idO b)
  | _, _ => false
theorem clashAt_eq (l : List Ob) {i k : Nat} (hi : i < l.length) (hk : k < l.length) : clashAt l i k = (obNe l[i] l[k] && rightOb l[i] && rightOb l[k] && decide (idO l[i] = idO l[k])) := by
  unfold clashAt; rw [List.getElem?_eq_getElem hi, List.getElem?_eq_getElem hk]
theorem clashB_eq (l : List Ob) : clashB l = (List.range l.length).any fun i => (List.range i).any (clashAt l i) := rfl
theorem clash_found {l : List Ob} {i k : Nat} (hi : i < l.length) (hk : k < i) (h : clashAt l i k = true) : clashB l = true := by
  rw [clashB_eq, List.any_eq_true]
  refine ⟨i, List.mem_range.2 hi, ?_⟩
  rw [List.any_eq_true]
  exact ⟨k, List.mem_range.2 hk, h⟩
theorem clash_none {l : List Ob} (h : ∀ i, i < l.length → ∀ k, k < i → clashAt l i k = false) : clashB l = false := by
  rw [clashB_eq, List.any_eq_false]
  intro i hi
  have := h i (List.mem_range.1 hi)
  simp only [Bool.not_eq_true, List.any_eq_false]
  intro k hk
  rw [this k (List.mem_range.1 hk)]
end Go.Proofs.YtbmiiiccnoiffaaGreatDoor

namespace Go.Proofs.YtbmiiiccnoiffaaGreatDoor
open Go.RowKit

theorem infoOb : (Tryz.prog.info? 93).map (fun i => (i.zero, i.size, i.bytes)) = some (some (.agg #[.int .i64 0, .string ⟨#[]⟩]), 2, 24) := by kernel_rfl
theorem own_types {w : World} {B e1 e2 s1 s2 n1 n2 : Nat} {v1 v2 : Value} {x1 x2 : List Value} (h1 : w.ownsRow B e1 s1 v1 n1 x1) (h2 : w.ownsRow B e2 s2 v2 n2 x2) (he : e1 ≠ e2) : v1.ownBlock = none ∨ v1.ownBlock ≠ v2.ownBlock := by
  rcases h1.2 with ⟨rfl, _⟩ | ⟨g1, c1, u1, rfl, _, hg1, _⟩
  · exact .inl rfl
  · right
    rcases h2.2 with ⟨rfl, _⟩ | ⟨g2, c2, u2, rfl, _, hg2, _⟩
    · intro e; cases e
    · intro e
      have : g1 = g2 := by simpa [Value.ownBlock] using e
      subst this
      rw [hg1] at hg2
      injection hg2 with h; injection h with _ h _
      exact he h
def twoV {α : Type} (x y : α) (i : Nat) : α := if i = 0 then x else y
def obsF (l : List Ob) : List Value := (l.map obC).flatten
theorem obsF_snoc (l : List Ob) (o : Ob) : obsF (l ++ [o]) = obsF l ++ [.int .i64 o.kind, .string o.body] := by simp [obsF, obC]
theorem rights_snoc (l : List Ob) (k : Nat) (h : k < l.length) : rights (l.take (k + 1)) = rights (l.take k) ++ (if rightOb l[k] = true then [l[k]] else []) := by
  unfold rights
  rw [List.take_succ_eq_append_getElem h, List.filter_append]
  by_cases hr : rightOb l[k] = true
  · rw [if_pos hr]; simp [hr]
  · rw [if_neg hr]; simp [hr]
theorem rights_len (l : List Ob) (k : Nat) : (rights (l.take k)).length ≤ k := by
  unfold rights
  exact Nat.le_trans (List.length_filter_le _ _) (List.length_take_le _ _)

set_option maxRecDepth 100000 in
set_option maxHeartbeats 4000000 in
theorem rof_any (v : Value) (l : List Ob) (w : World) (hv : ObRow w v l) (hn : l.length ≤ 1000) :
    Calls Tryz.prog 19 #[v] w fun e w' => ∃ vl vi, e = .returned (.agg [vl, vi].toArray) ∧ ObRow w' vl (rights l) ∧ IdRow w' vi ((rights l).map idO) ∧ Below w.heap.size w w' := by
  obtain ⟨ao, cap, rfl, hmax, hv⟩ := hv.open
  obtain ⟨zi, j0, ji, jz0, jz1, jz2, hziv, hzil⟩ := id_zero
  obtain ⟨i0, hi, hz0, hz1, hz2⟩ := info_parts infoOb
  have HZI := Lib.hid hzil
  have HV := Lib.hid hv
  have h2 : ∀ (a : Int) (s : ByteArray), (Tryz.prog.info? 93).map (·.size) = some [Value.int .i64 a, Value.string s].length := fun a s => by kernel_rfl
  have H2 := Lib.hid h2
  clear hv h2 hzil
  go_enter Tryz.func19, Tryz.ntmps19
  go_wp2
  go_loopw [4] (fun i wr => ∃ (k : Nat) (vl vi : Value), k ≤ l.length ∧ i = .int .i64 k ∧ Arr wr (w.heap.size + 1) 2 (twoV vl vi) ∧ Arr wr w.heap.size 2 (twoV (.slice none 0 0) (.slice none 0 0)) ∧ wr.ownsRow (w.heap.size + 1 + 1) 93 2 vl (rights (l.take k)).length (obsF (rights (l.take k))) ∧ wr.ownsRow (w.heap.size + 1 + 1) 24 32 vi (rights (l.take k)).length (idsF ((rights (l.take k)).map idO)) ∧ Below w.heap.size w wr) (fun i _ => (l.length - intOf i).toNat)
  case atStart =>
    have hn0 : ∀ (w : World) (e : TypeId), Arr (w.alloc (.cells #[.slice none 0 0, .slice none 0 0] e)) w.heap.size 2 (twoV (.slice none 0 0) (.slice none 0 0)) := fun w e =>
      (Arr.ofList w [.slice none 0 0, .slice none 0 0] e).congr fun k hk => by
        obtain h | h : k = 0 ∨ k = 1 := by simp at hk; omega
        all_goals subst h; rfl
    refine ⟨0, .slice none 0 0, .slice none 0 0, by omega, rfl, ?_, (hn0 w _).alloc (by omega) _, World.ownsRow_nil _ _ _ _, World.ownsRow_nil _ _ _ _, ((Below.refl _ _).alloc (Nat.le_refl _) _).alloc (by simp) _⟩
    have := hn0 (w.alloc (.cells #[.slice none 0 0, .slice none 0 0] 30)) 30
    rw [World.size_alloc] at this
    exact this
  case round =>
    obtain ⟨wo, rfl⟩ : ∃ wo : World, wo = wr := ⟨_, rfl⟩
    obtain ⟨k, vl, vi, hk, rfl, hS, hR, hol, hoi, hb⟩ := hrel
    have hrl := rights_len l k
    obtain ⟨lo, lc, rfl⟩ := own_form hol
    obtain ⟨io, ic, rfl⟩ := own_form hoi
    have hSl := hS.lt (by omega)
    by_cases hlt : k < l.length
    · obtain ⟨b, off, rfl, hbl, hcell⟩ := HV.out (by intro e; rw [e] at hlt; simp at hlt)
      have HC := Lib.hid (fun (w' : World) (hb' : Below w.heap.size w w') => rangeAt_below (hcell k hlt) hb' hbl)
      have HRS := Lib.hid (rights_snoc l k hlt)
      have s1 := H2.out l[k].kind l[k].body
      have HRA := Lib.hid (fun w => rright_any l[k].kind l[k].body w)
      have HIA := Lib.hid (fun w (h : rightOb ⟨l[k].kind, l[k].body⟩ = true) => rido_any l[k].kind l[k].body w (by have := right_small h; omega))
      have HIL := Lib.hid (idO_len l[k])
      have d1 : decide ((k : Int) < l.length) = true := decide_eq_true (by omega)
      have k0 : (0 : Int) ≤ k := by omega
      have k1 : (k : Int) < l.length := by omega
      generalize rights (l.take k) = rs at hol hoi hrl HRS hS
      generalize l[k] = A at HC HRS s1 HRA HIA HIL
      obtain ⟨ka, sa⟩ := A
      dsimp only at HRA HIA s1
      have c0 : wo.rangeAt b (off + k * 2) [.int .i64 ka, .string sa] := HC.out wo hb
      have HS := Lib.hid hS
      have HR := Lib.hid hR
      have HOL := Lib.hid hol
      have HOI := Lib.hid hoi
      have HB := Lib.hid hb
      clear hcell hS hR hol hoi hb
      go_wp2_with (refine wpList_load_mid rfl 93 _ rfl b (off + k * 2) rfl [.int .i64 ka, .string sa] _ c0 Tryz.underlying93 rfl s1 ?_)
      refine (HRA.out _).mono ?_
      rintro e w1 ⟨rfl, hb1⟩
      have HS1 := Lib.hid (HS.out.below hb1 hSl)
      have HR1 := Lib.hid (HR.out.below hb1 (by omega))
      have HOL1 := Lib.hid (own_below HOL.out hb1)
      have HOI1 := Lib.hid (own_below HOI.out hb1)
      have HB1 := Lib.hid (HB.out.trans (hb1.mono HB.out.size))
      clear c0 HS HR HOL HOI HB hb1
      cases hra : rightOb ⟨ka, sa⟩ with
      | false =>
        have HRS2 : Hid (rights (l.take (k + 1)) = rs) := by unfold Hid; rw [HRS.out, if_neg (by rw [hra]; simp), List.append_nil]
        clear hra
        go_wp2
        go_roundw
        case rel => exact ⟨k + 1, _, _, by omega, by go_num, HS1.out, HR1.out, by rw [HRS2.out]; exact HOL1.out, by rw [HRS2.out]; exact HOI1.out, HB1.out⟩
        case measure => simp [intOf]; omega
      | true =>
        have HRS2 : Hid (rights (l.take (k + 1)) = rs ++ [⟨ka, sa⟩]) := by unfold Hid; rw [HRS.out, if_pos hra]
        have HIA2 := Lib.hid (fun w => HIA.out w hra)
        have c1 : w1.drew.rangeAt b (off + k * 2) [.int .i64 ka, .string sa] := HC.out w1.drew HB1.out.drew
        have hS0 : w1.drew.cell? ⟨w.heap.size + 1, 0, none⟩ = some (.slice lo rs.length lc) ∧ w1.drew.cell? ⟨b, off + k * 2, none⟩ = some (.int .i64 ka) ∧ w1.drew.cell? ⟨b, off + k * 2 + 1, none⟩ = some (.string sa) := ⟨HS1.out.cell 0 (by omega), c1 0 _ rfl, c1 1 _ rfl⟩
        clear hra HIA HRA c1
        go_wp2
        refine wp_region_L 9 (fun w' => w'.cell? ⟨w.heap.size + 1, 0, none⟩ = some (.slice lo rs.length lc) ∧ w'.cell? ⟨b, off + k * 2, none⟩ = some (.int .i64 ka) ∧ w'.cell? ⟨b, off + k * 2 + 1, none⟩ = some (.string sa)) (by kernel_rfl) (by kernel_rfl) ?_
        refine WL.take (i := 0) (v := ?_) rfl (by kernel_rfl) (by decide) (by decide +kernel) (by decide +kernel) (fun _ _ _ h => h) rfl ?_ hS0 ?_
        rotate_left
        · (intro w' hSw; (try dsimp only at hSw); go_simp; (try with_reducible rfl))
        simp only [Act.put]; (try simp only [List.getElem_toArray]); (try simp only [List.getElem_cons_succ]); (try simp only [List.getElem_cons_zero]); (try simp only [List.setIfInBounds_toArray]); (try simp only [List.set_cons_succ]); (try simp only [List.set_cons_zero])
        refine WL.take (i := 1) (v := ?_) rfl (by kernel_rfl) (by decide) (by decide +kernel) (by decide +kernel) (fun _ _ _ h => h) rfl ?_ hS0 ?_
        rotate_left
        · (intro w' hSw; (try dsimp only at hSw); go_simp; (try with_reducible rfl))
        simp only [Act.put]; (try simp only [List.getElem_toArray]); (try simp only [List.getElem_cons_succ]); (try simp only [List.getElem_cons_zero]); (try simp only [List.setIfInBounds_toArray]); (try simp only [List.set_cons_succ]); (try simp only [List.set_cons_zero])
        refine WL.take (i := 2) (v := ?_) rfl (by kernel_rfl) (by decide) (by decide +kernel) (by decide +kernel) (fun _ _ _ h => h) rfl ?_ hS0 ?_
        rotate_left
        · (intro w' hSw; (try dsimp only at hSw); go_simp; (try with_reducible rfl))
        simp only [Act.put]; (try simp only [List.getElem_toArray]); (try simp only [List.getElem_cons_succ]); (try simp only [List.getElem_cons_zero]); (try simp only [List.setIfInBounds_toArray]); (try simp only [List.set_cons_succ]); (try simp only [List.set_cons_zero])
        refine WL.take (i := 3) (v := ?_) rfl (by kernel_rfl) (by decide) (by decide +kernel) (by decide +kernel) (fun _ _ _ h => h) rfl ?_ hS0 ?_
        rotate_left
        · (intro w' hSw; (try dsimp only at hSw); go_simp; (try with_reducible rfl))
        simp only [Act.put]; (try simp only [List.getElem_toArray]); (try simp only [List.getElem_cons_succ]); (try simp only [List.getElem_cons_zero]); (try simp only [List.setIfInBounds_toArray]); (try simp only [List.set_cons_succ]); (try simp only [List.set_cons_zero])
        refine WL.take (i := 4) (v := ?_) rfl (by kernel_rfl) (by decide) (by decide +kernel) (by decide +kernel) (fun _ _ _ h => h) rfl ?_ hS0 ?_
        rotate_left
        · (intro w' hSw; (try dsimp only at hSw); go_simp; (try with_reducible rfl))
        simp only [Act.put]; (try simp only [List.getElem_toArray]); (try simp only [List.getElem_cons_succ]); (try simp only [List.getElem_cons_zero]); (try simp only [List.setIfInBounds_toArray]); (try simp only [List.set_cons_succ]); (try simp only [List.set_cons_zero])
        refine WL.take (i := 5) (v := ?_) rfl (by kernel_rfl) (by decide) (by decide +kernel) (by decide +kernel) (fun _ _ _ h => h) rfl ?_ hS0 ?_
        rotate_left
        · (intro w' hSw; (try dsimp only at hSw); go_simp; (try with_reducible rfl))
        simp only [Act.put]; (try simp only [List.getElem_toArray]); (try simp only [List.getElem_cons_succ]); (try simp only [List.getElem_cons_zero]); (try simp only [List.setIfInBounds_toArray]); (try simp only [List.set_cons_succ]); (try simp only [List.set_cons_zero])
        refine WL.one (i := 6) rfl (by decide) (by decide +kernel) ?_
        go_wp2
        obtain ⟨WA, hWA⟩ : ∃ WA, WA = (w1.alloc (.cells #[.int .i64 ka, .string sa] 93)).drew := ⟨_, rfl⟩
        have hbA : Below w1.heap.size w1 WA := by rw [hWA]; exact ((Below.refl _ _).alloc (Nat.le_refl _) _).drew
        have hbA' : Below w.heap.size w WA := HB1.out.trans (hbA.mono HB1.out.size)
        have cA : WA.rangeAt b (off + k * 2) [.int .i64 ka, .string sa] := HC.out WA hbA'
        have hnew : ∀ j u, ([.int .i64 ka, .string sa] : List Value)[j]? = some u → WA.cell? ((⟨w1.heap.size, 0, none⟩ : Addr).add j) = some u := fun j u hj => by
          rw [hWA, World.cell?_drew]; exact cells_newL w1 [.int .i64 ka, .string sa] 93 j u hj
        have hszS : w.heap.size + 1 < w1.heap.size := HS1.out.lt (by omega)
        have hszA : w1.heap.size < WA.heap.size := by rw [hWA]; show w1.heap.size < (w1.alloc _).heap.size; rw [World.size_alloc]; omega
        have hSA := HS1.out.below hbA hszS
        have hRA := HR1.out.below hbA (by omega)
        have hOLA := own_below HOL1.out hbA
        have hOIA := own_below HOI1.out hbA
        rw [← hWA]
        clear hWA
        refine ⟨⟨hSA.cell 0 (by omega), cA 0 _ rfl, cA 1 _ rfl⟩, ?_⟩
        refine WL.one (i := 7) rfl (by decide) (by decide +kernel) ?_
        refine wpList_append_own _ rfl (.tmp 18) (.tmp 23) 22 rfl (w.heap.size + 1 + 1) 93 i0 (.agg #[.int .i64 0, .string ⟨#[]⟩]) 2 24 Tryz.underlying22 hi hz0 hz1 hz2 rfl (by decide) _ rs.length (obsF rs) rfl hOLA ⟨w1.heap.size, 0, none⟩ 1 1 [.int .i64 ka, .string sa] rfl rfl hnew (by simp [Value.oneCell']) (by unfold maxLen; omega) (by omega) (by omega) ?_
        intro v2 w2 hol2 hg2 _
        obtain ⟨lo2, lc2, rfl⟩ := own_form hol2
        have hnl : (Value.slice lo rs.length lc).ownBlock ≠ some (w.heap.size + 1) := fun e => by have := (hOLA.lt _ e).1; omega
        have hnr : (Value.slice lo rs.length lc).ownBlock ≠ some w.heap.size := fun e => by have := (hOLA.lt _ e).1; omega
        have hS2 := hSA.grownV hg2 hnl
        have hR2 := hRA.grownV hg2 hnr
        have hb2 : Below w.heap.size w w2 := hbA'.grown hg2 (by omega) (fun j hj => by have := (hOLA.lt j hj).1; omega)
        have hOI2 := hOIA.kept hg2 (own_types hOIA hOLA (by decide))
        have c2 : w2.rangeAt b (off + k * 2) [.int .i64 ka, .string sa] := HC.out w2 hb2
        have g0 := hS2.cell 0 (by omega)
        have g1 := hS2.free 0 (by omega)
        have HS2 := Lib.hid hS2
        have HR2 := Lib.hid hR2
        have HB2 := Lib.hid hb2
        have HOL2 := Lib.hid hol2
        have HOI2 := Lib.hid hOI2
        have hsz2 : w.heap.size + 1 < w2.heap.size := hS2.lt (by omega)
        clear hSA hRA hOLA hOIA cA hnew hbA hbA' hg2 hnl hnr hS2 hR2 hb2 hol2 hOI2 HS1 HR1 HOL1 HOI1 HB1 hS0
        simp only [Act.put]
        refine ⟨⟨g0, c2 0 _ rfl, c2 1 _ rfl⟩, ?_⟩
        refine WL.one (i := 8) rfl (by decide) (by decide +kernel) ?_
        go_wp2
        refine ⟨⟨g0, c2 0 _ rfl, c2 1 _ rfl⟩, ?_⟩
        refine WL.last (n := 9) rfl rfl (by decide +kernel) (by decide +kernel) ?_
        go_wp2
        obtain ⟨W3, hW3⟩ : ∃ W3, W3 = w2.setCell ⟨w.heap.size + 1, 0, none⟩ (.slice lo2 (rs.length + 1) lc2) := ⟨_, rfl⟩
        have HS3 : Hid (Arr W3 (w.heap.size + 1) 2 (twoV (.slice lo2 (rs.length + 1) lc2) (.slice io rs.length ic))) := by
          rw [hW3]
          exact Lib.hid ((HS2.out.set 0 (by omega) _).congr fun k hk => by
            obtain h | h : k = 0 ∨ k = 1 := by omega
            all_goals subst h; rfl)
        have HR3 : Hid (Arr W3 w.heap.size 2 (twoV (.slice none 0 0) (.slice none 0 0))) := by rw [hW3]; exact Lib.hid (HR2.out.far (by show w.heap.size + 1 ≠ w.heap.size; omega) _)
        have HB3 : Hid (Below w.heap.size w W3) := by rw [hW3]; exact Lib.hid (HB2.out.setCell (by show w.heap.size ≤ w.heap.size + 1; omega) _)
        have HOL3 : Hid (W3.ownsRow (w.heap.size + 1 + 1) 93 2 (.slice lo2 (rs.length + 1) lc2) (rs.length + 1) (obsF rs ++ [.int .i64 ka, .string sa])) := by rw [hW3]; exact Lib.hid (own_set HOL2.out (own_ne HOL2.out (Nat.lt_succ_self _)))
        have HOI3 : Hid (W3.ownsRow (w.heap.size + 1 + 1) 24 32 (.slice io rs.length ic) rs.length (idsF (rs.map idO))) := by rw [hW3]; exact Lib.hid (own_set HOI2.out (own_ne HOI2.out (Nat.lt_succ_self _)))
        rw [← hW3]
        clear hW3 HS2 HR2 HB2 HOL2 HOI2 g0 g1 c2 hsz2
        have c3 : W3.drew.rangeAt b (off + k * 2) [.int .i64 ka, .string sa] := HC.out W3.drew HB3.out.drew
        have hS0 : W3.drew.cell? ⟨w.heap.size + 1, 1, none⟩ = some (.slice io rs.length ic) ∧ W3.drew.cell? ⟨b, off + k * 2, none⟩ = some (.int .i64 ka) ∧ W3.drew.cell? ⟨b, off + k * 2 + 1, none⟩ = some (.string sa) := ⟨HS3.out.cell 1 (by omega), c3 0 _ rfl, c3 1 _ rfl⟩
        clear c3
        refine wp_region_L 10 (fun w' => w'.cell? ⟨w.heap.size + 1, 1, none⟩ = some (.slice io rs.length ic) ∧ w'.cell? ⟨b, off + k * 2, none⟩ = some (.int .i64 ka) ∧ w'.cell? ⟨b, off + k * 2 + 1, none⟩ = some (.string sa)) (by kernel_rfl) (by kernel_rfl) ?_
        refine WL.take (i := 0) (v := ?_) rfl (by kernel_rfl) (by decide) (by decide +kernel) (by decide +kernel) (fun _ _ _ h => h) rfl ?_ hS0 ?_
        rotate_left
        · (intro w' hSw; (try dsimp only at hSw); go_simp; (try with_reducible rfl))
        simp only [Act.put]; (try simp only [List.getElem_toArray]); (try simp only [List.getElem_cons_succ]); (try simp only [List.getElem_cons_zero]); (try simp only [List.setIfInBounds_toArray]); (try simp only [List.set_cons_succ]); (try simp only [List.set_cons_zero])
        refine WL.take (i := 1) (v := ?_) rfl (by kernel_rfl) (by decide) (by decide +kernel) (by decide +kernel) (fun _ _ _ h => h) rfl ?_ hS0 ?_
        rotate_left
        · (intro w' hSw; (try dsimp only at hSw); go_simp; (try with_reducible rfl))
        simp only [Act.put]; (try simp only [List.getElem_toArray]); (try simp only [List.getElem_cons_succ]); (try simp only [List.getElem_cons_zero]); (try simp only [List.setIfInBounds_toArray]); (try simp only [List.set_cons_succ]); (try simp only [List.set_cons_zero])
        refine WL.take (i := 2) (v := ?_) rfl (by kernel_rfl) (by decide) (by decide +kernel) (by decide +kernel) (fun _ _ _ h => h) rfl ?_ hS0 ?_
        rotate_left
        · (intro w' hSw; (try dsimp only at hSw); go_simp; (try with_reducible rfl))
        simp only [Act.put]; (try simp only [List.getElem_toArray]); (try simp only [List.getElem_cons_succ]); (try simp only [List.getElem_cons_zero]); (try simp only [List.setIfInBounds_toArray]); (try simp only [List.set_cons_succ]); (try simp only [List.set_cons_zero])
        refine WL.take (i := 3) (v := ?_) rfl (by kernel_rfl) (by decide) (by decide +kernel) (by decide +kernel) (fun _ _ _ h => h) rfl ?_ hS0 ?_
        rotate_left
        · (intro w' hSw; (try dsimp only at hSw); go_simp; (try with_reducible rfl))
        simp only [Act.put]; (try simp only [List.getElem_toArray]); (try simp only [List.getElem_cons_succ]); (try simp only [List.getElem_cons_zero]); (try simp only [List.setIfInBounds_toArray]); (try simp only [List.set_cons_succ]); (try simp only [List.set_cons_zero])
        refine WL.take (i := 4) (v := ?_) rfl (by kernel_rfl) (by decide) (by decide +kernel) (by decide +kernel) (fun _ _ _ h => h) rfl ?_ hS0 ?_
        rotate_left
        · (intro w' hSw; (try dsimp only at hSw); go_simp; (try with_reducible rfl))
        simp only [Act.put]; (try simp only [List.getElem_toArray]); (try simp only [List.getElem_cons_succ]); (try simp only [List.getElem_cons_zero]); (try simp only [List.setIfInBounds_toArray]); (try simp only [List.set_cons_succ]); (try simp only [List.set_cons_zero])
        refine WL.take (i := 5) (v := ?_) rfl (by kernel_rfl) (by decide) (by decide +kernel) (by decide +kernel) (fun _ _ _ h => h) rfl ?_ hS0 ?_
        rotate_left
        · (intro w' hSw; (try dsimp only at hSw); go_simp; (try with_reducible rfl))
        simp only [Act.put]; (try simp only [List.getElem_toArray]); (try simp only [List.getElem_cons_succ]); (try simp only [List.getElem_cons_zero]); (try simp only [List.setIfInBounds_toArray]); (try simp only [List.set_cons_succ]); (try simp only [List.set_cons_zero])
        refine WL.one (i := 6) rfl (by decide) (by decide +kernel) ?_
        go_wp2_with fail
        refine (HIA2.out _).mono ?_
        rintro e w4 ⟨rfl, hb4⟩
        have hb34 : Below W3.heap.size W3 w4 := drew_below hb4
        have hszS3 : w.heap.size + 1 < W3.heap.size := HS3.out.lt (by omega)
        have hS4 := HS3.out.below hb34 hszS3
        have hR4 := HR3.out.below hb34 (by omega)
        have hOL4 := own_below HOL3.out hb34
        have hOI4 := own_below HOI3.out hb34
        have hbw4 : Below w.heap.size w w4 := HB3.out.trans (hb34.mono HB3.out.size)
        have hdl : (idC (idO ⟨ka, sa⟩)).length = 32 := by rw [idC_len]; exact HIL.out
        have HIO : Hid (idsF ((rs ++ [(⟨ka, sa⟩ : Ob)]).map idO) = idsF (rs.map idO) ++ idC (idO ⟨ka, sa⟩)) := Lib.hid (by rw [List.map_append]; exact idsF_snoc _ _)
        have hone := idC_one (idO ⟨ka, sa⟩)
        generalize idC (idO ⟨ka, sa⟩) = uk at hdl hone HIO
        have HDL := Lib.hid hdl
        have HONE := Lib.hid hone
        have HSZC : Hid (∀ w, (sizeOf 24).run Tryz.prog w = .ok uk.length w) := Lib.hid (fun w => by rw [HDL.out]; kernel_rfl)
        have c4 : w4.rangeAt b (off + k * 2) [.int .i64 ka, .string sa] := HC.out w4 hbw4
        have hS40 : w4.cell? ⟨w.heap.size + 1, 1, none⟩ = some (.slice io rs.length ic) ∧ w4.cell? ⟨b, off + k * 2, none⟩ = some (.int .i64 ka) ∧ w4.cell? ⟨b, off + k * 2 + 1, none⟩ = some (.string sa) := ⟨hS4.cell 1 (by omega), c4 0 _ rfl, c4 1 _ rfl⟩
        have HS40 := Lib.hid hS40
        clear hb4 hdl hone c4 hS0 hS40 HIA2
        go_wp2
        refine ⟨HS40.out, ?_⟩
        refine WL.one (i := 7) rfl (by decide) (by decide +kernel) ?_
        refine wpList_buildSlice_one rfl (.tmp 32) 28 24 rfl uk zi rfl Tryz.underlying28 HSZC.out hziv (by rw [HDL.out]; omega) (by rw [HDL.out]; omega) ?_
        have hbl4 : b < w4.heap.size := by have := hbw4.size; omega
        have hsz4 : w.heap.size + 1 < w4.heap.size := by have := hb34.size; omega
        simp only [Act.put]
        refine ⟨⟨(cell_alloc_old w4 _ _ hsz4).trans HS40.out.1, (cell_alloc_old w4 _ _ hbl4).trans HS40.out.2.1, (cell_alloc_old w4 _ _ hbl4).trans HS40.out.2.2⟩, ?_⟩
        refine WL.one (i := 8) rfl (by decide) (by decide +kernel) ?_
        refine wpList_append_own _ rfl (.tmp 27) (.tmp 33) 28 rfl (w.heap.size + 1 + 1) 24 j0 (.agg zi) 32 32 Tryz.underlying28 ji jz0 jz1 jz2 HZI.out (by decide) _ rs.length (idsF (rs.map idO)) rfl (hOI4.alloc _) ⟨w4.heap.size, 0, none⟩ 1 1 uk rfl HDL.out (fun j u hj => cells_newL _ uk _ j u hj) HONE.out (by unfold maxLen; omega) (by omega) (by rw [World.size_alloc]; omega) ?_
        intro v5 w5 hoi5 hg5 _
        obtain ⟨io5, ic5, rfl⟩ := own_form hoi5
        have hni : (Value.slice io rs.length ic).ownBlock ≠ some (w.heap.size + 1) := fun e => by have := (hOI4.lt _ e).1; omega
        have hnr : (Value.slice io rs.length ic).ownBlock ≠ some w.heap.size := fun e => by have := (hOI4.lt _ e).1; omega
        have hS5 := (hS4.alloc (by omega) (.cells uk.toArray 24)).grownV hg5 hni
        have hR5 := (hR4.alloc (by omega) (.cells uk.toArray 24)).grownV hg5 hnr
        have hb5 : Below w.heap.size w w5 := (hbw4.alloc hbw4.size (.cells uk.toArray 24)).grown hg5 (by rw [World.size_alloc]; omega) (fun j hj => by have := (hOI4.lt j hj).1; omega)
        have hOL5 := (hOL4.alloc (.cells uk.toArray 24)).kept hg5 (own_types (hOL4.alloc (.cells uk.toArray 24)) (hOI4.alloc (.cells uk.toArray 24)) (by decide))
        have c5 : w5.rangeAt b (off + k * 2) [.int .i64 ka, .string sa] := HC.out w5 hb5
        have g0 := hS5.cell 1 (by omega)
        have g1 := hS5.free 1 (by omega)
        have HS5 := Lib.hid hS5
        have HR5 := Lib.hid hR5
        have HB5 := Lib.hid hb5
        have HOL5 := Lib.hid hOL5
        have HOI5 := Lib.hid hoi5
        clear hS4 hR4 hOL4 hOI4 hbw4 hb34 hg5 hni hnr hS5 hR5 hb5 hoi5 hOL5 HS3 HR3 HB3 HOL3 HOI3
        simp only [Act.put]
        refine ⟨⟨g0, c5 0 _ rfl, c5 1 _ rfl⟩, ?_⟩
        refine WL.one (i := 9) rfl (by decide) (by decide +kernel) ?_
        go_wp2
        refine ⟨⟨g0, c5 0 _ rfl, c5 1 _ rfl⟩, ?_⟩
        refine WL.last (n := 10) rfl rfl (by decide +kernel) (by decide +kernel) ?_
        go_wp2
        go_roundw
        case rel =>
          refine ⟨k + 1, .slice lo2 (rs.length + 1) lc2, .slice io5 (rs.length + 1) ic5, by omega, by go_num, ?_, HR5.out.far (by show w.heap.size + 1 ≠ w.heap.size; omega) _, ?_, ?_, HB5.out.setCell (by show w.heap.size ≤ w.heap.size + 1; omega) _⟩
          · exact (HS5.out.set 1 (by omega) _).congr fun k hk => by
              obtain h | h : k = 0 ∨ k = 1 := by omega
              all_goals subst h; rfl
          · rw [HRS2.out, obsF_snoc, List.length_append]
            exact own_set HOL5.out (own_ne HOL5.out (Nat.lt_succ_self _))
          · rw [HRS2.out, HIO.out, List.length_append]
            exact own_set HOI5.out (own_ne HOI5.out (Nat.lt_succ_self _))
        case measure => simp [intOf]; omega
    · have hke : k = l.length := by omega
      have htk : l.take k = l := by rw [hke, List.take_length]
      rw [htk] at hS hol hoi
      have d1 : decide ((k : Int) < l.length) = false := decide_eq_false (by omega)
      have HS := Lib.hid hS
      have HR := Lib.hid hR
      have HOL := Lib.hid hol
      have HOI := Lib.hid hoi
      have HB := Lib.hid hb
      clear hS hR hol hoi hb
      have hc0 : ∀ W, Below wo.heap.size wo W → W.rangeAt (w.heap.size + 1) 0 [.slice lo (rights l).length lc, .slice io (rights l).length ic] := fun W hb' j u hj => by
        have hS' := HS.out.below hb' hSl
        obtain rfl | rfl | hj2 : j = 0 ∨ j = 1 ∨ 2 ≤ j := by omega
        · obtain rfl : _ = u := Option.some.inj hj
          exact hS'.cell 0 (by omega)
        · obtain rfl : _ = u := Option.some.inj hj
          exact hS'.cell 1 (by omega)
        · rw [List.getElem?_eq_none (by simp; omega)] at hj; cases hj
      have HC0 := Lib.hid hc0
      have HSO : Hid ((Tryz.prog.info? 30).map (·.size) = some 2) := Lib.hid (by kernel_rfl)
      clear hc0
      go_wp2_with (first
        | refine wpList_load_mid rfl 30 _ rfl (w.heap.size + 1) 0 rfl [.slice lo (rights l).length lc, .slice io (rights l).length ic] _ (HC0.out _ (Below.refl _ _)) Tryz.underlying30 rfl HSO.out ?_
        | refine wpList_store_list rfl 30 _ _ rfl w.heap.size 0 [.slice lo (rights l).length lc, .slice io (rights l).length ic] rfl rfl 2 rfl HR.out.there HSO.out (by simp [Value.oneCell']) ?_)
      have hbF : Below w.heap.size w (wo.setCells w.heap.size 0 [.slice lo (rights l).length lc, .slice io (rights l).length ic]) := below_setCells _ (Nat.le_refl _) _ _ _ HB.out
      have hlF := own_sets HOL.out (own_ne HOL.out (Nat.lt_succ_of_lt (Nat.lt_succ_self _))) (o := 0) (us := [.slice lo (rights l).length lc, .slice io (rights l).length ic])
      have hiF := own_sets HOI.out (own_ne HOI.out (Nat.lt_succ_of_lt (Nat.lt_succ_self _))) (o := 0) (us := [.slice lo (rights l).length lc, .slice io (rights l).length ic])
      refine ret_cell rfl w.heap.size 0 rfl [.slice lo (rights l).length lc, .slice io (rights l).length ic] _ (World.rangeAt_setCells_same wo w.heap.size 0 _ HR.out.there) Tryz.underlying30 rfl HSO.out rfl ⟨_, _, rfl, ?_, ?_, hbF⟩
      · exact RowOf.of_own (B := w.heap.size + 1 + 1) (e := 93) (sz := 2) (rows := (rights l).map obC) (fun r hr => by
          obtain ⟨y, _, rfl⟩ := List.mem_map.1 hr
          rfl) (by rw [List.length_map]; exact hlF)
      · exact RowOf.of_own (B := w.heap.size + 1 + 1) (e := 24) (sz := 32) (rows := ((rights l).map idO).map idC) (fun r hr => by
          obtain ⟨y, hy, rfl⟩ := List.mem_map.1 hr
          obtain ⟨o, _, rfl⟩ := List.mem_map.1 hy
          rw [idC_len]; exact idO_len o) (by rw [List.length_map, List.length_map]; exact hiF)
end Go.Proofs.YtbmiiiccnoiffaaGreatDoor

namespace Go.Proofs.YtbmiiiccnoiffaaGreatDoor
open Go.RowKit

def ob0 : Ob := ⟨0, ⟨#[]⟩⟩
def SrcRow (w : World) (v : Value) (l : List Ob) : Prop := ∃ vl vi, v = .agg [vl, vi].toArray ∧ ObRow w vl (rights l) ∧ IdRow w vi ((rights l).map idO)
theorem SrcRow.below {w w' : World} {v : Value} {l : List Ob} (h : SrcRow w v l) (hb : Below w.heap.size w w') : SrcRow w' v l := by
  obtain ⟨vl, vi, rfl, h1, h2⟩ := h
  exact ⟨vl, vi, rfl, h1.below hb, h2.below hb⟩
theorem find_at {α : Type} {p : α → Bool} {l : List α} {k : Nat} (hk : k < l.length) (h : (l.take k).find? p = none) (hp : p l[k] = true) : l.find? p = some l[k] := by
  have e : l.take k ++ l[k] :: l.drop (k + 1) = l := by rw [← List.drop_eq_getElem_cons hk, List.take_append_drop]
  have : (l.take k ++ l[k] :: l.drop (k + 1)).find? p = some l[k] := by rw [List.find?_append, h, Option.none_or, List.find?_cons_of_pos hp]
  rwa [e] at this
theorem find_next {α : Type} {p : α → Bool} {l : List α} {k : Nat} (hk : k < l.length) (h : (l.take k).find? p = none) (hp : p l[k] = false) : (l.take (k + 1)).find? p = none := by
  rw [List.take_succ_eq_append_getElem hk, List.find?_append, h, Option.none_or, List.find?_cons_of_neg (by rw [hp]; simp), List.find?_nil]
/-- A new row's cells. -/
theorem range_new (w : World) (us : List Value) (e : TypeId) {n : Nat} (h : w.heap.size = n) : (w.alloc (.cells us.toArray e)).rangeAt n 0 us := by
  subst h
  exact fun j u hu => by rw [World.cell?_alloc_new, Nat.zero_add]; simpa using hu

set_option maxRecDepth 100000 in
set_option maxHeartbeats 2000000 in
theorem rget_any (v : Value) (l : List Ob) (x : List UInt8) (w : World) (hv : SrcRow w v l) (hx : x.length = 32) :
    Calls Tryz.prog 86 #[v, .agg (idC x).toArray] w fun e w' => e = .returned (.tuple #[.agg (obC ((getS l x).getD ob0)).toArray, .bool (getS l x).isSome]) ∧ Below w.heap.size w w' := by
  obtain ⟨vl, vi, rfl, hvl, hvi⟩ := hv
  obtain ⟨lo, lc, rfl, hml, hL⟩ := hvl.open
  obtain ⟨io, ic, rfl, hmi, hI⟩ := hvi.open
  unfold maxLen at hml
  rw [List.length_map] at hmi
  have hI' : rights l ≠ [] → ∃ b off, io = some ⟨b, off, none⟩ ∧ b < w.heap.size ∧ ∀ k (hk : k < (rights l).length), w.rangeAt b (off + k * 32) (idC (idO (rights l)[k])) := fun hne => by
    obtain ⟨b, off, e, hl, hc⟩ := hI (by simpa using hne)
    refine ⟨b, off, e, hl, fun k hk => ?_⟩
    have := hc k (by simpa using hk)
    rwa [List.getElem_map] at this
  have hGD : getS l x = (rights l).find? fun o => decide (idO o = x) := rfl
  rw [List.length_map]
  rw [hGD]
  clear hI hvl hvi hGD
  generalize rights l = rs at hL hI' hml
  have HL := Lib.hid hL
  have HI := Lib.hid hI'
  have hxl : (idC x).length = 32 := by rw [idC_len, hx]
  have HEQ := Lib.hid (fun (y : List UInt8) (hy : y.length = 32) => id_eqIn y x hy hx)
  have h32x := h32_of hxl
  have HOB : Hid (∀ o : Ob, (Tryz.prog.info? 93).map (·.size) = some [Value.int .i64 o.kind, Value.string o.body].length) := Lib.hid (fun o => by kernel_rfl)
  generalize hux : idC x = ux at hxl h32x HEQ
  clear hux hL hI'
  obtain ⟨W, hW⟩ : ∃ W, W = ((w.alloc (.cells #[.slice lo rs.length lc, .slice io rs.length ic] 30)).alloc (.cells ux.toArray 24)).alloc (.cells #[.int .i64 0, .string ⟨#[]⟩] 93) := ⟨_, rfl⟩
  have hA := ((Arr.ofList w [.slice lo rs.length lc, .slice io rs.length ic] 30).alloc (by simp) (.cells ux.toArray 24)).alloc (by simp) (.cells #[.int .i64 0, .string ⟨#[]⟩] 93)
  have hr1 : ((w.alloc (.cells #[.slice lo rs.length lc, .slice io rs.length ic] 30)).alloc (.cells ux.toArray 24)).rangeAt (w.heap.size + 1) 0 ux := range_new _ _ _ (by simp)
  have hr2 : W.rangeAt (w.heap.size + 1) 0 ux := by
    rw [hW]
    exact rangeAt_below hr1 ((Below.refl _ _).alloc (Nat.le_refl _) _) (by simp)
  have hz := Arr.ofList ((w.alloc (.cells #[.slice lo rs.length lc, .slice io rs.length ic] 30)).alloc (.cells ux.toArray 24)) [.int .i64 0, .string ⟨#[]⟩] 93
  rw [World.size_alloc, World.size_alloc] at hz
  have HZ : Hid (W.there (w.heap.size + 1 + 1) 0 2) := by rw [hW]; exact Lib.hid hz.there
  have c0 : W.cell? ⟨w.heap.size, 0, none⟩ = some (.slice lo rs.length lc) := by rw [hW]; exact hA.cell 0 (by simp)
  have c1 : W.cell? ⟨w.heap.size, 1, none⟩ = some (.slice io rs.length ic) := by rw [hW]; exact hA.cell 1 (by simp)
  have hsz : W.heap.size = w.heap.size + 1 + 1 + 1 := by rw [hW]; simp
  have HB0 : Hid (Below w.heap.size w W) := by rw [hW]; exact Lib.hid ((((Below.refl _ _).alloc (Nat.le_refl _) _).alloc (by simp) _).alloc (by simp; omega) _)
  have HR2 := Lib.hid hr2
  have hz0 : rs.find? (fun o => decide (idO o = x)) = rs.find? (fun o => decide (idO o = x)) := rfl
  clear hA hr1 hz hr2 hz0
  go_enter Tryz.func86, Tryz.ntmps86
  go_wp2
  rw [← hW]
  clear hW
  go_loopw [6] (fun i wr => ∃ k : Nat, k ≤ rs.length ∧ i = .int .i64 k ∧ Hid ((rs.take k).find? (fun o => decide (idO o = x)) = none) ∧ Below W.heap.size W wr) (fun i _ => (rs.length - intOf i).toNat)
  case atStart => exact ⟨0, by omega, rfl, Lib.hid rfl, Below.refl _ _⟩
  case round =>
    obtain ⟨wo, rfl⟩ : ∃ wo : World, wo = wr := ⟨_, rfl⟩
    obtain ⟨k, hk, rfl, hni, hb⟩ := hrel
    have e0 : wo.cell? ⟨w.heap.size, 0, none⟩ = some (.slice lo rs.length lc) := below_load c0 hb (by omega)
    have e1 : wo.cell? ⟨w.heap.size, 1, none⟩ = some (.slice io rs.length ic) := below_load c1 hb (by omega)
    have hwo : W.heap.size ≤ wo.heap.size := hb.size
    by_cases hlt : k < rs.length
    · have hne : rs ≠ [] := by intro e; rw [e] at hlt; simp at hlt
      obtain ⟨bi, oi, rfl, hbi, hci⟩ := HI.out hne
      obtain ⟨bl, ol, rfl, hbl, hcl⟩ := HL.out hne
      have hbw : Below w.heap.size w wo := HB0.out.trans (hb.mono HB0.out.size)
      have f1 := rangeAt_below (hci k hlt) hbw hbi
      have f2 := rangeAt_below HR2.out hb (by omega)
      have f3 := rangeAt_below (hcl k hlt) hbw hbl
      have h32 := h32_of (us := idC (idO rs[k])) (by rw [idC_len, idO_len])
      have heq := HEQ.out (idO rs[k]) (idO_len _)
      have hbo : bi < wo.heap.size := by omega
      have hlo : w.heap.size + 1 < wo.heap.size := by omega
      have k0 : (0 : Int) ≤ k := by omega
      have k1 : (k : Int) < rs.length := by omega
      have hob := HOB.out rs[k]
      clear hci hcl
      by_cases he : idO rs[k] = x
      · have HR : Hid (rs.find? (fun o => decide (idO o = x)) = some rs[k]) := Lib.hid (find_at hlt hni.out (decide_eq_true he))
        rw [show (idO rs[k] == x) = true from beq_iff_eq.2 he] at heq
        clear he hni
        generalize idC (idO rs[k]) = uk at f1 h32 heq
        generalize rs[k] = o at f3 hob HR
        go_wp2
        refine wp_region_bq (by kernel_rfl) (by kernel_rfl) ?_
        have LQ0 := fun x : BW (World.heap wo).size wo => below_load e1 x.hb (by omega)
        repeat (go_big_quiet_step (fail))
        refine bq_row 24 _ _ rfl rfl rfl f1 (by omega) Tryz.underlying24 rfl h32 ?_
        simp only [Act.put, List.setIfInBounds_toArray, List.set_cons_zero, List.set_cons_succ]
        repeat (go_big_quiet_step (fail))
        refine bq_row 24 _ _ rfl rfl rfl f2 (by omega) Tryz.underlying24 rfl h32x ?_
        simp only [Act.put, List.setIfInBounds_toArray, List.set_cons_zero, List.set_cons_succ]
        repeat (go_big_quiet_step (fail))
        refine wpQuiet_nil ?_
        intro wq hbq
        clear LQ0
        have g0 : wq.cell? ⟨w.heap.size, 0, none⟩ = some (.slice (some ⟨bl, ol, none⟩) rs.length lc) := below_load e0 hbq (by omega)
        have g3 := rangeAt_below f3 hbq (by omega)
        have HBQ := Lib.hid (hb.trans (hbq.mono hb.size))
        have hthq : wq.there (w.heap.size + 1 + 1) 0 2 := there_below HZ.out HBQ.out (by omega)
        clear hbq f1 f2 f3 e0 e1 hb
        go_wp2_with (first
          | refine wpList_load_mid rfl 93 _ rfl bl (ol + k * 2) rfl [.int .i64 o.kind, .string o.body] _ g3 Tryz.underlying93 rfl hob ?_
          | refine wpList_store_list rfl 93 _ _ rfl (w.heap.size + 1 + 1) 0 [.int .i64 o.kind, .string o.body] rfl rfl 2 rfl hthq hob (by simp [Value.oneCell']) ?_)
        refine ret_cell2 rfl (w.heap.size + 1 + 1) 0 rfl [.int .i64 o.kind, .string o.body] _ (World.rangeAt_setCells_same wq (w.heap.size + 1 + 1) 0 _ hthq) Tryz.underlying93 rfl hob rfl _ rfl ⟨?_, below_setCells _ (by omega) _ _ _ (HB0.out.trans (HBQ.out.mono HB0.out.size))⟩
        rw [HR.out]; rfl
      · have HN : Hid ((rs.take (k + 1)).find? (fun o => decide (idO o = x)) = none) := Lib.hid (find_next hlt hni.out (decide_eq_false he))
        rw [show (idO rs[k] == x) = false from beq_eq_false_iff_ne.2 he] at heq
        clear he hni
        generalize idC (idO rs[k]) = uk at f1 h32 heq
        clear f3 hob
        go_wp2
        refine wp_region_bq (by kernel_rfl) (by kernel_rfl) ?_
        have LQ0 := fun x : BW (World.heap wo).size wo => below_load e1 x.hb (by omega)
        repeat (go_big_quiet_step (fail))
        refine bq_row 24 _ _ rfl rfl rfl f1 (by omega) Tryz.underlying24 rfl h32 ?_
        simp only [Act.put, List.setIfInBounds_toArray, List.set_cons_zero, List.set_cons_succ]
        repeat (go_big_quiet_step (fail))
        refine bq_row 24 _ _ rfl rfl rfl f2 (by omega) Tryz.underlying24 rfl h32x ?_
        simp only [Act.put, List.setIfInBounds_toArray, List.set_cons_zero, List.set_cons_succ]
        repeat (go_big_quiet_step (fail))
        refine wpQuiet_nil ?_
        intro wq hbq
        clear LQ0
        have HB := Lib.hid (hb.trans (hbq.mono hb.size))
        clear hb hbq f1 f2 e0 e1
        go_wp2
        go_roundw
        case rel => exact ⟨k + 1, by omega, by go_num, HN, HB.out⟩
        case measure => simp [intOf]; omega
    · have hke : k = rs.length := by omega
      have HR : Hid (rs.find? (fun o => decide (idO o = x)) = none) := by
        unfold Hid
        have := hni.out
        rwa [hke, List.take_length] at this
      have d1 : decide ((k : Int) < rs.length) = false := decide_eq_false (by omega)
      have HBW := Lib.hid hb
      have hthq : wo.there (w.heap.size + 1 + 1) 0 2 := there_below HZ.out hb (by omega)
      clear hni hke hb
      have hob := HOB.out ob0
      go_wp2_with (refine wpList_store_list rfl 93 _ _ rfl (w.heap.size + 1 + 1) 0 [.int .i64 ob0.kind, .string ob0.body] rfl rfl 2 rfl hthq hob (by simp [Value.oneCell']) ?_)
      refine ret_cell2 rfl (w.heap.size + 1 + 1) 0 rfl [.int .i64 ob0.kind, .string ob0.body] _ (World.rangeAt_setCells_same wo (w.heap.size + 1 + 1) 0 _ hthq) Tryz.underlying93 rfl hob rfl _ rfl ⟨?_, below_setCells _ (by omega) _ _ _ (HB0.out.trans (HBW.out.mono HB0.out.size))⟩
      rw [HR.out]; rfl
end Go.Proofs.YtbmiiiccnoiffaaGreatDoor
namespace Go.Proofs.YtbmiiiccnoiffaaGreatDoor
open Go.RowKit
section
variable {get : List UInt8 → Option Ob} {rec : List UInt8 → ByteArray → Lfs → Nat → FRes} {ahead : ByteArray} {e : Ent} {es : List Ent} {l : Lfs} {n : Nat}
end
theorem grown_drew {W w2 : World} {r : Option Nat} (h : W.drew.grownBy w2 r) : W.grownBy w2 r := ⟨h.os, h.tape, h.output, h.size, h.block⟩
end Go.Proofs.YtbmiiiccnoiffaaGreatDoor
namespace Go.Proofs.YtbmiiiccnoiffaaGreatDoor

/-- The commit of an id. -/
def cmG (get : Idl → Option Ob) (x : Idl) : Option Cmt := match get x with
  | some o => if o.kind = 3 then (match commitOf o.body with
    | some c => some ⟨c.1, c.2.1, c.2.2⟩
    | none => none) else none
  | none => none
theorem cmG_some {get : Idl → Option Ob} {x : Idl} {c : Cmt} (h : cmG get x = some c) : ∃ o, get x = some o ∧ o.kind = 3 ∧ commitOf o.body = some (c.tree, c.pars, c.text) := by
  unfold cmG at h
  cases e : get x with
  | none => rw [e] at h; cases h
  | some o =>
    rw [e] at h
    dsimp only at h
    by_cases h3 : o.kind = 3
    · rw [if_pos h3] at h
      cases e2 : commitOf o.body with
      | none => rw [e2] at h; cases h
      | some d =>
        rw [e2] at h
        cases h
        exact ⟨o, rfl, h3, e2⟩
    · rw [if_neg h3] at h; cases h
theorem cmG_of {get : Idl → Option Ob} {x : Idl} {o : Ob} {t : List UInt8} {l : List (List UInt8)} {s : ByteArray} (h : get x = some o) (h3 : o.kind = 3) (hc : commitOf o.body = some (t, l, s)) : cmG get x = some ⟨t, l, s⟩ := by
  unfold cmG; rw [h]; dsimp only; rw [if_pos h3, hc]
theorem cmG_none {get : Idl → Option Ob} {x : Idl} (h : get x = none) : cmG get x = none := by unfold cmG; rw [h]
/-- What a source's commits are like. -/
structure CmOk (cm : Idl → Option Cmt) (U : List Idl) : Prop where
  few : U.length ≤ 1000
  mem : ∀ x c, cm x = some c → x ∈ U
  len : ∀ x c, cm x = some c → x.length = 32
  tree : ∀ x c, cm x = some c → c.tree.length = 32
  pars : ∀ x c, cm x = some c → ∀ p ∈ c.pars, p.length = 32
  four : ∀ x c, cm x = some c → c.pars.length ≤ 4
  nodup : ∀ x c, cm x = some c → c.pars.Nodup
  text : ∀ x c, cm x = some c → c.text.size ≤ 64
theorem cmOk {l : List Ob} (hl : l.length ≤ 1000) : CmOk (cmG (getS l)) ((rights l).map idO) := by
  have key : ∀ x c, cmG (getS l) x = some c → ∃ o, o ∈ rights l ∧ idO o = x ∧ commitOf o.body = some (c.tree, c.pars, c.text) := fun x c h => by
    obtain ⟨o, h1, _, h3⟩ := cmG_some h
    obtain ⟨g1, g2, g3⟩ := getS_some h1
    exact ⟨o, List.mem_filter.2 ⟨g1, g2⟩, g3, h3⟩
  constructor
  · rw [List.length_map]; exact Nat.le_trans (List.length_filter_le _ _) hl
  · intro x c h; obtain ⟨o, h1, h2, _⟩ := key x c h; exact List.mem_map.2 ⟨o, h1, h2⟩
  · intro x c h; obtain ⟨o, _, h2, _⟩ := key x c h; rw [← h2]; exact idO_len o
  · intro x c h; obtain ⟨o, _, _, h3⟩ := key x c h; exact (commitOf_len h3).1
  · intro x c h; obtain ⟨o, _, _, h3⟩ := key x c h; exact (commitOf_len h3).2.1
  · intro x c h; obtain ⟨o, _, _, h3⟩ := key x c h; exact (commitOf_len h3).2.2.1
  · intro x c h; obtain ⟨o, _, _, h3⟩ := key x c h; exact (commitOf_len h3).2.2.2.2
  · intro x c h; obtain ⟨o, _, _, h3⟩ := key x c h; exact (commitOf_len h3).2.2.2.1
theorem par_of {cm : Idl → Option Cmt} {x : Idl} {c : Cmt} (h : cm x = some c) : par cm x = c.pars := by unfold par; rw [h]
theorem CmOk.parLen {cm : Idl → Option Cmt} {U : List Idl} (h : CmOk cm U) {x p : Idl} (hp : p ∈ par cm x) : p.length = 32 := by
  cases e : cm x with
  | none => unfold par at hp; rw [e] at hp; cases hp
  | some c => rw [par_of e] at hp; exact h.pars x c e p hp
theorem CmOk.parNodup {cm : Idl → Option Cmt} {U : List Idl} (h : CmOk cm U) (x : Idl) : (par cm x).Nodup := by
  cases e : cm x with
  | none => unfold par; rw [e]; exact List.nodup_nil
  | some c => rw [par_of e]; exact h.nodup x c e
theorem CmOk.reach {cm : Idl → Option Cmt} {U : List Idl} (h : CmOk cm U) {x y : Idl} (hr : Reach cm x y) (hx : x.length = 32) : y.length = 32 := by
  induction hr with
  | refl => exact hx
  | tail _ hz _ => exact h.parLen hz

theorem Bfs.congr {cm : Idl → Option Cmt} {id : Idl} {V W : Idl → Prop} {Q : List Idl} (h : Bfs cm id V Q) (hVW : ∀ y, V y ↔ W y) : Bfs cm id W Q := by
  have : V = W := funext fun y => propext (hVW y)
  rwa [this] at h
def potB (U V Q : List Idl) : Nat := 5 * (U.filter fun u => !V.contains u).length + Q.length
theorem potB_skip (U V Q : List Idl) (x : Idl) : potB U V Q < potB U V (x :: Q) := by unfold potB; simp
theorem potB_le (U V Q : List Idl) : potB U V Q ≤ 5 * U.length + Q.length := by
  unfold potB
  have := List.length_filter_le (fun u => !V.contains u) U
  omega
theorem potB_take {U V W Q ps : List Idl} {x : Idl} (hx : x ∈ U) (hv : x ∉ V) (hp : ps.length ≤ 4) (hW : ∀ y, y ∈ W ↔ y ∈ V ∨ y = x) : potB U W (Q ++ ps) < potB U V (x :: Q) := by
  unfold potB
  have := filter_lt (fun u => !W.contains u) (fun u => !V.contains u) U x hx (by simpa using hv) (by simp [hW]) (fun y hy => by
    simp only [Bool.not_eq_true', List.contains_eq_mem, decide_eq_false_iff_not] at hy ⊢
    exact fun h => hy ((hW y).2 (.inl h)))
  simp only [List.length_cons, List.length_append]; omega

def sortL (V : List Idl) : List Idl := V.foldl putL []
theorem foldl_putL (V : List Idl) : ∀ S, AscL S → AscL (V.foldl putL S) ∧ ∀ x, x ∈ V.foldl putL S ↔ x ∈ S ∨ x ∈ V := by
  induction V with
  | nil => exact fun S h => ⟨h, fun x => by simp⟩
  | cons a V ih =>
    intro S h
    obtain ⟨h1, h2⟩ := ih (putL S a) (putL_asc h a)
    refine ⟨h1, fun x => ?_⟩
    rw [List.foldl_cons, h2, putL_mem, List.mem_cons]
    constructor
    · rintro ((h | h) | h)
      · exact .inl h
      · exact .inr (.inl h)
      · exact .inr (.inr h)
    · rintro (h | h | h)
      · exact .inl (.inl h)
      · exact .inl (.inr h)
      · exact .inr h
theorem sortL_asc (V : List Idl) : AscL (sortL V) := (foldl_putL V [] List.Pairwise.nil).1
theorem sortL_mem (V : List Idl) (x : Idl) : x ∈ sortL V ↔ x ∈ V := by
  have := (foldl_putL V [] List.Pairwise.nil).2 x
  unfold sortL
  simpa using this
open Classical in
/-- A commit's line, rising. -/
noncomputable def lineL (cm : Idl → Option Cmt) (id : Idl) : Option (List Idl) := if h : ∃ S, IsLine cm id S ∧ AscL S then some h.choose else none
theorem lineL_some {cm : Idl → Option Cmt} {id : Idl} {S : List Idl} (h : lineL cm id = some S) : IsLine cm id S ∧ AscL S := by
  unfold lineL at h
  split at h
  · rename_i hh
    cases h
    exact hh.choose_spec
  · cases h
theorem lineL_eq {cm : Idl → Option Cmt} {id : Idl} {S : List Idl} (h : IsLine cm id S) (ha : AscL S) : lineL cm id = some S := by
  have hh : ∃ S, IsLine cm id S ∧ AscL S := ⟨S, h, ha⟩
  unfold lineL
  rw [dif_pos hh]
  obtain ⟨h1, h2⟩ := hh.choose_spec
  exact congrArg some (ascL_ext h2 ha fun x => by rw [h1.mem, h.mem])
theorem lineL_sort {cm : Idl → Option Cmt} {id : Idl} {V : List Idl} (h : IsLine cm id V) : lineL cm id = some (sortL V) :=
  lineL_eq ⟨(sortL_asc V).nodup, fun x => by rw [sortL_mem, h.mem], fun x hx => h.there x ((sortL_mem V x).1 hx)⟩ (sortL_asc V)
theorem lineL_none {cm : Idl → Option Cmt} {id : Idl} (h : NoLine cm id) : lineL cm id = none := by
  cases e : lineL cm id with
  | none => rfl
  | some S => exact (h.not (lineL_some e).1).elim
theorem IsLine.closed {cm : Idl → Option Cmt} {id : Idl} {S : List Idl} (h : IsLine cm id S) : ∀ x ∈ S, ∀ y ∈ par cm x, y ∈ S := fun x hx y hy => (h.mem y).2 (((h.mem x).1 hx).tail hy)
theorem IsLine.few {cm : Idl → Option Cmt} {U : List Idl} (hU : CmOk cm U) {id : Idl} {S : List Idl} (h : IsLine cm id S) : S.length ≤ U.length :=
  nodup_sub_len S U h.nodup fun x hx => by
    cases e : cm x with
    | none => have := h.there x hx; rw [e] at this; cases this
    | some c => exact hU.mem x c e
/-- Within a line each line is whole. -/
theorem IsLine.sub {cm : Idl → Option Cmt} {id x : Idl} {S : List Idl} (h : IsLine cm id S) (hx : x ∈ S) : ∃ T, IsLine cm x T := by
  classical
  refine ⟨S.filter fun y => decide (Reach cm x y), List.Pairwise.filter _ h.nodup, fun y => ?_, fun y hy => h.there y (List.mem_filter.1 hy).1⟩
  rw [List.mem_filter]
  constructor
  · rintro ⟨_, h2⟩; exact of_decide_eq_true h2
  · intro hr; exact ⟨(h.mem y).2 (((h.mem x).1 hx).trans hr), decide_eq_true hr⟩
theorem lineL_sub {cm : Idl → Option Cmt} {id x : Idl} {S : List Idl} (h : lineL cm id = some S) (hx : x ∈ S) : ∃ T, lineL cm x = some T := by
  obtain ⟨T, hT⟩ := (lineL_some h).1.sub hx
  exact ⟨_, lineL_sort hT⟩
theorem older_line {cm : Idl → Option Cmt} {a b : Idl} {L : List Idl} (h : IsLine cm b L) : (a ∈ L ∧ a ≠ b) ↔ Older cm a b := by
  unfold Older
  rw [h.mem]
  exact ⟨fun ⟨h1, h2⟩ => ⟨h2, h1⟩, fun ⟨h1, h2⟩ => ⟨h2, h1⟩⟩
open Classical in
/-- The bases of two lines, rising. -/
noncomputable def basesL (cm : Idl → Option Cmt) (X Y : List Idl) : List Idl := X.filter fun o => decide (o ∈ Y ∧ ∀ y, y ∈ X → y ∈ Y → ¬ Older cm o y)
open Classical in
theorem basesL_mem {cm : Idl → Option Cmt} {a b : Idl} {X Y : List Idl} (hX : IsLine cm a X) (hY : IsLine cm b Y) (o : Idl) : o ∈ basesL cm X Y ↔ Base cm a b o := by
  unfold basesL Base
  rw [List.mem_filter, decide_eq_true_iff, hX.mem, hY.mem]
  constructor
  · rintro ⟨h1, h2, h3⟩
    exact ⟨⟨h1, h2⟩, fun y hy1 hy2 => h3 y ((hX.mem y).2 hy1) ((hY.mem y).2 hy2)⟩
  · rintro ⟨⟨h1, h2⟩, h3⟩
    exact ⟨h1, h2, fun y hy1 hy2 => h3 y ((hX.mem y).1 hy1) ((hY.mem y).1 hy2)⟩
open Classical in
theorem basesL_asc {cm : Idl → Option Cmt} {X Y : List Idl} (h : AscL X) : AscL (basesL cm X Y) := List.Pairwise.filter _ h
end Go.Proofs.YtbmiiiccnoiffaaGreatDoor
namespace Go.Proofs.YtbmiiiccnoiffaaGreatDoor
variable {cm : Idl → Option Cmt}
/-- How many of a list have a parent. -/
def kids (cm : Idl → Option Cmt) (G : List Idl) (p : Idl) : Nat := (G.filter fun y => (par cm y).contains p).length
theorem kids_snoc (G : List Idl) (x p : Idl) : kids cm (G ++ [x]) p = kids cm G p + if p ∈ par cm x then 1 else 0 := by
  unfold kids
  rw [List.filter_append, List.length_append]
  by_cases h : p ∈ par cm x
  · rw [if_pos h, show [x].filter (fun y => (par cm y).contains p) = [x] from by simp [h]]; rfl
  · rw [if_neg h, show [x].filter (fun y => (par cm y).contains p) = [] from by simp [h]]; rfl
theorem kids_perm {G H : List Idl} (h : G.Perm H) (p : Idl) : kids cm G p = kids cm H p := (h.filter _).length_eq
theorem kids_le (G : List Idl) (p : Idl) : kids cm G p ≤ G.length := List.length_filter_le _ _
theorem kids_zero {G : List Idl} {p : Idl} : kids cm G p = 0 ↔ ∀ y ∈ G, p ∉ par cm y := by
  unfold kids
  rw [List.length_eq_zero_iff, List.filter_eq_nil_iff]
  simp
theorem kids_erase {G : List Idl} {x : Idl} (h : x ∈ G) (p : Idl) : kids cm G p = kids cm (G.erase x) p + if p ∈ par cm x then 1 else 0 := by
  rw [kids_perm (List.perm_cons_erase h) p]
  unfold kids
  rw [List.filter_cons]
  by_cases hp : p ∈ par cm x
  · rw [if_pos hp, if_pos (by simpa using hp)]; rfl
  · rw [if_neg hp, if_neg (by simpa using hp)]; rfl

/-- What is told, what is left, what is ready. -/
structure Tells (cm : Idl → Option Cmt) (L T G R : List Idl) : Prop where
  told : T = logN cm L T.length
  nodup : G.Nodup
  left : ∀ x, x ∈ G ↔ x ∈ L ∧ x ∉ T
  ready : R.Perm (G.filter fun x => decide (kids cm G x = 0))
theorem Tells.mem {L T G R : List Idl} (h : Tells cm L T G R) (x : Idl) : x ∈ R ↔ x ∈ L ∧ readyB cm L T x = true := by
  rw [h.ready.mem_iff, List.mem_filter, decide_eq_true_iff, kids_zero, h.left, readyB_iff]
  constructor
  · rintro ⟨⟨h1, h2⟩, h3⟩
    exact ⟨h1, fun y hy hx => by
      by_cases hyT : y ∈ T
      · exact hyT
      · exact absurd hx (h3 y ((h.left y).2 ⟨hy, hyT⟩)), h2⟩
  · rintro ⟨h1, h2, h3⟩
    exact ⟨⟨h1, h3⟩, fun y hy hx => ((h.left y).1 hy).2 (h2 y ((h.left y).1 hy).1 hx)⟩
theorem Tells.start {L G : List Idl} {R : List Idl} (hG : G.Perm L) (hn : L.Nodup) (hR : R.Perm (G.filter fun x => decide (kids cm G x = 0))) : Tells cm L [] G R :=
  ⟨rfl, hG.nodup_iff.2 hn, fun x => by rw [hG.mem_iff]; simp, hR⟩
/-- The first of a rising list that may be. -/
theorem find_least {p : Idl → Bool} : ∀ {L R : List Idl} {x : Idl}, AscL L → AscL (x :: R) → (∀ y, y ∈ x :: R ↔ y ∈ L ∧ p y = true) → L.find? p = some x
  | [], R, x, _, _, h => by have := (h x).1 (by simp); simp at this
  | a :: L, R, x, hL, hR, h => by
    obtain ⟨hL1, hL2⟩ := List.pairwise_cons.1 hL
    obtain ⟨hR1, hR2⟩ := List.pairwise_cons.1 hR
    obtain ⟨hxL, hxp⟩ := (h x).1 (by simp)
    by_cases ha : p a = true
    · rw [List.find?_cons_of_pos ha]
      have : a ∈ x :: R := (h a).2 ⟨by simp, ha⟩
      rcases List.mem_cons.1 this with e | h1
      · rw [e]
      · rcases List.mem_cons.1 hxL with e | h2
        · rw [e]
        · have := ltB_trans (hR1 a h1) (hL1 x h2)
          rw [ltB_irrefl] at this; cases this
    · rw [List.find?_cons_of_neg ha]
      refine find_least hL2 hR fun y => ?_
      rw [h, List.mem_cons]
      constructor
      · rintro ⟨e | h1, h2⟩
        · rw [e] at h2; exact absurd h2 ha
        · exact ⟨h1, h2⟩
      · rintro ⟨h1, h2⟩; exact ⟨.inr h1, h2⟩
theorem Tells.step {L T G R : List Idl} {x : Idl} (h : Tells cm L T G (x :: R)) (hL : AscL L) (hR : AscL (x :: R)) (hc : ∀ y ∈ L, ∀ p ∈ par cm y, p ∈ L) (ha : Acyc cm) (hp : (par cm x).Nodup) :
    x ∈ G ∧ Tells cm L (T ++ [x]) (G.erase x) (R ++ (par cm x).filter fun p => decide (kids cm (G.erase x) p = 0)) := by
  have hf := find_least hL hR h.mem
  obtain ⟨hxL, hxr⟩ := (h.mem x).1 (by simp)
  have hxT : x ∉ T := (readyB_iff.1 hxr).2
  have hxG : x ∈ G := (h.left x).2 ⟨hxL, hxT⟩
  have hTel : Telling cm L T := by rw [h.told]; exact logN_telling _ _
  have hmem : ∀ y, y ∈ G.erase x ↔ y ∈ G ∧ y ≠ x := fun y => by rw [h.nodup.mem_erase_iff]; exact And.comm
  have hnR : (x :: R).Nodup := hR.nodup
  refine ⟨hxG, ?_, h.nodup.erase x, fun y => ?_, ?_⟩
  · rw [List.length_append, List.length_singleton]
    show _ = logStep cm L (logN cm L T.length)
    unfold logStep
    rw [← h.told, hf]
  · rw [hmem, h.left, List.mem_append, List.mem_singleton]
    constructor
    · rintro ⟨⟨h1, h2⟩, h3⟩; exact ⟨h1, fun h4 => h4.elim h2 h3⟩
    · rintro ⟨h1, h2⟩; exact ⟨⟨h1, fun h3 => h2 (.inl h3)⟩, fun h3 => h2 (.inr h3)⟩
  · have hnP : ((par cm x).filter fun p => decide (kids cm (G.erase x) p = 0)).Nodup := List.Pairwise.filter _ hp
    have hrk : ∀ y, y ∈ x :: R → kids cm G y = 0 := fun y hy => by
      have := (List.mem_filter.1 (h.ready.mem_iff.1 hy)).2
      exact of_decide_eq_true this
    refine (List.perm_ext_iff_of_nodup ?_ (List.Pairwise.filter _ (h.nodup.erase x))).2 fun y => ?_
    · rw [List.nodup_append]
      refine ⟨(List.nodup_cons.1 hnR).2, hnP, fun a h1 b h2 e => ?_⟩
      subst e
      have h3 := hrk a (List.mem_cons_of_mem _ h1)
      rw [kids_zero] at h3
      exact h3 x hxG (List.mem_filter.1 h2).1
    · rw [List.mem_append, List.mem_filter, List.mem_filter, decide_eq_true_iff]
      have hke := kids_erase (cm := cm) hxG y
      constructor
      · rintro (h1 | ⟨h1, h2⟩)
        · have h3 := hrk y (List.mem_cons_of_mem _ h1)
          exact ⟨(hmem y).2 ⟨(List.mem_filter.1 (h.ready.mem_iff.1 (List.mem_cons_of_mem _ h1))).1, fun e => (List.nodup_cons.1 hnR).1 (e ▸ h1)⟩, by omega⟩
        · refine ⟨(hmem y).2 ⟨(h.left y).2 ⟨hc x hxL y h1, fun hyT => ?_⟩, fun e => ?_⟩, h2⟩
          · obtain ⟨i, hi, ei⟩ := List.getElem_of_mem hyT
            have := hTel.ahead i hi x hxL (by rw [ei]; exact h1)
            exact hxT (List.mem_of_mem_take this)
          · subst e; exact ha y y h1 (.refl _)
      · rintro ⟨h1, h2⟩
        by_cases hpx : y ∈ par cm x
        · exact .inr ⟨hpx, h2⟩
        · rw [if_neg hpx] at hke
          have h3 : y ∈ x :: R := h.ready.mem_iff.2 (List.mem_filter.2 ⟨((hmem y).1 h1).1, decide_eq_true (by omega)⟩)
          rcases List.mem_cons.1 h3 with e | h4
          · exact absurd e ((hmem y).1 h1).2
          · exact .inl h4
theorem Tells.sorted {L T G R S : List Idl} (h : Tells cm L T G R) (hS : S.Perm R) : Tells cm L T G S := ⟨h.told, h.nodup, h.left, hS.trans h.ready⟩
/-- Where nothing is ready, all is told. -/
theorem Tells.done {L T G : List Idl} (h : Tells cm L T G []) (hL : AscL L) (ha : Acyc cm) : T = logOf cm L := by
  have hTel : Telling cm L T := by rw [h.told]; exact logN_telling _ _
  have hle : T.length ≤ L.length := nodup_sub_len T L hTel.nodup hTel.sub
  have : T.length = L.length := by
    rcases Nat.lt_or_ge T.length L.length with hlt | hge
    · obtain ⟨x, hx, hr⟩ := ready_ex ha hlt hL.nodup
      have := (h.mem x).2 ⟨hx, hr⟩
      cases this
    · omega
  unfold logOf
  rw [← this]; exact h.told
theorem Tells.len {L T G R : List Idl} (h : Tells cm L T G R) : T.length ≤ L.length ∧ G.length ≤ L.length ∧ R.length ≤ L.length := by
  have hTel : Telling cm L T := by rw [h.told]; exact logN_telling _ _
  have h1 : G.length ≤ L.length := nodup_sub_len G L h.nodup fun x hx => ((h.left x).1 hx).1
  refine ⟨nodup_sub_len T L hTel.nodup hTel.sub, h1, ?_⟩
  rw [h.ready.length_eq]
  exact Nat.le_trans (List.length_filter_le _ _) h1
/-- A round of the children's counting: how many are left of those before k. -/
def kidsJ (cm : Idl → Option Cmt) (G : List Idl) (x : Idl) (k : Nat) (p : Idl) : Nat := kids cm (G.erase x) p + if p ∈ (par cm x).drop k then 1 else 0
theorem kidsJ_start {G : List Idl} {x : Idl} (h : x ∈ G) : kidsJ cm G x 0 = kids cm G := by
  funext p; unfold kidsJ; rw [List.drop_zero]; exact (kids_erase h p).symm
theorem kidsJ_end (G : List Idl) (x : Idl) {k : Nat} (h : (par cm x).length ≤ k) : kidsJ cm G x k = kids cm (G.erase x) := by
  funext p; unfold kidsJ; rw [List.drop_eq_nil_of_le h]; simp
theorem kidsJ_next {G : List Idl} {x : Idl} {k : Nat} (h : k < (par cm x).length) (hn : (par cm x).Nodup) (p : Idl) : kidsJ cm G x (k + 1) p = if p = (par cm x)[k] then kidsJ cm G x k p - 1 else kidsJ cm G x k p := by
  unfold kidsJ
  rw [List.drop_eq_getElem_cons h]
  have hnd : (par cm x)[k] ∉ (par cm x).drop (k + 1) := by
    have := List.Pairwise.sublist (List.drop_sublist k _) hn
    rw [List.drop_eq_getElem_cons h] at this
    exact (List.nodup_cons.1 this).1
  by_cases e : p = (par cm x)[k]
  · rw [if_pos e, if_neg (by rw [e]; exact hnd), if_pos (by rw [e]; exact List.mem_cons_self)]; omega
  · rw [if_neg e]
    congr 1
    by_cases h2 : p ∈ (par cm x).drop (k + 1)
    · rw [if_pos h2, if_pos (List.mem_cons_of_mem _ h2)]
    · rw [if_neg h2, if_neg (fun h3 => by rcases List.mem_cons.1 h3 with h4 | h4; exact e h4; exact h2 h4)]
theorem kidsJ_at {G : List Idl} {x : Idl} {k : Nat} (h : k < (par cm x).length) : kidsJ cm G x k (par cm x)[k] = kids cm (G.erase x) (par cm x)[k] + 1 := by
  unfold kidsJ
  rw [List.drop_eq_getElem_cons h, if_pos List.mem_cons_self]
end Go.Proofs.YtbmiiiccnoiffaaGreatDoor
namespace Go.Proofs.YtbmiiiccnoiffaaGreatDoor
variable {cm : Idl → Option Cmt}
/-- Asked of the first k of a line. -/
def ReadyTo (cm : Idl → Option Cmt) (L T : List Idl) (x : Idl) (k : Nat) : Prop := ∀ j (h : j < L.length), j < k → x ∈ par cm L[j] → L[j] ∈ T
theorem ReadyTo.next {L T : List Idl} {x : Idl} {k : Nat} (h : ReadyTo cm L T x k) (hk : k < L.length) (hx : x ∈ par cm L[k] → L[k] ∈ T) : ReadyTo cm L T x (k + 1) := fun j hj hjk hp => by
  by_cases e : j = k
  · subst e; exact hx hp
  · exact h j hj (by omega) hp

structure Rnd (cm : Idl → Option Cmt) (x0 : Idl) (P V Q : List Idl) : Prop where
  start : ∀ p ∈ P, p ∈ V ∨ p ∈ Q
  shut : ∀ v ∈ V, ∀ p ∈ par cm v, p ∈ V ∨ p ∈ Q
  off : x0 ∉ V
theorem Rnd.init (x0 : Idl) (P : List Idl) : Rnd cm x0 P [] P := ⟨fun _ h => .inr h, fun _ h => (List.not_mem_nil h).elim, List.not_mem_nil⟩
theorem Rnd.skip {x0 x : Idl} {P V Q : List Idl} (h : Rnd cm x0 P V (x :: Q)) (hx : x ∈ V) : Rnd cm x0 P V Q := by
  have key : ∀ p, p ∈ V ∨ p ∈ x :: Q → p ∈ V ∨ p ∈ Q := fun p hp => by
    rcases hp with h1 | h1
    · exact .inl h1
    · rcases List.mem_cons.1 h1 with rfl | h2
      · exact .inl hx
      · exact .inr h2
  exact ⟨fun p hp => key p (h.start p hp), fun v hv p hp => key p (h.shut v hv p hp), h.off⟩
theorem Rnd.take {x0 x : Idl} {P V Q : List Idl} (h : Rnd cm x0 P V (x :: Q)) (hx : x ≠ x0) : Rnd cm x0 P (V ++ [x]) (Q ++ par cm x) := by
  have key : ∀ p, p ∈ V ∨ p ∈ x :: Q → p ∈ V ++ [x] ∨ p ∈ Q ++ par cm x := fun p hp => by
    rcases hp with h1 | h1
    · exact .inl (List.mem_append_left _ h1)
    · rcases List.mem_cons.1 h1 with rfl | h2
      · exact .inl (List.mem_append_right _ (by simp))
      · exact .inr (List.mem_append_left _ h2)
  refine ⟨fun p hp => key p (h.start p hp), fun v hv p hp => ?_, fun hm => ?_⟩
  · rcases List.mem_append.1 hv with h1 | h1
    · exact key p (h.shut v h1 p hp)
    · rw [List.mem_singleton.1 h1] at hp
      exact .inr (List.mem_append_right _ hp)
  · rcases List.mem_append.1 hm with h1 | h1
    · exact h.off h1
    · exact hx (List.mem_singleton.1 h1).symm
theorem Rnd.done {x0 : Idl} {P V : List Idl} (h : Rnd cm x0 P V []) {p z : Idl} (hp : p ∈ P) (hr : Reach cm p z) : z ≠ x0 := by
  have : z ∈ V := by
    induction hr with
    | refl => exact (h.start _ hp).resolve_right (by simp)
    | tail _ hz ih => exact (h.shut _ ih _ hz).resolve_right (by simp)
  exact fun e => h.off (e ▸ this)
/-- A right commit's parents. -/
def parsO (o : Ob) : List Idl := match commitOf o.body with
  | some c => c.2.1
  | none => []
def allP (l : List Ob) : List Idl := (rights l).flatMap parsO
theorem parsO_len (o : Ob) : (parsO o).length ≤ 4 ∧ ∀ p ∈ parsO o, p.length = 32 := by
  unfold parsO
  cases e : commitOf o.body with
  | none => exact ⟨by simp, fun p hp => by cases hp⟩
  | some c =>
    obtain ⟨t, p, s⟩ := c
    have := commitOf_len e
    exact ⟨this.2.2.1, this.2.1⟩
theorem flatMap_len (l : List Ob) : (l.flatMap parsO).length ≤ 4 * l.length := by
  induction l with
  | nil => exact Nat.le_refl _
  | cons a l ih =>
    rw [List.flatMap_cons, List.length_append, List.length_cons]
    have := (parsO_len a).1
    omega
theorem allP_len (l : List Ob) : (allP l).length ≤ 4 * l.length := by
  have h1 := flatMap_len (rights l)
  have h2 : (rights l).length ≤ l.length := List.length_filter_le _ _
  unfold allP
  omega
theorem allP_of {l : List Ob} {o : Ob} (h : o ∈ rights l) : ∀ p ∈ parsO o, p ∈ allP l := fun _ hp => List.mem_flatMap.2 ⟨o, h, hp⟩
theorem allP_par (l : List Ob) (x : Idl) : ∀ p ∈ par (cmG (getS l)) x, p ∈ allP l := fun p hp => by
  cases e : cmG (getS l) x with
  | none => unfold par at hp; rw [e] at hp; cases hp
  | some c =>
    rw [par_of e] at hp
    obtain ⟨o, h1, _, h3⟩ := cmG_some e
    obtain ⟨g1, g2, _⟩ := getS_some h1
    exact allP_of (List.mem_filter.2 ⟨g1, g2⟩) p (by unfold parsO; rw [h3]; exact hp)
theorem allP_32 (l : List Ob) : ∀ p ∈ allP l, p.length = 32 := fun p hp => by
  obtain ⟨o, _, h⟩ := List.mem_flatMap.1 hp
  exact (parsO_len o).2 p h
/-- Asked of an object: it isn't its own ancestor. -/
def NoRnd (l : List Ob) (o : Ob) : Prop := o.kind = 3 → ∀ p ∈ parsO o, ∀ z, Reach (cmG (getS l)) p z → z ≠ idO o
theorem acyc_of {l : List Ob} (h : ∀ o ∈ rights l, NoRnd l o) : Acyc (cmG (getS l)) := fun x y hy hr => by
  cases e : cmG (getS l) x with
  | none => unfold par at hy; rw [e] at hy; cases hy
  | some c =>
    rw [par_of e] at hy
    obtain ⟨o, h1, h2, h3⟩ := cmG_some e
    obtain ⟨g1, g2, g3⟩ := getS_some h1
    exact h o (List.mem_filter.2 ⟨g1, g2⟩) h2 y (by unfold parsO; rw [h3]; exact hy) x hr g3.symm

theorem log_head (ha : Acyc cm) {id : Idl} {S : List Idl} (h : IsLine cm id S) : ∃ T, logOf cm S = id :: T := by
  have hid : id ∈ S := (h.mem id).2 (.refl _)
  have hpos : 0 < S.length := List.length_pos_of_mem hid
  have hlen := logOf_len ha h.nodup
  have hT := logOf_telling (cm := cm) S
  cases e : logOf cm S with
  | nil => rw [e] at hlen; simp at hlen; omega
  | cons x T =>
    rw [e] at hT
    have hx : x ∈ S := hT.sub x (by simp)
    have hr := (h.mem x).1 hx
    have : x = id := by
      cases hr with
      | refl => rfl
      | tail h1 hz =>
        rename_i y
        have hy : y ∈ S := (h.mem y).2 h1
        have := hT.ahead 0 (by simp) y hy (by simpa using hz)
        simp at this
    exact ⟨T, by rw [this]⟩
end Go.Proofs.YtbmiiiccnoiffaaGreatDoor
