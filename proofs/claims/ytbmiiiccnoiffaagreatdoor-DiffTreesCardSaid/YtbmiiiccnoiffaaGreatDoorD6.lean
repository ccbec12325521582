/- Walks: files by their paths; two lists are the same. -/
import Derived.Test.YtbmiiiccnoiffaaGreatDoorD5
import Derived.Maps.OwnSet
import Derived.Maps.OwnOps
import Derived.Maps.StringElems
import Derived.Maps.RangeWalk
import Derived.Sort.KeysCollected
namespace Go.Proofs.YtbmiiiccnoiffaaGreatDoor
open Go.RowKit Go.Maps
set_option maxRecDepth 100000

theorem strKeyed : Keyed Tryz.prog 9 := string_keyed Tryz.underlying9
/-- The map is known: what it holds at each text. -/
def Says (D : DataW Unit) (f : ByteArray → Option ByteArray) : Prop :=
  ∀ p, Maps.has D (.string p.data.toList) = (f p).isSome ∧ ∀ s, f p = some s → ∀ zd, D.atKey (.string p.data.toList) zd = .lit (.string s.data.toList)
/-- Block b holds a map of texts. -/
def StrMap (w : World) (b n : Nat) (f : ByteArray → Option ByteArray) : Prop := ∃ D : DataW Unit, w.ownsMap Tryz.prog 9 (plainElem Tryz.prog 9) b n D ∧ Says D f
theorem says_none : Says (.map []) fun _ => none := fun _ => ⟨rfl, fun _ h => by cases h⟩
theorem says_put {D : DataW Unit} {f : ByteArray → Option ByteArray} (h : Says D f) (hm : IsMap D) (p s : ByteArray) : Says (D.put (.string p.data.toList) (.lit (.string s.data.toList))) fun q => if q = p then some s else f q := by
  intro q
  show has _ _ = (if q = p then some s else f q).isSome ∧ ∀ t, (if q = p then some s else f q) = some t → ∀ zd, _ = _
  by_cases e : q = p
  · subst e
    rw [if_pos rfl]
    exact ⟨by rw [has_put_same hm (by trivial)]; rfl, fun t ht zd => by cases ht; exact atKey_put_same hm (by trivial) _ _⟩
  · rw [if_neg e]
    have hne : (Lit.string q.data.toList) ≠ .string p.data.toList := fun h => e (ba_ext (by injection h))
    exact ⟨by rw [has_put_other hne]; exact (h q).1, fun t ht zd => by rw [atKey_put_other hne]; exact (h q).2 t ht zd⟩
theorem StrMap.below {w w' : World} {b n B : Nat} {f : ByteArray → Option ByteArray} (h : StrMap w b n f) (hb : Below B w w') (hB : b < B) : StrMap w' b n f := by
  obtain ⟨D, ⟨es, clock, h1, h2⟩, h3⟩ := h
  exact ⟨D, ⟨es, clock, (hb.block b hB).trans h1, h2⟩, h3⟩
theorem StrMap.lt {w : World} {b n : Nat} {f : ByteArray → Option ByteArray} (h : StrMap w b n f) : b < w.heap.size := by obtain ⟨D, h, _⟩ := h; exact h.lt

theorem zeroS (w : World) : (zeroValue 9).run Tryz.prog w = .ok (.string ByteArray.empty) w := by kernel_rfl

/-- 'v, ok := m[p]'. -/
theorem wpList_lookup_says {w : World} {ops : Array Oper} {rest : List Oper} {o : Oper} {a : Act} {Q : Exit → Act → World → Prop} (hg : o.guard = none) (m x : Operand) (t : TypeId) (hop : o.op = Op.lookup t m x true)
    (ht : Tryz.prog.underlying t = some (.map 9 9)) (b n : Nat) (f : ByteArray → Option ByteArray) (hm : a.eval m = .map (some b)) (hown : StrMap w b n f) (p : ByteArray) (hx : a.eval x = .string p) (r : Option ByteArray) (hr : f p = r) (hp : p.size ≤ maxLen)
    (hK : wpList Tryz.prog ops Q rest (a.put o.dst (.tuple #[.string (r.getD ByteArray.empty), .bool r.isSome])) w) : wpList Tryz.prog ops Q (o :: rest) a w := by
  obtain ⟨D, hown, hs⟩ := hown
  subst hr
  refine wpList_lookup_own_ok w hg m x t hop 9 9 strKeyed ht (plainElem Tryz.prog 9) (zeroS w) (.lit (.string [])) [] (plainElem_string Tryz.underlying9 (by simp)) b n D hm hown (.string p) (.string p.data.toList) hx (Go.WideMaps.keyOf_string_mk Tryz.underlying9 hp) fun v ps hv => ?_
  obtain ⟨h1, h2⟩ := hs p
  obtain ⟨c, rfl, hc, _⟩ := plainElem_string_inv Tryz.underlying9 hv
  have hc2 : D.atKey (.string p.data.toList) (.lit (.string [])) = .lit (.string c.data.toList) := congrArg Prod.fst hc
  rw [h1]
  cases e : f p with
  | none =>
    rw [e] at h1 hK
    rw [atKey_of_not_has h1] at hc2
    have : c = ByteArray.empty := ba_ext (by injection hc2 with h; injection h with h; exact h.symm)
    rw [this]; exact hK
  | some s =>
    rw [e] at hK
    rw [h2 s e] at hc2
    have : c = s := ba_ext (by injection hc2 with h; injection h with h; exact h.symm)
    rw [this]; exact hK

/-- 'm[p] = s'. -/
theorem wpList_update_says {w : World} {ops : Array Oper} {rest : List Oper} {o : Oper} {a : Act} {Q : Exit → Act → World → Prop} (hg : o.guard = none) (m x v : Operand) (t : TypeId) (hop : o.op = Op.mapUpdate t m x v)
    (ht : Tryz.prog.underlying t = some (.map 9 9)) (b n : Nat) (f : ByteArray → Option ByteArray) (hm : a.eval m = .map (some b)) (hown : StrMap w b n f) (p s : ByteArray) (hx : a.eval x = .string p) (hv : a.eval v = .string s) (hp : p.size ≤ maxLen) (hs : s.size ≤ maxLen) (hn : n < maxLen)
    (hK : ∀ w', StrMap w' b (n + 1) (fun q => if q = p then some s else f q) → w.grownBy w' (some b) → wpList Tryz.prog ops Q rest (a.put o.dst undef) w') : wpList Tryz.prog ops Q (o :: rest) a w := by
  obtain ⟨D, hown, hD⟩ := hown
  exact wpList_mapUpdate_own w hg m x v t hop 9 9 strKeyed ht _ b n D hm hown hn (.string p) (.string s) (.string p.data.toList) hx hv (Go.WideMaps.keyOf_string_mk Tryz.underlying9 hp) _ [] (plainElem_string Tryz.underlying9 hs) fun w' h1 h2 => hK w' ⟨_, h1, says_put hD hown.isMap p s⟩ h2

theorem findS_take (l : List Lf) (k : Nat) (h : k < l.length) (q : ByteArray) : findS (l.take (k + 1)) q = (findS (l.take k) q).or (if l[k].1 = q then some l[k].2 else none) := by
  unfold findS
  rw [List.take_succ_eq_append_getElem h, List.find?_append]
  by_cases e : l[k].1 = q
  · cases h : (l.take k).find? (fun f => decide (f.1 = q)) <;> simp [e]
  · cases h : (l.take k).find? (fun f => decide (f.1 = q)) <;> simp [e]

set_option maxHeartbeats 2000000 in
theorem dof_any (v : Value) (l : List Lf) (w : World) (hv : LeafRow w v l) (hl : ∀ f ∈ l, f.1.size ≤ 1000000 ∧ f.2.size ≤ 1000000) (hn : l.length ≤ 1000000) :
    Calls Tryz.prog 115 #[v] w fun e w' => ∃ b n, e = .returned (.map (some b)) ∧ n ≤ 1000000 ∧ w.heap.size ≤ b ∧ StrMap w' b n (findS l) ∧ Below w.heap.size w w' := by
  obtain ⟨ao, cap, rfl, hmax, hv⟩ := hv.open
  have HV := Lib.hid hv
  have HL := Lib.hid hl
  clear hv hl
  have hmm := @run_makeMap Tryz.prog
  go_enter Tryz.func115, Tryz.ntmps115
  go_wp2
  go_loopw [11] (fun i wr => ∃ k n : Nat, k ≤ l.length ∧ i = .int .i64 k ∧ n ≤ k ∧ StrMap wr w.heap.size n (findS (l.take k)) ∧ Below w.heap.size w wr) (fun i _ => (l.length - intOf i).toNat)
  case atStart => exact ⟨0, 0, by omega, rfl, by omega, ⟨_, World.ownsMap_made _ _ _ _, says_none⟩, (Below.refl _ _).alloc (Nat.le_refl _) _⟩
  case round =>
    obtain ⟨k, n, hk, rfl, hnk, hm, hb⟩ := hrel
    by_cases hlt : k < l.length
    · obtain ⟨b1, o1, rfl, hl1, hc1⟩ := HV.out (by intro e; rw [e] at hlt; simp at hlt)
      have c1 := below_load (hc1 k hlt).1 hb hl1
      have c2 := below_load (hc1 k hlt).2 hb hl1
      have hps := HL.out l[k] (List.getElem_mem hlt)
      have HT := Lib.hid (findS_take l k hlt)
      clear hc1
      generalize l[k].1 = x at c1 hps HT
      generalize l[k].2 = y at c2 hps HT
      have hbx : Below w.heap.size w wr := hb
      have hlo : b1 < wr.heap.size := by have := hb.size; omega
      have HM := Lib.hid hm
      clear hm
      cases ef : findS (l.take k) x with
      | none =>
        go_wp2_with (first
          | (at_lookup; refine wpList_lookup_says rfl (.tmp 16) (.tmp 18) 195 rfl Tryz.underlying195 w.heap.size n (findS (l.take k)) rfl ?hm x rfl none ef ?hp ?_)
          | (at_mapUpdate; refine wpList_update_says rfl (.tmp 24) (.tmp 26) (.tmp 28) 195 rfl Tryz.underlying195 w.heap.size n (findS (l.take k)) rfl ?hm2 x y rfl rfl ?hp2 ?hs2 ?hn2 ?_))
        case hm => exact HM.out.below ((Below.refl _ wr).alloc (Nat.le_refl _) _) HM.out.lt
        case hp => unfold maxLen; omega
        case hm2 => exact HM.out.below ((Below.refl _ wr).alloc (Nat.le_refl _) _) HM.out.lt
        case hp2 => unfold maxLen; omega
        case hs2 => unfold maxLen; omega
        case hn2 => unfold maxLen; omega
        intro w1 hm1 hg1
        go_wp2
        go_roundw
        case rel =>
          refine ⟨k + 1, n + 1, by omega, by go_num, by omega, ?_, (hb.alloc hb.size _).grown hg1 (by have := hb.size; simp; omega) (fun j hj => by cases hj; exact Nat.le_refl _)⟩
          have e : findS (l.take (k + 1)) = fun q => if q = x then some y else findS (l.take k) q := by
            funext q
            rw [HT.out q]
            by_cases e : q = x
            · subst e; rw [ef, if_pos rfl]; simp
            · rw [if_neg e, if_neg (fun h => e h.symm), Option.or_none]
          rw [e]; exact hm1
        case measure => simp [intOf]; omega
      | some t =>
        go_wp2_with (at_lookup; refine wpList_lookup_says rfl (.tmp 16) (.tmp 18) 195 rfl Tryz.underlying195 w.heap.size n (findS (l.take k)) rfl ?hm x rfl (some t) ef ?hp ?_)
        case hm => exact HM.out.below ((Below.refl _ wr).alloc (Nat.le_refl _) _) HM.out.lt
        case hp => unfold maxLen; omega
        go_roundw
        case rel =>
          refine ⟨k + 1, n, by omega, by go_num, by omega, ?_, hb.alloc hb.size _⟩
          have e : findS (l.take (k + 1)) = findS (l.take k) := by
            funext q
            rw [HT.out q]
            by_cases e : x = q
            · subst e; rw [ef, if_pos rfl]; rfl
            · rw [if_neg e, Option.or_none]
          rw [e]; exact HM.out.below ((Below.refl _ wr).alloc (Nat.le_refl _) _) HM.out.lt
        case measure => simp [intOf]; omega
    · obtain rfl : k = l.length := by omega
      rw [List.take_length] at hm
      go_wp2
      go_ret
      exact ⟨_, n, rfl, by omega, Nat.le_refl _, hm, hb⟩

set_option maxHeartbeats 1000000 in
theorem same_any (v u : Value) (l m : List (ByteArray × Nat)) (w : World) (hv : ApRow w v l) (hu : ApRow w u m) (he : l = m) :
    Calls Tryz.prog 37 #[v, u] w fun e w' => e = .returned (.bool true) ∧ Below w.heap.size w w' := by
  subst he
  obtain ⟨ao, cap, rfl, hmax, hv⟩ := hv.open
  obtain ⟨bo, cap2, rfl, _, hu⟩ := hu.open
  unfold maxLen at hmax
  have HV := Lib.hid hv
  have HU := Lib.hid hu
  clear hv hu
  go_enter Tryz.func37, Tryz.ntmps37
  go_wp2
  go_loopw [5] (fun i wr => ∃ k : Nat, k ≤ l.length ∧ i = .int .i64 k ∧ Below w.heap.size w wr) (fun i _ => (l.length - intOf i).toNat)
  case atStart => exact ⟨0, by omega, rfl, Below.refl _ _⟩
  case round =>
    obtain ⟨k, hk, rfl, hb⟩ := hrel
    by_cases hlt : k < l.length
    · obtain ⟨b1, o1, rfl, hl1, hc1⟩ := HV.out (by intro e; rw [e] at hlt; simp at hlt)
      obtain ⟨b2, o2, rfl, hl2, hc2⟩ := HU.out (by intro e; rw [e] at hlt; simp at hlt)
      have c1 := below_load (hc1 k hlt).1 hb hl1
      have c2 := below_load (hc1 k hlt).2 hb hl1
      have c3 := below_load (hc2 k hlt).1 hb hl2
      have c4 := below_load (hc2 k hlt).2 hb hl2
      clear hc1 hc2
      generalize l[k].1 = x at c1 c3
      generalize l[k].2 = y at c2 c4
      go_wp2
      go_quiet (fail)
      go_wp2
      go_roundw
      case rel => exact ⟨k + 1, by omega, by go_num, below_drewN hb _⟩
      case measure => simp [intOf]; omega
    · obtain rfl : k = l.length := by omega
      go_wp2
      go_ret
      exact ⟨rfl, hb⟩
end Go.Proofs.YtbmiiiccnoiffaaGreatDoor
