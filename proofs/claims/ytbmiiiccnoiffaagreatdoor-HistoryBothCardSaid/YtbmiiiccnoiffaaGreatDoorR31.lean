/- YtbmiiiccnoiffaaGreatDoorR31: texts Z0 of this claim, in one. -/
import Derived.Test.YtbmiiiccnoiffaaGreatDoorR16
import Derived.Test.YtbmiiiccnoiffaaGreatDoorR18
import Derived.Test.YtbmiiiccnoiffaaGreatDoorR20
namespace Go.Proofs.YtbmiiiccnoiffaaGreatDoor
open Go.RowKit Go.Maps Go.WideMaps
set_option maxRecDepth 100000

/-- The map is known: what it holds at each id. -/
def SaysI (D : DataW Value) (f : List UInt8 → Option Ob) : Prop :=
  ∀ x, x.length = 32 → Maps.has D (keyI x) = (f x).isSome ∧ ∀ o, f x = some o → ∀ zd, D.atKey (keyI x) zd = .held (.agg #[.int .i64 o.kind, .string o.body])
/-- Block b holds a map of objects by ids. -/
def IdMap (w : World) (b n : Nat) (f : List UInt8 → Option Ob) : Prop := ∃ D : DataW Value, w.ownsMap Tryz.prog 24 heldR b n D ∧ SaysI D f
theorem saysI_none : SaysI (.map []) fun _ => none := fun _ _ => ⟨rfl, fun _ h => by cases h⟩
theorem saysI_put {D : DataW Value} {f : List UInt8 → Option Ob} (h : SaysI D f) (hm : IsMap D) (p : List UInt8) (hp : p.length = 32) (o : Ob) : SaysI (D.put (keyI p) (.held (.agg #[.int .i64 o.kind, .string o.body]))) fun q => if q = p then some o else f q := by
  intro q hq
  show has _ _ = (if q = p then some o else f q).isSome ∧ ∀ t, (if q = p then some o else f q) = some t → ∀ zd, _ = _
  have hk := idKeyed.key (keyI_eq hp)
  by_cases e : q = p
  · subst e
    rw [if_pos rfl]
    exact ⟨by rw [has_put_same hm hk]; rfl, fun t ht zd => by cases ht; exact atKey_put_same hm hk _ _⟩
  · rw [if_neg e]
    have hne : keyI q ≠ keyI p := fun h => e (keyI_inj hq hp h)
    exact ⟨by rw [has_put_other hne]; exact (h q hq).1, fun t ht zd => by rw [atKey_put_other hne]; exact (h q hq).2 t ht zd⟩
theorem IdMap.below {w w' : World} {b n B : Nat} {f : List UInt8 → Option Ob} (h : IdMap w b n f) (hb : Below B w w') (hB : b < B) : IdMap w' b n f := by
  obtain ⟨D, ⟨es, clock, h1, h2⟩, h3⟩ := h
  exact ⟨D, ⟨es, clock, (hb.block b hB).trans h1, h2⟩, h3⟩
theorem IdMap.lt {w : World} {b n : Nat} {f : List UInt8 → Option Ob} (h : IdMap w b n f) : b < w.heap.size := by obtain ⟨D, h, _⟩ := h; exact h.lt
theorem zeroO (w : World) : (zeroValue 93).run Tryz.prog w = .ok (.agg #[.int .i64 0, .string ⟨#[]⟩]) w := by kernel_rfl

/-- 'o, ok := m[id]', whatever world it is in that holds the map. -/
theorem run_lookup_id (w : World) (t : TypeId) (ht : Tryz.prog.underlying t = some (.map 24 93)) (b n : Nat) (f : List UInt8 → Option Ob) (hown : IdMap w b n f) (x : List UInt8) (hx : x.length = 32) :
    (Instr.lookup t (.map (some b)) (.agg (idC x).toArray) true).run Tryz.prog w = .ok (.tuple #[.agg #[.int .i64 ((f x).getD ob0).kind, .string ((f x).getD ob0).body], .bool (f x).isSome]) w := by
  obtain ⟨D, hown, hs⟩ := hown
  obtain ⟨v, ps, hrun, hv⟩ := hown.look_ok idKeyed ht (zeroO w) (zd := .held (.agg #[.int .i64 0, .string ⟨#[]⟩])) (zp := []) rfl (keyI_eq hx)
  rw [hrun]
  obtain ⟨h1, h2⟩ := hs x hx
  have hv2 : D.atKey (keyI x) (.held (.agg #[.int .i64 0, .string ⟨#[]⟩])) = .held v := by
    unfold heldR at hv
    injection hv with hv
    exact (congrArg Prod.fst hv).symm
  rw [h1]
  cases e : f x with
  | none =>
    rw [e] at h1
    rw [atKey_of_not_has h1] at hv2
    injection hv2 with h
    rw [← h]; rfl
  | some o =>
    rw [h2 o e] at hv2
    injection hv2 with h
    rw [← h]; rfl

/-- 'm[id] = o'. -/
theorem wpList_update_id {w : World} {ops : Array Oper} {rest : List Oper} {o : Oper} {a : Act} {Q : Exit → Act → World → Prop} (hg : o.guard = none) (m x v : Operand) (t : TypeId) (hop : o.op = Op.mapUpdate t m x v)
    (ht : Tryz.prog.underlying t = some (.map 24 93)) (b n : Nat) (f : List UInt8 → Option Ob) (hm : a.eval m = .map (some b)) (hown : IdMap w b n f) (p : List UInt8) (hp : p.length = 32) (ob : Ob) (hx : a.eval x = .agg (idC p).toArray) (hv : a.eval v = .agg #[.int .i64 ob.kind, .string ob.body]) (hn : n < maxLen)
    (hK : ∀ w', IdMap w' b (n + 1) (fun q => if q = p then some ob else f q) → w.grownBy w' (some b) → wpList Tryz.prog ops Q rest (a.put o.dst undef) w') : wpList Tryz.prog ops Q (o :: rest) a w := by
  obtain ⟨D, hown, hD⟩ := hown
  exact wpList_mapUpdate_own w hg m x v t hop 24 93 idKeyed ht heldR b n D hm hown hn (.agg (idC p).toArray) (.agg #[.int .i64 ob.kind, .string ob.body]) (keyI p) hx hv (keyI_eq hp) _ [] rfl fun w' h1 h2 => hK w' ⟨_, h1, saysI_put hD hown.isMap p hp ob⟩ h2
end Go.Proofs.YtbmiiiccnoiffaaGreatDoor
