/- YtbmiiiccnoiffaaGreatDoorR24: texts ME of this claim, in one. -/
import Derived.Test.YtbmiiiccnoiffaaGreatDoorR22
import Derived.WideKeyEntry
namespace Go.Proofs.YtbmiiiccnoiffaaGreatDoor
open Go.RowKit Go.Maps Go.WideMaps Go.WideElems Go.ChangeMaps
set_option maxRecDepth 100000

theorem idLaw : KeyLaw Tryz.prog 24 := ArrKey.law idKey
section
variable {α : Type} {enc : α → Value}
theorem ok_inj {β : Type} {p q : β} {w v : World} (h : (Result.ok p w : Result β) = .ok q v) : p = q ∧ w = v := by cases h; exact ⟨rfl, rfl⟩
theorem grownBy_setBlock {w : World} {b : Nat} {es : Array MapEntry} {clock : Nat} (hb : w.heap[b]? = some (.map es clock)) (o : Obj) : w.grownBy (setBlock w b o) (some b) :=
  ⟨rfl, rfl, rfl, by simp [setBlock], fun i _ hi => heap_setBlock_other hb _ (fun e => hi (by rw [e]))⟩
theorem MapG.entry {w : World} {t e : TypeId} (ht : Tryz.prog.underlying t = some (.map 24 e)) {z : Value} (hz : ∀ u, (zeroValue e).run Tryz.prog u = .ok z u) {b n : Nat} {f : Idl → Option α} (h : MapG enc w b n f) (hn : n < maxLen) (c0 : α) (hc0 : enc c0 = z) {x : Idl} (hx : x.length = 32) :
    ∃ (v0 : Value) (st : Nat) (w1 : World), (Instr.mapEntry t (.map (some b)) (.agg (idC x).toArray)).run Tryz.prog w = .ok (.tuple #[v0, goInt st]) w1 ∧ w.grownBy w1 (some b) ∧
      (∀ W, W.heap[b]? = w1.heap[b]? → (Instr.lookup t (.map (some b)) (.agg (idC x).toArray) false).run Tryz.prog W = .ok (((f x).map enc).getD z) W) ∧
      ∀ (w2 : World) (c : α), w2.heap[b]? = w1.heap[b]? → ∃ w3, (Instr.entryStore t (.map (some b)) (goInt st) (enc c)).run Tryz.prog w2 = .ok () w3 ∧ w2.grownBy w3 (some b) ∧ MapG enc w3 b (n + 1) (fun q => if q = x then some c else f q) := by
  have hM := h
  obtain ⟨D, hown, hD⟩ := h
  have hown' := hown
  obtain ⟨es, clock, hb, F, hs, hDe⟩ := hown'
  have hkey := keyI_eq hx
  obtain ⟨v0, st, es1, clock1, hrun, hv, hst⟩ := entry_then_store idLaw ht hz hb F hkey
  have hbl := hM.lt
  have h1 : (setBlock w b (.map es1 clock1)).heap[b]? = some (.map es1 clock1) := heap_setBlock_same hb _
  refine ⟨v0, st, _, hrun, grownBy_setBlock hb _, fun W hW => ?_, fun w2 c hw2 => ?_⟩
  · rcases idLaw.find w hkey es.toList F.keys with ⟨g1, g2⟩ | ⟨j, e0, g1, g2, g3⟩
    · have hrun2 : (Instr.mapEntry t (.map (some b)) (.agg (idC x).toArray)).run Tryz.prog w = .ok (.tuple #[z, goInt clock]) (setBlock w b (.map (es.push ⟨.agg (idC x).toArray, z, clock⟩) (clock + 1))) := by
        simp [Instr.mapEntry, run_underlying ht, MapKept.run_getObj_map hb, idLaw.check w false hkey, g1, hz, MapKept.run_setObj_map _ hb, Result.andThen, setBlock]
      have hupd : (Instr.mapUpdate t (.map (some b)) (.agg (idC x).toArray) z).run Tryz.prog w = .ok () (setBlock w b (.map (es.push ⟨.agg (idC x).toArray, z, clock⟩) (clock + 1))) := by
        simp [Instr.mapUpdate, run_underlying ht, MapKept.run_getObj_map hb, idLaw.check w false hkey, g1, MapKept.run_setObj_map _ hb, Result.andThen, setBlock]
      obtain ⟨w', hu, ho, _⟩ := hown.update idKeyed ht hn (val := z) (d := .held z) (ps := []) hkey rfl
      obtain ⟨_, hw⟩ := ok_inj (hupd.symm.trans hu)
      obtain ⟨_, hw3⟩ := ok_inj (hrun2.symm.trans hrun)
      have hMW : MapG enc W b (n + 1) (fun q => if q = x then some c0 else f q) := by
        have hM1 : MapG enc w' b (n + 1) (fun q => if q = x then some c0 else f q) := ⟨_, ho, by
          have := saysG_put hD hown.isMap x hx c0
          rwa [hc0] at this⟩
        exact hM1.heap (by rw [hW, ← hw3, hw])
      have hl := hMW.look ht (hz W) hx
      rw [hl, if_pos rfl]
      have hfx : f x = none := by
        cases e : f x with
        | none => rfl
        | some c =>
          have h2 := hM.look_ok ht (hz w) hx
          rcases fit_look true idKeyed ht (hz w) hb F hkey with ⟨k1, _, _⟩ | ⟨e0, _, k1, k2, _⟩
          · obtain ⟨k3, _⟩ := ok_inj (h2.symm.trans k1)
            rw [e] at k3
            simp at k3
          · exact absurd k2 (g2 e0 k1)
      rw [hfx]
      show Result.ok (enc c0) W = .ok z W
      rw [hc0]
    · have hj : es[j]? = some e0 := by simpa using g2
      have hsame : es.modify j (fun e => { e with key := .agg (idC x).toArray }) = es := by
        apply Array.ext'
        rw [Array.toList_modify, modify_eq_set _ _ _ _ g2]
        have : ({ e0 with key := .agg (idC x).toArray } : MapEntry) = e0 := by rw [← g3]
        rw [this]
        exact set_self _ _ _ g2
      have hrun2 : (Instr.mapEntry t (.map (some b)) (.agg (idC x).toArray)).run Tryz.prog w = .ok (.tuple #[e0.val, goInt e0.born]) (setBlock w b (.map es clock)) := by
        simp [Instr.mapEntry, run_underlying ht, MapKept.run_getObj_map hb, idLaw.check w false hkey, g1, hj, g3, idLaw.stays w hkey, hsame, MapKept.run_setObj_map _ hb, Result.andThen, setBlock]
      obtain ⟨_, hw3⟩ := ok_inj (hrun2.symm.trans hrun)
      exact (hM.heap (by rw [hW, ← hw3, heap_setBlock_same hb, hb])).look ht (hz W) hx
  · rw [h1] at hw2
    obtain ⟨es', clock', k1, k2⟩ := hst w2 (enc c) hw2
    obtain ⟨w', hu, ho, _⟩ := hown.update idKeyed ht hn (val := enc c) (d := .held (enc c)) (ps := []) hkey rfl
    obtain ⟨_, hw⟩ := ok_inj (k2.symm.trans hu)
    have hM1 : MapG enc w' b (n + 1) (fun q => if q = x then some c else f q) := ⟨_, ho, saysG_put hD hown.isMap x hx c⟩
    exact ⟨_, k1, grownBy_setBlock hw2 _, hM1.heap (by rw [← hw, heap_setBlock_same hw2, heap_setBlock_same hb])⟩
end
end Go.Proofs.YtbmiiiccnoiffaaGreatDoor
