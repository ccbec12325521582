/- Walks: a map's keys, collected and put in order. -/
import Derived.Test.YtodnfcbecojieaaDoorD6
import Derived.Sort.OwnSorted
namespace Go.Proofs.YtodnfcbecojieaaDoor
open Go.RowKit Go.Maps Go.Sort Go.Shelf

theorem strKeys_spec {P : Program} {k : TypeId} {R : Value → Option (DataW Unit × List MemPlace)} {w : World} {b n : Nat} {D : DataW Unit} (h : w.ownsMap P k R b n D) (K : Keyed P k) (hk : P.underlying k = some .string) :
    (strKeys D).Nodup ∧ ∀ x, x ∈ strKeys D ↔ Maps.has D (.string x) = true := by
  obtain ⟨es, rfl, hp⟩ := h.tidy K
  obtain ⟨es', e, hko⟩ := h.keysOf
  cases e
  have hs : ∀ p ∈ es, ∃ x, p.1 = .string x := fun p hp' => by
    obtain ⟨v, hv⟩ := hko p hp'
    obtain ⟨x, _, hx, _⟩ := Maps.keyOf_str hk hv
    exact ⟨x, hx⟩
  refine ⟨?_, fun x => ?_⟩
  · show (es.map fun p => strOf p.1).Nodup
    refine List.pairwise_map.2 (hp.imp_of_mem fun {p q} hp' hq' hne e => hne ?_)
    obtain ⟨a, ha⟩ := hs p hp'
    obtain ⟨b, hb⟩ := hs q hq'
    rw [ha, hb] at e ⊢
    exact congrArg _ e
  · show x ∈ (es.map fun p => strOf p.1) ↔ _
    rw [Maps.has_eq, List.any_eq_true, List.mem_map]
    constructor
    · rintro ⟨p, hp', rfl⟩
      obtain ⟨a, ha⟩ := hs p hp'
      exact ⟨p, hp', by rw [ha]; simp [Lit.sameKey, strOf]⟩
    · rintro ⟨p, hp', he⟩
      obtain ⟨a, ha⟩ := hs p hp'
      rw [ha] at he
      exact ⟨p, hp', by rw [ha]; simpa [Lit.sameKey, strOf] using he⟩

/-- A text cut at a great length: an element of the sort. -/
def cut (x : List UInt8) : List UInt8 := x.take 1000000
def encC (x : List UInt8) : Value := encStr (cut x)
def cfC (x y : List UInt8) : Int := ordP (ofL (cut x)) (ofL (cut y))
theorem cut_short {x : List UInt8} (h : x.length ≤ 1000000) : cut x = x := List.take_of_length_le h
theorem ofL_size (x : List UInt8) : (ofL x).size = x.length := by simp [ofL, ByteArray.size]
theorem swoC : SWO (ltOf cfC) where
  irrefl x := by simp [ltOf, cfC, ordP_self]
  trans x y z h1 h2 := decide_eq_true (ordP_trans _ _ _ (of_decide_eq_true h1) (of_decide_eq_true h2))
  ntrans x y z h1 h2 := decide_eq_false (ordP_ntrans _ _ _ (of_decide_eq_false h1) (of_decide_eq_false h2))
theorem oneC : OneCell encC := fun _ => rfl

theorem maxAt_sort {w : World} (h : MaxAt w) {blk off m : Nat} (hne : 0 ≠ blk) (dk : Array (List UInt8)) (os : Array Obj) : MaxAt (sortWorld encC w blk off m dk os) := by
  obtain ⟨v, hv⟩ := h
  refine ⟨v, ?_⟩
  have hl := World.block_lt_of_cell? w _ hv
  unfold sortWorld
  have e : (grow (putRow encC (Sort.ahead w m) blk off dk) os).heap[0]? = w.heap[0]? := by
    rw [heap_grow_old _ _ (by simpa using hl)]
    have : blk ≠ 0 := fun e => hne e.symm
    simp [putRow, mapBlock, Sort.ahead, Array.getElem?_modify, this]
  unfold World.cell? at hv ⊢
  rw [e]; exact hv

theorem cmpC (w : World) (h : MaxAt w) (blk off size : Nat) (hne : 0 ≠ blk) : CmpLays1 Tryd.prog 17 #[] encC cfC blk off size w := fun m os dk _ x y => by
  have hm := maxAt_sort h (off := off) (m := m) hne dk os
  refine (order_any (ofL (cut x)) (ofL (cut y)) _ (by rw [ofL_size]; unfold cut; simp; omega) (by rw [ofL_size]; unfold cut; simp; omega) hm).mono ?_
  rintro e w' ⟨he, o1, o2, hw⟩
  exact ⟨he, 0, #[o1, o2], by rw [hw, alloc_eq_grow, alloc_eq_grow, grow_grow]; rfl⟩

theorem putRow_short (w : World) (blk off : Nat) (d : Array (List UInt8)) (h : ∀ x ∈ d, x.length ≤ 1000000) : putRow encC w blk off d = putRow encStr w blk off d := by
  unfold putRow
  refine mapBlock_congr _ _ _ _ fun c e fr _ => ?_
  unfold putCells
  congr 1
  funext k x
  split
  · rename_i hk
    have hlt : k - off < d.size := by omega
    rw [getElem!_pos d _ hlt]
    unfold encC; rw [cut_short (h _ (Array.getElem_mem hlt))]
  · rfl
theorem holds_short {w : World} {blk off : Nat} {d : Array (List UInt8)} (h : ∀ x ∈ d, x.length ≤ 1000000) (hH : Holds encStr w blk off d) : Holds encC w blk off d := fun j hj => by
  have := hH j hj
  rw [getElem!_pos d _ hj] at this ⊢
  unfold encC; rw [cut_short (h _ (Array.getElem_mem hj))]; exact this

theorem keys_any (mb : Option Nat) (w : World) : Calls Tryd.prog 20 #[.map mb] w fun e w' => e = .returned (.func (.func 25) #[] #[.pointer (some ⟨w.heap.size, 0, none⟩)]) ∧ w' = w.alloc (.cells #[.map mb] 46) :=
  callsIn_wide.1 (AnyZ.keys_in Tryd.keysZ Fence.wide 5 trivial rfl mb w)

theorem collect_any (b nn : Nat) (D0 : DataW Unit) (R : Value → Option (DataW Unit × List MemPlace)) (w : World) (hown : w.ownsMap Tryd.prog 9 R b nn D0) (hmax : Maps.size D0 ≤ 1000000000) :
    Calls Tryd.prog 23 #[.func (.func 25) #[] #[.pointer (some ⟨w.heap.size, 0, none⟩)]] (w.alloc (.cells #[.map (some b)] 46)) fun e w' => ∃ (v : Value) (ss : List (List UInt8)), e = .returned v ∧ ss.Perm (strKeys D0) ∧ ss.length ≤ 1000000000 ∧
      w'.ownsRow (w.heap.size + 1) 9 1 v ss.length (ss.map encStr) ∧ Below (w.heap.size + 1) (w.alloc (.cells #[.map (some b)] 46)) w' := by
  have hbl := hown.lt
  have hseq : SeqGives Fence.wide 3 Tryd.prog 25 #[.pointer (some ⟨w.heap.size, 0, none⟩)] encStr (fun ss => ss.Perm (strKeys D0)) (Maps.size D0) (w.alloc (.cells #[.map (some b)] 46)) :=
    AnyZ.keys_gives (ρ := Tryd.keysZ_ren) { Tryd.keysZ with } Fence.wide _ trivial rfl (by omega) w.heap.size b nn D0 _ (by simp) (by simp) (by
      obtain ⟨es, clock, hb, Ft, hs, hD⟩ := hown
      exact ⟨es, clock, (Below.heap_alloc _ _ b hbl).trans hb, Ft, hs, hD⟩)
  have h := callsIn_wide.1 (AnyZ.collect_in Tryd.collZ Fence.wide 5 trivial trivial rfl (by omega) 25 #[.pointer (some ⟨w.heap.size, 0, none⟩)] trivial (enters_of Tryd.func25 (by kernel_rfl) rfl) _ _ (by unfold maxLen; omega) (by omega) _ hseq)
  refine h.mono ?_
  rintro e w' ⟨v, ss, he, hS, hrow, _, hb⟩
  rw [World.size_alloc] at hrow hb
  have hl := hS.length_eq
  obtain ⟨es, rfl⟩ := hown.isMap
  exact ⟨v, ss, he, hS, by rw [hl]; show (es.map _).length ≤ _; rw [List.length_map]; exact hmax, hrow, hb⟩

/-- A list without doubles, in which no later one is less than an earlier one, rises. -/
theorem asc_of_sorted (l : List ByteArray) (hn : l.Nodup) (hs : l.Pairwise fun x y => ¬ ordP y x < 0) : Asc l :=
  (hs.and hn).imp fun {x y} ⟨h1, h2⟩ => by
    by_cases h : ordP x y < 0
    · exact h
    · exact absurd (ordP_tot x y h h1) h2

theorem ofL_inj {x y : List UInt8} (h : ofL x = ofL y) : x = y := by rw [← ofL_data x, ← ofL_data y, h]

/-- What the sort gives of keys that are short. -/
theorem sorted_keys (ss : List (List UInt8)) (d : Array (List UInt8)) (hsh : ∀ x ∈ ss, x.length ≤ 1000000) (hnd : ss.Nodup) (hp : PermIn 0 ss.toArray.size ss.toArray d) (hs : SortedIn (ltOf cfC) 0 ss.toArray.size d) :
    d.toList.Perm ss ∧ Asc (d.toList.map ofL) := by
  obtain ⟨hsz, _, hperm⟩ := hp
  have hd : d.size = ss.length := by simpa using hsz
  have e1 : d.extract 0 ss.toArray.size = d := by rw [← hsz]; exact Array.extract_size
  rw [e1, Array.extract_size] at hperm
  refine ⟨hperm, asc_of_sorted _ ?_ ?_⟩
  · refine List.pairwise_map.2 ((hperm.nodup_iff.2 hnd).imp fun {x y} h e => h (ofL_inj e))
  · refine List.pairwise_map.2 ?_
    rw [List.pairwise_iff_getElem]
    intro i j hi hj hij
    have hi' : i < d.size := by simpa using hi
    have hj' : j < d.size := by simpa using hj
    have h := hs i j (Nat.zero_le _) hij (by simpa [hd] using hj')
    rw [getElem!_pos d _ hj', getElem!_pos d _ hi'] at h
    have h2 := of_decide_eq_false h
    unfold cfC at h2
    have m1 : d[i] ∈ ss := hperm.mem_iff.1 (by simp)
    have m2 : d[j] ∈ ss := hperm.mem_iff.1 (by simp)
    rw [cut_short (hsh _ m1), cut_short (hsh _ m2)] at h2
    simpa using h2

set_option maxHeartbeats 1000000 in
theorem sfunc_any (b nn : Nat) (D0 : DataW Unit) (R : Value → Option (DataW Unit × List MemPlace)) (w : World) (hm : MaxAt w) (hown : w.ownsMap Tryd.prog 9 R b nn D0) (hmax : Maps.size D0 ≤ 1000000000) (hsh : ∀ x, Maps.has D0 (.string x) = true → x.length ≤ 1000000) :
    Calls Tryd.prog 19 #[.func (.func 25) #[] #[.pointer (some ⟨w.heap.size, 0, none⟩)], .func (.func 17) #[] #[]] (w.alloc (.cells #[.map (some b)] 46)) fun e w' => ∃ (v : Value) (ss : List ByteArray), e = .returned v ∧ StrRow w' v ss ∧ Asc ss ∧ (∀ p : ByteArray, p ∈ ss ↔ Maps.has D0 (.string p.data.toList) = true) ∧ Below (w.heap.size + 1) (w.alloc (.cells #[.map (some b)] 46)) w' := by
  have hc := collect_any b nn D0 R w hown hmax
  obtain ⟨hnd, hmem⟩ := strKeys_spec hown strKeyed Tryd.underlying9
  have hlm := hm.lt
  have hb0 : Below w.heap.size w (w.alloc (.cells #[.map (some b)] 46)) := (Below.refl _ w).alloc (Nat.le_refl _) _
  have eg : ∀ args w, (callFunc 17 args).run Tryd.prog w = .ok (.enter 17 args) w := enters_of Tryd.func17 (by kernel_rfl) rfl
  generalize hw0 : w.alloc (.cells #[.map (some b)] 46) = w0 at hc hb0
  have HH := Lib.hid hsh
  have HN := Lib.hid hnd
  have HE := Lib.hid hmem
  clear hsh hnd hmem hown hw0
  go_enter Tryd.func19, Tryd.ntmps19
  go_wp2_with (go_at_call 23; refine hc.mono ?_; rintro e W ⟨v, ss, rfl, hS, hlen, hrow, hb⟩)
  have hmW : MaxAt W := hm.step (hb0.trans (hb.mono (Nat.le_succ _)))
  have hss : ∀ x ∈ ss, x.length ≤ 1000000 := fun x hx => HH.out x ((HE.out x).1 (hS.mem_iff.1 hx))
  have hsn : ss.Nodup := hS.nodup_iff.2 HN.out
  have hsm : ∀ x, x ∈ ss ↔ Maps.has D0 (.string x) = true := fun x => hS.mem_iff.trans (HE.out x)
  have HSS := Lib.hid hss
  have HSN := Lib.hid hsn
  have HSM := Lib.hid hsm
  clear hss hsn hsm hc hS
  rcases hrow.2 with ⟨rfl, hz⟩ | ⟨gb, cap, cur, rfl, hbase, hgb, r1, r2, r3, r4⟩
  · have hse : ss = [] := List.eq_nil_of_length_eq_zero hz
    subst hse
    have hn0 := fun W' => AnyF.slices_SortFunc_none (P := Tryd.prog) (ρ := Tryd.sortF_ren) { Tryd.sortF with } none 0 (.func (.func 17) #[] #[]) W'
    change ∀ W', Calls Tryd.prog 24 _ _ _ at hn0
    go_wp2_with (go_at_call 24; refine (hn0 _).mono ?_; rintro e w' ⟨rfl, hw'⟩; rw [hw']; clear hw')
    go_ret
    exact ⟨_, [], rfl, StrRow.nil _, List.Pairwise.nil, fun p => by rw [← HSM.out p.data.toList]; simp, hb⟩
  · have hH : Holds encC W gb 0 ss.toArray := holds_short (by simpa using HSS.out) (holds_of_block hgb (by simpa using r4))
    have hgl : gb < W.heap.size := (Array.getElem?_eq_some_iff.1 hgb).1
    have hsz : ss.toArray.size < 4611686018427387904 := by simp; omega
    have hS := Any.slices_SortFunc Tryd.sortF encC oneC cfC swoC 17 #[] gb 0 cap ss.toArray W eg (cmpC W hmW gb 0 ss.toArray.size (by omega)) hH hgl hsz
    rw [show ss.toArray.size = ss.length from by simp] at hS
    change Calls Tryd.prog 24 _ _ _ at hS
    have hS2 : Calls Tryd.prog 24 #[.slice (some ⟨gb, 0, none⟩) ss.length cap, .func (.func 17) #[] #[]] W fun e w' => e = .returned (.tuple #[]) ∧ ∃ ts : List (List UInt8), ts.Perm ss ∧ Asc (ts.map ofL) ∧ w'.ownsRow (w.heap.size + 1) 9 1 (.slice (some ⟨gb, 0, none⟩) ss.length cap) ss.length (ts.map encStr) ∧ W.grownBy w' (some gb) := by
      refine hS.mono ?_
      rintro e w' ⟨he, d', nq, os, hp, hs, hw'⟩
      obtain ⟨hperm, hasc⟩ := sorted_keys ss d' HSS.out HSN.out (by simpa using hp) (by simpa using hs)
      have hsh' : ∀ x ∈ d', x.length ≤ 1000000 := fun x hx => HSS.out x (hperm.mem_iff.1 (by simpa using hx))
      unfold sortWorld at hw'
      rw [putRow_short _ _ _ _ hsh'] at hw'
      have hown2 := ownsRow_sorted (n := nq) (os := os) (ss := ss) (ts := d'.toList) (by have := hperm.length_eq; simpa using this) hbase hgb r1 r2 r3
      have hg2 := grownBy_sorted (w := W) (g := gb) (n := nq) (os := os) d'
      rw [Array.toArray_toList, ← hw'] at hown2
      rw [← hw'] at hg2
      exact ⟨he, d'.toList, hperm, hasc, hown2, hg2⟩
    clear hH hS
    go_wp2_with (go_at_call 24; refine hS2.mono ?_; rintro e w' ⟨rfl, ts, hperm, hasc, hown2, hg2⟩)
    go_ret
    refine ⟨_, ts.map ofL, rfl, ?_, hasc, fun p => ?_, hb.grown hg2 (by omega) (fun j hj => by cases hj; exact hbase)⟩
    · have el : (ts.map ofL).length = ss.length := by rw [List.length_map]; exact hperm.length_eq
      refine StrRow.of_own (B := w.heap.size + 1) (e := 9) ?_
      rw [el, List.map_map]; exact hown2
    · rw [← HSM.out p.data.toList, List.mem_map]
      constructor
      · rintro ⟨x, hx, rfl⟩; rw [ofL_data]; exact hperm.mem_iff.1 hx
      · intro hx; exact ⟨_, hperm.mem_iff.2 hx, ba_ext (by rw [ofL_data])⟩
end Go.Proofs.YtodnfcbecojieaaDoor
