/- A part of this claim. -/
import Derived.Deep.Heap
import Derived.Test.YtijhemdnajlfnaaGreatDoorR18
import Derived.Test.YtijhemdnajlfnaaGreatDoorR24
namespace Go.Proofs.YtijhemdnajlfnaaGreatDoor
open Tryz
set_option maxHeartbeats 64000000
set_option maxRecDepth 100000
section
open Go.RowKit
def Gd (b:Nat) (w w':World):Prop:=∀ k cs ty fr,k ≠ b → w.heap[k]? = some (.cells cs ty fr) → ty ≠ 5 → w'.heap[k]? = some (.cells cs ty fr)
theorem lW (w:World) (p:Addr) (v:Value) {k:Nat} (h:k ≠ p.block):(w.setCell p v).heap[k]? = w.heap[k]?:=Go.Deep.blk_setCell_other w p v k h
theorem Fy {B b n:Nat} {v:Value} {xs:List Value} {w w':World} (ho:w.ownsRow B 5 1 v n xs) (hg:w.grownBy w' v.ownBlock):Gd b w w':=by
 intro k cs ty fr _ hc ht
 have hlt:k < w.heap.size:=(Array.getElem?_eq_some_iff.1 hc).1
 rw [hg.block k hlt ?_]
 ·exact hc
 intro e
 rcases ho.2 with ⟨rfl,_⟩ | ⟨g,cap,cur,rfl,_,hg2,_⟩
 ·cases e
 have e2:k = g:=Option.some.inj e
 subst e2
 rw [hg2] at hc
 injection hc with hc
 injection hc with _ h2
 exact ht h2.symm
theorem F9 (B b:Nat) (bs:List Value) (w:World) (h:Lib.IsBuilder 266 5 B b bs w) :
  Calls prog 257 #[.pointer (some ⟨b,0,none⟩)] w fun e w' => e = .returned (.tuple #[]) ∧ (Lib.BuilderAt 266 5 B b (.pointer (some ⟨b,0,none⟩)) bs w' ∧ Below B w w' ∧ Gd b w w'):=by
 rcases h with h | h
 ·refine (sF b w h.cell0 h.shape h.frozen0).mono ?_
  rintro e w' ⟨rfl,rfl⟩
  exact ⟨rfl,h.used _,(Below.refl B w).setCell (p:=⟨b,0,none⟩) h.1 _,fun k cs ty fr hk hc _ => (lW w _ _ hk).trans hc⟩
 refine (xq b w h.cell0).mono ?_
 rintro e w' ⟨rfl,rfl⟩
 exact ⟨rfl,h,Below.refl B _,fun k cs ty fr _ hc _ => hc⟩
theorem zZ (B b:Nat) (L:List UInt8) (s:ByteArray) (w:World) (h:Wr B b L w) (hlen:L.length + s.size ≤ 140737488355328) (hBw:B ≤ w.heap.size) :
  Calls prog 209 #[.pointer (some ⟨b,0,none⟩),.string s] w fun e w' => e = .returned (.tuple #[.int .i64 s.size,.nilIface]) ∧ Wr B b (L ++ s.data.toList) w' ∧ Below B w w' ∧ Gd b w w':=by
 obtain ⟨i0,hi,hz0,hz1,hz2⟩:=info_parts infoByte
 have hcl:=Lib.byteCells_length L
 have eb:Lib.byteCells (L ++ s.data.toList) = Lib.byteCells L ++ Lib.strCells s:=by simp [Lib.byteCells,Lib.strCells]
 unfold Wr at h ⊢
 rw [eb]
 rw [← hcl] at hlen
 generalize Lib.byteCells L = bs at h hcl hlen
 clear hcl
 have HB:=ah h
 clear h eb
 go_enter func209,ntmps209
 go_wp2_with (go_at_call 257;refine (F9 B b bs _ HB.out).mono ?_)
 rintro e w1 ⟨rfl,h1,hb1,hk1⟩
 have HK1:=ah hk1
 clear hk1
 obtain ⟨hB,v,hbk,hown,hne⟩:=h1
 have c0:w1.cell? ⟨b,0,none⟩ = some (.pointer (some ⟨b,0,none⟩)):=by rw [Lib.cell_of_heap hbk];rfl
 have c1:w1.cell? ⟨b,1,none⟩ = some v:=by rw [Lib.cell_of_heap hbk];rfl
 go_wp2_with (at_builtin;refine Lib.wpList_append_own_string _ rfl _ _ 221 9 rfl B 5 i0 underlying221 underlying9 hi hz0 hz1 hz2 _ _ _ rfl hown s rfl ?c3 ?c4 ?c5 ?_)
 case c3 => unfold maxLen;omega
 case c4 => omega
 case c5 => have:=hb1.size;omega
 intro v' w2 hown' hgrow _
 have hlt:b < w1.heap.size:=by
  rcases Nat.lt_or_ge b w1.heap.size with h' | h'
  ·exact h'
  simp [Array.getElem?_eq_none h'] at hbk
 have hb2:w2.heap[b]? = some (.cells #[.pointer (some ⟨b,0,none⟩),v] 266 (0,0)):=by
  rw [hgrow.block b hlt (fun e => hne e.symm)]
  exact hbk
 have d0:w2.cell? ⟨b,0,none⟩ = some (.pointer (some ⟨b,0,none⟩)):=by rw [Lib.cell_of_heap hb2];rfl
 have d1:w2.cell? ⟨b,1,none⟩ = some v:=by rw [Lib.cell_of_heap hb2];rfl
 have f1:w2.frozen? ⟨b,1,none⟩ = false:=Lib.frozen_of_heap hb2 1
 obtain ⟨ao,n',cap,rfl⟩:∃ ao n' cap,v' = .slice ao n' cap:=by
  rcases hown'.2 with ⟨hv,_⟩ | ⟨g,cap,cur,hv,_⟩
  ·exact ⟨_,_,_,hv⟩
  exact ⟨_,_,_,hv⟩
 have HKG:=ah (Fy (b:=b) hown hgrow)
 go_wp2
 go_ret2
 refine ⟨rfl,.inr ?_,?_,?_⟩
 ·exact Lib.BuilderAt.put (T:=266) (e:=5) hB hb2 (bs':=bs ++ Lib.strCells s) (by simpa [Lib.strCells_length] using hown') (by decide)
 ·exact (hb1.grown hgrow (by have:=hb1.size;omega) (fun k hk => (hown.lt k hk).1)).setCell (p:=⟨b,1,none⟩) hB _
 intro k cs ty fr hk hc ht
 have h2:=HKG.out k cs ty fr hk (HK1.out k cs ty fr hk hc ht) ht
 rw [← h2]
 exact lW w2 _ _ (by exact fun e => hk e)
theorem D6 (B b:Nat) (L:List UInt8) (g:Nat) (s t:ByteArray) (w:World) (h:Wr B b L w) (hlen:L.length + s.size + t.size ≤ 10000000) (hBw:B ≤ w.heap.size) (hg:BoxL w g 9 [.string s,.string t]) :
  Calls prog 160 #[.pointer (some ⟨b,0,none⟩),.slice (some ⟨g,0,none⟩) 2 2] w fun e w' => e = .returned (.tuple #[]) ∧ Wr B b (L ++ s.data.toList ++ t.data.toList) w' ∧ Below B w w':=by
 have HW:=ah h
 have hc:w.cell? ⟨g,0,none⟩ = some (.string s):=hg.range 0 _ rfl
 have HG:=ah hg
 have hgb:Hid (g ≠ b):=ah (by
  intro e;subst e
  obtain ⟨p,h2⟩:∃ p,Lib.BuilderAt 266 5 B g p (Lib.byteCells L) w:=by
   rcases h with h | h
   ·exact ⟨_,h⟩
   exact ⟨_,h⟩
  obtain ⟨_,v,hbk,_⟩:=h2
  have h3:=hg
  unfold BoxL at h3
  rw [hbk] at h3
  injection h3 with h3
  injection h3 with _ h4
  exact absurd h4 (by decide))
 clear h hg
 go_enter func160,ntmps160
 go_wp2_with fail
 go_loopw [10] (fun i wr => (i = .int .i64 0 ∧ w = wr) ∨ (i = .int .i64 1 ∧ Wr B b (L ++ s.data.toList) wr ∧ Below B w wr ∧ BoxL wr g 9 [.string s,.string t]) ∨ (i = .int .i64 2 ∧ Wr B b (L ++ s.data.toList ++ t.data.toList) wr ∧ Below B w wr)) (fun i _ => (2 - intOf i).toNat)
 case atStart => exact .inl ⟨rfl,rfl⟩
 rcases hrel with ⟨rfl,rfl⟩ | ⟨rfl,hW2,hB2,hg2⟩ | ⟨rfl,hW2,hB2⟩
 ·go_wp2_with fail
  refine (zZ B b L s _ HW.out (by omega) hBw).mono ?_
  rintro e w1 ⟨rfl,h1,hb1,hk1⟩
  have HG1:Hid (BoxL w1 g 9 [.string s,.string t]):=ah (hk1 g _ _ _ hgb.out HG.out (by decide))
  clear hk1
  have H1:=ah h1
  have HB1:=ah hb1
  clear h1 hb1
  go_wp2
  go_roundw
  case rel => exact .inr (.inl ⟨by go_num,H1.out,HB1.out,HG1.out⟩)
  case measure => simp [intOf]
 ·have hd2:wr.cell? ⟨g,1,none⟩ = some (.string t):=hg2.range 1 _ rfl
  clear hg2
  have HW2:=ah hW2
  have HB2:=ah hB2
  clear hW2 hB2
  have hln:(L ++ s.data.toList).length + t.size ≤ 140737488355328:=by
   rw [List.length_append]
   have:s.data.toList.length = s.size:=by simp
   omega
  go_wp2_with fail
  refine (rF B b (L ++ s.data.toList) t _ HW2.out hln (by have:=HB2.out.size;omega)).mono ?_
  rintro e w1 ⟨rfl,h1,hb1⟩
  have H1:=ah h1
  have HB1:=ah (HB2.out.trans hb1)
  clear h1 hb1
  go_wp2
  go_roundw
  case rel => exact .inr (.inr ⟨by go_num,H1.out,HB1.out⟩)
  case measure => simp [intOf]
 have HW2:=ah hW2
 have HB2:=ah hB2
 clear hW2 hB2
 go_wp2
 go_end0
 exact ⟨rfl,HW2.out,HB2.out⟩
end
end Go.Proofs.YtijhemdnajlfnaaGreatDoor
