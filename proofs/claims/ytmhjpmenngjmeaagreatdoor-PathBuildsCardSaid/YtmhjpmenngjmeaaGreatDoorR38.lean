/- YtmhjpmenngjmeaaGreatDoorR38: texts N6, N4 of this claim, in one. -/
import Derived.Deep.LoopGhost
import Derived.Test.YtmhjpmenngjmeaaGreatDoorR23
import Derived.Test.YtmhjpmenngjmeaaGreatDoorR25
import Derived.Test.YtmhjpmenngjmeaaGreatDoorR26
import Derived.Test.YtmhjpmenngjmeaaGreatDoorR28
import Derived.Test.YtmhjpmenngjmeaaGreatDoorR30
namespace Go.Proofs.YtmhjpmenngjmeaaGreatDoor
open Go.RowKit
def treeAt (f:Idl → Option Ob) (x:Idl):Option (List Ent):=match f x with
 | some o => if o.kind = 2 then some ((treeOf o.body).getD []) else none
 | none => none
def PtAns (f:Idl → Option Ob) (x:Idl) (w:World) (e:Ending) (w':World):Prop:=∃ u,e = .returned (.tuple #[u,.bool (treeAt f x).isSome]) ∧ (∀ es,treeAt f x = some es → EntRow w' u es) ∧ Below w.heap.size w w'
set_option maxRecDepth 100000 in
set_option maxHeartbeats 2000000 in
theorem pathtree_any (v:Value) (f:Idl → Option Ob) (hf:∀ x o,f x = some o → rightOb o = true) (x:Idl) (w:World) (hs:SrcP w v f) (hx:x.length = 32) :
  Calls Tryz.prog 26 #[v,.agg (idC x).toArray] w (PtAns f x w):=by
 obtain ⟨lb,mb,nm,rfl,hc,hm⟩:=hs
 have hlb:=World.block_lt_of_cell? w _ hc
 have hlm:=hm.lt
 have h32x:=h32_of (us:=idC x) (by rw [idC_len,hx])
 have hmg:=method_get
 obtain ⟨W,hW⟩:∃ W,w.alloc (.cells (idC x).toArray 27) = W:=⟨_,rfl⟩
 have hbW:Below w.heap.size w W:=by rw [← hW];exact (Below.refl _ _).alloc (Nat.le_refl _) _
 have HR:=Lib.hid (show W.rangeAt w.heap.size 0 (idC x) from by rw [← hW];exact range_new _ _ _ rfl)
 have hgy:=oget_any lb mb nm f x W (below_load hc hbW hlb) (hm.below hbW hlm) hx
 have HTA:Hid (treeAt f x = match f x with | some o => if o.kind = 2 then some ((treeOf o.body).getD []) else none | none => none):=Lib.hid rfl
 have HRO:Hid (∀ o,f x = some o → rightOb o = true):=Lib.hid (hf x)
 have HANS:Hid (∀ u b w',b = (treeAt f x).isSome → (∀ es,treeAt f x = some es → EntRow w' u es) → Below w.heap.size w w' → PtAns f x w (.returned (.tuple #[u,.bool b])) w'):=Lib.hid (fun u b w' h1 h2 h3 => ⟨u,by rw [h1],h2,h3⟩)
 generalize treeAt f x = ta at HTA HANS
 generalize f x = r at hgy HTA HRO
 obtain ⟨o,ho⟩:∃ o,r.getD ob0 = o:=⟨_,rfl⟩
 rw [ho] at hgy
 have HGY:=Lib.hid hgy
 have HO:=Lib.hid ho
 have HBW:=Lib.hid hbW
 have HW:=Lib.hid hW
 clear hc hm hf hx hbW hW hgy ho
 generalize idC x = ux at h32x HR HW HGY
 go_enter Tryz.func26,Tryz.ntmps26
 go_wp2_with (rw [HW.out];refine wpList_load_mid rfl 27 _ rfl w.heap.size 0 rfl ux _ HR.out Tryz.underlying27 rfl h32x ?_)
 refine HGY.out.mono ?_
 rintro e w3 ⟨rfl,hb3⟩
 obtain ⟨W4,hW4⟩:∃ W4,w3.alloc (.cells #[.int .i64 o.kind,.string o.body] 59) = W4:=⟨_,rfl⟩
 have hb4:Below w3.heap.size w3 W4:=by rw [← hW4];exact (Below.refl _ _).alloc (Nat.le_refl _) _
 have HB4:=Lib.hid (HBW.out.trans ((hb3.trans (hb4.mono hb3.size)).mono HBW.out.size))
 have HC4:Hid (W4.rangeAt w3.heap.size 0 [.int .i64 o.kind,.string o.body]):=Lib.hid (by rw [← hW4];exact range_new w3 [.int .i64 o.kind,.string o.body] _ rfl)
 have HW4:=Lib.hid hW4
 have h2:(Tryz.prog.info? 59).map (·.size) = some 2:=by kernel_rfl
 have HEN:=Lib.hid (oents_any o.kind o.body W4)
 clear hb3 hW4 hb4 HGY HW HR
 go_wp2_with (rw [HW4.out];refine wpList_load_mid rfl 59 _ rfl w3.heap.size 0 rfl [.int .i64 o.kind,.string o.body] _ HC4.out Tryz.underlying59 rfl h2 ?_)
 refine HEN.out.mono ?_
 rintro e w5 ⟨u,rfl,_,hrow,hb5⟩
 have HB5:=Lib.hid (HB4.out.trans (hb5.mono HB4.out.size))
 clear hb5 HEN
 cases r with
 | none =>
  have HEND:=Lib.hid (HANS.out u false w5 (by rw [HTA.out];rfl) (by rw [HTA.out];intro es h;cases h) HB5.out)
  clear hrow
  go_wp2
  go_ret2
  exact HEND.out
 | some o' =>
  obtain rfl:o' = o:=HO.out
  have hro:=HRO.out o' rfl
  by_cases h2k:o'.kind = 2
  ·have hit:isT o'.kind o'.body = true:=by unfold isT;rw [show (⟨o'.kind,o'.body⟩:Ob) = o' from rfl,hro,decide_eq_true h2k];rfl
   rw [hit] at hrow ⊢
   have HEND:=Lib.hid (HANS.out u true w5 (by rw [HTA.out.trans (if_pos h2k)];rfl) (by rw [HTA.out.trans (if_pos h2k)];intro es h;obtain rfl:=Option.some.inj h;exact hrow) HB5.out)
   clear hrow h2k hit hro
   go_wp2
   go_ret2
   exact HEND.out
  ·have hit:isT o'.kind o'.body = false:=by unfold isT;rw [decide_eq_false h2k,Bool.and_false]
   rw [hit] at hrow ⊢
   have HEND:=Lib.hid (HANS.out u false w5 (by rw [HTA.out.trans (if_neg h2k)];rfl) (by rw [HTA.out.trans (if_neg h2k)];intro es h;cases h) HB5.out)
   clear hrow h2k hit hro
   go_wp2
   go_ret2
   exact HEND.out
end Go.Proofs.YtmhjpmenngjmeaaGreatDoor
namespace Go.Proofs.YtmhjpmenngjmeaaGreatDoor
open Go.RowKit
def chC (c:Idl × Nat):List Value:=idC c.1 ++ [.int .i64 (c.2:Int)]
theorem chC_len {c:Idl × Nat} (h:c.1.length = 32):(chC c).length = 33:=by unfold chC;rw [List.length_append,idC_len,h];rfl
theorem chC_one (c:Idl × Nat):∀ v ∈ chC c,v.oneCell' = true:=fun v hv => by
 rcases List.mem_append.1 hv with h | h
 ·exact idC_one c.1 v h
 ·rw [List.mem_singleton.1 h];rfl
theorem ch_zero:(∀ w,(zeroValue 43).run Tryz.prog w = .ok (.agg (chC (zid,0)).toArray) w) ∧ ∀ w,(Instr.build 43 #[]).run Tryz.prog w = .ok (.agg (chC (zid,0)).toArray) w :=
 ⟨fun w => by kernel_rfl,fun w => run_build w 43 #[] _ (by kernel_rfl)⟩
set_option maxRecDepth 100000 in
theorem ch_built (x:Idl) (hx:x.length = 32) (k:Nat) (w:World):(Instr.build 43 #[(0,.agg (idC x).toArray),(1,.int .i64 (k:Int))]).run Tryz.prog w = .ok (.agg (chC (x,k)).toArray) w:=by
 rcases x with _ | ⟨a0,x⟩
 ·simp at hx
 rcases x with _ | ⟨a1,x⟩
 ·simp at hx
 rcases x with _ | ⟨a2,x⟩
 ·simp at hx
 rcases x with _ | ⟨a3,x⟩
 ·simp at hx
 rcases x with _ | ⟨a4,x⟩
 ·simp at hx
 rcases x with _ | ⟨a5,x⟩
 ·simp at hx
 rcases x with _ | ⟨a6,x⟩
 ·simp at hx
 rcases x with _ | ⟨a7,x⟩
 ·simp at hx
 rcases x with _ | ⟨a8,x⟩
 ·simp at hx
 rcases x with _ | ⟨a9,x⟩
 ·simp at hx
 rcases x with _ | ⟨a10,x⟩
 ·simp at hx
 rcases x with _ | ⟨a11,x⟩
 ·simp at hx
 rcases x with _ | ⟨a12,x⟩
 ·simp at hx
 rcases x with _ | ⟨a13,x⟩
 ·simp at hx
 rcases x with _ | ⟨a14,x⟩
 ·simp at hx
 rcases x with _ | ⟨a15,x⟩
 ·simp at hx
 rcases x with _ | ⟨a16,x⟩
 ·simp at hx
 rcases x with _ | ⟨a17,x⟩
 ·simp at hx
 rcases x with _ | ⟨a18,x⟩
 ·simp at hx
 rcases x with _ | ⟨a19,x⟩
 ·simp at hx
 rcases x with _ | ⟨a20,x⟩
 ·simp at hx
 rcases x with _ | ⟨a21,x⟩
 ·simp at hx
 rcases x with _ | ⟨a22,x⟩
 ·simp at hx
 rcases x with _ | ⟨a23,x⟩
 ·simp at hx
 rcases x with _ | ⟨a24,x⟩
 ·simp at hx
 rcases x with _ | ⟨a25,x⟩
 ·simp at hx
 rcases x with _ | ⟨a26,x⟩
 ·simp at hx
 rcases x with _ | ⟨a27,x⟩
 ·simp at hx
 rcases x with _ | ⟨a28,x⟩
 ·simp at hx
 rcases x with _ | ⟨a29,x⟩
 ·simp at hx
 rcases x with _ | ⟨a30,x⟩
 ·simp at hx
 rcases x with _ | ⟨a31,x⟩
 ·simp at hx
 rcases x with _ | ⟨b,x⟩
 ·exact run_build w 43 _ _ (by kernel_rfl)
 ·simp at hx
end Go.Proofs.YtmhjpmenngjmeaaGreatDoor
