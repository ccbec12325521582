/- YtbmiiiccnoiffaaGreatDoorE41: texts CU, EB, BP, GR, BT of this claim, in one. -/
import Derived.Shelf.Strings.Cut
import Derived.Test.YtbmiiiccnoiffaaGreatDoorE17
import Derived.Test.YtbmiiiccnoiffaaGreatDoorE18
import Derived.Test.YtbmiiiccnoiffaaGreatDoorE21
import Derived.Test.YtbmiiiccnoiffaaGreatDoorE25
import Derived.Test.YtbmiiiccnoiffaaGreatDoorE32
import Derived.Test.YtbmiiiccnoiffaaGreatDoorE34
import Derived.Test.YtbmiiiccnoiffaaGreatDoorE35
import Derived.Test.YtbmiiiccnoiffaaGreatDoorE37
import Derived.Test.YtbmiiiccnoiffaaGreatDoorE40
namespace Go.Proofs.YtbmiiiccnoiffaaGreatDoor
open Go.RowKit Go.Maps
set_option maxRecDepth 100000
def cutS (s:ByteArray):Option (ByteArray × ByteArray):=match Lib.index s.data.toList [47] with
 | .ofNat i => some (s.extract 0 i,s.extract (i + 1) s.size)
 | _ => none
def CutAns (s:ByteArray) (w:World) (e:Ending) (w':World):Prop :=
 Below w.heap.size w w' ∧ ((cutS s = none ∧ e = .returned (.tuple #[.string s,.string ⟨#[]⟩,.bool false])) ∨ ∃ a b,cutS s = some (a,b) ∧ e = .returned (.tuple #[.string a,.string b,.bool true]))
set_option maxHeartbeats 2000000 in
theorem slcut_any (s:ByteArray) (w:World) (hs:s.size ≤ 1000000) (hm:MaxAt w):Calls Tryz.prog 157 #[.string s,.string ⟨#[47]⟩] w (CutAns s w):=by
 obtain ⟨m,hm⟩:=hm
 have HIX:=Lib.hid (Any.stringslite_Index (ρ:=Tryz.lays146_ren) { Tryz.lays146 with } s ⟨#[47]⟩ m w (by omega) hm)
 have hge:=Lib.index_ge s.data.toList [47]
 have HC:Hid (cutS s = match Lib.index s.data.toList [47] with
  | .ofNat i => some (s.extract 0 i,s.extract (i + 1) s.size)
  | _ => none):=Lib.hid rfl
 have HIXV:Hid ((⟨#[47]⟩:ByteArray).data.toList = [47]):=Lib.hid rfl
 have HLT:=Lib.hid (index_lt s.data.toList)
 clear hm
 by_cases hix:Lib.index s.data.toList [47] = -1
 ·have hC:cutS s = none:=by rw [HC.out,hix];rfl
  have HN:=Lib.hid hC
  clear hC
  go_enter Tryz.func157,Tryz.ntmps157
  go_wp2_with (go_at_call 194;refine HIX.out.mono ?_;rintro e w' ⟨rfl,rfl⟩;rw [HIXV.out,hix])
  go_ret3
  exact ⟨Below.refl _ _,.inl ⟨HN.out,rfl⟩⟩
 ·obtain ⟨i,hi⟩:∃ i:Nat,Lib.index s.data.toList [47] = (i:Int):=⟨(Lib.index s.data.toList [47]).toNat,by omega⟩
  have hlt:=HLT.out i hi
  have hC:cutS s = some (s.extract 0 i,s.extract (i + 1) s.size):=by rw [HC.out,hi]
  have HN:=Lib.hid hC
  rw [Array.length_toList] at hlt
  change i < s.size at hlt
  clear hC hix hge
  have c1:(0:Int) ≤ ↑i:=by omega
  have c2:(↑i:Int) ≤ ↑s.size:=by omega
  have c3:(0:Int) ≤ ↑i + 1:=by omega
  have c4:(↑i + 1:Int) ≤ ↑s.size:=by omega
  go_enter Tryz.func157,Tryz.ntmps157
  go_wp2_with (go_at_call 194;refine HIX.out.mono ?_;rintro e w' ⟨rfl,rfl⟩;rw [HIXV.out,hi])
  refine wp_region_bq (by kernel_rfl) (by kernel_rfl) ?_
  repeat (go_big_quiet_step (fail))
  refine wpQuiet_nil ?_
  intro wq hbq
  go_wp2
  go_ret3
  exact ⟨hbq,.inr ⟨_,_,HN.out,rfl⟩⟩
set_option maxHeartbeats 2000000 in
theorem cut_any (s:ByteArray) (w:World) (hs:s.size ≤ 1000000) (hm:MaxAt w):Calls Tryz.prog 121 #[.string s,.string ⟨#[47]⟩] w (CutAns s w):=by
 have HIX:=Lib.hid (slcut_any s w hs hm)
 clear hm
 go_enter Tryz.func121,Tryz.ntmps121
 go_wp2_with fail
 refine HIX.out.mono ?_
 rintro e w1 ⟨hb,⟨hc,rfl⟩ | ⟨a,b,hc,rfl⟩⟩
 ·have HC:=Lib.hid hc
  have HB:=Lib.hid hb
  clear hc hb
  go_wp2
  go_ret3
  exact ⟨HB.out,.inl ⟨HC.out,rfl⟩⟩
 ·have HC:=Lib.hid hc
  have HB:=Lib.hid hb
  clear hc hb
  go_wp2
  go_ret3
  exact ⟨HB.out,.inr ⟨_,_,HC.out,rfl⟩⟩
set_option maxHeartbeats 2000000 in
theorem blobmk_any (s:ByteArray) (w:World):Calls Tryz.prog 123 #[.string s] w (MadeAns true ⟨1,s⟩ w):=by
 have HM:=Lib.hid (fun W => omade_any 1 s true W)
 have h20:(Tryz.prog.info? 93).map (·.size) = some 2:=by kernel_rfl
 obtain ⟨W,hW⟩:∃ W,w.alloc (.cells #[.int .i64 0,.string ⟨#[]⟩] 93) = W:=⟨_,rfl⟩
 have hbW:Below w.heap.size w W:=by rw [← hW];exact (Below.refl _ _).alloc (Nat.le_refl _) _
 have hA:=Arr.ofList w [.int .i64 0,.string ⟨#[]⟩] 93
 rw [hW] at hA
 have hsW:W.heap.size = w.heap.size + 1:=by rw [← hW];simp
 have HW:=Lib.hid hW
 have HBW:=Lib.hid hbW
 have HSW:=Lib.hid hsW
 have HA:=Lib.hid hA
 clear hW hbW hA hsW
 go_enter Tryz.func123,Tryz.ntmps123
 go_wp2_with fail
 rw [HW.out]
 refine (HM.out W).mono ?_
 rintro e w1 ⟨rfl,hb1⟩
 have hA1:=HA.out.below hb1 (by rw [HSW.out];omega)
 have d0:w1.cell? ⟨w.heap.size,0,none⟩ = some (.int .i64 0):=hA1.cell 0 (by simp)
 have d1:w1.cell? ⟨w.heap.size,1,none⟩ = some (.string ⟨#[]⟩):=hA1.cell 1 (by simp)
 have HTH:=Lib.hid hA1.there
 have HB1:=Lib.hid (HBW.out.trans (hb1.mono HBW.out.size))
 obtain ⟨o,ho⟩:∃ o,mkOb true ⟨1,s⟩ = o:=⟨_,rfl⟩
 obtain ⟨k,hk⟩:∃ k,mkE true ⟨1,s⟩ = k:=⟨_,rfl⟩
 have HO:=Lib.hid ho
 have HK:=Lib.hid hk
 rw [ho,hk]
 have hse:=World.rangeAt_setCells_same w1 w.heap.size 0 (obC o) HTH.out
 have hbe:=below_setCells (B:=w.heap.size) w.heap.size (by omega) (obC o) 0 w1 HB1.out
 have hone:∀ v ∈ obC o,v.oneCell' = true:=by simp [obC,Value.oneCell']
 clear hb1 hA1 ho hk
 go_wp2_with (refine wpList_store_list rfl 93 _ _ rfl w.heap.size 0 (obC o) rfl rfl 2 rfl HTH.out h20 hone ?_)
 refine ret_cell2 rfl w.heap.size 0 rfl (obC o) _ hse Tryz.underlying93 rfl h20 rfl _ rfl ?_
 exact ⟨by rw [HO.out,HK.out];rfl,hbe⟩
def encO (o:Ob):Value:=.agg (obC o).toArray
structure BldAt (pb b n:Nat) (M:Idl → Option Ob) (w:World):Prop where
 ptr:w.cell? ⟨pb,0,none⟩ = some (.map (some b))
 map:MapG encO w b n M
def PutAns (pb b n:Nat) (M:Idl → Option Ob) (ok:Bool) (o:Ob) (w:World) (e:Ending) (w':World):Prop :=
 w.grownBy w' (some b) ∧ if ok = true then e = .returned (.tuple #[.agg (idC (idO o)).toArray,.bool true]) ∧ BldAt pb b (n + 1) (fun q => if q = idO o then some o else M q) w'
  else e = .returned (.tuple #[.agg (idC zid).toArray,.bool false]) ∧ BldAt pb b n M w'
theorem BldAt.below {pb b n:Nat} {M:Idl → Option Ob} {w w':World} (h:BldAt pb b n M w) (hb:Below w.heap.size w w'):BldAt pb b n M w' :=
 ⟨below_load h.ptr hb (World.block_lt_of_cell? w _ h.ptr),h.map.on hb⟩
theorem grownS_of {w w':World} {b:Nat} (h:Below w.heap.size w w'):w.grownBy w' (some b):=grown_any (below_grownBy h) _
theorem BldAt.ne {pb b n:Nat} {M:Idl → Option Ob} {w:World} (h:BldAt pb b n M w):pb ≠ b:=fun e => by
 obtain ⟨D,⟨es,clock,h1,_⟩,_⟩:=h.map
 have h2:=h.ptr
 subst e
 simp [World.cell?,h1] at h2
theorem BldAt.lt {pb b n:Nat} {M:Idl → Option Ob} {w:World} (h:BldAt pb b n M w):pb < w.heap.size:=World.block_lt_of_cell? w _ h.ptr
theorem BldAt.grown {pb b n:Nat} {M:Idl → Option Ob} {w w':World} {r:Option Nat} (h:BldAt pb b n M w) (hg:w.grownBy w' r) (h1:r ≠ some pb) (h2:some b ≠ r):BldAt pb b n M w' :=
 ⟨cell_grown h.ptr hg h1,h.map.grown hg h2⟩
theorem BldAt.set {pb b n p o:Nat} {us:List Value} {M:Idl → Option Ob} {w:World} (h:BldAt pb b n M w) (h1:p ≠ pb) (h2:p ≠ b):BldAt pb b n M (w.setCells p o us) :=
 h.grown (grownBy_setCells w p o us) (fun e => h1 (Option.some.inj e)) (fun e => h2 (Option.some.inj e).symm)
theorem grown_new {w w1:World} {b p o:Nat} {us:List Value} (h:w.grownBy w1 (some b)) (hp:w.heap.size ≤ p):w.grownBy (w1.setCells p o us) (some b):=by
 have k:=grownBy_setCells w1 p o us
 exact ⟨k.os.trans h.os,k.tape.trans h.tape,k.output.trans h.output,Nat.le_trans h.size k.size,fun j hj hne => (k.block j (Nat.lt_of_lt_of_le hj h.size) (fun e => by have:=Option.some.inj e;omega)).trans (h.block j hj hne)⟩
set_option maxHeartbeats 4000000 in
theorem bput_any (pb b n:Nat) (M:Idl → Option Ob) (ok:Bool) (o:Ob) (w:World) (h:BldAt pb b n M w) (hL:Laid w) (hn:n < 1000000) :
  Calls Tryz.prog 122 #[.pointer (some ⟨pb,0,none⟩),.agg (obC (mkOb ok o)).toArray,.int .i64 (mkE ok o)] w (PutAns pb b n M (ok && rightOb o) (mkOb ok o) w):=by
 obtain ⟨ob,hob⟩:∃ x,mkOb ok o = x:=⟨_,rfl⟩
 obtain ⟨ek,hek⟩:∃ x,mkE ok o = x:=⟨_,rfl⟩
 have hrt:(ok && rightOb o) = true → rightOb ob = true ∧ ek = 0:=fun h => by
  rw [← hob,← hek];unfold mkOb mkE;rw [if_pos h,if_pos h]
  exact ⟨(Bool.and_eq_true _ _ ▸ h).2,rfl⟩
 have hrf:(ok && rightOb o) = false → ek = 1:=fun h => by
  rw [← hek];unfold mkE;rw [if_neg (by rw [h];simp)]
 rw [hob,hek]
 obtain ⟨k,s⟩:=ob
 obtain ⟨hizz,hizb⟩:=id_zeroC
 obtain ⟨W,hW⟩:∃ W,(w.alloc (.cells #[.int .i64 k,.string s] 93)).alloc (.cells (idC zid).toArray 24) = W:=⟨_,rfl⟩
 have hbW:Below w.heap.size w W:=by rw [← hW];exact ((Below.refl _ _).alloc (Nat.le_refl _) _).alloc (by simp) _
 have hsW:W.heap.size = w.heap.size + 1 + 1:=by rw [← hW];simp
 have hA:=(Arr.ofList w [.int .i64 k,.string s] 93).alloc (by simp) (.cells (idC zid).toArray 24)
 rw [hW] at hA
 have hI:BoxL W (w.heap.size + 1) 24 (idC zid):=by
  have:=BoxL.new (w.alloc (.cells #[.int .i64 k,.string s] 93)) 24 (idC zid)
  rw [hW,World.size_alloc] at this
  exact this
 have c0:W.cell? ⟨w.heap.size,0,none⟩ = some (.int .i64 k):=hA.cell 0 (by simp)
 have c1:W.cell? ⟨w.heap.size,1,none⟩ = some (.string s):=hA.cell 1 (by simp)
 have HID:=Lib.hid (oid_any k s W (hL.below hbW))
 have HB:=Lib.hid (h.below hbW)
 have hbl:=h.map.lt
 have hpl:=h.lt
 have HBW:=Lib.hid hbW
 have HSW:=Lib.hid hsW
 have HA:=Lib.hid hA
 have HI:=Lib.hid hI
 have HW:=Lib.hid hW
 have HRT:=Lib.hid hrt
 have HRF:=Lib.hid hrf
 have hzl:(idC zid).length = 32:=by rw [idC_len,zid_len]
 clear hW hbW hsW hA hI h hL hrt hrf hob hek
 generalize huz:idC zid = uz at hizz hizb HI HW hzl
 change Calls Tryz.prog 122 #[.pointer (some ⟨pb,0,none⟩),.agg #[.int .i64 k,.string s],.int .i64 ek] w _
 go_enter Tryz.func122,Tryz.ntmps122
 go_upto_region 1 with fail
 rw [HW.out]
 go_wp2_with fail
 refine HID.out.mono ?_
 rintro e w1 ⟨rfl,hb1⟩
 have HB1:=Lib.hid (HB.out.below hb1)
 have HI1:=Lib.hid (HI.out.below hb1)
 have hA1:=HA.out.below hb1 (by rw [HSW.out];omega)
 have HA1:=Lib.hid hA1
 have HBW1:=Lib.hid (HBW.out.trans (hb1.mono HBW.out.size))
 have hs1:w.heap.size + 1 < w1.heap.size:=by have:=hb1.size;have:=HSW.out;omega
 clear hb1 hA1 c0 c1
 obtain ⟨x,hx⟩:∃ x,(if rightOb ⟨k,s⟩ = true then idO ⟨k,s⟩ else zid) = x:=⟨_,rfl⟩
 have hxl:(idC x).length = 32:=by
  rw [idC_len,← hx]
  split
  ·exact idO_len _
  ·exact zid_len
 have HX:=Lib.hid hx
 rw [hx]
 clear hx
 obtain ⟨W2,hW2⟩:∃ W2,(w1.alloc (.cells uz.toArray 24)).setCells w1.heap.size 0 (idC x) = W2:=⟨_,rfl⟩
 have b2:BoxL W2 w1.heap.size 24 (idC x):=by rw [← hW2];exact (BoxL.new w1 24 uz).set (by rw [hxl,hzl])
 have hb2:Below w1.heap.size w1 W2:=by rw [← hW2];exact below_setCells _ (Nat.le_refl _) _ _ _ ((Below.refl _ _).alloc (Nat.le_refl _) _)
 have HB2:=Lib.hid (HB1.out.below hb2)
 have HI2:=Lib.hid (HI1.out.below hb2)
 have HX2:=Lib.hid b2
 have hA2:=HA1.out.below hb2 (by omega)
 have c0:W2.cell? ⟨w.heap.size,0,none⟩ = some (.int .i64 k):=hA2.cell 0 (by simp)
 have c1:W2.cell? ⟨w.heap.size,1,none⟩ = some (.string s):=hA2.cell 1 (by simp)
 have HBW2:=Lib.hid (HBW1.out.trans (hb2.mono HBW1.out.size))
 have hs2:w1.heap.size < W2.heap.size:=b2.lt
 have HTH:=Lib.hid (there_alloc w1 uz.toArray 24 (by simpa using hzl))
 have HXO:=Lib.hid (idC_one x)
 have HW2:=Lib.hid hW2
 have h32i:(Tryz.prog.info? 24).map (·.size) = some 32:=by kernel_rfl
 have HZO:=Lib.hid (idC_one zid)
 rw [huz] at HZO
 clear hW2 b2 hb2 hA2 HA1 HB1 HI1 HB HI HA
 by_cases hok:(ok && rightOb o) = true
 ·obtain ⟨hr,rfl⟩:=HRT.out hok
  have HXE:Hid (x = idO ⟨k,s⟩):=Lib.hid (by rw [← HX.out,if_pos hr])
  have HOK:=Lib.hid hok
  clear hok
  rw [hr]
  have c3:=HB2.out.ptr
  have hxx:=HX2.out.range
  have HM2:=Lib.hid HB2.out.map
  have h32x:(Tryz.prog.info? 24).map (·.size) = some (idC x).length:=by rw [hxl];exact h32i
  have HXI:Hid (∃ y,y = x ∧ y.length = 32):=Lib.hid ⟨x,rfl,by rw [idC_len] at hxl;exact hxl⟩
  generalize hux:idC x = ux at hxl HXO HX2 HW2 hxx h32x
  go_upto_region 4 with (refine wpList_store_list rfl 24 _ _ rfl w1.heap.size 0 ux rfl rfl 32 hxl HTH.out h32i HXO.out ?_;rw [HW2.out])
  have hS0:W2.drew.cell? ⟨pb,0,none⟩ = some (.map (some b)) ∧ W2.drew.rangeAt w1.heap.size 0 ux ∧ W2.drew.cell? ⟨w.heap.size,0,none⟩ = some (.int .i64 k) ∧ W2.drew.cell? ⟨w.heap.size,1,none⟩ = some (.string s):=⟨c3,hxx,c0,c1⟩
  refine wp_region_L 6 (fun w' => w'.cell? ⟨pb,0,none⟩ = some (.map (some b)) ∧ w'.rangeAt w1.heap.size 0 ux ∧ w'.cell? ⟨w.heap.size,0,none⟩ = some (.int .i64 k) ∧ w'.cell? ⟨w.heap.size,1,none⟩ = some (.string s)) (by kernel_rfl) (by kernel_rfl) ?_
  refine WL.take (i:=0) (v:=?_) rfl (by kernel_rfl) (by decide) (by decide +kernel) (by decide +kernel) (fun _ _ _ h => h) rfl ?_ hS0 ?_
  rotate_left
  ·(intro w' hSw;(try dsimp only at hSw);go_simp;(try with_reducible rfl))
  simp only [Act.put];(try simp only [List.getElem_toArray]);(try simp only [List.getElem_cons_succ]);(try simp only [List.getElem_cons_zero]);(try simp only [List.setIfInBounds_toArray]);(try simp only [List.set_cons_succ]);(try simp only [List.set_cons_zero])
  refine WL.take (i:=1) (v:=?_) rfl (by kernel_rfl) (by decide) (by decide +kernel) (by decide +kernel) (fun _ _ _ h => h) rfl ?_ hS0 ?_
  rotate_left
  ·(intro w' hSw;(try dsimp only at hSw);go_simp;(try with_reducible rfl))
  simp only [Act.put];(try simp only [List.getElem_toArray]);(try simp only [List.getElem_cons_succ]);(try simp only [List.getElem_cons_zero]);(try simp only [List.setIfInBounds_toArray]);(try simp only [List.set_cons_succ]);(try simp only [List.set_cons_zero])
  refine WL.take (i:=2) (v:=?_) rfl (by kernel_rfl) (by decide) (by decide +kernel) (by decide +kernel) (fun _ _ _ h => h) rfl ?_ hS0 ?_
  rotate_left
  ·(intro w' hSw;(try dsimp only at hSw);go_simp;(try with_reducible rfl))
  simp only [Act.put];(try simp only [List.getElem_toArray]);(try simp only [List.getElem_cons_succ]);(try simp only [List.getElem_cons_zero]);(try simp only [List.setIfInBounds_toArray]);(try simp only [List.set_cons_succ]);(try simp only [List.set_cons_zero])
  refine WL.take (i:=3) (v:=?_) rfl (by kernel_rfl) (by decide) (by decide +kernel) (by decide +kernel) (fun _ _ _ h => h) rfl ?_ hS0 ?_
  rotate_left
  ·(intro w' hSw;(try dsimp only at hSw);go_simp;(try with_reducible rfl))
  simp only [Act.put];(try simp only [List.getElem_toArray]);(try simp only [List.getElem_cons_succ]);(try simp only [List.getElem_cons_zero]);(try simp only [List.setIfInBounds_toArray]);(try simp only [List.set_cons_succ]);(try simp only [List.set_cons_zero])
  refine WL.take (i:=4) (v:=_) rfl (by kernel_rfl) (by decide) (by decide +kernel) (by decide +kernel) (fun _ _ _ h => h) rfl (fun w' hSw => exec_row 24 _ (hSw.2.1) Tryz.underlying24 rfl h32x _ rfl rfl) hS0 ?_
  simp only [Act.put];(try simp only [List.getElem_toArray]);(try simp only [List.getElem_cons_succ]);(try simp only [List.getElem_cons_zero]);(try simp only [List.setIfInBounds_toArray]);(try simp only [List.set_cons_succ]);(try simp only [List.set_cons_zero])
  refine WL.take (i:=5) (v:=?_) rfl (by kernel_rfl) (by decide) (by decide +kernel) (by decide +kernel) (fun _ _ _ h => h) rfl ?_ hS0 ?_
  rotate_left
  ·(intro w' hSw;(try dsimp only at hSw);go_simp;(try with_reducible rfl))
  simp only [Act.put];(try simp only [List.getElem_toArray]);(try simp only [List.getElem_cons_succ]);(try simp only [List.getElem_cons_zero]);(try simp only [List.setIfInBounds_toArray]);(try simp only [List.set_cons_succ]);(try simp only [List.set_cons_zero])
  refine WL.last (n:=6) rfl rfl (by decide +kernel) (by decide +kernel) ?_
  refine wpList_update_G (enc:=encO) rfl (.tmp 25) (.tmp 26) (.tmp 27) 106 93 rfl Tryz.underlying106 b n M rfl (HM2.out.on (Below.refl _ _).drew) x ?hx32 ⟨k,s⟩ (by rw [hux];rfl) rfl ?hnn ?_
  case hx32 => obtain ⟨y,rfl,hy⟩:=HXI.out;exact hy
  case hnn => unfold maxLen;omega
  intro w5 hm5 hg5
  have hgd:W2.grownBy W2.drew (some b):=grownS_of (Below.refl _ _).drew
  have hg:=hgd.trans hg5
  have hb5:BldAt pb b (n + 1) (fun q => if q = x then some ⟨k,s⟩ else M q) w5:=⟨cell_grown HB2.out.ptr hg (fun e => HB2.out.ne (Option.some.inj e).symm),hm5⟩
  have HBD:=Lib.hid (hb5.set (p:=w.heap.size + 1) (o:=0) (us:=ux) (by omega) (by omega))
  have h8:=range_grown HX2.out.range hg (fun e => by have:=Option.some.inj e;omega)
  have h6:BoxL w5 (w.heap.size + 1) 24 uz:=HI2.out.kept hg (fun e => by have:=Option.some.inj e;omega)
  have HT6:=Lib.hid h6.there
  rw [hzl] at HT6
  have hr6:=(h6.set (us:=ux) (by rw [hxl,hzl])).range
  have HG:=Lib.hid (grown_new (p:=w.heap.size + 1) (o:=0) (us:=ux) ((grownS_of HBW2.out).trans hg) (by omega))
  clear hm5 hg5 hgd hg hb5 h6 hS0
  try simp only [Act.put]
  go_wp2_with (first
   | (refine wpList_load_mid rfl 24 _ rfl w1.heap.size 0 rfl ux _ h8 Tryz.underlying24 rfl h32x ?_)
   | (refine wpList_store_list rfl 24 _ _ rfl (w.heap.size + 1) 0 ux rfl rfl 32 hxl HT6.out h32i HXO.out ?_))
  refine ret_cell2 rfl (w.heap.size + 1) 0 rfl ux _ hr6 Tryz.underlying24 rfl h32x rfl _ rfl ?_
  have e:x = idO ⟨k,s⟩:=HXE.out
  subst e
  exact ⟨HG.out,by rw [HOK.out,if_pos rfl];exact ⟨by rw [hux];rfl,HBD.out⟩⟩
 ·have hok':(ok && rightOb o) = false:=by simpa using hok
  have h1:=HRF.out hok'
  have HOK:=Lib.hid hok'
  have d1:((1:Int) != 0) = true:=rfl
  subst h1
  clear hok hok'
  have HT6:=Lib.hid HI2.out.there
  rw [hzl] at HT6
  have hr6:=(HI2.out.set (us:=uz) rfl).range
  have HG:=Lib.hid (grown_new (p:=w.heap.size + 1) (o:=0) (us:=uz) (grownS_of HBW2.out (b:=b)) (by omega))
  have HBD:=Lib.hid (HB2.out.set (p:=w.heap.size + 1) (o:=0) (us:=uz) (by omega) (by omega))
  have h32z:(Tryz.prog.info? 24).map (·.size) = some uz.length:=by rw [hzl];exact h32i
  generalize hux:idC x = ux at hxl HXO HX2 HW2
  go_wp2_with (first
   | (refine wpList_store_list rfl 24 _ _ rfl w1.heap.size 0 ux rfl rfl 32 hxl HTH.out h32i HXO.out ?_;rw [HW2.out])
   | (refine wpList_store_list rfl 24 _ _ rfl (w.heap.size + 1) 0 uz rfl rfl 32 hzl HT6.out h32i HZO.out ?_))
  refine ret_cell2 rfl (w.heap.size + 1) 0 rfl uz _ hr6 Tryz.underlying24 rfl h32z rfl _ rfl ?_
  exact ⟨HG.out,by rw [HOK.out,if_neg (by simp)];exact ⟨by rw [huz];rfl,HBD.out⟩⟩
end Go.Proofs.YtbmiiiccnoiffaaGreatDoor
namespace Go.Proofs.YtbmiiiccnoiffaaGreatDoor
open Go.RowKit
set_option maxRecDepth 100000
theorem ent3_built (s:ByteArray) (k:Nat) (x:Idl) (hx:x.length = 32) (w:World):(Instr.build 152 #[(0,.string s),(1,.int .i64 (k:Int)),(2,.agg (idC x).toArray)]).run Tryz.prog w = .ok (.agg (entC ⟨s,k,x⟩).toArray) w:=by
 rcases x with _ | ⟨a0,x⟩
 ·simp at hx
 rcases x with _ | ⟨a1,x⟩
 ·simp at hx
 rcases x with _ | ⟨a2,x⟩
 ·simp at hx
 rcases x with _ | ⟨a3,x⟩
 ·simp at hx
 rcases x with _ | ⟨a4,x⟩
 ·simp at hx
 rcases x with _ | ⟨a5,x⟩
 ·simp at hx
 rcases x with _ | ⟨a6,x⟩
 ·simp at hx
 rcases x with _ | ⟨a7,x⟩
 ·simp at hx
 rcases x with _ | ⟨a8,x⟩
 ·simp at hx
 rcases x with _ | ⟨a9,x⟩
 ·simp at hx
 rcases x with _ | ⟨a10,x⟩
 ·simp at hx
 rcases x with _ | ⟨a11,x⟩
 ·simp at hx
 rcases x with _ | ⟨a12,x⟩
 ·simp at hx
 rcases x with _ | ⟨a13,x⟩
 ·simp at hx
 rcases x with _ | ⟨a14,x⟩
 ·simp at hx
 rcases x with _ | ⟨a15,x⟩
 ·simp at hx
 rcases x with _ | ⟨a16,x⟩
 ·simp at hx
 rcases x with _ | ⟨a17,x⟩
 ·simp at hx
 rcases x with _ | ⟨a18,x⟩
 ·simp at hx
 rcases x with _ | ⟨a19,x⟩
 ·simp at hx
 rcases x with _ | ⟨a20,x⟩
 ·simp at hx
 rcases x with _ | ⟨a21,x⟩
 ·simp at hx
 rcases x with _ | ⟨a22,x⟩
 ·simp at hx
 rcases x with _ | ⟨a23,x⟩
 ·simp at hx
 rcases x with _ | ⟨a24,x⟩
 ·simp at hx
 rcases x with _ | ⟨a25,x⟩
 ·simp at hx
 rcases x with _ | ⟨a26,x⟩
 ·simp at hx
 rcases x with _ | ⟨a27,x⟩
 ·simp at hx
 rcases x with _ | ⟨a28,x⟩
 ·simp at hx
 rcases x with _ | ⟨a29,x⟩
 ·simp at hx
 rcases x with _ | ⟨a30,x⟩
 ·simp at hx
 rcases x with _ | ⟨a31,x⟩
 ·simp at hx
 rcases x with _ | ⟨a32,x⟩
 ·exact run_build w 152 _ _ (by kernel_rfl)
 ·simp at hx
theorem leaf_info:∃ i0:TypeInfo,Tryz.prog.info? 82 = some i0 ∧ i0.zero = some (.agg #[.string ⟨#[]⟩,.string ⟨#[]⟩]) ∧ i0.size = 2 ∧ i0.bytes = 32:=⟨_,rfl,by kernel_rfl,by kernel_rfl,by kernel_rfl⟩
end Go.Proofs.YtbmiiiccnoiffaaGreatDoor
namespace Go.Proofs.YtbmiiiccnoiffaaGreatDoor
def insEn (x:Ent):List Ent → List Ent
 | [] => [x]
 | y :: l => if ltB x.name.data.toList y.name.data.toList = true then x :: y :: l else y :: insEn x l
def sortEn (l:List Ent):List Ent:=l.foldl (fun acc x => insEn x acc) []
def RowE2 (m:List Ent):Prop:=m.Pairwise fun x y => ltB y.name.data.toList x.name.data.toList = false
theorem ltB_le {x y z:List UInt8} (h1:ltB y x = false) (h2:ltB z y = false):ltB z x = false:=by
 cases h:ltB z x with
 | false => rfl
 | true =>
  cases h3:ltB x y with
  | true => rw [ltB_trans h h3] at h2;cases h2
  | false =>
   have:=ltB_total h3 h1
   subst this
   rw [h] at h2;cases h2
theorem insEn_perm (x:Ent):∀ l:List Ent,(insEn x l).Perm (x :: l)
 | [] => .refl _
 | y :: l => by
  unfold insEn
  split
  ·exact .refl _
  ·exact ((insEn_perm x l).cons y).trans (.swap x y l)
theorem insEn_row (x:Ent):∀ l:List Ent,RowE2 l → RowE2 (insEn x l)
 | [],_ => by unfold RowE2 insEn;simp
 | y :: l,h => by
  unfold RowE2 at h ⊢
  rw [List.pairwise_cons] at h
  unfold insEn
  split
  ·rename_i hxy
   refine List.pairwise_cons.2 ⟨fun z hz => ?_,List.pairwise_cons.2 h⟩
   rcases List.mem_cons.1 hz with rfl | hz
   ·exact ltB_asymm hxy
   ·exact ltB_le (ltB_asymm hxy) (h.1 z hz)
  ·rename_i hxy
   refine List.pairwise_cons.2 ⟨fun z hz => ?_,insEn_row x l h.2⟩
   rcases List.mem_cons.1 ((insEn_perm x l).mem_iff.1 hz) with rfl | hz
   ·simpa using hxy
   ·exact h.1 z hz
theorem sortEn_fold:∀ (l acc:List Ent),RowE2 acc → RowE2 (l.foldl (fun acc x => insEn x acc) acc) ∧ (l.foldl (fun acc x => insEn x acc) acc).Perm (acc ++ l)
 | [],acc,h => ⟨h,by simp⟩
 | x :: l,acc,h => by
  obtain ⟨h1,h2⟩:=sortEn_fold l (insEn x acc) (insEn_row x acc h)
  refine ⟨h1,h2.trans ?_⟩
  refine ((insEn_perm x acc).append_right l).trans ?_
  rw [List.cons_append]
  exact List.perm_middle.symm
theorem sortEn_row (l:List Ent):RowE2 (sortEn l):=(sortEn_fold l [] (by unfold RowE2;simp)).1
theorem sortEn_perm (l:List Ent):(sortEn l).Perm l:=by
 have h:=(sortEn_fold l [] (by unfold RowE2;simp)).2
 rw [List.nil_append] at h
 exact h
theorem treeOk_order {m n:List Ent} (hp:m.Perm n) (hn:RowE2 n) (h:treeOk m = true):m = n:=by
 unfold treeOk at h
 simp only [Bool.and_eq_true] at h
 have hs:=rise_pair h.1.2
 have hnd:(m.map fun e => e.name).Nodup:=by
  rw [List.Nodup,List.pairwise_map]
  exact hs.imp fun {a b} h e => by rw [e,ltB_irrefl] at h;cases h
 have hnd2:(n.map fun e => e.name).Nodup:=(hp.map _).nodup_iff.1 hnd
 have hs2:n.Pairwise fun a b => ltB a.name.data.toList b.name.data.toList = true:=by
  rw [List.Nodup,List.pairwise_map] at hnd2
  refine (hn.and hnd2).imp ?_
  rintro a b ⟨h1,h2⟩
  cases h3:ltB a.name.data.toList b.name.data.toList with
  | true => rfl
  | false => exact absurd (ba_ext (ltB_total h3 h1)) h2
 refine List.Perm.eq_of_pairwise ?_ hs hs2 hp
 intro a b _ _ h1 h2
 rw [ltB_asymm h1] at h2;cases h2
theorem treeOk_perm {m n:List Ent} (hp:m.Perm n) (hm:RowE2 m) (hn:RowE2 n):treeOk m = treeOk n:=by
 cases h:treeOk m with
 | true => rw [← treeOk_order hp hn h,h]
 | false =>
  cases h2:treeOk n with
  | false => rfl
  | true => rw [treeOk_order hp.symm hm h2,h] at h2;cases h2
theorem cutS_some {s a r:ByteArray} (h:cutS s = some (a,r)):a.size ≤ s.size ∧ r.size ≤ s.size ∧ nms s = a :: nms r:=by
 unfold cutS at h
 split at h
 ·rename_i i hi
  cases h
  refine ⟨by rw [ByteArray.size_extract];omega,by rw [ByteArray.size_extract];omega,nms_some hi⟩
 ·cases h
def inB (a:ByteArray) (l:List ByteArray):Bool:=l.any fun x => decide (x = a)
theorem inB_iff (a:ByteArray) (l:List ByteArray):inB a l = true ↔ a ∈ l:=by unfold inB;simp
def dirsGo (acc:List ByteArray) (f:Lf):List ByteArray:=match cutS f.1 with
 | some (a,_) => if inB a acc = true then acc else acc ++ [a]
 | none => acc
def dirsOf (L:List Lf):List ByteArray:=L.foldl dirsGo []
def underGo (n:ByteArray) (f:Lf):Option Lf:=match cutS f.1 with
 | some (a,r) => if a = n then some (r,f.2) else none
 | none => none
def underOf (n:ByteArray) (L:List Lf):List Lf:=L.filterMap (underGo n)
def blobsOf (L:List Lf):List Lf:=L.filter fun f => (cutS f.1).isNone
theorem take_snoc {α:Type} (l:List α) (k:Nat) (h:k < l.length):l.take (k + 1) = l.take k ++ [l[k]]:=by rw [List.take_succ_eq_append_getElem h]
theorem underOf_snoc (n:ByteArray) (L:List Lf) (f:Lf):underOf n (L ++ [f]) = underOf n L ++ (underGo n f).toList:=by
 unfold underOf;rw [List.filterMap_append];congr 1
theorem blobsOf_snoc (L:List Lf) (f:Lf):blobsOf (L ++ [f]) = blobsOf L ++ if (cutS f.1).isNone = true then [f] else []:=by
 unfold blobsOf;rw [List.filter_append]
 cases h:(cutS f.1).isNone <;> simp [h]
theorem dirs_nodup_go:∀ (L:List Lf) (acc:List ByteArray),acc.Nodup → (L.foldl dirsGo acc).Nodup
 | [],_,h => h
 | f :: L,acc,h => by
  refine dirs_nodup_go L _ ?_
  unfold dirsGo
  split
  ·split
   ·exact h
   ·rename_i hn
    exact List.nodup_append.2 ⟨h,by simp,fun x hx y hy e => by rw [List.mem_singleton.1 hy] at e;subst e;exact hn ((inB_iff _ _).2 hx)⟩
  ·exact h
theorem dirsOf_nodup (L:List Lf):(dirsOf L).Nodup:=dirs_nodup_go L [] (by simp)
theorem dirs_mem_go:∀ (L:List Lf) (acc:List ByteArray) (n:ByteArray),n ∈ L.foldl dirsGo acc ↔ n ∈ acc ∨ underOf n L ≠ []
 | [],acc,n => by simp [underOf]
 | f :: L,acc,n => by
  rw [List.foldl_cons,dirs_mem_go L _ n]
  have hu:underOf n (f :: L) = (underGo n f).toList ++ underOf n L:=by
   unfold underOf;rw [List.filterMap_cons];cases h:underGo n f <;> simp
  rw [hu]
  have hne:∀ (a b:List Lf),a ++ b ≠ [] ↔ a ≠ [] ∨ b ≠ []:=fun a b => by cases a <;> simp
  rw [hne]
  unfold dirsGo underGo
  cases h:cutS f.1 with
  | none => simp
  | some p =>
   obtain ⟨a,r⟩:=p
   dsimp only
   by_cases ha:a ∈ acc
   ·rw [if_pos ((inB_iff _ _).2 ha)]
    by_cases e:a = n
    ·subst e;simp [ha]
    ·simp [e]
   ·rw [if_neg (fun h => ha ((inB_iff _ _).1 h)),List.mem_append,List.mem_singleton]
    by_cases e:a = n
    ·subst e;simp
    ·rw [if_neg e]
     constructor
     ·rintro ((h | h) | h)
      ·exact .inl h
      ·exact absurd h.symm e
      ·exact .inr (.inr h)
     ·rintro (h | h | h)
      ·exact .inl (.inl h)
      ·simp at h
      ·exact .inr h
theorem dirsOf_mem (L:List Lf) (n:ByteArray):n ∈ dirsOf L ↔ underOf n L ≠ []:=by unfold dirsOf;rw [dirs_mem_go];simp
theorem dirs_from {L:List Lf} {d:ByteArray} (h:d ∈ dirsOf L):∃ f ∈ L,∃ r,cutS f.1 = some (d,r):=by
 rw [dirsOf_mem] at h
 obtain ⟨x,hx⟩:=List.exists_mem_of_ne_nil _ h
 unfold underOf at hx
 obtain ⟨f,hf,he⟩:=List.mem_filterMap.1 hx
 unfold underGo at he
 split at he
 ·rename_i a r hc
  split at he
  ·rename_i e
   exact ⟨f,hf,r,by rw [hc,e]⟩
  ·cases he
 ·cases he
theorem under_from {L:List Lf} {d:ByteArray} {x:Lf} (h:x ∈ underOf d L):∃ f ∈ L,cutS f.1 = some (d,x.1) ∧ x.2 = f.2:=by
 unfold underOf at h
 obtain ⟨f,hf,he⟩:=List.mem_filterMap.1 h
 unfold underGo at he
 split at he
 ·rename_i a r hc
  split at he
  ·rename_i e
   cases he
   exact ⟨f,hf,by rw [hc,e],rfl⟩
  ·cases he
 ·cases he
theorem count_go:∀ (L:List Lf) (acc:List ByteArray),(L.foldl dirsGo acc).length + (blobsOf L).length ≤ acc.length + L.length
 | [],acc => by simp [blobsOf]
 | f :: L,acc => by
  have ih:=count_go L (dirsGo acc f)
  rw [List.foldl_cons,List.length_cons]
  cases hc:cutS f.1 with
  | none =>
   have h1:dirsGo acc f = acc:=by unfold dirsGo;rw [hc]
   have h2:blobsOf (f :: L) = f :: blobsOf L:=by unfold blobsOf;rw [List.filter_cons,if_pos (by rw [hc];rfl)]
   rw [h1] at ih ⊢
   rw [h2,List.length_cons];omega
  | some p =>
   have h1:(dirsGo acc f).length ≤ acc.length + 1:=by
    unfold dirsGo;rw [hc];dsimp only
    split
    ·omega
    ·simp
   have h2:blobsOf (f :: L) = blobsOf L:=by unfold blobsOf;rw [List.filter_cons,if_neg (by rw [hc];simp)]
   rw [h2];omega
theorem count_le (L:List Lf):(dirsOf L).length + (blobsOf L).length ≤ L.length:=by simpa [dirsOf] using count_go L []
def blobE (f:Lf):Ent:=⟨f.1,1,idO ⟨1,f.2⟩⟩
def blobO (f:Lf):Ob:=⟨1,f.2⟩
def entsB (n:List Lf → Option (List Ob × Idl)) (L:List Lf):List Ent:=(blobsOf L).map blobE ++ (dirsOf L).map fun d => ⟨d,2,((n (underOf d L)).getD ([],zid)).2⟩
def treeOb (es:List Ent):Ob:=⟨2,ofB (treeB es)⟩
def objsB (n:List Lf → Option (List Ob × Idl)) (L:List Lf):List Ob:=(blobsOf L).map blobO ++ ((dirsOf L).flatMap fun d => ((n (underOf d L)).getD ([],zid)).1) ++ [treeOb (sortEn (entsB n L))]
def okB (n:List Lf → Option (List Ob × Idl)) (L:List Lf):Bool:=((blobsOf L).all fun f => rightOb (blobO f)) && ((dirsOf L).all fun d => (n (underOf d L)).isSome) && treeOk (sortEn (entsB n L))
def trS:Nat → List Lf → Option (List Ob × Idl)
 | 0,_ => none
 | n + 1,L => if okB (trS n) L = true then some (objsB (trS n) L,idO (treeOb (sortEn (entsB (trS n) L)))) else none
theorem trS_len (k:Nat) (L:List Lf):((trS k L).getD ([],zid)).2.length = 32:=by
 cases k with
 | zero => exact zid_len
 | succ k =>
  unfold trS
  split
  ·exact idO_len _
  ·exact zid_len
theorem trS_none {k:Nat} {L:List Lf} (h:okB (trS k) L = false):trS (k + 1) L = none:=by unfold trS;rw [if_neg (by rw [h];simp)]
theorem okB_blob {n:List Lf → Option (List Ob × Idl)} {L:List Lf} {f:Lf} (hf:f ∈ L) (hc:cutS f.1 = none) (hr:rightOb (blobO f) = false):okB n L = false:=by
 unfold okB
 rw [show ((blobsOf L).all fun f => rightOb (blobO f)) = false from List.all_eq_false.2 ⟨f,List.mem_filter.2 ⟨hf,by rw [hc];rfl⟩,by rw [hr];simp⟩]
 rfl
theorem okB_dir {n:List Lf → Option (List Ob × Idl)} {L:List Lf} {d:ByteArray} (hd:d ∈ dirsOf L) (hr:n (underOf d L) = none):okB n L = false:=by
 unfold okB
 rw [show ((dirsOf L).all fun d => (n (underOf d L)).isSome) = false from List.all_eq_false.2 ⟨d,hd,by rw [hr];simp⟩]
 simp
def PutAll (os:List Ob) (M M':Idl → Option Ob):Prop:=∀ q,(∃ o ∈ os,idO o = q ∧ M' q = some o) ∨ ((∀ o ∈ os,idO o ≠ q) ∧ M' q = M q)
theorem PutAll.nil (M:Idl → Option Ob):PutAll [] M M:=fun q => .inr ⟨by simp,rfl⟩
theorem PutAll.one (o:Ob) (M:Idl → Option Ob):PutAll [o] M fun q => if q = idO o then some o else M q:=fun q => by
 by_cases e:q = idO o
 ·exact .inl ⟨o,by simp,e.symm,by simp [e]⟩
 ·exact .inr ⟨fun x hx => by rw [List.mem_singleton.1 hx];exact fun h => e h.symm,by simp [e]⟩
theorem PutAll.append {os os2:List Ob} {M M1 M2:Idl → Option Ob} (h:PutAll os M M1) (k:PutAll os2 M1 M2):PutAll (os ++ os2) M M2:=fun q => by
 rcases k q with ⟨o,ho,h1,h2⟩ | ⟨h1,h2⟩
 ·exact .inl ⟨o,by simp [ho],h1,h2⟩
 ·rcases h q with ⟨o,ho,h3,h4⟩ | ⟨h3,h4⟩
  ·exact .inl ⟨o,by simp [ho],h3,h2.trans h4⟩
  ·exact .inr ⟨fun o ho => (List.mem_append.1 ho).elim (h3 o) (h1 o),h2.trans h4⟩
theorem PutAll.same {os os2:List Ob} {M M':Idl → Option Ob} (h:PutAll os M M') (hm:∀ o,o ∈ os ↔ o ∈ os2):PutAll os2 M M':=fun q => by
 rcases h q with ⟨o,ho,h1,h2⟩ | ⟨h1,h2⟩
 ·exact .inl ⟨o,(hm o).1 ho,h1,h2⟩
 ·exact .inr ⟨fun o ho => h1 o ((hm o).2 ho),h2⟩
end Go.Proofs.YtbmiiiccnoiffaaGreatDoor
namespace Go.Proofs.YtbmiiiccnoiffaaGreatDoor
open Go.RowKit Go.Maps
abbrev GrpF:=ByteArray → Option (Value × List Lf)
structure GrpRows (B:Nat) (F:GrpF) (ob:Option Nat) (w:World):Prop where
 row:∀ d v u,F d = some (v,u) → u ≠ [] ∧ OwnQ w B 2 v u.length (flatC leafC u)
 off:∀ d v u,F d = some (v,u) → v.ownBlock ≠ ob
 apart:∀ d e v u v' u',F d = some (v,u) → F e = some (v',u') → d ≠ e → v.ownBlock ≠ v'.ownBlock
theorem OwnQ.blk {w:World} {B sz n:Nat} {v:Value} {xs:List Value} (h:OwnQ w B sz v n xs) (hn:n ≠ 0):∃ g,v.ownBlock = some g ∧ g < w.heap.size ∧ B ≤ g:=by
 rcases h.2 with ⟨_,h0⟩ | ⟨g,off,cap,rfl,hB,hg,_⟩
 ·exact absurd h0 hn
 ·exact ⟨g,rfl,hg,hB⟩
theorem OwnQ.blkLt {w:World} {B sz n:Nat} {v:Value} {xs:List Value} (h:OwnQ w B sz v n xs):∀ g,v.ownBlock = some g → g < w.heap.size ∧ B ≤ g:=fun g e => by
 rcases h.2 with ⟨rfl,_⟩ | ⟨g',off,cap,rfl,hB,hg,_⟩
 ·cases e
 ·obtain rfl:g' = g:=Option.some.inj e
  exact ⟨hg,hB⟩
theorem GrpRows.blk {B:Nat} {F:GrpF} {ob:Option Nat} {w:World} (h:GrpRows B F ob w) {d:ByteArray} {v:Value} {u:List Lf} (e:F d = some (v,u)):∃ g,v.ownBlock = some g ∧ g < w.heap.size ∧ B ≤ g:=by
 obtain ⟨h1,h2⟩:=h.row d v u e
 exact h2.blk (fun h0 => h1 (List.eq_nil_of_length_eq_zero h0))
theorem GrpRows.nil (B:Nat) (ob:Option Nat) (w:World):GrpRows B (fun _ => .none) ob w:=⟨fun _ _ _ h => (by cases h),fun _ _ _ h => (by cases h),fun _ _ _ _ _ _ h => (by cases h)⟩
theorem GrpRows.grown {B:Nat} {F:GrpF} {ob r:Option Nat} {w w':World} (h:GrpRows B F ob w) (hg:w.grownBy w' r) (hne:∀ d v u,F d = some (v,u) → v.ownBlock ≠ r):GrpRows B F ob w' :=
 ⟨fun d v u e => ⟨(h.row d v u e).1,(h.row d v u e).2.grown hg (fun _ hg' h' => hne d v u e (hg'.trans h'))⟩,h.off,h.apart⟩
theorem GrpRows.beside {B:Nat} {F:GrpF} {o o':Value} {w w':World} (h:GrpRows B F o.ownBlock w) (hg:w.grownBy w' o.ownBlock) (hf:Fr w o o'):GrpRows B F o'.ownBlock w':=by
 have h2:=h.grown hg h.off
 refine ⟨h2.row,fun d v u e h0 => ?_,h2.apart⟩
 obtain ⟨g,hg1,hg2,_⟩:=h.blk e
 rcases hf with hf | hf
 ·exact h.off d v u e (h0.trans hf)
 ·have:=hf g (h0 ▸ hg1)
  omega
theorem GrpRows.put {B:Nat} {F:GrpF} {ob:Option Nat} {w w':World} (h:GrpRows B F ob w) (d:ByteArray) (v v':Value) (u':List Lf) (hg:w.grownBy w' v.ownBlock) (hf:Fr w v v') (hne:u' ≠ []) (hq:OwnQ w' B 2 v' u'.length (flatC leafC u'))
  (hold:(v.ownBlock = none) ∨ ∃ u,F d = some (v,u)) (hob:∀ g,ob = some g → g < w.heap.size):GrpRows B (fun q => if q = d then some (v',u') else F q) ob w':=by
 have hv':=hq.blk (fun h0 => hne (List.eq_nil_of_length_eq_zero h0))
 obtain ⟨g',hg',_,_⟩:=hv'
 have hold2:∀ e v2 u2,F e = some (v2,u2) → e ≠ d → v2.ownBlock ≠ v.ownBlock:=fun e v2 u2 he hed h0 => by
  rcases hold with hn | ⟨u,hu⟩
  ·obtain ⟨g,hg1,_⟩:=h.blk he
   rw [hn,hg1] at h0;cases h0
  ·exact h.apart e d v2 u2 v u he hu hed h0
 have hnew:∀ e v2 u2,F e = some (v2,u2) → e ≠ d → v2.ownBlock ≠ v'.ownBlock:=fun e v2 u2 he hed h0 => by
  rcases hf with hf | hf
  ·exact hold2 e v2 u2 he hed (h0.trans hf)
  ·obtain ⟨g,hg1,hg2,_⟩:=h.blk he
   have:=hf g (h0 ▸ hg1)
   omega
 refine ⟨fun e v2 u2 he => ?_,fun e v2 u2 he h0 => ?_,fun e f v2 u2 v3 u3 he hf2 hef => ?_⟩
 ·by_cases hed:e = d
  ·rw [if_pos hed] at he;cases he;exact ⟨hne,hq⟩
  ·rw [if_neg hed] at he
   exact ⟨(h.row e v2 u2 he).1,(h.row e v2 u2 he).2.grown hg (fun _ hg' h' => hold2 e v2 u2 he hed (hg'.trans h'))⟩
 ·by_cases hed:e = d
  ·rw [if_pos hed] at he;cases he
   rcases hf with hf | hf
   ·rcases hold with hn | ⟨u,hu⟩
    ·rw [hf,hn] at hg';cases hg'
    ·exact h.off d v u hu (hf.symm.trans h0)
   ·have h1:=hf g' hg'
    have h2:=hob g' (h0.symm.trans hg')
    omega
  ·rw [if_neg hed] at he
   exact h.off e v2 u2 he h0
 ·by_cases hed:e = d
  ·rw [if_pos hed] at he;cases he
   have hfd:f ≠ d:=fun h => hef (hed.trans h.symm)
   rw [if_neg hfd] at hf2
   exact fun h0 => hnew f v3 u3 hf2 hfd h0.symm
  ·rw [if_neg hed] at he
   by_cases hfd:f = d
   ·rw [if_pos hfd] at hf2;cases hf2
    exact hnew e v2 u2 he hed
   ·rw [if_neg hfd] at hf2
    exact h.apart e f v2 u2 v3 u3 he hf2 hef
def SaysU (F:GrpF) (L:List Lf):Prop:=∀ d,(F d).map (·.2) = if underOf d L = [] then none else some (underOf d L)
theorem saysU_nil:SaysU (fun _ => none) []:=fun d => by simp [underOf]
theorem saysU_blob {F:GrpF} {L:List Lf} (h:SaysU F L) (f:Lf) (hf:cutS f.1 = none):SaysU F (L ++ [f]):=fun d => by
 rw [underOf_snoc,show underGo d f = none from by unfold underGo;rw [hf]]
 simpa using h d
theorem SaysU.old {F:GrpF} {L:List Lf} (h:SaysU F L) (d:ByteArray):(F d = none ∧ underOf d L = []) ∨ ∃ v,F d = some (v,underOf d L) ∧ underOf d L ≠ []:=by
 have:=h d
 by_cases hu:underOf d L = []
 ·rw [if_pos hu] at this
  exact .inl ⟨by simpa using this,hu⟩
 ·rw [if_neg hu] at this
  cases e:F d with
  | none => rw [e] at this;cases this
  | some p =>
   rw [e] at this
   obtain ⟨v,u⟩:=p
   obtain rfl:u = underOf d L:=by simpa using this
   exact .inr ⟨v,rfl,hu⟩
theorem saysU_dir {F:GrpF} {L:List Lf} (h:SaysU F L) (f:Lf) (a r:ByteArray) (hf:cutS f.1 = some (a,r)) (v':Value):SaysU (fun q => if q = a then some (v',underOf a L ++ [(r,f.2)]) else F q) (L ++ [f]):=fun d => by
 rw [underOf_snoc]
 by_cases e:d = a
 ·subst e
  rw [show underGo d f = some (r,f.2) from by unfold underGo;rw [hf];simp]
  simp
 ·rw [show underGo d f = none from by unfold underGo;rw [hf];dsimp only;rw [if_neg (fun h => e h.symm)]]
  have:=h d
  simp only [if_neg e]
  simpa using this
theorem SaysU.some_iff {F:GrpF} {L:List Lf} (h:SaysU F L) (d:ByteArray):(F d).isSome = true ↔ d ∈ dirsOf L:=by
 rw [dirsOf_mem]
 rcases h.old d with ⟨h1,h2⟩ | ⟨v,h1,h2⟩
 ·simp [h1,h2]
 ·simp [h1,h2]
end Go.Proofs.YtbmiiiccnoiffaaGreatDoor
namespace Go.Proofs.YtbmiiiccnoiffaaGreatDoor
open Go.RowKit Go.Maps
set_option maxRecDepth 100000
def blobJ (f:Lf):EJ:=⟨blobE f,idO_len _⟩
def putsN:Nat → List Lf → Nat
 | 0,_ => 0
 | k + 1,L => (blobsOf L).length + ((dirsOf L).map fun d => putsN k (underOf d L)).sum + 1
def TrAns (k pb b n:Nat) (M:Idl → Option Ob) (L:List Lf) (w:World) (e:Ending) (w':World):Prop :=
 w.grownBy w' (some b) ∧ ∃ n' M',BldAt pb b n' M' w' ∧ n' ≤ n + putsN k L ∧ ((trS k L = none ∧ e = .returned (.tuple #[.agg (idC zid).toArray,.bool false])) ∨
  ∃ os x,trS k L = some (os,x) ∧ e = .returned (.tuple #[.agg (idC x).toArray,.bool true]) ∧ PutAll os M M')
theorem grown_above {w w1 w2:World} {b:Nat} {r:Option Nat} (h:w.grownBy w1 (some b)) (k:w1.grownBy w2 r) (hr:∀ g,r = some g → w.heap.size ≤ g ∨ g = b):w.grownBy w2 (some b) :=
 ⟨k.os.trans h.os,k.tape.trans h.tape,k.output.trans h.output,Nat.le_trans h.size k.size,fun j hj hne => (k.block j (Nat.lt_of_lt_of_le hj h.size) (fun e => by
  rcases hr j e.symm with h1 | h1
  ·omega
  ·exact hne (by rw [h1]))).trans (h.block j hj hne)⟩
theorem Laid.grown2 {w w':World} {b:Nat} (h:Laid w) (hg:w.grownBy w' (some b)) (hb:5 ≤ b):Laid w':=by
 have:=h.lt;have:=hg.size
 exact ⟨range_grown h.rounds hg (fun e => by have:=Option.some.inj e;omega),range_grown h.first hg (fun e => by have:=Option.some.inj e;omega),by omega⟩
theorem MaxAt.grown {w w':World} {b:Nat} (h:MaxAt w) (hg:w.grownBy w' (some b)) (hb:0 < b):MaxAt w':=by
 obtain ⟨m,h⟩:=h
 exact ⟨m,cell_grown h hg (fun e => by have:=Option.some.inj e;omega)⟩
theorem BldAt.off {pb b n g o:Nat} {u:Value} {M:Idl → Option Ob} {w:World} (h:BldAt pb b n M w) (hc:w.cell? ⟨g,o,none⟩ = some u):g ≠ b:=fun e => by
 obtain ⟨D,⟨es,clock,h1,_⟩,_⟩:=h.map
 subst e
 simp [World.cell?,h1] at hc
theorem MapT.off {α:Type} {enc:α → Value} {b n g o:Nat} {u:Value} {f:ByteArray → Option α} {w:World} (h:MapT enc w b n f) (hc:w.cell? ⟨g,o,none⟩ = some u):g ≠ b:=fun e => by
 obtain ⟨D,⟨es,clock,h1,_⟩,_⟩:=h
 subst e
 simp [World.cell?,h1] at hc
theorem wpList_build3 {P:Program} {ops:Array Oper} {Q:Exit → Act → World → Prop} {rest:List Oper} {o:Oper} {a:Act} {w:World} (hg:o.guard = none) (t:TypeId) (x y z:Operand) (hop:o.op = .build t #[(0,x),(1,y),(2,z)]) (vx vy vz v:Value) (hx:a.eval x = vx) (hy:a.eval y = vy) (hz:a.eval z = vz)
  (hrun:(Instr.build t #[(0,vx),(1,vy),(2,vz)]).run P w = .ok v w) (hK:wpList P ops Q rest (a.put o.dst v) w):wpList P ops Q (o :: rest) a w:=by
 refine wpList_exec hg v ?_ hK
 simp [execOp,hop,hx,hy,hz,hrun,Result.andThen]
theorem blobs_take_le (L:List Lf) (i:Nat):(blobsOf (L.take i)).length ≤ (blobsOf L).length:=by
 unfold blobsOf
 exact ((List.take_sublist i L).filter _).length_le
theorem blobs_le (L:List Lf):(blobsOf L).length ≤ L.length:=List.length_filter_le _ _
theorem mkOb_yes {o:Ob} (h:rightOb o = true):mkOb true o = o:=by unfold mkOb;rw [h];rfl
structure R0 (w:World) (b:Nat) (uz:List Value) (F:GrpF) (o:Value) (l:List EJ) (wr:World):Prop where
 grow:w.grownBy wr (some b)
 box:BoxL wr w.heap.size 24 uz
 ents:OwnQ wr (w.heap.size + 2) 34 o l.length (flatC encE l)
 rows:GrpRows (w.heap.size + 2) F o.ownBlock wr
theorem R0.kept {w:World} {b:Nat} {uz:List Value} {F:GrpF} {o:Value} {l:List EJ} {wr w':World} (h:R0 w b uz F o l wr) (hb:b < w.heap.size) (hg:wr.grownBy w' (some b)):R0 w b uz F o l w' :=
 ⟨h.grow.trans hg,h.box.kept hg (fun e => by have:=Option.some.inj e;omega),h.ents.grown hg (fun g hg' e => by have:=(h.ents.blkLt g hg').2;have:=Option.some.inj e;omega),
  h.rows.grown hg (fun d v u e h0 => by obtain ⟨g,hg1,_,hg3⟩:=h.rows.blk e;have:=Option.some.inj (hg1.symm.trans h0);omega)⟩
theorem R0.below {w:World} {b:Nat} {uz:List Value} {F:GrpF} {o:Value} {l:List EJ} {wr w':World} (h:R0 w b uz F o l wr) (hb:b < w.heap.size) (hg:Below wr.heap.size wr w'):R0 w b uz F o l w':=h.kept hb (grownS_of hg)
theorem R0.ent {w:World} {b:Nat} {uz:List Value} {F:GrpF} {o o':Value} {l l':List EJ} {wr w':World} (h:R0 w b uz F o l wr) (hg:wr.grownBy w' o.ownBlock) (hf:Fr wr o o') (hq:OwnQ w' (w.heap.size + 2) 34 o' l'.length (flatC encE l')):R0 w b uz F o' l' w' :=
 ⟨grown_above h.grow hg (fun g e => .inl (by have:=(h.ents.blkLt g e).2;omega)),h.box.kept hg (fun e => by have:=(h.ents.blkLt _ e.symm).2;omega),hq,h.rows.beside hg hf⟩
theorem R0.dir {w:World} {b:Nat} {uz:List Value} {F:GrpF} {o old v':Value} {l:List EJ} {wr w':World} (h:R0 w b uz F o l wr) (d:ByteArray) (u':List Lf) (hg:wr.grownBy w' old.ownBlock) (hf:Fr wr old v') (hne:u' ≠ [])
  (hq:OwnQ w' (w.heap.size + 2) 2 v' u'.length (flatC leafC u')) (hold:old.ownBlock = none ∨ ∃ u,F d = some (old,u)):R0 w b uz (fun q => if q = d then some (v',u') else F q) o l w':=by
 have hge:∀ g,old.ownBlock = some g → w.heap.size + 2 ≤ g:=fun g e => by
  rcases hold with h0 | ⟨u,hu⟩
  ·rw [h0] at e;cases e
  ·obtain ⟨g',h1,_,h3⟩:=h.rows.blk hu
   have:=Option.some.inj (h1.symm.trans e);omega
 refine ⟨grown_above h.grow hg (fun g e => .inl (by have:=hge g e;omega)),h.box.kept hg (fun e => by have:=hge _ e.symm;omega),h.ents.grown hg (fun g hg' e => ?_),h.rows.put d old v' u' hg hf hne hq hold (fun g e => (h.ents.blkLt g e).1)⟩
 rcases hold with h0 | ⟨u,hu⟩
 ·rw [h0] at e;cases e
 ·exact h.rows.off d old u hu (by rw [← e,hg'])
theorem R0.map {w:World} {b:Nat} {uz:List Value} {F:GrpF} {o:Value} {l:List EJ} {wr w':World} (h:R0 w b uz F o l wr) (hg:wr.grownBy w' (some (w.heap.size + 1))):R0 w b uz F o l w' :=
 ⟨grown_above h.grow hg (fun g e => .inl (by have:=Option.some.inj e;omega)),h.box.kept hg (fun e => by have:=Option.some.inj e;omega),h.ents.grown hg (fun g hg' e => by have:=(h.ents.blkLt g hg').2;have:=Option.some.inj e;omega),
  h.rows.grown hg (fun d v u e h0 => by obtain ⟨g,hg1,_,hg3⟩:=h.rows.blk e;have:=Option.some.inj (hg1.symm.trans h0);omega)⟩
theorem MapT.other {w:World} {F:GrpF} {o:Value} {l:List EJ} {wr w':World} {nm:Nat} (h:MapT Prod.fst wr (w.heap.size + 1) nm F) (he:OwnQ wr (w.heap.size + 2) 34 o l.length (flatC encE l)) (hg:wr.grownBy w' o.ownBlock):MapT Prod.fst w' (w.heap.size + 1) nm F :=
 h.grown hg (fun e => by have:=(he.blkLt _ e.symm).2;omega)
theorem BldAt.other {w:World} {o:Value} {l:List EJ} {wr w':World} {pb b n:Nat} {M:Idl → Option Ob} (h:BldAt pb b n M wr) (hp:pb < w.heap.size) (hb:b < w.heap.size) (he:OwnQ wr (w.heap.size + 2) 34 o l.length (flatC encE l)) (hg:wr.grownBy w' o.ownBlock):BldAt pb b n M w' :=
 h.grown hg (fun e => by have:=(he.blkLt _ e).2;omega) (fun e => by have:=(he.blkLt _ e.symm).2;omega)
theorem R0.iter {w:World} {b r0:Nat} {uz:List Value} {F:GrpF} {o:Value} {l:List EJ} {wr w':World} (h:R0 w b uz F o l wr) (hr:w.heap.size + 2 ≤ r0) (ho:o.ownBlock ≠ some r0) (hF:∀ d v u,F d = some (v,u) → v.ownBlock ≠ some r0) (hg:wr.grownBy w' (some r0)):R0 w b uz F o l w' :=
 ⟨grown_above h.grow hg (fun g e => .inl (by have:=Option.some.inj e;omega)),h.box.kept hg (fun e => by have:=Option.some.inj e;omega),h.ents.grown hg (fun g hg' e => ho (by rw [hg',e])),h.rows.grown hg hF⟩
def dirJ (k:Nat) (L:List Lf) (d:ByteArray):EJ:=⟨⟨d,2,((trS k (underOf d L)).getD ([],zid)).2⟩,trS_len _ _⟩
def sumN (k:Nat) (L:List Lf) (l:List ByteArray):Nat:=(l.map fun d => putsN k (underOf d L)).sum
theorem sumN_filter (k:Nat) (L:List Lf) (x:ByteArray):∀ l:List ByteArray,l.Nodup → x ∈ l → putsN k (underOf x L) + sumN k L (l.filter fun y => decide (y ≠ x)) = sumN k L l
 | [],_,h => by cases h
 | y :: l,hn,h => by
  rw [List.nodup_cons] at hn
  unfold sumN
  rw [List.filter_cons,List.map_cons,List.sum_cons]
  by_cases e:y = x
  ·subst e
   have:l.filter (fun z => decide (z ≠ y)) = l:=List.filter_eq_self.2 fun z hz => decide_eq_true (fun e => hn.1 (e ▸ hz))
   rw [if_neg (by simp),this]
  ·rw [if_pos (decide_eq_true e),List.map_cons,List.sum_cons]
   have ih:=sumN_filter k L x l hn.2 (by
    rcases List.mem_cons.1 h with h | h
    ·exact absurd h.symm e
    ·exact h)
   unfold sumN at ih
   omega
theorem perm_filter_ne {x:ByteArray}:∀ {l:List ByteArray},l.Nodup → x ∈ l → (x :: l.filter fun y => decide (y ≠ x)).Perm l
 | [],_,h => by cases h
 | y :: l,hn,h => by
  rw [List.nodup_cons] at hn
  rw [List.filter_cons]
  by_cases e:y = x
  ·subst e
   have:l.filter (fun z => decide (z ≠ y)) = l:=List.filter_eq_self.2 fun z hz => decide_eq_true (fun e => hn.1 (e ▸ hz))
   rw [if_neg (by simp),this]
  ·rw [if_pos (decide_eq_true e)]
   exact (List.Perm.swap y x _).trans ((perm_filter_ne hn.2 (by
    rcases List.mem_cons.1 h with h | h
    ·exact absurd h.symm e
    ·exact h)).cons y)
def dirObs (k:Nat) (L:List Lf) (d:ByteArray):List Ob:=((trS k (underOf d L)).getD ([],zid)).1
structure St2 (w:World) (k pb b n:Nat) (M:Idl → Option Ob) (L:List Lf) (uz:List Value) (F:GrpF) (nm r0:Nat) (o:Value) (dn Lr:List ByteArray) (wr:World):Prop where
 perm:(dn ++ Lr).Perm (dirsOf L)
 base:R0 w b uz F o ((blobsOf L).map blobJ ++ dn.map (dirJ k L)) wr
 rng:RangeT Prod.fst wr (w.heap.size + 1) r0 nm F Lr
 off:o.ownBlock ≠ some r0
 bld:∃ n2 M2,BldAt pb b n2 M2 wr ∧ n2 + sumN k L Lr ≤ n + (blobsOf L).length + sumN k L (dirsOf L) ∧ PutAll ((blobsOf L).map blobO ++ dn.flatMap (dirObs k L)) M M2
 ok:∀ d ∈ dn,(trS k (underOf d L)).isSome = true
structure St1 (w:World) (pb b n:Nat) (M:Idl → Option Ob) (L:List Lf) (uz:List Value) (o:Value) (i:Nat) (wr:World):Prop where
 bld:∃ n1 M1,BldAt pb b n1 M1 wr ∧ n1 ≤ n + (blobsOf (L.take i)).length ∧ PutAll ((blobsOf (L.take i)).map blobO) M M1
 ok:((blobsOf (L.take i)).all fun f => rightOb (blobO f)) = true
 grp:∃ (F:GrpF) (nm:Nat),R0 w b uz F o ((blobsOf (L.take i)).map blobJ) wr ∧ MapT Prod.fst wr (w.heap.size + 1) nm F ∧ nm ≤ i ∧ SaysU F (L.take i)
theorem St1.grow {w:World} {pb b n:Nat} {M:Idl → Option Ob} {L:List Lf} {uz:List Value} {o:Value} {i:Nat} {wr:World} (h:St1 w pb b n M L uz o i wr):w.grownBy wr (some b):=by
 obtain ⟨F,nm,h1,_⟩:=h.grp
 exact h1.grow
set_option maxHeartbeats 8000000 in
theorem btree_step (k:Nat) {N:Nat} (hN:SortsTo N) (pb b n:Nat) (M:Idl → Option Ob) (v:Value) (L:List Lf) (w:World) (hb5:5 ≤ b ∧ 0 < b) (h:BldAt pb b n M w) (hv:LeafRow w v L) (hL:Laid w) (hm:MaxAt w)
  (hsz:∀ f ∈ L,f.1.size ≤ 1000) (hlen:L.length ≤ N) (hl4:L.length ≤ 400) (hn:n + putsN (k + 1) L < 1000000)
  (hrec:∀ d ∈ dirsOf L,∀ (v':Value) (n':Nat) (M':Idl → Option Ob) (W:World),BldAt pb b n' M' W → LeafRow W v' (underOf d L) → Laid W → MaxAt W → n' + putsN k (underOf d L) < 1000000 →
   Calls Tryz.prog 74 #[.pointer (some ⟨pb,0,none⟩),v'] W (TrAns k pb b n' M' (underOf d L) W)) :
  Calls Tryz.prog 74 #[.pointer (some ⟨pb,0,none⟩),v] w (TrAns (k + 1) pb b n M L w):=by
 obtain ⟨hizz,hizb⟩:=id_zeroC
 obtain ⟨W,hW⟩:∃ W,(w.alloc (.cells (idC zid).toArray 24)).alloc (.map #[] 0) = W:=⟨_,rfl⟩
 have hbW:Below w.heap.size w W:=by rw [← hW];exact ((Below.refl _ _).alloc (Nat.le_refl _) _).alloc (by simp) _
 have hsW:W.heap.size = w.heap.size + 2:=by rw [← hW];simp
 have hzl:(idC zid).length = 32:=by rw [idC_len,zid_len]
 have hS0:St1 w pb b n M L (idC zid) (.slice none 0 0) 0 W:=by
  refine ⟨⟨n,M,h.below hbW,by omega,by simpa [blobsOf] using PutAll.nil M⟩,by simp [blobsOf],⟨fun _ => none,0,⟨grownS_of hbW,?_,by simpa [blobsOf,flatC] using ownQ_nil _ _ _,GrpRows.nil _ _ _⟩,?_,Nat.le_refl _,by simpa using saysU_nil⟩⟩
  ·rw [← hW];exact (BoxL.new w 24 (idC zid)).below ((Below.refl _ _).alloc (Nat.le_refl _) _)
  ·have:=mapT_made (enc:=(Prod.fst:Value × List Lf → Value)) (w.alloc (.cells (idC zid).toArray 24))
   rw [hW,World.size_alloc] at this
   exact this
 obtain ⟨ao,cap,rfl,hmax,hcells⟩:=hv.open
 have HBL:=Lib.hid h
 have hbw:b < w.heap.size:=h.map.lt
 have hpw:pb < w.heap.size:=h.lt
 have HV:Hid (L ≠ [] → ∃ g off,ao = some ⟨g,off,none⟩ ∧ g < w.heap.size ∧ g ≠ b ∧ ∀ j (hj:j < L.length),w.cell? ⟨g,off + j * 2,none⟩ = some (.string L[j].1) ∧ w.cell? ⟨g,off + j * 2 + 1,none⟩ = some (.string L[j].2)):=Lib.hid (fun hne => by
  obtain ⟨g,off,e,hg,hc⟩:=hcells hne
  exact ⟨g,off,e,hg,h.off (hc 0 (List.length_pos_iff.2 hne)).1,hc⟩)
 have HS0:=Lib.hid hS0
 have HW:=Lib.hid hW
 have HL:=Lib.hid hL
 have HM:=Lib.hid hm
 have HSZ:=Lib.hid hsz
 have HN:=Lib.hid hn
 have HREC:=Lib.hid hrec
 have HSW:=Lib.hid hsW
 have hmm:=@run_makeMap Tryz.prog
 clear hS0 hW hL hm hsz hn hrec h hcells hv hbW hsW
 generalize huz:idC zid = uz at hizz hizb HS0 HW hzl
 go_enter Tryz.func74,Tryz.ntmps74
 go_upto_region 3 with fail
 rw [HW.out]
 have h32i:(Tryz.prog.info? 24).map (·.size) = some 32:=by kernel_rfl
 go_upto_region 4 with fail
 go_loopw [7,22] (fun o i wr => ∃ j:Nat,i = .int .i64 (j:Int) ∧ j ≤ L.length ∧ St1 w pb b n M L uz o j wr) (fun _ i _ => (L.length - intOf i).toNat)
 case atStart => exact ⟨0,rfl,by omega,HS0.out⟩
 case round =>
  obtain ⟨wo,rfl⟩:∃ wo:World,wo = wr:=⟨_,rfl⟩
  obtain ⟨i,rfl,hi,hst⟩:=hrel
  have HST:=Lib.hid hst
  have hszo:=hst.grow.size
  clear hst
  by_cases hlt:i < L.length
  ·obtain ⟨g,off,rfl,hgl,hgb,hcell⟩:=HV.out (by intro e;rw [e] at hlt;simp at hlt)
   obtain ⟨f,hf⟩:∃ f,L[i] = f:=⟨_,rfl⟩
   have f1:=cell_grown (hcell i hlt).1 HST.out.grow (fun e => hgb (Option.some.inj e).symm)
   have f2:=cell_grown (hcell i hlt).2 HST.out.grow (fun e => hgb (Option.some.inj e).symm)
   rw [hf] at f1 f2
   have HTK:Hid (L.take (i + 1) = L.take i ++ [f]):=Lib.hid (by rw [take_snoc L i hlt,hf])
   have HFL:Hid (f ∈ L):=Lib.hid (by rw [← hf];exact List.getElem_mem hlt)
   have hfs:=HSZ.out f HFL.out
   have k0:(0:Int) ≤ i:=by omega
   have k1:(i:Int) < L.length:=by omega
   have d1:decide ((i:Int) < L.length) = true:=decide_eq_true k1
   have HI:=Lib.hid hi
   obtain ⟨p,q⟩:=f
   dsimp only at f1 f2 hfs
   obtain ⟨W5,hW5⟩:∃ W5,wo.alloc (.cells #[.string p,.string q] 82) = W5:=⟨_,rfl⟩
   have hb5':Below wo.heap.size wo W5:=by rw [← hW5];exact (Below.refl _ _).alloc (Nat.le_refl _) _
   have hbx5:BoxL W5 wo.heap.size 82 [.string p,.string q]:=by rw [← hW5];exact BoxL.new _ _ _
   have c1:W5.cell? ⟨wo.heap.size,0,none⟩ = some (.string p):=by have:=hbx5.range 0 _ rfl;simpa using this
   have c2:W5.cell? ⟨wo.heap.size,1,none⟩ = some (.string q):=by have:=hbx5.range 1 _ rfl;simpa using this
   have hg5:w.grownBy W5 (some b):=HST.out.grow.trans (grownS_of hb5')
   have hcut:=cut_any p W5 (by omega) (HM.out.grown hg5 hb5.2)
   have HCUT:=Lib.hid hcut
   have HB5:=Lib.hid hb5'
   have HG5:=Lib.hid hg5
   have HBX5:=Lib.hid hbx5
   have HW5:=Lib.hid hW5
   clear hcell hf hi hb5' hg5 hbx5 hW5 hcut
   go_upto_region 6 with fail
   rw [HW5.out]
   go_wp2_with fail
   refine HCUT.out.mono ?_
   rintro e w6 ⟨hb6,⟨hc,rfl⟩ | ⟨a,r,hc,rfl⟩⟩
   · -- a blob
    have hs5:wo.heap.size < W5.heap.size:=HBX5.out.lt
    have c2:=below_load c2 hb6 hs5
    have HB6:=Lib.hid (HB5.out.trans (hb6.mono HB5.out.size))
    have hs6:wo.heap.size < w6.heap.size:=by have:=hb6.size;omega
    have HC:=Lib.hid hc
    clear hc hb6 c1
    go_wp2_with fail
    refine (blobmk_any q w6).mono ?_
    rintro e w7 ⟨rfl,hb7⟩
    have HB7:=Lib.hid (HB6.out.trans (hb7.mono HB6.out.size))
    have hbl:∃ n1 M1,BldAt pb b n1 M1 w7 ∧ n1 ≤ n + (blobsOf (L.take i)).length ∧ PutAll ((blobsOf (L.take i)).map blobO) M M1:=by
     obtain ⟨n1,M1,h1,h2,h3⟩:=HST.out.bld
     exact ⟨n1,M1,h1.below HB7.out,h2,h3⟩
    obtain ⟨n1,M1,hb1,hn1,hp1⟩:=hbl
    have hg7:w.grownBy w7 (some b):=HST.out.grow.trans (grownS_of HB7.out)
    have hput:=bput_any pb b n1 M1 true ⟨1,q⟩ w7 hb1 (HL.out.grown2 hg7 hb5.1) (by
     have h1:=HN.out
     have h2:=blobs_take_le L i
     unfold putsN at h1
     omega)
    have HPUT:=Lib.hid hput
    have HN1:=Lib.hid hn1
    have HP1:=Lib.hid hp1
    have HG7:=Lib.hid hg7
    clear hb7 hput hn1 hp1 hg7 hb1 c2
    go_wp2_with fail
    refine HPUT.out.mono ?_
    rintro e w8 ⟨hg8,h8⟩
    have HG8:=Lib.hid hg8
    have hs8:=hg8.size
    have hs78:=HB7.out.size
    cases hr:rightOb ⟨1,q⟩ with
    | false =>
     rw [hr] at h8
     obtain ⟨rfl,hbl8⟩:=h8
     obtain ⟨F,nm,h0,_⟩:=HST.out.grp
     have hx8:=((h0.below hbw HB7.out).kept hbw hg8).box
     have HR:=Lib.hid hr
     rw [huz]
     obtain ⟨W9,hW9⟩:∃ W9,(w8.alloc (.cells uz.toArray 24)).setCells w8.heap.size 0 uz = W9:=⟨_,rfl⟩
     have hx8l:=hx8.lt
     have hx9:BoxL W9 w.heap.size 24 uz:=by rw [← hW9];exact (hx8.below ((Below.refl _ _).alloc (Nat.le_refl _) _)).other (by omega)
     have hb9:Below w8.heap.size w8 W9:=by rw [← hW9];exact below_setCells _ (Nat.le_refl _) _ _ _ ((Below.refl _ _).alloc (Nat.le_refl _) _)
     have HTH9:=Lib.hid (there_alloc w8 uz.toArray 24 (by simpa using hzl))
     have HT4:=Lib.hid hx9.there
     rw [hzl] at HT4
     have hr4:=(hx9.set (us:=uz) rfl).range
     have h32z:(Tryz.prog.info? 24).map (·.size) = some uz.length:=by rw [hzl];exact h32i
     have HBF:=Lib.hid ((hbl8.below hb9).set (p:=w.heap.size) (o:=0) (us:=uz) (by omega) (by omega))
     have HGF:=Lib.hid (grown_new (p:=w.heap.size) (o:=0) (us:=uz) ((HG7.out.trans hg8).trans (grownS_of hb9)) (Nat.le_refl _))
     have HW9:=Lib.hid hW9
     have HZO:=Lib.hid (idC_one zid)
     rw [huz] at HZO
     clear hr h0 hx8 hx8l hx9 hb9 hW9 hbl8 hg8
     go_wp2_with (first
      | (refine wpList_store_list rfl 24 _ _ rfl w8.heap.size 0 uz rfl rfl 32 hzl HTH9.out h32i HZO.out ?_;rw [HW9.out])
      | (refine wpList_store_list rfl 24 _ _ rfl w.heap.size 0 uz rfl rfl 32 hzl HT4.out h32i HZO.out ?_))
     refine ret_cell2 rfl w.heap.size 0 rfl uz _ hr4 Tryz.underlying24 rfl h32z rfl _ rfl ?_
     refine ⟨HGF.out,n1,M1,HBF.out,?_,.inl ⟨trS_none (okB_blob HFL.out HC.out HR.out),by rw [huz];rfl⟩⟩
     have h1:=HN1.out
     have h2:=blobs_take_le L i
     unfold putsN
     omega
    | true =>
     rw [hr,mkOb_yes hr] at h8
     obtain ⟨rfl,hbl8⟩:=h8
     have HR:=Lib.hid hr
     obtain ⟨F,nm,h0,hmp,hnm,hsu⟩:=HST.out.grp
     have h08:=(h0.below hbw HB7.out).kept hbw hg8
     have hmp8:=(hmp.on HB7.out).grown hg8 (fun e => by have:=Option.some.inj e;omega)
     have HUX:Hid (encE (blobJ (p,q)) = [.string p,.int .i64 1] ++ idC (idO ⟨1,q⟩)):=Lib.hid rfl
     have hxl:(idC (idO ⟨1,q⟩)).length = 32:=by rw [idC_len,idO_len]
     have HXO:=Lib.hid (idC_one (idO ⟨1,q⟩))
     have HEB:=Lib.hid (show ∀ W,(Instr.build 152 #[(0,.string p),(1,.int .i64 1),(2,.agg (idC (idO ⟨1,q⟩)).toArray)]).run Tryz.prog W = .ok (.agg (entC ⟨p,1,idO ⟨1,q⟩⟩).toArray) W from fun W => ent3_built p 1 (idO ⟨1,q⟩) (idO_len _) W)
     have HEL:=Lib.hid (encE_len (blobJ (p,q)))
     have HEO:=Lib.hid (encE_one (blobJ (p,q)))
     have HENT:Hid (entC ⟨p,1,idO ⟨1,q⟩⟩ = encE (blobJ (p,q))):=Lib.hid rfl
     rw [HENT.out] at HEB
     obtain ⟨ue,hue⟩:∃ ue,encE (blobJ (p,q)) = ue:=⟨_,rfl⟩
     rw [hue] at HEB HEL HEO
     have HUE:=Lib.hid hue
     obtain ⟨ux,hux⟩:∃ ux,idC (idO ⟨1,q⟩) = ux:=⟨_,rfl⟩
     rw [hux] at hxl HXO HEB ⊢
     have HUXI:=Lib.hid hux
     obtain ⟨W9,hW9⟩:∃ W9,(w8.alloc (.cells uz.toArray 24)).setCells w8.heap.size 0 ux = W9:=⟨_,rfl⟩
     have hb9:Below w8.heap.size w8 W9:=by rw [← hW9];exact below_setCells _ (Nat.le_refl _) _ _ _ ((Below.refl _ _).alloc (Nat.le_refl _) _)
     have hx9:BoxL W9 w8.heap.size 24 ux:=by rw [← hW9];exact (BoxL.new w8 24 uz).set (by rw [hxl,hzl])
     have hr9:=hx9.range
     have HTH9:=Lib.hid (there_alloc w8 uz.toArray 24 (by simpa using hzl))
     have hb10:Below W9.heap.size W9 (W9.alloc (.cells ue.toArray 152)):=(Below.refl _ _).alloc (Nat.le_refl _) _
     have hb910:=hb9.trans (hb10.mono hb9.size)
     have H010:=Lib.hid (h08.below hbw hb910)
     have HMP10:=Lib.hid (hmp8.on hb910)
     have HB10:=Lib.hid (hbl8.below hb910)
     have HO10:=Lib.hid H010.out.ents
     have HNEW:Hid (∀ j u,ue[j]? = some u → (W9.alloc (.cells ue.toArray 152)).cell? ((⟨W9.heap.size,0,none⟩:Addr).add j) = some u):=Lib.hid (fun j u hj => cells_newL _ ue _ j u hj)
     have HSU:=Lib.hid (saysU_blob hsu (p,q) HC.out)
     have HNM:=Lib.hid hnm
     have HSZE:Hid (∀ w,(sizeOf 152).run Tryz.prog w = .ok ue.length w):=Lib.hid (fun w => by rw [HEL.out];kernel_rfl)
     have hs10:w.heap.size + 2 ≤ (W9.alloc (.cells ue.toArray 152)).heap.size:=by
      rw [World.size_alloc]
      have h1:=H010.out.grow.size
      have h2:=HMP10.out.lt
      rw [World.size_alloc] at h1 h2
      omega
     have HBC:Hid (blobsOf (L.take (i + 1)) = blobsOf (L.take i) ++ [(p,q)]):=Lib.hid (by rw [HTK.out,blobsOf_snoc,if_pos (by rw [HC.out];rfl)])
     have hbl400:(blobsOf (L.take i)).length ≤ 400:=Nat.le_trans (blobs_take_le L i) (Nat.le_trans (blobs_le L) hl4)
     obtain ⟨bl,hbl⟩:∃ bl,blobsOf (L.take i) = bl:=⟨_,rfl⟩
     rw [hbl] at HO10 H010 HBC hbl400 HN1 HP1
     have HBLI:=Lib.hid hbl
     have HOKI:=Lib.hid HST.out.ok
     rw [hbl] at HOKI
     rw [List.length_map] at HO10
     have HFL2:Hid (flatC encE (bl.map blobJ ++ [blobJ (p,q)]) = flatC encE (bl.map blobJ) ++ ue):=Lib.hid (by rw [flatC_append,← HUE.out];simp [flatC])
     obtain ⟨zs,i0,hi',hz0,hz1,hz2,hzv,hbu,hzs⟩:=ent_zero
     have hzl34:zs.size = 34:=by rw [hzs];simp
     have HW9:=Lib.hid hW9
     have heb:=HEB.out
     clear hr h0 h08 hmp hmp8 hnm hsu hue hux hb9 hx9 hb10 hb910 hbl8 hg8 hbl hW9 hzs
     go_wp2_with (first
      | (refine wpList_store_list rfl 24 _ _ rfl w8.heap.size 0 ux rfl rfl 32 hxl HTH9.out h32i HXO.out ?_;rw [HW9.out])
      | (refine wpList_load_mid rfl 24 _ rfl w8.heap.size 0 rfl ux _ hr9 Tryz.underlying24 rfl (by rw [hxl];exact h32i) ?_)
      | (refine wpList_build3 rfl 152 (.tmp 59) (.const (.int .i64 1)) (.tmp 60) rfl (.string p) (.int .i64 1) (.agg ux.toArray) _ rfl rfl rfl (heb _) ?_)
      | (refine wpList_buildSlice_one rfl (.tmp 61) 147 152 rfl ue zs rfl Tryz.underlying147 HSZE.out hzv (by rw [HEL.out];omega) (by rw [HEL.out];omega) ?_)
      | (refine wpList_append_q rfl (.tmp 58) (.tmp 62) 147 rfl (w.heap.size + 2) 152 i0 (.agg zs) 34 56 Tryz.underlying147 hi' hz0 hz1 hz2 hzl34 (by decide) _ bl.length (flatC encE (bl.map blobJ)) rfl HO10.out (some ⟨W9.heap.size,0,none⟩) 1 1 ue rfl (by rw [HEL.out]) (fun _ => ⟨_,rfl,HNEW.out⟩) HEO.out (by unfold maxLen;omega) (by omega) hs10 ?_))
     intro o9 w11 hq11 hg11 hf11
     have HEND:Hid (St1 w pb b n M L uz o9 (i + 1) w11):=Lib.hid (by
      refine ⟨⟨n1 + 1,fun q' => if q' = idO ⟨1,q⟩ then some ⟨1,q⟩ else M1 q',HB10.out.other hpw hbw H010.out.ents hg11,?_,?_⟩,?_,F,nm,?_,HMP10.out.other H010.out.ents hg11,by have:=HNM.out;omega,by rw [HTK.out];exact HSU.out⟩
      ·rw [HBC.out,List.length_append];have:=HN1.out;simp;omega
      ·rw [HBC.out,List.map_append];exact HP1.out.append (PutAll.one ⟨1,q⟩ M1)
      ·rw [HBC.out,List.all_append,HOKI.out];simp [blobO,HR.out]
      ·rw [HBC.out]
       refine H010.out.ent hg11 hf11 ?_
       rw [List.map_append,List.length_append,List.length_map]
       show OwnQ w11 (w.heap.size + 2) 34 o9 (bl.length + 1) (flatC encE (bl.map blobJ ++ [blobJ (p,q)]))
       rw [HFL2.out];exact hq11)
     clear hq11 hg11 hf11
     go_wp2
     go_roundw
     case rel => exact ⟨i + 1,by go_num,by have:=HI.out;omega,HEND.out⟩
     case measure => simp [intOf];omega
   · -- what stands in a directory
    have hs5:wo.heap.size < W5.heap.size:=HBX5.out.lt
    have c2:=below_load c2 hb6 hs5
    have HB6:=Lib.hid (HB5.out.trans (hb6.mono HB5.out.size))
    have HC:=Lib.hid hc
    obtain ⟨F,nm,h0,hmp,hnm,hsu⟩:=HST.out.grp
    have h06:=h0.below hbw HB6.out
    have hmp6:=hmp.on HB6.out
    have hzn:(zeroValue 62).run Tryz.prog w6 = .ok (.slice none 0 0) w6:=by kernel_rfl
    have hcs:=cutS_some hc
    have has:a.size ≤ maxLen:=by unfold maxLen;omega
    have hlk:=hmp6.look Tryz.underlying202 hzn has
    obtain ⟨u,hu⟩:∃ u,underOf a (L.take i) = u:=⟨_,rfl⟩
    obtain ⟨old,hold⟩:∃ old,((F a).map Prod.fst).getD (.slice none 0 0) = old:=⟨_,rfl⟩
    have hown:OwnQ w6 (w.heap.size + 2) 2 old u.length (flatC leafC u) ∧ (old.ownBlock = none ∨ ∃ u,F a = some (old,u)) ∧ u.length ≤ L.length:=by
     have hul:u.length ≤ L.length:=by
      rw [← hu];unfold underOf
      exact Nat.le_trans (List.length_filterMap_le _ _) (by rw [List.length_take];omega)
     rcases hsu.old a with ⟨h1,h2⟩ | ⟨v0,h1,h2⟩
     ·rw [hu] at h2
      rw [h1] at hold
      subst h2;subst hold
      exact ⟨ownQ_nil _ _ _,.inl rfl,hul⟩
     ·rw [hu] at h1
      rw [h1] at hold
      have hold:v0 = old:=hold
      subst hold
      exact ⟨(h06.rows.row a v0 u h1).2,.inr ⟨u,h1⟩,hul⟩
    rw [hold] at hlk
    have HOLD:=Lib.hid hown.2.1
    have hul:=hown.2.2
    have hs62:w.heap.size + 2 ≤ w6.heap.size:=by have:=hmp6.lt;omega
    obtain ⟨j0,hj0,hj1,hj2,hj3⟩:=leaf_info
    have hb7:Below w6.heap.size w6 (w6.alloc (.cells #[.string r,.string q] 82)):=(Below.refl _ _).alloc (Nat.le_refl _) _
    have HO7:=Lib.hid (hown.1.below hb7)
    have H07:=Lib.hid (h06.below hbw hb7)
    have HMP7:=Lib.hid (hmp6.on hb7)
    have HNEW:Hid (∀ j u,[Value.string r,.string q][j]? = some u → (w6.alloc (.cells #[.string r,.string q] 82)).cell? ((⟨w6.heap.size,0,none⟩:Addr).add j) = some u):=Lib.hid (fun j u hj => cells_newL _ [Value.string r,.string q] _ j u hj)
    have HSU:=Lib.hid hsu
    have HNM:=Lib.hid hnm
    have HUU:=Lib.hid hu
    have HFL2:Hid (flatC leafC (u ++ [(r,q)]) = flatC leafC u ++ [.string r,.string q]):=Lib.hid (by rw [flatC_append];rfl)
    have HBC:Hid (blobsOf (L.take (i + 1)) = blobsOf (L.take i)):=Lib.hid (by rw [HTK.out,blobsOf_snoc,if_neg (by rw [HC.out];simp),List.append_nil])
    have hs7:w.heap.size + 2 ≤ (w6.alloc (.cells #[.string r,.string q] 82)).heap.size:=by rw [World.size_alloc];omega
    clear hb6 hc h0 hmp hnm hsu h06 hmp6 hold hown hcs hu hb7 hzn c1
    go_wp2_with (first
     | (refine wpList_lookup_run rfl 202 _ _ false rfl _ _ rfl rfl _ hlk ?_)
     | (refine wpList_append_q rfl (.tmp 38) (.tmp 43) 62 rfl (w.heap.size + 2) 82 j0 (.agg #[.string ⟨#[]⟩,.string ⟨#[]⟩]) 2 32 Tryz.underlying62 hj0 hj1 hj2 hj3 rfl (by decide) old u.length (flatC leafC u) rfl HO7.out (some ⟨w6.heap.size,0,none⟩) 1 1 [.string r,.string q] rfl rfl (fun _ => ⟨_,rfl,HNEW.out⟩) (by simp [Value.oneCell']) (by unfold maxLen;omega) (by omega) hs7 ?_))
    intro o9 w8 hq8 hg8 hf8
    have hne8:u ++ [(r,q)] ≠ []:=by simp
    have h08:R0 w b uz (fun d => if d = a then some (o9,u ++ [(r,q)]) else F d) u7 ((blobsOf (L.take i)).map blobJ) w8:=H07.out.dir a (u ++ [(r,q)]) hg8 hf8 hne8 (by rw [HFL2.out,List.length_append];exact hq8) HOLD.out
    have hge8:∀ g,old.ownBlock = some g → w.heap.size + 2 ≤ g:=fun g e => (HO7.out.blkLt g e).2
    have hmp8:MapT Prod.fst w8 (w.heap.size + 1) nm F:=HMP7.out.grown hg8 (fun e => by have:=hge8 _ e.symm;omega)
    have hbl8:∃ n1 M1,BldAt pb b n1 M1 w8 ∧ n1 ≤ n + (blobsOf (L.take i)).length ∧ PutAll ((blobsOf (L.take i)).map blobO) M M1:=by
     obtain ⟨n1,M1,h1,h2,h3⟩:=HST.out.bld
     exact ⟨n1,M1,((h1.below HB6.out).below ((Below.refl _ _).alloc (Nat.le_refl _) _)).grown hg8 (fun e => by have:=hge8 _ e;omega) (fun e => by have:=hge8 _ e.symm;omega),h2,h3⟩
    have H08:=Lib.hid h08
    have HMP8:=Lib.hid hmp8
    have HBL8:=Lib.hid hbl8
    have hnm2:=HNM.out
    clear hq8 hg8 hf8 h08 hge8 hmp8 hbl8 hne8
    go_wp2_with (refine wpList_update_T (enc:=(Prod.fst:Value × List Lf → Value)) rfl (.tmp 34) (.tmp 35) (.tmp 44) 202 62 rfl Tryz.underlying202 (w.heap.size + 1) nm F rfl HMP8.out a has (o9,u ++ [(r,q)]) rfl rfl (by unfold maxLen;omega) ?_)
    intro w9 hm9 hg9
    have HEND:Hid (St1 w pb b n M L uz u7 (i + 1) w9):=Lib.hid (by
     refine ⟨?_,by rw [HBC.out];exact HST.out.ok,_,nm + 1,by rw [HBC.out];exact H08.out.map hg9,hm9,by have:=HNM.out;omega,?_⟩
     ·obtain ⟨n1,M1,h1,h2,h3⟩:=HBL8.out
      rw [HBC.out]
      exact ⟨n1,M1,h1.grown hg9 (fun e => by have:=Option.some.inj e;omega) (fun e => by have:=Option.some.inj e;omega),h2,h3⟩
     ·rw [HTK.out,← HUU.out]
      exact saysU_dir HSU.out (p,q) a r HC.out o9)
    clear hm9 hg9
    go_wp2
    go_roundw
    case rel => exact ⟨i + 1,by go_num,by have:=HI.out;omega,HEND.out⟩
    case measure => simp [intOf];omega
  ·obtain rfl:i = L.length:=by omega
   have d1:decide ((L.length:Int) < L.length) = false:=decide_eq_false (by omega)
   obtain ⟨⟨n1,M1,hbl,hn1,hp1⟩,hok,F,nm,h0,hmp,hnm,hsu⟩:=HST.out
   rw [List.take_length] at hn1 hp1 hok h0 hsu
   have hdsz:∀ x ∈ dirsOf L,x.size ≤ 1000:=fun x hx => by
    obtain ⟨f,hf,r,hc⟩:=dirs_from hx
    exact Nat.le_trans (cutS_some hc).1 (HSZ.out f hf)
   have HDS:=Lib.hid hdsz
   have HMP:=Lib.hid hmp
   have HBL:=Lib.hid hbl
   have HN1:=Lib.hid hn1
   have HP1:=Lib.hid hp1
   have HOK:=Lib.hid hok
   have H0:=Lib.hid h0
   have HSU:=Lib.hid hsu
   have HSI:=Lib.hid (fun x (_:x.size ≤ maxLen) => hsu.some_iff x)
   clear hdsz hmp hbl hn1 hp1 hok h0 hsu hnm
   go_wp2_with (refine wpList_range_T (enc:=(Prod.fst:Value × List Lf → Value)) rfl (.tmp 65) 202 62 rfl Tryz.underlying202 (w.heap.size + 1) nm F (dirsOf L) rfl HMP.out (dirsOf_nodup L) (fun x hx => by have:=HDS.out x hx;unfold maxLen;omega) HSI.out ?_)
   intro w2 hrg2 hg2 hs2
   obtain ⟨r0,hr0⟩:∃ r0,wo.heap.size = r0:=⟨_,rfl⟩
   rw [hr0] at hrg2
   have hwr:w.heap.size + 2 ≤ r0:=by have:=HMP.out.lt;omega
   have HFR:Hid (∀ d v u,F d = some (v,u) → v.ownBlock ≠ some r0):=Lib.hid (fun d v u e h => by
    obtain ⟨g,h1,h2,_⟩:=H0.out.rows.blk e
    have:=Option.some.inj (h1.symm.trans h);omega)
   have HS2:Hid (St2 w k pb b n M L uz F nm r0 u7 [] (dirsOf L) w2):=Lib.hid ⟨by simp,by simpa using H0.out.kept hbw (grown_any hg2 _),hrg2,(fun e => by have:=(H0.out.ents.blkLt _ e).1;omega),
    ⟨n1,M1,HBL.out.grown hg2 (by simp) (by simp),by have:=HN1.out;omega,by simpa using HP1.out⟩,by simp⟩
   clear hrg2 hg2 hs2
   rw [hr0]
   clear hr0
   go_upto_region 15 with fail
   go_loopw [7] (fun o wr => ∃ dn Lr,St2 w k pb b n M L uz F nm r0 o dn Lr wr) (fun _ wr => wr.rangeLeft (w.heap.size + 1) r0)
   case atStart => exact ⟨[],dirsOf L,HS2.out⟩
   case round =>
    obtain ⟨wl,rfl⟩:∃ wl:World,wl = wr:=⟨_,rfl⟩
    obtain ⟨dn,Lr,hst⟩:=hrel
    have HT:=Lib.hid hst
    have hrg:=hst.rng
    have hszl:=hst.base.grow.size
    clear hst
    go_wp2_with (refine wpList_next_T (enc:=(Prod.fst:Value × List Lf → Value)) rfl _ rfl (w.heap.size + 1) r0 nm F Lr rfl hrg ?_ ?_)
    ·intro hL0
     subst hL0
     have hst:=HT.out
     obtain ⟨n2,M2,hb2,hn2,hp2⟩:=hst.bld
     have hpm:=hst.perm
     rw [List.append_nil] at hpm
     obtain ⟨es,hes⟩:∃ es,(blobsOf L).map blobJ ++ dn.map (dirJ k L) = es:=⟨_,rfl⟩
     have hbase:=hst.base
     rw [hes] at hbase
     have hrow:=rowOf_ownQ encE 34 encE_len hbase.ents
     have hesl:es.length ≤ L.length:=by
      have h1:=count_le L
      have h2:=hpm.length_eq
      rw [← hes,List.length_append,List.length_map,List.length_map]
      omega
     have hez:∀ e ∈ es,e.1.name.size ≤ 1000 ∧ e.1.kind ≤ 2:=fun e he => by
      rw [← hes] at he
      rcases List.mem_append.1 he with he | he
      ·obtain ⟨f,hf,rfl⟩:=List.mem_map.1 he
       exact ⟨HSZ.out f (List.mem_filter.1 hf).1,by show (1:Nat) ≤ 2;omega⟩
      ·obtain ⟨d,hd,rfl⟩:=List.mem_map.1 he
       exact ⟨HDS.out d (hpm.mem_iff.1 hd),Nat.le_refl 2⟩
     have HTR:=Lib.hid (otree_mk hN u7 es wl hrow hez (by omega) (by omega))
     have HEQ:Hid ((rawE es).Perm (entsB (trS k) L)):=Lib.hid (by
      rw [← hes]
      unfold rawE entsB
      rw [List.map_append,List.map_map,List.map_map]
      exact List.Perm.append_left _ (hpm.map _))
     have HBASE:=Lib.hid hbase
     have HB2:=Lib.hid hb2
     have HN2:=Lib.hid hn2
     have HP2:=Lib.hid hp2
     have HPM:=Lib.hid hpm
     clear hst hb2 hn2 hp2 hpm hbase hrow hesl hez hes hrg
     go_wp2_with fail
     refine HTR.out.mono ?_
     rintro e w5 ⟨m,hmp,hmr,rfl,hb5'⟩
     have hg5:=HBASE.out.grow.trans (grownS_of hb5')
     have hput:=bput_any pb b n2 M2 (treeOk (rawE m)) ⟨2,ofB (treeB (rawE m))⟩ w5 (HB2.out.below hb5') (HL.out.grown2 hg5 hb5.1) (by
      have h1:=HN.out
      have h2:sumN k L (dirsOf L) = ((dirsOf L).map fun d => putsN k (underOf d L)).sum:=rfl
      have h3:=HN2.out
      unfold putsN at h1
      omega)
     have HPUT:=Lib.hid hput
     have HRP:Hid ((rawE m).Perm (entsB (trS k) L)):=Lib.hid ((hmp.map _).trans HEQ.out)
     have HRW:Hid (RowE2 (rawE m)):=Lib.hid (by unfold RowE2 rawE;rw [List.pairwise_map];exact hmr)
     have HM32:Hid (∀ e ∈ rawE m,e.id.length = 32):=Lib.hid (fun e he => by
      obtain ⟨x,_,rfl⟩:=List.mem_map.1 he
      exact x.2)
     have HX5:=Lib.hid (HBASE.out.below hbw hb5').box
     have HG5:=Lib.hid hg5
     clear hmp hmr hb5' hg5 hput
     obtain ⟨ob,hob⟩:∃ ob:Ob,⟨2,ofB (treeB (rawE m))⟩ = ob:=⟨_,rfl⟩
     have HOB:=Lib.hid hob
     rw [hob] at HPUT ⊢
     clear hob
     go_wp2_with fail
     refine HPUT.out.mono ?_
     rintro e w6 ⟨hg6,h6⟩
     have hx6:=HX5.out.kept hg6 (fun e => by have:=Option.some.inj e;omega)
     have HT6:=Lib.hid hx6.there
     rw [hzl] at HT6
     have hnle:n2 ≤ n + putsN (k + 1) L ∧ n2 + 1 ≤ n + putsN (k + 1) L:=by
      have h2:sumN k L (dirsOf L) = ((dirsOf L).map fun d => putsN k (underOf d L)).sum:=rfl
      have h3:=HN2.out
      have h4:putsN (k + 1) L = (blobsOf L).length + ((dirsOf L).map fun d => putsN k (underOf d L)).sum + 1:=rfl
      omega
     have HNL:=Lib.hid hnle
     have HG6:=Lib.hid (HG5.out.trans hg6)
     clear hnle hg6
     cases hok:treeOk (rawE m) with
     | false =>
      rw [hok,Bool.false_and,if_neg (by simp)] at h6
      obtain ⟨rfl,hb6⟩:=h6
      have HNO:Hid (trS (k + 1) L = none):=Lib.hid (trS_none (by
       unfold okB
       rw [← treeOk_perm (HRP.out.trans (sortEn_perm _).symm) HRW.out (sortEn_row _),hok,Bool.and_false]))
      have hr6:=(hx6.set (us:=uz) rfl).range
      have h32z:(Tryz.prog.info? 24).map (·.size) = some uz.length:=by rw [hzl];exact h32i
      have HBF:=Lib.hid (hb6.set (p:=w.heap.size) (o:=0) (us:=uz) (by omega) (by omega))
      have HGF:=Lib.hid (grown_new (p:=w.heap.size) (o:=0) (us:=uz) HG6.out (Nat.le_refl _))
      have HZO:=Lib.hid (idC_one zid)
      rw [huz] at HZO ⊢
      clear hx6 hb6 hok
      go_wp2_with (refine wpList_store_list rfl 24 _ _ rfl w.heap.size 0 uz rfl rfl 32 hzl HT6.out h32i HZO.out ?_)
      refine ret_cell2 rfl w.heap.size 0 rfl uz _ hr6 Tryz.underlying24 rfl h32z rfl _ rfl ?_
      exact ⟨HGF.out,n2,M2,HBF.out,HNL.out.1,.inl ⟨HNO.out,by rw [huz];rfl⟩⟩
     | true =>
      have hright:rightOb ob = true:=by rw [← HOB.out];exact tree_right hok HM32.out
      have hsort:rawE m = sortEn (entsB (trS k) L):=treeOk_order (HRP.out.trans (sortEn_perm _).symm) (sortEn_row _) hok
      rw [hok,hright,Bool.and_self,if_pos rfl,mkOb_yes hright] at h6
      obtain ⟨rfl,hb6⟩:=h6
      have HOE:Hid (ob = treeOb (sortEn (entsB (trS k) L))):=Lib.hid (by rw [← hsort,← HOB.out];rfl)
      have HYES:Hid (trS (k + 1) L = some (objsB (trS k) L,idO ob)):=Lib.hid (by
       rw [HOE.out]
       unfold trS
       rw [if_pos]
       unfold okB
       rw [HOK.out,← hsort,hok,Bool.true_and,Bool.and_true,List.all_eq_true]
       exact fun d hd => HT.out.ok d (HPM.out.mem_iff.2 hd))
      have HPA:Hid (PutAll (objsB (trS k) L) M fun q => if q = idO ob then some ob else M2 q):=Lib.hid (by
       refine (HP2.out.append (PutAll.one ob M2)).same fun o => ?_
       unfold objsB
       rw [HOE.out]
       simp only [List.mem_append,List.mem_flatMap]
       constructor
       ·rintro ((h | ⟨d,hd,h⟩) | h)
        ·exact .inl (.inl h)
        ·exact .inl (.inr ⟨d,HPM.out.mem_iff.1 hd,h⟩)
        ·exact .inr h
       ·rintro ((h | ⟨d,hd,h⟩) | h)
        ·exact .inl (.inl h)
        ·exact .inl (.inr ⟨d,HPM.out.mem_iff.2 hd,h⟩)
        ·exact .inr h)
      have hxl:(idC (idO ob)).length = 32:=by rw [idC_len,idO_len]
      have HXO:=Lib.hid (idC_one (idO ob))
      obtain ⟨ux,hux⟩:∃ ux,idC (idO ob) = ux:=⟨_,rfl⟩
      have HUXI:=Lib.hid hux
      rw [hux] at hxl HXO ⊢
      have hr6:=(hx6.set (us:=ux) (by rw [hxl,hzl])).range
      have h32x:(Tryz.prog.info? 24).map (·.size) = some ux.length:=by rw [hxl];exact h32i
      have HBF:=Lib.hid (hb6.set (p:=w.heap.size) (o:=0) (us:=ux) (by omega) (by omega))
      have HGF:=Lib.hid (grown_new (p:=w.heap.size) (o:=0) (us:=ux) HG6.out (Nat.le_refl _))
      clear hx6 hb6 hok hright hsort hux
      go_wp2_with (refine wpList_store_list rfl 24 _ _ rfl w.heap.size 0 ux rfl rfl 32 hxl HT6.out h32i HXO.out ?_)
      refine ret_cell2 rfl w.heap.size 0 rfl ux _ hr6 Tryz.underlying24 rfl h32x rfl _ rfl ?_
      exact ⟨HGF.out,n2 + 1,_,HBF.out,HNL.out.2,.inr ⟨_,_,HYES.out,by rw [HUXI.out];rfl,HPA.out⟩⟩
    ·intro x c u w3 hxL hxs hfx hrg3 hlt3 hg3 hsz3 hen
     have hfe:(fun y:ByteArray => !decide (y = x)) = fun y => decide (y ≠ x):=by funext y;simp
     rw [hfe] at hrg3
     clear hfe
     have hxd:x ∈ dirsOf L:=HT.out.perm.mem_iff.1 (List.mem_append.2 (.inr hxL))
     have hu:u = underOf x L:=by
      rcases HSU.out.old x with ⟨h1,_⟩ | ⟨v0,h1,_⟩
      ·rw [hfx] at h1;cases h1
      ·rw [hfx] at h1;exact (Prod.mk.inj (Option.some.inj h1)).2
     have h03:=HT.out.base.iter hwr HT.out.off HFR.out hg3
     have hrow:=rowOf_ownQ leafC 2 (fun _ => rfl) (h03.rows.row x c u hfx).2
     obtain ⟨n2,M2,hb2,hn2,hp2⟩:=HT.out.bld
     have hr0b:r0 ≠ b:=by omega
     have hb3:BldAt pb b n2 M2 w3:=hb2.grown hg3 (fun e => by have:=Option.some.inj e;omega) (fun e => by have:=Option.some.inj e;omega)
     have hsum:=sumN_filter k L x Lr hrg.nodup hxL
     have hbd:n2 + putsN k (underOf x L) < 1000000:=by
      have h1:=HN.out
      have h2:sumN k L (dirsOf L) = ((dirsOf L).map fun d => putsN k (underOf d L)).sum:=rfl
      unfold putsN at h1
      omega
     rw [hu] at hrow
     have HCALL:=Lib.hid (HREC.out x hxd c n2 M2 w3 hb3 hrow (HL.out.grown2 h03.grow hb5.1) (HM.out.grown h03.grow hb5.2) hbd)
     have H03:=Lib.hid h03
     have HR3:=Lib.hid hrg3
     have HLT:=Lib.hid hlt3
     have HN2:=Lib.hid hn2
     have HP2:=Lib.hid hp2
     have HSUM:=Lib.hid hsum
     have HXD:=Lib.hid hxd
     have HFX:=Lib.hid hfx
     have HPM:Hid (((dn ++ [x]) ++ Lr.filter fun y => decide (y ≠ x)).Perm (dirsOf L)):=Lib.hid (by
      rw [List.append_assoc]
      exact ((perm_filter_ne hrg.nodup hxL).append_left dn).trans HT.out.perm)
     have hs3:w.heap.size + 2 ≤ w3.heap.size:=by have:=hrg3.lt;omega
     have hr3l:=hrg3.lt
     clear hxL hxd hu h03 hrow hb2 hn2 hp2 hb3 hsum hbd hrg hrg3 hlt3 hg3 hfx
     go_wp2_with fail
     refine HCALL.out.mono ?_
     rintro e w4 ⟨hg4,n4,M4,hb4,hn4,⟨ht,rfl⟩ | ⟨os,id,ht,rfl,hp4⟩⟩
     · -- a tree that may not be
      have hx4:=(H03.out.kept hbw hg4).box
      obtain ⟨W5,hW5⟩:∃ W5,(w4.alloc (.cells uz.toArray 24)).setCells w4.heap.size 0 uz = W5:=⟨_,rfl⟩
      have hx4l:=hx4.lt
      have hx5:BoxL W5 w.heap.size 24 uz:=by rw [← hW5];exact (hx4.below ((Below.refl _ _).alloc (Nat.le_refl _) _)).other (by omega)
      have hb45:Below w4.heap.size w4 W5:=by rw [← hW5];exact below_setCells _ (Nat.le_refl _) _ _ _ ((Below.refl _ _).alloc (Nat.le_refl _) _)
      have HTH5:=Lib.hid (there_alloc w4 uz.toArray 24 (by simpa using hzl))
      have HT4:=Lib.hid hx5.there
      rw [hzl] at HT4
      have hr4:=(hx5.set (us:=uz) rfl).range
      have h32z:(Tryz.prog.info? 24).map (·.size) = some uz.length:=by rw [hzl];exact h32i
      have HBF:=Lib.hid ((hb4.below hb45).set (p:=w.heap.size) (o:=0) (us:=uz) (by omega) (by omega))
      have HGF:=Lib.hid (grown_new (p:=w.heap.size) (o:=0) (us:=uz) ((H03.out.grow.trans hg4).trans (grownS_of hb45)) (Nat.le_refl _))
      have HW5:=Lib.hid hW5
      have HZO:=Lib.hid (idC_one zid)
      have HTN:=Lib.hid ht
      have HN4:=Lib.hid hn4
      rw [huz] at HZO ⊢
      clear hx4 hx4l hx5 hb45 hW5 hb4 hg4 ht hn4
      go_wp2_with (first
       | (refine wpList_store_list rfl 24 _ _ rfl w4.heap.size 0 uz rfl rfl 32 hzl HTH5.out h32i HZO.out ?_;rw [HW5.out])
       | (refine wpList_store_list rfl 24 _ _ rfl w.heap.size 0 uz rfl rfl 32 hzl HT4.out h32i HZO.out ?_))
      refine ret_cell2 rfl w.heap.size 0 rfl uz _ hr4 Tryz.underlying24 rfl h32z rfl _ rfl ?_
      refine ⟨HGF.out,n4,M4,HBF.out,?_,.inl ⟨trS_none (okB_dir HXD.out HTN.out),by rw [huz];rfl⟩⟩
      have h1:=HN4.out
      have h2:=HN2.out
      have h3:=HSUM.out
      have h4:sumN k L (dirsOf L) = ((dirsOf L).map fun d => putsN k (underOf d L)).sum:=rfl
      show n4 ≤ n + ((blobsOf L).length + ((dirsOf L).map fun d => putsN k (underOf d L)).sum + 1)
      omega
     · -- a tree
      have HGD:Hid (((trS k (underOf x L)).getD ([],zid)) = (os,id)):=Lib.hid (by rw [ht];rfl)
      have hidl:id.length = 32:=by have:=trS_len k (underOf x L);rw [HGD.out] at this;exact this
      have h04:=H03.out.kept hbw hg4
      have hr4:=HR3.out.grown hg4 (fun e => by have:=Option.some.inj e;omega) (fun e => by have:=Option.some.inj e;omega)
      have hxl:(idC id).length = 32:=by rw [idC_len,hidl]
      have HXO:=Lib.hid (idC_one id)
      have HENT:Hid (entC ⟨x,2,id⟩ = encE (dirJ k L x)):=Lib.hid (by show entC ⟨x,2,id⟩ = entC ⟨x,2,((trS k (underOf x L)).getD ([],zid)).2⟩;rw [HGD.out])
      have HEB:=Lib.hid (show ∀ W,(Instr.build 152 #[(0,.string x),(1,.int .i64 2),(2,.agg (idC id).toArray)]).run Tryz.prog W = .ok (.agg (entC ⟨x,2,id⟩).toArray) W from fun W => ent3_built x 2 id hidl W)
      rw [HENT.out] at HEB
      have HEL:=Lib.hid (encE_len (dirJ k L x))
      have HEO:=Lib.hid (encE_one (dirJ k L x))
      obtain ⟨ue,hue⟩:∃ ue,encE (dirJ k L x) = ue:=⟨_,rfl⟩
      rw [hue] at HEB HEL HEO
      have HUE:=Lib.hid hue
      obtain ⟨ux,hux⟩:∃ ux,idC id = ux:=⟨_,rfl⟩
      rw [hux] at hxl HXO HEB ⊢
      obtain ⟨W5,hW5⟩:∃ W5,(w4.alloc (.cells uz.toArray 24)).setCells w4.heap.size 0 ux = W5:=⟨_,rfl⟩
      have hb5':Below w4.heap.size w4 W5:=by rw [← hW5];exact below_setCells _ (Nat.le_refl _) _ _ _ ((Below.refl _ _).alloc (Nat.le_refl _) _)
      have hx5:BoxL W5 w4.heap.size 24 ux:=by rw [← hW5];exact (BoxL.new w4 24 uz).set (by rw [hxl,hzl])
      have hr5:=hx5.range
      have HTH5:=Lib.hid (there_alloc w4 uz.toArray 24 (by simpa using hzl))
      have hb6:Below W5.heap.size W5 (W5.alloc (.cells ue.toArray 152)):=(Below.refl _ _).alloc (Nat.le_refl _) _
      have hb56:=hb5'.trans (hb6.mono hb5'.size)
      have H06:=Lib.hid (h04.below hbw hb56)
      have HR6:=Lib.hid (hr4.on hb56)
      have HB6:=Lib.hid (hb4.below hb56)
      have HNEW:Hid (∀ j u,ue[j]? = some u → (W5.alloc (.cells ue.toArray 152)).cell? ((⟨W5.heap.size,0,none⟩:Addr).add j) = some u):=Lib.hid (fun j u hj => cells_newL _ ue _ j u hj)
      have HSZE:Hid (∀ w,(sizeOf 152).run Tryz.prog w = .ok ue.length w):=Lib.hid (fun w => by rw [HEL.out];kernel_rfl)
      have hs6:w.heap.size + 2 ≤ (W5.alloc (.cells ue.toArray 152)).heap.size:=by have:=HR6.out.map.lt;omega
      have hs36:w3.heap.size ≤ (W5.alloc (.cells ue.toArray 152)).heap.size:=Nat.le_trans hg4.size hb56.size
      have HLE:Hid (World.rangeLeft (W5.alloc (.cells ue.toArray 152)) (w.heap.size + 1) r0 < wl.rangeLeft (w.heap.size + 1) r0):=Lib.hid (by
       rw [rangeLeft_heapT (w:=w4) (hb56.block _ hr4.map.lt) (hb56.block _ hr4.lt),rangeLeft_heapT (w:=w3) (hg4.block _ HR3.out.map.lt (fun e => by have:=Option.some.inj e;omega)) (hg4.block _ HR3.out.lt (fun e => by have:=Option.some.inj e;omega))]
       exact HLT.out)
      have HP4:=Lib.hid hp4
      have HN4:=Lib.hid hn4
      have HTS:=Lib.hid ht
      obtain ⟨es,hes⟩:∃ es,(blobsOf L).map blobJ ++ dn.map (dirJ k L) = es:=⟨_,rfl⟩
      have HES:=Lib.hid hes
      have hesl:es.length ≤ 400:=by
       have h1:=count_le L
       have h2:=HT.out.perm.length_eq
       rw [← hes,List.length_append,List.length_map,List.length_map]
       rw [List.length_append] at h2
       omega
      rw [hes] at H06
      have HO6:=Lib.hid H06.out.ents
      have HFL2:Hid (flatC encE (es ++ [dirJ k L x]) = flatC encE es ++ ue):=Lib.hid (by rw [flatC_append,← HUE.out];simp [flatC])
      obtain ⟨zs,i0,hi',hz0,hz1,hz2,hzv,hbu,hzs⟩:=ent_zero
      have hzl34:zs.size = 34:=by rw [hzs];simp
      have HW5:=Lib.hid hW5
      have heb:=HEB.out
      clear ht h04 hr4 hue hux hb5' hx5 hb6 hb56 hb4 hg4 hn4 hp4 hes hW5 hzs
      go_wp2_with (first
       | (refine wpList_store_list rfl 24 _ _ rfl w4.heap.size 0 ux rfl rfl 32 hxl HTH5.out h32i HXO.out ?_;rw [HW5.out])
       | (refine wpList_load_mid rfl 24 _ rfl w4.heap.size 0 rfl ux _ hr5 Tryz.underlying24 rfl (by rw [hxl];exact h32i) ?_)
       | (refine wpList_build3 rfl 152 (.tmp 82) (.const (.int .i64 2)) (.tmp 83) rfl (.string x) (.int .i64 2) (.agg ux.toArray) _ rfl rfl rfl (heb _) ?_)
       | (refine wpList_buildSlice_one rfl (.tmp 84) 147 152 rfl ue zs rfl Tryz.underlying147 HSZE.out hzv (by rw [HEL.out];omega) (by rw [HEL.out];omega) ?_)
       | (refine wpList_append_q rfl (.tmp 81) (.tmp 85) 147 rfl (w.heap.size + 2) 152 i0 (.agg zs) 34 56 Tryz.underlying147 hi' hz0 hz1 hz2 hzl34 (by decide) _ es.length (flatC encE es) rfl HO6.out (some ⟨W5.heap.size,0,none⟩) 1 1 ue rfl (by rw [HEL.out]) (fun _ => ⟨_,rfl,HNEW.out⟩) HEO.out (by unfold maxLen;omega) (by omega) hs6 ?_))
      intro o7 w7 hq7 hg7 hf7
      have hne:∀ g,u7.ownBlock = some g → w.heap.size + 2 ≤ g:=fun g e => (HO6.out.blkLt g e).2
      have hrg7:=HR6.out.grown hg7 (fun e => by have:=hne _ e.symm;omega) (fun e => HT.out.off e.symm)
      have HEND:Hid (St2 w k pb b n M L uz F nm r0 o7 (dn ++ [x]) (Lr.filter fun y => decide (y ≠ x)) w7):=Lib.hid (by
       refine ⟨HPM.out,?_,hrg7,?_,⟨n4,M4,HB6.out.other hpw hbw H06.out.ents hg7,?_,?_⟩,?_⟩
       ·rw [List.map_append,← List.append_assoc,HES.out]
        refine H06.out.ent hg7 hf7 ?_
        show OwnQ w7 (w.heap.size + 2) 34 o7 (es ++ [dirJ k L x]).length (flatC encE (es ++ [dirJ k L x]))
        rw [HFL2.out,List.length_append];exact hq7
       ·intro e
        rcases hf7 with h | h
        ·exact HT.out.off (h.symm.trans e)
        ·have:=h r0 e;omega
       ·have h1:=HN4.out
        have h2:=HN2.out
        have h3:=HSUM.out
        omega
       ·rw [List.flatMap_append,← List.append_assoc]
        refine HP2.out.append ?_
        simp only [List.flatMap_cons,List.flatMap_nil,List.append_nil]
        unfold dirObs
        rw [HGD.out]
        exact HP4.out
       ·intro d hd
        rcases List.mem_append.1 hd with hd | hd
        ·exact HT.out.ok d hd
        ·rw [List.mem_singleton.1 hd,HTS.out];rfl)
      have HLE7:Hid (w7.rangeLeft (w.heap.size + 1) r0 < wl.rangeLeft (w.heap.size + 1) r0):=Lib.hid (by
       rw [rangeLeft_heapT (hg7.block _ HR6.out.map.lt (fun e => by have:=hne _ e.symm;omega)) (hg7.block _ HR6.out.lt (fun e => HT.out.off e.symm))]
       exact HLE.out)
      clear hq7 hg7 hf7 hne hrg7
      go_wp2
      go_roundw
      case rel => exact ⟨_,_,HEND.out⟩
      case measure => exact HLE7.out
end Go.Proofs.YtbmiiiccnoiffaaGreatDoor
