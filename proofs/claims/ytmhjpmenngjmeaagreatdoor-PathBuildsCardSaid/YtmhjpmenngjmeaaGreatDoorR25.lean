/- YtmhjpmenngjmeaaGreatDoorR25: texts Y6, Y9, Y7 of this claim, in one. -/
import Derived.Laws.EntriesVeiled
import Derived.Test.YtmhjpmenngjmeaaGreatDoorR23
import Derived.Test.YtmhjpmenngjmeaaGreatDoorR24
import Derived.Test.YtmhjpmenngjmeaaGreatDoorR7
namespace Go.Proofs.YtmhjpmenngjmeaaGreatDoor
open Go.RowKit
def ReadAns (k:Int) (s:ByteArray) (w:World) (e:Ending) (w':World):Prop:=(∃ p,e = .returned (.tuple #[p,.bool (rightOb ⟨k,s⟩)]) ∧
 (rightOb ⟨k,s⟩ = true → k = 2 → ∃ b v,p = .pointer (some ⟨b,0,none⟩) ∧ b < w'.heap.size ∧ w'.cell? ⟨b,1,none⟩ = some v ∧ FreshV w v ∧ EntRow w' v ((treeOf s).getD [])) ∧
 (rightOb ⟨k,s⟩ = true → k = 3 → ∃ b t v l x,p = .pointer (some ⟨b,0,none⟩) ∧ b < w'.heap.size ∧ commitOf s = some (t,l,x) ∧ w'.rangeAt b 2 (cmC t v x) ∧ FreshV w v ∧ IdRow w' v l)) ∧ Below w.heap.size w w'
theorem readAns_no {k:Int} {s:ByteArray} {w w':World} (h:rightOb ⟨k,s⟩ = false) (p:Value) (hb:Below w.heap.size w w'):ReadAns k s w (.returned (.tuple #[p,.bool false])) w' :=
 ⟨⟨p,by rw [h],fun h' => (by rw [h] at h';cases h'),fun h' => (by rw [h] at h';cases h')⟩,hb⟩
theorem readAns_one {s:ByteArray} {w w':World} (h:rightOb ⟨1,s⟩ = true) (p:Value) (hb:Below w.heap.size w w'):ReadAns 1 s w (.returned (.tuple #[p,.bool true])) w' :=
 ⟨⟨p,by rw [h],fun _ h' => (by cases h'),fun _ h' => (by cases h')⟩,hb⟩
theorem readAns_two {s:ByteArray} {w w':World} {b:Nat} {v:Value} (h:rightOb ⟨2,s⟩ = (treeOf s).isSome) (hv:w'.cell? ⟨b,1,none⟩ = some v) (hfr:FreshV w v) (h2:(treeOf s).isSome = true → EntRow w' v ((treeOf s).getD [])) (hb:Below w.heap.size w w') :
  ReadAns 2 s w (.returned (.tuple #[.pointer (some ⟨b,0,none⟩),.bool (treeOf s).isSome])) w' :=
 ⟨⟨_,by rw [h],fun h' _ => ⟨b,v,rfl,World.block_lt_of_cell? w' _ hv,hv,hfr,h2 (by rw [← h];exact h')⟩,fun _ h' => (by cases h')⟩,hb⟩
theorem readAns_three {s:ByteArray} {w w':World} {b:Nat} (h:rightOb ⟨3,s⟩ = (commitOf s).isSome) (hl:b < w'.heap.size) (h2:(commitOf s).isSome = true → ∃ t v l x,commitOf s = some (t,l,x) ∧ w'.rangeAt b 2 (cmC t v x) ∧ FreshV w v ∧ IdRow w' v l) (hb:Below w.heap.size w w') :
  ReadAns 3 s w (.returned (.tuple #[.pointer (some ⟨b,0,none⟩),.bool (commitOf s).isSome])) w':=by
 refine ⟨⟨_,by rw [h],fun _ h' => (by cases h'),fun h' _ => ?_⟩,hb⟩
 obtain ⟨t,v,l,x,q1,q2,q2b,q3⟩:=h2 (by rw [← h];exact h')
 exact ⟨b,t,v,l,x,rfl,hl,q1,q2,q2b,q3⟩
theorem bodyZ_list (rb:Nat):(Value.pointer (some ⟨rb,0,none⟩) :: .slice none 0 0 :: (cmC zid (.slice none 0 0) ⟨#[]⟩)).toArray = #[.pointer (some ⟨rb,0,none⟩),.slice none 0 0,.int .u8 0,.int .u8 0,.int .u8 0,.int .u8 0,.int .u8 0,.int .u8 0,.int .u8 0,.int .u8 0,.int .u8 0,.int .u8 0,.int .u8 0,.int .u8 0,.int .u8 0,.int .u8 0,.int .u8 0,.int .u8 0,.int .u8 0,.int .u8 0,.int .u8 0,.int .u8 0,.int .u8 0,.int .u8 0,.int .u8 0,.int .u8 0,.int .u8 0,.int .u8 0,.int .u8 0,.int .u8 0,.int .u8 0,.int .u8 0,.int .u8 0,.int .u8 0,.slice none 0 0,.string ⟨#[]⟩]:=by kernel_rfl
theorem body_arr (w:World) (rb:Nat) (e:TypeId):Arr (w.alloc (.cells #[.pointer (some ⟨rb,0,none⟩),.slice none 0 0,.int .u8 0,.int .u8 0,.int .u8 0,.int .u8 0,.int .u8 0,.int .u8 0,.int .u8 0,.int .u8 0,.int .u8 0,.int .u8 0,.int .u8 0,.int .u8 0,.int .u8 0,.int .u8 0,.int .u8 0,.int .u8 0,.int .u8 0,.int .u8 0,.int .u8 0,.int .u8 0,.int .u8 0,.int .u8 0,.int .u8 0,.int .u8 0,.int .u8 0,.int .u8 0,.int .u8 0,.int .u8 0,.int .u8 0,.int .u8 0,.int .u8 0,.int .u8 0,.slice none 0 0,.string ⟨#[]⟩] e)) w.heap.size 36 (bodyF rb zid (.slice none 0 0) ⟨#[]⟩):=by
 rw [← bodyZ_list]
 have h:=Arr.ofList w (Value.pointer (some ⟨rb,0,none⟩) :: .slice none 0 0 :: (cmC zid (.slice none 0 0) ⟨#[]⟩)) e
 have hl:(Value.pointer (some ⟨rb,0,none⟩) :: .slice none 0 0 :: (cmC zid (.slice none 0 0) ⟨#[]⟩)).length = 36:=by
  simp only [List.length_cons,cmC_len _ _ _ zid_len]
 rw [hl] at h
 refine h.congr fun k hk => ?_
 obtain h0 | h0 | h0:k = 0 ∨ k = 1 ∨ 2 ≤ k:=by omega
 ·subst h0;rfl
 ·subst h0;rfl
 ·rw [bodyF_lo _ _ _ _ h0]
  obtain ⟨j,rfl⟩:∃ j,k = j + 2:=⟨k - 2,by omega⟩
  rfl
theorem body_two {w:World} {b rb:Nat} (h:Arr w b 36 (bodyF rb zid (.slice none 0 0) ⟨#[]⟩)):Arr w b 2 (twoF (.pointer (some ⟨rb,0,none⟩)) (.slice none 0 0)) :=
 ⟨fun k hk => by
  have:=h.cell k (by omega)
  obtain h0 | h0:k = 0 ∨ k = 1:=by omega
  all_goals subst h0;exact this,fun k hk => h.free k (by omega)⟩
set_option maxRecDepth 100000 in
set_option maxHeartbeats 4000000 in
theorem oread_any (k:Int) (s:ByteArray) (w:World) :
  Calls Tryz.prog 92 #[.agg #[.int .i64 k,.string s]] w (ReadAns k s w):=by
 have HB2:Hid (∀ (o1 o2:Obj),Below w.heap.size w ((w.alloc o1).alloc o2)):=Lib.hid (fun o1 o2 => ((Below.refl _ _).alloc (Nat.le_refl _) _).alloc (by simp) _)
 have HB4:Hid (∀ (o1 o2 o3 o4:Obj),Below w.heap.size w ((((w.alloc o1).alloc o2).alloc o3).alloc o4)):=Lib.hid (fun o1 o2 o3 o4 => ((((Below.refl _ _).alloc (Nat.le_refl _) _).alloc (by simp) _).alloc (by simp;omega) _).alloc (by simp;omega) _)
 by_cases h1:k < 1
 ·have d1:decide (k < 1) = true:=decide_eq_true h1
  have HR:Hid (rightOb ⟨k,s⟩ = false):=by
   unfold Hid rightOb;rw [if_neg (show ¬ k = 1 by omega),if_neg (show ¬ k = 2 by omega),if_neg (show ¬ k = 3 by omega),Bool.and_false]
  go_enter Tryz.func92,Tryz.ntmps92
  go_wp2_with fail
  go_ret2
  exact readAns_no HR.out _ (HB2.out _ _)
 ·have d1:decide (k < 1) = false:=decide_eq_false h1
  by_cases h2:3 < k
  ·have d2:decide (3 < k) = true:=decide_eq_true h2
   have HR:Hid (rightOb ⟨k,s⟩ = false):=by
    unfold Hid rightOb;rw [if_neg (show ¬ k = 1 by omega),if_neg (show ¬ k = 2 by omega),if_neg (show ¬ k = 3 by omega),Bool.and_false]
   go_enter Tryz.func92,Tryz.ntmps92
   go_wp2_with fail
   go_ret2
   exact readAns_no HR.out _ (HB2.out _ _)
  ·have d2:decide (3 < k) = false:=decide_eq_false h2
   by_cases h3:4096 < s.size
   ·have d3:decide ((4096:Int) < s.size) = true:=decide_eq_true (by omega)
    have HR:Hid (rightOb ⟨k,s⟩ = false):=by unfold Hid rightOb;rw [decide_eq_false (show ¬ s.size ≤ 4096 by omega),Bool.false_and]
    go_enter Tryz.func92,Tryz.ntmps92
    go_wp2_with fail
    go_ret2
    exact readAns_no HR.out _ (HB2.out _ _)
   ·have d3:decide ((4096:Int) < s.size) = false:=decide_eq_false (by omega)
    have HS:Hid (rightOb ⟨k,s⟩ = (if k = 1 then true else if k = 2 then (treeOf s).isSome else if k = 3 then (commitOf s).isSome else false)):=by
     unfold Hid rightOb;rw [decide_eq_true (show s.size ≤ 4096 by omega),Bool.true_and]
    have hs5:s.size ≤ 100000:=by omega
    obtain rfl | rfl | rfl:k = 1 ∨ k = 2 ∨ k = 3:=by omega
    ·have HR:Hid (rightOb ⟨1,s⟩ = true):=by unfold Hid;rw [HS.out];rfl
     clear h1 h2 h3 HS d1 d2
     go_enter Tryz.func92,Tryz.ntmps92
     go_wp2_with (go_at_call 116;refine (wnewr_any s _).mono ?_;rintro e w' ⟨rfl,rfl⟩)
     refine (oblob_any _ _).mono ?_
     rintro e w' ⟨rfl,rfl⟩
     go_wp2
     go_ret2
     exact readAns_one HR.out _ (HB4.out _ _ _ _)
    ·have HR:Hid (rightOb ⟨2,s⟩ = (treeOf s).isSome):=by unfold Hid;rw [HS.out];rfl
     clear h1 h2 h3 d1 d2 HS
     have HOT:=Lib.hid (fun W (hr:Arr W (w.heap.size + 1 + 1) 3 (rd0 s).c) (hb:Arr W (w.heap.size + 1 + 1 + 1) 36 (bodyF (w.heap.size + 1 + 1) zid (.slice none 0 0) ⟨#[]⟩)) =>
      otree_any w.heap.size _ _ s W hr (body_two hb) (by omega) (by omega) (by omega) hs5)
     go_enter Tryz.func92,Tryz.ntmps92
     go_wp2_with (go_at_call 116;refine (wnewr_any s _).mono ?_;rintro e w' ⟨rfl,rfl⟩)
     obtain ⟨W2,hW2⟩:∃ W2:World,W2.heap.size = w.heap.size + 1 + 1 ∧ W2 = (w.alloc (.cells #[.int .i64 2,.string s] 59)).alloc (.cells #[.nilFunc,.func (.func 113) #[] #[],.func (.func 114) #[] #[],.func (.func 115) #[] #[]] 191):=⟨_,by simp,rfl⟩
     rw [← hW2.2]
     have hA:=(rd0_arr W2 s 208).alloc (by omega) (.cells #[.pointer (some ⟨w.heap.size + 1 + 1,0,none⟩),.slice none 0 0,.int .u8 0,.int .u8 0,.int .u8 0,.int .u8 0,.int .u8 0,.int .u8 0,.int .u8 0,.int .u8 0,.int .u8 0,.int .u8 0,.int .u8 0,.int .u8 0,.int .u8 0,.int .u8 0,.int .u8 0,.int .u8 0,.int .u8 0,.int .u8 0,.int .u8 0,.int .u8 0,.int .u8 0,.int .u8 0,.int .u8 0,.int .u8 0,.int .u8 0,.int .u8 0,.int .u8 0,.int .u8 0,.int .u8 0,.int .u8 0,.int .u8 0,.int .u8 0,.slice none 0 0,.string ⟨#[]⟩] 168)
     have hB:=body_arr (W2.alloc (.cells #[.string s,.int .i64 0,.int .i64 0] 208)) (w.heap.size + 1 + 1) 168
     rw [World.size_alloc,hW2.1] at hB
     rw [hW2.1] at hA
     have HBB:=Lib.hid (HB4.out (.cells #[.int .i64 2,.string s] 59) (.cells #[.nilFunc,.func (.func 113) #[] #[],.func (.func 114) #[] #[],.func (.func 115) #[] #[]] 191) (.cells #[.string s,.int .i64 0,.int .i64 0] 208) (.cells #[.pointer (some ⟨w.heap.size + 1 + 1,0,none⟩),.slice none 0 0,.int .u8 0,.int .u8 0,.int .u8 0,.int .u8 0,.int .u8 0,.int .u8 0,.int .u8 0,.int .u8 0,.int .u8 0,.int .u8 0,.int .u8 0,.int .u8 0,.int .u8 0,.int .u8 0,.int .u8 0,.int .u8 0,.int .u8 0,.int .u8 0,.int .u8 0,.int .u8 0,.int .u8 0,.int .u8 0,.int .u8 0,.int .u8 0,.int .u8 0,.int .u8 0,.int .u8 0,.int .u8 0,.int .u8 0,.int .u8 0,.int .u8 0,.int .u8 0,.slice none 0 0,.string ⟨#[]⟩] 168))
     rw [← hW2.2] at HBB
     refine (HOT.out _ hA hB).mono ?_
     rintro e w' ⟨rfl,⟨v,hv1,hv0,hv2⟩,hb⟩
     have HV:=Lib.hid hv1
     have HV0:=Lib.hid (fun g hg => Nat.le_trans HBB.out.size (hv0 g hg))
     have HV2:=Lib.hid hv2
     have HBL:=Lib.hid hb
     clear hA hB hv1 hv0 hv2 hb hW2 HOT
     have HF:=Lib.hid (HBB.out.trans HBL.out)
     go_wp2
     go_ret2
     exact readAns_two HR.out HV.out HV0.out HV2.out HF.out
    ·have HR:Hid (rightOb ⟨3,s⟩ = (commitOf s).isSome):=by unfold Hid;rw [HS.out];rfl
     clear h1 h2 h3 d1 d2 HS
     have HOT:=Lib.hid (fun W (hr:Arr W (w.heap.size + 1 + 1) 3 (rd0 s).c) (hb:Arr W (w.heap.size + 1 + 1 + 1) 36 (bodyF (w.heap.size + 1 + 1) zid (.slice none 0 0) ⟨#[]⟩)) =>
      ocommitbody_any w.heap.size _ _ s W hr hb (by omega) (by omega) (by omega) hs5)
     go_enter Tryz.func92,Tryz.ntmps92
     go_wp2_with (go_at_call 116;refine (wnewr_any s _).mono ?_;rintro e w' ⟨rfl,rfl⟩)
     obtain ⟨W2,hW2⟩:∃ W2:World,W2.heap.size = w.heap.size + 1 + 1 ∧ W2 = (w.alloc (.cells #[.int .i64 3,.string s] 59)).alloc (.cells #[.nilFunc,.func (.func 113) #[] #[],.func (.func 114) #[] #[],.func (.func 115) #[] #[]] 191):=⟨_,by simp,rfl⟩
     rw [← hW2.2]
     have hA:=(rd0_arr W2 s 208).alloc (by omega) (.cells #[.pointer (some ⟨w.heap.size + 1 + 1,0,none⟩),.slice none 0 0,.int .u8 0,.int .u8 0,.int .u8 0,.int .u8 0,.int .u8 0,.int .u8 0,.int .u8 0,.int .u8 0,.int .u8 0,.int .u8 0,.int .u8 0,.int .u8 0,.int .u8 0,.int .u8 0,.int .u8 0,.int .u8 0,.int .u8 0,.int .u8 0,.int .u8 0,.int .u8 0,.int .u8 0,.int .u8 0,.int .u8 0,.int .u8 0,.int .u8 0,.int .u8 0,.int .u8 0,.int .u8 0,.int .u8 0,.int .u8 0,.int .u8 0,.int .u8 0,.slice none 0 0,.string ⟨#[]⟩] 168)
     have hB:=body_arr (W2.alloc (.cells #[.string s,.int .i64 0,.int .i64 0] 208)) (w.heap.size + 1 + 1) 168
     rw [World.size_alloc,hW2.1] at hB
     rw [hW2.1] at hA
     have HBB:=Lib.hid (HB4.out (.cells #[.int .i64 3,.string s] 59) (.cells #[.nilFunc,.func (.func 113) #[] #[],.func (.func 114) #[] #[],.func (.func 115) #[] #[]] 191) (.cells #[.string s,.int .i64 0,.int .i64 0] 208) (.cells #[.pointer (some ⟨w.heap.size + 1 + 1,0,none⟩),.slice none 0 0,.int .u8 0,.int .u8 0,.int .u8 0,.int .u8 0,.int .u8 0,.int .u8 0,.int .u8 0,.int .u8 0,.int .u8 0,.int .u8 0,.int .u8 0,.int .u8 0,.int .u8 0,.int .u8 0,.int .u8 0,.int .u8 0,.int .u8 0,.int .u8 0,.int .u8 0,.int .u8 0,.int .u8 0,.int .u8 0,.int .u8 0,.int .u8 0,.int .u8 0,.int .u8 0,.int .u8 0,.int .u8 0,.int .u8 0,.int .u8 0,.int .u8 0,.int .u8 0,.slice none 0 0,.string ⟨#[]⟩] 168))
     rw [← hW2.2] at HBB
     have hlW:=hB.lt (show 0 < 36 by omega)
     refine (HOT.out _ hA hB).mono ?_
     rintro e w' ⟨rfl,hv2,hb⟩
     have HV2:Hid ((commitOf s).isSome = true → ∃ t v l x,commitOf s = some (t,l,x) ∧ w'.rangeAt (w.heap.size + 1 + 1 + 1) 2 (cmC t v x) ∧ FreshV w v ∧ IdRow w' v l):=Lib.hid (fun h => by
      obtain ⟨t,v,l,x,q1,q2,q3,q4⟩:=hv2 h
      exact ⟨t,v,l,x,q1,q2,fun g hg => Nat.le_trans HBB.out.size (q3 g hg),q4⟩)
     have HBL:=Lib.hid hb
     clear hA hB hv2 hb hW2 HOT
     have HF:=Lib.hid (HBB.out.trans HBL.out)
     have HLT:=Lib.hid hlW
     clear hlW
     go_wp2
     go_ret2
     exact readAns_three HR.out (Nat.lt_of_lt_of_le HLT.out HBL.out.size) HV2.out HF.out
end Go.Proofs.YtmhjpmenngjmeaaGreatDoor
namespace Go.Proofs.YtmhjpmenngjmeaaGreatDoor
open Go.RowKit
set_option maxRecDepth 100000 in
set_option maxHeartbeats 1000000 in
theorem oright_any (k:Int) (s:ByteArray) (w:World) :
  Calls Tryz.prog 85 #[.agg #[.int .i64 k,.string s]] w fun e w' => e = .returned (.bool (rightOb ⟨k,s⟩)) ∧ Below w.heap.size w w':=by
 have HR:=Lib.hid (fun w => oread_any k s w)
 have HB0:Hid (∀ o,Below w.heap.size w (w.alloc o)):=Lib.hid (fun o => (Below.refl _ _).alloc (Nat.le_refl _) _)
 go_enter Tryz.func85,Tryz.ntmps85
 go_wp2_with fail
 refine (HR.out _).mono ?_
 intro e w1 h
 obtain ⟨⟨p,rfl,_,_⟩,hb⟩:=h
 have HB:=Lib.hid ((HB0.out _).trans (hb.mono (HB0.out _).size))
 clear hb
 go_wp2
 go_ret
 exact ⟨rfl,HB.out⟩
theorem nil_ents (w:World):EntRow w (.slice none 0 0) []:=⟨none,0,rfl,by simp,fun h => absurd rfl h⟩
def isT (k:Int) (s:ByteArray):Bool:=rightOb ⟨k,s⟩ && decide (k = 2)
def okI (b:Bool):Int:=if b = true then 0 else 1
def EntsAns (k:Int) (s:ByteArray) (w:World) (e:Ending) (w':World):Prop:=∃ v,e = .returned (.tuple #[v,.int .i64 (okI (isT k s))]) ∧ FreshV w v ∧ EntRow w' v (if isT k s = true then (treeOf s).getD [] else []) ∧ Below w.heap.size w w'
theorem entsAns_no {k:Int} {s:ByteArray} {w w':World} (h:isT k s = false) (hb:Below w.heap.size w w'):EntsAns k s w (.returned (.tuple #[.slice none 0 0,.int .i64 1])) w' :=
 ⟨_,by rw [h];rfl,fun g hg => (by cases hg),by rw [h];exact nil_ents _,hb⟩
theorem entsAns_yes {k:Int} {s:ByteArray} {w w':World} {v:Value} (h:isT k s = true) (hfr:FreshV w v) (hr:EntRow w' v ((treeOf s).getD [])) (hb:Below w.heap.size w w'):EntsAns k s w (.returned (.tuple #[v,.int .i64 0])) w' :=
 ⟨_,by rw [h];rfl,hfr,by rw [h];exact hr,hb⟩
set_option maxRecDepth 100000 in
set_option maxHeartbeats 2000000 in
theorem oents_any (k:Int) (s:ByteArray) (w:World) :
  Calls Tryz.prog 50 #[.agg #[.int .i64 k,.string s]] w (EntsAns k s w):=by
 have HR:=Lib.hid (fun w => oread_any k s w)
 have HB0:Hid (∀ o,Below w.heap.size w (w.alloc o)):=Lib.hid (fun o => (Below.refl _ _).alloc (Nat.le_refl _) _)
 cases hr:rightOb ⟨k,s⟩ with
 | false =>
  have HI:Hid (isT k s = false):=by unfold Hid isT;rw [hr];rfl
  have HRB:=Lib.hid hr
  clear hr
  go_enter Tryz.func50,Tryz.ntmps50
  go_wp2_with fail
  refine (HR.out _).mono ?_
  intro e w1 h
  obtain ⟨⟨p,rfl,_,_⟩,hb⟩:=h
  rw [HRB.out]
  have HB:=Lib.hid ((HB0.out _).trans (hb.mono (HB0.out _).size))
  clear hb
  go_wp2
  go_ret2
  exact entsAns_no HI.out HB.out
 | true =>
  have HRB:=Lib.hid hr
  clear hr
  by_cases h2:k = 2
  ·subst h2
   have HI:Hid (isT 2 s = true):=by unfold Hid isT;rw [HRB.out];rfl
   go_enter Tryz.func50,Tryz.ntmps50
   go_wp2_with fail
   refine (HR.out _).mono ?_
   intro e w1 h
   obtain ⟨⟨p,rfl,h2,_⟩,hb⟩:=h
   rw [HRB.out]
   obtain ⟨b,v,rfl,hbl,hv,hfr,hrow⟩:=h2 HRB.out rfl
   have HB:=Lib.hid ((HB0.out _).trans (hb.mono (HB0.out _).size))
   have c0:w1.cell? ⟨w.heap.size,0,none⟩ = some (.int .i64 2):=by
    rw [hb.cell (p:=⟨w.heap.size,0,none⟩) (by simp),World.cell?_alloc_new];rfl
   have HROW:=Lib.hid hrow
   have HFR:=Lib.hid (fun g hg => Nat.le_trans (HB0.out _).size (hfr g hg))
   clear hb h2 hrow hfr
   go_wp2
   go_ret2
   exact entsAns_yes HI.out HFR.out HROW.out HB.out
  ·have HI:Hid (isT k s = false):=by unfold Hid isT;rw [HRB.out,decide_eq_false h2];rfl
   have e2:(k != 2) = true:=by rw [bne_iff_ne];exact h2
   go_enter Tryz.func50,Tryz.ntmps50
   go_wp2_with fail
   refine (HR.out _).mono ?_
   intro e w1 h
   obtain ⟨⟨p,rfl,_,_⟩,hb⟩:=h
   rw [HRB.out]
   have HB:=Lib.hid ((HB0.out _).trans (hb.mono (HB0.out _).size))
   have c0:w1.cell? ⟨w.heap.size,0,none⟩ = some (.int .i64 k):=by
    rw [hb.cell (p:=⟨w.heap.size,0,none⟩) (by simp),World.cell?_alloc_new];rfl
   clear hb
   go_wp2
   go_ret2
   exact entsAns_no HI.out HB.out
end Go.Proofs.YtmhjpmenngjmeaaGreatDoor
namespace Go.Proofs.YtmhjpmenngjmeaaGreatDoor
open Go.RowKit
theorem letter_slice (k:Nat) (h:k = 1 ∨ k = 2 ∨ k = 3) (w:World):(Instr.slice 9 (.string ⟨#[32,98,116,99]⟩) (some (.int .i64 (k:Int))) (some (.int .i64 ((k:Int) + 1))) none).run Tryz.prog w = .ok (.string (ofB [letterOf k])) w:=by
 rcases h with rfl | rfl | rfl
 ·exact slice_two ⟨#[32,98,116,99]⟩ 1 1 (by decide) w
 ·exact slice_two ⟨#[32,98,116,99]⟩ 2 1 (by decide) w
 ·exact slice_two ⟨#[32,98,116,99]⟩ 3 1 (by decide) w
theorem rightOb_kind {o:Ob} (h:rightOb o = true):(o.kind = 1 ∨ o.kind = 2 ∨ o.kind = 3) ∧ o.body.size ≤ 4096:=by
 unfold rightOb at h
 simp only [Bool.and_eq_true,decide_eq_true_eq] at h
 refine ⟨?_,h.1⟩
 have h2:=h.2
 split at h2
 ·exact .inl (by assumption)
 ·split at h2
  ·exact .inr (.inl (by assumption))
  ·split at h2
   ·exact .inr (.inr (by assumption))
   ·cases h2
def FrAns (k:Int) (s:ByteArray) (w:World) (e:Ending) (w':World):Prop:=e = .returned (.tuple #[.string (if rightOb ⟨k,s⟩ = true then ofB (frameL ⟨k,s⟩) else ⟨#[]⟩),.int .i64 (okI (rightOb ⟨k,s⟩))]) ∧ Below w.heap.size w w'
theorem frAns_no {k:Int} {s:ByteArray} {w w':World} (h:rightOb ⟨k,s⟩ = false) (hb:Below w.heap.size w w'):FrAns k s w (.returned (.tuple #[.string ⟨#[]⟩,.int .i64 1])) w':=⟨by rw [h];rfl,hb⟩
theorem frAns_yes {k:Int} {s q:ByteArray} {w w':World} (h:rightOb ⟨k,s⟩ = true) (hq:q = ofB (frameL ⟨k,s⟩)) (hb:Below w.heap.size w w'):FrAns k s w (.returned (.tuple #[.string q,.int .i64 0])) w':=⟨by rw [h,hq];rfl,hb⟩
set_option maxRecDepth 100000 in
set_option maxHeartbeats 2000000 in
theorem oframe_any (k:Int) (s:ByteArray) (w:World) :
  Calls Tryz.prog 47 #[.agg #[.int .i64 k,.string s]] w (FrAns k s w):=by
 have HR:=Lib.hid (fun w => oright_any k s w)
 have HB0:Hid (∀ o,Below w.heap.size w (w.alloc o)):=Lib.hid (fun o => (Below.refl _ _).alloc (Nat.le_refl _) _)
 cases hr:rightOb ⟨k,s⟩ with
 | false =>
  have HRB:=Lib.hid hr
  rw [hr] at HR
  clear hr
  go_enter Tryz.func47,Tryz.ntmps47
  go_wp2_with fail
  refine (HR.out _).mono ?_
  rintro e w1 ⟨rfl,hb⟩
  have HB:=Lib.hid ((HB0.out _).trans (hb.mono (HB0.out _).size))
  clear hb
  go_wp2
  go_ret2
  exact frAns_no HRB.out HB.out
 | true =>
  obtain ⟨hk,hs⟩:=rightOb_kind hr
  have HRB:=Lib.hid hr
  rw [hr] at HR
  clear hr
  dsimp only at hk hs
  obtain ⟨n,rfl,hn⟩:∃ n:Nat,k = (n:Int) ∧ (n = 1 ∨ n = 2 ∨ n = 3):=⟨k.toNat,by omega,by omega⟩
  have hls:=fun w => letter_slice n hn w
  have k0:(0:Int) ≤ n:=by omega
  have k3:(n:Int) ≤ 3:=by omega
  clear hk hn
  go_enter Tryz.func47,Tryz.ntmps47
  go_wp2_with fail
  refine (HR.out _).mono ?_
  rintro e w1 ⟨rfl,hb⟩
  have hsz1:w.heap.size < w1.heap.size:=by have:=hb.size;simp at this;omega
  have c0:w1.cell? ⟨w.heap.size,0,none⟩ = some (.int .i64 n):=by rw [hb.cell (p:=⟨w.heap.size,0,none⟩) (by simp),World.cell?_alloc_new];rfl
  have c1:w1.cell? ⟨w.heap.size,1,none⟩ = some (.string s):=by rw [hb.cell (p:=⟨w.heap.size,1,none⟩) (by simp),World.cell?_alloc_new];rfl
  have HB:=Lib.hid ((HB0.out _).trans (hb.mono (HB0.out _).size))
  clear hb
  go_wp2_with fail
  generalize hlt:letterOf (n:Int) = lt
  have hz1:(ofB [lt]).size = 1:=by rw [ofB_size];rfl
  have hd1:(ofB [lt]).data.toList = [lt]:=by rw [ofB_data]
  have hW0:Wr w1.heap.size w1.heap.size [] ((w1.alloc (.cells #[.pointer none,.slice none 0 0] 127)).alloc (.cells #[.string (ofB [lt])] 9)) :=
   Wr.below (Lib.fresh_isBuilder 127 5 w1) ((Below.refl _ _).alloc (Nat.le_refl _) _)
  have hBB:Below w1.heap.size w1 ((w1.alloc (.cells #[.pointer none,.slice none 0 0] 127)).alloc (.cells #[.string (ofB [lt])] 9)):=((Below.refl _ _).alloc (Nat.le_refl _) _).alloc (by simp) _
  have hcg:((w1.alloc (.cells #[.pointer none,.slice none 0 0] 127)).alloc (.cells #[.string (ofB [lt])] 9)).cell? ⟨w1.heap.size + 1,0,none⟩ = some (.string (ofB [lt])):=by
   have:=World.cell?_alloc_new (w1.alloc (.cells #[.pointer none,.slice none 0 0] 127)) #[.string (ofB [lt])] 9 0
   rw [World.size_alloc] at this
   rw [this];rfl
  have hRW:=wwraw_any w1.heap.size w1.heap.size [] (w1.heap.size + 1) (ofB [lt]) _ hW0 hcg (by rw [hz1];simp) hBB.size
  rw [hd1,List.nil_append] at hRW
  have HBB:=Lib.hid hBB
  have HLT:=Lib.hid hlt
  clear hlt hz1 hd1 hW0 hBB hcg
  refine hRW.mono ?_
  rintro e w2 ⟨rfl,hW2,hb2⟩
  have HB2:=Lib.hid (HBB.out.trans hb2)
  have c2:w2.cell? ⟨w.heap.size,1,none⟩ = some (.string s):=below_load c1 HB2.out hsz1
  have HW2:=Lib.hid hW2
  have hs2:=HB2.out.size
  clear hRW hW2 hb2 HBB hls c0 c1
  go_wp2_with fail
  have hBB2:Below w2.heap.size w2 (w2.alloc (.cells #[.string s] 9)):=(Below.refl _ _).alloc (Nat.le_refl _) _
  have hTX:=wwtext_any w1.heap.size w1.heap.size [lt] w2.heap.size s _ (HW2.out.below hBB2) (by rw [World.cell?_alloc_new];rfl) (by omega) (by simp) (by have:=hBB2.size;omega)
  have HBB2:=Lib.hid hBB2
  clear hBB2
  refine hTX.mono ?_
  rintro e w3 ⟨rfl,hW3,hb3⟩
  have HB3:=Lib.hid ((HB2.out.trans (HBB2.out.mono hs2)).trans hb3)
  have hST:=wwout_any w1.heap.size w1.heap.size _ w3 hW3 (by simp)
  clear hTX hW3 hb3 c2
  go_wp2_with fail
  refine hST.mono ?_
  rintro e w4 ⟨rfl,hb4⟩
  have HB4:=Lib.hid (HB.out.trans ((HB3.out.trans hb4).mono HB.out.size))
  clear hST hb4
  go_wp2
  go_ret2
  exact frAns_yes HRB.out (by unfold frameL;rw [HLT.out]) HB4.out
theorem id_zeroC:(∀ w,(zeroValue 27).run Tryz.prog w = .ok (.agg (idC zid).toArray) w) ∧ ∀ w,(Instr.build 27 #[]).run Tryz.prog w = .ok (.agg (idC zid).toArray) w :=
 ⟨fun w => by kernel_rfl,fun w => run_build w 27 #[] _ (by kernel_rfl)⟩
def IdAns (k:Int) (s:ByteArray) (w:World) (e:Ending) (w':World):Prop:=e = .returned (.tuple #[.agg (idC (if rightOb ⟨k,s⟩ = true then idO ⟨k,s⟩ else zid)).toArray,.bool (rightOb ⟨k,s⟩)]) ∧ Below w.heap.size w w'
theorem idAns_no {k:Int} {s:ByteArray} {w w':World} (h:rightOb ⟨k,s⟩ = false) (hb:Below w.heap.size w w'):IdAns k s w (.returned (.tuple #[.agg (idC zid).toArray,.bool false])) w':=⟨by rw [h];rfl,hb⟩
theorem idAns_yes {k:Int} {s:ByteArray} {x:List UInt8} {w w':World} (h:rightOb ⟨k,s⟩ = true) (hq:x = idO ⟨k,s⟩) (hb:Below w.heap.size w w'):IdAns k s w (.returned (.tuple #[.agg (idC x).toArray,.bool true])) w':=⟨by rw [h,hq];rfl,hb⟩
set_option maxRecDepth 100000 in
set_option maxHeartbeats 2000000 in
theorem oid_any (k:Int) (s:ByteArray) (w:World) (hL:Laid w) :
  Calls Tryz.prog 24 #[.agg #[.int .i64 k,.string s]] w (IdAns k s w):=by
 obtain ⟨hz,hbu⟩:=id_zeroC
 have hcl:(idC zid).length = 32:=by rw [idC_len,zid_len]
 have HR:=Lib.hid (fun w => oframe_any k s w)
 have hon:=idC_one zid
 have HNA:Hid (∀ w',rightOb ⟨k,s⟩ = false → Below w.heap.size w w' → IdAns k s w (.returned (.tuple #[.agg (idC zid).toArray,.bool false])) w'):=Lib.hid (fun w' h hb => idAns_no h hb)
 generalize idC zid = cz at hz hbu hcl hon HNA
 obtain ⟨W0,hW0⟩:∃ W0,W0 = (w.alloc (.cells #[.int .i64 k,.string s] 59)).alloc (.cells cz.toArray 27):=⟨_,rfl⟩
 have hA:W0.there (w.heap.size + 1) 0 32:=by
  have:=(Arr.ofList (w.alloc (.cells #[.int .i64 k,.string s] 59)) cz 27).there
  rw [World.size_alloc,hcl] at this;rw [hW0];exact this
 have hB0:Below w.heap.size w W0:=by rw [hW0];exact ((Below.refl _ _).alloc (Nat.le_refl _) _).alloc (by simp) _
 have hs0:W0.heap.size = w.heap.size + 1 + 1:=by rw [hW0];simp
 have h32:(Tryz.prog.info? 27).map (·.size) = some 32:=by kernel_rfl
 have h32z:(Tryz.prog.info? 27).map (·.size) = some cz.length:=by rw [hcl];exact h32
 have HB0:=Lib.hid hB0
 have HS0:=Lib.hid hs0
 have HCL:=Lib.hid hcl
 have HON:=Lib.hid hon
 have HL:=Lib.hid (hL.below hB0)
 -- behind the frame
 have HNO:Hid (∀ w1,Below W0.heap.size W0 w1 → w1.there (w.heap.size + 1) 0 32):=Lib.hid (fun w1 hb => there_below hA hb (by rw [hs0];omega))
 have HST:Hid (∀ w1 cs,cs.length = 32 → Below W0.heap.size W0 w1 → (w1.setCells (w.heap.size + 1) 0 cs).rangeAt (w.heap.size + 1) 0 cs ∧ Below w.heap.size w (w1.setCells (w.heap.size + 1) 0 cs)):=Lib.hid (fun w1 cs hl hb => 
  ⟨World.rangeAt_setCells_same w1 _ 0 _ (by rw [hl];exact HNO.out w1 hb),below_setCells _ (by omega) _ _ _ (HB0.out.trans (hb.mono HB0.out.size))⟩)
 clear hB0 hA hs0 hcl hon hL
 cases hr:rightOb ⟨k,s⟩ with
 | false =>
  have HRB:=Lib.hid hr
  clear hr
  go_enter Tryz.func24,Tryz.ntmps24
  go_wp2_with fail
  rw [← hW0]
  clear hW0
  refine (HR.out _).mono ?_
  intro e w1 h
  obtain ⟨rfl,hb⟩:=h
  rw [HRB.out]
  have HB:=Lib.hid hb
  clear hb
  rw [if_neg (show ¬ (false = true) by simp),show okI false = 1 from rfl]
  go_wp2_with (refine wpList_store_list rfl 27 _ _ rfl (w.heap.size + 1) 0 cz rfl rfl 32 HCL.out (HNO.out _ HB.out) h32 HON.out ?_)
  refine ret_cell2 rfl (w.heap.size + 1) 0 rfl _ _ (HST.out _ cz HCL.out HB.out).1 Tryz.underlying27 rfl h32z rfl _ rfl (HNA.out _ HRB.out (HST.out _ cz HCL.out HB.out).2)
 | true =>
  have HRB:=Lib.hid hr
  have hfz:(ofB (frameL ⟨k,s⟩)).size ≤ 1000000000:=by
   rw [ofB_size];unfold frameL
   have:=(rightOb_kind hr).2
   have h6:=numB_le6 (n:=s.size) (by dsimp only at this;omega)
   simp at *;omega
  clear hr
  go_enter Tryz.func24,Tryz.ntmps24
  go_wp2_with fail
  rw [← hW0]
  clear hW0
  refine (HR.out _).mono ?_
  intro e w1 h
  obtain ⟨rfl,hb⟩:=h
  rw [HRB.out]
  have HB:=Lib.hid hb
  have HL1:=Lib.hid (HL.out.below hb)
  clear hb
  rw [if_pos rfl,show okI true = 0 from rfl]
  have hix:shaP (ofB (frameL ⟨k,s⟩)) = idO ⟨k,s⟩:=sha_eq _
  have hil:=idO_len ⟨k,s⟩
  generalize ofB (frameL ⟨k,s⟩) = q at hfz hix
  have hDS:=fun (W:World) (hL:Laid W) (p:Nat) (hc:W.cell? ⟨p,0,none⟩ = some (.string q)) => dsum_any p 0 1 q W hc hL hfz
  rw [hix] at hDS
  have HDS:=Lib.hid hDS
  have HFY:Hid (∀ w',Below w.heap.size w w' → IdAns k s w (.returned (.tuple #[.agg (idC (idO ⟨k,s⟩)).toArray,.bool true])) w'):=Lib.hid (fun w' hb => idAns_yes HRB.out rfl hb)
  clear hDS hix
  go_wp2_with fail
  refine (HDS.out _ (HL1.out.below ((Below.refl _ _).alloc (Nat.le_refl _) _)) _ (by rw [World.cell?_alloc_new];rfl)).mono ?_
  rintro e w2 ⟨rfl,hb2⟩
  have HB2:=Lib.hid (HB.out.trans ((((Below.refl _ _).alloc (Nat.le_refl _) _).trans (hb2.mono (by simp))).mono HB.out.size))
  clear hb2
  have hdv:idV (idO ⟨k,s⟩) = .agg (idC (idO ⟨k,s⟩)).toArray:=rfl
  rw [hdv]
  clear hdv
  have hcx:(idC (idO ⟨k,s⟩)).length = 32:=by rw [idC_len,hil]
  have hox:=idC_one (idO ⟨k,s⟩)
  generalize idC (idO ⟨k,s⟩) = cx at hcx hox HFY
  have h32x:(Tryz.prog.info? 27).map (·.size) = some cx.length:=by rw [hcx];exact h32
  have HCX:=Lib.hid hcx
  have HOX:=Lib.hid hox
  clear hcx hox hil
  go_wp2_with (refine wpList_store_list rfl 27 _ _ rfl (w.heap.size + 1) 0 cx rfl rfl 32 HCX.out (HNO.out _ HB2.out) h32 HOX.out ?_)
  refine ret_cell2 rfl (w.heap.size + 1) 0 rfl _ _ (HST.out _ cx HCX.out HB2.out).1 Tryz.underlying27 rfl h32x rfl _ rfl (HFY.out _ (HST.out _ cx HCX.out HB2.out).2)
end Go.Proofs.YtmhjpmenngjmeaaGreatDoor
