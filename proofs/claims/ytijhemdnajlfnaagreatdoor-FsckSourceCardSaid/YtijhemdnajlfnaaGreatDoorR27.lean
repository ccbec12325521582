/- A part of this claim. -/
import Derived.Laws.EntriesVeiled
import Derived.Test.YtijhemdnajlfnaaGreatDoorR23
import Derived.Test.YtijhemdnajlfnaaGreatDoorR24
namespace Go.Proofs.YtijhemdnajlfnaaGreatDoor
open Tryz
set_option maxHeartbeats 64000000
set_option maxRecDepth 100000
section
open Go.RowKit
def qz (k:Int) (s:ByteArray) (w:World) (e:Ending) (w':World):Prop:=(∃ p,e = .returned (.tuple #[p,.bool (aC ⟨k,s⟩)]) ∧
 (aC ⟨k,s⟩ = true → k = 2 → ∃ b v,p = .pointer (some ⟨b,0,none⟩) ∧ b < w'.heap.size ∧ w'.cell? ⟨b,1,none⟩ = some v ∧ bB w v ∧ fq w' v ((bQ s).getD [])) ∧
 (aC ⟨k,s⟩ = true → k = 3 → ∃ b t v l x,p = .pointer (some ⟨b,0,none⟩) ∧ b < w'.heap.size ∧ aJ s = some (t,l,x) ∧ w'.rangeAt b 2 (cmC t v x) ∧ bB w v ∧ bD w' v l)) ∧ Below w.heap.size w w'
theorem oF {k:Int} {s:ByteArray} {w w':World} (h:aC ⟨k,s⟩ = false) (p:Value) (hb:Below w.heap.size w w'):qz k s w (.returned (.tuple #[p,.bool false])) w' :=
 ⟨⟨p,by rw [h],fun h' => (by rw [h] at h';cases h'),fun h' => (by rw [h] at h';cases h')⟩,hb⟩
theorem Ck {s:ByteArray} {w w':World} (h:aC ⟨1,s⟩ = true) (p:Value) (hb:Below w.heap.size w w'):qz 1 s w (.returned (.tuple #[p,.bool true])) w' :=
 ⟨⟨p,by rw [h],fun _ h' => (by cases h'),fun _ h' => (by cases h')⟩,hb⟩
theorem Cj {s:ByteArray} {w w':World} {b:Nat} {v:Value} (h:aC ⟨2,s⟩ = (bQ s).isSome) (hv:w'.cell? ⟨b,1,none⟩ = some v) (hfr:bB w v) (h2:(bQ s).isSome = true → fq w' v ((bQ s).getD [])) (hb:Below w.heap.size w w') :
  qz 2 s w (.returned (.tuple #[.pointer (some ⟨b,0,none⟩),.bool (bQ s).isSome])) w' :=
 ⟨⟨_,by rw [h],fun h' _ => ⟨b,v,rfl,World.block_lt_of_cell? w' _ hv,hv,hfr,h2 (by rw [← h];exact h')⟩,fun _ h' => (by cases h')⟩,hb⟩
theorem xP {s:ByteArray} {w w':World} {b:Nat} (h:aC ⟨3,s⟩ = (aJ s).isSome) (hl:b < w'.heap.size) (h2:(aJ s).isSome = true → ∃ t v l x,aJ s = some (t,l,x) ∧ w'.rangeAt b 2 (cmC t v x) ∧ bB w v ∧ bD w' v l) (hb:Below w.heap.size w w') :
  qz 3 s w (.returned (.tuple #[.pointer (some ⟨b,0,none⟩),.bool (aJ s).isSome])) w':=by
 refine ⟨⟨_,by rw [h],fun _ h' => (by cases h'),fun h' _ => ?_⟩,hb⟩
 obtain ⟨t,v,l,x,q1,q2,q2b,q3⟩:=h2 (by rw [← h];exact h')
 exact ⟨b,t,v,l,x,rfl,hl,q1,q2,q2b,q3⟩
theorem Gc (rb:Nat):(Value.pointer (some ⟨rb,0,none⟩) :: .slice none 0 0 :: (cmC zid (.slice none 0 0) ⟨#[]⟩)).toArray = #[.pointer (some ⟨rb,0,none⟩),.slice none 0 0,.int .u8 0,.int .u8 0,.int .u8 0,.int .u8 0,.int .u8 0,.int .u8 0,.int .u8 0,.int .u8 0,.int .u8 0,.int .u8 0,.int .u8 0,.int .u8 0,.int .u8 0,.int .u8 0,.int .u8 0,.int .u8 0,.int .u8 0,.int .u8 0,.int .u8 0,.int .u8 0,.int .u8 0,.int .u8 0,.int .u8 0,.int .u8 0,.int .u8 0,.int .u8 0,.int .u8 0,.int .u8 0,.int .u8 0,.int .u8 0,.int .u8 0,.int .u8 0,.slice none 0 0,.string ⟨#[]⟩]:=by kernel_rfl
theorem DV (w:World) (rb:Nat) (e:TypeId):Arr (w.alloc (.cells #[.pointer (some ⟨rb,0,none⟩),.slice none 0 0,.int .u8 0,.int .u8 0,.int .u8 0,.int .u8 0,.int .u8 0,.int .u8 0,.int .u8 0,.int .u8 0,.int .u8 0,.int .u8 0,.int .u8 0,.int .u8 0,.int .u8 0,.int .u8 0,.int .u8 0,.int .u8 0,.int .u8 0,.int .u8 0,.int .u8 0,.int .u8 0,.int .u8 0,.int .u8 0,.int .u8 0,.int .u8 0,.int .u8 0,.int .u8 0,.int .u8 0,.int .u8 0,.int .u8 0,.int .u8 0,.int .u8 0,.int .u8 0,.slice none 0 0,.string ⟨#[]⟩] e)) w.heap.size 36 (iK rb zid (.slice none 0 0) ⟨#[]⟩):=by
 rw [← Gc]
 have h:=Arr.ofList w (Value.pointer (some ⟨rb,0,none⟩) :: .slice none 0 0 :: (cmC zid (.slice none 0 0) ⟨#[]⟩)) e
 have hl:(Value.pointer (some ⟨rb,0,none⟩) :: .slice none 0 0 :: (cmC zid (.slice none 0 0) ⟨#[]⟩)).length = 36:=by
  simp only [List.length_cons,iU _ _ _ dZ]
 rw [hl] at h
 refine h.congr fun k hk => ?_
 obtain h0 | h0 | h0:k = 0 ∨ k = 1 ∨ 2 ≤ k:=by omega
 ·subst h0;rfl
 ·subst h0;rfl
 rw [iF _ _ _ _ h0]
 obtain ⟨j,rfl⟩:∃ j,k = j + 2:=⟨k - 2,by omega⟩
 rfl
theorem M7 {w:World} {b rb:Nat} (h:Arr w b 36 (iK rb zid (.slice none 0 0) ⟨#[]⟩)):Arr w b 2 (twoF (.pointer (some ⟨rb,0,none⟩)) (.slice none 0 0)) :=
 ⟨fun k hk => by
  have:=h.cell k (by omega)
  obtain h0 | h0:k = 0 ∨ k = 1:=by omega
  all_goals subst h0;exact this,fun k hk => h.free k (by omega)⟩
theorem Ju (k:Int) (s:ByteArray) (w:World) :
  Calls prog 204 #[.agg #[.int .i64 k,.string s]] w (qz k s w):=by
 have HB2:Hid (∀ (o1 o2:Obj),Below w.heap.size w ((w.alloc o1).alloc o2)):=ah (fun o1 o2 => bal.alloc (by simp) _)
 have HB4:Hid (∀ (o1 o2 o3 o4:Obj),Below w.heap.size w ((((w.alloc o1).alloc o2).alloc o3).alloc o4)):=ah (fun o1 o2 o3 o4 => ((bal.alloc (by simp) _).alloc (by simp;omega) _).alloc (by simp;omega) _)
 by_cases h1:k < 1
 ·have d1:decide (k < 1) = true:=decide_eq_true h1
  have HR:Hid (aC ⟨k,s⟩ = false):=by
   unfold Hid aC;rw [if_neg (show ¬ k = 1 by omega),if_neg (show ¬ k = 2 by omega),if_neg (show ¬ k = 3 by omega),Bool.and_false]
  go_enter func204,ntmps204
  go_wp2_with fail
  go_ret2
  exact oF HR.out _ (HB2.out _ _)
 have d1:decide (k < 1) = false:=decide_eq_false h1
 by_cases h2:3 < k
 ·have d2:decide (3 < k) = true:=decide_eq_true h2
  have HR:Hid (aC ⟨k,s⟩ = false):=by
   unfold Hid aC;rw [if_neg (show ¬ k = 1 by omega),if_neg (show ¬ k = 2 by omega),if_neg (show ¬ k = 3 by omega),Bool.and_false]
  go_enter func204,ntmps204
  go_wp2_with fail
  go_ret2
  exact oF HR.out _ (HB2.out _ _)
 have d2:decide (3 < k) = false:=decide_eq_false h2
 by_cases h3:4096 < s.size
 ·have d3:decide ((4096:Int) < s.size) = true:=decide_eq_true (by omega)
  have HR:Hid (aC ⟨k,s⟩ = false):=by unfold Hid aC;rw [decide_eq_false (show ¬ s.size ≤ 4096 by omega),Bool.false_and]
  go_enter func204,ntmps204
  go_wp2_with fail
  go_ret2
  exact oF HR.out _ (HB2.out _ _)
 have d3:decide ((4096:Int) < s.size) = false:=decide_eq_false (by omega)
 have HS:Hid (aC ⟨k,s⟩ = (if k = 1 then true else if k = 2 then (bQ s).isSome else if k = 3 then (aJ s).isSome else false)):=by
  unfold Hid aC;rw [decide_eq_true (show s.size ≤ 4096 by omega),Bool.true_and]
 have hs5:s.size ≤ 100000:=by omega
 obtain rfl | rfl | rfl:k = 1 ∨ k = 2 ∨ k = 3:=by omega
 ·have HR:Hid (aC ⟨1,s⟩ = true):=by unfold Hid;rw [HS.out];rfl
  clear h1 h2 h3 HS d1 d2
  go_enter func204,ntmps204
  go_wp2_with (go_at_call 76;refine (kE s _).mono ?_;rintro e w' ⟨rfl,rfl⟩)
  refine (Jz _ _).mono ?_
  rintro e w' ⟨rfl,rfl⟩
  go_wp2
  go_ret2
  exact Ck HR.out _ (HB4.out _ _ _ _)
 ·have HR:Hid (aC ⟨2,s⟩ = (bQ s).isSome):=by unfold Hid;rw [HS.out];rfl
  clear h1 h2 h3 d1 d2 HS
  have HOT:=ah (fun W (hr:Arr W (w.heap.size + 1 + 1) 3 (rd0 s).c) (hb:Arr W (w.heap.size + 1 + 1 + 1) 36 (iK (w.heap.size + 1 + 1) zid (.slice none 0 0) ⟨#[]⟩)) =>
   Jt w.heap.size _ _ s W hr (M7 hb) (by omega) (by omega) (by omega) hs5)
  go_enter func204,ntmps204
  go_wp2_with (go_at_call 76;refine (kE s _).mono ?_;rintro e w' ⟨rfl,rfl⟩)
  obtain ⟨W2,hW2⟩:∃ W2:World,W2.heap.size = w.heap.size + 1 + 1 ∧ W2 = (w.alloc (.cells #[.int .i64 2,.string s] 40)).alloc (.cells #[.nilFunc,.func (.func 250) #[] #[],.func (.func 251) #[] #[],.func (.func 252) #[] #[]] 364):=⟨_,by simp,rfl⟩
  rw [← hW2.2]
  have hA:=(sU W2 s 245).alloc (by omega) (.cells #[.pointer (some ⟨w.heap.size + 1 + 1,0,none⟩),.slice none 0 0,.int .u8 0,.int .u8 0,.int .u8 0,.int .u8 0,.int .u8 0,.int .u8 0,.int .u8 0,.int .u8 0,.int .u8 0,.int .u8 0,.int .u8 0,.int .u8 0,.int .u8 0,.int .u8 0,.int .u8 0,.int .u8 0,.int .u8 0,.int .u8 0,.int .u8 0,.int .u8 0,.int .u8 0,.int .u8 0,.int .u8 0,.int .u8 0,.int .u8 0,.int .u8 0,.int .u8 0,.int .u8 0,.int .u8 0,.int .u8 0,.int .u8 0,.int .u8 0,.slice none 0 0,.string ⟨#[]⟩] 366)
  have hB:=DV (W2.alloc (.cells #[.string s,.int .i64 0,.int .i64 0] 245)) (w.heap.size + 1 + 1) 366
  rw [World.size_alloc,hW2.1] at hB
  rw [hW2.1] at hA
  have HBB:=ah (HB4.out (.cells #[.int .i64 2,.string s] 40) (.cells #[.nilFunc,.func (.func 250) #[] #[],.func (.func 251) #[] #[],.func (.func 252) #[] #[]] 364) (.cells #[.string s,.int .i64 0,.int .i64 0] 245) (.cells #[.pointer (some ⟨w.heap.size + 1 + 1,0,none⟩),.slice none 0 0,.int .u8 0,.int .u8 0,.int .u8 0,.int .u8 0,.int .u8 0,.int .u8 0,.int .u8 0,.int .u8 0,.int .u8 0,.int .u8 0,.int .u8 0,.int .u8 0,.int .u8 0,.int .u8 0,.int .u8 0,.int .u8 0,.int .u8 0,.int .u8 0,.int .u8 0,.int .u8 0,.int .u8 0,.int .u8 0,.int .u8 0,.int .u8 0,.int .u8 0,.int .u8 0,.int .u8 0,.int .u8 0,.int .u8 0,.int .u8 0,.int .u8 0,.int .u8 0,.slice none 0 0,.string ⟨#[]⟩] 366))
  rw [← hW2.2] at HBB
  refine (HOT.out _ hA hB).mono ?_
  rintro e w' ⟨rfl,⟨v,hv1,hv0,hv2⟩,hb⟩
  have HV:=ah hv1
  have HV0:=ah (fun g hg => Nat.le_trans HBB.out.size (hv0 g hg))
  have HV2:=ah hv2
  have HBL:=ah hb
  clear hA hB hv1 hv0 hv2 hb hW2 HOT
  have HF:=ah (HBB.out.trans HBL.out)
  go_wp2
  go_ret2
  exact Cj HR.out HV.out HV0.out HV2.out HF.out
 have HR:Hid (aC ⟨3,s⟩ = (aJ s).isSome):=by unfold Hid;rw [HS.out];rfl
 clear h1 h2 h3 d1 d2 HS
 have HOT:=ah (fun W (hr:Arr W (w.heap.size + 1 + 1) 3 (rd0 s).c) (hb:Arr W (w.heap.size + 1 + 1 + 1) 36 (iK (w.heap.size + 1 + 1) zid (.slice none 0 0) ⟨#[]⟩)) =>
  sP w.heap.size _ _ s W hr hb (by omega) (by omega) (by omega) hs5)
 go_enter func204,ntmps204
 go_wp2_with (go_at_call 76;refine (kE s _).mono ?_;rintro e w' ⟨rfl,rfl⟩)
 obtain ⟨W2,hW2⟩:∃ W2:World,W2.heap.size = w.heap.size + 1 + 1 ∧ W2 = (w.alloc (.cells #[.int .i64 3,.string s] 40)).alloc (.cells #[.nilFunc,.func (.func 250) #[] #[],.func (.func 251) #[] #[],.func (.func 252) #[] #[]] 364):=⟨_,by simp,rfl⟩
 rw [← hW2.2]
 have hA:=(sU W2 s 245).alloc (by omega) (.cells #[.pointer (some ⟨w.heap.size + 1 + 1,0,none⟩),.slice none 0 0,.int .u8 0,.int .u8 0,.int .u8 0,.int .u8 0,.int .u8 0,.int .u8 0,.int .u8 0,.int .u8 0,.int .u8 0,.int .u8 0,.int .u8 0,.int .u8 0,.int .u8 0,.int .u8 0,.int .u8 0,.int .u8 0,.int .u8 0,.int .u8 0,.int .u8 0,.int .u8 0,.int .u8 0,.int .u8 0,.int .u8 0,.int .u8 0,.int .u8 0,.int .u8 0,.int .u8 0,.int .u8 0,.int .u8 0,.int .u8 0,.int .u8 0,.int .u8 0,.slice none 0 0,.string ⟨#[]⟩] 366)
 have hB:=DV (W2.alloc (.cells #[.string s,.int .i64 0,.int .i64 0] 245)) (w.heap.size + 1 + 1) 366
 rw [World.size_alloc,hW2.1] at hB
 rw [hW2.1] at hA
 have HBB:=ah (HB4.out (.cells #[.int .i64 3,.string s] 40) (.cells #[.nilFunc,.func (.func 250) #[] #[],.func (.func 251) #[] #[],.func (.func 252) #[] #[]] 364) (.cells #[.string s,.int .i64 0,.int .i64 0] 245) (.cells #[.pointer (some ⟨w.heap.size + 1 + 1,0,none⟩),.slice none 0 0,.int .u8 0,.int .u8 0,.int .u8 0,.int .u8 0,.int .u8 0,.int .u8 0,.int .u8 0,.int .u8 0,.int .u8 0,.int .u8 0,.int .u8 0,.int .u8 0,.int .u8 0,.int .u8 0,.int .u8 0,.int .u8 0,.int .u8 0,.int .u8 0,.int .u8 0,.int .u8 0,.int .u8 0,.int .u8 0,.int .u8 0,.int .u8 0,.int .u8 0,.int .u8 0,.int .u8 0,.int .u8 0,.int .u8 0,.int .u8 0,.int .u8 0,.int .u8 0,.slice none 0 0,.string ⟨#[]⟩] 366))
 rw [← hW2.2] at HBB
 have hlW:=hB.lt (show 0 < 36 by omega)
 refine (HOT.out _ hA hB).mono ?_
 rintro e w' ⟨rfl,hv2,hb⟩
 have HV2:Hid ((aJ s).isSome = true → ∃ t v l x,aJ s = some (t,l,x) ∧ w'.rangeAt (w.heap.size + 1 + 1 + 1) 2 (cmC t v x) ∧ bB w v ∧ bD w' v l):=ah (fun h => by
  obtain ⟨t,v,l,x,q1,q2,q3,q4⟩:=hv2 h
  exact ⟨t,v,l,x,q1,q2,fun g hg => Nat.le_trans HBB.out.size (q3 g hg),q4⟩)
 have HBL:=ah hb
 clear hA hB hv2 hb hW2 HOT
 have HF:=ah (HBB.out.trans HBL.out)
 have HLT:=ah hlW
 clear hlW
 go_wp2
 go_ret2
 exact xP HR.out (Nat.lt_of_lt_of_le HLT.out HBL.out.size) HV2.out HF.out
theorem vg (k:Int) (s:ByteArray) (w:World) :
  Calls prog 151 #[.agg #[.int .i64 k,.string s]] w fun e w' => e = .returned (.bool (aC ⟨k,s⟩)) ∧ Below w.heap.size w w':=by
 have HR:=ah (fun w => Ju k s w)
 have HB0:Hid (∀ o,Below w.heap.size w (w.alloc o)):=ah (fun o => bal)
 go_enter func151,ntmps151
 go_wp2_with fail
 refine (HR.out _).mono ?_
 intro e w1 h
 obtain ⟨⟨p,rfl,_,_⟩,hb⟩:=h
 have HB:=ah ((HB0.out _).trans (hb.mono (HB0.out _).size))
 clear hb
 go_wp2
 go_ret
 exact ⟨rfl,HB.out⟩
def okI (b:Bool):Int:=if b = true then 0 else 1
theorem AL (k:Nat) (h:k = 1 ∨ k = 2 ∨ k = 3) (w:World):(Instr.slice 9 (.string ⟨#[32,98,116,99]⟩) (some (.int .i64 (k:Int))) (some (.int .i64 ((k:Int) + 1))) none).run prog w = .ok (.string (ofB [gD k])) w:=by
 rcases h with rfl | rfl | rfl
 ·exact iM ⟨#[32,98,116,99]⟩ 1 1 (by decide) w
 ·exact iM ⟨#[32,98,116,99]⟩ 2 1 (by decide) w
 exact iM ⟨#[32,98,116,99]⟩ 3 1 (by decide) w
theorem pz {o:Ob} (h:aC o = true):(o.kind = 1 ∨ o.kind = 2 ∨ o.kind = 3) ∧ o.body.size ≤ 4096:=by
 unfold aC at h
 simp only [Bool.and_eq_true,decide_eq_true_eq] at h
 refine ⟨?_,h.1⟩
 have h2:=h.2
 split at h2
 ·exact .inl (by assumption)
 split at h2
 ·exact .inr (.inl (by assumption))
 split at h2
 ·exact .inr (.inr (by assumption))
 cases h2
def Ni (k:Int) (s:ByteArray) (w:World) (e:Ending) (w':World):Prop:=e = .returned (.tuple #[.string (if aC ⟨k,s⟩ = true then ofB (fI ⟨k,s⟩) else ⟨#[]⟩),.int .i64 (okI (aC ⟨k,s⟩))]) ∧ Below w.heap.size w w'
theorem MB {k:Int} {s:ByteArray} {w w':World} (h:aC ⟨k,s⟩ = false) (hb:Below w.heap.size w w'):Ni k s w (.returned (.tuple #[.string ⟨#[]⟩,.int .i64 1])) w':=⟨by rw [h];rfl,hb⟩
theorem JR {k:Int} {s q:ByteArray} {w w':World} (h:aC ⟨k,s⟩ = true) (hq:q = ofB (fI ⟨k,s⟩)) (hb:Below w.heap.size w w'):Ni k s w (.returned (.tuple #[.string q,.int .i64 0])) w':=⟨by rw [h,hq];rfl,hb⟩
theorem EZ (k:Int) (s:ByteArray) (w:World) :
  Calls prog 152 #[.agg #[.int .i64 k,.string s]] w (Ni k s w):=by
 have HR:=ah (fun w => vg k s w)
 have HB0:Hid (∀ o,Below w.heap.size w (w.alloc o)):=ah (fun o => bal)
 cases hr:aC ⟨k,s⟩ with
 | false =>
  have HRB:=ah hr
  rw [hr] at HR
  clear hr
  go_enter func152,ntmps152
  go_wp2_with fail
  refine (HR.out _).mono ?_
  rintro e w1 ⟨rfl,hb⟩
  have HB:=ah ((HB0.out _).trans (hb.mono (HB0.out _).size))
  clear hb
  go_wp2
  go_ret2
  exact MB HRB.out HB.out
 | true =>
  obtain ⟨hk,hs⟩:=pz hr
  have HRB:=ah hr
  rw [hr] at HR
  clear hr
  dsimp only at hk hs
  obtain ⟨n,rfl,hn⟩:∃ n:Nat,k = (n:Int) ∧ (n = 1 ∨ n = 2 ∨ n = 3):=⟨k.toNat,by omega,by omega⟩
  have hls:=fun w => AL n hn w
  have k0:(0:Int) ≤ n:=by omega
  have k3:(n:Int) ≤ 3:=by omega
  clear hk hn
  go_enter func152,ntmps152
  go_wp2_with fail
  refine (HR.out _).mono ?_
  rintro e w1 ⟨rfl,hb⟩
  have hsz1:w.heap.size < w1.heap.size:=by have:=hb.size;simp at this;omega
  have c0:w1.cell? ⟨w.heap.size,0,none⟩ = some (.int .i64 n):=by rw [hb.cell (p:=⟨w.heap.size,0,none⟩) (by simp),World.cell?_alloc_new];rfl
  have c1:w1.cell? ⟨w.heap.size,1,none⟩ = some (.string s):=by rw [hb.cell (p:=⟨w.heap.size,1,none⟩) (by simp),World.cell?_alloc_new];rfl
  have HB:=ah ((HB0.out _).trans (hb.mono (HB0.out _).size))
  clear hb
  go_wp2_with fail
  generalize hlt:gD (n:Int) = lt
  have hz1:(ofB [lt]).size = 1:=by rw [aM];rfl
  have hd1:(ofB [lt]).data.toList = [lt]:=by rw [aW]
  have hW0:Wr w1.heap.size w1.heap.size [] ((w1.alloc (.cells #[.pointer none,.slice none 0 0] 266)).alloc (.cells #[.string (ofB [lt])] 9)) :=
   Wr.below (Lib.fresh_isBuilder 266 5 w1) bal
  have hBB:Below w1.heap.size w1 ((w1.alloc (.cells #[.pointer none,.slice none 0 0] 266)).alloc (.cells #[.string (ofB [lt])] 9)):=bal.alloc (by simp) _
  have hcg:((w1.alloc (.cells #[.pointer none,.slice none 0 0] 266)).alloc (.cells #[.string (ofB [lt])] 9)).cell? ⟨w1.heap.size + 1,0,none⟩ = some (.string (ofB [lt])):=by
   have:=World.cell?_alloc_new (w1.alloc (.cells #[.pointer none,.slice none 0 0] 266)) #[.string (ofB [lt])] 9 0
   rw [World.size_alloc] at this
   rw [this];rfl
  have hRW:=qC w1.heap.size w1.heap.size [] (w1.heap.size + 1) (ofB [lt]) _ hW0 hcg (by rw [hz1];simp) hBB.size
  rw [hd1,List.nil_append] at hRW
  have HBB:=ah hBB
  have HLT:=ah hlt
  clear hlt hz1 hd1 hW0 hBB hcg
  refine hRW.mono ?_
  rintro e w2 ⟨rfl,hW2,hb2⟩
  have HB2:=ah (HBB.out.trans hb2)
  have c2:w2.cell? ⟨w.heap.size,1,none⟩ = some (.string s):=ak c1 HB2.out hsz1
  have HW2:=ah hW2
  have hs2:=HB2.out.size
  clear hRW hW2 hb2 HBB hls c0 c1
  go_wp2_with fail
  have hBB2:Below w2.heap.size w2 (w2.alloc (.cells #[.string s] 9)):=bal
  have hTX:=D5 w1.heap.size w1.heap.size [lt] w2.heap.size s _ (HW2.out.below hBB2) (by rw [World.cell?_alloc_new];rfl) (by omega) (by simp) (by have:=hBB2.size;omega)
  have HBB2:=ah hBB2
  clear hBB2
  refine hTX.mono ?_
  rintro e w3 ⟨rfl,hW3,hb3⟩
  have HB3:=ah ((HB2.out.trans (HBB2.out.mono hs2)).trans hb3)
  have hST:=qD w1.heap.size w1.heap.size _ w3 hW3 (by simp)
  clear hTX hW3 hb3 c2
  go_wp2_with fail
  refine hST.mono ?_
  rintro e w4 ⟨rfl,hb4⟩
  have HB4:=ah (HB.out.trans ((HB3.out.trans hb4).mono HB.out.size))
  clear hST hb4
  go_wp2
  go_ret2
  exact JR HRB.out (by unfold fI;rw [HLT.out]) HB4.out
theorem Db:(∀ w,(zeroValue 24).run prog w = .ok (.agg (idC zid).toArray) w) ∧ ∀ w,(Instr.build 24 #[]).run prog w = .ok (.agg (idC zid).toArray) w :=
 ⟨fun w => by kernel_rfl,fun w => run_build w 24 #[] _ (by kernel_rfl)⟩
def qB (k:Int) (s:ByteArray) (w:World) (e:Ending) (w':World):Prop:=e = .returned (.tuple #[.agg (idC (if aC ⟨k,s⟩ = true then idO ⟨k,s⟩ else zid)).toArray,.bool (aC ⟨k,s⟩)]) ∧ Below w.heap.size w w'
theorem Ml {k:Int} {s:ByteArray} {w w':World} (h:aC ⟨k,s⟩ = false) (hb:Below w.heap.size w w'):qB k s w (.returned (.tuple #[.agg (idC zid).toArray,.bool false])) w':=⟨by rw [h];rfl,hb⟩
theorem JL {k:Int} {s:ByteArray} {x:List UInt8} {w w':World} (h:aC ⟨k,s⟩ = true) (hq:x = idO ⟨k,s⟩) (hb:Below w.heap.size w w'):qB k s w (.returned (.tuple #[.agg (idC x).toArray,.bool true])) w':=⟨by rw [h,hq];rfl,hb⟩
theorem Gy (k:Int) (s:ByteArray) (w:World) (hL:Laid w) :
  Calls prog 89 #[.agg #[.int .i64 k,.string s]] w (qB k s w):=by
 obtain ⟨hz,hbu⟩:=Db
 have hcl:(idC zid).length = 32:=by rw [aD,dZ]
 have HR:=ah (fun w => EZ k s w)
 have hon:=bX zid
 have HNA:Hid (∀ w',aC ⟨k,s⟩ = false → Below w.heap.size w w' → qB k s w (.returned (.tuple #[.agg (idC zid).toArray,.bool false])) w'):=ah (fun w' h hb => Ml h hb)
 generalize idC zid = cz at hz hbu hcl hon HNA
 obtain ⟨W0,hW0⟩:∃ W0,W0 = (w.alloc (.cells #[.int .i64 k,.string s] 40)).alloc (.cells cz.toArray 24):=⟨_,rfl⟩
 have hA:W0.there (w.heap.size + 1) 0 32:=by
  have:=(Arr.ofList (w.alloc (.cells #[.int .i64 k,.string s] 40)) cz 24).there
  rw [World.size_alloc,hcl] at this;rw [hW0];exact this
 have hB0:Below w.heap.size w W0:=by rw [hW0];exact bal.alloc (by simp) _
 have hs0:W0.heap.size = w.heap.size + 1 + 1:=by rw [hW0];simp
 have h32:(prog.info? 24).map (·.size) = some 32:=by kernel_rfl
 have h32z:(prog.info? 24).map (·.size) = some cz.length:=by rw [hcl];exact h32
 have HB0:=ah hB0
 have HS0:=ah hs0
 have HCL:=ah hcl
 have HON:=ah hon
 have HL:=ah (hL.below hB0)
 have HNO:Hid (∀ w1,Below W0.heap.size W0 w1 → w1.there (w.heap.size + 1) 0 32):=ah (fun w1 hb => gL hA hb (by rw [hs0];omega))
 have HST:Hid (∀ w1 cs,cs.length = 32 → Below W0.heap.size W0 w1 → (w1.setCells (w.heap.size + 1) 0 cs).rangeAt (w.heap.size + 1) 0 cs ∧ Below w.heap.size w (w1.setCells (w.heap.size + 1) 0 cs)):=ah (fun w1 cs hl hb => 
  ⟨World.rangeAt_setCells_same w1 _ 0 _ (by rw [hl];exact HNO.out w1 hb),below_setCells _ (by omega) _ _ _ (HB0.out.trans (hb.mono HB0.out.size))⟩)
 clear hB0 hA hs0 hcl hon hL
 cases hr:aC ⟨k,s⟩ with
 | false =>
  have HRB:=ah hr
  clear hr
  go_enter func89,ntmps89
  go_wp2_with fail
  rw [← hW0]
  clear hW0
  refine (HR.out _).mono ?_
  intro e w1 h
  obtain ⟨rfl,hb⟩:=h
  rw [HRB.out]
  have HB:=ah hb
  clear hb
  rw [if_neg (show ¬ (false = true) by simp),show okI false = 1 from rfl]
  go_wp2_with (refine aj rfl 24 _ _ rfl (w.heap.size + 1) 0 cz rfl rfl 32 HCL.out (HNO.out _ HB.out) h32 HON.out ?_)
  refine aB rfl (w.heap.size + 1) 0 rfl _ _ (HST.out _ cz HCL.out HB.out).1 underlying24 rfl h32z rfl _ rfl (HNA.out _ HRB.out (HST.out _ cz HCL.out HB.out).2)
 | true =>
  have HRB:=ah hr
  have hfz:(ofB (fI ⟨k,s⟩)).size ≤ 1000000000:=by
   rw [aM];unfold fI
   have:=(pz hr).2
   have h6:=gZ (n:=s.size) (by dsimp only at this;omega)
   simp at *;omega
  clear hr
  go_enter func89,ntmps89
  go_wp2_with fail
  rw [← hW0]
  clear hW0
  refine (HR.out _).mono ?_
  intro e w1 h
  obtain ⟨rfl,hb⟩:=h
  rw [HRB.out]
  have HB:=ah hb
  have HL1:=ah (HL.out.below hb)
  clear hb
  rw [if_pos rfl,show okI true = 0 from rfl]
  have hix:shaP (ofB (fI ⟨k,s⟩)) = idO ⟨k,s⟩:=OJ _
  have hil:=dI ⟨k,s⟩
  generalize ofB (fI ⟨k,s⟩) = q at hfz hix
  have hDS:=fun (W:World) (hL:Laid W) (p:Nat) (hc:W.cell? ⟨p,0,none⟩ = some (.string q)) => MP p 0 1 q W hc hL hfz
  rw [hix] at hDS
  have HDS:=ah hDS
  have HFY:Hid (∀ w',Below w.heap.size w w' → qB k s w (.returned (.tuple #[.agg (idC (idO ⟨k,s⟩)).toArray,.bool true])) w'):=ah (fun w' hb => JL HRB.out rfl hb)
  clear hDS hix
  go_wp2_with fail
  refine (HDS.out _ (HL1.out.below bal) _ (by rw [World.cell?_alloc_new];rfl)).mono ?_
  rintro e w2 ⟨rfl,hb2⟩
  have HB2:=ah (HB.out.trans ((bal.trans (hb2.mono (by simp))).mono HB.out.size))
  clear hb2
  have hdv:idV (idO ⟨k,s⟩) = .agg (idC (idO ⟨k,s⟩)).toArray:=rfl
  rw [hdv]
  clear hdv
  have hcx:(idC (idO ⟨k,s⟩)).length = 32:=by rw [aD,hil]
  have hox:=bX (idO ⟨k,s⟩)
  generalize idC (idO ⟨k,s⟩) = cx at hcx hox HFY
  have h32x:(prog.info? 24).map (·.size) = some cx.length:=by rw [hcx];exact h32
  have HCX:=ah hcx
  have HOX:=ah hox
  clear hcx hox hil
  go_wp2_with (refine aj rfl 24 _ _ rfl (w.heap.size + 1) 0 cx rfl rfl 32 HCX.out (HNO.out _ HB2.out) h32 HOX.out ?_)
  refine aB rfl (w.heap.size + 1) 0 rfl _ _ (HST.out _ cx HCX.out HB2.out).1 underlying24 rfl h32x rfl _ rfl (HFY.out _ (HST.out _ cx HCX.out HB2.out).2)
end
end Go.Proofs.YtijhemdnajlfnaaGreatDoor
