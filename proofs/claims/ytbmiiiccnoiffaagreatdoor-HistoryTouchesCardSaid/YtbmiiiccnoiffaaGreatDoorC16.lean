/- YtbmiiiccnoiffaaGreatDoorC16: texts N2 of this claim, in one. -/
import Derived.Test.YtbmiiiccnoiffaaGreatDoorC13
import Derived.Test.YtbmiiiccnoiffaaGreatDoorC7
namespace Go.Proofs.YtbmiiiccnoiffaaGreatDoor
open Go.RowKit
def pathOk (s:ByteArray):Bool:=(nms s).all nameOk && decide ((nms s).length ≤ 8)
def NmAns (s:ByteArray) (w:World) (e:Ending) (w':World):Prop:=∃ v,e = .returned (.tuple #[v,.bool (pathOk s)]) ∧ (pathOk s = true → StrRow w' v (nms s)) ∧ Below w.heap.size w w'
theorem nmAns_no {s:ByteArray} {w w':World} (h:∃ x ∈ nms s,nameOk x = false) (hb:Below w.heap.size w w'):NmAns s w (.returned (.tuple #[.slice none 0 0,.bool false])) w':=by
 have hp:pathOk s = false:=by
  obtain ⟨x,hx,h⟩:=h
  unfold pathOk
  rw [List.all_eq_false.2 ⟨x,hx,by simp [h]⟩];rfl
 exact ⟨_,by rw [hp],(fun h => by rw [hp] at h;cases h),hb⟩
theorem nmAns_yes {s:ByteArray} {w w':World} {v:Value} (h:∀ x ∈ nms s,nameOk x = true) (hr:StrRow w' v (nms s)) (hb:Below w.heap.size w w'):NmAns s w (.returned (.tuple #[v,.bool (decide (((nms s).length:Int) ≤ 8))])) w' :=
 ⟨v,by unfold pathOk;rw [List.all_eq_true.2 h,Bool.true_and,show decide (((nms s).length:Int) ≤ 8) = decide ((nms s).length ≤ 8) from decide_eq_decide.2 (by omega)],fun _ => hr,hb⟩
def NmSt (s:ByteArray) (w:World) (out nm i:Value) (wr:World):Prop :=
 ∃ (k:Nat) (o:List ByteArray) (c:ByteArray),k ≤ s.size + 1 ∧ i = .int .i64 k ∧ nm = .string c ∧ c.size ≤ k ∧ o.length ≤ k ∧ (∀ x ∈ o,nameOk x = true) ∧ ((k ≤ s.size ∧ Hid (o.map (·.data.toList) ++ glue c.data.toList (spl (s.data.toList.drop k)) = spl s.data.toList)) ∨ (k = s.size + 1 ∧ Hid (o = nms s))) ∧ wr.ownsRow w.heap.size 9 1 out o.length (o.map Value.string) ∧ Below w.heap.size w wr
set_option maxRecDepth 100000 in
set_option maxHeartbeats 2000000 in
theorem names26_any (s:ByteArray) (w:World) (hs:s.size ≤ 1000000) :
  Calls Tryz.prog 50 #[.string s] w (NmAns s w):=by
 obtain ⟨i0,hi,hz0,hz1,hz2⟩:=info_parts infoS
 go_enter Tryz.func50,Tryz.ntmps50
 go_wp2
 go_loopw [4,5,6] (fun out nm i wr => NmSt s w out nm i wr) (fun _ _ i _ => (s.size + 1 - intOf i).toNat)
 case atStart => exact ⟨0,[],ByteArray.empty,by omega,rfl,rfl,by simp,by simp,by simp,.inl ⟨by omega,by show [] ++ glue [] (spl (s.data.toList.drop 0)) = _;simp [glue_nil]⟩,World.ownsRow_nil _ _ _ _,Below.refl _ _⟩
 case round =>
  obtain ⟨wo,rfl⟩:∃ wo:World,wo = wr:=⟨_,rfl⟩
  obtain ⟨k,o,c,hk,rfl,rfl,hc,ho,hok,hf,hown,hb⟩:=hrel
  obtain ⟨ao,cc,rfl⟩:=own_form hown
  have HOK:=Lib.hid hok
  clear hok
  have hszb:=hb.size
  rcases hf with ⟨hks,hf⟩ | ⟨rfl,hf⟩
  ·have d1:decide ((k:Int) ≤ s.size) = true:=decide_eq_true (by omega)
   by_cases hsep:k < s.size ∧ (∀ h:k < s.size,s[k] ≠ 47)
   ·obtain ⟨hlt,h47⟩:=hsep
    have h47:=h47 hlt
    have d2:decide ((k:Int) < s.size) = true:=decide_eq_true (by omega)
    have hd:=hf.out
    rw [drop_byte s k hlt,glue_byte _ _ _ h47] at hd
    have HX:=Lib.hid (extract_one s k hlt)
    have HD:=Lib.hid hd
    clear hd hf
    have l1:(0:Int) ≤ k:=by omega
    have l2:(k:Int) + 1 ≤ s.size:=by omega
    have l3:IntKind.i64.wrap ((k:Int) + 1) = (k:Int) + 1:=IntWalk.i64_in _ (by omega)
    have l4:(k:Int) ≤ (k:Int) + 1:=by omega
    have l5:((k:Int) + 1).toNat = k + 1:=by omega
    have l6:(s.extract k (k + 1)).size = 1:=by rw [ByteArray.size_extract];omega
    have hne:((s[k].toNat:Int) != 47) = true:=by
     rw [bne_iff_ne]
     intro e
     have e2:s[k].toNat = 47:=by omega
     exact h47 (UInt8.toNat_inj.1 e2)
    clear h47
    go_wp2
    go_roundw
    case rel => exact ⟨k + 1,o,c ++ s.extract k (k + 1),by omega,by go_num,rfl,by rw [ByteArray.size_append,l6];omega,by omega,HOK.out,.inl ⟨by omega,by unfold Hid;rw [ByteArray.data_append,Array.toList_append,HX.out];exact HD.out⟩,hown,hb⟩
    case measure => simp [intOf];omega
   · -- a name ends here
    have hend:∃ o2,o2 = o ++ [c] ∧ ((k + 1 ≤ s.size ∧ Hid (o2.map (·.data.toList) ++ glue [] (spl (s.data.toList.drop (k + 1))) = spl s.data.toList)) ∨ (k + 1 = s.size + 1 ∧ Hid (o2 = nms s))) ∧ (k < s.size → ∀ h:k < s.size,s[k] = 47):=by
     refine ⟨_,rfl,?_,fun hlt h => Classical.byContradiction fun hn => hsep ⟨hlt,fun _ => hn⟩⟩
     by_cases hlt:k < s.size
     ·have h47:s[k] = 47:=Classical.byContradiction fun hn => hsep ⟨hlt,fun _ => hn⟩
      have hd:=hf.out
      rw [drop_byte s k hlt,h47,glue_sep] at hd
      exact .inl ⟨by omega,by unfold Hid;rw [List.map_append,List.append_assoc,glue_nil,← hd];rfl⟩
     ·have hke:k = s.size:=by omega
      have hd:=hf.out
      rw [List.drop_eq_nil_of_le (by simp;omega),glue_end] at hd
      exact .inr ⟨by omega,nms_of (by rw [List.map_append];exact hd)⟩
    obtain ⟨o2,ho2,hnx,hsl⟩:=hend
    have HNX:=Lib.hid hnx
    have HO2:=Lib.hid ho2
    have hmem:∀ x ∈ o2,x ∈ nms s:=fun x hx => by
     rcases hnx with ⟨_,h⟩ | ⟨_,h⟩
     ·have h2:=h.out
      rw [← nms_data] at h2
      have h3:x.data.toList ∈ (nms s).map (·.data.toList):=by rw [← h2];exact List.mem_append_left _ (List.mem_map.2 ⟨x,hx,rfl⟩)
      obtain ⟨y,hy,hxy⟩:=List.mem_map.1 h3
      rwa [← ba_ext hxy]
     ·rw [← h.out];exact hx
    have HMEM:=Lib.hid (hmem c (by rw [ho2];simp))
    have HNM:=Lib.hid (r16name_any c wo (by omega))
    clear hnx ho2 hmem hf
    have hcs:c.size ≤ 1000000:=by omega
    by_cases hlt:k < s.size
    ·have d2:decide ((k:Int) < s.size) = true:=decide_eq_true (by omega)
     have hne:((s[k].toNat:Int) != 47) = false:=by rw [hsl hlt hlt];rfl
     have l1:(0:Int) ≤ k:=by omega
     clear hsl hsep
     go_wp2_with fail
     refine HNM.out.mono ?_
     rintro e w1 ⟨rfl,hw1⟩
     subst hw1
     cases hno:nameOk c with
     | false =>
      have HNO:=Lib.hid hno
      clear hno
      go_wp2
      go_ret2
      exact nmAns_no ⟨c,HMEM.out,HNO.out⟩ hb
     | true =>
      have HNO:=Lib.hid hno
      clear hno
      go_wp2_with (at_builtin;refine wpList_append_lies _ rfl (.tmp 33) (.tmp 35) 84 rfl w.heap.size 9 i0 (.string ByteArray.empty) 1 16 Tryz.underlying84 hi hz0 hz1 hz2 rfl (by decide) _ o.length _ rfl (hown.alloc _) ⟨w1.heap.size,0,none⟩ 1 1 [.string c] rfl rfl ?c1 ?c2 (by decide) ?c3 ?c4 ?c5 _ rfl ?_)
      case c1 => exact cell_one_new _ _ _
      case c2 => simp [Value.oneCell']
      case c3 => unfold maxLen;omega
      case c4 => omega
      case c5 => simp;omega
      intro g c2 w2 hown1 hgrow hat hltg
      have HOK2:Hid (∀ x ∈ o ++ [c],nameOk x = true):=Lib.hid (fun x hx => (List.mem_append.1 hx).elim (HOK.out x) (fun h => by rw [List.mem_singleton.1 h];exact HNO.out))
      have HB2:=Lib.hid ((hb.alloc (by omega) _).grown hgrow (by simp;omega) (fun x hx => (hown.lt x hx).1))
      have HOW:Hid (w2.ownsRow w.heap.size 9 1 (.slice (some ⟨g,0,none⟩) (o.length + 1) c2) (o ++ [c]).length ((o ++ [c]).map Value.string)):=Lib.hid (by rw [List.length_append,List.map_append];exact hown1)
      have HNX2:=HNX
      rw [HO2.out] at HNX2
      clear hown1 hgrow hat hltg hown hb
      go_wp2
      go_roundw
      case rel => exact ⟨k + 1,o ++ [c],ByteArray.empty,by omega,by go_num,rfl,by simp,by simp;omega,HOK2.out,HNX2.out,HOW.out,HB2.out⟩
      case measure => simp [intOf];omega
    ·have d2:decide ((k:Int) < s.size) = false:=decide_eq_false (by omega)
     clear hsl hsep
     go_wp2_with fail
     refine HNM.out.mono ?_
     rintro e w1 ⟨rfl,hw1⟩
     subst hw1
     cases hno:nameOk c with
     | false =>
      have HNO:=Lib.hid hno
      clear hno
      go_wp2
      go_ret2
      exact nmAns_no ⟨c,HMEM.out,HNO.out⟩ hb
     | true =>
      have HNO:=Lib.hid hno
      clear hno
      go_wp2_with (at_builtin;refine wpList_append_lies _ rfl (.tmp 33) (.tmp 35) 84 rfl w.heap.size 9 i0 (.string ByteArray.empty) 1 16 Tryz.underlying84 hi hz0 hz1 hz2 rfl (by decide) _ o.length _ rfl (hown.alloc _) ⟨w1.heap.size,0,none⟩ 1 1 [.string c] rfl rfl ?c1 ?c2 (by decide) ?c3 ?c4 ?c5 _ rfl ?_)
      case c1 => exact cell_one_new _ _ _
      case c2 => simp [Value.oneCell']
      case c3 => unfold maxLen;omega
      case c4 => omega
      case c5 => simp;omega
      intro g c2 w2 hown1 hgrow hat hltg
      have HOK2:Hid (∀ x ∈ o ++ [c],nameOk x = true):=Lib.hid (fun x hx => (List.mem_append.1 hx).elim (HOK.out x) (fun h => by rw [List.mem_singleton.1 h];exact HNO.out))
      have HB2:=Lib.hid ((hb.alloc (by omega) _).grown hgrow (by simp;omega) (fun x hx => (hown.lt x hx).1))
      have HOW:Hid (w2.ownsRow w.heap.size 9 1 (.slice (some ⟨g,0,none⟩) (o.length + 1) c2) (o ++ [c]).length ((o ++ [c]).map Value.string)):=Lib.hid (by rw [List.length_append,List.map_append];exact hown1)
      have HNX2:=HNX
      rw [HO2.out] at HNX2
      clear hown1 hgrow hat hltg hown hb
      go_wp2
      go_roundw
      case rel => exact ⟨k + 1,o ++ [c],ByteArray.empty,by omega,by go_num,rfl,by simp,by simp;omega,HOK2.out,HNX2.out,HOW.out,HB2.out⟩
      case measure => simp [intOf];omega
  ·have d1:decide (((s.size + 1:Nat):Int) ≤ s.size) = false:=decide_eq_false (by omega)
   have e:=hf.out
   subst e
   have HOW:=Lib.hid hown
   have HB:=Lib.hid hb
   clear hf hown hb
   go_wp2
   go_ret2
   exact nmAns_yes HOK.out (StrRow.of_own (B:=w.heap.size) (e:=9) HOW.out) HB.out
end Go.Proofs.YtbmiiiccnoiffaaGreatDoor
