/- A part of this claim. -/
import Derived.Test.YtijhemdnajlfnaaGreatDoorR26
import Derived.Test.YtijhemdnajlfnaaGreatDoorR27
namespace Go.Proofs.YtijhemdnajlfnaaGreatDoor
open Tryz
set_option maxHeartbeats 64000000
set_option maxRecDepth 100000
section
open Go.RowKit
def unId (s:ByteArray):List UInt8:=(eu s.data.toList).getD zid
def iL (s:ByteArray):Bool:=(eu s.data.toList).isSome
def zS (s:ByteArray) (w:World) (e:Ending) (w':World):Prop:=e = .returned (.tuple #[.agg (idC (unId s)).toArray,.bool (iL s)]) ∧ Below w.heap.size w w'
theorem tO (s:ByteArray):(unId s).length = 32:=by
 unfold unId eu
 split
 ·simp
 exact dZ
theorem Bu {s:ByteArray} {w w':World} (h:eu s.data.toList = none) (hb:Below w.heap.size w w'):zS s w (.returned (.tuple #[.agg (idC zid).toArray,.bool false])) w':=⟨by unfold unId iL;rw [h];rfl,hb⟩
theorem Bt {s:ByteArray} (h:s.size ≠ 64):eu s.data.toList = none:=by
 unfold eu
 rw [if_neg (fun x => h (by have:=x.1;simpa using this))]
theorem H8 {s:ByteArray} {i:Nat} (h:i < s.size) (hd:digI s[i] = -1):eu s.data.toList = none:=by
 unfold eu
 rw [if_neg]
 rintro ⟨_,h2⟩
 rw [List.all_eq_true] at h2
 have h3:=h2 s[i] (List.mem_iff_getElem.2 ⟨i,by simpa using h,rfl⟩)
 unfold digI at hd
 cases e:jf s[i] with
 | none => rw [e] at h3;cases h3
 | some n =>
  rw [e] at hd
  have h2:(n:Int) = -1:=hd
  omega
def unB (s:ByteArray) (i:Nat):UInt8:=UInt8.ofNat (16 * digV s.data.toList (2 * i) + digV s.data.toList (2 * i + 1))
theorem Ea {s:ByteArray} (h:s.size = 64) (hd:∀ (i:Nat) (hi:i < s.size),digI s[i] ≠ -1):eu s.data.toList = some ((List.range 32).map (unB s)):=by
 unfold eu
 rw [if_pos]
 ·rfl
 refine ⟨by simpa using h,List.all_eq_true.2 fun x hx => ?_⟩
 obtain ⟨i,hi,rfl⟩:=List.mem_iff_getElem.1 hx
 have hi':i < s.size:=by simpa using hi
 have:=hd i hi'
 unfold digI at this
 cases e:jf s[i] with
 | none => rw [e] at this;exact absurd rfl this
 | some n => exact (congrArg Option.isSome e)
theorem GY {s:ByteArray} {i n:Nat} (h:i < s.size) (hd:digI s[i] = (n:Int)):digV s.data.toList i = n:=by
 have e1:s.data.toList.getD i 0 = s[i]:=by
  rw [List.getD_eq_getElem?_getD,List.getElem?_eq_getElem (by simpa using h)];rfl
 unfold digV
 rw [e1]
 unfold digI at hd
 cases e:jf s[i] with
 | none =>
  rw [e] at hd
  have h2:(-1:Int) = n:=hd
  omega
 | some m =>
  rw [e] at hd
  have h2:(m:Int) = n:=hd
  show m = n
  omega
theorem wS (b:UInt8):digI b = -1 ∨ ∃ n:Nat,n < 16 ∧ digI b = (n:Int):=by
 unfold digI
 cases e:jf b with
 | none => exact .inl rfl
 | some n =>
  refine .inr ⟨n,?_,rfl⟩
  unfold jf at e
  split at e
  ·cases e;omega
  split at e
  ·cases e;omega
  cases e
def unHb (s:ByteArray) (i j:Nat):UInt8:=if 2 * j + 1 < i then unB s j else if 2 * j < i then UInt8.ofNat (digV s.data.toList (2 * j)) else 0
def unH (s:ByteArray) (i j:Nat):Value:=.int .u8 ((unHb s i j).toNat:Int)
theorem Kv (s:ByteArray) (j:Nat) (c:UInt8) (h:c = UInt8.ofNat (digV s.data.toList (2 * j))):upd (unH s (2 * j)) j (.int .u8 (c.toNat:Int)) = unH s (2 * j + 1):=by
 funext q
 unfold upd unH unHb
 by_cases e:q = j
 ·rw [if_pos e,e,if_neg (by omega),if_pos (by omega),h]
 rw [if_neg e]
 by_cases h1:2 * q + 1 < 2 * j
 ·rw [if_pos h1,if_pos (by omega)]
 rw [if_neg h1,if_neg (show ¬ 2 * q < 2 * j by omega),if_neg (show ¬ 2 * q + 1 < 2 * j + 1 by omega),if_neg (show ¬ 2 * q < 2 * j + 1 by omega)]
theorem Nk (s:ByteArray) (j:Nat):upd (unH s (2 * j + 1)) j (.int .u8 ((unB s j).toNat:Int)) = unH s (2 * j + 1 + 1):=by
 funext q
 unfold upd unH unHb
 by_cases e:q = j
 ·rw [if_pos e,e,if_pos (by omega)]
 rw [if_neg e]
 by_cases h1:2 * q + 1 < 2 * j + 1
 ·rw [if_pos h1,if_pos (by omega)]
 rw [if_neg h1,if_neg (show ¬ 2 * q < 2 * j + 1 by omega),if_neg (show ¬ 2 * q + 1 < 2 * j + 1 + 1 by omega),if_neg (show ¬ 2 * q < 2 * j + 1 + 1 by omega)]
theorem Nl (s:ByteArray):(List.range 32).map (unH s 64) = idC ((List.range 32).map (unB s)):=by
 unfold idC
 rw [List.map_map]
 refine List.map_congr_left fun i hi => ?_
 have:=List.mem_range.1 hi
 unfold unH unHb
 rw [if_pos (by omega)];rfl
theorem Eo (s:ByteArray) (w:World):Calls prog 42 #[.string s] w (zS s w):=by
 obtain ⟨hizz,hizb⟩:=Db
 have hzl:(idC zid).length = 32:=by rw [aD,dZ]
 have HZO:=ah (bX zid)
 obtain ⟨uz,huz⟩:∃ uz,idC zid = uz:=⟨_,rfl⟩
 obtain ⟨W,hW⟩:∃ W,(w.alloc (.cells uz.toArray 24)).alloc (.cells uz.toArray 24) = W:=⟨_,rfl⟩
 have hb1:Below w.heap.size w (w.alloc (.cells uz.toArray 24)):=bal
 have hbW:Below w.heap.size w W:=by rw [← hW];exact hb1.alloc (by simp) _
 have HBR:Hid (BoxL W w.heap.size 24 uz):=ah (by rw [← hW];exact (BoxL.new w 24 uz).below bal)
 have HBI:Hid (BoxL W (w.heap.size + 1) 24 uz):=ah (by
  rw [← hW]
  have:=BoxL.new (w.alloc (.cells uz.toArray 24)) 24 uz
  rwa [World.size_alloc] at this)
 have HA0:Hid (Arr W (w.heap.size + 1) 32 (unH s 0)):=ah (by
  have h1:=HBI.out
  rw [← huz] at h1
  refine ⟨fun k hk => ?_,fun k hk => ?_⟩
  ·have:=h1.range k (.int .u8 0) (by unfold idC zid;rw [List.getElem?_map,List.getElem?_replicate,if_pos hk];rfl)
   rw [Nat.zero_add] at this
   rw [this];unfold unH unHb;rw [if_neg (by omega),if_neg (by omega)];rfl
  have:=(h1.there k (by rw [hzl];exact hk)).2
  rwa [Nat.zero_add] at this)
 rw [huz] at hizz hizb hzl HZO
 have HUZ:=ah huz
 have HW:=ah hW
 have HBW:=ah hbW
 have HWS:Hid (W.heap.size = w.heap.size + 2):=ah (by rw [← hW];simp)
 have h32i:(prog.info? 24).map (·.size) = some 32:=by kernel_rfl
 have h32z:(prog.info? 24).map (·.size) = some uz.length:=by rw [hzl];exact h32i
 clear hW hbW hb1 huz
 by_cases h64:s.size = 64
 ·have d0:((s.size:Int) == 64) = true:=beq_iff_eq.2 (by omega)
  go_enter func42,ntmps42
  go_upto_region 4 with fail
  rw [HW.out]
  go_wp2_with fail
  go_loopw [5,6] (fun i _ wr => ∃ k:Nat,i = .int .i64 (k:Int) ∧ k ≤ 64 ∧ Hid (Arr wr (w.heap.size + 1) 32 (unH s k)) ∧ Hid (BoxL wr w.heap.size 24 uz) ∧ Hid (∀ (i:Nat) (hi:i < s.size),i < k → digI s[i] ≠ -1) ∧ Hid (Below w.heap.size w wr)) (fun i _ _ => (64 - intOf i).toNat)
  case atStart => exact ⟨0,rfl,by omega,HA0,HBR,ah (fun i _ h => by omega),HBW⟩
  obtain ⟨wo,rfl⟩:∃ wo:World,wo = wr:=⟨_,rfl⟩
  obtain ⟨k,rfl,hk,HA,HR,HD,HB⟩:=hrel
  by_cases hlt:k < 64
  ·have d1:decide ((k:Int) < 64) = true:=decide_eq_true (by omega)
   obtain ⟨b1,hb1⟩:∃ b,s[k]'(by omega) = b:=⟨_,rfl⟩
   have hi1:∀ w,(Instr.index 9 (.string s) (.int .i64 (k:Int))).run prog w = .ok (.int .u8 ((b1.toNat:Nat):Int)) w:=fun w => by
    have:=dB s w k (by omega)
    rw [← hb1]
    have e:(blk s k) = s[k]'(by omega):=by unfold blk;rw [List.getD_eq_getElem?_getD,List.getElem?_eq_getElem (by simp;omega)];rfl
    rw [e,← lS] at this
    exact this
   have HV1:Hid (∀ n:Nat,digI b1 = (n:Int) → digV s.data.toList k = n):=ah (fun n h => GY (by omega) (by rw [hb1];exact h))
   have HNO:Hid (digI b1 = -1 → eu s.data.toList = none):=ah (fun h => H8 (i:=k) (by omega) (by rw [hb1];exact h))
   have HD2:Hid (digI b1 ≠ -1 → ∀ (i:Nat) (hi:i < s.size),i < k + 1 → digI s[i] ≠ -1):=ah (fun h1 i hi hik => by
    by_cases e1:i = k
    ·subst e1;rw [hb1];exact h1
    exact HD.out i hi (by omega))
   have HDP:Hid (∀ i,i < k → digV s.data.toList i < 16):=ah (fun i hi => by
    have h:=HD.out i (by omega) hi
    rcases wS (s[i]'(by omega)) with h2 | ⟨n,hn,h2⟩
    ·exact absurd h2 h
    rw [GY (by omega) h2];exact hn)
   have HDG:=ah (EF b1 wo)
   clear hb1
   go_wp2_with fail
   refine HDG.out.mono ?_
   rintro e w2 ⟨rfl,rfl⟩
   rcases wS b1 with hA1 | ⟨n1,hn1,hA1⟩
   ·have HN:=ah (HNO.out hA1)
    rw [hA1]
    have hT:=HR.out.there
    rw [hzl] at hT
    have HT:=ah hT
    have hr2:=(HR.out.set (us:=uz) rfl).range
    have HE:Hid (zS s w (.returned (.tuple #[.agg uz.toArray,.bool false])) (w2.setCells w.heap.size 0 uz)):=ah (by
     rw [← HUZ.out]
     exact Bu HN.out (below_setCells (B:=w.heap.size) w.heap.size (Nat.le_refl _) _ 0 _ HB.out))
    clear hT
    go_wp2_with (refine aj rfl 24 _ _ rfl w.heap.size 0 uz rfl rfl 32 hzl HT.out h32i HZO.out ?_)
    exact aB rfl w.heap.size 0 rfl uz _ hr2 underlying24 rfl h32z rfl _ rfl HE.out
   have HD3:=ah (HD2.out (by rw [hA1];omega))
   have c1:decide ((n1:Int) < 0) = false:=decide_eq_false (by omega)
   have hv1:=HV1.out n1 hA1
   rw [hA1]
   clear hA1
   obtain ⟨j,hj⟩:∃ j,k / 2 = j:=⟨_,rfl⟩
   have hj32:j < 32:=by omega
   have hjz:(j:Int) < 32:=by omega
   have e1:(k:Int) / 2 = (j:Int):=by omega
   have f1:=HA.out.cell j hj32
   have f2:=HA.out.free j hj32
   obtain ⟨o,ho⟩:∃ o,unHb s k j = o:=⟨_,rfl⟩
   have hof:unH s k j = .int .u8 (o.toNat:Int):=by unfold unH;rw [ho]
   rw [hof] at f1
   have HNX:Hid (∃ c:UInt8,(c.toNat:Int) = (o.toNat:Int) * 16 + (n1:Int) ∧ o.toNat < 16 ∧ upd (unH s k) j (.int .u8 (c.toNat:Int)) = unH s (k + 1)):=ah (by
    rcases (show k = 2 * j ∨ k = 2 * j + 1 by omega) with e | e
    ·subst e
     have h0:o = 0:=by rw [← ho];unfold unHb;rw [if_neg (by omega),if_neg (by omega)]
     subst h0
     refine ⟨UInt8.ofNat n1,?_,by decide,Kv s j _ (by rw [hv1])⟩
     rw [UInt8.toNat_ofNat']
     show ((n1 % 256:Nat):Int) = 0 * 16 + (n1:Int)
     omega
    subst e
    have hd:=HDP.out (2 * j) (by omega)
    have h0:o.toNat = digV s.data.toList (2 * j):=by
     rw [← ho];unfold unHb;rw [if_neg (by omega),if_pos (by omega),UInt8.toNat_ofNat'];omega
    refine ⟨unB s j,?_,by omega,Nk s j⟩
    unfold unB
    rw [hv1,UInt8.toNat_ofNat',h0]
    omega)
   obtain ⟨c,hcv,ho16,hup⟩:=HNX.out
   have hcl:=c.toNat_lt
   have wm:IntKind.u8.wrap ((o.toNat:Int) * 16) = (o.toNat:Int) * 16:=by rw [wrap_u8'];omega
   have wn1:IntKind.u8.wrap (n1:Int) = (n1:Int):=by rw [wrap_u8'];omega
   have wa:IntKind.u8.wrap ((o.toNat:Int) * 16 + (n1:Int)) = (c.toNat:Int):=by rw [wrap_u8',← hcv];omega
   have HAN:Hid (Arr (w2.setCell ⟨w.heap.size + 1,j,none⟩ (.int .u8 (c.toNat:Int))) (w.heap.size + 1) 32 (unH s (k + 1))):=ah (by rw [← hup];exact HA.out.set j hj32 _)
   have HRN:Hid (BoxL (w2.setCell ⟨w.heap.size + 1,j,none⟩ (.int .u8 (c.toNat:Int))) w.heap.size 24 uz):=ah (HR.out.other (g:=w.heap.size + 1) (o:=j) (us:=[.int .u8 (c.toNat:Int)]) (by omega))
   have HBN:Hid (Below w.heap.size w (w2.setCell ⟨w.heap.size + 1,j,none⟩ (.int .u8 (c.toNat:Int)))):=ah (below_setCells (B:=w.heap.size) (w.heap.size + 1) (by omega) [.int .u8 (c.toNat:Int)] j _ HB.out)
   have hon:(0:Int) ≤ (o.toNat:Int):=by omega
   clear hj ho hof hv1 hup hcv HNX
   go_wp2_with fail
   go_roundw
   case rel => exact ⟨k + 1,by go_num,by omega,HAN,HRN,HD3,HBN⟩
   case measure => simp [intOf];omega
  obtain rfl:k = 64:=by omega
  have d1:decide ((64:Int) < 64) = false:=rfl
  have HG:=Ea h64 (fun i hi => HD.out i hi (by omega))
  have hra:wo.rangeAt (w.heap.size + 1) 0 (idC ((List.range 32).map (unB s))):=by rw [← Nl];exact HA.out.range
  have hul:(idC ((List.range 32).map (unB s))).length = 32:=by rw [aD];simp
  have HUO:=ah (bX ((List.range 32).map (unB s)))
  have HEE:Hid (unId s = (List.range 32).map (unB s) ∧ iL s = true):=ah (by unfold unId iL;rw [HG];exact ⟨rfl,rfl⟩)
  obtain ⟨us,hus⟩:∃ us,idC ((List.range 32).map (unB s)) = us:=⟨_,rfl⟩
  rw [hus] at hra hul HUO
  have h32u:(prog.info? 24).map (·.size) = some us.length:=by rw [hul];exact h32i
  have hT:=HR.out.there
  rw [hzl] at hT
  have HT:=ah hT
  have hr2:=(HR.out.set (us:=us) (by rw [hul,hzl])).range
  have HE:Hid (zS s w (.returned (.tuple #[.agg us.toArray,.bool true])) (wo.setCells w.heap.size 0 us)):=ah
   ⟨by rw [HEE.out.1,HEE.out.2,hus],below_setCells (B:=w.heap.size) w.heap.size (Nat.le_refl _) _ 0 _ HB.out⟩
  clear hT HG hus
  go_wp2_with (first
   | (refine wpList_load_mid rfl 24 _ rfl (w.heap.size + 1) 0 rfl us _ hra underlying24 rfl h32u ?_)
   | (refine aj rfl 24 _ _ rfl w.heap.size 0 us rfl rfl 32 hul HT.out h32i HUO.out ?_))
  exact aB rfl w.heap.size 0 rfl us _ hr2 underlying24 rfl h32u rfl _ rfl HE.out
 have d0:((s.size:Int) == 64) = false:=beq_eq_false_iff_ne.2 (by omega)
 have HNO:=ah (Bt h64)
 obtain ⟨W1,hW1⟩:∃ W1,w.alloc (.cells uz.toArray 24) = W1:=⟨_,rfl⟩
 have hbx:BoxL W1 w.heap.size 24 uz:=by rw [← hW1];exact BoxL.new w 24 uz
 have hb1:Below w.heap.size w W1:=by rw [← hW1];exact bal
 have hT:=hbx.there
 rw [hzl] at hT
 have HT:=ah hT
 have hr2:=(hbx.set (us:=uz) rfl).range
 have HE:Hid (zS s w (.returned (.tuple #[.agg uz.toArray,.bool false])) (W1.setCells w.heap.size 0 uz)):=ah (by
  rw [← HUZ.out]
  exact Bu HNO.out (below_setCells (B:=w.heap.size) w.heap.size (Nat.le_refl _) _ 0 _ hb1))
 have HW1:=ah hW1
 clear hT h64 hW1 hbx hb1
 go_enter func42,ntmps42
 go_upto_region 2 with fail
 rw [HW1.out]
 go_wp2_with (refine aj rfl 24 _ _ rfl w.heap.size 0 uz rfl rfl 32 hzl HT.out h32i HZO.out ?_)
 exact aB rfl w.heap.size 0 rfl uz _ hr2 underlying24 rfl h32z rfl _ rfl HE.out
end
end Go.Proofs.YtijhemdnajlfnaaGreatDoor
