/- A part of this claim. -/
import Derived.Test.YtijhemdnajlfnaaGreatDoorR18
import Derived.Test.YtijhemdnajlfnaaGreatDoorR27
namespace Go.Proofs.YtijhemdnajlfnaaGreatDoor
open Tryz
set_option maxHeartbeats 64000000
set_option maxRecDepth 100000
section
open Go.RowKit Go.Shelf
theorem nV (s:ByteArray) (w:World):Calls prog 76 #[.string s] w fun e w' => e = .returned (.pointer (some ⟨w.heap.size,0,none⟩)) ∧ w' = w.alloc (.cells #[.string s,.int .i64 0,.int .i64 0] 245):=by
 go_enter func76,ntmps76
 go_wp2
 go_ret
 exact ⟨rfl,by first | rfl | trivial⟩
theorem jK (s:ByteArray) (w:World) (t:TypeId):Arr (w.alloc (.cells #[.string s,.int .i64 0,.int .i64 0] t)) w.heap.size 3 (Rd.mk s 0 0).c :=
 (Arr.ofList w [.string s,.int .i64 0,.int .i64 0] t).congr fun k hk => by
  have hk3:k < 3:=hk
  rcases (show k = 0 ∨ k = 1 ∨ k = 2 by omega) with rfl | rfl | rfl <;> rfl
theorem uO {s:ByteArray} (h:s.size ≤ 1000000):(Rd.mk s 0 0).fine:=⟨Nat.zero_le _,h,by show 0 ≤ 100;omega⟩
def vH:List UInt8:=[32,98,116,99]
def C8 (s:List UInt8):Int:=Lib.index vH (s.take 1)
theorem vK:∀ c:Fin 256,(C8 [UInt8.ofNat c.val] = (iq (UInt8.ofNat c.val):Int)) ∨ (iq (UInt8.ofNat c.val) = 0 ∧ C8 [UInt8.ofNat c.val] = -1):=by decide +kernel
theorem Fw (c:UInt8) (l:List UInt8):(C8 (c :: l) = (iq c:Int)) ∨ (iq c = 0 ∧ C8 (c :: l) = -1):=by
 have h:=vK ⟨c.toNat,c.toNat_lt⟩
 have e:UInt8.ofNat c.toNat = c:=by simp
 simp only [e] at h
 exact h
def fr1 (s:ByteArray):Rd:=((Rd.mk s 0 0).raw 1).1
def frT (s:ByteArray):Rd × ByteArray:=(fr1 s).text 4096
def frK (s:ByteArray):Int:=Lib.index vH ((Rd.mk s 0 0).raw 1).2.data.toList
theorem OY {s:ByteArray} (h:s.data.toList = []):(frT s).1.fin ≠ 0 ∧ aQ s.data.toList = none:=by
 have h0:s.size = 0:=by have:=congrArg List.length h;simpa using this
 have e:fr1 s = ⟨s,0,3⟩:=by
  unfold fr1 Rd.raw
  rw [if_neg (by simp),if_pos (by show s.size - 0 < 1;omega)]
 constructor
 ·unfold frT
  rw [e]
  unfold Rd.text
  rw [if_pos (by simp)]
  unfold Rd.fin
  rw [if_pos (by simp)]
  simp
 rw [h];rfl
theorem NV {s:ByteArray} {c:UInt8} {l:List UInt8} (h:s.data.toList = c :: l):Behind 1 (fr1 s) (Rd.mk (ofB l) 0 0) ∧ frK s = C8 (c :: l):=by
 have h0:s.size = l.length + 1:=by have:=congrArg List.length h;simpa using this
 have e:(Rd.mk s 0 0).raw 1 = (⟨s,1,0⟩,s.extract 0 (0 + 1)):=by
  unfold Rd.raw
  rw [if_neg (by simp),if_neg (by show ¬ s.size - 0 < 1;omega)]
 unfold fr1 frK
 rw [e]
 refine ⟨⟨by show (ofB l).data.toList = s.data.toList.drop 1;rw [aW,h];rfl,rfl,rfl,by show 1 ≤ s.size;omega⟩,?_⟩
 show Lib.index vH (s.extract 0 (0 + 1)).data.toList = _
 rw [iT,h];rfl
theorem IW (s:ByteArray):aQ s.data.toList = if (frT s).1.fin ≠ 0 then none else if aC ⟨frK s,(frT s).2⟩ = true then some ⟨frK s,(frT s).2⟩ else none:=by
 cases h:s.data.toList with
 | nil =>
  obtain ⟨h1,h2⟩:=OY h
  rw [h] at h2
  rw [if_pos h1,h2]
 | cons c l =>
  obtain ⟨h1,h2⟩:=NV h
  obtain ⟨h3,h4⟩:=h1.text 4096
  have h5:=h3.fin
  unfold frT
  rw [h5,h4,h2]
  unfold aQ
  dsimp only
  rcases Fw c l with hk | ⟨hk,hk2⟩
  ·rw [hk]
   by_cases h0:iq c = 0
   ·rw [if_pos h0]
    by_cases h6:((Rd.mk (ofB l) 0 0).text 4096).1.fin ≠ 0
    ·rw [if_pos h6]
    rw [if_neg h6,if_neg]
    rw [h0]
    unfold aC
    simp
   rw [if_neg h0]
  rw [if_pos hk,hk2]
  by_cases h6:((Rd.mk (ofB l) 0 0).text 4096).1.fin ≠ 0
  ·rw [if_pos h6]
  rw [if_neg h6,if_neg]
  unfold aC
  simp
def Pm (s:ByteArray) (w:World) (e:Ending) (w':World):Prop:=Below w.heap.size w w' ∧
 ((∃ o,aQ s.data.toList = some o ∧ e = .returned (.tuple #[.agg (obC o).toArray,.int .i64 0])) ∨ (aQ s.data.toList = none ∧ e = .returned (.tuple #[.agg (obC ob0).toArray,.int .i64 2])))
theorem rX (s:ByteArray) (w:World) (hs:s.size ≤ 1000000) (hm:mY w):Calls prog 88 #[.string s] w (Pm s w):=by
 have HRO:=ah (IW s)
 obtain ⟨W,hW⟩:∃ W,w.alloc (.cells #[.int .i64 0,.string ⟨#[]⟩] 40) = W:=⟨_,rfl⟩
 have hbW:Below w.heap.size w W:=by rw [← hW];exact bal
 have HBX:Hid (BoxL W w.heap.size 40 [.int .i64 0,.string ⟨#[]⟩]):=ah (by rw [← hW];exact BoxL.new w 40 [.int .i64 0,.string ⟨#[]⟩])
 have hWs:W.heap.size = w.heap.size + 1:=by rw [← hW];simp
 have HNR:=ah (nV s W)
 have HMX:=ah hm
 have HW:=ah hW
 have HBW:=ah hbW
 have HWS:=ah hWs
 clear hW hbW hm
 go_enter func88,ntmps88
 go_upto_region 1 with fail
 rw [HW.out]
 go_wp2_with fail
 refine HNR.out.mono ?_
 rintro e w1 ⟨rfl,rfl⟩
 obtain ⟨W1,hW1⟩:∃ W1,W.alloc (.cells #[.string s,.int .i64 0,.int .i64 0] 245) = W1:=⟨_,rfl⟩
 have ha1:Arr W1 (w.heap.size + 1) 3 (Rd.mk s 0 0).c:=by rw [← hW1,← hWs];exact jK s W _
 have hb1:Below W.heap.size W W1:=by rw [← hW1];exact bal
 rw [hW1]
 have HR1:=ah (l5 (w.heap.size + 1) (Rd.mk s 0 0) 1 W1 ha1 (uO hs) (by omega))
 have HF1:=ah (Rd.jE (Rd.mk s 0 0) 1 (uO hs))
 have HB1:=bth HBW hb1
 have HBX1:=ah (HBX.out.below hb1)
 clear hW1 ha1 hb1
 go_upto_region 2 with fail
 go_wp2_with fail
 refine HR1.out.mono ?_
 rintro e w2 ⟨rfl,ha2,hg2⟩
 have HB2:Hid (Below w.heap.size w w2):=ah (HB1.out.grown hg2 HB1.out.size (fun k e => by have:=Option.some.inj e;omega))
 have HBX2:Hid (BoxL w2 w.heap.size 40 [.int .i64 0,.string ⟨#[]⟩]):=ah (HBX1.out.kept hg2 (fun e => by have:=Option.some.inj e;omega))
 obtain ⟨m,hmx⟩:=HMX.out.below HB2.out HMX.out.lt
 have hrs:((Rd.mk s 0 0).raw 1).2.size ≤ 1:=Rd.jD _ _
 have HIX:=ah (Any.strings_Index (ρ:=Tryz.lays146_ren) { Tryz.lays146 with } ⟨#[32,98,116,99]⟩ ((Rd.mk s 0 0).raw 1).2 m w2 (by show 4 < 4294967281;omega) hmx)
 have HK:Hid (Lib.index (⟨#[32,98,116,99]⟩:ByteArray).data.toList ((Rd.mk s 0 0).raw 1).2.data.toList = frK s):=ah rfl
 have HT2:Hid (Calls prog 143 #[.pointer (some ⟨w.heap.size + 1,0,none⟩),.int .i64 4096] w2 fun e w' => e = .returned (.string (frT s).2) ∧ Arr w' (w.heap.size + 1) 3 (frT s).1.c ∧ w2.grownBy w' (some (w.heap.size + 1))):=ah (kC (w.heap.size + 1) _ 4096 w2 ha2 HF1.out (by omega))
 have HFT:Hid ((frT s).1.fine):=ah (Rd.dK _ 4096 HF1.out)
 obtain ⟨kk,hkk⟩:∃ kk,frK s = kk:=⟨_,rfl⟩
 obtain ⟨T,hT⟩:∃ T,frT s = T:=⟨_,rfl⟩
 rw [hT] at HT2 HFT
 rw [hkk] at HK
 have HRO2:Hid (aQ s.data.toList = if T.1.fin ≠ 0 then none else if aC ⟨kk,T.2⟩ = true then some ⟨kk,T.2⟩ else none):=ah (by rw [← hT,← hkk];exact HRO.out)
 obtain ⟨R,b⟩:=T
 dsimp only at HT2 HFT HRO2
 obtain ⟨rw2,hrw2⟩:∃ r,((Rd.mk s 0 0).raw 1).2 = r:=⟨_,rfl⟩
 rw [hrw2] at HIX HK hrs ⊢
 clear hg2 ha2 hmx hkk hT hrw2
 go_wp2_with fail
 refine HIX.out.mono ?_
 rintro e w3 ⟨rfl,rfl⟩
 rw [HK.out]
 go_wp2_with fail
 refine HT2.out.mono ?_
 rintro e w4 ⟨rfl,ha4,hg4⟩
 have HB4:Hid (Below w.heap.size w w4):=ah (HB2.out.grown hg4 HB2.out.size (fun k e => by have:=Option.some.inj e;omega))
 have HBX4:Hid (BoxL w4 w.heap.size 40 [.int .i64 0,.string ⟨#[]⟩]):=ah (HBX2.out.kept hg4 (fun e => by have:=Option.some.inj e;omega))
 obtain ⟨W5,hW5⟩:∃ W5,w4.alloc (.cells #[.int .i64 kk,.string b] 40) = W5:=⟨_,rfl⟩
 have hb5:Below w4.heap.size w4 W5:=by rw [← hW5];exact bal
 have HO5:Hid (BoxL W5 w4.heap.size 40 [.int .i64 kk,.string b]):=ah (by rw [← hW5];exact BoxL.new _ _ _)
 have HA5:=ha4.below hb5 (ha4.lt (by omega))
 have HE5:=ah (kF (w.heap.size + 1) R W5 HA5 HFT.out)
 have HB5:=bth HB4 hb5
 have HBX5:=ah (HBX4.out.below hb5)
 have HW5:=ah hW5
 have HWS4:Hid (w.heap.size < w4.heap.size):=ah HBX4.out.lt
 clear hg4 ha4 hW5 hb5 HA5
 go_upto_region 3 with fail
 rw [HW5.out]
 go_wp2_with fail
 refine HE5.out.mono ?_
 rintro e w6 ⟨rfl,hb6⟩
 have HB6:=bth HB5 hb6
 have HBX6:=ah (HBX5.out.below hb6)
 have HO6:=ah (HO5.out.below hb6)
 have h2i:(prog.info? 40).map (·.size) = some [Value.int .i64 kk,.string b].length:=by kernel_rfl
 have h2n:(prog.info? 40).map (·.size) = some 2:=by kernel_rfl
 have hr6:=HO6.out.range
 have HRT:=ah (vg kk b w6)
 clear hb6
 have HOZ:Hid (∀ v ∈ [Value.int .i64 0,.string ⟨#[]⟩],v.oneCell' = true):=ah (fun v hv => by
  rcases List.mem_cons.1 hv with rfl | hv
  ·rfl
  rw [List.mem_singleton.1 hv];rfl)
 have HOK2:Hid (∀ v ∈ [Value.int .i64 kk,.string b],v.oneCell' = true):=ah (fun v hv => by
  rcases List.mem_cons.1 hv with rfl | hv
  ·rfl
  rw [List.mem_singleton.1 hv];rfl)
 by_cases hfin:R.fin = 0
 ·have hf1:((R.fin:Int) == 0) = true:=beq_iff_eq.2 (by omega)
  have hf0:(R.fin:Int) = 0:=by omega
  cases hrt:aC ⟨kk,b⟩ with
  | true =>
   rw [hrt] at HRT
   have HOK:Hid (aQ s.data.toList = some ⟨kk,b⟩):=ah (by rw [HRO2.out,if_neg (by omega),if_pos hrt])
   clear hrt
   go_wp2_with (refine aG rfl 40 _ rfl w4.heap.size 0 rfl [.int .i64 kk,.string b] _ hr6 underlying40 rfl h2i ?_)
   refine HRT.out.mono ?_
   rintro e w7 ⟨rfl,hb7⟩
   have HB7:=bth HB6 hb7
   have hx7:=HBX6.out.below hb7
   have hr7:=(HO6.out.below hb7).range
   have HT7:=ah hx7.there
   have hr8:=(hx7.set (us:=[.int .i64 kk,.string b]) rfl).range
   have HBF:=ah (below_setCells (B:=w.heap.size) w.heap.size (Nat.le_refl _) [.int .i64 kk,.string b] 0 _ HB7.out)
   clear hb7 hr6 hx7
   go_wp2_with (first
    | (refine wpList_load_mid rfl 40 _ rfl w4.heap.size 0 rfl [.int .i64 kk,.string b] _ hr7 underlying40 rfl h2i ?_)
    | (refine aj rfl 40 _ _ rfl w.heap.size 0 [.int .i64 kk,.string b] rfl rfl 2 rfl HT7.out h2n HOK2.out ?_))
   exact aB rfl w.heap.size 0 rfl _ _ hr8 underlying40 rfl h2i rfl _ rfl ⟨HBF.out,.inl ⟨_,HOK.out,rfl⟩⟩
  | false =>
   rw [hrt] at HRT
   have HNO:Hid (aQ s.data.toList = none):=ah (by rw [HRO2.out,if_neg (by omega),if_neg (by rw [hrt];simp)])
   clear hrt
   go_wp2_with (refine aG rfl 40 _ rfl w4.heap.size 0 rfl [.int .i64 kk,.string b] _ hr6 underlying40 rfl h2i ?_)
   refine HRT.out.mono ?_
   rintro e w7 ⟨rfl,hb7⟩
   have HB7:=bth HB6 hb7
   have hx7:=HBX6.out.below hb7
   have HT7:=ah hx7.there
   have hr8:=(hx7.set (us:=[.int .i64 0,.string ⟨#[]⟩]) rfl).range
   have HBF:=ah (below_setCells (B:=w.heap.size) w.heap.size (Nat.le_refl _) [.int .i64 0,.string ⟨#[]⟩] 0 _ HB7.out)
   clear hb7 hr6 hx7
   go_wp2_with (refine aj rfl 40 _ _ rfl w.heap.size 0 [.int .i64 0,.string ⟨#[]⟩] rfl rfl 2 rfl HT7.out h2n HOZ.out ?_)
   exact aB rfl w.heap.size 0 rfl _ _ hr8 underlying40 rfl h2i rfl _ rfl ⟨HBF.out,.inr ⟨HNO.out,rfl⟩⟩
 have hf1:((R.fin:Int) != 0) = true:=bne_iff_ne.2 (by omega)
 have HNO:Hid (aQ s.data.toList = none):=ah (by rw [HRO2.out,if_pos hfin])
 have HT7:=ah HBX6.out.there
 have hr8:=(HBX6.out.set (us:=[.int .i64 0,.string ⟨#[]⟩]) rfl).range
 have HBF:=ah (below_setCells (B:=w.heap.size) w.heap.size (Nat.le_refl _) [.int .i64 0,.string ⟨#[]⟩] 0 _ HB6.out)
 clear hr6 hfin
 go_wp2_with (refine aj rfl 40 _ _ rfl w.heap.size 0 [.int .i64 0,.string ⟨#[]⟩] rfl rfl 2 rfl HT7.out h2n HOZ.out ?_)
 exact aB rfl w.heap.size 0 rfl _ _ hr8 underlying40 rfl h2i rfl _ rfl ⟨HBF.out,.inr ⟨HNO.out,rfl⟩⟩
def OA (s:ByteArray) (w:World) (e:Ending) (w':World):Prop:=Below w.heap.size w w' ∧
 ((∃ o,aQ s.data.toList = some o ∧ e = .returned (.tuple #[.agg (obC o).toArray,.bool true])) ∨ (aQ s.data.toList = none ∧ e = .returned (.tuple #[.agg (obC ob0).toArray,.bool false])))
theorem CZ (c:UInt8):(c.toNat = 98 ∧ iq c = 1) ∨ (c.toNat = 116 ∧ iq c = 2) ∨ (c.toNat = 99 ∧ iq c = 3) ∨ (c.toNat ≠ 98 ∧ c.toNat ≠ 116 ∧ c.toNat ≠ 99 ∧ iq c = 0):=by
 unfold iq
 by_cases h1:c = 98
 ·exact .inl ⟨by rw [h1];rfl,by rw [if_pos h1]⟩
 by_cases h2:c = 116
 ·exact .inr (.inl ⟨by rw [h2];rfl,by rw [if_neg h1,if_pos h2]⟩)
 by_cases h3:c = 99
 ·exact .inr (.inr (.inl ⟨by rw [h3];rfl,by rw [if_neg h1,if_neg h2,if_pos h3]⟩))
 refine .inr (.inr (.inr ⟨fun e => h1 ?_,fun e => h2 ?_,fun e => h3 ?_,by rw [if_neg h1,if_neg h2,if_neg h3]⟩))
 all_goals exact UInt8.toNat_inj.1 e
theorem jR (s:ByteArray) (w:World) (hs:s.size ≤ 1000000):Calls prog 63 #[.string s] w (OA s w):=by
 obtain ⟨W,hW⟩:∃ W,w.alloc (.cells #[.int .i64 0,.string ⟨#[]⟩] 40) = W:=⟨_,rfl⟩
 have hbW:Below w.heap.size w W:=by rw [← hW];exact bal
 have HBX:Hid (BoxL W w.heap.size 40 [.int .i64 0,.string ⟨#[]⟩]):=ah (by rw [← hW];exact BoxL.new w 40 [.int .i64 0,.string ⟨#[]⟩])
 have hWs:W.heap.size = w.heap.size + 1:=by rw [← hW];simp
 have HW:=ah hW
 have HBW:=ah hbW
 have HWS:=ah hWs
 have h2n:(prog.info? 40).map (·.size) = some 2:=by kernel_rfl
 have h2z:(prog.info? 40).map (·.size) = some [Value.int .i64 0,.string ⟨#[]⟩].length:=by kernel_rfl
 have HOZ:Hid (∀ v ∈ [Value.int .i64 0,.string ⟨#[]⟩],v.oneCell' = true):=ah (fun v hv => by
  rcases List.mem_cons.1 hv with rfl | hv
  ·rfl
  rw [List.mem_singleton.1 hv];rfl)
 have HEND:Hid (aQ s.data.toList = none → OA s w (.returned (.tuple #[.agg (obC ob0).toArray,.bool false])) (W.setCells w.heap.size 0 [.int .i64 0,.string ⟨#[]⟩])):=ah (fun h =>
  ⟨below_setCells (B:=w.heap.size) w.heap.size (Nat.le_refl _) _ 0 _ hbW,.inr ⟨h,rfl⟩⟩)
 have HT0:=ah HBX.out.there
 have hr0:=(HBX.out.set (us:=[.int .i64 0,.string ⟨#[]⟩]) rfl).range
 clear hW hbW
 cases hl0:s.data.toList with
 | nil =>
  have h0:s.size = 0:=by have:=congrArg List.length hl0;simpa using this
  have d0:((s.size:Int) == 0) = true:=beq_iff_eq.2 (by omega)
  have HE:=ah (HEND.out (by rw [hl0];rfl))
  clear hl0
  go_enter func63,ntmps63
  go_upto_region 2 with fail
  rw [HW.out]
  go_wp2_with (refine aj rfl 40 _ _ rfl w.heap.size 0 [.int .i64 0,.string ⟨#[]⟩] rfl rfl 2 rfl HT0.out h2n HOZ.out ?_)
  exact aB rfl w.heap.size 0 rfl _ _ hr0 underlying40 rfl h2z rfl _ rfl HE.out
 | cons c l =>
  have h1:s.size = l.length + 1:=by have:=congrArg List.length hl0;simpa using this
  have d0:((s.size:Int) == 0) = false:=beq_eq_false_iff_ne.2 (by omega)
  have HSL:Hid (s.extract 1 s.size = ofB l):=ah (ba_eq (by
   rw [aW,h1,Nat.add_comm,iT,hl0];simp))
  have HIX:Hid (∀ w,(Instr.index 9 (.string s) (.int .i64 0)).run prog w = .ok (.int .u8 ((c.toNat:Nat):Int)) w):=ah (fun w => by
   have:=dB s w 0 (by omega)
   have e:blk s 0 = c:=by unfold blk;rw [hl0];rfl
   rw [e,← lS] at this
   exact this)
  have HFS:=ah (uO (s:=ofB l) (by rw [aM];omega))
  have HRO:Hid (aQ s.data.toList = if iq c = 0 then none else if ((Rd.mk (ofB l) 0 0).text 4096).1.fin ≠ 0 then none else if aC ⟨(iq c:Int),((Rd.mk (ofB l) 0 0).text 4096).2⟩ = true then some ⟨(iq c:Int),((Rd.mk (ofB l) 0 0).text 4096).2⟩ else none):=ah (by rw [hl0];rfl)
  have HFT:=ah (Rd.dK _ 4096 HFS.out)
  obtain ⟨T,hT⟩:∃ T,(Rd.mk (ofB l) 0 0).text 4096 = T:=⟨_,rfl⟩
  have HTT:=ah hT
  rw [hT] at HRO HFT
  obtain ⟨R,b⟩:=T
  dsimp only at HRO HFT
  have hsl:=HSL.out
  have hs1:(1:Int) ≤ s.size:=by omega
  have hs1n:1 ≤ s.size:=by omega
  clear hl0 hT h1
  rcases CZ c with ⟨hcv,hc1⟩ | ⟨hcv,hc2⟩ | ⟨hcv,hc3⟩ | ⟨n1,n2,n3,hc0⟩
  ·
   have HKL:Hid (iq c = 1):=ah hc1
   have b1:(((c.toNat:Nat):Int) == 98) = true:=by rw [hcv];rfl
   have b2:(((c.toNat:Nat):Int) == 116) = false:=by rw [hcv];rfl
   have b3:(((c.toNat:Nat):Int) == 99) = false:=by rw [hcv];rfl
   have hi1:∀ w,(Instr.index 9 (.string s) (.int .i64 0)).run prog w = .ok (.int .u8 98) w:=fun w => by rw [HIX.out w,hcv];rfl
   obtain ⟨W2,hW2⟩:∃ W2,W.alloc (.cells #[.int .i64 1,.string ⟨#[]⟩] 40) = W2:=⟨_,rfl⟩
   obtain ⟨W3,hW3⟩:∃ W3,W2.alloc (.cells #[.string (ofB l),.int .i64 0,.int .i64 0] 228) = W3:=⟨_,rfl⟩
   have hs2:W2.heap.size = w.heap.size + 2:=by rw [← hW2,World.size_alloc,HWS.out]
   have hb2:Below W.heap.size W W2:=by rw [← hW2];exact bal
   have hb3:Below W2.heap.size W2 W3:=by rw [← hW3];exact bal
   have HR3:Hid (BoxL W3 w.heap.size 40 [.int .i64 0,.string ⟨#[]⟩]):=ah ((HBX.out.below hb2).below hb3)
   have HO3:Hid (BoxL W3 (w.heap.size + 1) 40 [.int .i64 1,.string ⟨#[]⟩]):=ah (by
    have:=BoxL.new W 40 [.int .i64 1,.string ⟨#[]⟩]
    rw [hWs] at this
    rw [← hW2] at hb3
    rw [← hW3,← hW2]
    exact this.below bal)
   have HA3:Hid (Arr W3 (w.heap.size + 2) 3 (Rd.mk (ofB l) 0 0).c):=ah (by rw [← hs2,← hW3];exact jK (ofB l) W2 _)
   have HB3:=ah ((HBW.out.trans (hb2.mono HBW.out.size)).trans (hb3.mono (Nat.le_trans HBW.out.size hb2.size)))
   have HT3:=ah (jv (w.heap.size + 2) (Rd.mk (ofB l) 0 0) 4096 W3 HA3.out HFS.out (by omega))
   have HW2:=ah hW2
   have HW3:=ah hW3
   have HS2:=ah hs2
   have HRO2:Hid (aQ s.data.toList = if R.fin ≠ 0 then none else if aC ⟨1,b⟩ = true then some ⟨1,b⟩ else none):=ah (by rw [HRO.out,HKL.out,if_neg (by omega)];rfl)
   rw [HTT.out] at HT3
   clear hW2 hW3 hb2 hb3 hc1
   go_enter func63,ntmps63
   go_upto_region 3 with fail
   rw [HW.out]
   go_upto_region 12 with fail
   rw [HW2.out]
   go_upto_region 13 with fail
   rw [HW3.out]
   clear hs2
   go_wp2_with fail
   refine HT3.out.mono ?_
   rintro e w4 ⟨rfl,ha4,hg4⟩
   have HB4:Hid (Below w.heap.size w w4):=ah (HB3.out.grown hg4 HB3.out.size (fun k e => by have:=Option.some.inj e;omega))
   have HR4:=ah (HR3.out.kept hg4 (fun e => by have:=Option.some.inj e;omega))
   have ho4:=HO3.out.kept hg4 (fun e => by have:=Option.some.inj e;omega)
   have f1:w4.cell? ⟨w.heap.size + 1,1,none⟩ = some (.string ⟨#[]⟩):=ho4.range 1 _ rfl
   have f2:w4.frozen? ⟨w.heap.size + 1,1,none⟩ = false:=(ho4.there 1 (by show 1 < 2;omega)).2
   obtain ⟨W5,hW5⟩:∃ W5,w4.setCell ⟨w.heap.size + 1,1,none⟩ (.string b) = W5:=⟨_,rfl⟩
   have hg5:w4.grownBy W5 (some (w.heap.size + 1)):=by rw [← hW5];exact aH w4 (w.heap.size + 1) 1 [.string b]
   have HO5:Hid (W5.rangeAt (w.heap.size + 1) 0 [.int .i64 1,.string b]):=ah (by
    have hlt:=(Array.getElem?_eq_some_iff.1 ho4).1
    have e:=(ho4.set (us:=[.int .i64 1,.string b]) rfl)
    have e2:w4.setCells (w.heap.size + 1) 0 [.int .i64 1,.string b] = (w4.setCell ⟨w.heap.size + 1,0,none⟩ (.int .i64 1)).setCell ⟨w.heap.size + 1,1,none⟩ (.string b):=rfl
    have hr:=ho4.range
    intro j v hv
    rw [Nat.zero_add,← hW5]
    rcases (show j = 0 ∨ j = 1 ∨ 2 ≤ j by omega) with rfl | rfl | h2
    ·rw [World.cell?_setCell_other _ _ _ _ (by simp)]
     have:=hr 0 (.int .i64 1) rfl
     rw [Nat.zero_add] at this
     rw [this]
     exact hv
    ·have hc:(w4.setCell ⟨w.heap.size + 1,1,none⟩ (.string b)).cell? ⟨w.heap.size + 1,1,none⟩ = some (.string b):=by
      have:=World.rangeAt_setCells_same w4 (w.heap.size + 1) 1 [.string b] (fun j hj => by
       obtain rfl:j = 0:=by simpa using hj
       exact ho4.there 1 (by show 1 < 2;omega))
      exact this 0 _ rfl
     rw [hc];exact hv
    rw [List.getElem?_eq_none (by simpa using h2)] at hv;cases hv)
   have HB5:Hid (Below w.heap.size w W5):=ah (HB4.out.grown hg5 HB4.out.size (fun k e => by have:=Option.some.inj e;omega))
   have HR5:=ah (HR4.out.kept hg5 (fun e => by have:=Option.some.inj e;omega))
   have HA5:Hid (Arr W5 (w.heap.size + 2) 3 R.c):=ah (by rw [← hW5];exact ha4.far (by simp) _)
   have HE5:=ah (kJ (w.heap.size + 2) R W5 HA5.out HFT.out)
   have HLT5:Hid (w.heap.size + 1 < W5.heap.size):=ah (Nat.lt_of_lt_of_le ho4.lt hg5.size)
   have HW5:=ah hW5
   clear hg4 ha4 hW5 hg5 ho4
   go_upto_region 14 with fail
   rw [HW5.out]
   clear f1 f2
   go_wp2_with fail
   refine HE5.out.mono ?_
   rintro e w6 ⟨rfl,hb6⟩
   have HB6:=bth HB5 hb6
   have HR6:=ah (HR5.out.below hb6)
   have hr6:=au HO5.out hb6 HLT5.out
   have HRT:=ah (kW 1 b w6)
   have h2i:(prog.info? 40).map (·.size) = some [Value.int .i64 1,.string b].length:=by kernel_rfl
   have hl6:=hb6.size
   have HLT6:Hid (w.heap.size + 1 < w6.heap.size):=ah (by have:=HLT5.out;omega)
   clear hb6 hl6
   have HOK2:Hid (∀ v ∈ [Value.int .i64 1,.string b],v.oneCell' = true):=ah (fun v hv => by
    rcases List.mem_cons.1 hv with rfl | hv
    ·rfl
    rw [List.mem_singleton.1 hv];rfl)
   by_cases hfin:R.fin = 0
   ·have hf1:((R.fin:Int) == 0) = true:=beq_iff_eq.2 (by omega)
    have hf0:(R.fin:Int) = 0:=by omega
    cases hrt:aC ⟨1,b⟩ with
    | true =>
     rw [hrt] at HRT
     have HOK:Hid (aQ s.data.toList = some ⟨1,b⟩):=ah (by rw [HRO2.out,if_neg (by omega),if_pos hrt])
     clear hrt
     go_wp2_with (refine aG rfl 40 _ rfl (w.heap.size + 1) 0 rfl [.int .i64 1,.string b] _ hr6 underlying40 rfl h2i ?_)
     refine HRT.out.mono ?_
     rintro e w7 ⟨rfl,hb7⟩
     have HB7:=bth HB6 hb7
     have hx7:=HR6.out.below hb7
     have hr7:=au hr6 hb7 HLT6.out
     have HT7:=ah hx7.there
     have hr8:=(hx7.set (us:=[.int .i64 1,.string b]) rfl).range
     have HBF:=ah (below_setCells (B:=w.heap.size) w.heap.size (Nat.le_refl _) [.int .i64 1,.string b] 0 _ HB7.out)
     clear hb7 hr6 hx7
     go_wp2_with (first
      | (refine wpList_load_mid rfl 40 _ rfl (w.heap.size + 1) 0 rfl [.int .i64 1,.string b] _ hr7 underlying40 rfl h2i ?_)
      | (refine aj rfl 40 _ _ rfl w.heap.size 0 [.int .i64 1,.string b] rfl rfl 2 rfl HT7.out h2n HOK2.out ?_))
     exact aB rfl w.heap.size 0 rfl _ _ hr8 underlying40 rfl h2i rfl _ rfl ⟨HBF.out,.inl ⟨_,HOK.out,rfl⟩⟩
    | false =>
     rw [hrt] at HRT
     have HNO:Hid (aQ s.data.toList = none):=ah (by rw [HRO2.out,if_neg (by omega),if_neg (by rw [hrt];simp)])
     clear hrt
     go_wp2_with (refine aG rfl 40 _ rfl (w.heap.size + 1) 0 rfl [.int .i64 1,.string b] _ hr6 underlying40 rfl h2i ?_)
     refine HRT.out.mono ?_
     rintro e w7 ⟨rfl,hb7⟩
     have HB7:=bth HB6 hb7
     have hx7:=HR6.out.below hb7
     have HT7:=ah hx7.there
     have hr8:=(hx7.set (us:=[.int .i64 0,.string ⟨#[]⟩]) rfl).range
     have HBF:=ah (below_setCells (B:=w.heap.size) w.heap.size (Nat.le_refl _) [.int .i64 0,.string ⟨#[]⟩] 0 _ HB7.out)
     clear hb7 hr6 hx7
     go_wp2_with (refine aj rfl 40 _ _ rfl w.heap.size 0 [.int .i64 0,.string ⟨#[]⟩] rfl rfl 2 rfl HT7.out h2n HOZ.out ?_)
     exact aB rfl w.heap.size 0 rfl _ _ hr8 underlying40 rfl h2z rfl _ rfl ⟨HBF.out,.inr ⟨HNO.out,rfl⟩⟩
   have hf1:((R.fin:Int) != 0) = true:=bne_iff_ne.2 (by omega)
   have HNO:Hid (aQ s.data.toList = none):=ah (by rw [HRO2.out,if_pos hfin])
   have HT7:=ah HR6.out.there
   have hr8:=(HR6.out.set (us:=[.int .i64 0,.string ⟨#[]⟩]) rfl).range
   have HBF:=ah (below_setCells (B:=w.heap.size) w.heap.size (Nat.le_refl _) [.int .i64 0,.string ⟨#[]⟩] 0 _ HB6.out)
   clear hr6 hfin
   go_wp2_with (refine aj rfl 40 _ _ rfl w.heap.size 0 [.int .i64 0,.string ⟨#[]⟩] rfl rfl 2 rfl HT7.out h2n HOZ.out ?_)
   exact aB rfl w.heap.size 0 rfl _ _ hr8 underlying40 rfl h2z rfl _ rfl ⟨HBF.out,.inr ⟨HNO.out,rfl⟩⟩
  ·
   have HKL:Hid (iq c = 2):=ah hc2
   have b1:(((c.toNat:Nat):Int) == 98) = false:=by rw [hcv];rfl
   have b2:(((c.toNat:Nat):Int) == 116) = true:=by rw [hcv];rfl
   have b3:(((c.toNat:Nat):Int) == 99) = false:=by rw [hcv];rfl
   have hi1:∀ w,(Instr.index 9 (.string s) (.int .i64 0)).run prog w = .ok (.int .u8 116) w:=fun w => by rw [HIX.out w,hcv];rfl
   obtain ⟨W2,hW2⟩:∃ W2,W.alloc (.cells #[.int .i64 2,.string ⟨#[]⟩] 40) = W2:=⟨_,rfl⟩
   obtain ⟨W3,hW3⟩:∃ W3,W2.alloc (.cells #[.string (ofB l),.int .i64 0,.int .i64 0] 228) = W3:=⟨_,rfl⟩
   have hs2:W2.heap.size = w.heap.size + 2:=by rw [← hW2,World.size_alloc,HWS.out]
   have hb2:Below W.heap.size W W2:=by rw [← hW2];exact bal
   have hb3:Below W2.heap.size W2 W3:=by rw [← hW3];exact bal
   have HR3:Hid (BoxL W3 w.heap.size 40 [.int .i64 0,.string ⟨#[]⟩]):=ah ((HBX.out.below hb2).below hb3)
   have HO3:Hid (BoxL W3 (w.heap.size + 1) 40 [.int .i64 2,.string ⟨#[]⟩]):=ah (by
    have:=BoxL.new W 40 [.int .i64 2,.string ⟨#[]⟩]
    rw [hWs] at this
    rw [← hW2] at hb3
    rw [← hW3,← hW2]
    exact this.below bal)
   have HA3:Hid (Arr W3 (w.heap.size + 2) 3 (Rd.mk (ofB l) 0 0).c):=ah (by rw [← hs2,← hW3];exact jK (ofB l) W2 _)
   have HB3:=ah ((HBW.out.trans (hb2.mono HBW.out.size)).trans (hb3.mono (Nat.le_trans HBW.out.size hb2.size)))
   have HT3:=ah (jv (w.heap.size + 2) (Rd.mk (ofB l) 0 0) 4096 W3 HA3.out HFS.out (by omega))
   have HW2:=ah hW2
   have HW3:=ah hW3
   have HS2:=ah hs2
   have HRO2:Hid (aQ s.data.toList = if R.fin ≠ 0 then none else if aC ⟨2,b⟩ = true then some ⟨2,b⟩ else none):=ah (by rw [HRO.out,HKL.out,if_neg (by omega)];rfl)
   rw [HTT.out] at HT3
   clear hW2 hW3 hb2 hb3 hc2
   go_enter func63,ntmps63
   go_upto_region 3 with fail
   rw [HW.out]
   go_upto_region 12 with fail
   rw [HW2.out]
   go_upto_region 13 with fail
   rw [HW3.out]
   clear hs2
   go_wp2_with fail
   refine HT3.out.mono ?_
   rintro e w4 ⟨rfl,ha4,hg4⟩
   have HB4:Hid (Below w.heap.size w w4):=ah (HB3.out.grown hg4 HB3.out.size (fun k e => by have:=Option.some.inj e;omega))
   have HR4:=ah (HR3.out.kept hg4 (fun e => by have:=Option.some.inj e;omega))
   have ho4:=HO3.out.kept hg4 (fun e => by have:=Option.some.inj e;omega)
   have f1:w4.cell? ⟨w.heap.size + 1,1,none⟩ = some (.string ⟨#[]⟩):=ho4.range 1 _ rfl
   have f2:w4.frozen? ⟨w.heap.size + 1,1,none⟩ = false:=(ho4.there 1 (by show 1 < 2;omega)).2
   obtain ⟨W5,hW5⟩:∃ W5,w4.setCell ⟨w.heap.size + 1,1,none⟩ (.string b) = W5:=⟨_,rfl⟩
   have hg5:w4.grownBy W5 (some (w.heap.size + 1)):=by rw [← hW5];exact aH w4 (w.heap.size + 1) 1 [.string b]
   have HO5:Hid (W5.rangeAt (w.heap.size + 1) 0 [.int .i64 2,.string b]):=ah (by
    have hlt:=(Array.getElem?_eq_some_iff.1 ho4).1
    have e:=(ho4.set (us:=[.int .i64 2,.string b]) rfl)
    have e2:w4.setCells (w.heap.size + 1) 0 [.int .i64 2,.string b] = (w4.setCell ⟨w.heap.size + 1,0,none⟩ (.int .i64 2)).setCell ⟨w.heap.size + 1,1,none⟩ (.string b):=rfl
    have hr:=ho4.range
    intro j v hv
    rw [Nat.zero_add,← hW5]
    rcases (show j = 0 ∨ j = 1 ∨ 2 ≤ j by omega) with rfl | rfl | h2
    ·rw [World.cell?_setCell_other _ _ _ _ (by simp)]
     have:=hr 0 (.int .i64 2) rfl
     rw [Nat.zero_add] at this
     rw [this]
     exact hv
    ·have hc:(w4.setCell ⟨w.heap.size + 1,1,none⟩ (.string b)).cell? ⟨w.heap.size + 1,1,none⟩ = some (.string b):=by
      have:=World.rangeAt_setCells_same w4 (w.heap.size + 1) 1 [.string b] (fun j hj => by
       obtain rfl:j = 0:=by simpa using hj
       exact ho4.there 1 (by show 1 < 2;omega))
      exact this 0 _ rfl
     rw [hc];exact hv
    rw [List.getElem?_eq_none (by simpa using h2)] at hv;cases hv)
   have HB5:Hid (Below w.heap.size w W5):=ah (HB4.out.grown hg5 HB4.out.size (fun k e => by have:=Option.some.inj e;omega))
   have HR5:=ah (HR4.out.kept hg5 (fun e => by have:=Option.some.inj e;omega))
   have HA5:Hid (Arr W5 (w.heap.size + 2) 3 R.c):=ah (by rw [← hW5];exact ha4.far (by simp) _)
   have HE5:=ah (kJ (w.heap.size + 2) R W5 HA5.out HFT.out)
   have HLT5:Hid (w.heap.size + 1 < W5.heap.size):=ah (Nat.lt_of_lt_of_le ho4.lt hg5.size)
   have HW5:=ah hW5
   clear hg4 ha4 hW5 hg5 ho4
   go_upto_region 14 with fail
   rw [HW5.out]
   clear f1 f2
   go_wp2_with fail
   refine HE5.out.mono ?_
   rintro e w6 ⟨rfl,hb6⟩
   have HB6:=bth HB5 hb6
   have HR6:=ah (HR5.out.below hb6)
   have hr6:=au HO5.out hb6 HLT5.out
   have HRT:=ah (kW 2 b w6)
   have h2i:(prog.info? 40).map (·.size) = some [Value.int .i64 2,.string b].length:=by kernel_rfl
   have hl6:=hb6.size
   have HLT6:Hid (w.heap.size + 1 < w6.heap.size):=ah (by have:=HLT5.out;omega)
   clear hb6 hl6
   have HOK2:Hid (∀ v ∈ [Value.int .i64 2,.string b],v.oneCell' = true):=ah (fun v hv => by
    rcases List.mem_cons.1 hv with rfl | hv
    ·rfl
    rw [List.mem_singleton.1 hv];rfl)
   by_cases hfin:R.fin = 0
   ·have hf1:((R.fin:Int) == 0) = true:=beq_iff_eq.2 (by omega)
    have hf0:(R.fin:Int) = 0:=by omega
    cases hrt:aC ⟨2,b⟩ with
    | true =>
     rw [hrt] at HRT
     have HOK:Hid (aQ s.data.toList = some ⟨2,b⟩):=ah (by rw [HRO2.out,if_neg (by omega),if_pos hrt])
     clear hrt
     go_wp2_with (refine aG rfl 40 _ rfl (w.heap.size + 1) 0 rfl [.int .i64 2,.string b] _ hr6 underlying40 rfl h2i ?_)
     refine HRT.out.mono ?_
     rintro e w7 ⟨rfl,hb7⟩
     have HB7:=bth HB6 hb7
     have hx7:=HR6.out.below hb7
     have hr7:=au hr6 hb7 HLT6.out
     have HT7:=ah hx7.there
     have hr8:=(hx7.set (us:=[.int .i64 2,.string b]) rfl).range
     have HBF:=ah (below_setCells (B:=w.heap.size) w.heap.size (Nat.le_refl _) [.int .i64 2,.string b] 0 _ HB7.out)
     clear hb7 hr6 hx7
     go_wp2_with (first
      | (refine wpList_load_mid rfl 40 _ rfl (w.heap.size + 1) 0 rfl [.int .i64 2,.string b] _ hr7 underlying40 rfl h2i ?_)
      | (refine aj rfl 40 _ _ rfl w.heap.size 0 [.int .i64 2,.string b] rfl rfl 2 rfl HT7.out h2n HOK2.out ?_))
     exact aB rfl w.heap.size 0 rfl _ _ hr8 underlying40 rfl h2i rfl _ rfl ⟨HBF.out,.inl ⟨_,HOK.out,rfl⟩⟩
    | false =>
     rw [hrt] at HRT
     have HNO:Hid (aQ s.data.toList = none):=ah (by rw [HRO2.out,if_neg (by omega),if_neg (by rw [hrt];simp)])
     clear hrt
     go_wp2_with (refine aG rfl 40 _ rfl (w.heap.size + 1) 0 rfl [.int .i64 2,.string b] _ hr6 underlying40 rfl h2i ?_)
     refine HRT.out.mono ?_
     rintro e w7 ⟨rfl,hb7⟩
     have HB7:=bth HB6 hb7
     have hx7:=HR6.out.below hb7
     have HT7:=ah hx7.there
     have hr8:=(hx7.set (us:=[.int .i64 0,.string ⟨#[]⟩]) rfl).range
     have HBF:=ah (below_setCells (B:=w.heap.size) w.heap.size (Nat.le_refl _) [.int .i64 0,.string ⟨#[]⟩] 0 _ HB7.out)
     clear hb7 hr6 hx7
     go_wp2_with (refine aj rfl 40 _ _ rfl w.heap.size 0 [.int .i64 0,.string ⟨#[]⟩] rfl rfl 2 rfl HT7.out h2n HOZ.out ?_)
     exact aB rfl w.heap.size 0 rfl _ _ hr8 underlying40 rfl h2z rfl _ rfl ⟨HBF.out,.inr ⟨HNO.out,rfl⟩⟩
   have hf1:((R.fin:Int) != 0) = true:=bne_iff_ne.2 (by omega)
   have HNO:Hid (aQ s.data.toList = none):=ah (by rw [HRO2.out,if_pos hfin])
   have HT7:=ah HR6.out.there
   have hr8:=(HR6.out.set (us:=[.int .i64 0,.string ⟨#[]⟩]) rfl).range
   have HBF:=ah (below_setCells (B:=w.heap.size) w.heap.size (Nat.le_refl _) [.int .i64 0,.string ⟨#[]⟩] 0 _ HB6.out)
   clear hr6 hfin
   go_wp2_with (refine aj rfl 40 _ _ rfl w.heap.size 0 [.int .i64 0,.string ⟨#[]⟩] rfl rfl 2 rfl HT7.out h2n HOZ.out ?_)
   exact aB rfl w.heap.size 0 rfl _ _ hr8 underlying40 rfl h2z rfl _ rfl ⟨HBF.out,.inr ⟨HNO.out,rfl⟩⟩
  ·
   have HKL:Hid (iq c = 3):=ah hc3
   have b1:(((c.toNat:Nat):Int) == 98) = false:=by rw [hcv];rfl
   have b2:(((c.toNat:Nat):Int) == 116) = false:=by rw [hcv];rfl
   have b3:(((c.toNat:Nat):Int) == 99) = true:=by rw [hcv];rfl
   have hi1:∀ w,(Instr.index 9 (.string s) (.int .i64 0)).run prog w = .ok (.int .u8 99) w:=fun w => by rw [HIX.out w,hcv];rfl
   obtain ⟨W2,hW2⟩:∃ W2,W.alloc (.cells #[.int .i64 3,.string ⟨#[]⟩] 40) = W2:=⟨_,rfl⟩
   obtain ⟨W3,hW3⟩:∃ W3,W2.alloc (.cells #[.string (ofB l),.int .i64 0,.int .i64 0] 228) = W3:=⟨_,rfl⟩
   have hs2:W2.heap.size = w.heap.size + 2:=by rw [← hW2,World.size_alloc,HWS.out]
   have hb2:Below W.heap.size W W2:=by rw [← hW2];exact bal
   have hb3:Below W2.heap.size W2 W3:=by rw [← hW3];exact bal
   have HR3:Hid (BoxL W3 w.heap.size 40 [.int .i64 0,.string ⟨#[]⟩]):=ah ((HBX.out.below hb2).below hb3)
   have HO3:Hid (BoxL W3 (w.heap.size + 1) 40 [.int .i64 3,.string ⟨#[]⟩]):=ah (by
    have:=BoxL.new W 40 [.int .i64 3,.string ⟨#[]⟩]
    rw [hWs] at this
    rw [← hW2] at hb3
    rw [← hW3,← hW2]
    exact this.below bal)
   have HA3:Hid (Arr W3 (w.heap.size + 2) 3 (Rd.mk (ofB l) 0 0).c):=ah (by rw [← hs2,← hW3];exact jK (ofB l) W2 _)
   have HB3:=ah ((HBW.out.trans (hb2.mono HBW.out.size)).trans (hb3.mono (Nat.le_trans HBW.out.size hb2.size)))
   have HT3:=ah (jv (w.heap.size + 2) (Rd.mk (ofB l) 0 0) 4096 W3 HA3.out HFS.out (by omega))
   have HW2:=ah hW2
   have HW3:=ah hW3
   have HS2:=ah hs2
   have HRO2:Hid (aQ s.data.toList = if R.fin ≠ 0 then none else if aC ⟨3,b⟩ = true then some ⟨3,b⟩ else none):=ah (by rw [HRO.out,HKL.out,if_neg (by omega)];rfl)
   rw [HTT.out] at HT3
   clear hW2 hW3 hb2 hb3 hc3
   go_enter func63,ntmps63
   go_upto_region 3 with fail
   rw [HW.out]
   go_upto_region 12 with fail
   rw [HW2.out]
   go_upto_region 13 with fail
   rw [HW3.out]
   clear hs2
   go_wp2_with fail
   refine HT3.out.mono ?_
   rintro e w4 ⟨rfl,ha4,hg4⟩
   have HB4:Hid (Below w.heap.size w w4):=ah (HB3.out.grown hg4 HB3.out.size (fun k e => by have:=Option.some.inj e;omega))
   have HR4:=ah (HR3.out.kept hg4 (fun e => by have:=Option.some.inj e;omega))
   have ho4:=HO3.out.kept hg4 (fun e => by have:=Option.some.inj e;omega)
   have f1:w4.cell? ⟨w.heap.size + 1,1,none⟩ = some (.string ⟨#[]⟩):=ho4.range 1 _ rfl
   have f2:w4.frozen? ⟨w.heap.size + 1,1,none⟩ = false:=(ho4.there 1 (by show 1 < 2;omega)).2
   obtain ⟨W5,hW5⟩:∃ W5,w4.setCell ⟨w.heap.size + 1,1,none⟩ (.string b) = W5:=⟨_,rfl⟩
   have hg5:w4.grownBy W5 (some (w.heap.size + 1)):=by rw [← hW5];exact aH w4 (w.heap.size + 1) 1 [.string b]
   have HO5:Hid (W5.rangeAt (w.heap.size + 1) 0 [.int .i64 3,.string b]):=ah (by
    have hlt:=(Array.getElem?_eq_some_iff.1 ho4).1
    have e:=(ho4.set (us:=[.int .i64 3,.string b]) rfl)
    have e2:w4.setCells (w.heap.size + 1) 0 [.int .i64 3,.string b] = (w4.setCell ⟨w.heap.size + 1,0,none⟩ (.int .i64 3)).setCell ⟨w.heap.size + 1,1,none⟩ (.string b):=rfl
    have hr:=ho4.range
    intro j v hv
    rw [Nat.zero_add,← hW5]
    rcases (show j = 0 ∨ j = 1 ∨ 2 ≤ j by omega) with rfl | rfl | h2
    ·rw [World.cell?_setCell_other _ _ _ _ (by simp)]
     have:=hr 0 (.int .i64 3) rfl
     rw [Nat.zero_add] at this
     rw [this]
     exact hv
    ·have hc:(w4.setCell ⟨w.heap.size + 1,1,none⟩ (.string b)).cell? ⟨w.heap.size + 1,1,none⟩ = some (.string b):=by
      have:=World.rangeAt_setCells_same w4 (w.heap.size + 1) 1 [.string b] (fun j hj => by
       obtain rfl:j = 0:=by simpa using hj
       exact ho4.there 1 (by show 1 < 2;omega))
      exact this 0 _ rfl
     rw [hc];exact hv
    rw [List.getElem?_eq_none (by simpa using h2)] at hv;cases hv)
   have HB5:Hid (Below w.heap.size w W5):=ah (HB4.out.grown hg5 HB4.out.size (fun k e => by have:=Option.some.inj e;omega))
   have HR5:=ah (HR4.out.kept hg5 (fun e => by have:=Option.some.inj e;omega))
   have HA5:Hid (Arr W5 (w.heap.size + 2) 3 R.c):=ah (by rw [← hW5];exact ha4.far (by simp) _)
   have HE5:=ah (kJ (w.heap.size + 2) R W5 HA5.out HFT.out)
   have HLT5:Hid (w.heap.size + 1 < W5.heap.size):=ah (Nat.lt_of_lt_of_le ho4.lt hg5.size)
   have HW5:=ah hW5
   clear hg4 ha4 hW5 hg5 ho4
   go_upto_region 14 with fail
   rw [HW5.out]
   clear f1 f2
   go_wp2_with fail
   refine HE5.out.mono ?_
   rintro e w6 ⟨rfl,hb6⟩
   have HB6:=bth HB5 hb6
   have HR6:=ah (HR5.out.below hb6)
   have hr6:=au HO5.out hb6 HLT5.out
   have HRT:=ah (kW 3 b w6)
   have h2i:(prog.info? 40).map (·.size) = some [Value.int .i64 3,.string b].length:=by kernel_rfl
   have hl6:=hb6.size
   have HLT6:Hid (w.heap.size + 1 < w6.heap.size):=ah (by have:=HLT5.out;omega)
   clear hb6 hl6
   have HOK2:Hid (∀ v ∈ [Value.int .i64 3,.string b],v.oneCell' = true):=ah (fun v hv => by
    rcases List.mem_cons.1 hv with rfl | hv
    ·rfl
    rw [List.mem_singleton.1 hv];rfl)
   by_cases hfin:R.fin = 0
   ·have hf1:((R.fin:Int) == 0) = true:=beq_iff_eq.2 (by omega)
    have hf0:(R.fin:Int) = 0:=by omega
    cases hrt:aC ⟨3,b⟩ with
    | true =>
     rw [hrt] at HRT
     have HOK:Hid (aQ s.data.toList = some ⟨3,b⟩):=ah (by rw [HRO2.out,if_neg (by omega),if_pos hrt])
     clear hrt
     go_wp2_with (refine aG rfl 40 _ rfl (w.heap.size + 1) 0 rfl [.int .i64 3,.string b] _ hr6 underlying40 rfl h2i ?_)
     refine HRT.out.mono ?_
     rintro e w7 ⟨rfl,hb7⟩
     have HB7:=bth HB6 hb7
     have hx7:=HR6.out.below hb7
     have hr7:=au hr6 hb7 HLT6.out
     have HT7:=ah hx7.there
     have hr8:=(hx7.set (us:=[.int .i64 3,.string b]) rfl).range
     have HBF:=ah (below_setCells (B:=w.heap.size) w.heap.size (Nat.le_refl _) [.int .i64 3,.string b] 0 _ HB7.out)
     clear hb7 hr6 hx7
     go_wp2_with (first
      | (refine wpList_load_mid rfl 40 _ rfl (w.heap.size + 1) 0 rfl [.int .i64 3,.string b] _ hr7 underlying40 rfl h2i ?_)
      | (refine aj rfl 40 _ _ rfl w.heap.size 0 [.int .i64 3,.string b] rfl rfl 2 rfl HT7.out h2n HOK2.out ?_))
     exact aB rfl w.heap.size 0 rfl _ _ hr8 underlying40 rfl h2i rfl _ rfl ⟨HBF.out,.inl ⟨_,HOK.out,rfl⟩⟩
    | false =>
     rw [hrt] at HRT
     have HNO:Hid (aQ s.data.toList = none):=ah (by rw [HRO2.out,if_neg (by omega),if_neg (by rw [hrt];simp)])
     clear hrt
     go_wp2_with (refine aG rfl 40 _ rfl (w.heap.size + 1) 0 rfl [.int .i64 3,.string b] _ hr6 underlying40 rfl h2i ?_)
     refine HRT.out.mono ?_
     rintro e w7 ⟨rfl,hb7⟩
     have HB7:=bth HB6 hb7
     have hx7:=HR6.out.below hb7
     have HT7:=ah hx7.there
     have hr8:=(hx7.set (us:=[.int .i64 0,.string ⟨#[]⟩]) rfl).range
     have HBF:=ah (below_setCells (B:=w.heap.size) w.heap.size (Nat.le_refl _) [.int .i64 0,.string ⟨#[]⟩] 0 _ HB7.out)
     clear hb7 hr6 hx7
     go_wp2_with (refine aj rfl 40 _ _ rfl w.heap.size 0 [.int .i64 0,.string ⟨#[]⟩] rfl rfl 2 rfl HT7.out h2n HOZ.out ?_)
     exact aB rfl w.heap.size 0 rfl _ _ hr8 underlying40 rfl h2z rfl _ rfl ⟨HBF.out,.inr ⟨HNO.out,rfl⟩⟩
   have hf1:((R.fin:Int) != 0) = true:=bne_iff_ne.2 (by omega)
   have HNO:Hid (aQ s.data.toList = none):=ah (by rw [HRO2.out,if_pos hfin])
   have HT7:=ah HR6.out.there
   have hr8:=(HR6.out.set (us:=[.int .i64 0,.string ⟨#[]⟩]) rfl).range
   have HBF:=ah (below_setCells (B:=w.heap.size) w.heap.size (Nat.le_refl _) [.int .i64 0,.string ⟨#[]⟩] 0 _ HB6.out)
   clear hr6 hfin
   go_wp2_with (refine aj rfl 40 _ _ rfl w.heap.size 0 [.int .i64 0,.string ⟨#[]⟩] rfl rfl 2 rfl HT7.out h2n HOZ.out ?_)
   exact aB rfl w.heap.size 0 rfl _ _ hr8 underlying40 rfl h2z rfl _ rfl ⟨HBF.out,.inr ⟨HNO.out,rfl⟩⟩
  have HNO:Hid (aQ s.data.toList = none):=ah (by rw [HRO.out,if_pos hc0])
  have b1:(((c.toNat:Nat):Int) == 98) = false:=beq_eq_false_iff_ne.2 (by omega)
  have b2:(((c.toNat:Nat):Int) == 116) = false:=beq_eq_false_iff_ne.2 (by omega)
  have b3:(((c.toNat:Nat):Int) == 99) = false:=beq_eq_false_iff_ne.2 (by omega)
  have hi1:=HIX.out
  obtain ⟨W2,hW2⟩:∃ W2,W.alloc (.cells #[.int .i64 0,.string ⟨#[]⟩] 40) = W2:=⟨_,rfl⟩
  have hb2:Below W.heap.size W W2:=by rw [← hW2];exact bal
  have hx2:=HBX.out.below hb2
  have HT2:=ah hx2.there
  have hr2:=(hx2.set (us:=[.int .i64 0,.string ⟨#[]⟩]) rfl).range
  have HBF:=ah (below_setCells (B:=w.heap.size) w.heap.size (Nat.le_refl _) [.int .i64 0,.string ⟨#[]⟩] 0 _ (HBW.out.trans (hb2.mono HBW.out.size)))
  have HW2:=ah hW2
  clear hW2 hb2 hx2 hsl
  go_enter func63,ntmps63
  go_upto_region 3 with fail
  rw [HW.out]
  go_upto_region 5 with fail
  rw [HW2.out]
  go_wp2_with (refine aj rfl 40 _ _ rfl w.heap.size 0 [.int .i64 0,.string ⟨#[]⟩] rfl rfl 2 rfl HT2.out h2n HOZ.out ?_)
  exact aB rfl w.heap.size 0 rfl _ _ hr2 underlying40 rfl h2z rfl _ rfl ⟨HBF.out,.inr ⟨HNO.out,rfl⟩⟩
end
end Go.Proofs.YtijhemdnajlfnaaGreatDoor
