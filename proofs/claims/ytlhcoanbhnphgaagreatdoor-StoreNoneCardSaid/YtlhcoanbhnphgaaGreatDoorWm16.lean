/- A part of this claim. -/
import Derived.Test.YtlhcoanbhnphgaaGreatDoorShelf6
import Derived.Test.YtlhcoanbhnphgaaGreatDoorWm11
import Derived.Test.YtlhcoanbhnphgaaGreatDoorWm12
import Derived.Test.YtlhcoanbhnphgaaGreatDoorWm15
namespace Go.Proofs.YtlhcoanbhnphgaaGreatDoor
open Tryz
set_option maxHeartbeats 64000000
set_option maxRecDepth 100000
section
open Go.RowKit Go.Shelf
theorem gL (s:ByteArray) (w:World):Calls prog 128 #[.string s] w fun e w' => e = .returned (.pointer (some ⟨w.heap.size,0,none⟩)) ∧ w' = w.alloc (.cells #[.string s,.int .i64 0,.int .i64 0] 276):=by
 go_enter func128,ntmps128
 go_wp2
 go_ret
 exact ⟨rfl,by first | rfl | trivial⟩
theorem jU (s:ByteArray) (w:World) (t:TypeId):Arr (w.alloc (.cells #[.string s,.int .i64 0,.int .i64 0] t)) w.heap.size 3 (Rd.mk s 0 0).c :=
 (Arr.ofList w [.string s,.int .i64 0,.int .i64 0] t).congr fun k hk => by
  have hk3:k < 3:=hk
  rcases (show k = 0 ∨ k = 1 ∨ k = 2 by omega) with rfl | rfl | rfl <;> rfl
theorem za {s:ByteArray} (h:s.size ≤ 1000000):(Rd.mk s 0 0).fine:=⟨Nat.zero_le _,h,by show 0 ≤ 100;omega⟩
def sQ:List UInt8:=[32,98,116,99]
def zG (s:List UInt8):Int:=Lib.index sQ (s.take 1)
theorem sW:∀ c:Fin 256,(zG [UInt8.ofNat c.val] = (lX (UInt8.ofNat c.val):Int)) ∨ (lX (UInt8.ofNat c.val) = 0 ∧ zG [UInt8.ofNat c.val] = -1):=by decide +kernel
theorem Bo (c:UInt8) (l:List UInt8):(zG (c :: l) = (lX c:Int)) ∨ (lX c = 0 ∧ zG (c :: l) = -1):=by
 have h:=sW ⟨c.toNat,c.toNat_lt⟩
 have e:UInt8.ofNat c.toNat = c:=by simp
 simp only [e] at h
 exact h
def fr1 (s:ByteArray):Rd:=((Rd.mk s 0 0).raw 1).1
def frT (s:ByteArray):Rd × ByteArray:=(fr1 s).text 4096
def frK (s:ByteArray):Int:=Lib.index sQ ((Rd.mk s 0 0).raw 1).2.data.toList
theorem Lg {s:ByteArray} (h:s.data.toList = []):(frT s).1.fin ≠ 0 ∧ bV s.data.toList = none:=by
 have h0:s.size = 0:=by have:=congrArg List.length h;simpa using this
 have e:fr1 s = ⟨s,0,3⟩:=by
  unfold fr1 Rd.raw
  rw [if_neg (by simp),if_pos (by show s.size - 0 < 1;omega)]
 constructor
 ·unfold frT
  rw [e]
  unfold Rd.text
  rw [if_pos (by simp)]
  unfold Rd.fin
  rw [if_pos (by simp)]
  simp
 rw [h];rfl
theorem JO {s:ByteArray} {c:UInt8} {l:List UInt8} (h:s.data.toList = c :: l):Behind 1 (fr1 s) (Rd.mk (ofB l) 0 0) ∧ frK s = zG (c :: l):=by
 have h0:s.size = l.length + 1:=by have:=congrArg List.length h;simpa using this
 have e:(Rd.mk s 0 0).raw 1 = (⟨s,1,0⟩,s.extract 0 (0 + 1)):=by
  unfold Rd.raw
  rw [if_neg (by simp),if_neg (by show ¬ s.size - 0 < 1;omega)]
 unfold fr1 frK
 rw [e]
 refine ⟨⟨by show (ofB l).data.toList = s.data.toList.drop 1;rw [aX,h];rfl,rfl,rfl,by show 1 ≤ s.size;omega⟩,?_⟩
 show Lib.index sQ (s.extract 0 (0 + 1)).data.toList = _
 rw [je,h];rfl
theorem DW (s:ByteArray):bV s.data.toList = if (frT s).1.fin ≠ 0 then none else if aB ⟨frK s,(frT s).2⟩ = true then some ⟨frK s,(frT s).2⟩ else none:=by
 cases h:s.data.toList with
 | nil =>
  obtain ⟨h1,h2⟩:=Lg h
  rw [h] at h2
  rw [if_pos h1,h2]
 | cons c l =>
  obtain ⟨h1,h2⟩:=JO h
  obtain ⟨h3,h4⟩:=h1.text 4096
  have h5:=h3.fin
  unfold frT
  rw [h5,h4,h2]
  unfold bV
  dsimp only
  rcases Bo c l with hk | ⟨hk,hk2⟩
  ·rw [hk]
   by_cases h0:lX c = 0
   ·rw [if_pos h0]
    by_cases h6:((Rd.mk (ofB l) 0 0).text 4096).1.fin ≠ 0
    ·rw [if_pos h6]
    rw [if_neg h6,if_neg]
    rw [h0]
    unfold aB
    simp
   rw [if_neg h0]
  rw [if_pos hk,hk2]
  by_cases h6:((Rd.mk (ofB l) 0 0).text 4096).1.fin ≠ 0
  ·rw [if_pos h6]
  rw [if_neg h6,if_neg]
  unfold aB
  simp
def Mg (s:ByteArray) (w:World) (e:Ending) (w':World):Prop:=Below w.heap.size w w' ∧
 ((∃ o,bV s.data.toList = some o ∧ e = .returned (.tuple #[.agg (obC o).toArray,.int .i64 0])) ∨ (bV s.data.toList = none ∧ e = .returned (.tuple #[.agg (obC ob0).toArray,.int .i64 2])))
theorem zo (s:ByteArray) (w:World) (hs:s.size ≤ 1000000) (hm:kW w):Calls prog 136 #[.string s] w (Mg s w):=by
 have HRO:=ah (DW s)
 obtain ⟨W,hW⟩:∃ W,w.alloc (.cells #[.int .i64 0,.string ⟨#[]⟩] 33) = W:=⟨_,rfl⟩
 have hbW:Below w.heap.size w W:=by rw [← hW];exact bal
 have HBX:Hid (BoxL W w.heap.size 33 [.int .i64 0,.string ⟨#[]⟩]):=ah (by rw [← hW];exact BoxL.new w 33 [.int .i64 0,.string ⟨#[]⟩])
 have hWs:W.heap.size = w.heap.size + 1:=by rw [← hW];simp
 have HNR:=ah (gL s W)
 have HMX:=ah hm
 have HW:=ah hW
 have HBW:=ah hbW
 have HWS:=ah hWs
 clear hW hbW hm
 go_enter func136,ntmps136
 go_upto_region 1 with fail
 rw [HW.out]
 go_wp2_with fail
 refine HNR.out.mono ?_
 rintro e w1 ⟨rfl,rfl⟩
 obtain ⟨W1,hW1⟩:∃ W1,W.alloc (.cells #[.string s,.int .i64 0,.int .i64 0] 276) = W1:=⟨_,rfl⟩
 have ha1:Arr W1 (w.heap.size + 1) 3 (Rd.mk s 0 0).c:=by rw [← hW1,← hWs];exact jU s W _
 have hb1:Below W.heap.size W W1:=by rw [← hW1];exact bal
 rw [hW1]
 have HR1:=ah (qW (w.heap.size + 1) (Rd.mk s 0 0) 1 W1 ha1 (za hs) (by omega))
 have HF1:=ah (Rd.rZ (Rd.mk s 0 0) 1 (za hs))
 have HB1:=bth HBW hb1
 have HBX1:=ah (HBX.out.below hb1)
 clear hW1 ha1 hb1
 go_upto_region 2 with fail
 go_wp2_with fail
 refine HR1.out.mono ?_
 rintro e w2 ⟨rfl,ha2,hg2⟩
 have HB2:Hid (Below w.heap.size w w2):=ah (HB1.out.grown hg2 HB1.out.size (fun k e => by have:=Option.some.inj e;omega))
 have HBX2:Hid (BoxL w2 w.heap.size 33 [.int .i64 0,.string ⟨#[]⟩]):=ah (HBX1.out.kept hg2 (fun e => by have:=Option.some.inj e;omega))
 obtain ⟨m,hmx⟩:=HMX.out.below HB2.out HMX.out.lt
 have hrs:((Rd.mk s 0 0).raw 1).2.size ≤ 1:=Rd.nH _ _
 have HIX:=ah (Any.strings_Index (ρ:=Tryz.lays146_ren) { Tryz.lays146 with } ⟨#[32,98,116,99]⟩ ((Rd.mk s 0 0).raw 1).2 m w2 (by show 4 < 4294967281;omega) hmx)
 have HK:Hid (Lib.index (⟨#[32,98,116,99]⟩:ByteArray).data.toList ((Rd.mk s 0 0).raw 1).2.data.toList = frK s):=ah rfl
 have HT2:Hid (Calls prog 194 #[.pointer (some ⟨w.heap.size + 1,0,none⟩),.int .i64 4096] w2 fun e w' => e = .returned (.string (frT s).2) ∧ Arr w' (w.heap.size + 1) 3 (frT s).1.c ∧ w2.grownBy w' (some (w.heap.size + 1))):=ah (jk (w.heap.size + 1) _ 4096 w2 ha2 HF1.out (by omega))
 have HFT:Hid ((frT s).1.fine):=ah (Rd.bX _ 4096 HF1.out)
 obtain ⟨kk,hkk⟩:∃ kk,frK s = kk:=⟨_,rfl⟩
 obtain ⟨T,hT⟩:∃ T,frT s = T:=⟨_,rfl⟩
 rw [hT] at HT2 HFT
 rw [hkk] at HK
 have HRO2:Hid (bV s.data.toList = if T.1.fin ≠ 0 then none else if aB ⟨kk,T.2⟩ = true then some ⟨kk,T.2⟩ else none):=ah (by rw [← hT,← hkk];exact HRO.out)
 obtain ⟨R,b⟩:=T
 dsimp only at HT2 HFT HRO2
 obtain ⟨rw2,hrw2⟩:∃ r,((Rd.mk s 0 0).raw 1).2 = r:=⟨_,rfl⟩
 rw [hrw2] at HIX HK hrs ⊢
 clear hg2 ha2 hmx hkk hT hrw2
 go_wp2_with fail
 refine HIX.out.mono ?_
 rintro e w3 ⟨rfl,rfl⟩
 rw [HK.out]
 go_wp2_with fail
 refine HT2.out.mono ?_
 rintro e w4 ⟨rfl,ha4,hg4⟩
 have HB4:Hid (Below w.heap.size w w4):=ah (HB2.out.grown hg4 HB2.out.size (fun k e => by have:=Option.some.inj e;omega))
 have HBX4:Hid (BoxL w4 w.heap.size 33 [.int .i64 0,.string ⟨#[]⟩]):=ah (HBX2.out.kept hg4 (fun e => by have:=Option.some.inj e;omega))
 obtain ⟨W5,hW5⟩:∃ W5,w4.alloc (.cells #[.int .i64 kk,.string b] 33) = W5:=⟨_,rfl⟩
 have hb5:Below w4.heap.size w4 W5:=by rw [← hW5];exact bal
 have HO5:Hid (BoxL W5 w4.heap.size 33 [.int .i64 kk,.string b]):=ah (by rw [← hW5];exact BoxL.new _ _ _)
 have HA5:=ha4.below hb5 (ha4.lt (by omega))
 have HE5:=ah (iD (w.heap.size + 1) R W5 HA5 HFT.out)
 have HB5:=bth HB4 hb5
 have HBX5:=ah (HBX4.out.below hb5)
 have HW5:=ah hW5
 have HWS4:Hid (w.heap.size < w4.heap.size):=ah HBX4.out.lt
 clear hg4 ha4 hW5 hb5 HA5
 go_upto_region 3 with fail
 rw [HW5.out]
 go_wp2_with fail
 refine HE5.out.mono ?_
 rintro e w6 ⟨rfl,hb6⟩
 have HB6:=bth HB5 hb6
 have HBX6:=ah (HBX5.out.below hb6)
 have HO6:=ah (HO5.out.below hb6)
 have h2i:(prog.info? 33).map (·.size) = some [Value.int .i64 kk,.string b].length:=by kernel_rfl
 have h2n:(prog.info? 33).map (·.size) = some 2:=by kernel_rfl
 have hr6:=HO6.out.range
 have HRT:=ah (sI kk b w6)
 clear hb6
 have HOZ:Hid (∀ v ∈ [Value.int .i64 0,.string ⟨#[]⟩],v.oneCell' = true):=ah (fun v hv => by
  rcases List.mem_cons.1 hv with rfl | hv
  ·rfl
  rw [List.mem_singleton.1 hv];rfl)
 have HOK2:Hid (∀ v ∈ [Value.int .i64 kk,.string b],v.oneCell' = true):=ah (fun v hv => by
  rcases List.mem_cons.1 hv with rfl | hv
  ·rfl
  rw [List.mem_singleton.1 hv];rfl)
 by_cases hfin:R.fin = 0
 ·have hf1:((R.fin:Int) == 0) = true:=beq_iff_eq.2 (by omega)
  have hf0:(R.fin:Int) = 0:=by omega
  cases hrt:aB ⟨kk,b⟩ with
  | true =>
   rw [hrt] at HRT
   have HOK:Hid (bV s.data.toList = some ⟨kk,b⟩):=ah (by rw [HRO2.out,if_neg (by omega),if_pos hrt])
   clear hrt
   go_wp2_with (refine bD rfl 33 _ rfl w4.heap.size 0 rfl [.int .i64 kk,.string b] _ hr6 underlying33 rfl h2i ?_)
   refine HRT.out.mono ?_
   rintro e w7 ⟨rfl,hb7⟩
   have HB7:=bth HB6 hb7
   have hx7:=HBX6.out.below hb7
   have hr7:=(HO6.out.below hb7).range
   have HT7:=ah hx7.there
   have hr8:=(hx7.set (us:=[.int .i64 kk,.string b]) rfl).range
   have HBF:=ah (below_setCells (B:=w.heap.size) w.heap.size (Nat.le_refl _) [.int .i64 kk,.string b] 0 _ HB7.out)
   clear hb7 hr6 hx7
   go_wp2_with (first
    | (refine wpList_load_mid rfl 33 _ rfl w4.heap.size 0 rfl [.int .i64 kk,.string b] _ hr7 underlying33 rfl h2i ?_)
    | (refine aj rfl 33 _ _ rfl w.heap.size 0 [.int .i64 kk,.string b] rfl rfl 2 rfl HT7.out h2n HOK2.out ?_))
   exact aL rfl w.heap.size 0 rfl _ _ hr8 underlying33 rfl h2i rfl _ rfl ⟨HBF.out,.inl ⟨_,HOK.out,rfl⟩⟩
  | false =>
   rw [hrt] at HRT
   have HNO:Hid (bV s.data.toList = none):=ah (by rw [HRO2.out,if_neg (by omega),if_neg (by rw [hrt];simp)])
   clear hrt
   go_wp2_with (refine bD rfl 33 _ rfl w4.heap.size 0 rfl [.int .i64 kk,.string b] _ hr6 underlying33 rfl h2i ?_)
   refine HRT.out.mono ?_
   rintro e w7 ⟨rfl,hb7⟩
   have HB7:=bth HB6 hb7
   have hx7:=HBX6.out.below hb7
   have HT7:=ah hx7.there
   have hr8:=(hx7.set (us:=[.int .i64 0,.string ⟨#[]⟩]) rfl).range
   have HBF:=ah (below_setCells (B:=w.heap.size) w.heap.size (Nat.le_refl _) [.int .i64 0,.string ⟨#[]⟩] 0 _ HB7.out)
   clear hb7 hr6 hx7
   go_wp2_with (refine aj rfl 33 _ _ rfl w.heap.size 0 [.int .i64 0,.string ⟨#[]⟩] rfl rfl 2 rfl HT7.out h2n HOZ.out ?_)
   exact aL rfl w.heap.size 0 rfl _ _ hr8 underlying33 rfl h2i rfl _ rfl ⟨HBF.out,.inr ⟨HNO.out,rfl⟩⟩
 have hf1:((R.fin:Int) != 0) = true:=bne_iff_ne.2 (by omega)
 have HNO:Hid (bV s.data.toList = none):=ah (by rw [HRO2.out,if_pos hfin])
 have HT7:=ah HBX6.out.there
 have hr8:=(HBX6.out.set (us:=[.int .i64 0,.string ⟨#[]⟩]) rfl).range
 have HBF:=ah (below_setCells (B:=w.heap.size) w.heap.size (Nat.le_refl _) [.int .i64 0,.string ⟨#[]⟩] 0 _ HB6.out)
 clear hr6 hfin
 go_wp2_with (refine aj rfl 33 _ _ rfl w.heap.size 0 [.int .i64 0,.string ⟨#[]⟩] rfl rfl 2 rfl HT7.out h2n HOZ.out ?_)
 exact aL rfl w.heap.size 0 rfl _ _ hr8 underlying33 rfl h2i rfl _ rfl ⟨HBF.out,.inr ⟨HNO.out,rfl⟩⟩
end
section
open Go.RowKit Fl
def pcsF (l:List Pc):List Value:=(l.map pcF).flatten
theorem uK.bZ {w:World} {B:Nat} {v:Value} {l:List Pc} (h:w.ownsRow B 364 2 v l.length (pcsF l)):uK w v l :=
 aS.bZ (B:=B) (e:=364) (fun r hr => by obtain ⟨p,_,rfl⟩:=List.mem_map.1 hr;rfl) (by rw [List.length_map];exact h)
@[go_sem] theorem run_store_complex8 {P:Program} (w:World) (a:Addr) (m:Mode) (k:FloatKind) (x y:Nat):(store a (.complex k x y) m).run P w = stored P w a (.complex k x y) m:=run_store P w a _ m rfl
theorem BoxL.put {W:World} {b:Nat} {t:TypeId} {cs:List Value} (h:BoxL W b t cs) (i:Nat) (v:Value):BoxL (W.setCell ⟨b,i,none⟩ v) b t (cs.set i v):=by
 obtain ⟨hlt,hk⟩:=Array.getElem?_eq_some_iff.1 h
 show (W.heap.modify b _)[b]? = _
 rw [Array.getElem?_eq_getElem (by rw [Array.size_modify];exact hlt),Array.getElem_modify_self,hk]
 simp
end
section
open Go.RowKit
def ptF (p:Pt):List Value:=[.bool p.delta,.int .i64 p.base,.string p.text]
def qx (w:World) (v:Value) (l:List Pt):Prop:=aS w v 3 (l.map ptF)
theorem qx.below {w w':World} {v:Value} {l:List Pt} (h:qx w v l) (hb:Below w.heap.size w w'):qx w' v l:=aS.below h hb
theorem qx.open {w:World} {v:Value} {l:List Pt} (h:qx w v l):∃ ao cap,v = .slice ao l.length cap ∧ l.length ≤ maxLen ∧ (l ≠ [] → ∃ b off,ao = some ⟨b,off,none⟩ ∧ b < w.heap.size ∧ ∀ k (hk:k < l.length),w.rangeAt b (off + k * 3) (ptF l[k])):=by
 obtain ⟨ao,cap,rfl,hm,h⟩:=h
 rw [List.length_map] at hm ⊢
 refine ⟨ao,cap,rfl,hm,fun hne => ?_⟩
 obtain ⟨b,off,e,hl,hc⟩:=h (by simpa using hne)
 refine ⟨b,off,e,hl,fun k hk => ?_⟩
 have:=hc k (by simpa using hk)
 rw [List.getElem_map] at this
 exact this
def PtOk (l:List Pt):Prop:=∀ p ∈ l,-1000000 ≤ p.base ∧ p.base ≤ 1000000 ∧ p.text.size ≤ 1000000
def ksV (ks:List Nat):List Value:=ks.map fun k:Nat => .int .i64 (k:Int)
def qA (w:World) (v:Value) (ks:List Nat):Prop:=aS w v 1 (ks.map fun k:Nat => [Value.int .i64 (k:Int)])
theorem qA.below {w w':World} {v:Value} {l:List Nat} (h:qA w v l) (hb:Below w.heap.size w w'):qA w' v l:=aS.below h hb
theorem qA.open {w:World} {v:Value} {l:List Nat} (h:qA w v l):∃ ao cap,v = .slice ao l.length cap ∧ l.length ≤ maxLen ∧ (l ≠ [] → ∃ b off,ao = some ⟨b,off,none⟩ ∧ b < w.heap.size ∧ ∀ k (hk:k < l.length),w.cell? ⟨b,off + k,none⟩ = some (.int .i64 (l[k]:Int))):=by
 obtain ⟨ao,cap,rfl,hm,h⟩:=h
 rw [List.length_map] at hm ⊢
 refine ⟨ao,cap,rfl,hm,fun hne => ?_⟩
 obtain ⟨b,off,e,hl,hc⟩:=h (by simpa using hne)
 refine ⟨b,off,e,hl,fun k hk => ?_⟩
 have:=hc k (by simpa using hk) 0 _ (by rw [List.getElem_map];rfl)
 rwa [Nat.mul_one] at this
theorem Hq (ks:List Nat):(ks.map fun k:Nat => [Value.int .i64 (k:Int)]).flatten = ksV ks:=by
 induction ks with
 | nil => rfl
 | cons k ks ih => rw [List.map_cons,List.flatten_cons,ih];rfl
theorem qA.bZ {w:World} {B:Nat} {v:Value} {l:List Nat} (h:w.ownsRow B 3 1 v l.length (ksV l)):qA w v l :=
 aS.bZ (B:=B) (e:=3) (fun r hr => by obtain ⟨p,_,rfl⟩:=List.mem_map.1 hr;rfl) (by rw [List.length_map,Hq];exact h)
theorem Ho (ks:List Nat) (k:Nat):ksV (ks ++ [k]) = ksV ks ++ [.int .i64 (k:Int)]:=by unfold ksV;rw [List.map_append];rfl
theorem SX.mk {Sp S0:World → Prop} {m:Nat} {ls:Array Bool} {w:World} (h1:Sp w) (h2:S0 w):SX m Sp S0 ls w:=⟨h1,.inr h2⟩
theorem SX.done {Sp S0:World → Prop} {m:Nat} {ls:Array Bool} {w:World} (h1:Sp w) (h2:ls.getD m false = true):SX m Sp S0 ls w:=⟨h1,.inl h2⟩
section
variable {B:Nat} {E1 E2:TypeId} {s1 s2:Nat} {wz W W':World} {v1 v1':Value} {n1 n1':Nat} {x1 x1':List Value} {v2 v2':Value} {n2 n2':Nat} {x2 x2':List Value} {q1 q2:Option (Nat × List Value)}
theorem A2.drew (h:A2 B E1 E2 s1 s2 wz v1 n1 x1 v2 n2 x2 q1 q2 W):A2 B E1 E2 s1 s2 wz v1 n1 x1 v2 n2 x2 q1 q2 W.drew :=
 ⟨h.o1,h.o2,h.bel.drew,h.sz,h.q1,h.q2⟩
end
def ptsF (l:List Pt):List Value:=(l.map ptF).flatten
theorem D6 (l:List Pt) (p:Pt):ptsF (l ++ [p]) = ptsF l ++ ptF p:=by simp [ptsF]
theorem qx.bZ {w:World} {B:Nat} {v:Value} {l:List Pt} (h:w.ownsRow B 299 3 v l.length (ptsF l)):qx w v l :=
 aS.bZ (B:=B) (e:=299) (fun r hr => by obtain ⟨p,_,rfl⟩:=List.mem_map.1 hr;rfl) (by rw [List.length_map];exact h)
theorem vE (r:Rd) (most:Nat):(r.text most).2.size ≤ most:=by
 unfold Rd.text
 split
 ·exact Nat.zero_le _
 split
 ·exact Nat.zero_le _
 exact Nat.le_trans (Rd.nH _ _) (K9 _ _)
def pkC (rb:Nat) (vp vs:Value) (k:Nat):Value:=if k = 0 then .pointer (some ⟨rb,0,none⟩) else if k = 1 then vp else vs
structure PkSt (B pk rb bx:Nat) (w:World) (r:Rd) (ps:List (Pt × Nat)) (vp vs:Value) (wr:World):Prop where
 pk:Arr wr pk 3 (pkC rb vp vs)
 rb:Arr wr rb 3 r.c
 fine:r.fine
 box:∃ cs,BoxL wr bx 299 cs ∧ cs.length = 3
 o1:wr.ownsRow (w.heap.size + 1) 299 3 vp ps.length (ptsF (ps.map (·.1)))
 o2:wr.ownsRow (w.heap.size + 1) 3 1 vs ps.length (ksV (ps.map (·.2)))
 bel:Below B w wr
 ok:PtOk (ps.map (·.1))
 lt:w.heap.size < wr.heap.size
theorem PkSt.read {B pk rb bx:Nat} {w wr w':World} {r r':Rd} {ps:List (Pt × Nat)} {vp vs:Value} (h:PkSt B pk rb bx w r ps vp vs wr) (hA:Arr w' rb 3 r'.c) (hf:r'.fine) (hg:wr.grownBy w' (some rb)) (hne:pk ≠ rb) (hrl:rb < w.heap.size) (hbx:bx = w.heap.size) (hB:B ≤ rb):PkSt B pk rb bx w r' ps vp vs w':=by
 subst hbx
 obtain ⟨cs,hb,hc⟩:=h.box
 exact ⟨h.pk.grown hg hne,hA,hf,⟨cs,hb.kept hg (fun e => by have:=Option.some.inj e;omega),hc⟩,jy h.o1 hg (by omega),jy h.o2 hg (by omega),h.bel.grown hg (by have:=h.lt;omega) (fun k hk => by cases hk;exact hB),h.ok,Nat.lt_of_lt_of_le h.lt hg.size⟩
theorem PkSt.put {B pk rb bx:Nat} {w wr:World} {r:Rd} {ps:List (Pt × Nat)} {vp vs:Value} (h:PkSt B pk rb bx w r ps vp vs wr) (us:List Value) (hu:us.length = 3) (hpk:pk < w.heap.size) (hrl:rb < w.heap.size) (hbx:bx = w.heap.size) (hB:B ≤ pk):PkSt B pk rb bx w r ps vp vs (wr.setCells bx 0 us):=by
 subst hbx
 obtain ⟨cs,hb,hc⟩:=h.box
 exact ⟨h.pk.iQ (by omega) us 0,h.rb.iQ (by omega) us 0,h.fine,⟨us,hb.set (by rw [hu,hc]),hu⟩,sH h.o1 (own_ne h.o1 (by omega)),sH h.o2 (own_ne h.o2 (by omega)),below_setCells _ (by omega) _ _ _ h.bel,h.ok,Nat.lt_of_lt_of_le h.lt (bC wr w.heap.size 0 us).size⟩
theorem PkSt.drew {B pk rb bx:Nat} {w wr:World} {r:Rd} {ps:List (Pt × Nat)} {vp vs:Value} (h:PkSt B pk rb bx w r ps vp vs wr):PkSt B pk rb bx w r ps vp vs wr.drew:=⟨h.pk.drew,h.rb.drew,h.fine,h.box,h.o1,h.o2,h.bel.drew,h.ok,h.lt⟩
theorem PkSt.next {B pk rb bx:Nat} {w wr W:World} {r:Rd} {ps:List (Pt × Nat)} {vp vs v1 v2:Value} {pt:Pt} {sp:Nat} (h:PkSt B pk rb bx w r ps vp vs wr) (hA:A2 (w.heap.size + 1) 299 3 3 1 wr v1 (ps.length + 1) (ptsF (ps.map (·.1)) ++ ptF pt) v2 (ps.length + 1) (ksV (ps.map (·.2)) ++ [.int .i64 (sp:Int)]) none none W) (hpk:pk < w.heap.size) (hrl:rb < w.heap.size) (hbx:bx = w.heap.size) (hne:pk ≠ rb) (hB:B ≤ pk)
  (hok:-1000000 ≤ pt.base ∧ pt.base ≤ 1000000 ∧ pt.text.size ≤ 1000000):PkSt B pk rb bx w r (ps ++ [(pt,sp)]) v1 v2 ((W.setCell ⟨pk,1,none⟩ v1).setCell ⟨pk,2,none⟩ v2):=by
 subst hbx
 obtain ⟨cs,hb,hc⟩:=h.box
 have hbw:Below wr.heap.size wr wr:=Below.refl _ _
 have hb2:BoxL W w.heap.size 299 cs:=(hA.bel.block _ (Nat.lt_succ_self _)).trans hb
 have hp2:=h.pk.below hA.bel (by omega)
 have hr2:=h.rb.below hA.bel (by omega)
 have e1:(ps ++ [(pt,sp)]).map (·.1) = ps.map (·.1) ++ [pt]:=by simp
 have e2:(ps ++ [(pt,sp)]).map (·.2) = ps.map (·.2) ++ [sp]:=by simp
 have e3:(ps ++ [(pt,sp)]).length = ps.length + 1:=by simp
 refine ⟨((hp2.set 1 (by decide) v1).set 2 (by decide) v2).congr fun k hk => ?_,(hr2.far hne _).far hne _,h.fine,⟨cs,?_,hc⟩,?_,?_,?_,?_,?_⟩
 ·unfold upd pkC
  obtain h | h | h:k = 0 ∨ k = 1 ∨ k = 2:=by omega
  all_goals subst h;rfl
 ·show ((W.setCell ⟨pk,1,none⟩ v1).setCell ⟨pk,2,none⟩ v2).heap[w.heap.size]? = _
  rw [Go.Deep.blk_setCell_other _ _ _ _ (by show w.heap.size ≠ pk;omega),Go.Deep.blk_setCell_other _ _ _ _ (by show w.heap.size ≠ pk;omega)]
  exact hb2
 ·rw [e1,e3,D6]
  have h1:=fO (o:=1) (u:=v1) hA.o1 (own_ne hA.o1 (b:=pk) (by omega))
  exact fO (o:=2) (u:=v2) h1 (own_ne h1 (b:=pk) (by omega))
 ·rw [e2,e3,Ho]
  have h1:=fO (o:=1) (u:=v1) hA.o2 (own_ne hA.o2 (b:=pk) (by omega))
  exact fO (o:=2) (u:=v2) h1 (own_ne h1 (b:=pk) (by omega))
 ·exact (((h.bel.trans (hA.bel.mono (by omega))).setCell (p:=⟨pk,1,none⟩) hB _).setCell (p:=⟨pk,2,none⟩) hB _)
 ·rw [e1]
  intro p hp
  rcases List.mem_append.1 hp with hp | hp
  ·exact h.ok p hp
  rcases List.mem_singleton.1 hp with rfl;exact hok
 have:=hA.sz
 have:=h.lt
 have h1:=(bC W pk 1 [v1]).size
 have h2:=(bC (W.setCell ⟨pk,1,none⟩ v1) pk 2 [v2]).size
 show w.heap.size < ((W.setCell ⟨pk,1,none⟩ v1).setCell ⟨pk,2,none⟩ v2).heap.size
 have e:(W.setCells pk 1 [v1]) = W.setCell ⟨pk,1,none⟩ v1:=rfl
 have e':((W.setCell ⟨pk,1,none⟩ v1).setCells pk 2 [v2]) = (W.setCell ⟨pk,1,none⟩ v1).setCell ⟨pk,2,none⟩ v2:=rfl
 rw [e] at h1
 rw [e'] at h2
 omega
structure Glob (w:World):Prop where
 laid:Laid w
 max:kW w
 crc:Crc w
 ord:w.rangeAt 0 0 [.string fM,.string jZ,.string sRef]
theorem Glob.gY {w w':World} {B:Nat} (h:Glob w) (hb:Below B w w') (hB:5 ≤ B):Glob w':=by
 have h5:=h.laid.lt
 have hs:=hb.size
 exact ⟨⟨aF h.laid.rounds hb (by omega),aF h.laid.first hb (by omega),by omega⟩,h.max.below hb (by omega),⟨aF h.crc.row hb (by omega),by have:=h.crc.lt;omega⟩,aF h.ord hb (by omega)⟩
theorem Glob.below {w w':World} (h:Glob w) (hb:Below w.heap.size w w'):Glob w':=h.gY hb h.laid.lt
def paC (vp vs vi vo:Value) (k:Nat):Value:=if k = 0 then vp else if k = 1 then vs else if k = 2 then vi else vo
structure A3 (ks:List Nat) (B:Nat) (E1 E2:TypeId) (s1 s2:Nat) (wz:World) (v1:Value) (n1:Nat) (x1:List Value) (v2:Value) (n2:Nat) (x2:List Value) (q1 q2:Option (Nat × List Value)) (W:World):Prop where
 a:A2 B E1 E2 s1 s2 wz v1 n1 x1 v2 n2 x2 q1 q2 W
 keep:∀ k ∈ ks,W.heap[k]? = wz.heap[k]?
section
variable {ks:List Nat} {B:Nat} {E1 E2:TypeId} {s1 s2:Nat} {wz W W':World} {v1 v1':Value} {n1 n1':Nat} {x1 x1':List Value} {v2 v2':Value} {n2 n2':Nat} {x2 x2':List Value} {y1 y2:Option (Nat × List Value)}
theorem A3.o1 (h:A3 ks B E1 E2 s1 s2 wz v1 n1 x1 v2 n2 x2 y1 y2 W):W.ownsRow B E1 s1 v1 n1 x1:=h.a.o1
theorem A3.o2 (h:A3 ks B E1 E2 s1 s2 wz v1 n1 x1 v2 n2 x2 y1 y2 W):W.ownsRow B E2 s2 v2 n2 x2:=h.a.o2
theorem A3.sz (h:A3 ks B E1 E2 s1 s2 wz v1 n1 x1 v2 n2 x2 y1 y2 W):wz.heap.size ≤ W.heap.size:=h.a.sz
theorem A3.q1 (h:A3 ks B E1 E2 s1 s2 wz v1 n1 x1 v2 n2 x2 y1 y2 W):∀ b c,y1 = some (b,c) → wz.heap.size ≤ b ∧ b < W.heap.size ∧ W.rangeAt b 0 c:=h.a.q1
theorem A3.q2 (h:A3 ks B E1 E2 s1 s2 wz v1 n1 x1 v2 n2 x2 y1 y2 W):∀ b c,y2 = some (b,c) → wz.heap.size ≤ b ∧ b < W.heap.size ∧ W.rangeAt b 0 c:=h.a.q2
theorem A3.drew (h:A3 ks B E1 E2 s1 s2 wz v1 n1 x1 v2 n2 x2 y1 y2 W):A3 ks B E1 E2 s1 s2 wz v1 n1 x1 v2 n2 x2 y1 y2 W.drew:=⟨h.a.drew,h.keep⟩
end
theorem xq {s:List UInt8} {o:Ob} (h:bV s = some o):aB o = true:=by
 unfold bV at h
 split at h
 ·cases h
 split at h
 ·cases h
 split at h
 ·cases h
 split at h
 ·rename_i hr;cases h;exact hr
 cases h
theorem Glob.grown {w w':World} {g:Nat} (h:Glob w) (hg:w.grownBy w' (some g)) (h5:5 ≤ g):Glob w':=by
 have hb:Below 5 w w':=⟨hg.os,hg.tape,hg.output,hg.size,fun k hk => hg.block k (by have:=h.laid.lt;omega) (fun e => by have:=Option.some.inj e;omega)⟩
 exact h.gY hb (Nat.le_refl _)
theorem eO:(prog.info? 33).map (·.size) = some 2:=by decide +kernel
theorem JH:(prog.info? 42).map (·.size) = some 32:=by kernel_rfl
theorem lu (o:Ob):∀ v ∈ obC o,v.oneCell' = true:=by
 intro v hv
 unfold obC at hv
 simp at hv
 rcases hv with rfl | rfl <;> rfl
structure FlSt (g:Nat) (vp vs:Value) (w:World) (os:List Ob) (vi vo:Value) (wr:World):Prop where
 pa:Arr wr g 4 (paC vp vs vi vo)
 o1:wr.ownsRow w.heap.size 42 32 vi os.length (idsF (os.map idO))
 o2:wr.ownsRow w.heap.size 33 2 vo os.length (obsF os)
 gr:w.grownBy wr (some g)
theorem FlSt.below {g:Nat} {vp vs vi vo:Value} {w wr w':World} {os:List Ob} (h:FlSt g vp vs w os vi vo wr) (hb:Below wr.heap.size wr w'):FlSt g vp vs w os vi vo w' :=
 ⟨h.pa.below hb (h.pa.lt (by omega)),own_below h.o1 hb,own_below h.o2 hb,iq h.gr hb⟩
theorem xR {w w1 w2:World} {r:Option Nat} (h1:w.grownBy w1 r) (h2:Below w.heap.size w1 w2):w.grownBy w2 r :=
 ⟨by rw [h2.os,h1.os],by rw [h2.tape,h1.tape],by rw [h2.output,h1.output],Nat.le_trans h1.size h2.size,fun k hk hne => by rw [h2.block k hk,h1.block k hk hne]⟩
theorem FlSt.next {g:Nat} {vp vs vi vo v1 v2:Value} {w wr W:World} {os:List Ob} {o:Ob} {ks:List Nat} (h:FlSt g vp vs w os vi vo wr) (hg:g < w.heap.size) (hA:A3 ks w.heap.size 42 33 32 2 wr v1 (os.length + 1) (idsF (os.map idO) ++ idC (idO o)) v2 (os.length + 1) (obsF os ++ obC o) none none W) :
  FlSt g vp vs w (os ++ [o]) v1 v2 ((W.setCell ⟨g,2,none⟩ v1).setCell ⟨g,3,none⟩ v2):=by
 have hp2:=h.pa.below hA.a.bel hg
 have e1:(os ++ [o]).map idO = os.map idO ++ [idO o]:=by simp
 have e3:(os ++ [o]).length = os.length + 1:=by simp
 have e4:obsF (os ++ [o]) = obsF os ++ obC o:=by simp [obsF]
 have n1:=own_ne hA.a.o1 hg
 have n2:=own_ne hA.a.o2 hg
 have s1:=fO (o:=2) (u:=v1) hA.a.o1 n1
 have s2:=fO (o:=2) (u:=v1) hA.a.o2 n2
 refine ⟨((hp2.set 2 (by decide) v1).set 3 (by decide) v2).congr fun k hk => ?_,?_,?_,?_⟩
 ·unfold upd paC
  obtain h | h | h | h:k = 0 ∨ k = 1 ∨ k = 2 ∨ k = 3:=by omega
  all_goals subst h;rfl
 ·rw [e1,e3,lG]
  exact fO (o:=3) (u:=v2) s1 (own_ne s1 hg)
 ·rw [e3,e4]
  exact fO (o:=3) (u:=v2) s2 (own_ne s2 hg)
 exact bg (bg (xR h.gr hA.a.bel) _) _
theorem FlSt.ids {g:Nat} {vp vs vi vo:Value} {w wr:World} {os:List Ob} (h:FlSt g vp vs w os vi vo wr):bB wr vi (os.map idO) :=
 aS.bZ (B:=w.heap.size) (e:=42) (fun r hr => by
  obtain ⟨x,hx,rfl⟩:=List.mem_map.1 hr
  obtain ⟨o,_,rfl⟩:=List.mem_map.1 hx
  rw [au,eP]) (by rw [List.length_map,List.length_map];exact h.o1)
theorem FlSt.obs {g:Nat} {vp vs vi vo:Value} {w wr:World} {os:List Ob} (h:FlSt g vp vs w os vi vo wr):qy wr vo os :=
 aS.bZ (B:=w.heap.size) (e:=33) (fun r hr => by obtain ⟨x,_,rfl⟩:=List.mem_map.1 hr;rfl) (by rw [List.length_map];exact h.o2)
def PkAt (w:World) (g:Nat) (p:Pk):Prop:=∃ vp vs vi vo,Arr w g 4 (paC vp vs vi vo) ∧ qx w vp (p.parts.map (·.1)) ∧ qA w vs (p.parts.map (·.2)) ∧ bB w vi (p.obs.map idO) ∧ qy w vo p.obs
theorem PkAt.below {w w':World} {g:Nat} {p:Pk} (h:PkAt w g p) (hb:Below w.heap.size w w'):PkAt w' g p:=by
 obtain ⟨vp,vs,vi,vo,h1,h2,h3,h4,h5⟩:=h
 exact ⟨vp,vs,vi,vo,h1.below hb (h1.lt (by omega)),h2.below hb,h3.below hb,h4.below hb,h5.below hb⟩
theorem PkAt.lt {w:World} {g:Nat} {p:Pk} (h:PkAt w g p):g < w.heap.size:=by
 obtain ⟨vp,vs,vi,vo,h1,_⟩:=h
 exact h1.lt (show 0 < 4 by omega)
structure RkSt (w:World) (r:Rd) (ps:List (Pt × Nat)) (vp vs:Value) (wr:World):Prop where
 rb:Arr wr w.heap.size 3 r.c
 fine:r.fine
 o1:wr.ownsRow (w.heap.size + 1) 299 3 vp ps.length (ptsF (ps.map (·.1)))
 o2:wr.ownsRow (w.heap.size + 1) 3 1 vs ps.length (ksV (ps.map (·.2)))
 bel:Below w.heap.size w wr
 ok:PtOk (ps.map (·.1))
 lt:w.heap.size < wr.heap.size
theorem RkSt.fr1 {w:World} {r:Rd} {ps:List (Pt × Nat)} {vp vs:Value} {wr:World} (h:RkSt w r ps vp vs wr):kY w vp:=fun g hg => by have:=(h.o1.lt g hg).1;omega
theorem RkSt.below {w wr w':World} {r:Rd} {ps:List (Pt × Nat)} {vp vs:Value} (h:RkSt w r ps vp vs wr) (hb:Below wr.heap.size wr w'):RkSt w r ps vp vs w' :=
 ⟨h.rb.below hb h.lt,h.fine,own_below h.o1 hb,own_below h.o2 hb,h.bel.trans (hb.mono (Nat.le_of_lt h.lt)),h.ok,Nat.lt_of_lt_of_le h.lt hb.size⟩
theorem RkSt.read {w wr w':World} {r r':Rd} {ps:List (Pt × Nat)} {vp vs:Value} (h:RkSt w r ps vp vs wr) (hA:Arr w' w.heap.size 3 r'.c) (hf:r'.fine) (hg:wr.grownBy w' (some w.heap.size)):RkSt w r' ps vp vs w' :=
 ⟨hA,hf,jy h.o1 hg (by omega),jy h.o2 hg (by omega),h.bel.grown hg (Nat.le_of_lt h.lt) (fun k hk => by cases hk;exact Nat.le_refl _),h.ok,Nat.lt_of_lt_of_le h.lt hg.size⟩
def numF:List UInt8 → Nat → Option Nat
 | [],a => some a
 | d :: ds,a => if d.toNat < 48 ∨ 57 < d.toNat then none else numF ds (10 * a + (d.toNat - 48))
def NumI (l:List UInt8) (k a:Nat):Prop:=numF l 0 = numF (l.drop k) a ∧ a < 10 ^ k
theorem NumI.zero (l:List UInt8):NumI l 0 0:=⟨by rw [List.drop_zero],by decide⟩
theorem NumI.next {l:List UInt8} {k a:Nat} {d:UInt8} (h:NumI l k a) (hd:l[k]? = some d) (hb:¬ (d.toNat < 48 ∨ 57 < d.toNat)):NumI l (k + 1) (10 * a + (d.toNat - 48)):=by
 obtain ⟨hk,e⟩:=List.getElem?_eq_some_iff.1 hd
 refine ⟨?_,?_⟩
 ·rw [h.1,List.drop_eq_getElem_cons hk,e]
  conv => lhs;unfold numF
  rw [if_neg hb]
 have:=h.2
 rw [Nat.pow_succ]
 omega
theorem NumI.small {l:List UInt8} {k a:Nat} (h:NumI l k a) (hk:k ≤ 6):a < 1000000:=Nat.lt_of_lt_of_le h.2 (Nat.pow_le_pow_right (by decide) hk:10 ^ k ≤ 10 ^ 6)
theorem vR (l p:List UInt8):Lib.hasPrefix l p = decide (l.take p.length = p):=by
 unfold Lib.hasPrefix
 rw [Bool.eq_iff_iff,decide_eq_true_iff,List.isPrefixOf_iff_prefix,List.prefix_iff_eq_take]
 exact eq_comm
def cpO (s:ByteArray):ByteArray:=⟨(Lib.trimPrefix s.data.toList slo1).toArray⟩
theorem IK (s:ByteArray) (w:World):Calls prog 135 #[.string s,.string ⟨#[83,76,79,49]⟩] w fun e w' => e = .returned (.tuple #[.string (cpO s),.bool (decide (s.data.toList.take 4 = slo1))]) ∧ w' = w:=by
 have h:=Any.strings_CutPrefix Tryz.lays103 s ⟨#[83,76,79,49]⟩ w
 have e:=vR s.data.toList slo1
 rw [show slo1.length = 4 from rfl] at e
 rw [← e]
 exact h
theorem IL (s:ByteArray):(cpO s).size ≤ s.size:=by
 have e:(cpO s).size = (Lib.trimPrefix s.data.toList slo1).length:=by unfold cpO;simp [ByteArray.size]
 rw [e]
 unfold Lib.trimPrefix
 have:s.data.toList.length = s.size:=by simp
 split
 ·rw [List.length_drop];omega
 omega
theorem IQ {s:ByteArray} (h:s.data.toList.take 4 = slo1):(cpO s).data.toList = s.data.toList.drop 4:=by
 have h2:Lib.hasPrefix s.data.toList slo1 = true:=by rw [vR];exact decide_eq_true h
 unfold cpO Lib.trimPrefix
 rw [if_pos h2]
 rfl
theorem Bl (b:ByteArray):loOb b = if (unOk b && decide ((unS b).data.toList.take 4 = slo1)) = true then bV (cpO (unS b)).data.toList else none:=by
 unfold loOb
 cases hu:eG b.data.toList with
 | none =>
  have e2:unOk b = false:=by unfold unOk;rw [hu];rfl
  rw [e2,Bool.false_and,if_neg (by decide)]
 | some l =>
  have e1:unS b = ofB l:=by unfold unS;rw [hu];rfl
  have e2:unOk b = true:=by unfold unOk;rw [hu];rfl
  have e3:(ofB l).data.toList = l:=by simp [ofB]
  dsimp only
  by_cases h:l.take 4 = slo1
  ·rw [if_pos h,e2,Bool.true_and,if_pos (decide_eq_true (by rw [e1,e3];exact h)),IQ (by rw [e1,e3];exact h),e1,e3]
  rw [if_neg h,if_neg (fun x => h (by rw [e2,Bool.true_and] at x;have:=of_decide_eq_true x;rwa [e1,e3] at this))]
def Dg (nm b:ByteArray) (w:World) (e:Ending) (w':World):Prop :=
 (match rdLo nm b with
 | none => e = .returned (.tuple #[.agg #[.int .i64 0,.string ⟨#[]⟩],.bool false])
 | some o => e = .returned (.tuple #[.agg (obC o).toArray,.bool true])) ∧ Below w.heap.size w w'
theorem nN {nm b:ByteArray} {w w':World} (h:rdLo nm b = none) (hb:Below w.heap.size w w'):Dg nm b w (.returned (.tuple #[.agg #[.int .i64 0,.string ⟨#[]⟩],.bool false])) w':=⟨by rw [h],hb⟩
theorem Ew {nm b:ByteArray} {o:Ob} {c:List Value} {w w':World} (h:rdLo nm b = some o) (hc:obC o = c) (hb:Below w.heap.size w w'):Dg nm b w (.returned (.tuple #[.agg c.toArray,.bool true])) w':=⟨by rw [h,← hc],hb⟩
theorem xG (w:World):(Instr.build 33 #[]).run prog w = .ok (.agg #[.int .i64 0,.string ⟨#[]⟩]) w:=run_build w 33 _ _ (by kernel_rfl)
theorem Ev (nm b:ByteArray) (w:World) (hb:b.size ≤ 1000000) (hG:Glob w):Calls prog 76 #[.string nm,.string b] w (Dg nm b w):=by
 have hbn:=xG
 obtain ⟨zi,j0,ji,jz0,jz1,jz2,hziv,hzil⟩:=dH
 have HZI:=ah hzil
 obtain ⟨W0,hW0⟩:∃ W,w.alloc (.cells #[.int .i64 0,.string ⟨#[]⟩] 33) = W:=⟨_,rfl⟩
 have HX0:Hid (BoxL W0 w.heap.size 33 [.int .i64 0,.string ⟨#[]⟩]):=ah (by rw [← hW0];exact BoxL.new w 33 [.int .i64 0,.string ⟨#[]⟩])
 have HB0:Hid (Below w.heap.size w W0):=ah (by rw [← hW0];exact bal)
 have HG:=ah hG
 have HUN:=ah (rD b W0 (hG.below HB0.out).crc (by omega))
 have HLO:=ah (Bl b)
 have hus:(unS b).size ≤ 1000000:=by
  unfold unS
  cases hu:eG b.data.toList with
  | none => exact Nat.zero_le _
  | some l =>
   show (ofB l).size ≤ _
   rw [bq]
   unfold eG at hu
   split at hu
   ·cases hu
    rw [List.length_take]
    have:b.data.toList.length = b.size:=by simp
    omega
   cases hu
 have hcs:=IL (unS b)
 have HCU:=ah (IK (unS b))
 have HRL:Hid (rdLo nm b = match loOb b with | none => none | some o => if ofB (hexL (idO o)) = nm then some o else none):=ah rfl
 rw [HLO.out] at HRL
 have HW0:=ah hW0
 clear hW0 hG hb HLO
 obtain ⟨p,hp⟩:∃ p,decide ((unS b).data.toList.take 4 = slo1) = p:=⟨_,rfl⟩
 rw [hp] at HCU HRL
 clear hp
 generalize cpO (unS b) = s at HCU HRL hcs
 generalize unS b = us at HUN HCU hcs hus
 generalize unOk b = u at HUN HRL
 go_enter func76,ntmps76
 go_upto_region 1 with fail
 rw [HW0.out]
 go_wp2_with fail
 refine HUN.out.mono ?_
 rintro e w1 ⟨rfl,hb1⟩
 have HX1:=ah (HX0.out.below hb1)
 have HB1:=bth HB0 hb1
 clear hb1 HUN
 go_wp2_with fail
 refine (HCU.out w1).mono ?_
 rintro e w1' ⟨rfl,rfl⟩
 have HOR:=ah (zo s w1' (by omega) (HG.out.below HB1.out).max)
 clear HCU
 go_wp2_with fail
 refine HOR.out.mono ?_
 rintro e w3 hans
 have HX3:=ah (HX1.out.below hans.1)
 have HB3:=ah (HB1.out.trans (hans.1.mono HB1.out.size))
 obtain ⟨o,c,rfl,hoc⟩:∃ (o:Ob) (c:Nat),e = .returned (.tuple #[.agg (obC o).toArray,.int .i64 (c:Int)]) ∧ ((c = 0 ∧ bV s.data.toList = some o) ∨ (c = 2 ∧ bV s.data.toList = none)):=by
  rcases hans.2 with ⟨o,h1,h2⟩ | ⟨h1,h2⟩
  ·exact ⟨o,0,h2,.inl ⟨rfl,h1⟩⟩
  exact ⟨ob0,2,h2,.inr ⟨rfl,h1⟩⟩
 have HOC:=ah hoc
 clear hans hoc
 have HT4:=ah (there_alloc (n:=2) w3 #[.int .i64 0,.string ⟨#[]⟩] 33 rfl)
 have HIO:=ah eO
 obtain ⟨W4,hW4⟩:∃ W,(w3.alloc (.cells #[.int .i64 0,.string ⟨#[]⟩] 33)).setCells w3.heap.size 0 (obC o) = W:=⟨_,rfl⟩
 have HBX4:Hid (BoxL W4 w3.heap.size 33 (obC o)):=ah (by rw [← hW4];exact (BoxL.new w3 33 [.int .i64 0,.string ⟨#[]⟩]).set rfl)
 have hb4:Below w3.heap.size w3 W4:=by rw [← hW4];exact below_setCells _ (Nat.le_refl _) _ _ _ bal
 have HX4:=ah (HX3.out.below hb4)
 have HB4:=bth HB3 hb4
 have HID:=ah (show Calls prog 51 #[.agg (obC o).toArray] W4 (oF o.kind o.body W4) from xD o.kind o.body W4 (HG.out.below HB4.out).laid)
 unfold oF at HID
 have hr4:=HBX4.out.range
 have h2o:(prog.info? 33).map (·.size) = some (obC o).length:=eO
 have HOC1:=ah (lu o)
 have HOCL:Hid ((obC o).length = 2):=ah rfl
 have HRO:Hid (bV s.data.toList = some o → aB ⟨o.kind,o.body⟩ = true):=ah fun h => xq h
 have HW4:=ah hW4
 obtain ⟨y,hy⟩:∃ y,(if aB ⟨o.kind,o.body⟩ = true then idO ⟨o.kind,o.body⟩ else zid) = y:=⟨_,rfl⟩
 have HY32:Hid (y.length = 32):=ah (by
  rw [← hy]
  split
  ·exact eP _
  exact aV)
 rw [hy] at HID
 have HY:Hid (bV s.data.toList = some o → y = idO o):=ah fun h => by rw [← hy,if_pos (HRO.out h)]
 obtain ⟨ok,hok⟩:∃ ok,aB ⟨o.kind,o.body⟩ = ok:=⟨_,rfl⟩
 rw [hok] at HID HRO
 clear hW4 hy hok hb4
 generalize hco:obC o = co at hr4 h2o HOC1 HOCL HW4 HID HBX4 ⊢
 have HCO:=ah hco
 clear hco
 go_upto_region 4 with (refine aj rfl 33 _ _ rfl w3.heap.size 0 co rfl rfl 2 HOCL.out HT4.out HIO.out HOC1.out ?_;rw [HW4.out])
 go_wp2_with (refine wpList_load_mid rfl 33 _ rfl w3.heap.size 0 rfl co _ hr4 underlying33 rfl h2o ?_)
 refine HID.out.mono ?_
 rintro e w5 ⟨rfl,hb5⟩
 have HX5:=ah (HX4.out.below hb5)
 have HB5:=bth HB4 hb5
 have HBX5:=ah (HBX4.out.below hb5)
 clear hb5 hr4 HID
 have HT6:=ah (there_alloc (n:=32) w5 zi 42 HZI.out)
 have HII:=ah JH
 have HCI:Hid ((idC y).length = 32 ∧ ∀ v ∈ idC y,v.oneCell' = true):=ah ⟨by rw [au,HY32.out],aM y⟩
 obtain ⟨W6,hW6⟩:∃ W,(w5.alloc (.cells zi 42)).setCells w5.heap.size 0 (idC y) = W:=⟨_,rfl⟩
 have HBX6:Hid (BoxL W6 w5.heap.size 42 (idC y)):=ah (by rw [← hW6];exact BoxL.set (cs:=zi.toList) (by have:=BoxL.new w5 42 zi.toList;simpa using this) (by rw [HCI.out.1];simpa using HZI.out.symm))
 have hb6:Below w5.heap.size w5 W6:=by rw [← hW6];exact below_setCells _ (Nat.le_refl _) _ _ _ bal
 have HX6:=ah (HX5.out.below hb6)
 have HB6:=bth HB5 hb6
 have HOX6:=ah (HBX5.out.below hb6)
 have HNM:=ah (lF y HY32.out W6)
 have h32:=mI HCI.out.1
 have r6:=HBX6.out.range
 have HW6:=ah hW6
 clear hW6 hb6
 generalize hci:idC y = ci at HCI HW6 HBX6 HNM h32 r6
 clear hci
 go_upto_region 5 with (refine aj rfl 42 _ _ rfl w5.heap.size 0 ci rfl rfl 32 HCI.out.1 HT6.out HII.out HCI.out.2 ?_;rw [HW6.out])
 cases u with
 | false =>
  have HNO:Hid (rdLo nm b = none):=ah (by rw [HRL.out,Bool.false_and,if_neg (by decide)])
  clear r6 h32
  go_upto_region 6 with fail
  have hth:W6.there w.heap.size 0 2:=HX6.out.there
  have h2r:(prog.info? 33).map (·.size) = some ([.int .i64 0,.string ⟨#[]⟩]:List Value).length:=eO
  obtain ⟨WE,hWE⟩:∃ WE,W6.setCells w.heap.size 0 [.int .i64 0,.string ⟨#[]⟩] = WE:=⟨_,rfl⟩
  have HRE:Hid (BoxL WE w.heap.size 33 [.int .i64 0,.string ⟨#[]⟩]):=ah (by rw [← hWE];exact HX6.out.set rfl)
  have HBE:Hid (Below w.heap.size w WE):=ah (by rw [← hWE];exact below_setCells _ (Nat.le_refl _) _ _ _ HB6.out)
  have HWE:=ah hWE
  clear hWE
  go_wp2_with (refine aj rfl 33 _ _ rfl w.heap.size 0 [.int .i64 0,.string ⟨#[]⟩] rfl rfl 2 rfl hth HIO.out (by intro v hv;simp at hv;rcases hv with rfl | rfl <;> rfl) ?_;rw [HWE.out])
  have hre:=HRE.out.range
  (try simp only [Exit.inBlock,Exit.then])
  refine aL rfl w.heap.size 0 rfl [.int .i64 0,.string ⟨#[]⟩] _ hre underlying33 rfl h2r rfl _ rfl ?_
  exact nN HNO.out HBE.out
 | true =>
  cases p with
  | false =>
   have HNO:Hid (rdLo nm b = none):=ah (by rw [HRL.out,Bool.true_and,if_neg (by decide)])
   clear r6 h32
   go_upto_region 6 with fail
   have hth:W6.there w.heap.size 0 2:=HX6.out.there
   have h2r:(prog.info? 33).map (·.size) = some ([.int .i64 0,.string ⟨#[]⟩]:List Value).length:=eO
   obtain ⟨WE,hWE⟩:∃ WE,W6.setCells w.heap.size 0 [.int .i64 0,.string ⟨#[]⟩] = WE:=⟨_,rfl⟩
   have HRE:Hid (BoxL WE w.heap.size 33 [.int .i64 0,.string ⟨#[]⟩]):=ah (by rw [← hWE];exact HX6.out.set rfl)
   have HBE:Hid (Below w.heap.size w WE):=ah (by rw [← hWE];exact below_setCells _ (Nat.le_refl _) _ _ _ HB6.out)
   have HWE:=ah hWE
   clear hWE
   go_wp2_with (refine aj rfl 33 _ _ rfl w.heap.size 0 [.int .i64 0,.string ⟨#[]⟩] rfl rfl 2 rfl hth HIO.out (by intro v hv;simp at hv;rcases hv with rfl | rfl <;> rfl) ?_;rw [HWE.out])
   have hre:=HRE.out.range
   (try simp only [Exit.inBlock,Exit.then])
   refine aL rfl w.heap.size 0 rfl [.int .i64 0,.string ⟨#[]⟩] _ hre underlying33 rfl h2r rfl _ rfl ?_
   exact nN HNO.out HBE.out
  | true =>
   have HRL2:Hid (rdLo nm b = match bV s.data.toList with | none => none | some o => if ofB (hexL (idO o)) = nm then some o else none):=ah (by rw [HRL.out,Bool.true_and,if_pos rfl])
   rcases HOC.out with ⟨rfl,hrd⟩ | ⟨rfl,hrd⟩
   ·have HRL3:Hid (rdLo nm b = if ofB (hexL y) = nm then some o else none):=ah (by rw [HRL2.out,hrd,HY.out hrd])
    have hok:=HRO.out hrd
    subst hok
    have f0:((ofB (hexL y)).toList != nm.toList) = !decide (ofB (hexL y) = nm):=by rw [bne,uF]
    clear hrd HRO HY HOC
    go_wp2_with (refine bD rfl 42 _ rfl w5.heap.size 0 rfl ci _ r6 underlying42 rfl h32 ?_)
    refine HNM.out.mono ?_
    rintro e w7 ⟨rfl,hb7⟩
    have HX7:=ah (HX6.out.below hb7)
    have HB7:=bth HB6 hb7
    have HOX7:=ah (HOX6.out.below hb7)
    clear hb7 r6 h32 HNM
    by_cases hnm:ofB (hexL y) = nm
    ·have f1:((ofB (hexL y)).toList == nm.toList) = true:=by rw [uF,decide_eq_true hnm]
     clear f0
     have HYE:Hid (rdLo nm b = some o):=ah (by rw [HRL3.out,if_pos hnm])
     clear hnm HRL3
     generalize ofB (hexL y) = t at f1
     have hth:w7.there w.heap.size 0 2:=HX7.out.there
     have h2r:(prog.info? 33).map (·.size) = some (co:List Value).length:=by rw [HOCL.out];exact eO
     obtain ⟨WE,hWE⟩:∃ WE,w7.setCells w.heap.size 0 co = WE:=⟨_,rfl⟩
     have HRE:Hid (BoxL WE w.heap.size 33 co):=ah (by rw [← hWE];exact HX7.out.set (by rw [HOCL.out];rfl))
     have HBE:Hid (Below w.heap.size w WE):=ah (by rw [← hWE];exact below_setCells _ (Nat.le_refl _) _ _ _ HB7.out)
     have HWE:=ah hWE
     clear hWE
     have r7:=HOX7.out.range
     go_wp2_with (first
      | refine wpList_load_mid rfl 33 _ rfl w3.heap.size 0 rfl co _ r7 underlying33 rfl h2o ?_
      | (refine aj rfl 33 _ _ rfl w.heap.size 0 co rfl rfl 2 HOCL.out hth HIO.out HOC1.out ?_;rw [HWE.out]))
     have hre:=HRE.out.range
     (try simp only [Exit.inBlock,Exit.then])
     refine aL rfl w.heap.size 0 rfl co _ hre underlying33 rfl h2r rfl _ rfl ?_
     exact Ew HYE.out HCO.out HBE.out
    have f1:((ofB (hexL y)).toList == nm.toList) = false:=by rw [uF,decide_eq_false hnm]
    clear f0
    have HNO:Hid (rdLo nm b = none):=ah (by rw [HRL3.out,if_neg hnm])
    clear hnm HRL3
    generalize ofB (hexL y) = t at f1
    go_upto_region 6 with fail
    have hth:w7.there w.heap.size 0 2:=HX7.out.there
    have h2r:(prog.info? 33).map (·.size) = some ([.int .i64 0,.string ⟨#[]⟩]:List Value).length:=eO
    obtain ⟨WE,hWE⟩:∃ WE,w7.setCells w.heap.size 0 [.int .i64 0,.string ⟨#[]⟩] = WE:=⟨_,rfl⟩
    have HRE:Hid (BoxL WE w.heap.size 33 [.int .i64 0,.string ⟨#[]⟩]):=ah (by rw [← hWE];exact HX7.out.set rfl)
    have HBE:Hid (Below w.heap.size w WE):=ah (by rw [← hWE];exact below_setCells _ (Nat.le_refl _) _ _ _ HB7.out)
    have HWE:=ah hWE
    clear hWE
    go_wp2_with (refine aj rfl 33 _ _ rfl w.heap.size 0 [.int .i64 0,.string ⟨#[]⟩] rfl rfl 2 rfl hth HIO.out (by intro v hv;simp at hv;rcases hv with rfl | rfl <;> rfl) ?_;rw [HWE.out])
    have hre:=HRE.out.range
    (try simp only [Exit.inBlock,Exit.then])
    refine aL rfl w.heap.size 0 rfl [.int .i64 0,.string ⟨#[]⟩] _ hre underlying33 rfl h2r rfl _ rfl ?_
    exact nN HNO.out HBE.out
   have HNO:Hid (rdLo nm b = none):=ah (by rw [HRL2.out,hrd])
   clear r6 h32 hrd
   go_upto_region 6 with fail
   have hth:W6.there w.heap.size 0 2:=HX6.out.there
   have h2r:(prog.info? 33).map (·.size) = some ([.int .i64 0,.string ⟨#[]⟩]:List Value).length:=eO
   obtain ⟨WE,hWE⟩:∃ WE,W6.setCells w.heap.size 0 [.int .i64 0,.string ⟨#[]⟩] = WE:=⟨_,rfl⟩
   have HRE:Hid (BoxL WE w.heap.size 33 [.int .i64 0,.string ⟨#[]⟩]):=ah (by rw [← hWE];exact HX6.out.set rfl)
   have HBE:Hid (Below w.heap.size w WE):=ah (by rw [← hWE];exact below_setCells _ (Nat.le_refl _) _ _ _ HB6.out)
   have HWE:=ah hWE
   clear hWE
   go_wp2_with (refine aj rfl 33 _ _ rfl w.heap.size 0 [.int .i64 0,.string ⟨#[]⟩] rfl rfl 2 rfl hth HIO.out (by intro v hv;simp at hv;rcases hv with rfl | rfl <;> rfl) ?_;rw [HWE.out])
   have hre:=HRE.out.range
   (try simp only [Exit.inBlock,Exit.then])
   refine aL rfl w.heap.size 0 rfl [.int .i64 0,.string ⟨#[]⟩] _ hre underlying33 rfl h2r rfl _ rfl ?_
   exact nN HNO.out HBE.out
def unId (s:ByteArray):List UInt8:=(gy s.data.toList).getD zid
def rE (s:ByteArray):Bool:=(gy s.data.toList).isSome
def uG (s:ByteArray) (w:World) (e:Ending) (w':World):Prop:=e = .returned (.tuple #[.agg (idC (unId s)).toArray,.bool (rE s)]) ∧ Below w.heap.size w w'
theorem F5 (s:ByteArray):(unId s).length = 32:=by
 unfold unId gy
 split
 ·simp
 exact aV
theorem rF {s:ByteArray} {w w':World} (h:gy s.data.toList = none) (hb:Below w.heap.size w w'):uG s w (.returned (.tuple #[.agg (idC zid).toArray,.bool false])) w':=⟨by unfold unId rE;rw [h];rfl,hb⟩
theorem yD {s:ByteArray} (h:s.size ≠ 64):gy s.data.toList = none:=by
 unfold gy
 rw [if_neg (fun x => h (by have:=x.1;simpa using this))]
theorem vD {s:ByteArray} {i:Nat} (h:i < s.size) (hd:digI s[i] = -1):gy s.data.toList = none:=by
 unfold gy
 rw [if_neg]
 rintro ⟨_,h2⟩
 rw [List.all_eq_true] at h2
 have h3:=h2 s[i] (List.mem_iff_getElem.2 ⟨i,by simpa using h,rfl⟩)
 unfold digI at hd
 cases e:jE s[i] with
 | none => rw [e] at h3;cases h3
 | some n =>
  rw [e] at hd
  have h2:(n:Int) = -1:=hd
  omega
def unB (s:ByteArray) (i:Nat):UInt8:=UInt8.ofNat (16 * digV s.data.toList (2 * i) + digV s.data.toList (2 * i + 1))
theorem Ao {s:ByteArray} (h:s.size = 64) (hd:∀ (i:Nat) (hi:i < s.size),digI s[i] ≠ -1):gy s.data.toList = some ((List.range 32).map (unB s)):=by
 unfold gy
 rw [if_pos]
 ·rfl
 refine ⟨by simpa using h,List.all_eq_true.2 fun x hx => ?_⟩
 obtain ⟨i,hi,rfl⟩:=List.mem_iff_getElem.1 hx
 have hi':i < s.size:=by simpa using hi
 have:=hd i hi'
 unfold digI at this
 cases e:jE s[i] with
 | none => rw [e] at this;exact absurd rfl this
 | some n => exact (congrArg Option.isSome e)
theorem CU {s:ByteArray} {i n:Nat} (h:i < s.size) (hd:digI s[i] = (n:Int)):digV s.data.toList i = n:=by
 have e1:s.data.toList.getD i 0 = s[i]:=by
  rw [List.getD_eq_getElem?_getD,List.getElem?_eq_getElem (by simpa using h)];rfl
 unfold digV
 rw [e1]
 unfold digI at hd
 cases e:jE s[i] with
 | none =>
  rw [e] at hd
  have h2:(-1:Int) = n:=hd
  omega
 | some m =>
  rw [e] at hd
  have h2:(m:Int) = n:=hd
  show m = n
  omega
theorem uh (b:UInt8):digI b = -1 ∨ ∃ n:Nat,n < 16 ∧ digI b = (n:Int):=by
 unfold digI
 cases e:jE b with
 | none => exact .inl rfl
 | some n =>
  refine .inr ⟨n,?_,rfl⟩
  unfold jE at e
  split at e
  ·cases e;omega
  split at e
  ·cases e;omega
  cases e
theorem Gy:∀ a b:Fin 16,bits .or .i64 ((a.val:Int) * 16) (b.val:Int) = ((16 * a.val + b.val:Nat):Int):=by decide +kernel
def unA (s:ByteArray) (k i:Nat):Value:=if i < k then .int .u8 ((unB s i).toNat:Int) else .int .u8 0
theorem F6 (s:ByteArray) (k:Nat):upd (unA s k) k (.int .u8 ((unB s k).toNat:Int)) = unA s (k + 1):=by
 funext i
 unfold upd unA
 by_cases e:i = k
 ·rw [if_pos e,if_pos (by omega),e]
 rw [if_neg e]
 by_cases h:i < k
 ·rw [if_pos h,if_pos (by omega)]
 rw [if_neg h,if_neg (by omega)]
theorem Jk (s:ByteArray):(List.range 32).map (unA s 32) = idC ((List.range 32).map (unB s)):=by
 unfold idC
 rw [List.map_map]
 refine List.map_congr_left fun i hi => ?_
 unfold unA
 rw [if_pos (List.mem_range.1 hi)];rfl
theorem Du (s:ByteArray) (w:World):Calls prog 102 #[.string s] w (uG s w):=by
 obtain ⟨hizz,hizb⟩:=cK
 have hzl:(idC zid).length = 32:=by rw [au,aV]
 have HZO:=ah (aM zid)
 obtain ⟨uz,huz⟩:∃ uz,idC zid = uz:=⟨_,rfl⟩
 obtain ⟨W,hW⟩:∃ W,(w.alloc (.cells uz.toArray 42)).alloc (.cells uz.toArray 42) = W:=⟨_,rfl⟩
 have hb1:Below w.heap.size w (w.alloc (.cells uz.toArray 42)):=bal
 have hbW:Below w.heap.size w W:=by rw [← hW];exact hb1.alloc (by simp) _
 have HBR:Hid (BoxL W w.heap.size 42 uz):=ah (by rw [← hW];exact (BoxL.new w 42 uz).below bal)
 have HBI:Hid (BoxL W (w.heap.size + 1) 42 uz):=ah (by
  rw [← hW]
  have:=BoxL.new (w.alloc (.cells uz.toArray 42)) 42 uz
  rwa [World.size_alloc] at this)
 have HA0:Hid (Arr W (w.heap.size + 1) 32 (unA s 0)):=ah (by
  have h1:=HBI.out
  rw [← huz] at h1
  refine ⟨fun k hk => ?_,fun k hk => ?_⟩
  ·have:=h1.range k (.int .u8 0) (by unfold idC zid;rw [List.getElem?_map,List.getElem?_replicate,if_pos hk];rfl)
   rw [Nat.zero_add] at this
   rw [this];unfold unA;rw [if_neg (by omega)]
  have:=(h1.there k (by rw [hzl];exact hk)).2
  rwa [Nat.zero_add] at this)
 rw [huz] at hizz hizb hzl HZO
 have HUZ:=ah huz
 have HW:=ah hW
 have HBW:=ah hbW
 have HWS:Hid (W.heap.size = w.heap.size + 2):=ah (by rw [← hW];simp)
 have h32i:(prog.info? 42).map (·.size) = some 32:=by kernel_rfl
 have h32z:(prog.info? 42).map (·.size) = some uz.length:=by rw [hzl];exact h32i
 clear hW hbW hb1 huz
 by_cases h64:s.size = 64
 ·have d0:((s.size:Int) == 64) = true:=beq_iff_eq.2 (by omega)
  go_enter func102,ntmps102
  go_upto_region 2 with fail
  rw [HW.out]
  go_wp2_with fail
  go_loopw [5,6,7,12] (fun _ _ _ i wr => ∃ k:Nat,i = .int .i64 (k:Int) ∧ k ≤ 32 ∧ Hid (Arr wr (w.heap.size + 1) 32 (unA s k)) ∧ Hid (BoxL wr w.heap.size 42 uz) ∧ Hid (∀ (i:Nat) (hi:i < s.size),i < 2 * k → digI s[i] ≠ -1) ∧ Hid (Below w.heap.size w wr)) (fun _ _ _ i _ => (32 - intOf i).toNat)
  case atStart => exact ⟨0,rfl,by omega,HA0,HBR,ah (fun i _ h => by omega),HBW⟩
  obtain ⟨wo,rfl⟩:∃ wo:World,wo = wr:=⟨_,rfl⟩
  obtain ⟨k,rfl,hk,HA,HR,HD,HB⟩:=hrel
  by_cases hlt:k < 32
  ·have d1:decide ((k:Int) < 32) = true:=decide_eq_true (by omega)
   have w1:IntKind.i64.wrap (2 * (k:Int)) = 2 * (k:Int):=by rw [IntKind.wrap_i64];omega
   have w2:IntKind.i64.wrap (2 * (k:Int) + 1) = 2 * (k:Int) + 1:=by rw [IntKind.wrap_i64];omega
   obtain ⟨b1,hb1⟩:∃ b,s[2 * k]'(by omega) = b:=⟨_,rfl⟩
   obtain ⟨b2,hb2⟩:∃ b,s[2 * k + 1]'(by omega) = b:=⟨_,rfl⟩
   have hi1:∀ w,(Instr.index 9 (.string s) (.int .i64 (2 * (k:Int)))).run prog w = .ok (.int .u8 ((b1.toNat:Nat):Int)) w:=fun w => by
    have:=iY s w (2 * k) (by omega)
    rw [← hb1]
    have e:(blk s (2 * k)) = s[2 * k]'(by omega):=by unfold blk;rw [List.getD_eq_getElem?_getD,List.getElem?_eq_getElem (by simp;omega)];rfl
    rw [e,← q9] at this
    rw [← this];rfl
   have hi2:∀ w,(Instr.index 9 (.string s) (.int .i64 (2 * (k:Int) + 1))).run prog w = .ok (.int .u8 ((b2.toNat:Nat):Int)) w:=fun w => by
    have:=iY s w (2 * k + 1) (by omega)
    rw [← hb2]
    have e:(blk s (2 * k + 1)) = s[2 * k + 1]'(by omega):=by unfold blk;rw [List.getD_eq_getElem?_getD,List.getElem?_eq_getElem (by simp;omega)];rfl
    rw [e,← q9] at this
    rw [← this];rfl
   have HV1:Hid (∀ n:Nat,digI b1 = (n:Int) → digV s.data.toList (2 * k) = n):=ah (fun n h => CU (by omega) (by rw [hb1];exact h))
   have HV2:Hid (∀ n:Nat,digI b2 = (n:Int) → digV s.data.toList (2 * k + 1) = n):=ah (fun n h => CU (by omega) (by rw [hb2];exact h))
   have HNO:Hid (digI b1 = -1 ∨ digI b2 = -1 → gy s.data.toList = none):=ah (fun h => h.elim (fun h => vD (i:=2 * k) (by omega) (by rw [hb1];exact h)) (fun h => vD (i:=2 * k + 1) (by omega) (by rw [hb2];exact h)))
   have HD2:Hid (digI b1 ≠ -1 → digI b2 ≠ -1 → ∀ (i:Nat) (hi:i < s.size),i < 2 * (k + 1) → digI s[i] ≠ -1):=ah (fun h1 h2 i hi hik => by
    by_cases e1:i = 2 * k
    ·subst e1;rw [hb1];exact h1
    by_cases e2:i = 2 * k + 1
    ·subst e2;rw [hb2];exact h2
    exact HD.out i hi (by omega))
   clear hb1 hb2
   go_upto_region 7 with fail
   refine wbq ?_
   repeat (go_big_quiet_step ((first | (go_at_call 175;with_reducible exact ak (zL b1 _)) | (go_at_call 175;with_reducible exact ak (zL b2 _)))))
   refine wpQuiet_nil ?_
   intro wq hbq
   rcases uh b1 with hA1 | ⟨n1,hn1,hA1⟩
   ·have HN:=ah (HNO.out (.inl hA1))
    rw [hA1]
    have HBQ:=bth HB hbq
    have HRQ:=HR.out.below hbq
    have hT:=HRQ.there
    rw [hzl] at hT
    have HT:=ah hT
    have hr2:=(HRQ.set (us:=uz) rfl).range
    have HE:Hid (uG s w (.returned (.tuple #[.agg uz.toArray,.bool false])) (wq.setCells w.heap.size 0 uz)):=ah (by
     rw [← HUZ.out]
     exact rF HN.out (below_setCells (B:=w.heap.size) w.heap.size (Nat.le_refl _) _ 0 _ HBQ.out))
    clear hT HRQ hbq
    go_wp2_with (refine aj rfl 42 _ _ rfl w.heap.size 0 uz rfl rfl 32 hzl HT.out h32i HZO.out ?_)
    exact aL rfl w.heap.size 0 rfl uz _ hr2 underlying42 rfl h32z rfl _ rfl HE.out
   rcases uh b2 with hA2 | ⟨n2,hn2,hA2⟩
   ·have HN:=ah (HNO.out (.inr hA2))
    have c1:decide ((n1:Int) < 0) = false:=decide_eq_false (by omega)
    rw [hA1,hA2]
    have HBQ:=bth HB hbq
    have HRQ:=HR.out.below hbq
    have hT:=HRQ.there
    rw [hzl] at hT
    have HT:=ah hT
    have hr2:=(HRQ.set (us:=uz) rfl).range
    have HE:Hid (uG s w (.returned (.tuple #[.agg uz.toArray,.bool false])) (wq.setCells w.heap.size 0 uz)):=ah (by
     rw [← HUZ.out]
     exact rF HN.out (below_setCells (B:=w.heap.size) w.heap.size (Nat.le_refl _) _ 0 _ HBQ.out))
    clear hT HRQ hbq
    go_wp2_with (refine aj rfl 42 _ _ rfl w.heap.size 0 uz rfl rfl 32 hzl HT.out h32i HZO.out ?_)
    exact aL rfl w.heap.size 0 rfl uz _ hr2 underlying42 rfl h32z rfl _ rfl HE.out
   have HD3:=ah (HD2.out (by rw [hA1];omega) (by rw [hA2];omega))
   have c1:decide ((n1:Int) < 0) = false:=decide_eq_false (by omega)
   have c2:decide ((n2:Int) < 0) = false:=decide_eq_false (by omega)
   have hv1:=HV1.out n1 hA1
   have hv2:=HV2.out n2 hA2
   have HU:Hid (unB s k = UInt8.ofNat (16 * n1 + n2)):=ah (by unfold unB;rw [hv1,hv2])
   rw [hA1,hA2]
   clear hv1 hv2 hA1 hA2
   have ws:IntKind.i64.wrap ((n1:Int) * 16) = (n1:Int) * 16:=by rw [IntKind.wrap_i64];omega
   have ho:=Gy ⟨n1,hn1⟩ ⟨n2,hn2⟩
   dsimp only at ho
   have wu:IntKind.u8.wrap ((16 * n1 + n2:Nat):Int) = ((unB s k).toNat:Int):=by rw [HU.out,wrap_u8',UInt8.toNat_ofNat'];omega
   obtain ⟨m,hm⟩:∃ m,16 * n1 + n2 = m:=⟨_,rfl⟩
   rw [hm] at ho wu
   have HAQ:=HA.out.below hbq (by have:=HB.out.size;have:=HWS.out;have:=HA.out.lt (by omega);omega)
   have HRQ:=ah (HR.out.below hbq)
   have HBQ:=bth HB hbq
   have f1:=HAQ.cell k (by omega)
   have f2:=HAQ.free k (by omega)
   obtain ⟨c,hc⟩:∃ c,unB s k = c:=⟨_,rfl⟩
   have HAN:Hid (Arr (wq.setCell ⟨w.heap.size + 1,k,none⟩ (.int .u8 (c.toNat:Int))) (w.heap.size + 1) 32 (unA s (k + 1))):=ah (by rw [← F6,hc];exact HAQ.set k (by omega) _)
   have HRN:Hid (BoxL (wq.setCell ⟨w.heap.size + 1,k,none⟩ (.int .u8 (c.toNat:Int))) w.heap.size 42 uz):=ah (HRQ.out.other (g:=w.heap.size + 1) (o:=k) (us:=[.int .u8 (c.toNat:Int)]) (by omega))
   have HBN:Hid (Below w.heap.size w (wq.setCell ⟨w.heap.size + 1,k,none⟩ (.int .u8 (c.toNat:Int)))):=ah (below_setCells (B:=w.heap.size) (w.heap.size + 1) (by omega) [.int .u8 (c.toNat:Int)] k _ HBQ.out)
   rw [hc] at wu
   clear hm hbq HAQ hc
   go_wp2_with fail
   go_roundw
   case rel => exact ⟨k + 1,by go_num,by omega,HAN,HRN,HD3,HBN⟩
   case measure => simp [intOf];omega
  obtain rfl:k = 32:=by omega
  have d1:decide ((32:Int) < 32) = false:=rfl
  have HG:=Ao h64 (fun i hi => HD.out i hi (by omega))
  have hra:wo.rangeAt (w.heap.size + 1) 0 (idC ((List.range 32).map (unB s))):=by rw [← Jk];exact HA.out.range
  have hul:(idC ((List.range 32).map (unB s))).length = 32:=by rw [au];simp
  have HUO:=ah (aM ((List.range 32).map (unB s)))
  have HEE:Hid (unId s = (List.range 32).map (unB s) ∧ rE s = true):=ah (by unfold unId rE;rw [HG];exact ⟨rfl,rfl⟩)
  obtain ⟨us,hus⟩:∃ us,idC ((List.range 32).map (unB s)) = us:=⟨_,rfl⟩
  rw [hus] at hra hul HUO
  have h32u:(prog.info? 42).map (·.size) = some us.length:=by rw [hul];exact h32i
  have hT:=HR.out.there
  rw [hzl] at hT
  have HT:=ah hT
  have hr2:=(HR.out.set (us:=us) (by rw [hul,hzl])).range
  have HE:Hid (uG s w (.returned (.tuple #[.agg us.toArray,.bool true])) (wo.setCells w.heap.size 0 us)):=ah
   ⟨by rw [HEE.out.1,HEE.out.2,hus],below_setCells (B:=w.heap.size) w.heap.size (Nat.le_refl _) _ 0 _ HB.out⟩
  clear hT HG hus
  go_wp2_with (first
   | (refine wpList_load_mid rfl 42 _ rfl (w.heap.size + 1) 0 rfl us _ hra underlying42 rfl h32u ?_)
   | (refine aj rfl 42 _ _ rfl w.heap.size 0 us rfl rfl 32 hul HT.out h32i HUO.out ?_))
  exact aL rfl w.heap.size 0 rfl us _ hr2 underlying42 rfl h32u rfl _ rfl HE.out
 have d0:((s.size:Int) == 64) = false:=beq_eq_false_iff_ne.2 (by omega)
 have HNO:=ah (yD h64)
 have hr:=HBI.out.range
 have hT:=HBR.out.there
 rw [hzl] at hT
 have HT:=ah hT
 have hr2:=(HBR.out.set (us:=uz) rfl).range
 have HE:Hid (uG s w (.returned (.tuple #[.agg uz.toArray,.bool false])) (W.setCells w.heap.size 0 uz)):=ah (by
  rw [← HUZ.out]
  exact rF HNO.out (below_setCells (B:=w.heap.size) w.heap.size (Nat.le_refl _) _ 0 _ HBW.out))
 clear hT h64
 go_enter func102,ntmps102
 go_upto_region 2 with fail
 rw [HW.out]
 go_wp2_with (first
  | (refine wpList_load_mid rfl 42 _ rfl (w.heap.size + 1) 0 rfl uz _ hr underlying42 rfl h32z ?_)
  | (refine aj rfl 42 _ _ rfl w.heap.size 0 uz rfl rfl 32 hzl HT.out h32i HZO.out ?_))
 exact aL rfl w.heap.size 0 rfl uz _ hr2 underlying42 rfl h32z rfl _ rfl HE.out
end
end Go.Proofs.YtlhcoanbhnphgaaGreatDoor
