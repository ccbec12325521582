/- A part of this claim. -/
import Derived.Test.YtijhemdnajlfnaaGreatDoorR13
import Derived.Test.YtijhemdnajlfnaaGreatDoorR8
namespace Go.Proofs.YtijhemdnajlfnaaGreatDoor
open Tryz
set_option maxHeartbeats 64000000
set_option maxRecDepth 100000
section
open Go.RowKit
theorem Ie (n:W32):wn (jP n) = if (wn n % 2 == 1) = true then bits .xor .u32 (wn n / (2:Int)) (3988292384:Int) else wn n / (2:Int):=by
 have h1:wn n / (2:Int) = wn (n >>> 1):=wP n 1
 have h2:(3988292384:Int) = wn lV:=rfl
 have hb:n.getLsbD 0 = (wn n % 2 == 1):=by
  unfold wn
  rw [BitVec.getLsbD,Nat.testBit_zero]
  by_cases h:n.toNat % 2 = 1
  ·rw [decide_eq_true h];exact (beq_iff_eq.2 (by omega)).symm
  rw [decide_eq_false h];exact (beq_eq_false_iff_ne.2 (by omega)).symm
 rw [h1,h2,nP]
 unfold jP
 rw [hb]
 cases (wn n % 2 == 1)
 ·simp
 simp
def Gl:Nat → W32 → W32
 | 0,n => n
 | k + 1,n => jP (Gl k n)
theorem Dy (n:W32) (b:UInt8):wG n b = Gl 8 (n ^^^ bw b):=rfl
theorem Iz (n:W32) (w:World):Calls prog 275 #[.int .u32 (wn n)] w fun e w' => e = .returned (.int .u32 (wn (jP n))) ∧ w' = w:=by
 have h0:=wn_0 n
 have h1:=nO n
 rw [Ie]
 obtain ⟨x,hx⟩:∃ x,wn n = x:=⟨_,rfl⟩
 rw [hx] at h0 h1 ⊢
 clear hx
 cases hb:(x % 2 == 1) with
 | true =>
  go_enter func275,ntmps275
  go_wp2
  go_ret
  exact ⟨rfl,rfl⟩
 | false =>
  go_enter func275,ntmps275
  go_wp2
  go_ret
  exact ⟨rfl,rfl⟩
theorem IU (n:W32) (b:UInt8) (w:World):Calls prog 232 #[.int .u32 (wn n),.int .u8 (b.toNat:Int)] w fun e w' => e = .returned (.int .u32 (wn (wG n b))) ∧ w' = w:=by
 have hb:((b.toNat:Nat):Int) < 256:=by have:=b.toNat_lt;omega
 have wb:IntKind.u32.wrap ((b.toNat:Nat):Int) = ((b.toNat:Nat):Int):=by rw [IntKind.wrap_u32];omega
 have hx:bits .xor .u32 (wn n) ((b.toNat:Nat):Int) = wn (n ^^^ bw b):=by rw [lS,nP]
 have HS:=ah (fun m => Iz m w)
 have HF:=ah (Dy n b)
 generalize n ^^^ bw b = m at hx HF
 go_enter func232,ntmps232
 go_wp2_with fail
 go_loopw [0,5] (fun v i wr => ∃ k:Nat,v = .int .u32 (wn (Gl k m)) ∧ i = .int .i64 (k:Int) ∧ k ≤ 8 ∧ wr = w) (fun _ i _ => (8 - intOf i).toNat)
 case atStart => exact ⟨0,rfl,rfl,by omega,rfl⟩
 obtain ⟨k,rfl,rfl,hk,rfl⟩:=hrel
 by_cases hlt:k < 8
 ·have d1:decide ((k:Int) < 8) = true:=decide_eq_true (by omega)
  have HC:=ah (HS.out (Gl k m))
  go_wp2_with fail
  refine HC.out.mono ?_
  rintro e w2 ⟨rfl,rfl⟩
  go_wp2_with fail
  go_roundw
  case rel => exact ⟨k + 1,rfl,by go_num,by omega,by first | rfl | trivial⟩
  case measure => simp [intOf];omega
 obtain rfl:k = 8:=by omega
 go_wp2_with fail
 go_ret
 exact ⟨by rw [HF.out];rfl,by first | rfl | trivial⟩
theorem yg (s:ByteArray) {k:Nat} (h:k < s.size):s.data.toList.take (k + 1) = s.data.toList.take k ++ [s[k]]:=by
 rw [List.take_succ_eq_append_getElem (by simpa using h)];rfl
theorem KR (s:ByteArray) (w:World) (hs:s.size ≤ 1000000000):Calls prog 185 #[.string s] w fun e w' => e = .returned (.int .u32 (wn (crcC s.data.toList))) ∧ w' = w:=by
 have HS:=ah (fun m b => IU m b w)
 have hn:∀ m:W32,((4294967295:Int) - wn m) % (4294967296:Int) = wn (~~~ m):=fun m => by
  have:=nO m
  have:=wn_0 m
  unfold wn at *
  rw [BitVec.toNat_not]
  omega
 go_enter func185,ntmps185
 go_wp2_with fail
 go_loopw [3,4] (fun v i wr => ∃ k:Nat,v = .int .u32 (wn (sumC (~~~ 0#32) (s.data.toList.take k))) ∧ i = .int .i64 (k:Int) ∧ k ≤ s.size ∧ wr = w) (fun _ i _ => (s.size - intOf i).toNat)
 case atStart => exact ⟨0,rfl,rfl,by omega,rfl⟩
 obtain ⟨k,rfl,rfl,hk,rfl⟩:=hrel
 by_cases hlt:k < s.size
 ·have d1:decide ((k:Int) < s.size) = true:=decide_eq_true (by omega)
  have HN:=ah (yt (~~~ 0#32) (s.data.toList.take k) s[k])
  have HT:=ah (yg s hlt)
  have HC:=ah (HS.out (sumC (~~~ 0#32) (s.data.toList.take k)) s[k])
  rw [← HT.out] at HN
  generalize sumC (~~~ 0#32) (s.data.toList.take k) = m at HN HC ⊢
  go_wp2_with fail
  refine HC.out.mono ?_
  rintro e w2 ⟨rfl,rfl⟩
  rw [← HN.out]
  go_wp2_with fail
  go_roundw
  case rel => exact ⟨k + 1,rfl,by go_num,by omega,by first | rfl | trivial⟩
  case measure => simp [intOf];omega
 obtain rfl:k = s.size:=by omega
 have HTK:Hid (crcC s.data.toList = ~~~ sumC (~~~ 0#32) (s.data.toList.take s.size)):=ah (by unfold crcC;rw [List.take_of_length_le (by simp)])
 generalize sumC (~~~ 0#32) (s.data.toList.take s.size) = m at HTK ⊢
 have HNM:=ah (hn m)
 go_wp2_with fail
 go_ret
 exact ⟨by rw [HTK.out,← HNM.out];rfl,by first | rfl | trivial⟩
theorem zO (n:W32):wn n % 256 = ((eO n 0).toNat:Int) ∧ wn n / 256 % 256 = ((eO n 1).toNat:Int) ∧ wn n / 65536 % 256 = ((eO n 2).toNat:Int) ∧ wn n / 16777216 = ((eO n 3).toNat:Int):=by
 have h:=n.isLt
 unfold wn eO
 simp only [UInt8.toNat_ofNat']
 refine ⟨?_,?_,?_,?_⟩ <;> omega
theorem zM (W:World) (a b c d:UInt8) (e:TypeId) :
  (convert 221 9 (.slice (some ⟨W.heap.size,0,none⟩) 4 4)).run prog (W.alloc (.cells #[.int .u8 (a.toNat:Int),.int .u8 (b.toNat:Int),.int .u8 (c.toNat:Int),.int .u8 (d.toNat:Int)] e)) = .ok (.string (ofB [a,b,c,d])) (W.alloc (.cells #[.int .u8 (a.toNat:Int),.int .u8 (b.toNat:Int),.int .u8 (c.toNat:Int),.int .u8 (d.toNat:Int)] e)) :=
 run_convert_bytes_back (P:=prog) _ 221 9 5 ⟨W.heap.size,0,none⟩ 4 [a,b,c,d] underlying221 underlying5 underlying9 fun j hj => by
  have hj4:j < 4:=by simpa using hj
  rw [Addr.add_mid,Nat.zero_add,World.cell?_alloc_new]
  rcases (show j = 0 ∨ j = 1 ∨ j = 2 ∨ j = 3 by omega) with rfl | rfl | rfl | rfl <;> rfl
theorem BQ (s:ByteArray):s ++ ofB (Gh s.data.toList) = ofB (kH s.data.toList):=by unfold kH;rw [dh,lu]
theorem IB (s:ByteArray) (w:World) (hs:s.size ≤ 1000000000):Calls prog 121 #[.string s] w fun e w' => e = .returned (.string (ofB (kH s.data.toList))) ∧ Below w.heap.size w w':=by
 have HS:=ah (KR s w hs)
 obtain ⟨h0,h1,h2,h3⟩:=zO (crcC s.data.toList)
 have g0:=wn_0 (crcC s.data.toList)
 have g1:=nO (crcC s.data.toList)
 have HX:=ah (BQ s)
 unfold Gh at HX
 have hsz:(ofB [eO (crcC s.data.toList) 0,eO (crcC s.data.toList) 1,eO (crcC s.data.toList) 2,eO (crcC s.data.toList) 3]).size = 4:=by rw [aM];rfl
 obtain ⟨x,hx⟩:∃ x,wn (crcC s.data.toList) = x:=⟨_,rfl⟩
 obtain ⟨b0,hb0⟩:∃ b,eO (crcC s.data.toList) 0 = b:=⟨_,rfl⟩
 obtain ⟨b1,hb1⟩:∃ b,eO (crcC s.data.toList) 1 = b:=⟨_,rfl⟩
 obtain ⟨b2,hb2⟩:∃ b,eO (crcC s.data.toList) 2 = b:=⟨_,rfl⟩
 obtain ⟨b3,hb3⟩:∃ b,eO (crcC s.data.toList) 3 = b:=⟨_,rfl⟩
 rw [hb0,hb1,hb2,hb3] at HX hsz
 rw [hx] at h0 h1 h2 h3 g0 g1 HS
 rw [hb0] at h0
 rw [hb1] at h1
 rw [hb2] at h2
 rw [hb3] at h3
 have h4:x / 16777216 % 256 = (b3.toNat:Int):=by omega
 have hcv:=zM w b0 b1 b2 b3 5
 clear hx hb0 hb1 hb2 hb3
 go_enter func121,ntmps121
 go_wp2_with fail
 refine HS.out.mono ?_
 rintro e w2 ⟨rfl,rfl⟩
 go_wp2_with fail
 go_ret
 exact ⟨gT HX.out,bal⟩
def unS (s:ByteArray):ByteArray:=ofB ((bK s.data.toList).getD [])
def unOk (s:ByteArray):Bool:=(bK s.data.toList).isSome
theorem jk {s:ByteArray} (h:s.size < 4):unS s = ⟨#[]⟩ ∧ unOk s = false:=by
 have:bK s.data.toList = none:=by unfold bK;rw [if_neg (by simp;intro h2;exact absurd h2 (by have:s.data.size = s.size:=rfl;omega))]
 unfold unS unOk
 rw [this]
 exact ⟨rfl,rfl⟩
theorem rH {s:ByteArray} (h:4 ≤ s.size):bK s.data.toList = if kH (s.data.toList.take (s.size - 4)) = s.data.toList then some (s.data.toList.take (s.size - 4)) else none:=by
 have hl:s.data.toList.length = s.size:=by simp
 unfold bK
 rw [hl]
 by_cases hc:kH (s.data.toList.take (s.size - 4)) = s.data.toList
 ·rw [if_pos ⟨h,hc⟩,if_pos hc]
 rw [if_neg (fun x => hc x.2),if_neg hc]
theorem jr (s:ByteArray) (n:Nat):(s.extract 0 n).data.toList = s.data.toList.take n:=by
 rw [ByteArray.data_extract];simp
theorem lC (l:List UInt8) (s:ByteArray):ofB l = s ↔ l = s.data.toList:=⟨fun h => by rw [← h,aW],fun h => by rw [h,lu]⟩
theorem mo (s:ByteArray) (w:World) (hs:s.size ≤ 1000000000):Calls prog 62 #[.string s] w fun e w' => e = .returned (.tuple #[.string (unS s),.bool (unOk s)]) ∧ Below w.heap.size w w':=by
 by_cases h4:s.size < 4
 ·obtain ⟨e1,e2⟩:=jk h4
  rw [e1,e2]
  have d1:decide ((s.size:Int) < 4) = true:=decide_eq_true (by omega)
  clear e1 e2
  go_enter func62,ntmps62
  go_wp2
  go_ret2
  exact ⟨rfl,Below.refl _ _⟩
 have d1:decide ((s.size:Int) < 4) = false:=decide_eq_false (by omega)
 have w1:IntKind.i64.wrap ((s.size:Int) - 4) = ((s.size - 4:Nat):Int):=by rw [IntKind.wrap_i64];omega
 have HU:=rH (s:=s) (by omega)
 have hle:s.size - 4 ≤ s.size:=by omega
 obtain ⟨t,ht⟩:∃ t,s.extract 0 (s.size - 4) = t:=⟨_,rfl⟩
 have htl:t.data.toList = s.data.toList.take (s.size - 4):=by rw [← ht,jr]
 have hts:t.size ≤ 1000000000:=by
  have:t.size = t.data.toList.length:=by simp
  rw [this,htl,List.length_take]
  have:s.data.toList.length = s.size:=by simp
  omega
 have HSL:=ah (IB t w hts)
 rw [← htl] at HU
 have HT:=ah htl
 clear htl hts
 by_cases hc:kH t.data.toList = s.data.toList
 ·have hne:((ofB (kH t.data.toList)).toList == s.toList) = true:=by rw [iG];exact decide_eq_true ((lC _ _).2 hc)
  rw [if_pos hc] at HU
  have e1:unS s = t:=by unfold unS;rw [HU];exact lu t
  have e2:unOk s = true:=by unfold unOk;rw [HU];rfl
  rw [e1,e2]
  clear hc HU e1 e2
  go_enter func62,ntmps62
  go_wp2_with fail
  refine HSL.out.mono ?_
  rintro e w2 ⟨rfl,hb2⟩
  go_wp2_with fail
  go_ret2
  exact ⟨rfl,hb2⟩
 have hne:((ofB (kH t.data.toList)).toList == s.toList) = false:=by rw [iG];exact decide_eq_false fun h => hc ((lC _ _).1 h)
 rw [if_neg hc] at HU
 have e1:unS s = ⟨#[]⟩:=by unfold unS;rw [HU];rfl
 have e2:unOk s = false:=by unfold unOk;rw [HU];rfl
 rw [e1,e2]
 clear hc HU e1 e2
 go_enter func62,ntmps62
 go_wp2_with fail
 refine HSL.out.mono ?_
 rintro e w2 ⟨rfl,hb2⟩
 go_wp2_with fail
 go_ret2
 exact ⟨rfl,hb2⟩
structure Crc (w:World):Prop where
 row:w.rangeAt 3 0 (iR.map fun x => Value.int .u32 (wn x))
 lt:3 < w.heap.size
theorem Crc.below {w w':World} (h:Crc w) (hb:Below w.heap.size w w'):Crc w':=⟨au h.row hb h.lt,Nat.lt_of_lt_of_le h.lt hb.size⟩
theorem Crc.cell {w:World} (h:Crc w) {j:Nat} (hj:j < 16):w.cell? ⟨3,j,none⟩ = some (.int .u32 (wn (iR.getD j 0#32))):=by
 have h1:=h.row j (.int .u32 (wn (iR.getD j 0#32))) (by
  have hl:j < iR.length:=hj
  rw [List.getElem?_map,List.getElem?_eq_getElem hl,List.getD_eq_getElem?_getD,List.getElem?_eq_getElem hl];rfl)
 rw [Nat.zero_add] at h1
 exact h1
def nibN:Nat → W32 → W32
 | 0,n => n
 | k + 1,n => nibC (nibN k n)
theorem F4 (n:W32) (b:UInt8):wG n b = nibN 2 (n ^^^ bw b):=by unfold wG nibN nibN nibN;rw [LH,LH]
theorem MJ (n:W32) (b:UInt8) (w:World) (hc:Crc w):Calls prog 281 #[.int .u32 (wn n),.int .u8 (b.toNat:Int)] w fun e w' => e = .returned (.int .u32 (wn (wG n b))) ∧ w' = w:=by
 have hb:((b.toNat:Nat):Int) < 256:=by have:=b.toNat_lt;omega
 have wb:IntKind.u32.wrap ((b.toNat:Nat):Int) = ((b.toNat:Nat):Int):=by rw [IntKind.wrap_u32];omega
 have hx:bits .xor .u32 (wn n) ((b.toNat:Nat):Int) = wn (n ^^^ bw b):=by rw [lS,nP]
 have HF:=ah (F4 n b)
 have HC:=ah (fun j (hj:j < 16) => hc.cell hj)
 clear hc
 generalize n ^^^ bw b = m at hx HF
 go_enter func281,ntmps281
 go_wp2_with fail
 go_loopw [0,9] (fun v i wr => ∃ k:Nat,v = .int .u32 (wn (nibN k m)) ∧ i = .int .i64 (k:Int) ∧ k ≤ 2 ∧ wr = w) (fun _ i _ => (2 - intOf i).toNat)
 case atStart => exact ⟨0,rfl,rfl,by omega,rfl⟩
 obtain ⟨k,rfl,rfl,hk,rfl⟩:=hrel
 by_cases hlt:k < 2
 ·have d1:decide ((k:Int) < 2) = true:=decide_eq_true (by omega)
  obtain ⟨q,hq⟩:∃ q,nibN k m = q:=⟨_,rfl⟩
  have HN:Hid (nibN (k + 1) m = nibC q):=ah (by rw [← hq];rfl)
  rw [hq]
  clear hq
  obtain ⟨j,hj⟩:∃ j,(q &&& 15#32).toNat = j:=⟨_,rfl⟩
  have hj16:j < 16:=by rw [← hj,Oz];omega
  have ha:bits .and .u32 (wn q) 15 = (j:Int):=by rw [← hj];exact Kr q 15#32
  have hs:wn q / (16:Int) = wn (q >>> 4):=wP q 4
  have hy:bits .xor .u32 (wn (q >>> 4)) (wn (iR.getD j 0#32)) = wn (nibC q):=by rw [nP,← hj];rfl
  have hcell:=HC.out j hj16
  have hj16z:(j:Int) < 16:=by omega
  generalize iR.getD j 0#32 = z at hcell hy
  generalize q >>> 4 = q4 at hs hy
  generalize nibC q = q5 at hy HN
  have h0:=wn_0 q
  have h1:=nO q
  clear hj
  go_wp2_with fail
  exact ⟨⟨k + 1,by rw [HN.out],by go_num,by omega,by first | rfl | trivial⟩,by simp [intOf];omega⟩
 obtain rfl:k = 2:=by omega
 go_wp2_with fail
 go_ret
 exact ⟨by rw [HF.out];rfl,by first | rfl | trivial⟩
theorem Om (m:W32) (s:ByteArray) (w:World) (hc:Crc w) (hs:s.size ≤ 1000000000):Calls prog 244 #[.int .u32 (wn m),.string s] w fun e w' => e = .returned (.int .u32 (wn (~~~ sumC (~~~ m) s.data.toList))) ∧ w' = w:=by
 have HS:=ah (fun m b => MJ m b w hc)
 have hn:=Ab m
 clear hc
 go_enter func244,ntmps244
 go_wp2_with fail
 go_loopw [5,6,11] (fun v _ i wr => ∃ k:Nat,v = .int .u32 (wn (sumC (~~~ m) (s.data.toList.take k))) ∧ i = .int .i64 (k:Int) ∧ k ≤ s.size ∧ wr = w) (fun _ _ i _ => (s.size - intOf i).toNat)
 case atStart => exact ⟨0,rfl,rfl,by omega,rfl⟩
 obtain ⟨k,rfl,rfl,hk,rfl⟩:=hrel
 by_cases hlt:k < s.size
 ·have d1:decide ((k:Int) < s.size) = true:=decide_eq_true (by omega)
  have HN:=ah (yt (~~~ m) (s.data.toList.take k) s[k])
  have HT:=ah (yg s hlt)
  have HC:=ah (HS.out (sumC (~~~ m) (s.data.toList.take k)) s[k])
  rw [← HT.out] at HN
  generalize sumC (~~~ m) (s.data.toList.take k) = q at HN HC ⊢
  go_wp2_with fail
  refine HC.out.mono ?_
  rintro e w2 ⟨rfl,rfl⟩
  rw [← HN.out]
  go_wp2_with fail
  go_roundw
  case rel => exact ⟨k + 1,rfl,by go_num,by omega,by first | rfl | trivial⟩
  case measure => simp [intOf];omega
 obtain rfl:k = s.size:=by omega
 have HTK:Hid (sumC (~~~ m) s.data.toList = sumC (~~~ m) (s.data.toList.take s.size)):=ah (by rw [List.take_of_length_le (l:=s.data.toList) (by simp)])
 generalize sumC (~~~ m) (s.data.toList.take s.size) = q at HTK ⊢
 have hq:=Ab q
 go_wp2_with fail
 go_ret
 exact ⟨by rw [HTK.out];rfl,by first | rfl | trivial⟩
theorem BF (b:Nat) (s:ByteArray) (w:World) (hc:Crc w) (hb:w.cell? ⟨b,0,none⟩ = some (.string s)) (hs:s.size ≤ 1000000000):Calls prog 197 #[.slice (some ⟨b,0,none⟩) 1 1] w fun e w' => e = .returned (.int .u32 (wn (crcC s.data.toList))) ∧ w' = w:=by
 have HS:Hid (Calls prog 244 #[.int .u32 0,.string s] w fun e w' => e = .returned (.int .u32 (wn (crcC s.data.toList))) ∧ w' = w):=ah (Om 0#32 s w hc hs)
 clear hc
 go_enter func197,ntmps197
 go_wp2_with fail
 refine wp_loop_rounds 2 ?_
 rw [rounds_succ]
 go_wp2_with fail
 refine HS.out.mono ?_
 rintro e w2 ⟨rfl,rfl⟩
 go_wp2_with fail
 rw [rounds_succ]
 go_wp2_with fail
 go_ret
 exact ⟨rfl,by first | rfl | trivial⟩
theorem BR (s:ByteArray) (w:World) (hc:Crc w) (hs:s.size ≤ 1000000000):Calls prog 140 #[.string s] w fun e w' => e = .returned (.string (ofB (kH s.data.toList))) ∧ Below w.heap.size w w':=by
 obtain ⟨W,hW⟩:∃ W,w.alloc (.cells #[.string s] 9) = W:=⟨_,rfl⟩
 have hbW:Below w.heap.size w W:=by rw [← hW];exact bal
 have hcell:W.cell? ⟨w.heap.size,0,none⟩ = some (.string s):=by rw [← hW,World.cell?_alloc_new];rfl
 have HS:=ah (BF w.heap.size s W (hc.below hbW) hcell hs)
 have HW:=ah hW
 have HBW:=ah hbW
 clear hW hbW hcell hc
 obtain ⟨h0,h1,h2,h3⟩:=zO (crcC s.data.toList)
 have g0:=wn_0 (crcC s.data.toList)
 have g1:=nO (crcC s.data.toList)
 have HX:=ah (BQ s)
 unfold Gh at HX
 have hsz:(ofB [eO (crcC s.data.toList) 0,eO (crcC s.data.toList) 1,eO (crcC s.data.toList) 2,eO (crcC s.data.toList) 3]).size = 4:=by rw [aM];rfl
 obtain ⟨x,hx⟩:∃ x,wn (crcC s.data.toList) = x:=⟨_,rfl⟩
 obtain ⟨b0,hb0⟩:∃ b,eO (crcC s.data.toList) 0 = b:=⟨_,rfl⟩
 obtain ⟨b1,hb1⟩:∃ b,eO (crcC s.data.toList) 1 = b:=⟨_,rfl⟩
 obtain ⟨b2,hb2⟩:∃ b,eO (crcC s.data.toList) 2 = b:=⟨_,rfl⟩
 obtain ⟨b3,hb3⟩:∃ b,eO (crcC s.data.toList) 3 = b:=⟨_,rfl⟩
 rw [hb0,hb1,hb2,hb3] at HX hsz
 rw [hx] at h0 h1 h2 h3 g0 g1 HS
 rw [hb0] at h0
 rw [hb1] at h1
 rw [hb2] at h2
 rw [hb3] at h3
 have h4:x / 16777216 % 256 = (b3.toNat:Int):=by omega
 have hcv:=zM W b0 b1 b2 b3 313
 clear hx hb0 hb1 hb2 hb3
 go_enter func140,ntmps140
 go_wp2_with fail
 rw [HW.out]
 refine HS.out.mono ?_
 rintro e w2 ⟨rfl,rfl⟩
 go_wp2_with fail
 refine wp_loop_rounds 5 ?_
 rw [rounds_succ]
 go_wp2_with fail
 rw [rounds_succ]
 go_wp2_with fail
 rw [rounds_succ]
 go_wp2_with fail
 rw [rounds_succ]
 go_wp2_with fail
 rw [rounds_succ]
 go_wp2_with fail
 go_ret
 exact ⟨gT HX.out,HBW.out.trans (bal.mono HBW.out.size)⟩
theorem oh (s:ByteArray) (w:World) (hcr:Crc w) (hs:s.size ≤ 1000000000):Calls prog 75 #[.string s] w fun e w' => e = .returned (.tuple #[.string (unS s),.bool (unOk s)]) ∧ Below w.heap.size w w':=by
 have HCR:=ah hcr
 clear hcr
 by_cases h4:s.size < 4
 ·obtain ⟨e1,e2⟩:=jk h4
  rw [e1,e2]
  have d1:decide ((s.size:Int) < 4) = true:=decide_eq_true (by omega)
  clear e1 e2
  go_enter func75,ntmps75
  go_wp2
  go_ret2
  exact ⟨rfl,Below.refl _ _⟩
 have d1:decide ((s.size:Int) < 4) = false:=decide_eq_false (by omega)
 have w1:IntKind.i64.wrap ((s.size:Int) - 4) = ((s.size - 4:Nat):Int):=by rw [IntKind.wrap_i64];omega
 have HU:=rH (s:=s) (by omega)
 have hle:s.size - 4 ≤ s.size:=by omega
 obtain ⟨t,ht⟩:∃ t,s.extract 0 (s.size - 4) = t:=⟨_,rfl⟩
 have htl:t.data.toList = s.data.toList.take (s.size - 4):=by rw [← ht,jr]
 have hts:t.size ≤ 1000000000:=by
  have:t.size = t.data.toList.length:=by simp
  rw [this,htl,List.length_take]
  have:s.data.toList.length = s.size:=by simp
  omega
 have HSL:=ah (BR t w HCR.out hts)
 rw [← htl] at HU
 have HT:=ah htl
 clear htl hts
 by_cases hc:kH t.data.toList = s.data.toList
 ·have hne:((ofB (kH t.data.toList)).toList == s.toList) = true:=by rw [iG];exact decide_eq_true ((lC _ _).2 hc)
  rw [if_pos hc] at HU
  have e1:unS s = t:=by unfold unS;rw [HU];exact lu t
  have e2:unOk s = true:=by unfold unOk;rw [HU];rfl
  rw [e1,e2]
  clear hc HU e1 e2
  go_enter func75,ntmps75
  go_wp2_with fail
  refine HSL.out.mono ?_
  rintro e w2 ⟨rfl,hb2⟩
  go_wp2_with fail
  go_ret2
  exact ⟨rfl,hb2⟩
 have hne:((ofB (kH t.data.toList)).toList == s.toList) = false:=by rw [iG];exact decide_eq_false fun h => hc ((lC _ _).1 h)
 rw [if_neg hc] at HU
 have e1:unS s = ⟨#[]⟩:=by unfold unS;rw [HU];rfl
 have e2:unOk s = false:=by unfold unOk;rw [HU];rfl
 rw [e1,e2]
 clear hc HU e1 e2
 go_enter func75,ntmps75
 go_wp2_with fail
 refine HSL.out.mono ?_
 rintro e w2 ⟨rfl,hb2⟩
 go_wp2_with fail
 go_ret2
 exact ⟨rfl,hb2⟩
end
end Go.Proofs.YtijhemdnajlfnaaGreatDoor
