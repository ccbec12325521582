/- YtmhjpmenngjmeaaGreatDoorR5: texts JB, T0, SB, T1, JC of this claim, in one. -/
import Derived.Laws.IdiomStrings
import Derived.Test.YtmhjpmenngjmeaaGreatDoorR4
namespace Go.Proofs.YtmhjpmenngjmeaaGreatDoor
open Go.RowKit
def firstL:List W32:=[0x6a09e667#32,0xbb67ae85#32,0x3c6ef372#32,0xa54ff53a#32,0x510e527f#32,0x9b05688c#32,0x1f83d9ab#32,0x5be0cd19#32]
def firstW (k:Nat):W32:=firstL.getD k 0
def firstV:List Value:=[.int .u32 (wn (firstW 0)),.int .u32 (wn (firstW 1)),.int .u32 (wn (firstW 2)),.int .u32 (wn (firstW 3)),.int .u32 (wn (firstW 4)),.int .u32 (wn (firstW 5)),.int .u32 (wn (firstW 6)),.int .u32 (wn (firstW 7))]
structure Laid (w:World):Prop where
 rounds:w.rangeAt 4 0 kV
 first:w.rangeAt 1 0 firstV
 lt:5 ≤ w.heap.size
theorem Laid.below {w w':World} (h:Laid w) (hb:Below w.heap.size w w'):Laid w':=by
 have:=h.lt;have:=hb.size
 exact ⟨rangeAt_below h.rounds hb (by omega),rangeAt_below h.first hb (by omega),by omega⟩
theorem rangeAt_grown {w w':World} {b b2 o:Nat} {cs:List Value} (h:w.rangeAt b o cs) (hg:w.grownBy w' (some b2)) (hne:b ≠ b2):w'.rangeAt b o cs:=fun j v hv =>
 hg.cell (h j v hv) (by simpa using hne)
theorem Laid.grown {w w':World} {b:Nat} (h:Laid w) (hg:w.grownBy w' (some b)) (hb:5 ≤ b):Laid w' :=
 ⟨rangeAt_grown h.rounds hg (by omega),rangeAt_grown h.first hg (by omega),Nat.le_trans h.lt hg.size⟩
theorem grown_trans {a w w':World} {b:Nat} (h:a.grownBy w (some b)) (k:w.grownBy w' (some b)):a.grownBy w' (some b) :=
 ⟨k.os.trans h.os,k.tape.trans h.tape,k.output.trans h.output,Nat.le_trans h.size k.size,fun i hi hne => (k.block i (Nat.lt_of_lt_of_le hi h.size) hne).trans (h.block i hi hne)⟩
def HS.begin (h:HS):HS:=if h.begun then h else { h with begun:=true,st:=firstW }
def HS.put (h:HS) (x:UInt8):HS :=
 if h.many + 1 = 64 then { h with st:=blockW h.st (upd h.rest h.many x),rest:=upd h.rest h.many x,many:=0 } else { h with rest:=upd h.rest h.many x,many:=h.many + 1 }
theorem HS.put_many (h:HS) (x:UInt8) (hm:h.many < 64):(h.put x).many < 64:=by
 unfold HS.put;split
 ·show 0 < 64;omega
 ·show h.many + 1 < 64;omega
set_option maxHeartbeats 1000000 in
theorem put_any (b:Nat) (h:HS) (x:UInt8) (w:World) (hA:Arr w b 75 h.c) (hm:h.many < 64) (hL:Laid w) (hb8:5 ≤ b) :
  Calls Tryz.prog 111 #[.pointer (some ⟨b,0,none⟩),.int .u8 (x.toNat:Int)] w fun e w' => e = .returned (.tuple #[]) ∧ Arr w' b 75 (h.put x).c ∧ w.grownBy w' (some b):=by
 have hbl:b < w.heap.size:=hA.lt (by omega)
 have c1:=hA.cell 73 (by omega)
 rw [HS.c_many] at c1
 have c2:=hA.cell (9 + h.many) (by omega)
 have f2:=hA.free (9 + h.many) (by omega)
 have f1:=hA.free 73 (by omega)
 have m0:(0:Int) ≤ h.many:=by omega
 have m1:(h.many:Int) < 64:=by omega
 have HA:=Lib.hid hA
 clear hA
 generalize hmm:h.many = m at hm c1 c2 f2 m0 m1
 have HM:=Lib.hid hmm
 have HL:=Lib.hid hL
 clear hmm hL
 go_enter Tryz.func111,Tryz.ntmps111
 go_wp2
 refine wp_region_bt 9 (by kernel_rfl) (by kernel_rfl) ?_
 simp only [List.take_succ_cons,List.take_zero,List.drop_succ_cons,List.drop_zero]
 have LQ0:=fun x:BW (World.heap w).size w => below_load c1 x.hb (by omega)
 repeat (go_big_quiet_step (fail))
 refine wpQuiet_nil ?_
 intro wq hbq
 clear LQ0
 have g1:=below_load c1 hbq hbl
 have g2:=below_load c2 hbq hbl
 have k1:wq.frozen? ⟨b,73,none⟩ = false:=by rw [hbq.frozen (p:=⟨b,73,none⟩) hbl];exact f1
 have k2:wq.frozen? ⟨b,9 + m,none⟩ = false:=by rw [hbq.frozen (p:=⟨b,9 + m,none⟩) hbl];exact f2
 clear c1 c2 f1 f2
 have hA1:=(HA.out.below hbq hbl).set (9 + m) (by omega) (.int .u8 (x.toNat:Int))
 rw [HS.upd_rest _ _ (by omega)] at hA1
 have hA2:=hA1.set 73 (by omega) (.int .i64 ((m + 1:Nat):Int))
 rw [HS.upd_many] at hA2
 dsimp only at hA2
 have HA2:=Lib.hid hA2
 have HG:=Lib.hid (grown_set (grown_set (grown_of_below hbq (some b)) (o:=9 + m) (.int .u8 (x.toNat:Int))) (o:=73) (.int .i64 ((m + 1:Nat):Int)))
 clear hA1 hA2
 by_cases h64:m + 1 = 64
 ·have h64':((m:Int) + 1 == 64) = true:=by rw [beq_iff_eq];omega
  have HH:=Lib.hid h64
  clear h64
  go_wp2_with fail
  have hL2:Laid _:=HL.out.grown HG.out hb8
  refine (take_any b _ _ HA2.out hL2.rounds (by have:=hL2.lt;omega)).mono ?_
  rintro e w' ⟨rfl,hA3,hg3⟩
  have HA3:=Lib.hid hA3
  have HG3:=Lib.hid (grown_trans HG.out hg3)
  clear hA3 hg3 hL2
  go_wp2
  go_end0
  refine ⟨rfl,?_,HG3.out⟩
  unfold HS.put
  rw [HM.out,if_pos HH.out]
  exact HA3.out
 ·have h64':((m:Int) + 1 == 64) = false:=by rw [beq_eq_false_iff_ne];omega
  have HH:=Lib.hid h64
  clear h64
  go_wp2
  go_end0
  refine ⟨rfl,?_,HG.out⟩
  unfold HS.put
  rw [HM.out,if_neg HH.out]
  exact HA2.out
end Go.Proofs.YtmhjpmenngjmeaaGreatDoor

namespace Go.Proofs.YtmhjpmenngjmeaaGreatDoor
open Go.RowKit
theorem Arr.setCells {w:World} {b n:Nat} {c:Nat → Value} (h:Arr w b n c) (o:Nat) (vs:List Value) (hn:o + vs.length ≤ n) :
  Arr (w.setCells b o vs) b n (fun k => if o ≤ k ∧ k < o + vs.length then vs.getD (k - o) undef else c k):=by
 have ht:w.there b o vs.length:=fun j hj => ⟨by rw [h.cell (o + j) (by omega)];rfl,h.free _ (by omega)⟩
 refine ⟨fun k hk => ?_,fun k hk => ?_⟩
 ·split
  ·rename_i hc
   have:=World.rangeAt_setCells_same w b o vs ht (k - o) (vs.getD (k - o) undef) (by simp [show k - o < vs.length from by omega])
   rw [show o + (k - o) = k from by omega] at this
   exact this
  ·rw [World.cell?_setCells_out b vs o w ⟨b,k,none⟩ (fun _ _ => by show k < o ∨ o + vs.length ≤ k;omega)]
   exact h.cell k hk
 ·rw [World.frozen?_setCells];exact h.free k hk
theorem grown_setCells {w:World} {b:Nat} (vs:List Value):∀ (o:Nat) (w':World),w.grownBy w' (some b) → w.grownBy (w'.setCells b o vs) (some b):=by
 induction vs with
 | nil => intro o w' h;exact h
 | cons v vs ih => intro o w' h;rw [World.setCells];exact ih _ _ (grown_set h v)
theorem HS.begin_c (h:HS) (hb:h.begun = false):∀ k,k < 75 → (if 1 ≤ k ∧ k < 1 + firstV.length then firstV.getD (k - 1) undef else upd h.c 0 (.bool true) k) = h.begin.c k:=by
 intro k _
 have hl:firstV.length = 8:=rfl
 have he:h.begin = { h with begun:=true,st:=firstW }:=by unfold HS.begin;rw [hb];rfl
 rw [hl,he]
 unfold upd HS.c
 dsimp only
 by_cases h0:k = 0
 ·subst h0;rfl
 ·by_cases h9:k < 9
  ·rw [if_pos (by omega),if_neg h0,if_pos h9]
   obtain h | h | h | h | h | h | h | h:k = 1 ∨ k = 2 ∨ k = 3 ∨ k = 4 ∨ k = 5 ∨ k = 6 ∨ k = 7 ∨ k = 8:=by omega
   all_goals subst h;rfl
  ·rw [if_neg (by omega),if_neg h0,if_neg h0,if_neg h0,if_neg h9,if_neg h9]
set_option maxHeartbeats 1000000 in
theorem begin_any (b:Nat) (h:HS) (w:World) (hA:Arr w b 75 h.c) (hL:Laid w) :
  Calls Tryz.prog 110 #[.pointer (some ⟨b,0,none⟩)] w fun e w' => e = .returned (.tuple #[]) ∧ Arr w' b 75 h.begin.c ∧ w.grownBy w' (some b):=by
 have c0:=hA.cell 0 (by omega)
 rw [HS.c_begun] at c0
 have f0:=hA.free 0 (by omega)
 cases hb:h.begun with
 | true =>
  rw [hb] at c0
  have HA:=Lib.hid hA
  have HB:=Lib.hid hb
  clear hA hb
  go_enter Tryz.func110,Tryz.ntmps110
  go_wp2
  go_end0
  refine ⟨rfl,?_,grown_of_below (Below.refl _ _) _⟩
  unfold HS.begin
  rw [HB.out,if_pos rfl]
  exact HA.out
 | false =>
  rw [hb] at c0
  have HB:=Lib.hid hb
  have hA1:=hA.set 0 (by omega) (.bool true)
  have hth:(w.setCell ⟨b,0,none⟩ (.bool true)).there b (0 + 1) 8:=fun j hj => ⟨by rw [hA1.cell _ (by omega)];rfl,hA1.free _ (by omega)⟩
  have hA2:=hA1.setCells 1 firstV (by show 1 + 8 ≤ 75;omega)
  have HA2:=Lib.hid hA2
  have HG:=Lib.hid (grown_setCells firstV 1 _ (grown_set (grown_of_below (Below.refl _ w) (some b)) (o:=0) (.bool true)))
  have hF:=hL.first
  have h8:(Tryz.prog.info? 156).map (·.size) = some 8:=by kernel_rfl
  have HT:=Lib.hid hth
  clear hA hb hA1 hA2 hL hth
  go_enter Tryz.func110,Tryz.ntmps110
  go_wp2_with (first | (refine wpList_load_mid rfl 156 _ rfl 1 0 rfl firstV _ hF Tryz.underlying156 rfl h8 ?_) | (refine wpList_store_list rfl 156 _ _ rfl b 1 firstV ?x1 ?x2 8 ?x3 ?x4 ?x5 ?h1 ?_))
  case x1 => rfl
  case x2 => rfl
  case x3 => rfl
  case x4 => exact HT.out
  case x5 => exact h8
  case h1 => unfold firstV;simp [Value.oneCell']
  go_wp2
  go_end0
  exact ⟨rfl,HA2.out.congr (HS.begin_c h HB.out),HG.out⟩
end Go.Proofs.YtmhjpmenngjmeaaGreatDoor

namespace Go.Proofs.YtmhjpmenngjmeaaGreatDoor
open Go.RowKit
def HS.feed (h:HS) (l:List UInt8):HS:=l.foldl HS.put h
theorem HS.feed_snoc (h:HS) (s:ByteArray) (k:Nat) (hk:k < s.size):h.feed (s.data.toList.take (k + 1)) = (h.feed (s.data.toList.take k)).put s[k]:=by
 unfold HS.feed
 rw [List.take_succ_eq_append_getElem (by simpa using hk),List.foldl_append];rfl
theorem HS.feed_many (h:HS) (l:List UInt8) (hm:h.many < 64):(h.feed l).many < 64:=by
 unfold HS.feed
 induction l generalizing h with
 | nil => exact hm
 | cons x l ih => exact ih _ (HS.put_many _ _ hm)
theorem HS.put_taken (h:HS) (x:UInt8):(h.put x).taken = h.taken:=by unfold HS.put;split <;> rfl
theorem HS.feed_taken (h:HS) (l:List UInt8):(h.feed l).taken = h.taken:=by
 unfold HS.feed
 induction l generalizing h with
 | nil => rfl
 | cons x l ih => exact (ih _).trans (HS.put_taken _ _)
theorem HS.begin_many (h:HS):h.begin.many = h.many:=by unfold HS.begin;split <;> rfl
theorem HS.begin_taken (h:HS):h.begin.taken = h.taken:=by unfold HS.begin;split <;> rfl
def HS.w1 (h:HS) (s:ByteArray) (k:Nat):HS:=if k = 0 then h.begin else { h.begin.feed s.data.toList with taken:=(s.size:Int) }
set_option maxHeartbeats 2000000 in
theorem write_any (b p q cap:Nat) (h:HS) (s:ByteArray) (w:World) (hA:Arr w b 75 h.c) (hL:Laid w) (hb8:5 ≤ b) (hs:w.cell? ⟨p,q,none⟩ = some (.string s)) (hp:p ≠ b) (ht:h.taken = 0) (hm:h.many < 64) (hz:s.size ≤ 1000000000) :
  Calls Tryz.prog 87 #[.pointer (some ⟨b,0,none⟩),.slice (some ⟨p,q,none⟩) 1 cap] w fun e w' => e = .returned (.tuple #[]) ∧ Arr w' b 75 (h.w1 s 1).c ∧ w.grownBy w' (some b):=by
 have HB:=Lib.hid (fun w' (h1:Arr w' b 75 h.c) (h2:Laid w') => begin_any b h w' h1 h2)
 have HT:=Lib.hid ht
 have HM:=Lib.hid hm
 have HA:=Lib.hid hA
 have HL:=Lib.hid hL
 clear hA hL ht hm
 go_enter Tryz.func87,Tryz.ntmps87
 go_wp2_with fail
 refine (HB.out w HA.out HL.out).mono ?_
 rintro e w1 ⟨rfl,hA1,hg1⟩
 have hs1:=hg1.cell hs (by simpa using hp)
 have HA1:=Lib.hid hA1
 have HG1:=Lib.hid hg1
 clear hA1 hg1
 go_wp2
 go_loopw [13] (fun i wr => ∃ k:Nat,k ≤ 1 ∧ i = .int .i64 k ∧ Arr wr b 75 (h.w1 s k).c ∧ w.grownBy wr (some b)) (fun i _ => (1 - intOf i).toNat)
 case atStart => exact ⟨0,by omega,rfl,HA1.out,HG1.out⟩
 case round =>
  obtain ⟨wo,rfl⟩:∃ wo:World,wo = wr:=⟨_,rfl⟩
  obtain ⟨k,hk,rfl,hAo,hgo⟩:=hrel
  by_cases hk0:k < 1
  ·have HK0:=Lib.hid (show k = 0 by omega)
   have hd1:decide (k < 1) = true:=decide_eq_true hk0
   have hd2:decide ((k:Int) < 1) = true:=decide_eq_true (by omega)
   have k0:(0:Int) ≤ k:=by omega
   have k1:(k:Int) < 1:=by omega
   have hpk:(⟨p,q + k,none⟩:Addr) = ⟨p,q,none⟩:=by rw [HK0.out];rfl
   have hso:=hgo.cell hs (by simpa using hp)
   rw [← hpk] at hso
   have HAo:=Lib.hid hAo
   have HGo:=Lib.hid hgo
   clear hAo hgo hs1 hk hk0 hpk
   go_wp2
   go_loopw [19] (fun i wr => ∃ j:Nat,j ≤ s.size ∧ i = .int .i64 j ∧ Arr wr b 75 (h.begin.feed (s.data.toList.take j)).c ∧ w.grownBy wr (some b)) (fun i _ => (s.size - intOf i).toNat)
   case atStart => exact ⟨0,by omega,rfl,by have:=HAo.out;rw [HK0.out] at this;exact this,HGo.out⟩
   case round =>
    obtain ⟨wi,rfl⟩:∃ wi:World,wi = wr:=⟨_,rfl⟩
    obtain ⟨j,hj,rfl,hAi,hgi⟩:=hrel
    by_cases hjl:j < s.size
    ·have HP:=Lib.hid (put_any b _ s[j] wi hAi (HS.feed_many _ _ (by rw [HS.begin_many];exact HM.out)) (HL.out.grown hgi hb8) hb8)
     have HGi:=Lib.hid hgi
     have HS1:=Lib.hid (HS.feed_snoc h.begin s j hjl)
     clear hAi hgi
     go_wp2_with fail
     refine HP.out.mono ?_
     rintro e w2 ⟨rfl,hA2,hg2⟩
     have HA2:=Lib.hid hA2
     have HG2:=Lib.hid (grown_trans HGi.out hg2)
     clear hA2 hg2
     go_wp2
     go_roundw
     case rel => exact ⟨j + 1,by omega,by go_num,by rw [HS1.out];exact HA2.out,HG2.out⟩
     case measure => simp [intOf];omega
    ·obtain rfl:j = s.size:=by omega
     rw [show s.data.toList.take s.size = s.data.toList from List.take_of_length_le (by simp)] at hAi
     have c1:=hAi.cell 74 (by omega)
     have f1:=hAi.free 74 (by omega)
     rw [HS.c_taken,HS.feed_taken,HS.begin_taken,HT.out] at c1
     have HAi:=Lib.hid hAi
     have HGi:=Lib.hid hgi
     clear hAi hgi
     go_wp2
     go_roundw
     case rel =>
      refine ⟨k + 1,by omega,by go_num,?_,grown_set HGi.out _⟩
      rw [HK0.out]
      exact (HAi.out.set 74 (by omega) (.int .u64 (s.size:Int))).congr (HS.upd_taken _ _)
     case measure => simp [intOf];omega
  ·obtain rfl:k = 1:=by omega
   have HAo:=Lib.hid hAo
   have HGo:=Lib.hid hgo
   clear hAo hgo
   go_wp2
   go_end0
   exact ⟨rfl,HAo.out,HGo.out⟩
end Go.Proofs.YtmhjpmenngjmeaaGreatDoor

namespace Go.Proofs.YtmhjpmenngjmeaaGreatDoor
open Go.RowKit
def be8 (T k:Nat):UInt8:=UInt8.ofNat (T / 2 ^ (56 - 8 * k))
def be64 (T:Nat):List UInt8:=(List.range 8).map (be8 T)
def stB (st:Nat → W32) (j:Nat):UInt8:=UInt8.ofNat ((st (j / 4)).toNat / 2 ^ (24 - 8 * (j % 4)))
def padN (m:Nat):Nat:=(120 - m) % 64
def HS.ended (h:HS):HS:=(((h.begin.put 128).feed (List.replicate (padN (h.begin.put 128).many) 0))).feed (be64 (8 * h.taken.toNat))
def idV (x:List UInt8):Value:=.agg (x.map fun b => Value.int .u8 (b.toNat:Int)).toArray
def HS.sum (h:HS):List UInt8:=(List.range 32).map (stB h.ended.st)
theorem feed_app (h:HS) (l m:List UInt8):h.feed (l ++ m) = (h.feed l).feed m:=by unfold HS.feed;rw [List.foldl_append]
theorem feed_one (h:HS) (l:List UInt8) (x:UInt8):h.feed (l ++ [x]) = (h.feed l).put x:=feed_app h l [x]
theorem put_many_mod (h:HS) (x:UInt8) (hm:h.many < 64):(h.put x).many = (h.many + 1) % 64:=by
 unfold HS.put;split
 ·rename_i h1;rw [h1]
 ·rename_i h1;show h.many + 1 = _;rw [Nat.mod_eq_of_lt (by omega)]
theorem feed_many_mod (h:HS) (hm:h.many < 64):∀ l:List UInt8,(h.feed l).many = (h.many + l.length) % 64:=by
 intro l
 induction l generalizing h with
 | nil => show h.many = _;rw [List.length_nil,Nat.add_zero,Nat.mod_eq_of_lt hm]
 | cons x l ih =>
  show ((h.put x).feed l).many = _
  rw [ih _ (HS.put_many h x hm),put_many_mod h x hm,List.length_cons];omega
theorem be64_take (T k:Nat) (hk:k < 8):(be64 T).take (k + 1) = (be64 T).take k ++ [be8 T k]:=by
 have hl:(be64 T).length = 8:=by simp [be64]
 rw [List.take_succ_eq_append_getElem (by omega)]
 congr 1
 simp [be64]
theorem wrap_u8' (n:Int):IntKind.u8.wrap n = n % 256:=by simp [IntKind.wrap,IntKind.signed,IntKind.bits]
theorem u8_of (n:Nat):((UInt8.ofNat n).toNat:Int) = (n:Int) % 256:=by
 rw [UInt8.toNat_ofNat'];omega
theorem run_index_list (t e:TypeId) (len:Nat) (hu:Tryz.prog.underlying t = some (.array len e)) (hs:∀ w,(sizeOf e).run Tryz.prog w = .ok 1 w) (ha:∀ w,(isAgg e).run Tryz.prog w = .ok false w)
  (vs:List Value) (w:World) (n:Nat) (hn:n < len) (v:Value) (hv:vs[n]? = some v):(Instr.index t (.agg vs.toArray) (.int .i64 (n:Int))).run Tryz.prog w = .ok v w:=by
 have h1:(0:Int) ≤ n ∧ (n:Int) < len:=by omega
 have h2:vs.toArray[n]? = some v:=by simpa using hv
 unfold Instr.index
 simp only [Sem.run_bind,asIntOf,Sem.run_pure,Result.andThen_ok,run_underlying hu,if_pos h1,hs w,part,ha w,Int.toNat_natCast,Nat.mul_one,h2]
 rfl
theorem vi64 {a b:Int} (h:a = b):Value.int .i64 a = .int .i64 b:=by rw [h]
def padLeft (c:Nat) (w:World):Nat:=match w.cell? ⟨c,73,none⟩ with
 | some (.int _ m) => padN m.toNat
 | _ => 0
theorem Arr.ofList (w:World) (vs:List Value) (e:TypeId):Arr (w.alloc (.cells vs.toArray e)) w.heap.size vs.length (fun k => vs.getD k undef) :=
 ⟨fun k hk => by rw [World.cell?_alloc_new];simp [hk],fun k hk => by rw [World.frozen?_alloc_new]⟩
def zeroH:HS:={ begun:=false,st:=fun _ => 0,rest:=fun _ => 0,many:=0,taken:=0 }
theorem Arr.zeroH (w:World) (e:TypeId):Arr (w.alloc (.cells ((List.range 75).map zeroH.c).toArray e)) w.heap.size 75 Go.Proofs.YtmhjpmenngjmeaaGreatDoor.zeroH.c:=by
 have h:=Arr.ofList w ((List.range 75).map Go.Proofs.YtmhjpmenngjmeaaGreatDoor.zeroH.c) e
 rw [List.length_map,List.length_range] at h
 exact h.congr fun k hk => by simp [hk]
def outC (st:Nat → W32) (n k:Nat):Value:=if k < 4 * n then .int .u8 ((stB st k).toNat:Int) else .int .u8 0
theorem outC_zero (st:Nat → W32):outC st 0 = fun _ => .int .u8 0:=by funext k;unfold outC;rw [if_neg (by omega)]
theorem stB_v (st:Nat → W32) (n i:Nat) (hi:i < 4):((stB st (4 * n + i)).toNat:Int) = wn (st n) / ((2 ^ (24 - 8 * i):Nat):Int) % 256:=by
 unfold stB wn
 rw [u8_of,show (4 * n + i) / 4 = n from by omega,show (4 * n + i) % 4 = i from by omega]
 rfl
theorem outC_next (st:Nat → W32) (n:Nat) (k:Nat) :
  upd (upd (upd (upd (outC st n) (4 * n) (.int .u8 (wn (st n) / 16777216))) (4 * n + 1) (.int .u8 (wn (st n) / 65536 % 256))) (4 * n + 2) (.int .u8 (wn (st n) / 256 % 256))) (4 * n + 3) (.int .u8 (wn (st n) % 256)) k = outC st (n + 1) k:=by
 have h0:((stB st (4 * n)).toNat:Int) = wn (st n) / 16777216:=by
  have h:((stB st (4 * n)).toNat:Int) = wn (st n) / 16777216 % 256:=stB_v st n 0 (by omega)
  have h2:=wn_lt (st n);have h3:=wn_0 (st n)
  omega
 have h1:((stB st (4 * n + 1)).toNat:Int) = wn (st n) / 65536 % 256:=stB_v st n 1 (by omega)
 have h2:((stB st (4 * n + 2)).toNat:Int) = wn (st n) / 256 % 256:=stB_v st n 2 (by omega)
 have h3:((stB st (4 * n + 3)).toNat:Int) = wn (st n) % 256:=by
  have h:((stB st (4 * n + 3)).toNat:Int) = wn (st n) / 1 % 256:=stB_v st n 3 (by omega)
  rw [Int.ediv_one] at h;exact h
 unfold upd outC
 by_cases e3:k = 4 * n + 3
 ·subst e3;rw [if_pos rfl,if_pos (by omega),h3]
 ·rw [if_neg e3]
  by_cases e2:k = 4 * n + 2
  ·subst e2;rw [if_pos rfl,if_pos (by omega),h2]
  ·rw [if_neg e2]
   by_cases e1:k = 4 * n + 1
   ·subst e1;rw [if_pos rfl,if_pos (by omega),h1]
   ·rw [if_neg e1]
    by_cases e0:k = 4 * n
    ·subst e0;rw [if_pos rfl,if_pos (by omega),h0]
    ·rw [if_neg e0]
     by_cases e:k < 4 * n
     ·rw [if_pos e,if_pos (by omega)]
     ·rw [if_neg e,if_neg (by omega)]
theorem idx8 (st:Nat → W32) (n:Nat) (hn:n < 8):[Value.int .u32 (wn (st 0)),.int .u32 (wn (st 1)),.int .u32 (wn (st 2)),.int .u32 (wn (st 3)),.int .u32 (wn (st 4)),.int .u32 (wn (st 5)),.int .u32 (wn (st 6)),.int .u32 (wn (st 7))][n]? = some (.int .u32 (wn (st n))):=by
 obtain h | h | h | h | h | h | h | h:n = 0 ∨ n = 1 ∨ n = 2 ∨ n = 3 ∨ n = 4 ∨ n = 5 ∨ n = 6 ∨ n = 7:=by omega
 all_goals subst h;rfl
set_option maxRecDepth 100000 in
set_option maxHeartbeats 800000 in
theorem hsum_any (b:Nat) (h:HS) (w:World) (hA:Arr w b 75 h.c) (hL:Laid w) (hm:h.many < 64) (ht:0 ≤ h.taken ∧ h.taken ≤ 1000000000) :
  Calls Tryz.prog 88 #[.pointer (some ⟨b,0,none⟩)] w fun e w' => e = .returned (idV h.sum) ∧ Below w.heap.size w w':=by
 have hbl:b < w.heap.size:=hA.lt (by omega)
 have HA:=Lib.hid hA
 have HL:=Lib.hid hL
 have HM:=Lib.hid hm
 have HT:=Lib.hid ht
 clear hA hL hm ht
 have hz:Tryz.zeroCells160 = ((List.range 75).map zeroH.c).toArray:=by kernel_rfl
 have hR:w.rangeAt b 0 ((List.range 75).map h.c):=HA.out.range
 have hlen:((List.range 75).map h.c).length = 75:=by simp
 have hone:∀ v ∈ (List.range 75).map h.c,v.oneCell' = true:=by
  intro v hv
  obtain ⟨k,_,rfl⟩:=List.mem_map.1 hv
  unfold HS.c
  repeat' split
  all_goals rfl
 have hget:∀ k,k < 75 → ((List.range 75).map h.c).getD k undef = h.c k:=fun k hk => by simp [hk]
 have hi:(Tryz.prog.info? 160).map (·.size) = some 75:=by kernel_rfl
 generalize (List.range 75).map h.c = vs at hR hlen hone hget
 have hi2:(Tryz.prog.info? 160).map (·.size) = some vs.length:=by rw [hlen];exact hi
 have hA1:Arr ((w.alloc (.cells (Array.replicate 32 (.int .u8 0)) 27)).alloc (.cells Tryz.zeroCells160 160)) (w.heap.size + 1) 75 zeroH.c:=by
  rw [hz]
  have:=Arr.zeroH (w.alloc (.cells (Array.replicate 32 (.int .u8 0)) 27)) 160
  rw [World.size_alloc] at this;exact this
 have hA2:=hA1.setAll vs hlen
 have hA3:=hA2.congr hget
 have hth:=hA1.there
 have HA3:=Lib.hid hA3
 have HTH:=Lib.hid hth
 have HLN:=Lib.hid hlen
 have HON:=Lib.hid hone
 clear hA1 hA2 hA3 hth hget hlen hz hone
 go_enter Tryz.func88,Tryz.ntmps88
 go_wp2_with (first | (refine wpList_load_mid rfl 160 _ rfl b 0 rfl vs _ (World.rangeAt_alloc (World.rangeAt_alloc hR _) _) Tryz.underlying160 rfl hi2 ?_) | (refine wpList_store_list rfl 160 _ _ rfl (w.heap.size + 1) 0 vs ?x1 ?x2 75 HLN.out ?x4 hi HON.out ?_) | fail)
 case x4 => exact HTH.out
 generalize hW:World.setCells _ (w.heap.size + 1) 0 vs = W
 have hbW:Below w.heap.size w W:=by
  rw [← hW];exact below_setCells _ (by omega) vs 0 _ (((Below.refl _ _).alloc (Nat.le_refl _) _).alloc (by simp) _)
 have hA4:Arr W (w.heap.size + 1) 75 h.c:=by rw [← hW];exact HA3.out
 have hO4:Arr W w.heap.size 32 (fun _ => .int .u8 0):=by
  rw [← hW]
  have h1:=(Arr.new w 32 (.int .u8 0) 27).alloc (by omega) (.cells Tryz.zeroCells160 160)
  exact ⟨fun k hk => by rw [World.cell?_setCells_out (w.heap.size + 1) vs 0 _ ⟨w.heap.size,k,none⟩ (fun hb _ => by simp at hb)];exact h1.cell k hk,fun k hk => by rw [World.frozen?_setCells];exact h1.free k hk⟩
 have hsW:w.heap.size + 1 < W.heap.size:=hA4.lt (by omega)
 have hL4:=HL.out.below hbW
 clear HA3 HTH hi2 hi hR
 have HBW:=Lib.hid hbW
 have HO4:=Lib.hid hO4
 have h8:5 ≤ w.heap.size + 1:=by have:=HL.out.lt;omega
 clear hbW hO4
 refine (begin_any (w.heap.size + 1) h W hA4 hL4).mono ?_
 rintro e w1 ⟨rfl,hA5,hg5⟩
 have hL5:=hL4.grown hg5 h8
 have HP:=put_any (w.heap.size + 1) h.begin 128 w1 hA5 (by rw [HS.begin_many];exact HM.out) hL5 h8
 rw [show (((128:UInt8).toNat:Nat):Int) = 128 from rfl] at HP
 have HPP:=Lib.hid HP
 have HG5:=Lib.hid hg5
 clear hA4 hA5 HP hg5 hL4 hL5 hW
 go_wp2_with fail
 refine HPP.out.mono ?_
 rintro e w2 ⟨rfl,hA6,hg6⟩
 have HG6:=Lib.hid (grown_trans HG5.out hg6)
 have hm6:(h.begin.put 128).many < 64:=HS.put_many _ _ (by rw [HS.begin_many];exact HM.out)
 have ht6:(h.begin.put 128).taken = h.taken:=by rw [HS.put_taken,HS.begin_taken]
 have HMM:=Lib.hid hm6
 have HEN:Hid (h.ended = ((h.begin.put 128).feed (List.replicate (padN (h.begin.put 128).many) 0)).feed (be64 (8 * h.taken.toNat))):=Lib.hid rfl
 generalize h.begin.put 128 = g at hA6 hm6 ht6 HMM HEN
 have HTT:=Lib.hid ht6
 have HA6:=Lib.hid hA6
 clear hA6 hg6 HPP hm6 ht6
 go_wp2
 go_loopw [16] (fun _ wr => ∃ i:Nat,i ≤ padN g.many ∧ Arr wr (w.heap.size + 1) 75 (g.feed (List.replicate i 0)).c ∧ W.grownBy wr (some (w.heap.size + 1))) (fun _ wr => padLeft (w.heap.size + 1) wr)
 case atStart => exact ⟨0,Nat.zero_le _,HA6.out,HG6.out⟩
 case round =>
  obtain ⟨wo,rfl⟩:∃ wo:World,wo = wr:=⟨_,rfl⟩
  obtain ⟨i,hi,hAo,hgo⟩:=hrel
  have c1:=hAo.cell 73 (by omega)
  rw [HS.c_many] at c1
  have hmo:=feed_many_mod g HMM.out (List.replicate i 0)
  rw [List.length_replicate] at hmo
  generalize hq:g.feed (List.replicate i 0) = q at hAo c1 hmo
  by_cases hne:q.many = 56
  ·have hd:((q.many:Int) != 56) = false:=by rw [bne_eq_false_iff_eq];omega
   have hie:i = padN g.many:=by unfold padN at hi ⊢;have:=HMM.out;omega
   have hA1:=hAo
   rw [hie] at hq
   have HEN2:Hid (h.ended = q.feed (be64 (8 * h.taken.toNat))):=by
    have:=HEN.out;rw [hq] at this;exact this
   have htq:q.taken = h.taken:=by rw [← hq,HS.feed_taken];exact HTT.out
   have hmq:q.many < 64:=by omega
   have HTQ:=Lib.hid htq
   have HMQ:=Lib.hid hmq
   have HA1:=Lib.hid hA1
   have HGO:=Lib.hid hgo
   clear hAo hA1 hgo hmo hne hie hi htq hmq HEN hq
   obtain ⟨T,hT⟩:∃ T:Nat,h.taken = T:=⟨h.taken.toNat,by have:=HT.out;omega⟩
   have hT2:T ≤ 1000000000:=by have:=HT.out;omega
   have HTT2:=Lib.hid hT
   rw [hT,Int.toNat_natCast] at HEN2
   clear hT
   go_wp2
   go_loopw [4] (fun i wr => ∃ k:Nat,k ≤ 8 ∧ i = .int .i64 (56 - 8 * (k:Int)) ∧ Arr wr (w.heap.size + 1) 75 (q.feed ((be64 (8 * T)).take k)).c ∧ W.grownBy wr (some (w.heap.size + 1))) (fun i _ => (intOf i + 8).toNat)
   case atStart => exact ⟨0,by omega,rfl,HA1.out,HGO.out⟩
   case round =>
    obtain ⟨wi,rfl⟩:∃ wi:World,wi = wr:=⟨_,rfl⟩
    obtain ⟨k,hk,rfl,hAi,hgi⟩:=hrel
    by_cases hk8:k < 8
    ·obtain ⟨j,hj⟩:∃ j:Nat,(56 - 8 * (k:Int)) = (j:Int):=⟨(56 - 8 * (k:Int)).toNat,by omega⟩
     have hjk:j = 56 - 8 * k:=by omega
     rw [hj]
     have c1:=hAi.cell 74 (by omega)
     rw [HS.c_taken,HS.feed_taken,HTQ.out,HTT2.out] at c1
     have HP:=put_any (w.heap.size + 1) _ (be8 (8 * T) k) wi hAi (HS.feed_many _ _ HMQ.out) ((HL.out.below HBW.out).grown hgi h8) h8
     have hb8:(((be8 (8 * T) k).toNat:Nat):Int) = 8 * (T:Int) / 2 ^ j % 256:=by
      unfold be8;rw [u8_of,← hjk];push_cast;rfl
     rw [hb8] at HP
     have HPP:=Lib.hid HP
     have HGI:=Lib.hid hgi
     have HTK:=Lib.hid (be64_take (8 * T) k hk8)
     have HJ:=Lib.hid hj
     have j0:(0:Int) ≤ j:=by omega
     have j1:(j:Int) ≤ 56:=by omega
     have t0:(0:Int) ≤ T:=by omega
     have t1:(T:Int) ≤ 1000000000:=by omega
     clear HP hgi hAi hb8 hj hjk
     go_wp2_with fail
     refine HPP.out.mono ?_
     rintro e w3 ⟨rfl,hA7,hg7⟩
     have HA7:=Lib.hid hA7
     have HG7:=Lib.hid (grown_trans HGI.out hg7)
     clear hA7 hg7 c1
     go_wp2
     go_roundw
     case rel =>
      have h1:=HJ.out
      exact ⟨k + 1,by omega,vi64 (by push_cast;omega),by rw [HTK.out,feed_one];exact HA7.out,HG7.out⟩
     case measure => have h1:=HJ.out;simp [intOf];omega
    ·obtain rfl:k = 8:=by omega
     have hf:(be64 (8 * T)).take 8 = be64 (8 * T):=List.take_of_length_le (by simp [be64])
     rw [hf,← HEN2.out] at hAi
     have cs:=fun k (hk:k < 8) => (hAi.cell (1 + k) (by omega)).trans (by rw [HS.c_st _ _ hk])
     have c0:=cs 0 (by omega)
     have c1:=cs 1 (by omega)
     have c2:=cs 2 (by omega)
     have c3:=cs 3 (by omega)
     have c4:=cs 4 (by omega)
     have c5:=cs 5 (by omega)
     have c6:=cs 6 (by omega)
     have c7:=cs 7 (by omega)
     simp only [Nat.reduceAdd] at c0 c1 c2 c3 c4 c5 c6 c7
     clear cs
     have hsi:W.heap.size ≤ wi.heap.size:=hgi.size
     have hO:Arr wi w.heap.size 32 (fun _ => .int .u8 0):=⟨fun k hk => hgi.cell (HO4.out.cell k hk) (by simp),fun k hk => by
      rw [World.frozen?_of_block (w:=W) (a:=⟨w.heap.size,k,none⟩) (hgi.block w.heap.size (by omega) (by simp))];exact HO4.out.free k hk⟩
     have hbi:Below w.heap.size w wi:=(HBW.out).grown hgi (by omega) (fun k hk => by cases hk;omega)
     have hlt:w.heap.size + 1 < wi.heap.size:=by omega
     have HO:=Lib.hid hO
     have HBI:=Lib.hid hbi
     clear hO hbi hgi hAi hf HEN2
     generalize hst:h.ended.st = st at c0 c1 c2 c3 c4 c5 c6 c7
     have HST:=Lib.hid hst
     have hO2:Arr (wi.alloc (.cells (Array.replicate 32 (.int .u8 0)) 27)) wi.heap.size 32 (outC st 0):=by rw [outC_zero];exact Arr.new wi 32 _ _
     have HO2:=Lib.hid hO2
     clear hst hO2
     go_wp2
     go_loopw [32] (fun i wr => ∃ n:Nat,n ≤ 8 ∧ i = .int .i64 n ∧ Arr wr wi.heap.size 32 (outC st n) ∧ Below wi.heap.size wi wr) (fun i _ => (8 - intOf i).toNat)
     case atStart => exact ⟨0,by omega,rfl,HO2.out,(Below.refl _ _).alloc (Nat.le_refl _) _⟩
     case round =>
      obtain ⟨wj,rfl⟩:∃ wj:World,wj = wr:=⟨_,rfl⟩
      obtain ⟨n,hn,rfl,hAj,hbj⟩:=hrel
      clear c0 c1 c2 c3 c4 c5 c6 c7
      by_cases hn8:n < 8
      ·have hix:=fun w => run_index_list 156 141 8 Tryz.underlying156 (fun _ => by kernel_rfl) (fun _ => by kernel_rfl) _ w n hn8 _ (idx8 st n hn8)
       have c0:=hAj.cell (4 * n) (by omega)
       have c1:=hAj.cell (4 * n + 1) (by omega)
       have c2:=hAj.cell (4 * n + 2) (by omega)
       have c3:=hAj.cell (4 * n + 3) (by omega)
       have f0:=hAj.free (4 * n) (by omega)
       have f1:=hAj.free (4 * n + 1) (by omega)
       have f2:=hAj.free (4 * n + 2) (by omega)
       have f3:=hAj.free (4 * n + 3) (by omega)
       have n0:(0:Int) ≤ n:=by omega
       have n1:(n:Int) < 8:=by omega
       have hd3:decide ((n:Int) < 8) = true:=decide_eq_true (by omega)
       have x0:=wn_0 (st n)
       have x1:=wn_lt (st n)
       have HAJ:=Lib.hid hAj
       have HBJ:=Lib.hid hbj
       clear hAj hbj
       go_wp2
       go_roundw
       case rel =>
        refine ⟨n + 1,by omega,by go_num,?_,(((HBJ.out.setCell (Nat.le_refl _) _).setCell (Nat.le_refl _) _).setCell (Nat.le_refl _) _).setCell (Nat.le_refl _) _⟩
        exact ((((HAJ.out.set (4 * n) (by omega) _).set (4 * n + 1) (by omega) _).set (4 * n + 2) (by omega) _).set (4 * n + 3) (by omega) _).congr fun k _ => outC_next st n k
       case measure => simp [intOf];omega
      ·obtain rfl:n = 8:=by omega
       have hr:=hAj.range
       have e8:(List.range 32).map (outC st 8) = ((List.range 32).map (stB st)).map fun b => Value.int .u8 (b.toNat:Int):=by
        rw [List.map_map]
        refine List.map_congr_left fun k hk => ?_
        have:=List.mem_range.1 hk
        show outC st 8 k = _
        unfold outC;rw [if_pos (by omega)];rfl
       rw [e8] at hr
       have hO5:Arr wj w.heap.size 32 (fun _ => .int .u8 0):=HO.out.below hbj (by omega)
       have hlen:(((List.range 32).map (stB st)).map fun b => Value.int .u8 (b.toNat:Int)).length = 32:=by simp
       have hone:∀ v ∈ ((List.range 32).map (stB st)).map (fun b => Value.int .u8 (b.toNat:Int)),v.oneCell' = true:=by
        intro v hv;obtain ⟨x,_,rfl⟩:=List.mem_map.1 hv;rfl
       have hfin:idV h.sum = .agg (((List.range 32).map (stB st)).map fun b => Value.int .u8 (b.toNat:Int)).toArray:=by unfold idV HS.sum;rw [HST.out]
       have HF:=Lib.hid hfin
       generalize ((List.range 32).map (stB st)).map (fun b => Value.int .u8 (b.toNat:Int)) = us at hr hlen hone HF
       have h32:(Tryz.prog.info? 27).map (·.size) = some 32:=by kernel_rfl
       have h32u:(Tryz.prog.info? 27).map (·.size) = some us.length:=by rw [hlen];exact h32
       have hth:=hO5.there
       have hfr:=World.rangeAt_setCells_same wj w.heap.size 0 us (by rw [hlen];exact hth)
       have HFR:=Lib.hid hfr
       have HTH:=Lib.hid hth
       have HLN:=Lib.hid hlen
       have HON:=Lib.hid hone
       have hbf:Below w.heap.size w (wj.setCells w.heap.size 0 us):=below_setCells _ (Nat.le_refl _) us 0 _ (HBI.out.trans (hbj.mono HBI.out.size))
       have HBF:=Lib.hid hbf
       clear hAj hbj e8 hfin hth hlen hone hfr hbf hO5
       go_wp2_with (first | (refine wpList_load_mid rfl 27 _ rfl wi.heap.size 0 rfl us _ hr Tryz.underlying27 rfl h32u ?_) | (refine wpList_store_list rfl 27 _ _ rfl w.heap.size 0 us ?y1 ?y2 32 HLN.out ?y4 h32 HON.out ?_))
       case y4 => exact HTH.out
       go_wp2
       refine ret_cell rfl w.heap.size 0 rfl us _ HFR.out Tryz.underlying27 rfl h32u rfl ⟨by rw [HF.out],HBF.out⟩
  ·have hd:((q.many:Int) != 56) = true:=by rw [bne_iff_ne];omega
   have HP:=put_any (w.heap.size + 1) q 0 wo hAo (by omega) ((HL.out.below HBW.out).grown hgo h8) h8
   rw [show (((0:UInt8).toNat:Nat):Int) = 0 from rfl] at HP
   have HPP:=Lib.hid HP
   have HGO:=Lib.hid hgo
   have HQ:=Lib.hid hq
   have HMQ:=Lib.hid hmo
   have HNE:=Lib.hid hne
   have HC1:=Lib.hid c1
   clear HP hgo hAo hq hmo hne
   go_wp2_with fail
   refine HPP.out.mono ?_
   rintro e w3 ⟨rfl,hA7,hg7⟩
   have HA7:=Lib.hid hA7
   have HG7:=Lib.hid (grown_trans HGO.out hg7)
   clear hA7 hg7 c1
   go_wp2
   go_roundw
   case rel =>
    refine ⟨i + 1,?_,?_,HG7.out⟩
    ·have h1:=HMQ.out;have h2:=HNE.out;have h3:=HMM.out
     unfold padN at hi ⊢;omega
    ·rw [List.replicate_succ',feed_one,HQ.out];exact HA7.out
   case measure =>
    have c2:=HA7.out.cell 73 (by omega)
    have h1:=HMQ.out;have h2:=HNE.out
    rw [HS.c_many,put_many_mod _ _ (by omega)] at c2
    unfold padLeft padN
    rw [HC1.out,c2]
    dsimp only
    rw [Int.toNat_natCast,Int.toNat_natCast]
    omega
end Go.Proofs.YtmhjpmenngjmeaaGreatDoor

namespace Go.Proofs.YtmhjpmenngjmeaaGreatDoor
open Go.RowKit
def shaP (s:ByteArray):List UInt8:=(zeroH.w1 s 1).sum
theorem sum_len (h:HS):h.sum.length = 32:=by simp [HS.sum]
theorem idV_list (x:List UInt8):(x.map fun b => Value.int .u8 (b.toNat:Int)).length = x.length:=by simp
set_option maxRecDepth 100000 in
set_option maxHeartbeats 800000 in
theorem dsum_any (p q cap:Nat) (s:ByteArray) (w:World) (hs:w.cell? ⟨p,q,none⟩ = some (.string s)) (hL:Laid w) (hz:s.size ≤ 1000000000) :
  Calls Tryz.prog 48 #[.slice (some ⟨p,q,none⟩) 1 cap] w fun e w' => e = .returned (idV (shaP s)) ∧ Below w.heap.size w w':=by
 have hpl:p < w.heap.size:=World.block_lt_of_cell? w _ hs
 have hzc:Tryz.zeroCells160 = ((List.range 75).map zeroH.c).toArray:=by kernel_rfl
 have hb1:Below w.heap.size w ((w.alloc (.cells (Array.replicate 32 (.int .u8 0)) 27)).alloc (.cells Tryz.zeroCells160 160)):=((Below.refl _ _).alloc (Nat.le_refl _) _).alloc (by simp) _
 have hA1:Arr ((w.alloc (.cells (Array.replicate 32 (.int .u8 0)) 27)).alloc (.cells Tryz.zeroCells160 160)) (w.heap.size + 1) 75 zeroH.c:=by
  rw [hzc]
  have:=Arr.zeroH (w.alloc (.cells (Array.replicate 32 (.int .u8 0)) 27)) 160
  rw [World.size_alloc] at this;exact this
 have hO1:=(Arr.new w 32 (.int .u8 0) 27).alloc (by omega) (.cells Tryz.zeroCells160 160)
 clear hzc
 go_enter Tryz.func48,Tryz.ntmps48
 go_wp2_with fail
 generalize hW:(w.alloc _).alloc _ = W
 have hb2:Below w.heap.size w W:=by rw [← hW];exact hb1
 have hA2:Arr W (w.heap.size + 1) 75 zeroH.c:=by rw [← hW];exact hA1
 have hO2:Arr W w.heap.size 32 (fun _ => .int .u8 0):=by rw [← hW];exact hO1
 have hL2:=hL.below hb2
 have h8:=hL.lt
 have hsz:w.heap.size + 1 < W.heap.size:=hA2.lt (by omega)
 have hs2:=below_load hs hb2 hpl
 have HW1:=write_any (w.heap.size + 1) p q cap zeroH s W hA2 hL2 (by omega) hs2 (by omega) rfl (by show 0 < 64;omega) hz
 have HB2:=Lib.hid hb2
 have HO2:=Lib.hid hO2
 have HL2:=Lib.hid hL2
 clear hb1 hA1 hO1 hW hb2 hA2 hO2 hL2 hs hs2
 refine HW1.mono ?_
 rintro e w1 ⟨rfl,hA3,hg3⟩
 have hm3:(zeroH.w1 s 1).many < 64:=by
  unfold HS.w1;rw [if_neg (by omega)]
  exact HS.feed_many _ _ (by rw [HS.begin_many];show 0 < 64;omega)
 have ht3:(zeroH.w1 s 1).taken = (s.size:Int):=rfl
 have hS:=hsum_any (w.heap.size + 1) (zeroH.w1 s 1) w1 hA3 (HL2.out.grown hg3 (by omega)) hm3 (by rw [ht3];omega)
 have HSS:=Lib.hid hS
 have hO3:Arr w1 w.heap.size 32 (fun _ => .int .u8 0):=⟨fun k hk => hg3.cell (HO2.out.cell k hk) (by simp),fun k hk => by
  rw [World.frozen?_of_block (w:=W) (a:=⟨w.heap.size,k,none⟩) (hg3.block w.heap.size (by omega) (by simp))];exact HO2.out.free k hk⟩
 have hb3:Below w.heap.size w w1:=(HB2.out).grown hg3 (by omega) (fun k hk => by cases hk;omega)
 have hsz1:w.heap.size < w1.heap.size:=hO3.lt (by omega)
 have HO3:=Lib.hid hO3
 have HB3:=Lib.hid hb3
 clear hA3 hg3 hS hO3 hb3 hm3 ht3 HW1 HB2 HO2 HL2
 go_wp2_with fail
 refine HSS.out.mono ?_
 rintro e w2 ⟨rfl,hb4⟩
 have hlen:((shaP s).map fun b => Value.int .u8 (b.toNat:Int)).length = 32:=by rw [idV_list];exact sum_len _
 have hone:∀ v ∈ (shaP s).map (fun b => Value.int .u8 (b.toNat:Int)),v.oneCell' = true:=by
  intro v hv;obtain ⟨x,_,rfl⟩:=List.mem_map.1 hv;rfl
 have HF:Hid (idV (shaP s) = .agg ((shaP s).map fun b => Value.int .u8 (b.toNat:Int)).toArray):=Lib.hid rfl
 have hV:idV (HS.sum (zeroH.w1 s 1)) = .agg ((shaP s).map fun b => Value.int .u8 (b.toNat:Int)).toArray:=rfl
 rw [hV]
 have hth:=(HO3.out.below hb4 hsz1).there
 generalize (shaP s).map (fun b => Value.int .u8 (b.toNat:Int)) = us at hlen hone HF
 have h32:(Tryz.prog.info? 27).map (·.size) = some 32:=by kernel_rfl
 have h32u:(Tryz.prog.info? 27).map (·.size) = some us.length:=by rw [hlen];exact h32
 have HFR:=Lib.hid (World.rangeAt_setCells_same w2 w.heap.size 0 us (by rw [hlen];exact hth))
 have HTH:=Lib.hid hth
 have HLN:=Lib.hid hlen
 have HON:=Lib.hid hone
 have HBF:=Lib.hid (below_setCells (B:=w.heap.size) (a:=w) w.heap.size (Nat.le_refl _) us 0 w2 (HB3.out.trans (hb4.mono HB3.out.size)))
 clear hth hlen hone hb4 hV
 go_wp2_with (refine wpList_store_list rfl 27 _ _ rfl w.heap.size 0 us ?y1 ?y2 32 HLN.out ?y4 h32 HON.out ?_)
 case y1 => rfl
 case y2 => rfl
 case y4 => exact HTH.out
 simp only [Act.put]
 refine ret_cell rfl w.heap.size 0 rfl us _ HFR.out Tryz.underlying27 rfl h32u rfl ⟨by rw [HF.out],HBF.out⟩
end Go.Proofs.YtmhjpmenngjmeaaGreatDoor

namespace Go.Proofs.YtmhjpmenngjmeaaGreatDoor
open Go.RowKit
def lenL (l:List UInt8):List UInt8:=l ++ (128 :: List.replicate (padN ((l.length + 1) % 64)) 0) ++ be64 (8 * l.length)
def ofB (l:List UInt8):ByteArray:=⟨l.toArray⟩
theorem ofB_data (l:List UInt8):(ofB l).data.toList = l:=by simp [ofB]
theorem ofB_size (l:List UInt8):(ofB l).size = l.length:=by simp [ofB,ByteArray.size]
theorem ba_eq {p q:ByteArray} (h:p.data.toList = q.data.toList):p = q:=by
 cases p;cases q;simp at h;rw [h]
theorem ba_append (p q:ByteArray):(p ++ q).data.toList = p.data.toList ++ q.data.toList:=by simp
def endC (T n k:Nat):Value:=if 8 ≤ k + n then .int .u8 ((be8 T k).toNat:Int) else .int .u8 0
theorem endC_next (T n k:Nat) (hn:n < 8) (hk:k < 8):upd (endC T n) (7 - n) (.int .u8 ((T / 2 ^ (8 * n):Nat) % 256:Int)) k = endC T (n + 1) k:=by
 unfold upd endC
 by_cases e:k = 7 - n
 ·subst e
  rw [if_pos rfl,if_pos (by omega)]
  unfold be8
  rw [u8_of,show 56 - 8 * (7 - n) = 8 * n from by omega]
 ·rw [if_neg e]
  by_cases h:8 ≤ k + n
  ·rw [if_pos h,if_pos (by omega)]
  ·rw [if_neg h,if_neg (by omega)]
set_option maxRecDepth 100000 in
set_option maxHeartbeats 800000 in
theorem lengthened_any (s:ByteArray) (w:World) (hz:s.size ≤ 1000000000) :
  Calls Tryz.prog 83 #[.string s] w fun e w' => e = .returned (.string (ofB (lenL s.data.toList))) ∧ Below w.heap.size w w':=by
 have hsz:s.data.toList.length = s.size:=by simp
 have HSZ:=Lib.hid hsz
 clear hsz
 go_enter Tryz.func83,Tryz.ntmps83
 go_wp2
 go_loopw [3] (fun v wr => ∃ (i:Nat) (o:ByteArray),i ≤ padN ((s.size + 1) % 64) ∧ v = .string o ∧ o.size = s.size + 1 + i ∧ Hid (o.data.toList = s.data.toList ++ (128 :: List.replicate i 0)) ∧ wr = w) (fun v _ => match v with | .string o => 1000000100 - o.size | _ => 0)
 case atStart => exact ⟨0,_,Nat.zero_le _,rfl,by simp;rfl,by unfold Hid;simp,rfl⟩
 case round =>
  obtain ⟨wo,rfl⟩:∃ wo:World,wo = wr:=⟨_,rfl⟩
  obtain ⟨i,o,hi,rfl,hos,hol,rfl⟩:=hrel
  have HOS:=Lib.hid hos
  have HP:Hid (padN ((s.size + 1) % 64) = (120 - (s.size + 1) % 64) % 64):=Lib.hid rfl
  have hb1:o.size ≤ 1000000070:=by unfold padN at hi;omega
  by_cases hne:o.size % 64 = 56
  ·have hd:((o.size:Int) % 64 != 56) = false:=by rw [bne_eq_false_iff_eq];omega
   have hie:i = padN ((s.size + 1) % 64):=by unfold padN at hi ⊢;omega
   have HL:=Lib.hid hol.out
   rw [hie] at HL
   have hE0:Arr (wo.alloc (.cells (Array.replicate 8 (.int .u8 0)) 182)) wo.heap.size 8 (endC (8 * s.size) 0):=by
    have h:endC (8 * s.size) 0 = fun k => if 8 ≤ k then .int .u8 ((be8 (8 * s.size) k).toNat:Int) else .int .u8 0:=rfl
    exact (Arr.new wo 8 (.int .u8 0) _).congr fun k hk => by rw [h];dsimp only;rw [if_neg (by omega)]
   have HE0:=Lib.hid hE0
   clear hos hol hi hie hE0 hne
   generalize hT:8 * s.size = T at HE0
   have HT:=Lib.hid hT
   have hTb:T ≤ 8000000000:=by omega
   clear hT
   go_wp2
   go_loopw [4,6] (fun v i wr2 => ∃ n:Nat,n ≤ 8 ∧ i = .int .i64 n ∧ v = .int .u64 ((T / 2 ^ (8 * n):Nat):Int) ∧ Arr wr2 wo.heap.size 8 (endC T n) ∧ Below wo.heap.size wo wr2) (fun _ i _ => (8 - intOf i).toNat)
   case atStart => exact ⟨0,by omega,rfl,by rw [← HT.out,Nat.mul_zero,Nat.pow_zero,Nat.div_one];congr 1;omega,HE0.out,(Below.refl _ _).alloc (Nat.le_refl _) _⟩
   case round =>
    obtain ⟨wi,rfl⟩:∃ wi:World,wi = wr:=⟨_,rfl⟩
    obtain ⟨n,hn,rfl,rfl,hAi,hbi⟩:=hrel
    by_cases hn8:n < 8
    ·have c1:=hAi.cell (7 - n) (by omega)
     have f1:=hAi.free (7 - n) (by omega)
     have ec:endC T n (7 - n) = .int .u8 0:=by unfold endC;rw [if_neg (by omega)]
     rw [ec] at c1
     have hd3:decide ((n:Int) < 8) = true:=decide_eq_true (by omega)
     have n0:(0:Int) ≤ n:=by omega
     have n1:(n:Int) < 8:=by omega
     have n2:(n:Int) ≤ 7:=by omega
     have n3:((7:Int) - n).toNat = 7 - n:=by omega
     have HN:=Lib.hid (hAi.set (7 - n) (by omega) (.int .u8 (((T / 2 ^ (8 * n):Nat):Int) % 256)))
     have HBI:=Lib.hid hbi
     have hX:(T / 2 ^ (8 * n)) ≤ 8000000000:=Nat.le_trans (Nat.div_le_self _ _) hTb
     have hXn:T / 2 ^ (8 * (n + 1)) = T / 2 ^ (8 * n) / 256:=by
      rw [Nat.div_div_eq_div_mul,show 8 * (n + 1) = 8 * n + 8 from by omega,Nat.pow_add]
     have HXN:=Lib.hid hXn
     have HEN:=Lib.hid (fun k (hk:k < 8) => endC_next T n k hn8 hk)
     generalize T / 2 ^ (8 * n) = X at hX HXN HN HEN
     clear hAi hbi ec hXn
     go_wp2
     go_roundw
     case rel =>
      refine ⟨n + 1,by omega,by go_num,?_,?_,HBI.out.setCell (Nat.le_refl _) _⟩
      ·rw [HXN.out];rfl
      ·exact HN.out.congr HEN.out
     case measure => simp [intOf];omega
    ·obtain rfl:n = 8:=by omega
     have hcell:∀ j (hj:j < (be64 T).length),wi.cell? ((⟨wo.heap.size,0,none⟩:Addr).add j) = some (.int .u8 ((be64 T)[j].toNat:Int)):=fun j hj => by
      have h8:j < 8:=by simpa [be64] using hj
      rw [Addr.add_mid,Nat.zero_add,hAi.cell j h8]
      unfold endC
      rw [if_pos (by omega)]
      simp [be64]
     have hcv:=run_convert_bytes_back (P:=Tryz.prog) wi 56 9 5 ⟨wo.heap.size,0,none⟩ 8 (be64 T) Tryz.underlying56 Tryz.underlying5 Tryz.underlying9 hcell
     rw [show (be64 T).length = 8 from by simp [be64]] at hcv
     have HBI:=Lib.hid hbi
     have HB64:Hid ((⟨(be64 T).toArray⟩:ByteArray).data.toList = be64 T):=by unfold Hid;simp
     have hqs:(⟨(be64 T).toArray⟩:ByteArray).size ≤ 8:=by show (be64 T).toArray.size ≤ 8;simp [be64]
     generalize (⟨(be64 T).toArray⟩:ByteArray) = q at hcv HB64 hqs
     clear hcell hAi hbi
     generalize T / 2 ^ (8 * 8) = X
     go_wp2
     go_ret
     refine ⟨?_,HBI.out⟩
     have e:o ++ q = ofB (lenL s.data.toList):=by
      apply ba_eq
      rw [ba_append,ofB_data,HL.out,HB64.out]
      unfold lenL
      rw [HSZ.out,HT.out]
     rw [← e]
     rfl
  ·have hd:((o.size:Int) % 64 != 56) = true:=by rw [bne_iff_ne];omega
   clear hos
   go_wp2
   go_roundw
   case rel =>
    refine ⟨i + 1,_,?_,rfl,?_,?_,trivial⟩
    ·have h:=HOS.out;have h2:=HP.out;omega
    ·have h:=HOS.out;have e:(⟨#[0]⟩:ByteArray).size = 1:=rfl
     rw [ByteArray.size_append,e];omega
    ·unfold Hid;rw [ba_append,hol.out,List.append_assoc];simp [List.replicate_succ']
   case measure =>
    have e:(⟨#[0]⟩:ByteArray).size = 1:=rfl
    dsimp only
    rw [ByteArray.size_append,e];omega
end Go.Proofs.YtmhjpmenngjmeaaGreatDoor

namespace Go.Proofs.YtmhjpmenngjmeaaGreatDoor
open Go.RowKit
theorem ch_or (x y z:W32):(x &&& y ||| ~~~x &&& z) = (x &&& y ^^^ ~~~x &&& z):=by
 apply BitVec.eq_of_getLsbD_eq;intro i hi
 simp only [BitVec.getLsbD_or,BitVec.getLsbD_and,BitVec.getLsbD_xor,BitVec.getLsbD_not,hi,decide_true,Bool.true_and]
 cases x.getLsbD i <;> cases y.getLsbD i <;> cases z.getLsbD i <;> rfl
theorem maj_or (x y z:W32):(x &&& y ||| x &&& z ||| y &&& z) = (x &&& y ^^^ x &&& z ^^^ y &&& z):=by
 apply BitVec.eq_of_getLsbD_eq;intro i hi
 simp only [BitVec.getLsbD_or,BitVec.getLsbD_and,BitVec.getLsbD_xor]
 cases x.getLsbD i <;> cases y.getLsbD i <;> cases z.getLsbD i <;> rfl
theorem or_shift (x:W32) (b:UInt8) (hx:wn x < 16777216):wn (x <<< 8 ||| bw b) = wn x * 256 + wn (bw b):=by
 have hb:(bw b).toNat < 256:=by have:=bw_lt b;unfold wn at this;omega
 have hx':x.toNat < 16777216:=by unfold wn at hx;omega
 unfold wn
 rw [BitVec.toNat_or,BitVec.toNat_shiftLeft,Nat.shiftLeft_eq,Nat.mod_eq_of_lt (by omega),← Nat.shiftLeft_eq,← Nat.shiftLeft_add_eq_or_of_lt (by simpa using hb),Nat.shiftLeft_eq,show (2:Nat) ^ 8 = 256 from rfl]
 omega
theorem word_sum (r:Nat → UInt8) (k:Nat):wn (bw (r (4 * k))) * 16777216 + wn (bw (r (4 * k + 1))) * 65536 + wn (bw (r (4 * k + 2))) * 256 + wn (bw (r (4 * k + 3))) = wn (wordTo r k 4):=by
 have e0:wn (wordTo r k 0) = 0:=rfl
 have b0:=bw_lt (r (4 * k));have b1:=bw_lt (r (4 * k + 1));have b2:=bw_lt (r (4 * k + 2));have b3:=bw_lt (r (4 * k + 3))
 have e1:wn (wordTo r k 1) = wn (bw (r (4 * k))):=by
  show wn (wordTo r k 0 <<< 8 ||| bw (r (4 * k + 0))) = _
  rw [or_shift _ _ (by omega),e0];simp
 have e2:wn (wordTo r k 2) = wn (bw (r (4 * k))) * 256 + wn (bw (r (4 * k + 1))):=by
  show wn (wordTo r k 1 <<< 8 ||| bw (r (4 * k + 1))) = _
  rw [or_shift _ _ (by omega),e1]
 have e3:wn (wordTo r k 3) = (wn (bw (r (4 * k))) * 256 + wn (bw (r (4 * k + 1)))) * 256 + wn (bw (r (4 * k + 2))):=by
  show wn (wordTo r k 2 <<< 8 ||| bw (r (4 * k + 2))) = _
  rw [or_shift _ _ (by omega),e2]
 show _ = wn (wordTo r k 3 <<< 8 ||| bw (r (4 * k + 3)))
 rw [or_shift _ _ (by omega),e3];omega
set_option maxRecDepth 100000 in
set_option maxHeartbeats 800000 in
theorem rounds_any (w:World):Calls Tryz.prog 108 #[] w fun e w' => e = .returned (.agg kV.toArray) ∧ Below w.heap.size w w':=by
 have h64:(Tryz.prog.info? 183).map (·.size) = some 64:=by kernel_rfl
 have hA:=Arr.new w 64 (.int .u32 0) 183
 have hone:∀ v ∈ kV,v.oneCell' = true:=by
  intro v hv;obtain ⟨x,_,rfl⟩:=List.mem_map.1 hv;rfl
 have hfr:=World.rangeAt_setCells_same _ w.heap.size 0 kV (by rw [kV_len];exact hA.there)
 have hi:(Tryz.prog.info? 183).map (·.size) = some kV.length:=by rw [kV_len];exact h64
 have hb:=below_setCells (B:=w.heap.size) (a:=w) w.heap.size (Nat.le_refl _) kV 0 _ ((Below.refl _ _).alloc (Nat.le_refl _) (.cells (Array.replicate 64 (.int .u32 0)) 183))
 have HTH:=Lib.hid hA.there
 have HON:=Lib.hid hone
 have HFR:=Lib.hid hfr
 have HB:=Lib.hid hb
 clear hA hone hfr hb
 go_enter Tryz.func108,Tryz.ntmps108
 go_wp2_with (refine wpList_store_list rfl 183 _ _ rfl w.heap.size 0 kV ?y1 ?y2 64 kV_len ?y4 h64 HON.out ?_)
 case y1 => rfl
 case y2 => kernel_rfl
 case y4 => exact HTH.out
 simp only [Act.put]
 refine ret_cell rfl w.heap.size 0 rfl kV _ HFR.out Tryz.underlying183 rfl hi rfl ⟨rfl,HB.out⟩
end Go.Proofs.YtmhjpmenngjmeaaGreatDoor
namespace Go.Proofs.YtmhjpmenngjmeaaGreatDoor
open Go.RowKit
structure Rd where
 s:ByteArray
 pos:Nat
 err:Nat
def Rd.c (r:Rd) (k:Nat):Value:=if k = 0 then .string r.s else if k = 1 then .int .i64 (r.pos:Int) else .int .i64 (r.err:Int)
structure Rd.fine (r:Rd):Prop where
 pos:r.pos ≤ r.s.size
 size:r.s.size ≤ 1000000
 err:r.err ≤ 100
def Rd.raw (r:Rd) (n:Nat):Rd × ByteArray :=
 if r.err ≠ 0 then (r,ByteArray.empty) else if r.s.size - r.pos < n then ({ r with err:=3 },ByteArray.empty) else ({ r with pos:=r.pos + n },r.s.extract r.pos (r.pos + n))
theorem Rd.raw_fine (r:Rd) (n:Nat) (h:r.fine):(r.raw n).1.fine:=by
 unfold Rd.raw
 split
 ·exact h
 ·split
  ·exact ⟨h.pos,h.size,by show 3 ≤ 100;omega⟩
  ·exact ⟨by show r.pos + n ≤ r.s.size;have:=h.pos;omega,h.size,h.err⟩
theorem Rd.upd_err (r:Rd) (e:Nat):∀ k,k < 3 → upd r.c 2 (.int .i64 (e:Int)) k = Rd.c { r with err:=e } k:=by
 intro k hk;unfold upd Rd.c
 obtain h | h | h:k = 0 ∨ k = 1 ∨ k = 2:=by omega
 all_goals subst h;rfl
theorem Rd.upd_pos (r:Rd) (p:Nat):∀ k,k < 3 → upd r.c 1 (.int .i64 (p:Int)) k = Rd.c { r with pos:=p } k:=by
 intro k hk;unfold upd Rd.c
 obtain h | h | h:k = 0 ∨ k = 1 ∨ k = 2:=by omega
 all_goals subst h;rfl
theorem slice_two (o:ByteArray) (m n:Nat) (h:m + n ≤ o.size) (w:World):(Instr.slice 9 (.string o) (some (.int .i64 (m:Int))) (some (.int .i64 ((m:Int) + n))) none).run Tryz.prog w = .ok (.string (o.extract m (m + n))) w:=by
 have h3:(m:Int) + n ≤ o.size:=by omega
 have h4:((m:Int) + n).toNat = m + n:=by omega
 have h5:(0:Int) ≤ (m:Int) + n:=by omega
 simp [Instr.slice,run_underlying Tryz.underlying9,Instr.sliceBounds,Instr.sliceBound,asIntOf,h3,h4,h5]
set_option maxRecDepth 100000 in
set_option maxHeartbeats 400000 in
theorem rraw_any (b:Nat) (r:Rd) (n:Nat) (w:World) (hA:Arr w b 3 r.c) (hf:r.fine) (hn:n ≤ 1000000000) :
  Calls Tryz.prog 106 #[.pointer (some ⟨b,0,none⟩),.int .i64 (n:Int)] w fun e w' => e = .returned (.string (r.raw n).2) ∧ Arr w' b 3 (r.raw n).1.c ∧ w.grownBy w' (some b):=by
 have hbl:b < w.heap.size:=hA.lt (by omega)
 have c0:w.cell? ⟨b,0,none⟩ = some (.string r.s):=hA.cell 0 (by omega)
 have c1:w.cell? ⟨b,1,none⟩ = some (.int .i64 (r.pos:Int)):=hA.cell 1 (by omega)
 have c2:w.cell? ⟨b,2,none⟩ = some (.int .i64 (r.err:Int)):=hA.cell 2 (by omega)
 have f1:=hA.free 1 (by omega)
 have f2:=hA.free 2 (by omega)
 have hp:=hf.pos
 have hs:=hf.size
 have he:=hf.err
 have hn0:decide ((n:Int) < 0) = false:=decide_eq_false (by omega)
 have HA:=Lib.hid hA
 clear hA
 by_cases h0:r.err = 0
 ·have h0':((r.err:Int) != 0) = false:=by rw [bne_eq_false_iff_eq];omega
  by_cases hlt:r.s.size - r.pos < n
  ·have HR:Hid (r.raw n = ({ r with err:=3 },ByteArray.empty)):=by unfold Hid Rd.raw;rw [if_neg (by simp [h0]),if_pos hlt]
   have hd:decide ((r.s.size:Int) - r.pos < n) = true:=decide_eq_true (by omega)
   have hw:IntKind.i64.wrap ((r.s.size:Int) - r.pos) = (r.s.size:Int) - r.pos:=IntWalk.i64_in _ (by omega)
   have H0:=Lib.hid h0
   clear h0 hlt hf
   go_enter Tryz.func106,Tryz.ntmps106
   go_wp2
   refine wp_region_bq (by kernel_rfl) (by kernel_rfl) ?_
   have LQ0:=fun x:BW (World.heap w).size w => below_load c0 x.hb (by omega)
   have LQ1:=fun x:BW (World.heap w).size w => below_load c1 x.hb (by omega)
   repeat (go_big_quiet_step (fail))
   refine wpQuiet_nil ?_
   intro wq hbq
   clear LQ0 LQ1
   have g2:=below_load c2 hbq hbl
   have k2:wq.frozen? ⟨b,2,none⟩ = false:=by rw [hbq.frozen (p:=⟨b,2,none⟩) hbl];exact f2
   clear c0 c1 c2 f1 f2
   go_wp2
   go_ret
   rw [HR.out]
   exact ⟨rfl,((HA.out.below hbq hbl).set 2 (by omega) (.int .i64 ((3:Nat):Int))).congr (Rd.upd_err r 3),grown_set (grown_of_below hbq _) _⟩
  ·have HR:Hid (r.raw n = ({ r with pos:=r.pos + n },r.s.extract r.pos (r.pos + n))):=by unfold Hid Rd.raw;rw [if_neg (by simp [h0]),if_neg hlt]
   have hd:decide ((r.s.size:Int) - r.pos < n) = false:=decide_eq_false (by omega)
   have hw:IntKind.i64.wrap ((r.s.size:Int) - r.pos) = (r.s.size:Int) - r.pos:=IntWalk.i64_in _ (by omega)
   have hw2:IntKind.i64.wrap ((r.pos:Int) + n) = (r.pos:Int) + n:=IntWalk.i64_in _ (by omega)
   have HSL:=fun w => slice_two r.s r.pos n (by omega) w
   have H0:=Lib.hid h0
   clear h0 hlt hf
   go_enter Tryz.func106,Tryz.ntmps106
   go_wp2
   refine wp_region_bq (by kernel_rfl) (by kernel_rfl) ?_
   have LQ0:=fun x:BW (World.heap w).size w => below_load c0 x.hb (by omega)
   have LQ1:=fun x:BW (World.heap w).size w => below_load c1 x.hb (by omega)
   repeat (go_big_quiet_step (fail))
   refine wpQuiet_nil ?_
   intro wq hbq
   clear LQ0 LQ1
   obtain ⟨wa,rfl⟩:∃ wa:World,wa = wq:=⟨_,rfl⟩
   have hb1:=hbq
   clear hbq
   have d0:=below_load c0 hb1 hbl
   have d1:=below_load c1 hb1 hbl
   have hbl2:b < wa.heap.size:=by have:=hb1.size;omega
   go_wp2
   refine wp_region_bq (by kernel_rfl) (by kernel_rfl) ?_
   have LQ0:=fun x:BW (World.heap wa).size wa => below_load d0 x.hb (by omega)
   have LQ1:=fun x:BW (World.heap wa).size wa => below_load d1 x.hb (by omega)
   repeat (go_big_quiet_step (fail))
   refine wpQuiet_nil ?_
   intro wq hbq
   clear LQ0 LQ1
   have hb2:=hb1.trans (hbq.mono hb1.size)
   have g1:=below_load c1 hb2 hbl
   have k1:wq.frozen? ⟨b,1,none⟩ = false:=by rw [hb2.frozen (p:=⟨b,1,none⟩) hbl];exact f1
   have HB2:=Lib.hid hb2
   clear c0 c1 c2 f1 f2 d0 d1 hb1 hb2 hbq HSL
   go_wp2
   go_ret
   rw [HR.out]
   exact ⟨rfl,((HA.out.below HB2.out hbl).set 1 (by omega) (.int .i64 ((r.pos + n:Nat):Int))).congr (Rd.upd_pos r _),grown_set (grown_of_below HB2.out _) _⟩
 ·have h0':((r.err:Int) != 0) = true:=by rw [bne_iff_ne];omega
  have HR:Hid (r.raw n = (r,ByteArray.empty)):=by unfold Hid Rd.raw;rw [if_pos h0]
  clear h0
  go_enter Tryz.func106,Tryz.ntmps106
  go_wp2
  go_ret
  rw [HR.out]
  exact ⟨rfl,HA.out,grown_of_below (Below.refl _ _) _⟩
end Go.Proofs.YtmhjpmenngjmeaaGreatDoor
namespace Go.Proofs.YtmhjpmenngjmeaaGreatDoor
open Go.RowKit
def blk (c:ByteArray) (k:Nat):UInt8:=c.data.toList.getD k 0
def stV (st:Nat → W32):Value:=.agg #[.int .u32 (wn (st 0)),.int .u32 (wn (st 1)),.int .u32 (wn (st 2)),.int .u32 (wn (st 3)),.int .u32 (wn (st 4)),.int .u32 (wn (st 5)),.int .u32 (wn (st 6)),.int .u32 (wn (st 7))]
theorem run_index_str (c:ByteArray) (w:World) (k:Nat) (hk:k < c.size):(Instr.index 9 (.string c) (.int .i64 (k:Int))).run Tryz.prog w = .ok (.int .u8 (wn (bw (blk c k)))) w:=by
 have h1:(0:Int) ≤ k:=by omega
 have h2:c[k]? = some (blk c k):=by
  unfold blk
  rw [getElem?_pos c k hk]
  have:c.data.toList[k]? = some c[k]:=by simp [hk];rfl
  simp only [List.getD,this,Option.getD_some]
 unfold Instr.index
 simp only [Sem.run_bind,asIntOf,Sem.run_pure,Result.andThen_ok,run_underlying Tryz.underlying9,if_pos h1,Int.toNat_natCast,h2,wn_bw]
def initR (r:Nat → UInt8) (i:Nat):Nat → W32:=fun k => if k < i then wordTo r k 4 else 0
theorem initR_next (r:Nat → UInt8) (i:Nat):upd (initR r i) i (wordTo r i 4) = initR r (i + 1):=by
 funext k;unfold upd initR
 by_cases h:k = i
 ·subst h;rw [if_pos rfl,if_pos (by omega)]
 ·rw [if_neg h]
  by_cases h2:k < i
  ·rw [if_pos h2,if_pos (by omega)]
  ·rw [if_neg h2,if_neg (by omega)]
theorem initR_16 (r:Nat → UInt8):initR r 16 = initW r 16 0:=by
 funext k;unfold initR initW
 by_cases h:k < 16
 ·rw [if_pos h,if_pos h]
 ·rw [if_neg h,if_neg h];split <;> rfl
set_option maxRecDepth 100000 in
set_option maxHeartbeats 1000000 in
theorem block_any (st:Nat → W32) (c:ByteArray) (w:World) (hc:c.size = 64) :
  Calls Tryz.prog 84 #[stV st,.string c] w fun e w' => e = .returned (stV (blockW st (blk c))) ∧ Below w.heap.size w w':=by
 unfold stV
 have HI:=Lib.hid (fun (w:World) (k:Nat) (hk:k < 64) => run_index_str c w k (by omega))
 generalize hr:blk c = r at HI
 have HR:=Lib.hid hr
 clear hr hc
 have hW0:∃ W,W = ((w.alloc (.cells #[.int .u32 (wn (st 0)),.int .u32 (wn (st 1)),.int .u32 (wn (st 2)),.int .u32 (wn (st 3)),.int .u32 (wn (st 4)),.int .u32 (wn (st 5)),.int .u32 (wn (st 6)),.int .u32 (wn (st 7))] 156)).alloc (.cells (Array.replicate 8 (.int .u32 0)) 156)).alloc (.cells (Array.replicate 64 (.int .u32 0)) 183):=⟨_,rfl⟩
 obtain ⟨W,hW⟩:=hW0
 have hb0:Below w.heap.size w W:=by rw [hW];exact (((Below.refl _ _).alloc (Nat.le_refl _) _).alloc (by simp) _).alloc (by simp;omega) _
 have hS0:Arr W w.heap.size 8 (wordsV st):=by rw [hW];exact ((Arr.eight w st _).alloc (by omega) _).alloc (by omega) _
 have hO0:Arr W (w.heap.size + 1) 8 (fun _ => .int .u32 0):=by
  rw [hW]
  have h:=(Arr.new (w.alloc (.cells #[.int .u32 (wn (st 0)),.int .u32 (wn (st 1)),.int .u32 (wn (st 2)),.int .u32 (wn (st 3)),.int .u32 (wn (st 4)),.int .u32 (wn (st 5)),.int .u32 (wn (st 6)),.int .u32 (wn (st 7))] 156)) 8 (.int .u32 0) 156).alloc (by omega) (.cells (Array.replicate 64 (.int .u32 0)) 183)
  rw [World.size_alloc] at h;exact h
 have hX0:Arr W (w.heap.size + 2) 64 (wordsV (initR r 0)):=by
  have e:wordsV (initR r 0) = fun _ => .int .u32 0:=by funext k;unfold wordsV initR;rw [if_neg (by omega)];rfl
  rw [hW,e]
  have h:=Arr.new ((w.alloc (.cells #[.int .u32 (wn (st 0)),.int .u32 (wn (st 1)),.int .u32 (wn (st 2)),.int .u32 (wn (st 3)),.int .u32 (wn (st 4)),.int .u32 (wn (st 5)),.int .u32 (wn (st 6)),.int .u32 (wn (st 7))] 156)).alloc (.cells (Array.replicate 8 (.int .u32 0)) 156)) 64 (.int .u32 0) 183
  rw [World.size_alloc,World.size_alloc] at h;exact h
 have HB0:=Lib.hid hb0
 have HS0:=Lib.hid hS0
 have HO0:=Lib.hid hO0
 have HX0:=Lib.hid hX0
 have HW:=Lib.hid hW
 clear hb0 hS0 hO0 hX0 hW
 go_enter Tryz.func84,Tryz.ntmps84
 go_wp2
 go_loopw [6] (fun i wr => ∃ k:Nat,k ≤ 16 ∧ i = .int .i64 k ∧ Arr wr (w.heap.size + 2) 64 (wordsV (initR r k)) ∧ Arr wr w.heap.size 8 (wordsV st) ∧ Arr wr (w.heap.size + 1) 8 (fun _ => .int .u32 0) ∧ Below w.heap.size w wr) (fun i _ => (16 - intOf i).toNat)
 case atStart =>
  have e:=HW.out
  exact ⟨0,by omega,rfl,by have:=HX0.out;rw [e] at this;exact this,by have:=HS0.out;rw [e] at this;exact this,by have:=HO0.out;rw [e] at this;exact this,by have:=HB0.out;rw [e] at this;exact this⟩
 case round =>
  obtain ⟨wo,rfl⟩:∃ wo:World,wo = wr:=⟨_,rfl⟩
  obtain ⟨k,hk,rfl,hX,hS,hO,hb⟩:=hrel
  clear HB0 HS0 HO0 HX0 HW
  by_cases hlt:k < 16
  ·have i0:=fun w => HI.out w (4 * k) (by omega)
   have i1:=fun w => HI.out w (4 * k + 1) (by omega)
   have i2:=fun w => HI.out w (4 * k + 2) (by omega)
   have i3:=fun w => HI.out w (4 * k + 3) (by omega)
   simp only [Int.natCast_add,Int.natCast_mul,Int.cast_ofNat_Int] at i0 i1 i2 i3
   have b0:=bw_lt (r (4 * k));have b1:=bw_lt (r (4 * k + 1));have b2:=bw_lt (r (4 * k + 2));have b3:=bw_lt (r (4 * k + 3))
   have p0:=wn_0 (bw (r (4 * k)));have p1:=wn_0 (bw (r (4 * k + 1)));have p2:=wn_0 (bw (r (4 * k + 2)));have p3:=wn_0 (bw (r (4 * k + 3)))
   have c1:=hX.cell k (by omega)
   have f1:=hX.free k (by omega)
   unfold wordsV at c1
   have hsX:w.heap.size + 2 < wo.heap.size:=hX.lt (by omega)
   have k0:(0:Int) ≤ k:=by omega
   have k1:(k:Int) < 16:=by omega
   have hd:decide ((k:Int) < 16) = true:=decide_eq_true (by omega)
   have HXX:=Lib.hid hX
   have HSS:=Lib.hid hS
   have HOO:=Lib.hid hO
   have HBB:=Lib.hid hb
   clear hX hS hO hb
   go_wp2
   refine wp_region_bt 31 (by kernel_rfl) (by kernel_rfl) ?_
   simp only [List.take_succ_cons,List.take_zero,List.drop_succ_cons,List.drop_zero]
   repeat (go_big_quiet_step (fail))
   refine wpQuiet_nil ?_
   intro wq hbq
   have g1:=below_load c1 hbq hsX
   have h1:wq.frozen? ⟨w.heap.size + 2,k,none⟩ = false:=by rw [hbq.frozen (p:=⟨w.heap.size + 2,k,none⟩) hsX];exact f1
   clear c1 f1
   go_wp2
   go_roundw
   case rel =>
    rw [word_sum]
    have hx:=(HXX.out.below hbq hsX).set k (by omega) (.int .u32 (wn (wordTo r k 4)))
    rw [wordsV_upd,initR_next] at hx
    have hbb:=HBB.out
    have hsz:=hbb.size
    refine ⟨k + 1,by omega,by go_num,hx,(HSS.out.below hbq (HSS.out.lt (by omega))).far (by show w.heap.size + 2 ≠ w.heap.size;omega) _,(HOO.out.below hbq (HOO.out.lt (by omega))).far (by show w.heap.size + 2 ≠ w.heap.size + 1;omega) _,(hbb.trans (hbq.mono hsz)).setCell (by show w.heap.size ≤ w.heap.size + 2;omega) _⟩
   case measure => simp [intOf];omega
  ·obtain rfl:k = 16:=by omega
   rw [initR_16] at hX
   have HXX:=Lib.hid hX
   have HSS:=Lib.hid hS
   have HOO:=Lib.hid hO
   have HBB:=Lib.hid hb
   clear hX hS hO hb
   go_wp2
   go_loopw [7] (fun i wr => ∃ n:Nat,n ≤ 48 ∧ i = .int .i64 (16 + n:Nat) ∧ Arr wr (w.heap.size + 2) 64 (wordsV (schedW r n)) ∧ Arr wr w.heap.size 8 (wordsV st) ∧ Arr wr (w.heap.size + 1) 8 (fun _ => .int .u32 0) ∧ Below w.heap.size w wr) (fun i _ => (64 - intOf i).toNat)
   case atStart => exact ⟨0,by omega,rfl,HXX.out,HSS.out,HOO.out,HBB.out⟩
   case round =>
    obtain ⟨wi,rfl⟩:∃ wi:World,wi = wr:=⟨_,rfl⟩
    obtain ⟨n,hn,rfl,hX,hS,hO,hb⟩:=hrel
    clear HXX HSS HOO HBB
    generalize hm:16 + n = m
    by_cases hnl:n < 48
    ·have c2:=hX.cell (m - 2) (by omega)
     have c7:=hX.cell (m - 7) (by omega)
     have c15:=hX.cell (m - 15) (by omega)
     have c16:=hX.cell (m - 16) (by omega)
     have cm:=hX.cell m (by omega)
     have fm:=hX.free m (by omega)
     have hsz:w.heap.size + 2 < wi.heap.size:=hX.lt (by omega)
     unfold wordsV at c2 c7 c15 c16 cm
     have m0:(16:Int) ≤ m:=by omega
     have m1:(m:Int) < 64:=by omega
     have hd2:decide ((m:Int) < 64) = true:=decide_eq_true (by omega)
     have HXX:=Lib.hid hX
     have HSS:=Lib.hid hS
     have HOO:=Lib.hid hO
     have HBB:=Lib.hid hb
     clear hX hS hO hb
     have a2:IntKind.i64.wrap ((m:Int) - 2) = (m:Int) - 2:=IntWalk.i64_in _ (by omega)
     have t2:((m:Int) - 2).toNat = m - 2:=by omega
     have z2:(2:Int) ≤ m:=by omega
     have y2:(m:Int) - 2 < 64:=by omega
     have a7:IntKind.i64.wrap ((m:Int) - 7) = (m:Int) - 7:=IntWalk.i64_in _ (by omega)
     have t7:((m:Int) - 7).toNat = m - 7:=by omega
     have z7:(7:Int) ≤ m:=by omega
     have y7:(m:Int) - 7 < 64:=by omega
     have a15:IntKind.i64.wrap ((m:Int) - 15) = (m:Int) - 15:=IntWalk.i64_in _ (by omega)
     have t15:((m:Int) - 15).toNat = m - 15:=by omega
     have z15:(15:Int) ≤ m:=by omega
     have y15:(m:Int) - 15 < 64:=by omega
     have a16:IntKind.i64.wrap ((m:Int) - 16) = (m:Int) - 16:=IntWalk.i64_in _ (by omega)
     have t16:((m:Int) - 16).toNat = m - 16:=by omega
     have z16:(16:Int) ≤ m:=by omega
     have y16:(m:Int) - 16 < 64:=by omega
     have EA:=e_add
     have EX:=w_xor
     have ES1:∀ x:W32,wn x / (1024:Int) = wn (x >>> 10):=fun x => e_shr x 10
     have ES2:∀ x:W32,wn x / (8:Int) = wn (x >>> 3):=fun x => e_shr x 3
     have HNW:Hid (nextW (schedW r n) m = turnW (schedW r n (m - 2)) 17 19 10 + schedW r n (m - 7) + turnW (schedW r n (m - 15)) 7 18 3 + schedW r n (m - 16)):=Lib.hid rfl
     generalize schedW r n (m - 2) = y at c2 HNW
     generalize schedW r n (m - 15) = x at c15 HNW
     generalize schedW r n (m - 7) = u at c7 HNW
     generalize schedW r n (m - 16) = v at c16 HNW
     generalize schedW r n m = q at cm
     have K1:∀ w,Calls Tryz.prog 107 #[.int .u32 (wn y),.int .u64 17] w fun e w' => e = .returned (.int .u32 (wn (BitVec.rotateRight y 17))) ∧ w' = w:=fun w => right_any y 17 17 rfl (by omega) (by omega) w
     have K2:∀ w,Calls Tryz.prog 107 #[.int .u32 (wn y),.int .u64 19] w fun e w' => e = .returned (.int .u32 (wn (BitVec.rotateRight y 19))) ∧ w' = w:=fun w => right_any y 19 19 rfl (by omega) (by omega) w
     have K3:∀ w,Calls Tryz.prog 107 #[.int .u32 (wn x),.int .u64 7] w fun e w' => e = .returned (.int .u32 (wn (BitVec.rotateRight x 7))) ∧ w' = w:=fun w => right_any x 7 7 rfl (by omega) (by omega) w
     have K4:∀ w,Calls Tryz.prog 107 #[.int .u32 (wn x),.int .u64 18] w fun e w' => e = .returned (.int .u32 (wn (BitVec.rotateRight x 18))) ∧ w' = w:=fun w => right_any x 18 18 rfl (by omega) (by omega) w
     go_wp2
     refine wp_region_bq (by kernel_rfl) (by kernel_rfl) ?_
     have LQ0:=fun x:BW (World.heap wi).size wi => below_load c15 x.hb (by omega)
     have LQ1:=fun x:BW (World.heap wi).size wi => below_load c2 x.hb (by omega)
     repeat (go_big_quiet_step (fail))
     refine wpQuiet_nil ?_
     intro wq hbq
     clear LQ0 LQ1
     obtain ⟨wa,rfl⟩:∃ wa:World,wa = wq:=⟨_,rfl⟩
     have hb7:=hbq
     clear hbq
     have d7:=below_load c7 hb7 hsz
     have d16:=below_load c16 hb7 hsz
     have hsa:w.heap.size + 2 < wa.heap.size:=by have:=hb7.size;omega
     go_wp2
     refine wp_region_bt 29 (by kernel_rfl) (by kernel_rfl) ?_
     simp only [List.take_succ_cons,List.take_zero,List.drop_succ_cons,List.drop_zero]
     have LQ0:=fun x:BW (World.heap wa).size wa => below_load d7 x.hb (by omega)
     have LQ1:=fun x:BW (World.heap wa).size wa => below_load d16 x.hb (by omega)
     repeat (go_big_quiet_step ((first | (go_at_call 107;with_reducible exact calls_bw_same (K1 _)) | (go_at_call 107;with_reducible exact calls_bw_same (K2 _)) | (go_at_call 107;with_reducible exact calls_bw_same (K3 _)) | (go_at_call 107;with_reducible exact calls_bw_same (K4 _)))))
     refine wpQuiet_nil ?_
     intro wq hbq
     clear LQ0 LQ1
     have hbe:=hb7.trans (hbq.mono hb7.size)
     have cmn:=below_load cm hbe hsz
     have fmn:wq.frozen? ⟨w.heap.size + 2,m,none⟩ = false:=by rw [hbe.frozen (p:=⟨w.heap.size + 2,m,none⟩) hsz];exact fm
     have HBE:=Lib.hid hbe
     clear c2 c7 c15 c16 cm fm d7 d16 K1 K2 K3 K4 hbq hb7 hbe
     go_wp2
     go_roundw
     case rel =>
      have hx:=(HXX.out.below HBE.out hsz).set m (by omega) (.int .u32 (wn (turnW y 17 19 10 + u + turnW x 7 18 3 + v)))
      have e:upd (schedW r n) m (turnW y 17 19 10 + u + turnW x 7 18 3 + v) = schedW r (n + 1):=by rw [← HNW.out,← hm];rfl
      rw [wordsV_upd,e] at hx
      have hbb:=HBB.out
      exact ⟨n + 1,by omega,by rw [← hm];go_num,hx,(HSS.out.below HBE.out (HSS.out.lt (by omega))).far (by show w.heap.size + 2 ≠ w.heap.size;omega) _,(HOO.out.below HBE.out (HOO.out.lt (by omega))).far (by show w.heap.size + 2 ≠ w.heap.size + 1;omega) _,(hbb.trans (HBE.out.mono hbb.size)).setCell (by show w.heap.size ≤ w.heap.size + 2;omega) _⟩
     case measure => simp [intOf];omega
    ·obtain rfl:n = 48:=by omega
     obtain rfl:m = 64:=by omega
     have hsz:w.heap.size + 2 < wi.heap.size:=hX.lt (by omega)
     have c0:=hS.cell 0 (by omega)
     have c1:=hS.cell 1 (by omega)
     have c2:=hS.cell 2 (by omega)
     have c3:=hS.cell 3 (by omega)
     have c4:=hS.cell 4 (by omega)
     have c5:=hS.cell 5 (by omega)
     have c6:=hS.cell 6 (by omega)
     have c7:=hS.cell 7 (by omega)
     unfold wordsV at c0 c1 c2 c3 c4 c5 c6 c7
     generalize hW:schedW r 48 = Wd at hX
     have HWW:=Lib.hid hW
     have HXX:=Lib.hid hX
     have HSS:=Lib.hid hS
     have HOO:=Lib.hid hO
     have HBB:=Lib.hid hb
     clear hX hS hO hb hW
     go_wp2_with fail
     refine (rounds_any _).mono ?_
     rintro e w1 ⟨rfl,hb1⟩
     have hA1:=Arr.new w1 64 (.int .u32 0) 183
     have hA2:=hA1.setAll kV kV_len
     have h64:(Tryz.prog.info? 183).map (·.size) = some 64:=by kernel_rfl
     have hone:∀ v ∈ kV,v.oneCell' = true:=by
      intro v hv;obtain ⟨x,_,rfl⟩:=List.mem_map.1 hv;rfl
     have hK:∀ k,k < 64 → kV.getD k undef = .int .u32 (wn (rK k)):=fun k hk => by
      unfold kV rK
      have:k < roundK.length:=by rw [roundK_len];exact hk
      simp [this]
     have hA3:=hA2.congr hK
     have hbs:Below w1.heap.size w1 ((w1.alloc (.cells (Array.replicate 64 (.int .u32 0)) 183)).setCells w1.heap.size 0 kV):=below_setCells _ (Nat.le_refl _) kV 0 _ ((Below.refl _ _).alloc (Nat.le_refl _) _)
     have HTH:=Lib.hid hA1.there
     have HON:=Lib.hid hone
     have HLN:=Lib.hid kV_len
     have HA3:=Lib.hid hA3
     have HBS:=Lib.hid hbs
     clear hA1 hA2 hA3 hone hK hbs
     generalize kV = KV at HTH HON HLN HA3 HBS
     go_wp2_with (refine wpList_store_list rfl 183 _ _ rfl w1.heap.size 0 KV ?y1 ?y2 64 HLN.out ?y4 h64 HON.out ?_)
     case y4 => exact HTH.out
     try case y1 => rfl
     try case y2 => rfl
     generalize hWc:World.setCells _ w1.heap.size 0 KV = wc
     have hA4:Arr wc w1.heap.size 64 (fun k => .int .u32 (wn (rK k))):=by rw [← hWc];exact HA3.out
     have hbc:Below wi.heap.size wi wc:=hb1.trans ((by rw [← hWc];exact HBS.out:Below w1.heap.size w1 wc).mono hb1.size)
     have hsc:w1.heap.size < wc.heap.size:=hA4.lt (by omega)
     have hs1:=hb1.size
     have HA4:=Lib.hid hA4
     have HBC:=Lib.hid hbc
     have d0:=below_load c0 hbc (by omega)
     have d1:=below_load c1 hbc (by omega)
     have d2:=below_load c2 hbc (by omega)
     have d3:=below_load c3 hbc (by omega)
     have d4:=below_load c4 hbc (by omega)
     have d5:=below_load c5 hbc (by omega)
     have d6:=below_load c6 hbc (by omega)
     have d7:=below_load c7 hbc (by omega)
     clear hWc HA3 HBS HTH HON HLN hA4 hbc hb1 c0 c1 c2 c3 c4 c5 c6 c7
     go_wp2
     simp only [Act.put]
     refine wp_region_bq (by kernel_rfl) (by kernel_rfl) ?_
     have LQ0:=fun x:BW (World.heap wc).size wc => below_load d0 x.hb (by omega)
     have LQ1:=fun x:BW (World.heap wc).size wc => below_load d1 x.hb (by omega)
     have LQ2:=fun x:BW (World.heap wc).size wc => below_load d2 x.hb (by omega)
     have LQ3:=fun x:BW (World.heap wc).size wc => below_load d3 x.hb (by omega)
     repeat (go_big_quiet_step (fail))
     refine wpQuiet_nil ?_
     intro wq hbq
     clear LQ0 LQ1 LQ2 LQ3
     obtain ⟨wd,rfl⟩:∃ wd:World,wd = wq:=⟨_,rfl⟩
     have hbd:=hbq
     clear hbq
     have g4:=below_load d4 hbd (by omega)
     have g5:=below_load d5 hbd (by omega)
     have g6:=below_load d6 hbd (by omega)
     have g7:=below_load d7 hbd (by omega)
     have hsd:w1.heap.size < wd.heap.size:=by have:=hbd.size;omega
     go_wp2
     refine wp_region_bq (by kernel_rfl) (by kernel_rfl) ?_
     have LQ0:=fun x:BW (World.heap wd).size wd => below_load g4 x.hb (by omega)
     have LQ1:=fun x:BW (World.heap wd).size wd => below_load g5 x.hb (by omega)
     have LQ2:=fun x:BW (World.heap wd).size wd => below_load g6 x.hb (by omega)
     have LQ3:=fun x:BW (World.heap wd).size wd => below_load g7 x.hb (by omega)
     repeat (go_big_quiet_step (fail))
     refine wpQuiet_nil ?_
     intro wq hbq
     clear LQ0 LQ1 LQ2 LQ3
     have hbf:Below wi.heap.size wi wq:=HBC.out.trans ((hbd.trans (hbq.mono hbd.size)).mono HBC.out.size)
     have hK5:Arr wq w1.heap.size 64 (fun k => .int .u32 (wn (rK k))):=HA4.out.below (hbd.trans (hbq.mono hbd.size)) hsc
     have HBF:=Lib.hid hbf
     have HK5:=Lib.hid hK5
     obtain ⟨wg,rfl⟩:∃ wg:World,wg = wq:=⟨_,rfl⟩
     clear d0 d1 d2 d3 d4 d5 d6 d7 g4 g5 g6 g7 hbd hbq hbf hK5
     go_wp2
     go_loopw [11,12,13,14,15,16,17,18,19] (fun v0 v1 v2 v3 v4 v5 v6 v7 i wr => ∃ n:Nat,n ≤ 64 ∧ i = .int .i64 n ∧ v0 = .int .u32 (wn (roundsW Wd st n 0)) ∧ v1 = .int .u32 (wn (roundsW Wd st n 1)) ∧ v2 = .int .u32 (wn (roundsW Wd st n 2)) ∧ v3 = .int .u32 (wn (roundsW Wd st n 3)) ∧ v4 = .int .u32 (wn (roundsW Wd st n 4)) ∧ v5 = .int .u32 (wn (roundsW Wd st n 5)) ∧ v6 = .int .u32 (wn (roundsW Wd st n 6)) ∧ v7 = .int .u32 (wn (roundsW Wd st n 7)) ∧ Below wg.heap.size wg wr) (fun _ _ _ _ _ _ _ _ i _ => (64 - intOf i).toNat)
     case atStart => exact ⟨0,by omega,rfl,rfl,rfl,rfl,rfl,rfl,rfl,rfl,rfl,Below.refl _ _⟩
     case round =>
      obtain ⟨wh,rfl⟩:∃ wh:World,wh = wr:=⟨_,rfl⟩
      obtain ⟨n,hn,rfl,rfl,rfl,rfl,rfl,rfl,rfl,rfl,rfl,hbh⟩:=hrel
      have hsg:w1.heap.size < wg.heap.size:=HK5.out.lt (by omega)
      have hsh:=hbh.size
      by_cases hnl:n < 64
      ·have cK:=(HK5.out.below hbh hsg).cell n (by omega)
       have hXg:Arr wg (w.heap.size + 2) 64 (wordsV Wd):=HXX.out.below HBF.out hsz
       have hsz2:w.heap.size + 2 < wg.heap.size:=hXg.lt (by omega)
       have cW:=(hXg.below hbh hsz2).cell n (by omega)
       unfold wordsV at cW
       have n0:(0:Int) ≤ n:=by omega
       have n1:(n:Int) < 64:=by omega
       have hd3:decide ((n:Int) < 64) = true:=decide_eq_true (by omega)
       have HRN:Hid (roundsW Wd st (n + 1) = stepW (roundsW Wd st n) (rK n) (Wd n)):=Lib.hid rfl
       generalize roundsW Wd st n = R at HRN
       have HHB:=Lib.hid hbh
       clear hXg hbh
       have EA:=e_add
       have EX:=w_xor
       have EN:=w_and
       have EO:=w_or
       have EC:=w_not2
       have K1:∀ w,Calls Tryz.prog 107 #[.int .u32 (wn (R 4)),.int .u64 6] w fun e w' => e = .returned (.int .u32 (wn (BitVec.rotateRight (R 4) 6))) ∧ w' = w:=fun w => right_any (R 4) 6 6 rfl (by omega) (by omega) w
       have K2:∀ w,Calls Tryz.prog 107 #[.int .u32 (wn (R 4)),.int .u64 11] w fun e w' => e = .returned (.int .u32 (wn (BitVec.rotateRight (R 4) 11))) ∧ w' = w:=fun w => right_any (R 4) 11 11 rfl (by omega) (by omega) w
       have K3:∀ w,Calls Tryz.prog 107 #[.int .u32 (wn (R 4)),.int .u64 25] w fun e w' => e = .returned (.int .u32 (wn (BitVec.rotateRight (R 4) 25))) ∧ w' = w:=fun w => right_any (R 4) 25 25 rfl (by omega) (by omega) w
       go_wp2
       refine wp_region_bq (by kernel_rfl) (by kernel_rfl) ?_
       have LQ0:=fun x:BW (World.heap wh).size wh => below_load cK x.hb (by omega)
       have LQ1:=fun x:BW (World.heap wh).size wh => below_load cW x.hb (by omega)
       repeat (go_big_quiet_step ((first | (go_at_call 107;with_reducible exact calls_bw_same (K1 _)) | (go_at_call 107;with_reducible exact calls_bw_same (K2 _)) | (go_at_call 107;with_reducible exact calls_bw_same (K3 _)))))
       refine wpQuiet_nil ?_
       intro wq hbq
       clear LQ0 LQ1
       obtain ⟨wj,rfl⟩:∃ wj:World,wj = wq:=⟨_,rfl⟩
       have HBQ:=Lib.hid hbq
       clear hbq K1 K2 K3 cK cW
       rw [e_add]
       have eT:R 7 + (BitVec.rotateRight (R 4) 6 ^^^ BitVec.rotateRight (R 4) 11 ^^^ BitVec.rotateRight (R 4) 25) + (R 4 &&& R 5 ||| ~~~R 4 &&& R 6) + rK n + Wd n = tW R (rK n) (Wd n):=by unfold tW spinW;rw [ch_or]
       rw [eT]
       clear eT
       generalize hT:tW R (rK n) (Wd n) = T
       have HTT:=Lib.hid hT
       clear hT
       go_wp2_with (go_at_call 107;first | ((with_reducible refine (right_any (R 0) 2 2 rfl (by omega) (by omega) _).mono ?_);rintro e w' ⟨rfl,rfl⟩) | ((with_reducible refine (right_any (R 0) 13 13 rfl (by omega) (by omega) _).mono ?_);rintro e w' ⟨rfl,rfl⟩) | ((with_reducible refine (right_any (R 0) 22 22 rfl (by omega) (by omega) _).mono ?_);rintro e w' ⟨rfl,rfl⟩))
       go_roundw
       case rel =>
        rw [e_add,e_add]
        have eU:(BitVec.rotateRight (R 0) 2 ^^^ BitVec.rotateRight (R 0) 13 ^^^ BitVec.rotateRight (R 0) 22) + (R 0 &&& R 1 ||| R 0 &&& R 2 ||| R 1 &&& R 2) = uW R:=by unfold uW spinW;rw [maj_or]
        rw [eU]
        have h0:roundsW Wd st (n + 1) 0 = T + uW R:=by rw [HRN.out,← HTT.out];rfl
        have h4:roundsW Wd st (n + 1) 4 = R 3 + T:=by rw [HRN.out,← HTT.out];rfl
        have hh:∀ k,roundsW Wd st (n + 1) k = stepW R (rK n) (Wd n) k:=fun k => by rw [HRN.out]
        refine ⟨n + 1,by omega,by go_num,by rw [h0],by rw [hh];rfl,by rw [hh];rfl,by rw [hh];rfl,by rw [h4],by rw [hh];rfl,by rw [hh];rfl,by rw [hh];rfl,HHB.out.trans (HBQ.out.mono HHB.out.size)⟩
       case measure => simp [intOf];omega
      ·obtain rfl:n = 64:=by omega
       have hSg:Arr wg w.heap.size 8 (wordsV st):=HSS.out.below HBF.out (by omega)
       have hOg:Arr wg (w.heap.size + 1) 8 (fun _ => .int .u32 0):=HOO.out.below HBF.out (by omega)
       have hlg:w.heap.size + 1 < wg.heap.size:=hOg.lt (by omega)
       have hSh:=hSg.below hbh (by omega)
       have hOh:=hOg.below hbh (by omega)
       have c0:=hSh.cell 0 (by omega)
       have c1:=hSh.cell 1 (by omega)
       have c2:=hSh.cell 2 (by omega)
       have c3:=hSh.cell 3 (by omega)
       have c4:=hSh.cell 4 (by omega)
       have c5:=hSh.cell 5 (by omega)
       have c6:=hSh.cell 6 (by omega)
       have c7:=hSh.cell 7 (by omega)
       unfold wordsV at c0 c1 c2 c3 c4 c5 c6 c7
       have hfin:∀ k,blockW st r k = st k + roundsW Wd st 64 k:=fun k => by unfold blockW;rw [HWW.out]
       generalize roundsW Wd st 64 = X at hfin
       have HF:=Lib.hid hfin
       have hth:=hOh.there
       have h8:(Tryz.prog.info? 156).map (·.size) = some 8:=by kernel_rfl
       have hbw:Below w.heap.size w wh:=by
        have h1:=HBB.out;have h2:=HBF.out
        exact (h1.trans (h2.mono h1.size)).trans (hbh.mono (Nat.le_trans h1.size h2.size))
       have hfr:=World.rangeAt_setCells_same wh (w.heap.size + 1) 0 [.int .u32 (wn (st 0 + X 0)),.int .u32 (wn (st 1 + X 1)),.int .u32 (wn (st 2 + X 2)),.int .u32 (wn (st 3 + X 3)),.int .u32 (wn (st 4 + X 4)),.int .u32 (wn (st 5 + X 5)),.int .u32 (wn (st 6 + X 6)),.int .u32 (wn (st 7 + X 7))] hth
       have hbf:=below_setCells (B:=w.heap.size) (a:=w) (w.heap.size + 1) (by omega) [.int .u32 (wn (st 0 + X 0)),.int .u32 (wn (st 1 + X 1)),.int .u32 (wn (st 2 + X 2)),.int .u32 (wn (st 3 + X 3)),.int .u32 (wn (st 4 + X 4)),.int .u32 (wn (st 5 + X 5)),.int .u32 (wn (st 6 + X 6)),.int .u32 (wn (st 7 + X 7))] 0 wh hbw
       have HTH:=Lib.hid hth
       have HFR:=Lib.hid hfr
       have HBW:=Lib.hid hbf
       have EA:=e_add
       clear hSg hOg hSh hOh hfin hth hfr hbf hbw hbh
       go_wp2_with (refine wpList_store_list rfl 156 _ _ rfl (w.heap.size + 1) 0 [.int .u32 (wn (st 0 + X 0)),.int .u32 (wn (st 1 + X 1)),.int .u32 (wn (st 2 + X 2)),.int .u32 (wn (st 3 + X 3)),.int .u32 (wn (st 4 + X 4)),.int .u32 (wn (st 5 + X 5)),.int .u32 (wn (st 6 + X 6)),.int .u32 (wn (st 7 + X 7))] ?z1 ?z2 8 rfl HTH.out h8 ?z3 ?_)
       try case z1 => rfl
       try case z2 => go_simp
       case z3 => simp [Value.oneCell']
       rw [HF.out 0,HF.out 1,HF.out 2,HF.out 3,HF.out 4,HF.out 5,HF.out 6,HF.out 7]
       simp only [Act.put]
       refine ret_cell rfl (w.heap.size + 1) 0 rfl [.int .u32 (wn (st 0 + X 0)),.int .u32 (wn (st 1 + X 1)),.int .u32 (wn (st 2 + X 2)),.int .u32 (wn (st 3 + X 3)),.int .u32 (wn (st 4 + X 4)),.int .u32 (wn (st 5 + X 5)),.int .u32 (wn (st 6 + X 6)),.int .u32 (wn (st 7 + X 7))] _ HFR.out Tryz.underlying156 rfl h8 rfl ⟨rfl,HBW.out⟩
end Go.Proofs.YtmhjpmenngjmeaaGreatDoor
namespace Go.Proofs.YtmhjpmenngjmeaaGreatDoor
open Go.RowKit
def numGo (l:List UInt8) (most:Nat):Nat → Nat → Nat → Sum Nat (Nat × Nat)
 | 0,_,_ => .inl 4
 | f + 1,i,n => match l[i]? with
  | none => .inl 3
  | some b => if 128 ≤ b.toNat then numGo l most f (i + 1) (n + b.toNat % 128 * 128 ^ i)
   else if b.toNat = 0 ∧ 0 < i then .inl 2
   else if 1099511627775 < n + b.toNat % 128 * 128 ^ i ∨ most < n + b.toNat % 128 * 128 ^ i then .inl 4
   else .inr (n + b.toNat % 128 * 128 ^ i,i + 1)
def Rd.left (r:Rd):List UInt8:=r.s.data.toList.drop r.pos
def Rd.num (r:Rd) (most:Nat):Rd × Nat:=if r.err ≠ 0 then (r,0) else match numGo r.left most 6 0 0 with
 | .inl e => ({ r with err:=e },0)
 | .inr x => ({ r with pos:=r.pos + x.2 },x.1)
theorem left_get (r:Rd) (k:Nat):r.left[k]? = r.s.data.toList[r.pos + k]?:=by unfold Rd.left;rw [List.getElem?_drop]
theorem numGo_bounds (l:List UInt8) (most:Nat):∀ f i n,(∀ e,numGo l most f i n = .inl e → e ≤ 4 ∧ 0 < e) ∧ (∀ x,numGo l most f i n = .inr x → x.2 ≤ l.length ∧ x.1 ≤ most ∧ i < x.2 ∧ x.1 ≤ 1099511627775)
 | 0,i,n => ⟨fun e h => by cases h;omega,fun x h => by cases h⟩
 | f + 1,i,n => by
  unfold numGo
  cases hl:l[i]? with
  | none => exact ⟨fun e h => by cases h;omega,fun x h => by cases h⟩
  | some b =>
   dsimp only
   have hi:i < l.length:=(List.getElem?_eq_some_iff.1 hl).1
   by_cases h1:128 ≤ b.toNat
   ·rw [if_pos h1]
    obtain ⟨a1,a2⟩:=numGo_bounds l most f (i + 1) (n + b.toNat % 128 * 128 ^ i)
    exact ⟨a1,fun x h => by obtain ⟨q1,q2,q3,q4⟩:=a2 x h;exact ⟨q1,q2,by omega,q4⟩⟩
   ·rw [if_neg h1]
    by_cases h2:b.toNat = 0 ∧ 0 < i
    ·rw [if_pos h2];exact ⟨fun e h => by cases h;omega,fun x h => by cases h⟩
    ·rw [if_neg h2]
     by_cases h3:1099511627775 < n + b.toNat % 128 * 128 ^ i ∨ most < n + b.toNat % 128 * 128 ^ i
     ·rw [if_pos h3];exact ⟨fun e h => by cases h;omega,fun x h => by cases h⟩
     ·rw [if_neg h3]
      refine ⟨fun e h => (by cases h),fun x h => ?_⟩
      cases h
      exact ⟨by omega,by omega,by omega,by omega⟩
theorem Rd.num_fine (r:Rd) (most:Nat) (h:r.fine):(r.num most).1.fine ∧ (r.num most).2 ≤ most:=by
 unfold Rd.num
 split
 ·exact ⟨h,Nat.zero_le _⟩
 ·obtain ⟨a1,a2⟩:=numGo_bounds r.left most 6 0 0
  split
  ·rename_i e he
   have:=a1 e he
   exact ⟨⟨h.pos,h.size,by show e ≤ 100;omega⟩,Nat.zero_le _⟩
  ·rename_i x hx
   obtain ⟨q1,q2,_,_⟩:=a2 x hx
   have hl:r.left.length = r.s.size - r.pos:=by unfold Rd.left;simp
   have:=h.pos
   exact ⟨⟨by show r.pos + x.2 ≤ r.s.size;omega,h.size,h.err⟩,q2⟩
theorem Rd.num_err (r:Rd) (most e:Nat) (h0:r.err = 0) (h:numGo r.left most 6 0 0 = .inl e):r.num most = ({ r with err:=e },0):=by
 unfold Rd.num;rw [if_neg (by simp [h0]),h]
theorem Rd.num_ok (r:Rd) (most:Nat) (x:Nat × Nat) (h0:r.err = 0) (h:numGo r.left most 6 0 0 = .inr x):r.num most = ({ r with pos:=r.pos + x.2 },x.1):=by
 unfold Rd.num;rw [if_neg (by simp [h0]),h]
set_option maxRecDepth 100000 in
set_option maxHeartbeats 2000000 in
theorem rnum_any (b:Nat) (r:Rd) (most:Nat) (w:World) (hA:Arr w b 3 r.c) (hf:r.fine) (hn:most ≤ 1000000000) :
  Calls Tryz.prog 77 #[.pointer (some ⟨b,0,none⟩),.int .i64 (most:Int)] w fun e w' => e = .returned (.int .i64 ((r.num most).2:Int)) ∧ Arr w' b 3 (r.num most).1.c ∧ w.grownBy w' (some b):=by
 have hbl:b < w.heap.size:=hA.lt (by omega)
 have c0:w.cell? ⟨b,0,none⟩ = some (.string r.s):=hA.cell 0 (by omega)
 have c1:w.cell? ⟨b,1,none⟩ = some (.int .i64 (r.pos:Int)):=hA.cell 1 (by omega)
 have c2:w.cell? ⟨b,2,none⟩ = some (.int .i64 (r.err:Int)):=hA.cell 2 (by omega)
 have f1:=hA.free 1 (by omega)
 have f2:=hA.free 2 (by omega)
 have hp:=hf.pos
 have hs:=hf.size
 have he:=hf.err
 have HA:=Lib.hid hA
 clear hA hf
 by_cases h0:r.err = 0
 ·have h0':((r.err:Int) != 0) = false:=by rw [bne_eq_false_iff_eq];omega
  have H0:=Lib.hid h0
  clear h0
  go_enter Tryz.func77,Tryz.ntmps77
  go_wp2
  go_loopw [5,6,7] (fun n o i wr => ∃ k N:Nat,k ≤ 6 ∧ i = .int .i64 k ∧ n = .int .i64 N ∧ o = .int .i64 ((128 ^ k:Nat):Int) ∧ N ≤ 4398046511104 ∧ Hid (numGo r.left most 6 0 0 = numGo r.left most (6 - k) k N) ∧ Hid (N < 128 ^ k) ∧ Below w.heap.size w wr) (fun _ _ i _ => (6 - intOf i).toNat)
  case atStart => exact ⟨0,0,by omega,rfl,rfl,rfl,by omega,rfl,by unfold Hid;decide,Below.refl _ _⟩
  case round =>
   obtain ⟨wo,rfl⟩:∃ wo:World,wo = wr:=⟨_,rfl⟩
   obtain ⟨k,N,hk,rfl,rfl,rfl,hN,hgo,hNl,hb⟩:=hrel
   have d0:=below_load c0 hb hbl
   have d1:=below_load c1 hb hbl
   have d2:=below_load c2 hb hbl
   have e1:wo.frozen? ⟨b,1,none⟩ = false:=by rw [hb.frozen (p:=⟨b,1,none⟩) hbl];exact f1
   have e2:wo.frozen? ⟨b,2,none⟩ = false:=by rw [hb.frozen (p:=⟨b,2,none⟩) hbl];exact f2
   have hbo:b < wo.heap.size:=by have:=hb.size;omega
   by_cases hk6:k < 6
   ·have k0:(0:Int) ≤ k:=by omega
    have k1:(k:Int) < 6:=by omega
    have hd:decide ((k:Int) < 6) = true:=decide_eq_true (by omega)
    by_cases hlt:r.pos + k < r.s.size
    ·have hxk:r.s.data.toList[r.pos + k]? = some (blk r.s (r.pos + k)):=by
      unfold blk
      have hl:r.pos + k < r.s.data.toList.length:=by simp;omega
      simp only [List.getD,List.getElem?_eq_getElem hl,Option.getD_some]
     have HI:∀ w,(Instr.index 9 (.string r.s) (.int .i64 ((r.pos:Int) + k))).run Tryz.prog w = .ok (.int .u8 (wn (bw (blk r.s (r.pos + k))))) w:=fun w => run_index_str r.s w (r.pos + k) hlt
     have hwn:=wn_bw (blk r.s (r.pos + k))
     have hX:(blk r.s (r.pos + k)).toNat < 256:=(blk r.s (r.pos + k)).toNat_lt
     have hl:r.left[k]? = some (blk r.s (r.pos + k)):=by rw [left_get];exact hxk
     have hstep:numGo r.left most (6 - k) k N = if 128 ≤ (blk r.s (r.pos + k)).toNat then numGo r.left most (5 - k) (k + 1) (N + (blk r.s (r.pos + k)).toNat % 128 * 128 ^ k)
       else if (blk r.s (r.pos + k)).toNat = 0 ∧ 0 < k then .inl 2
       else if 1099511627775 < N + (blk r.s (r.pos + k)).toNat % 128 * 128 ^ k ∨ most < N + (blk r.s (r.pos + k)).toNat % 128 * 128 ^ k then .inl 4
       else .inr (N + (blk r.s (r.pos + k)).toNat % 128 * 128 ^ k,k + 1):=by
      rw [show 6 - k = (5 - k) + 1 from by omega];conv => lhs;unfold numGo
      rw [hl]
     rw [← hwn] at HI
     generalize (blk r.s (r.pos + k)).toNat = X at HI hX hstep
     have ho:128 ^ k ≤ 34359738368:=by
      have:128 ^ k ≤ 128 ^ 5:=Nat.pow_le_pow_right (by omega) (by omega)
      omega
     have ho1:128 ^ (k + 1) = 128 ^ k * 128:=Nat.pow_succ 128 k
     have hgo2:=hgo.out
     rw [hstep] at hgo2
     have hNo:=hNl.out
     have HO1:=Lib.hid ho1
     have hpp:∃ p,p = X % 128 * 128 ^ k:=⟨_,rfl⟩
     obtain ⟨p,hpd⟩:=hpp
     have hpb:p ≤ 4363686772736:=by
      rw [hpd]
      exact Nat.le_trans (Nat.mul_le_mul (show X % 128 ≤ 127 by omega) ho) (by omega)
     have hpl:N + p < 128 ^ (k + 1):=by
      rw [ho1,hpd]
      have h1:X % 128 * 128 ^ k ≤ 127 * 128 ^ k:=Nat.mul_le_mul (by omega) (Nat.le_refl _)
      omega
     rw [← hpd] at hgo2
     have hw1:IntKind.i64.wrap ((X:Int) % 128 * ((128 ^ k:Nat):Int)) = (p:Int):=by
      rw [hpd]
      have e:((X % 128 * 128 ^ k:Nat):Int) = (X:Int) % 128 * ((128 ^ k:Nat):Int):=by push_cast;rfl
      rw [← e,← hpd];exact IntWalk.i64_in _ (by omega)
     have HPL:=Lib.hid hpl
     have HGO:=Lib.hid hgo2
     have HB:=Lib.hid hb
     clear hpd hgo2 hstep hgo hNl hNo ho1 hl hxk hwn hb c0 c1 c2 f1 f2 hpl
     generalize ho2:128 ^ k = o at hw1 ho HO1
     have HOO:=Lib.hid ho2
     clear ho2
     have hd2:decide (((r.s.size:Int)) ≤ (r.pos:Int) + k) = false:=decide_eq_false (by omega)
     have x0:(0:Int) ≤ X:=by omega
     have x1:(X:Int) < 256:=by omega
     by_cases h128:128 ≤ X
     ·have hdx:decide ((128:Int) ≤ X) = true:=decide_eq_true (by omega)
      go_wp2
      refine wp_region_bq (by kernel_rfl) (by kernel_rfl) ?_
      have LQ0:=fun x:BW (World.heap wo).size wo => below_load d0 x.hb (by omega)
      have LQ1:=fun x:BW (World.heap wo).size wo => below_load d1 x.hb (by omega)
      repeat (go_big_quiet_step (fail))
      refine wpQuiet_nil ?_
      intro wq hbq
      clear LQ0 LQ1
      obtain ⟨wa,rfl⟩:∃ wa:World,wa = wq:=⟨_,rfl⟩
      have hba:=hbq
      clear hbq
      have q0:=below_load d0 hba hbo
      have q1:=below_load d1 hba hbo
      have hboa:b < wa.heap.size:=by have:=hba.size;omega
      go_wp2
      refine wp_region_bq (by kernel_rfl) (by kernel_rfl) ?_
      have LQ0:=fun x:BW (World.heap wa).size wa => below_load q0 x.hb (by omega)
      have LQ1:=fun x:BW (World.heap wa).size wa => below_load q1 x.hb (by omega)
      repeat (go_big_quiet_step (fail))
      refine wpQuiet_nil ?_
      intro wq hbq
      clear LQ0 LQ1
      have hbq2:=hba.trans (hbq.mono hba.size)
      clear q0 q1 hba hbq
      have hb2:=HB.out.trans (hbq2.mono HB.out.size)
      have g1:=below_load d1 hbq2 hbo
      have g2:=below_load d2 hbq2 hbo
      have k1':wq.frozen? ⟨b,1,none⟩ = false:=by rw [hbq2.frozen (p:=⟨b,1,none⟩) hbo];exact e1
      have k2:wq.frozen? ⟨b,2,none⟩ = false:=by rw [hbq2.frozen (p:=⟨b,2,none⟩) hbo];exact e2
      have HB2:=Lib.hid hb2
      clear d0 d1 d2 e1 e2 hbq2 hb2 HI
      go_wp2
      go_roundw
      case rel =>
       have h7:128 ^ (k + 1) ≤ 128 ^ 6:=Nat.pow_le_pow_right (by omega) (by omega)
       have h8:=HPL.out
       refine ⟨k + 1,N + p,by omega,by go_num,by go_num,vi64 (by rw [HO1.out];push_cast;rfl),by omega,?_,h8,HB2.out⟩
       show numGo r.left most 6 0 0 = numGo r.left most (6 - (k + 1)) (k + 1) (N + p)
       rw [HGO.out,if_pos h128,show 6 - (k + 1) = 5 - k from by omega]
      case measure => simp [intOf];omega
     ·have hdx:decide ((128:Int) ≤ X) = false:=decide_eq_false (by omega)
      by_cases hz:X = 0 ∧ 0 < k
      ·have hr:numGo r.left most 6 0 0 = .inl 2:=by rw [HGO.out,if_neg h128,if_pos hz]
       have HR:=Lib.hid (Rd.num_err r most 2 H0.out hr)
       have hx1:((X:Int) == 0) = true:=by rw [beq_iff_eq];omega
       have hk1:decide ((0:Int) < k) = true:=decide_eq_true (by omega)
       have hk2:0 < k:=hz.2
       clear hz hr h128
       go_wp2
       refine wp_region_bq (by kernel_rfl) (by kernel_rfl) ?_
       have LQ0:=fun x:BW (World.heap wo).size wo => below_load d0 x.hb (by omega)
       have LQ1:=fun x:BW (World.heap wo).size wo => below_load d1 x.hb (by omega)
       repeat (go_big_quiet_step (fail))
       refine wpQuiet_nil ?_
       intro wq hbq
       clear LQ0 LQ1
       obtain ⟨wa,rfl⟩:∃ wa:World,wa = wq:=⟨_,rfl⟩
       have hba:=hbq
       clear hbq
       have q0:=below_load d0 hba hbo
       have q1:=below_load d1 hba hbo
       have hboa:b < wa.heap.size:=by have:=hba.size;omega
       go_wp2
       refine wp_region_bq (by kernel_rfl) (by kernel_rfl) ?_
       have LQ0:=fun x:BW (World.heap wa).size wa => below_load q0 x.hb (by omega)
       have LQ1:=fun x:BW (World.heap wa).size wa => below_load q1 x.hb (by omega)
       repeat (go_big_quiet_step (fail))
       refine wpQuiet_nil ?_
       intro wq hbq
       clear LQ0 LQ1
       have hbq2:=hba.trans (hbq.mono hba.size)
       clear q0 q1 hba hbq
       have hb2:=HB.out.trans (hbq2.mono HB.out.size)
       have g1:=below_load d1 hbq2 hbo
       have g2:=below_load d2 hbq2 hbo
       have k1':wq.frozen? ⟨b,1,none⟩ = false:=by rw [hbq2.frozen (p:=⟨b,1,none⟩) hbo];exact e1
       have k2:wq.frozen? ⟨b,2,none⟩ = false:=by rw [hbq2.frozen (p:=⟨b,2,none⟩) hbo];exact e2
       have HB2:=Lib.hid hb2
       clear d0 d1 d2 e1 e2 hbq2 hb2 HI
       go_wp2
       go_ret
       rw [HR.out]
       exact ⟨rfl,((HA.out.below HB2.out hbl).set 2 (by omega) (.int .i64 ((2:Nat):Int))).congr (Rd.upd_err r 2),grown_set (grown_of_below HB2.out _) _⟩
      ·by_cases hx0:X = 0
       ·skip
        by_cases hA:1099511627775 < N + p
        ·skip
         have hr:numGo r.left most 6 0 0 = .inl 4:=by rw [HGO.out,if_neg h128,if_neg hz,if_pos (by omega)]
         have HR:=Lib.hid (Rd.num_err r most 4 H0.out hr)
         have hx1:((X:Int) == 0) = true:=by rw [beq_iff_eq];omega
         have hk1:decide ((0:Int) < k) = false:=decide_eq_false (by omega)
         have hk3:decide (0 < k) = false:=decide_eq_false (by omega)
         have hb1:decide ((1099511627775:Int) < (N:Int) + p) = true:=decide_eq_true (by omega)
         clear hz hr h128 hx0
         go_wp2
         refine wp_region_bq (by kernel_rfl) (by kernel_rfl) ?_
         have LQ0:=fun x:BW (World.heap wo).size wo => below_load d0 x.hb (by omega)
         have LQ1:=fun x:BW (World.heap wo).size wo => below_load d1 x.hb (by omega)
         repeat (go_big_quiet_step (fail))
         refine wpQuiet_nil ?_
         intro wq hbq
         clear LQ0 LQ1
         obtain ⟨wa,rfl⟩:∃ wa:World,wa = wq:=⟨_,rfl⟩
         have hba:=hbq
         clear hbq
         have q0:=below_load d0 hba hbo
         have q1:=below_load d1 hba hbo
         have hboa:b < wa.heap.size:=by have:=hba.size;omega
         go_wp2
         refine wp_region_bq (by kernel_rfl) (by kernel_rfl) ?_
         have LQ0:=fun x:BW (World.heap wa).size wa => below_load q0 x.hb (by omega)
         have LQ1:=fun x:BW (World.heap wa).size wa => below_load q1 x.hb (by omega)
         repeat (go_big_quiet_step (fail))
         refine wpQuiet_nil ?_
         intro wq hbq
         clear LQ0 LQ1
         have hbq2:=hba.trans (hbq.mono hba.size)
         clear q0 q1 hba hbq
         have hb2:=HB.out.trans (hbq2.mono HB.out.size)
         have g1:=below_load d1 hbq2 hbo
         have g2:=below_load d2 hbq2 hbo
         have k1':wq.frozen? ⟨b,1,none⟩ = false:=by rw [hbq2.frozen (p:=⟨b,1,none⟩) hbo];exact e1
         have k2:wq.frozen? ⟨b,2,none⟩ = false:=by rw [hbq2.frozen (p:=⟨b,2,none⟩) hbo];exact e2
         have HB2:=Lib.hid hb2
         clear d0 d1 d2 e1 e2 hbq2 hb2 HI
         go_wp2
         go_ret
         rw [HR.out]
         exact ⟨rfl,((HA.out.below HB2.out hbl).set 2 (by omega) (.int .i64 ((4:Nat):Int))).congr (Rd.upd_err r 4),grown_set (grown_of_below HB2.out _) _⟩
        ·by_cases hB:most < N + p
         ·skip
          have hr:numGo r.left most 6 0 0 = .inl 4:=by rw [HGO.out,if_neg h128,if_neg hz,if_pos (by omega)]
          have HR:=Lib.hid (Rd.num_err r most 4 H0.out hr)
          have hx1:((X:Int) == 0) = true:=by rw [beq_iff_eq];omega
          have hk1:decide ((0:Int) < k) = false:=decide_eq_false (by omega)
          have hk3:decide (0 < k) = false:=decide_eq_false (by omega)
          have hb1:decide ((1099511627775:Int) < (N:Int) + p) = false:=decide_eq_false (by omega)
          have hb3:decide ((most:Int) < (N:Int) + p) = true:=decide_eq_true (by omega)
          clear hz hr h128 hx0
          go_wp2
          refine wp_region_bq (by kernel_rfl) (by kernel_rfl) ?_
          have LQ0:=fun x:BW (World.heap wo).size wo => below_load d0 x.hb (by omega)
          have LQ1:=fun x:BW (World.heap wo).size wo => below_load d1 x.hb (by omega)
          repeat (go_big_quiet_step (fail))
          refine wpQuiet_nil ?_
          intro wq hbq
          clear LQ0 LQ1
          obtain ⟨wa,rfl⟩:∃ wa:World,wa = wq:=⟨_,rfl⟩
          have hba:=hbq
          clear hbq
          have q0:=below_load d0 hba hbo
          have q1:=below_load d1 hba hbo
          have hboa:b < wa.heap.size:=by have:=hba.size;omega
          go_wp2
          refine wp_region_bq (by kernel_rfl) (by kernel_rfl) ?_
          have LQ0:=fun x:BW (World.heap wa).size wa => below_load q0 x.hb (by omega)
          have LQ1:=fun x:BW (World.heap wa).size wa => below_load q1 x.hb (by omega)
          repeat (go_big_quiet_step (fail))
          refine wpQuiet_nil ?_
          intro wq hbq
          clear LQ0 LQ1
          have hbq2:=hba.trans (hbq.mono hba.size)
          clear q0 q1 hba hbq
          have hb2:=HB.out.trans (hbq2.mono HB.out.size)
          have g1:=below_load d1 hbq2 hbo
          have g2:=below_load d2 hbq2 hbo
          have k1':wq.frozen? ⟨b,1,none⟩ = false:=by rw [hbq2.frozen (p:=⟨b,1,none⟩) hbo];exact e1
          have k2:wq.frozen? ⟨b,2,none⟩ = false:=by rw [hbq2.frozen (p:=⟨b,2,none⟩) hbo];exact e2
          have HB2:=Lib.hid hb2
          clear d0 d1 d2 e1 e2 hbq2 hb2 HI
          go_wp2
          go_ret
          rw [HR.out]
          exact ⟨rfl,((HA.out.below HB2.out hbl).set 2 (by omega) (.int .i64 ((4:Nat):Int))).congr (Rd.upd_err r 4),grown_set (grown_of_below HB2.out _) _⟩
         ·skip
          have hr:numGo r.left most 6 0 0 = .inr (N + p,k + 1):=by rw [HGO.out,if_neg h128,if_neg hz,if_neg (by omega)]
          have HR:=Lib.hid (Rd.num_ok r most (N + p,k + 1) H0.out hr)
          have hx1:((X:Int) == 0) = true:=by rw [beq_iff_eq];omega
          have hk1:decide ((0:Int) < k) = false:=decide_eq_false (by omega)
          have hk3:decide (0 < k) = false:=decide_eq_false (by omega)
          have hb1:decide ((1099511627775:Int) < (N:Int) + p) = false:=decide_eq_false (by omega)
          have hb3:decide ((most:Int) < (N:Int) + p) = false:=decide_eq_false (by omega)
          have hw5:IntKind.i64.wrap ((r.pos:Int) + k) = (r.pos:Int) + k:=IntWalk.i64_in _ (by omega)
          clear hz hr h128 hx0
          go_wp2
          refine wp_region_bq (by kernel_rfl) (by kernel_rfl) ?_
          have LQ0:=fun x:BW (World.heap wo).size wo => below_load d0 x.hb (by omega)
          have LQ1:=fun x:BW (World.heap wo).size wo => below_load d1 x.hb (by omega)
          repeat (go_big_quiet_step (fail))
          refine wpQuiet_nil ?_
          intro wq hbq
          clear LQ0 LQ1
          obtain ⟨wa,rfl⟩:∃ wa:World,wa = wq:=⟨_,rfl⟩
          have hba:=hbq
          clear hbq
          have q0:=below_load d0 hba hbo
          have q1:=below_load d1 hba hbo
          have hboa:b < wa.heap.size:=by have:=hba.size;omega
          go_wp2
          refine wp_region_bq (by kernel_rfl) (by kernel_rfl) ?_
          have LQ0:=fun x:BW (World.heap wa).size wa => below_load q0 x.hb (by omega)
          have LQ1:=fun x:BW (World.heap wa).size wa => below_load q1 x.hb (by omega)
          repeat (go_big_quiet_step (fail))
          refine wpQuiet_nil ?_
          intro wq hbq
          clear LQ0 LQ1
          have hbq2:=hba.trans (hbq.mono hba.size)
          clear q0 q1 hba hbq
          have hb2:=HB.out.trans (hbq2.mono HB.out.size)
          have g1:=below_load d1 hbq2 hbo
          have g2:=below_load d2 hbq2 hbo
          have k1':wq.frozen? ⟨b,1,none⟩ = false:=by rw [hbq2.frozen (p:=⟨b,1,none⟩) hbo];exact e1
          have k2:wq.frozen? ⟨b,2,none⟩ = false:=by rw [hbq2.frozen (p:=⟨b,2,none⟩) hbo];exact e2
          have HB2:=Lib.hid hb2
          clear d0 d1 d2 e1 e2 hbq2 hb2 HI
          go_wp2
          go_ret
          rw [HR.out]
          exact ⟨ret_int (by push_cast;rfl),((HA.out.below HB2.out hbl).set 1 (by omega) (.int .i64 ((r.pos + (k + 1):Nat):Int))).congr (Rd.upd_pos r _),grown_set (grown_of_below HB2.out _) _⟩
       ·skip
        by_cases hA:1099511627775 < N + p
        ·skip
         have hr:numGo r.left most 6 0 0 = .inl 4:=by rw [HGO.out,if_neg h128,if_neg hz,if_pos (by omega)]
         have HR:=Lib.hid (Rd.num_err r most 4 H0.out hr)
         have hx1:((X:Int) == 0) = false:=by rw [beq_eq_false_iff_ne];omega
         have hb1:decide ((1099511627775:Int) < (N:Int) + p) = true:=decide_eq_true (by omega)
         clear hz hr h128 hx0
         go_wp2
         refine wp_region_bq (by kernel_rfl) (by kernel_rfl) ?_
         have LQ0:=fun x:BW (World.heap wo).size wo => below_load d0 x.hb (by omega)
         have LQ1:=fun x:BW (World.heap wo).size wo => below_load d1 x.hb (by omega)
         repeat (go_big_quiet_step (fail))
         refine wpQuiet_nil ?_
         intro wq hbq
         clear LQ0 LQ1
         obtain ⟨wa,rfl⟩:∃ wa:World,wa = wq:=⟨_,rfl⟩
         have hba:=hbq
         clear hbq
         have q0:=below_load d0 hba hbo
         have q1:=below_load d1 hba hbo
         have hboa:b < wa.heap.size:=by have:=hba.size;omega
         go_wp2
         refine wp_region_bq (by kernel_rfl) (by kernel_rfl) ?_
         have LQ0:=fun x:BW (World.heap wa).size wa => below_load q0 x.hb (by omega)
         have LQ1:=fun x:BW (World.heap wa).size wa => below_load q1 x.hb (by omega)
         repeat (go_big_quiet_step (fail))
         refine wpQuiet_nil ?_
         intro wq hbq
         clear LQ0 LQ1
         have hbq2:=hba.trans (hbq.mono hba.size)
         clear q0 q1 hba hbq
         have hb2:=HB.out.trans (hbq2.mono HB.out.size)
         have g1:=below_load d1 hbq2 hbo
         have g2:=below_load d2 hbq2 hbo
         have k1':wq.frozen? ⟨b,1,none⟩ = false:=by rw [hbq2.frozen (p:=⟨b,1,none⟩) hbo];exact e1
         have k2:wq.frozen? ⟨b,2,none⟩ = false:=by rw [hbq2.frozen (p:=⟨b,2,none⟩) hbo];exact e2
         have HB2:=Lib.hid hb2
         clear d0 d1 d2 e1 e2 hbq2 hb2 HI
         go_wp2
         go_ret
         rw [HR.out]
         exact ⟨rfl,((HA.out.below HB2.out hbl).set 2 (by omega) (.int .i64 ((4:Nat):Int))).congr (Rd.upd_err r 4),grown_set (grown_of_below HB2.out _) _⟩
        ·by_cases hB:most < N + p
         ·skip
          have hr:numGo r.left most 6 0 0 = .inl 4:=by rw [HGO.out,if_neg h128,if_neg hz,if_pos (by omega)]
          have HR:=Lib.hid (Rd.num_err r most 4 H0.out hr)
          have hx1:((X:Int) == 0) = false:=by rw [beq_eq_false_iff_ne];omega
          have hb1:decide ((1099511627775:Int) < (N:Int) + p) = false:=decide_eq_false (by omega)
          have hb3:decide ((most:Int) < (N:Int) + p) = true:=decide_eq_true (by omega)
          clear hz hr h128 hx0
          go_wp2
          refine wp_region_bq (by kernel_rfl) (by kernel_rfl) ?_
          have LQ0:=fun x:BW (World.heap wo).size wo => below_load d0 x.hb (by omega)
          have LQ1:=fun x:BW (World.heap wo).size wo => below_load d1 x.hb (by omega)
          repeat (go_big_quiet_step (fail))
          refine wpQuiet_nil ?_
          intro wq hbq
          clear LQ0 LQ1
          obtain ⟨wa,rfl⟩:∃ wa:World,wa = wq:=⟨_,rfl⟩
          have hba:=hbq
          clear hbq
          have q0:=below_load d0 hba hbo
          have q1:=below_load d1 hba hbo
          have hboa:b < wa.heap.size:=by have:=hba.size;omega
          go_wp2
          refine wp_region_bq (by kernel_rfl) (by kernel_rfl) ?_
          have LQ0:=fun x:BW (World.heap wa).size wa => below_load q0 x.hb (by omega)
          have LQ1:=fun x:BW (World.heap wa).size wa => below_load q1 x.hb (by omega)
          repeat (go_big_quiet_step (fail))
          refine wpQuiet_nil ?_
          intro wq hbq
          clear LQ0 LQ1
          have hbq2:=hba.trans (hbq.mono hba.size)
          clear q0 q1 hba hbq
          have hb2:=HB.out.trans (hbq2.mono HB.out.size)
          have g1:=below_load d1 hbq2 hbo
          have g2:=below_load d2 hbq2 hbo
          have k1':wq.frozen? ⟨b,1,none⟩ = false:=by rw [hbq2.frozen (p:=⟨b,1,none⟩) hbo];exact e1
          have k2:wq.frozen? ⟨b,2,none⟩ = false:=by rw [hbq2.frozen (p:=⟨b,2,none⟩) hbo];exact e2
          have HB2:=Lib.hid hb2
          clear d0 d1 d2 e1 e2 hbq2 hb2 HI
          go_wp2
          go_ret
          rw [HR.out]
          exact ⟨rfl,((HA.out.below HB2.out hbl).set 2 (by omega) (.int .i64 ((4:Nat):Int))).congr (Rd.upd_err r 4),grown_set (grown_of_below HB2.out _) _⟩
         ·skip
          have hr:numGo r.left most 6 0 0 = .inr (N + p,k + 1):=by rw [HGO.out,if_neg h128,if_neg hz,if_neg (by omega)]
          have HR:=Lib.hid (Rd.num_ok r most (N + p,k + 1) H0.out hr)
          have hx1:((X:Int) == 0) = false:=by rw [beq_eq_false_iff_ne];omega
          have hb1:decide ((1099511627775:Int) < (N:Int) + p) = false:=decide_eq_false (by omega)
          have hb3:decide ((most:Int) < (N:Int) + p) = false:=decide_eq_false (by omega)
          have hw5:IntKind.i64.wrap ((r.pos:Int) + k) = (r.pos:Int) + k:=IntWalk.i64_in _ (by omega)
          clear hz hr h128 hx0
          go_wp2
          refine wp_region_bq (by kernel_rfl) (by kernel_rfl) ?_
          have LQ0:=fun x:BW (World.heap wo).size wo => below_load d0 x.hb (by omega)
          have LQ1:=fun x:BW (World.heap wo).size wo => below_load d1 x.hb (by omega)
          repeat (go_big_quiet_step (fail))
          refine wpQuiet_nil ?_
          intro wq hbq
          clear LQ0 LQ1
          obtain ⟨wa,rfl⟩:∃ wa:World,wa = wq:=⟨_,rfl⟩
          have hba:=hbq
          clear hbq
          have q0:=below_load d0 hba hbo
          have q1:=below_load d1 hba hbo
          have hboa:b < wa.heap.size:=by have:=hba.size;omega
          go_wp2
          refine wp_region_bq (by kernel_rfl) (by kernel_rfl) ?_
          have LQ0:=fun x:BW (World.heap wa).size wa => below_load q0 x.hb (by omega)
          have LQ1:=fun x:BW (World.heap wa).size wa => below_load q1 x.hb (by omega)
          repeat (go_big_quiet_step (fail))
          refine wpQuiet_nil ?_
          intro wq hbq
          clear LQ0 LQ1
          have hbq2:=hba.trans (hbq.mono hba.size)
          clear q0 q1 hba hbq
          have hb2:=HB.out.trans (hbq2.mono HB.out.size)
          have g1:=below_load d1 hbq2 hbo
          have g2:=below_load d2 hbq2 hbo
          have k1':wq.frozen? ⟨b,1,none⟩ = false:=by rw [hbq2.frozen (p:=⟨b,1,none⟩) hbo];exact e1
          have k2:wq.frozen? ⟨b,2,none⟩ = false:=by rw [hbq2.frozen (p:=⟨b,2,none⟩) hbo];exact e2
          have HB2:=Lib.hid hb2
          clear d0 d1 d2 e1 e2 hbq2 hb2 HI
          go_wp2
          go_ret
          rw [HR.out]
          exact ⟨ret_int (by push_cast;rfl),((HA.out.below HB2.out hbl).set 1 (by omega) (.int .i64 ((r.pos + (k + 1):Nat):Int))).congr (Rd.upd_pos r _),grown_set (grown_of_below HB2.out _) _⟩
    ·have hd2:decide (((r.s.size:Int)) ≤ (r.pos:Int) + k) = true:=decide_eq_true (by omega)
     have hr:numGo r.left most (6 - k) k N = .inl 3:=by
      have hl:r.left[k]? = none:=by rw [left_get];simp;omega
      rw [show 6 - k = (5 - k) + 1 from by omega];unfold numGo;rw [hl]
     have HR:=Lib.hid (Rd.num_err r most 3 H0.out (by rw [hgo.out,hr]))
     have HB:=Lib.hid hb
     clear hr hgo hNl hb c0 c1 c2 f1 f2 hlt
     generalize 128 ^ k = o
     go_wp2
     refine wp_region_bq (by kernel_rfl) (by kernel_rfl) ?_
     have LQ0:=fun x:BW (World.heap wo).size wo => below_load d0 x.hb (by omega)
     have LQ1:=fun x:BW (World.heap wo).size wo => below_load d1 x.hb (by omega)
     repeat (go_big_quiet_step (fail))
     refine wpQuiet_nil ?_
     intro wq hbq
     clear LQ0 LQ1
     have hb2:=HB.out.trans (hbq.mono HB.out.size)
     have g2:=below_load d2 hbq hbo
     have k2:wq.frozen? ⟨b,2,none⟩ = false:=by rw [hbq.frozen (p:=⟨b,2,none⟩) hbo];exact e2
     have HB2:=Lib.hid hb2
     clear d0 d1 d2 e1 e2 hbq hb2
     go_wp2
     go_ret
     rw [HR.out]
     exact ⟨rfl,((HA.out.below HB2.out hbl).set 2 (by omega) (.int .i64 ((3:Nat):Int))).congr (Rd.upd_err r 3),grown_set (grown_of_below HB2.out _) _⟩
   ·obtain rfl:k = 6:=by omega
    have HR:=Lib.hid (Rd.num_err r most 4 H0.out (by rw [hgo.out];rfl))
    have HB:=Lib.hid hb
    clear hgo hNl hb c0 c1 c2 f1 f2
    generalize 128 ^ 6 = o
    go_wp2
    go_ret
    rw [HR.out]
    exact ⟨rfl,((HA.out.below HB.out hbl).set 2 (by omega) (.int .i64 ((4:Nat):Int))).congr (Rd.upd_err r 4),grown_set (grown_of_below HB.out _) _⟩
 ·have h0':((r.err:Int) != 0) = true:=by rw [bne_iff_ne];omega
  have HR:Hid (r.num most = (r,0)):=by unfold Hid Rd.num;rw [if_pos h0]
  clear h0
  go_enter Tryz.func77,Tryz.ntmps77
  go_wp2
  go_ret
  rw [HR.out]
  exact ⟨rfl,HA.out,grown_of_below (Below.refl _ _) _⟩
end Go.Proofs.YtmhjpmenngjmeaaGreatDoor
namespace Go.Proofs.YtmhjpmenngjmeaaGreatDoor
open Go.RowKit
def Rd.text (r:Rd) (most:Nat):Rd × ByteArray :=
 if r.err ≠ 0 then (r,ByteArray.empty) else
  if ((r.num most).1.raw (r.num most).2).1.err ≠ 0 then ({ ((r.num most).1.raw (r.num most).2).1 with pos:=r.pos },ByteArray.empty) else (r.num most).1.raw (r.num most).2
def Rd.fin (r:Rd):Nat:=if r.err ≠ 0 then r.err else if r.pos < r.s.size then 5 else 0
theorem Rd.num_s (r : Rd) (most : Nat) : (r.num most).1.s = r.s := by unfold Rd.num; split; · rfl
                                                                      split <;> rfl
theorem Rd.raw_s (r : Rd) (n : Nat) : (r.raw n).1.s = r.s := by unfold Rd.raw; split; · rfl
                                                                split <;> rfl
theorem Rd.text_fine (r:Rd) (most:Nat) (h:r.fine):(r.text most).1.fine:=by
 have h1:=Rd.raw_fine _ (r.num most).2 (Rd.num_fine r most h).1
 unfold Rd.text
 split
 ·exact h
 ·split
  ·exact ⟨by show r.pos ≤ ((r.num most).1.raw (r.num most).2).1.s.size;rw [Rd.raw_s,Rd.num_s];exact h.pos,h1.size,h1.err⟩
  ·exact h1
set_option maxHeartbeats 400000 in
theorem rend_any (b:Nat) (r:Rd) (w:World) (hA:Arr w b 3 r.c) (hf:r.fine) :
  Calls Tryz.prog 80 #[.pointer (some ⟨b,0,none⟩)] w fun e w' => e = .returned (.int .i64 (r.fin:Int)) ∧ Below w.heap.size w w':=by
 have hbl:b < w.heap.size:=hA.lt (by omega)
 have c0:w.cell? ⟨b,0,none⟩ = some (.string r.s):=hA.cell 0 (by omega)
 have c1:w.cell? ⟨b,1,none⟩ = some (.int .i64 (r.pos:Int)):=hA.cell 1 (by omega)
 have c2:w.cell? ⟨b,2,none⟩ = some (.int .i64 (r.err:Int)):=hA.cell 2 (by omega)
 have hs:=hf.size
 clear hA hf
 by_cases h0:r.err = 0
 ·have h0':((r.err:Int) != 0) = false:=by rw [bne_eq_false_iff_eq];omega
  by_cases hlt:r.pos < r.s.size
  ·have HR:Hid (r.fin = 5):=by unfold Hid Rd.fin;rw [if_neg (by simp [h0]),if_pos hlt]
   have hd:decide (r.pos < r.s.size) = true:=decide_eq_true hlt
   have hd2:decide ((r.pos:Int) < r.s.size) = true:=decide_eq_true (by omega)
   clear h0
   go_enter Tryz.func80,Tryz.ntmps80
   go_wp2
   refine wp_region_bq (by kernel_rfl) (by kernel_rfl) ?_
   have LQ0:=fun x:BW (World.heap w).size w => below_load c0 x.hb (by omega)
   have LQ1:=fun x:BW (World.heap w).size w => below_load c1 x.hb (by omega)
   repeat (go_big_quiet_step (fail))
   refine wpQuiet_nil ?_
   intro wq hbq
   clear LQ0 LQ1
   go_wp2
   go_ret
   rw [HR.out]
   exact ⟨rfl,hbq⟩
  ·have HR:Hid (r.fin = 0):=by unfold Hid Rd.fin;rw [if_neg (by simp [h0]),if_neg hlt]
   have hd:decide (r.pos < r.s.size) = false:=decide_eq_false hlt
   have hd2:decide ((r.pos:Int) < r.s.size) = false:=decide_eq_false (by omega)
   clear h0
   go_enter Tryz.func80,Tryz.ntmps80
   go_wp2
   refine wp_region_bq (by kernel_rfl) (by kernel_rfl) ?_
   have LQ0:=fun x:BW (World.heap w).size w => below_load c0 x.hb (by omega)
   have LQ1:=fun x:BW (World.heap w).size w => below_load c1 x.hb (by omega)
   repeat (go_big_quiet_step (fail))
   refine wpQuiet_nil ?_
   intro wq hbq
   clear LQ0 LQ1
   go_wp2
   go_ret
   rw [HR.out]
   exact ⟨rfl,hbq⟩
 ·have h0':((r.err:Int) != 0) = true:=by rw [bne_iff_ne];omega
  have HR:Hid (r.fin = r.err):=by unfold Hid Rd.fin;rw [if_pos h0]
  clear h0
  go_enter Tryz.func80,Tryz.ntmps80
  go_wp2
  go_ret
  rw [HR.out]
  exact ⟨rfl,Below.refl _ _⟩
set_option maxHeartbeats 400000 in
theorem rtext_any (b:Nat) (r:Rd) (most:Nat) (w:World) (hA:Arr w b 3 r.c) (hf:r.fine) (hn:most ≤ 1000000000) :
  Calls Tryz.prog 78 #[.pointer (some ⟨b,0,none⟩),.int .i64 (most:Int)] w fun e w' => e = .returned (.string (r.text most).2) ∧ Arr w' b 3 (r.text most).1.c ∧ w.grownBy w' (some b):=by
 have c1:w.cell? ⟨b,1,none⟩ = some (.int .i64 (r.pos:Int)):=hA.cell 1 (by omega)
 have c2:w.cell? ⟨b,2,none⟩ = some (.int .i64 (r.err:Int)):=hA.cell 2 (by omega)
 by_cases h0:r.err = 0
 ·have h0':((r.err:Int) != 0) = false:=by rw [bne_eq_false_iff_eq];omega
  have HN:=Lib.hid (rnum_any b r most w hA hf hn)
  obtain ⟨hf1,hn1⟩:=Rd.num_fine r most hf
  have HT:Hid (r.text most = if ((r.num most).1.raw (r.num most).2).1.err ≠ 0 then ({ ((r.num most).1.raw (r.num most).2).1 with pos:=r.pos },ByteArray.empty) else (r.num most).1.raw (r.num most).2):=by
   unfold Hid Rd.text;rw [if_neg (by simp [h0])]
  generalize r.num most = x at HN hf1 hn1 HT
  obtain ⟨r1,n⟩:=x
  have HF1:=Lib.hid hf1
  clear hA hf h0 hf1
  dsimp only at HN hn1 HT
  go_enter Tryz.func78,Tryz.ntmps78
  go_wp2_with fail
  refine HN.out.mono ?_
  rintro e w1 ⟨rfl,hA1,hg1⟩
  have HRW:=Lib.hid (rraw_any b r1 n w1 hA1 HF1.out (by omega))
  have HG1:=Lib.hid hg1
  generalize r1.raw n = y at HRW HT
  obtain ⟨r2,s⟩:=y
  dsimp only at HRW HT
  clear hA1 hg1 c1 c2
  go_wp2_with fail
  refine HRW.out.mono ?_
  rintro e w2 ⟨rfl,hA2,hg2⟩
  have HG2:=Lib.hid (grown_trans HG1.out hg2)
  have d2:w2.cell? ⟨b,2,none⟩ = some (.int .i64 (r2.err:Int)):=hA2.cell 2 (by omega)
  have d1:w2.cell? ⟨b,1,none⟩ = some (.int .i64 (r2.pos:Int)):=hA2.cell 1 (by omega)
  have f1:=hA2.free 1 (by omega)
  have HA2:=Lib.hid hA2
  clear hA2 hg2
  by_cases h2:r2.err = 0
  ·have h2':((r2.err:Int) != 0) = false:=by rw [bne_eq_false_iff_eq];omega
   have HR:Hid (r.text most = (r2,s)):=by unfold Hid;rw [HT.out,if_neg (by simp [h2])]
   clear h2
   go_wp2
   go_ret
   rw [HR.out]
   exact ⟨rfl,HA2.out,HG2.out⟩
  ·have h2':((r2.err:Int) != 0) = true:=by rw [bne_iff_ne];omega
   have HR:Hid (r.text most = ({ r2 with pos:=r.pos },ByteArray.empty)):=by unfold Hid;rw [HT.out,if_pos h2]
   clear h2
   go_wp2
   go_ret
   rw [HR.out]
   exact ⟨rfl,(HA2.out.set 1 (by omega) (.int .i64 (r.pos:Int))).congr (Rd.upd_pos r2 _),grown_set HG2.out _⟩
 ·have h0':((r.err:Int) != 0) = true:=by rw [bne_iff_ne];omega
  have HR:Hid (r.text most = (r,ByteArray.empty)):=by unfold Hid Rd.text;rw [if_pos h0]
  have HA:=Lib.hid hA
  clear h0 hA hf
  go_enter Tryz.func78,Tryz.ntmps78
  go_wp2
  go_ret
  rw [HR.out]
  exact ⟨rfl,HA.out,grown_of_below (Below.refl _ _) _⟩
end Go.Proofs.YtmhjpmenngjmeaaGreatDoor

namespace Go.Proofs.YtmhjpmenngjmeaaGreatDoor
open Go.RowKit
set_option maxHeartbeats 400000 in
theorem werr_any (b:Nat) (r:Rd) (w:World) (hA:Arr w b 3 r.c) :
  Calls Tryz.prog 141 #[.pointer (some ⟨b,0,none⟩)] w fun e w' => e = .returned (.int .i64 (r.err:Int)) ∧ w' = w:=by
 have c2:w.cell? ⟨b,2,none⟩ = some (.int .i64 (r.err:Int)):=hA.cell 2 (by omega)
 clear hA
 go_enter Tryz.func141,Tryz.ntmps141
 go_wp2
 go_ret
 exact ⟨rfl,rfl⟩
set_option maxHeartbeats 400000 in
theorem wat_any (b:Nat) (r:Rd) (w:World) (hA:Arr w b 3 r.c) :
  Calls Tryz.prog 143 #[.pointer (some ⟨b,0,none⟩)] w fun e w' => e = .returned (.int .i64 (r.pos:Int)) ∧ w' = w:=by
 have c1:w.cell? ⟨b,1,none⟩ = some (.int .i64 (r.pos:Int)):=hA.cell 1 (by omega)
 clear hA
 go_enter Tryz.func143,Tryz.ntmps143
 go_wp2
 go_ret
 exact ⟨rfl,rfl⟩
def Rd.fail (r:Rd) (e p:Nat):Rd:=if r.err = 0 then { r with err:=e,pos:=p } else r
set_option maxHeartbeats 400000 in
theorem wfail_any (b:Nat) (r:Rd) (e p:Nat) (w:World) (hA:Arr w b 3 r.c) :
  Calls Tryz.prog 142 #[.pointer (some ⟨b,0,none⟩),.int .i64 (e:Int),.int .i64 (p:Int)] w fun x w' => x = .returned (.tuple #[]) ∧ Arr w' b 3 (r.fail e p).c ∧ w.grownBy w' (some b):=by
 have c1:w.cell? ⟨b,1,none⟩ = some (.int .i64 (r.pos:Int)):=hA.cell 1 (by omega)
 have c2:w.cell? ⟨b,2,none⟩ = some (.int .i64 (r.err:Int)):=hA.cell 2 (by omega)
 have f1:=hA.free 1 (by omega)
 have f2:=hA.free 2 (by omega)
 have HA:=Lib.hid hA
 clear hA
 by_cases h0:r.err = 0
 ·have h0':((r.err:Int) == 0) = true:=by rw [beq_iff_eq];omega
  have HR:Hid (r.fail e p = { r with err:=e,pos:=p }):=by unfold Hid Rd.fail;rw [if_pos h0]
  clear h0
  go_enter Tryz.func142,Tryz.ntmps142
  go_wp2
  go_end0
  rw [HR.out]
  exact ⟨rfl,(((HA.out.set 2 (by omega) (.int .i64 (e:Int))).congr (Rd.upd_err r e)).set 1 (by omega) (.int .i64 (p:Int))).congr (Rd.upd_pos _ p),grown_set (grown_set (grown_of_below (Below.refl _ _) _) _) _⟩
 ·have h0':((r.err:Int) == 0) = false:=by rw [beq_eq_false_iff_ne];omega
  have HR:Hid (r.fail e p = r):=by unfold Hid Rd.fail;rw [if_neg h0]
  clear h0
  go_enter Tryz.func142,Tryz.ntmps142
  go_wp2
  go_end0
  rw [HR.out]
  exact ⟨rfl,HA.out,grown_of_below (Below.refl _ _) _⟩
end Go.Proofs.YtmhjpmenngjmeaaGreatDoor

namespace Go.Proofs.YtmhjpmenngjmeaaGreatDoor
open Go.RowKit
theorem Rd.fail_raw (r:Rd) (h0:r.err = 0):r.fail 3 r.pos = { r with err:=3 }:=by unfold Rd.fail;rw [if_pos h0]
set_option maxRecDepth 100000 in
set_option maxHeartbeats 400000 in
theorem wraw_any (b:Nat) (r:Rd) (n:Nat) (w:World) (hA:Arr w b 3 r.c) (hf:r.fine) (hn:n ≤ 1000000000) :
  Calls Tryz.prog 144 #[.pointer (some ⟨b,0,none⟩),.int .i64 (n:Int)] w fun e w' => e = .returned (.string (r.raw n).2) ∧ Arr w' b 3 (r.raw n).1.c ∧ w.grownBy w' (some b):=by
 have hbl:b < w.heap.size:=hA.lt (by omega)
 have c0:w.cell? ⟨b,0,none⟩ = some (.string r.s):=hA.cell 0 (by omega)
 have c1:w.cell? ⟨b,1,none⟩ = some (.int .i64 (r.pos:Int)):=hA.cell 1 (by omega)
 have f1:=hA.free 1 (by omega)
 have hp:=hf.pos
 have hs:=hf.size
 have hn0:decide ((n:Int) < 0) = false:=decide_eq_false (by omega)
 have HA:=Lib.hid hA
 have HE:=Lib.hid (werr_any b r w hA)
 clear hA
 by_cases h0:r.err = 0
 ·have h0':((r.err:Int) != 0) = false:=by rw [bne_eq_false_iff_eq];omega
  by_cases hlt:r.s.size - r.pos < n
  ·have HR:Hid (r.raw n = (r.fail 3 r.pos,ByteArray.empty)):=by unfold Hid Rd.raw;rw [if_neg (by simp [h0]),if_pos hlt,Rd.fail_raw r h0]
   have hd:decide ((r.s.size:Int) - r.pos < n) = true:=decide_eq_true (by omega)
   have hw:IntKind.i64.wrap ((r.s.size:Int) - r.pos) = (r.s.size:Int) - r.pos:=IntWalk.i64_in _ (by omega)
   have H0:=Lib.hid h0
   clear h0 hlt hf
   go_enter Tryz.func144,Tryz.ntmps144
   go_wp2_with fail
   refine HE.out.mono ?_
   rintro e w' ⟨rfl,rfl⟩
   go_wp2
   refine wp_region_bq (by kernel_rfl) (by kernel_rfl) ?_
   have LQ0:=fun x:BW (World.heap w').size w' => below_load c0 x.hb (by omega)
   have LQ1:=fun x:BW (World.heap w').size w' => below_load c1 x.hb (by omega)
   repeat (go_big_quiet_step (fail))
   refine wpQuiet_nil ?_
   intro wq hbq
   clear LQ0 LQ1
   have g1:=below_load c1 hbq hbl
   have HF:=Lib.hid (wfail_any b r 3 r.pos wq (HA.out.below hbq hbl))
   have HB:=Lib.hid hbq
   clear c0 c1 f1 hbq
   go_wp2_with fail
   refine HF.out.mono ?_
   rintro e w2 ⟨rfl,hA2,hg2⟩
   have HA2:=Lib.hid hA2
   have HG2:=Lib.hid (grown_trans (grown_of_below HB.out (some b)) hg2)
   clear hA2 hg2
   go_wp2
   go_ret
   rw [HR.out]
   exact ⟨rfl,HA2.out,HG2.out⟩
  ·have HR:Hid (r.raw n = ({ r with pos:=r.pos + n },r.s.extract r.pos (r.pos + n))):=by unfold Hid Rd.raw;rw [if_neg (by simp [h0]),if_neg hlt]
   have hd:decide ((r.s.size:Int) - r.pos < n) = false:=decide_eq_false (by omega)
   have hw:IntKind.i64.wrap ((r.s.size:Int) - r.pos) = (r.s.size:Int) - r.pos:=IntWalk.i64_in _ (by omega)
   have hw2:IntKind.i64.wrap ((r.pos:Int) + n) = (r.pos:Int) + n:=IntWalk.i64_in _ (by omega)
   have HSL:=fun w => slice_two r.s r.pos n (by omega) w
   have H0:=Lib.hid h0
   clear h0 hlt hf
   go_enter Tryz.func144,Tryz.ntmps144
   go_wp2_with fail
   refine HE.out.mono ?_
   rintro e w' ⟨rfl,rfl⟩
   go_wp2
   refine wp_region_bq (by kernel_rfl) (by kernel_rfl) ?_
   have LQ0:=fun x:BW (World.heap w').size w' => below_load c0 x.hb (by omega)
   have LQ1:=fun x:BW (World.heap w').size w' => below_load c1 x.hb (by omega)
   repeat (go_big_quiet_step (fail))
   refine wpQuiet_nil ?_
   intro wq hbq
   clear LQ0 LQ1
   obtain ⟨wa,rfl⟩:∃ wa:World,wa = wq:=⟨_,rfl⟩
   have hb1:=hbq
   clear hbq
   have d0:=below_load c0 hb1 hbl
   have d1:=below_load c1 hb1 hbl
   have hbl2:b < wa.heap.size:=by have:=hb1.size;omega
   go_wp2
   refine wp_region_bq (by kernel_rfl) (by kernel_rfl) ?_
   have LQ0:=fun x:BW (World.heap wa).size wa => below_load d0 x.hb (by omega)
   have LQ1:=fun x:BW (World.heap wa).size wa => below_load d1 x.hb (by omega)
   repeat (go_big_quiet_step (fail))
   refine wpQuiet_nil ?_
   intro wq hbq
   clear LQ0 LQ1
   have hb2:=hb1.trans (hbq.mono hb1.size)
   have g1:=below_load c1 hb2 hbl
   have k1:wq.frozen? ⟨b,1,none⟩ = false:=by rw [hb2.frozen (p:=⟨b,1,none⟩) hbl];exact f1
   have HB2:=Lib.hid hb2
   clear c0 c1 f1 d0 d1 hb1 hb2 hbq HSL
   go_wp2
   go_ret
   rw [HR.out]
   exact ⟨rfl,((HA.out.below HB2.out hbl).set 1 (by omega) (.int .i64 ((r.pos + n:Nat):Int))).congr (Rd.upd_pos r _),grown_set (grown_of_below HB2.out _) _⟩
 ·have h0':((r.err:Int) != 0) = true:=by rw [bne_iff_ne];omega
  have HR:Hid (r.raw n = (r,ByteArray.empty)):=by unfold Hid Rd.raw;rw [if_pos h0]
  clear h0 hf
  go_enter Tryz.func144,Tryz.ntmps144
  go_wp2_with fail
  refine HE.out.mono ?_
  rintro e w' ⟨rfl,rfl⟩
  go_wp2
  go_ret
  rw [HR.out]
  exact ⟨rfl,HA.out,grown_of_below (Below.refl _ _) _⟩
set_option maxHeartbeats 400000 in
theorem wend_any (b:Nat) (r:Rd) (w:World) (hA:Arr w b 3 r.c) (hf:r.fine) :
  Calls Tryz.prog 128 #[.pointer (some ⟨b,0,none⟩)] w fun e w' => e = .returned (.int .i64 (r.fin:Int)) ∧ Below w.heap.size w w':=by
 have hbl:b < w.heap.size:=hA.lt (by omega)
 have c0:w.cell? ⟨b,0,none⟩ = some (.string r.s):=hA.cell 0 (by omega)
 have c1:w.cell? ⟨b,1,none⟩ = some (.int .i64 (r.pos:Int)):=hA.cell 1 (by omega)
 have hs:=hf.size
 have HE:=Lib.hid (werr_any b r w hA)
 clear hA hf
 by_cases h0:r.err = 0
 ·have h0':((r.err:Int) != 0) = false:=by rw [bne_eq_false_iff_eq];omega
  by_cases hlt:r.pos < r.s.size
  ·have HR:Hid (r.fin = 5):=by unfold Hid Rd.fin;rw [if_neg (by simp [h0]),if_pos hlt]
   have hd:decide (r.pos < r.s.size) = true:=decide_eq_true hlt
   have hd2:decide ((r.pos:Int) < r.s.size) = true:=decide_eq_true (by omega)
   clear h0
   go_enter Tryz.func128,Tryz.ntmps128
   go_wp2_with fail
   refine HE.out.mono ?_
   rintro e w' ⟨rfl,rfl⟩
   go_wp2
   refine wp_region_bq (by kernel_rfl) (by kernel_rfl) ?_
   have LQ0:=fun x:BW (World.heap w').size w' => below_load c0 x.hb (by omega)
   have LQ1:=fun x:BW (World.heap w').size w' => below_load c1 x.hb (by omega)
   repeat (go_big_quiet_step (fail))
   refine wpQuiet_nil ?_
   intro wq hbq
   clear LQ0 LQ1
   go_wp2
   go_ret
   rw [HR.out]
   exact ⟨rfl,hbq⟩
  ·have HR:Hid (r.fin = 0):=by unfold Hid Rd.fin;rw [if_neg (by simp [h0]),if_neg hlt]
   have hd:decide (r.pos < r.s.size) = false:=decide_eq_false hlt
   have hd2:decide ((r.pos:Int) < r.s.size) = false:=decide_eq_false (by omega)
   clear h0
   go_enter Tryz.func128,Tryz.ntmps128
   go_wp2_with fail
   refine HE.out.mono ?_
   rintro e w' ⟨rfl,rfl⟩
   go_wp2
   refine wp_region_bq (by kernel_rfl) (by kernel_rfl) ?_
   have LQ0:=fun x:BW (World.heap w').size w' => below_load c0 x.hb (by omega)
   have LQ1:=fun x:BW (World.heap w').size w' => below_load c1 x.hb (by omega)
   repeat (go_big_quiet_step (fail))
   refine wpQuiet_nil ?_
   intro wq hbq
   clear LQ0 LQ1
   go_wp2
   go_ret
   rw [HR.out]
   exact ⟨rfl,hbq⟩
 ·have h0':((r.err:Int) != 0) = true:=by rw [bne_iff_ne];omega
  have HR:Hid (r.fin = r.err):=by unfold Hid Rd.fin;rw [if_pos h0]
  clear h0
  go_enter Tryz.func128,Tryz.ntmps128
  go_wp2_with fail
  refine HE.out.mono ?_
  rintro e w' ⟨rfl,rfl⟩
  go_wp2
  go_ret
  rw [HR.out]
  exact ⟨rfl,Below.refl _ _⟩
end Go.Proofs.YtmhjpmenngjmeaaGreatDoor

namespace Go.Proofs.YtmhjpmenngjmeaaGreatDoor
open Go.RowKit
theorem grown_frame {w wa w1 w2:World} {b:Nat} (h0:Below w.heap.size w wa) (hg:wa.grownBy w1 (some b)) (hb:Below w.heap.size w1 w2):w.grownBy w2 (some b) :=
 ⟨by rw [hb.os,hg.os,h0.os],by rw [hb.tape,hg.tape,h0.tape],by rw [hb.output,hg.output,h0.output],by have:=h0.size;have:=hg.size;have:=hb.size;omega,
  fun k hk hne => by rw [hb.block k hk,hg.block k (by have:=h0.size;omega) hne,h0.block k hk]⟩
theorem Arr.grown {w w':World} {b n B:Nat} {c:Nat → Value} (h:Arr w b n c) (hg:w.grownBy w' (some B)) (hne:b ≠ B):Arr w' b n c :=
 ⟨fun k hk => hg.cell (h.cell k hk) (by simpa using hne),fun k hk => by
  rw [World.frozen?_of_block (w:=w) (a:=⟨b,k,none⟩) (hg.block b (h.lt (by omega)) (by simpa using hne))];exact h.free k hk⟩
def idOf (s:ByteArray):List UInt8:=(List.range 32).map (blk s)
def Rd.id (r:Rd):Rd × List UInt8:=((r.raw 32).1,idOf (r.raw 32).2)
theorem idOf_len (s:ByteArray):(idOf s).length = 32:=by simp [idOf]
theorem Rd.raw_size (r:Rd) (n:Nat):(r.raw n).2.size ≤ n:=by
 unfold Rd.raw
 split
 ·exact Nat.zero_le _
 ·split
  ·exact Nat.zero_le _
  ·show (r.s.extract r.pos (r.pos + n)).size ≤ n
   rw [ByteArray.size_extract];omega
def idB (s:ByteArray) (n k:Nat):Value:=if k < n then .int .u8 ((blk s k).toNat:Int) else .int .u8 0
theorem idB_zero (s:ByteArray):idB s 0 = fun _ => .int .u8 0:=by funext k;unfold idB;rw [if_neg (by omega)]
theorem idB_next (s:ByteArray) (n k:Nat):upd (idB s n) n (.int .u8 ((blk s n).toNat:Int)) k = idB s (n + 1) k:=by
 unfold upd idB
 by_cases e:k = n
 ·subst e;rw [if_pos rfl,if_pos (by omega)]
 ·rw [if_neg e]
  by_cases h:k < n
  ·rw [if_pos h,if_pos (by omega)]
  ·rw [if_neg h,if_neg (by omega)]
theorem idB_all (s:ByteArray) (k:Nat):idB s s.size k = .int .u8 ((blk s k).toNat:Int):=by
 unfold idB
 by_cases h:k < s.size
 ·rw [if_pos h]
 ·rw [if_neg h]
  have e:blk s k = 0:=by unfold blk;rw [List.getD_eq_getElem?_getD,List.getElem?_eq_none (by simpa using h)];rfl
  rw [e];rfl
theorem idV_one (x:List UInt8):∀ v ∈ x.map (fun b => Value.int .u8 (b.toNat:Int)),v.oneCell' = true:=by
 intro v hv;obtain ⟨x,_,rfl⟩:=List.mem_map.1 hv;rfl
set_option maxRecDepth 100000 in
set_option maxHeartbeats 800000 in
theorem rid_any (b:Nat) (r:Rd) (w:World) (hA:Arr w b 3 r.c) (hf:r.fine) :
  Calls Tryz.prog 79 #[.pointer (some ⟨b,0,none⟩)] w fun e w' => e = .returned (idV r.id.2) ∧ Arr w' b 3 r.id.1.c ∧ w.grownBy w' (some b):=by
 have hbl:b < w.heap.size:=hA.lt (by omega)
 have HR:=Lib.hid (rraw_any b r 32 (w.alloc (.cells (Array.replicate 32 (.int .u8 0)) 27)) (hA.alloc (by omega) _) hf (by omega))
 have hs:=Rd.raw_size r 32
 have HF:Hid (idV r.id.2 = .agg ((idOf (r.raw 32).2).map fun b => Value.int .u8 (b.toNat:Int)).toArray):=Lib.hid rfl
 have HG:Hid (r.id.1 = (r.raw 32).1):=Lib.hid rfl
 have hO:=Arr.new w 32 (.int .u8 0) 27
 have HO:=Lib.hid hO
 generalize r.raw 32 = x at HR hs HF HG
 obtain ⟨r1,s⟩:=x
 dsimp only at HR hs HF HG
 clear hA hf hO
 go_enter Tryz.func79,Tryz.ntmps79
 go_wp2_with fail
 refine HR.out.mono ?_
 rintro e w1 ⟨rfl,hA1,hg1⟩
 have HA1:=Lib.hid hA1
 have HG1:=Lib.hid hg1
 have HO1:=Lib.hid (HO.out.grown hg1 (by omega))
 have HX0:Hid (Arr (w1.alloc (.cells (Array.replicate 32 (.int .u8 0)) 27)) w1.heap.size 32 (idB s 0)):=by rw [idB_zero];exact Lib.hid (Arr.new w1 32 _ _)
 have hw1:w.heap.size < w1.heap.size:=HO1.out.lt (by omega)
 clear hA1 hg1
 go_wp2
 go_loopw [5] (fun i wr => ∃ k:Nat,k ≤ s.size ∧ i = .int .i64 k ∧ Arr wr w1.heap.size 32 (idB s k) ∧ Below w1.heap.size w1 wr) (fun i _ => (s.size - intOf i).toNat)
 case atStart => exact ⟨0,by omega,rfl,HX0.out,(Below.refl _ _).alloc (Nat.le_refl _) _⟩
 case round =>
  obtain ⟨wo,rfl⟩:∃ wo:World,wo = wr:=⟨_,rfl⟩
  obtain ⟨k,hk,rfl,hX,hb⟩:=hrel
  clear HX0
  by_cases hlt:k < s.size
  ·have HI:∀ w,(Instr.index 9 (.string s) (.int .i64 (k:Int))).run Tryz.prog w = .ok (.int .u8 ((blk s k).toNat:Int)) w:=fun w => by rw [run_index_str s w k hlt,wn_bw]
   have c1:=hX.cell k (by omega)
   have f1:=hX.free k (by omega)
   have hX1:=Lib.hid hX
   have HB:=Lib.hid hb
   have k0:(0:Int) ≤ k:=by omega
   have k1:(k:Int) < 32:=by omega
   have hd:decide ((k:Int) < s.size) = true:=decide_eq_true (by omega)
   clear hX hb
   go_wp2
   go_roundw
   case rel => exact ⟨k + 1,by omega,by go_num,(hX1.out.set k (by omega) (.int .u8 ((blk s k).toNat:Int))).congr (fun q _ => idB_next s k q),HB.out.setCell (Nat.le_refl _) _⟩
   case measure => simp [intOf];omega
  ·obtain rfl:k = s.size:=by omega
   have hd:decide ((s.size:Int) < s.size) = false:=decide_eq_false (by omega)
   have hr:=hX.range
   have e8:(List.range 32).map (idB s s.size) = (idOf s).map fun b => Value.int .u8 (b.toNat:Int):=by
    unfold idOf;rw [List.map_map]
    exact List.map_congr_left fun k _ => idB_all s k
   rw [e8] at hr
   have hO5:Arr wo w.heap.size 32 (fun _ => .int .u8 0):=HO1.out.below hb hw1
   have hlen:((idOf s).map fun b => Value.int .u8 (b.toNat:Int)).length = 32:=by rw [idV_list];exact idOf_len s
   have hone:=idV_one (idOf s)
   generalize (idOf s).map (fun b => Value.int .u8 (b.toNat:Int)) = us at hr hlen hone HF
   have h32:(Tryz.prog.info? 27).map (·.size) = some 32:=by kernel_rfl
   have h32u:(Tryz.prog.info? 27).map (·.size) = some us.length:=by rw [hlen];exact h32
   have hth:=hO5.there
   have HFR:=Lib.hid (World.rangeAt_setCells_same wo w.heap.size 0 us (by rw [hlen];exact hth))
   have HTH:=Lib.hid hth
   have HLN:=Lib.hid hlen
   have HON:=Lib.hid hone
   have HBF:=Lib.hid (below_setCells (B:=w.heap.size) (a:=w1) w.heap.size (Nat.le_refl _) us 0 wo (hb.mono (by omega)))
   have hb1:=HBF.out
   have HFIN:=Lib.hid (grown_frame ((Below.refl _ _).alloc (Nat.le_refl _) _) HG1.out hb1)
   have HAF:=Lib.hid (HA1.out.below hb1 hbl)
   clear hX hb e8 hth hlen hone hO5 hb1
   go_wp2_with (first | (refine wpList_load_mid rfl 27 _ rfl w1.heap.size 0 rfl us _ hr Tryz.underlying27 rfl h32u ?_) | (refine wpList_store_list rfl 27 _ _ rfl w.heap.size 0 us ?y1 ?y2 32 HLN.out ?y4 h32 HON.out ?_))
   try case y1 => rfl
   try case y2 => rfl
   case y4 => exact HTH.out
   simp only [Act.put]
   refine ret_cell rfl w.heap.size 0 rfl us _ HFR.out Tryz.underlying27 rfl h32u rfl ⟨by rw [HF.out],by rw [HG.out];exact HAF.out,HFIN.out⟩
end Go.Proofs.YtmhjpmenngjmeaaGreatDoor
