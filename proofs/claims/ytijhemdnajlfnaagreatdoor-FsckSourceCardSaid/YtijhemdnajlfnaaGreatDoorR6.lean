/- A part of this claim. -/
import Derived.Laws.IdiomStrings
import Derived.Test.YtijhemdnajlfnaaGreatDoorR5
namespace Go.Proofs.YtijhemdnajlfnaaGreatDoor
open Tryz
set_option maxHeartbeats 64000000
set_option maxRecDepth 100000
section
open Go.RowKit
def ME:List W32:=[0x6a09e667#32,0xbb67ae85#32,0x3c6ef372#32,0xa54ff53a#32,0x510e527f#32,0x9b05688c#32,0x1f83d9ab#32,0x5be0cd19#32]
def iP (k:Nat):W32:=ME.getD k 0
def lI:List Value:=[.int .u32 (wn (iP 0)),.int .u32 (wn (iP 1)),.int .u32 (wn (iP 2)),.int .u32 (wn (iP 3)),.int .u32 (wn (iP 4)),.int .u32 (wn (iP 5)),.int .u32 (wn (iP 6)),.int .u32 (wn (iP 7))]
structure Laid (w:World):Prop where
 rounds:w.rangeAt 4 0 kV
 first:w.rangeAt 2 0 lI
 lt:5 ≤ w.heap.size
theorem Laid.below {w w':World} (h:Laid w) (hb:Below w.heap.size w w'):Laid w':=by
 have:=h.lt;have:=hb.size
 exact ⟨au h.rounds hb (by omega),au h.first hb (by omega),by omega⟩
theorem nS {w w':World} {b b2 o:Nat} {cs:List Value} (h:w.rangeAt b o cs) (hg:w.grownBy w' (some b2)) (hne:b ≠ b2):w'.rangeAt b o cs:=fun j v hv =>
 hg.cell (h j v hv) (by simpa using hne)
theorem Laid.grown {w w':World} {b:Nat} (h:Laid w) (hg:w.grownBy w' (some b)) (hb:5 ≤ b):Laid w' :=
 ⟨nS h.rounds hg (by omega),nS h.first hg (by omega),Nat.le_trans h.lt hg.size⟩
theorem dY {a w w':World} {b:Nat} (h:a.grownBy w (some b)) (k:w.grownBy w' (some b)):a.grownBy w' (some b) :=
 ⟨k.os.trans h.os,k.tape.trans h.tape,k.output.trans h.output,Nat.le_trans h.size k.size,fun i hi hne => (k.block i (Nat.lt_of_lt_of_le hi h.size) hne).trans (h.block i hi hne)⟩
def HS.begin (h:HS):HS:=if h.begun then h else { h with begun:=true,st:=iP }
def HS.put (h:HS) (x:UInt8):HS :=
 if h.many + 1 = 64 then { h with st:=gu h.st (upd h.rest h.many x),rest:=upd h.rest h.many x,many:=0 } else { h with rest:=upd h.rest h.many x,many:=h.many + 1 }
theorem HS.uR (h:HS) (x:UInt8) (hm:h.many < 64):(h.put x).many < 64:=by
 unfold HS.put;split
 ·show 0 < 64;omega
 show h.many + 1 < 64;omega
theorem sV (b:Nat) (h:HS) (x:UInt8) (w:World) (hA:Arr w b 75 h.c) (hm:h.many < 64) (hL:Laid w) (hb8:5 ≤ b) :
  Calls prog 254 #[.pointer (some ⟨b,0,none⟩),.int .u8 (x.toNat:Int)] w fun e w' => e = .returned (.tuple #[]) ∧ Arr w' b 75 (h.put x).c ∧ w.grownBy w' (some b):=by
 have hbl:b < w.heap.size:=hA.lt (by omega)
 have c1:=hA.cell 73 (by omega)
 rw [HS.Gb] at c1
 have c2:=hA.cell (9 + h.many) (by omega)
 have f2:=hA.free (9 + h.many) (by omega)
 have f1:=hA.free 73 (by omega)
 have m0:(0:Int) ≤ h.many:=by omega
 have m1:(h.many:Int) < 64:=by omega
 have HA:=ah hA
 clear hA
 generalize hmm:h.many = m at hm c1 c2 f2 m0 m1
 have HM:=ah hmm
 have HL:=ah hL
 clear hmm hL
 go_enter func254,ntmps254
 go_wp2
 refine dL 9 (by kernel_rfl) (by kernel_rfl) ?_
 simp only [List.take_succ_cons,List.take_zero,List.drop_succ_cons,List.drop_zero]
 have LQ0:=blq c1
 repeat (go_big_quiet_step (fail))
 refine wpQuiet_nil ?_
 intro wq hbq
 clear LQ0
 have g1:=ak c1 hbq hbl
 have g2:=ak c2 hbq hbl
 have k1:wq.frozen? ⟨b,73,none⟩ = false:=by rw [hbq.frozen (p:=⟨b,73,none⟩) hbl];exact f1
 have k2:wq.frozen? ⟨b,9 + m,none⟩ = false:=by rw [hbq.frozen (p:=⟨b,9 + m,none⟩) hbl];exact f2
 clear c1 c2 f1 f2
 have hA1:=(HA.out.below hbq hbl).set (9 + m) (by omega) (.int .u8 (x.toNat:Int))
 rw [HS.Kt _ _ (by omega)] at hA1
 have hA2:=hA1.set 73 (by omega) (.int .i64 ((m + 1:Nat):Int))
 rw [HS.Br] at hA2
 dsimp only at hA2
 have HA2:=ah hA2
 have HG:=ah (aI (aI (aA hbq (some b)) (o:=9 + m) (.int .u8 (x.toNat:Int))) (o:=73) (.int .i64 ((m + 1:Nat):Int)))
 clear hA1 hA2
 by_cases h64:m + 1 = 64
 ·have h64':((m:Int) + 1 == 64) = true:=by rw [beq_iff_eq];omega
  have HH:=ah h64
  clear h64
  go_wp2_with fail
  have hL2:Laid _:=HL.out.grown HG.out hb8
  refine (KE b _ _ HA2.out hL2.rounds (by have:=hL2.lt;omega)).mono ?_
  rintro e w' ⟨rfl,hA3,hg3⟩
  have HA3:=ah hA3
  have HG3:=ah (dY HG.out hg3)
  clear hA3 hg3 hL2
  go_wp2
  go_end0
  refine ⟨rfl,?_,HG3.out⟩
  unfold HS.put
  rw [HM.out,if_pos HH.out]
  exact HA3.out
 have h64':((m:Int) + 1 == 64) = false:=by rw [beq_eq_false_iff_ne];omega
 have HH:=ah h64
 clear h64
 go_wp2
 go_end0
 refine ⟨rfl,?_,HG.out⟩
 unfold HS.put
 rw [HM.out,if_neg HH.out]
 exact HA2.out
theorem Arr.setCells {w:World} {b n:Nat} {c:Nat → Value} (h:Arr w b n c) (o:Nat) (vs:List Value) (hn:o + vs.length ≤ n) :
  Arr (w.setCells b o vs) b n (fun k => if o ≤ k ∧ k < o + vs.length then vs.getD (k - o) undef else c k):=by
 have ht:w.there b o vs.length:=fun j hj => ⟨by rw [h.cell (o + j) (by omega)];rfl,h.free _ (by omega)⟩
 refine ⟨fun k hk => ?_,fun k hk => ?_⟩
 ·split
  ·rename_i hc
   have:=World.rangeAt_setCells_same w b o vs ht (k - o) (vs.getD (k - o) undef) (by simp [show k - o < vs.length from by omega])
   rw [show o + (k - o) = k from by omega] at this
   exact this
  rw [World.cell?_setCells_out b vs o w ⟨b,k,none⟩ (fun _ _ => by show k < o ∨ o + vs.length ≤ k;omega)]
  exact h.cell k hk
 rw [World.frozen?_setCells];exact h.free k hk
theorem fH {w:World} {b:Nat} (vs:List Value):∀ (o:Nat) (w':World),w.grownBy w' (some b) → w.grownBy (w'.setCells b o vs) (some b):=by
 induction vs with
 | nil => intro o w' h;exact h
 | cons v vs ih => intro o w' h;rw [World.setCells];exact ih _ _ (aI h v)
theorem HS.Ol (h:HS) (hb:h.begun = false):∀ k,k < 75 → (if 1 ≤ k ∧ k < 1 + lI.length then lI.getD (k - 1) undef else upd h.c 0 (.bool true) k) = h.begin.c k:=by
 intro k _
 have hl:lI.length = 8:=rfl
 have he:h.begin = { h with begun:=true,st:=iP }:=by unfold HS.begin;rw [hb];rfl
 rw [hl,he]
 unfold upd HS.c
 dsimp only
 by_cases h0:k = 0
 ·subst h0;rfl
 by_cases h9:k < 9
 ·rw [if_pos (by omega),if_neg h0,if_pos h9]
  obtain h | h | h | h | h | h | h | h:k = 1 ∨ k = 2 ∨ k = 3 ∨ k = 4 ∨ k = 5 ∨ k = 6 ∨ k = 7 ∨ k = 8:=by omega
  all_goals subst h;rfl
 rw [if_neg (by omega),if_neg h0,if_neg h0,if_neg h0,if_neg h9,if_neg h9]
theorem zR (b:Nat) (h:HS) (w:World) (hA:Arr w b 75 h.c) (hL:Laid w) :
  Calls prog 253 #[.pointer (some ⟨b,0,none⟩)] w fun e w' => e = .returned (.tuple #[]) ∧ Arr w' b 75 h.begin.c ∧ w.grownBy w' (some b):=by
 have c0:=hA.cell 0 (by omega)
 rw [HS.Oe] at c0
 have f0:=hA.free 0 (by omega)
 cases hb:h.begun with
 | true =>
  rw [hb] at c0
  have HA:=ah hA
  have HB:=ah hb
  clear hA hb
  go_enter func253,ntmps253
  go_wp2
  go_end0
  refine ⟨rfl,?_,aA (Below.refl _ _) _⟩
  unfold HS.begin
  rw [HB.out,if_pos rfl]
  exact HA.out
 | false =>
  rw [hb] at c0
  have HB:=ah hb
  have hA1:=hA.set 0 (by omega) (.bool true)
  have hth:(w.setCell ⟨b,0,none⟩ (.bool true)).there b (0 + 1) 8:=fun j hj => ⟨by rw [hA1.cell _ (by omega)];rfl,hA1.free _ (by omega)⟩
  have hA2:=hA1.setCells 1 lI (by show 1 + 8 ≤ 75;omega)
  have HA2:=ah hA2
  have HG:=ah (fH lI 1 _ (aI (aA (Below.refl _ w) (some b)) (o:=0) (.bool true)))
  have hF:=hL.first
  have h8:(prog.info? 238).map (·.size) = some 8:=by kernel_rfl
  have HT:=ah hth
  clear hA hb hA1 hA2 hL hth
  go_enter func253,ntmps253
  go_wp2_with (first | (refine wpList_load_mid rfl 238 _ rfl 2 0 rfl lI _ hF underlying238 rfl h8 ?_) | (refine aj rfl 238 _ _ rfl b 1 lI ?x1 ?x2 8 ?x3 ?x4 ?x5 ?h1 ?_))
  case x1 => rfl
  case x2 => rfl
  case x3 => rfl
  case x4 => exact HT.out
  case x5 => exact h8
  case h1 => unfold lI;simp [Value.oneCell']
  go_wp2
  go_end0
  exact ⟨rfl,HA2.out.congr (HS.Ol h HB.out),HG.out⟩
def HS.feed (h:HS) (l:List UInt8):HS:=l.foldl HS.put h
theorem HS.J2 (h:HS) (s:ByteArray) (k:Nat) (hk:k < s.size):h.feed (s.data.toList.take (k + 1)) = (h.feed (s.data.toList.take k)).put s[k]:=by
 unfold HS.feed
 rw [List.take_succ_eq_append_getElem (by simpa using hk),List.foldl_append];rfl
theorem HS.nI (h:HS) (l:List UInt8) (hm:h.many < 64):(h.feed l).many < 64:=by
 unfold HS.feed
 induction l generalizing h with
 | nil => exact hm
 | cons x l ih => exact ih _ (HS.uR _ _ hm)
theorem HS.yJ (h:HS) (x:UInt8):(h.put x).taken = h.taken:=by unfold HS.put;split <;> rfl
theorem HS.oK (h:HS) (l:List UInt8):(h.feed l).taken = h.taken:=by
 unfold HS.feed
 induction l generalizing h with
 | nil => rfl
 | cons x l ih => exact (ih _).trans (HS.yJ _ _)
theorem HS.lM (h:HS):h.begin.many = h.many:=by unfold HS.begin;split <;> rfl
theorem HS.sH (h:HS):h.begin.taken = h.taken:=by unfold HS.begin;split <;> rfl
def HS.w1 (h:HS) (s:ByteArray) (k:Nat):HS:=if k = 0 then h.begin else { h.begin.feed s.data.toList with taken:=(s.size:Int) }
theorem Hz (b p q cap:Nat) (h:HS) (s:ByteArray) (w:World) (hA:Arr w b 75 h.c) (hL:Laid w) (hb8:5 ≤ b) (hs:w.cell? ⟨p,q,none⟩ = some (.string s)) (hp:p ≠ b) (ht:h.taken = 0) (hm:h.many < 64) (hz:s.size ≤ 1000000000) :
  Calls prog 205 #[.pointer (some ⟨b,0,none⟩),.slice (some ⟨p,q,none⟩) 1 cap] w fun e w' => e = .returned (.tuple #[]) ∧ Arr w' b 75 (h.w1 s 1).c ∧ w.grownBy w' (some b):=by
 have HB:=ah (fun w' (h1:Arr w' b 75 h.c) (h2:Laid w') => zR b h w' h1 h2)
 have HT:=ah ht
 have HM:=ah hm
 have HA:=ah hA
 have HL:=ah hL
 clear hA hL ht hm
 go_enter func205,ntmps205
 go_wp2_with fail
 refine (HB.out w HA.out HL.out).mono ?_
 rintro e w1 ⟨rfl,hA1,hg1⟩
 have hs1:=hg1.cell hs (by simpa using hp)
 have HA1:=ah hA1
 have HG1:=ah hg1
 clear hA1 hg1
 go_wp2
 go_loopw [13] (fun i wr => ∃ k:Nat,k ≤ 1 ∧ i = .int .i64 k ∧ Arr wr b 75 (h.w1 s k).c ∧ w.grownBy wr (some b)) (fun i _ => (1 - intOf i).toNat)
 case atStart => exact ⟨0,by omega,rfl,HA1.out,HG1.out⟩
 obtain ⟨wo,rfl⟩:∃ wo:World,wo = wr:=⟨_,rfl⟩
 obtain ⟨k,hk,rfl,hAo,hgo⟩:=hrel
 by_cases hk0:k < 1
 ·have HK0:=ah (show k = 0 by omega)
  have hd1:decide (k < 1) = true:=decide_eq_true hk0
  have hd2:decide ((k:Int) < 1) = true:=decide_eq_true (by omega)
  have k0:(0:Int) ≤ k:=by omega
  have k1:(k:Int) < 1:=by omega
  have hpk:(⟨p,q + k,none⟩:Addr) = ⟨p,q,none⟩:=by rw [HK0.out];rfl
  have hso:=hgo.cell hs (by simpa using hp)
  rw [← hpk] at hso
  have HAo:=ah hAo
  have HGo:=ah hgo
  clear hAo hgo hs1 hk hk0 hpk
  go_wp2
  go_loopw [19] (fun i wr => ∃ j:Nat,j ≤ s.size ∧ i = .int .i64 j ∧ Arr wr b 75 (h.begin.feed (s.data.toList.take j)).c ∧ w.grownBy wr (some b)) (fun i _ => (s.size - intOf i).toNat)
  case atStart => exact ⟨0,by omega,rfl,by have:=HAo.out;rw [HK0.out] at this;exact this,HGo.out⟩
  obtain ⟨wi,rfl⟩:∃ wi:World,wi = wr:=⟨_,rfl⟩
  obtain ⟨j,hj,rfl,hAi,hgi⟩:=hrel
  by_cases hjl:j < s.size
  ·have HP:=ah (sV b _ s[j] wi hAi (HS.nI _ _ (by rw [HS.lM];exact HM.out)) (HL.out.grown hgi hb8) hb8)
   have HGi:=ah hgi
   have HS1:=ah (HS.J2 h.begin s j hjl)
   clear hAi hgi
   go_wp2_with fail
   refine HP.out.mono ?_
   rintro e w2 ⟨rfl,hA2,hg2⟩
   have HA2:=ah hA2
   have HG2:=ah (dY HGi.out hg2)
   clear hA2 hg2
   go_wp2
   go_roundw
   case rel => exact ⟨j + 1,by omega,by go_num,by rw [HS1.out];exact HA2.out,HG2.out⟩
   case measure => simp [intOf];omega
  obtain rfl:j = s.size:=by omega
  rw [show s.data.toList.take s.size = s.data.toList from List.take_of_length_le (by simp)] at hAi
  have c1:=hAi.cell 74 (by omega)
  have f1:=hAi.free 74 (by omega)
  rw [HS.G9,HS.oK,HS.sH,HT.out] at c1
  have HAi:=ah hAi
  have HGi:=ah hgi
  clear hAi hgi
  go_wp2
  go_roundw
  case rel =>
   refine ⟨k + 1,by omega,by go_num,?_,aI HGi.out _⟩
   rw [HK0.out]
   exact (HAi.out.set 74 (by omega) (.int .u64 (s.size:Int))).congr (HS.H7 _ _)
  case measure => simp [intOf];omega
 obtain rfl:k = 1:=by omega
 have HAo:=ah hAo
 have HGo:=ah hgo
 clear hAo hgo
 go_wp2
 go_end0
 exact ⟨rfl,HAo.out,HGo.out⟩
def be8 (T k:Nat):UInt8:=UInt8.ofNat (T / 2 ^ (56 - 8 * k))
def be64 (T:Nat):List UInt8:=(List.range 8).map (be8 T)
def stB (st:Nat → W32) (j:Nat):UInt8:=UInt8.ofNat ((st (j / 4)).toNat / 2 ^ (24 - 8 * (j % 4)))
def padN (m:Nat):Nat:=(120 - m) % 64
def HS.ended (h:HS):HS:=(((h.begin.put 128).feed (List.replicate (padN (h.begin.put 128).many) 0))).feed (be64 (8 * h.taken.toNat))
def idV (x:List UInt8):Value:=.agg (x.map fun b => Value.int .u8 (b.toNat:Int)).toArray
def HS.sum (h:HS):List UInt8:=(List.range 32).map (stB h.ended.st)
theorem qj (h:HS) (l m:List UInt8):h.feed (l ++ m) = (h.feed l).feed m:=by unfold HS.feed;rw [List.foldl_append]
theorem mQ (h:HS) (l:List UInt8) (x:UInt8):h.feed (l ++ [x]) = (h.feed l).put x:=qj h l [x]
theorem kY (h:HS) (x:UInt8) (hm:h.many < 64):(h.put x).many = (h.many + 1) % 64:=by
 unfold HS.put;split
 ·rename_i h1;rw [h1]
 rename_i h1;show h.many + 1 = _;rw [Nat.mod_eq_of_lt (by omega)]
theorem nZ (h:HS) (hm:h.many < 64):∀ l:List UInt8,(h.feed l).many = (h.many + l.length) % 64:=by
 intro l
 induction l generalizing h with
 | nil => show h.many = _;rw [List.length_nil,Nat.add_zero,Nat.mod_eq_of_lt hm]
 | cons x l ih =>
  show ((h.put x).feed l).many = _
  rw [ih _ (HS.uR h x hm),kY h x hm,List.length_cons];omega
theorem Kk (T k:Nat) (hk:k < 8):(be64 T).take (k + 1) = (be64 T).take k ++ [be8 T k]:=by
 have hl:(be64 T).length = 8:=by simp [be64]
 rw [List.take_succ_eq_append_getElem (by omega)]
 congr 1
 simp [be64]
theorem wrap_u8' (n:Int):IntKind.u8.wrap n = n % 256:=by simp [IntKind.wrap,IntKind.signed,IntKind.bits]
theorem Gg (n:Nat):((UInt8.ofNat n).toNat:Int) = (n:Int) % 256:=by
 rw [UInt8.toNat_ofNat'];omega
theorem mq (t e:TypeId) (len:Nat) (hu:prog.underlying t = some (.array len e)) (hs:∀ w,(sizeOf e).run prog w = .ok 1 w) (ha:∀ w,(isAgg e).run prog w = .ok false w)
  (vs:List Value) (w:World) (n:Nat) (hn:n < len) (v:Value) (hv:vs[n]? = some v):(Instr.index t (.agg vs.toArray) (.int .i64 (n:Int))).run prog w = .ok v w:=by
 have h1:(0:Int) ≤ n ∧ (n:Int) < len:=by omega
 have h2:vs.toArray[n]? = some v:=by simpa using hv
 unfold Instr.index
 simp only [Sem.run_bind,asIntOf,Sem.run_pure,Result.andThen_ok,run_underlying hu,if_pos h1,hs w,part,ha w,Int.toNat_natCast,Nat.mul_one,h2]
 rfl
theorem vi64 {a b:Int} (h:a = b):Value.int .i64 a = .int .i64 b:=by rw [h]
def Gu (c:Nat) (w:World):Nat:=match w.cell? ⟨c,73,none⟩ with
 | some (.int _ m) => padN m.toNat
 | _ => 0
theorem Arr.ofList (w:World) (vs:List Value) (e:TypeId):Arr (w.alloc (.cells vs.toArray e)) w.heap.size vs.length (fun k => vs.getD k undef) :=
 ⟨fun k hk => by rw [World.cell?_alloc_new];simp [hk],fun k hk => by rw [World.frozen?_alloc_new]⟩
def dF:HS:={ begun:=false,st:=fun _ => 0,rest:=fun _ => 0,many:=0,taken:=0 }
theorem Arr.dF (w:World) (e:TypeId):Arr (w.alloc (.cells ((List.range 75).map dF.c).toArray e)) w.heap.size 75 Go.Proofs.YtijhemdnajlfnaaGreatDoor.dF.c:=by
 have h:=Arr.ofList w ((List.range 75).map Go.Proofs.YtijhemdnajlfnaaGreatDoor.dF.c) e
 rw [List.length_map,List.length_range] at h
 exact h.congr fun k hk => by simp [hk]
def outC (st:Nat → W32) (n k:Nat):Value:=if k < 4 * n then .int .u8 ((stB st k).toNat:Int) else .int .u8 0
theorem Jp (st:Nat → W32):outC st 0 = fun _ => .int .u8 0:=by funext k;unfold outC;rw [if_neg (by omega)]
theorem Gm (st:Nat → W32) (n i:Nat) (hi:i < 4):((stB st (4 * n + i)).toNat:Int) = wn (st n) / ((2 ^ (24 - 8 * i):Nat):Int) % 256:=by
 unfold stB wn
 rw [Gg,show (4 * n + i) / 4 = n from by omega,show (4 * n + i) % 4 = i from by omega]
 rfl
theorem Jq (st:Nat → W32) (n:Nat) (k:Nat) :
  upd (upd (upd (upd (outC st n) (4 * n) (.int .u8 (wn (st n) / 16777216))) (4 * n + 1) (.int .u8 (wn (st n) / 65536 % 256))) (4 * n + 2) (.int .u8 (wn (st n) / 256 % 256))) (4 * n + 3) (.int .u8 (wn (st n) % 256)) k = outC st (n + 1) k:=by
 have h0:((stB st (4 * n)).toNat:Int) = wn (st n) / 16777216:=by
  have h:((stB st (4 * n)).toNat:Int) = wn (st n) / 16777216 % 256:=Gm st n 0 (by omega)
  have h2:=nO (st n);have h3:=wn_0 (st n)
  omega
 have h1:((stB st (4 * n + 1)).toNat:Int) = wn (st n) / 65536 % 256:=Gm st n 1 (by omega)
 have h2:((stB st (4 * n + 2)).toNat:Int) = wn (st n) / 256 % 256:=Gm st n 2 (by omega)
 have h3:((stB st (4 * n + 3)).toNat:Int) = wn (st n) % 256:=by
  have h:((stB st (4 * n + 3)).toNat:Int) = wn (st n) / 1 % 256:=Gm st n 3 (by omega)
  rw [Int.ediv_one] at h;exact h
 unfold upd outC
 by_cases e3:k = 4 * n + 3
 ·subst e3;rw [if_pos rfl,if_pos (by omega),h3]
 rw [if_neg e3]
 by_cases e2:k = 4 * n + 2
 ·subst e2;rw [if_pos rfl,if_pos (by omega),h2]
 rw [if_neg e2]
 by_cases e1:k = 4 * n + 1
 ·subst e1;rw [if_pos rfl,if_pos (by omega),h1]
 rw [if_neg e1]
 by_cases e0:k = 4 * n
 ·subst e0;rw [if_pos rfl,if_pos (by omega),h0]
 rw [if_neg e0]
 by_cases e:k < 4 * n
 ·rw [if_pos e,if_pos (by omega)]
 rw [if_neg e,if_neg (by omega)]
theorem idx8 (st:Nat → W32) (n:Nat) (hn:n < 8):[Value.int .u32 (wn (st 0)),.int .u32 (wn (st 1)),.int .u32 (wn (st 2)),.int .u32 (wn (st 3)),.int .u32 (wn (st 4)),.int .u32 (wn (st 5)),.int .u32 (wn (st 6)),.int .u32 (wn (st 7))][n]? = some (.int .u32 (wn (st n))):=by
 obtain h | h | h | h | h | h | h | h:n = 0 ∨ n = 1 ∨ n = 2 ∨ n = 3 ∨ n = 4 ∨ n = 5 ∨ n = 6 ∨ n = 7:=by omega
 all_goals subst h;rfl
theorem Mq (b:Nat) (h:HS) (w:World) (hA:Arr w b 75 h.c) (hL:Laid w) (hm:h.many < 64) (ht:0 ≤ h.taken ∧ h.taken ≤ 1000000000) :
  Calls prog 206 #[.pointer (some ⟨b,0,none⟩)] w fun e w' => e = .returned (idV h.sum) ∧ Below w.heap.size w w':=by
 have hbl:b < w.heap.size:=hA.lt (by omega)
 have HA:=ah hA
 have HL:=ah hL
 have HM:=ah hm
 have HT:=ah ht
 clear hA hL hm ht
 have hz:Tryz.zeroCells323 = ((List.range 75).map dF.c).toArray:=by kernel_rfl
 have hR:w.rangeAt b 0 ((List.range 75).map h.c):=HA.out.range
 have hlen:((List.range 75).map h.c).length = 75:=by simp
 have hone:∀ v ∈ (List.range 75).map h.c,v.oneCell' = true:=by
  intro v hv
  obtain ⟨k,_,rfl⟩:=List.mem_map.1 hv
  unfold HS.c
  repeat' split
  all_goals rfl
 have hget:∀ k,k < 75 → ((List.range 75).map h.c).getD k undef = h.c k:=fun k hk => by simp [hk]
 have hi:(prog.info? 323).map (·.size) = some 75:=by kernel_rfl
 generalize (List.range 75).map h.c = vs at hR hlen hone hget
 have hi2:(prog.info? 323).map (·.size) = some vs.length:=by rw [hlen];exact hi
 have hA1:Arr ((w.alloc (.cells (Array.replicate 32 (.int .u8 0)) 24)).alloc (.cells Tryz.zeroCells323 323)) (w.heap.size + 1) 75 dF.c:=by
  rw [hz]
  have:=Arr.dF (w.alloc (.cells (Array.replicate 32 (.int .u8 0)) 24)) 323
  rw [World.size_alloc] at this;exact this
 have hA2:=hA1.Ag vs hlen
 have hA3:=hA2.congr hget
 have hth:=hA1.there
 have HA3:=ah hA3
 have HTH:=ah hth
 have HLN:=ah hlen
 have HON:=ah hone
 clear hA1 hA2 hA3 hth hget hlen hz hone
 go_enter func206,ntmps206
 go_wp2_with (first | (refine wpList_load_mid rfl 323 _ rfl b 0 rfl vs _ (World.rangeAt_alloc (World.rangeAt_alloc hR _) _) underlying323 rfl hi2 ?_) | (refine aj rfl 323 _ _ rfl (w.heap.size + 1) 0 vs ?x1 ?x2 75 HLN.out ?x4 hi HON.out ?_) | fail)
 case x4 => exact HTH.out
 generalize hW:World.setCells _ (w.heap.size + 1) 0 vs = W
 have hbW:Below w.heap.size w W:=by
  rw [← hW];exact below_setCells _ (by omega) vs 0 _ (bal.alloc (by simp) _)
 have hA4:Arr W (w.heap.size + 1) 75 h.c:=by rw [← hW];exact HA3.out
 have hO4:Arr W w.heap.size 32 (fun _ => .int .u8 0):=by
  rw [← hW]
  have h1:=(Arr.new w 32 (.int .u8 0) 24).alloc (by omega) (.cells Tryz.zeroCells323 323)
  exact ⟨fun k hk => by rw [World.cell?_setCells_out (w.heap.size + 1) vs 0 _ ⟨w.heap.size,k,none⟩ (fun hb _ => by simp at hb)];exact h1.cell k hk,fun k hk => by rw [World.frozen?_setCells];exact h1.free k hk⟩
 have hsW:w.heap.size + 1 < W.heap.size:=hA4.lt (by omega)
 have hL4:=HL.out.below hbW
 clear HA3 HTH hi2 hi hR
 have HBW:=ah hbW
 have HO4:=ah hO4
 have h8:5 ≤ w.heap.size + 1:=by have:=HL.out.lt;omega
 clear hbW hO4
 refine (zR (w.heap.size + 1) h W hA4 hL4).mono ?_
 rintro e w1 ⟨rfl,hA5,hg5⟩
 have hL5:=hL4.grown hg5 h8
 have HP:=sV (w.heap.size + 1) h.begin 128 w1 hA5 (by rw [HS.lM];exact HM.out) hL5 h8
 rw [show (((128:UInt8).toNat:Nat):Int) = 128 from rfl] at HP
 have HPP:=ah HP
 have HG5:=ah hg5
 clear hA4 hA5 HP hg5 hL4 hL5 hW
 go_wp2_with fail
 refine HPP.out.mono ?_
 rintro e w2 ⟨rfl,hA6,hg6⟩
 have HG6:=ah (dY HG5.out hg6)
 have hm6:(h.begin.put 128).many < 64:=HS.uR _ _ (by rw [HS.lM];exact HM.out)
 have ht6:(h.begin.put 128).taken = h.taken:=by rw [HS.yJ,HS.sH]
 have HMM:=ah hm6
 have HEN:Hid (h.ended = ((h.begin.put 128).feed (List.replicate (padN (h.begin.put 128).many) 0)).feed (be64 (8 * h.taken.toNat))):=ah rfl
 generalize h.begin.put 128 = g at hA6 hm6 ht6 HMM HEN
 have HTT:=ah ht6
 have HA6:=ah hA6
 clear hA6 hg6 HPP hm6 ht6
 go_wp2
 go_loopw [16] (fun _ wr => ∃ i:Nat,i ≤ padN g.many ∧ Arr wr (w.heap.size + 1) 75 (g.feed (List.replicate i 0)).c ∧ W.grownBy wr (some (w.heap.size + 1))) (fun _ wr => Gu (w.heap.size + 1) wr)
 case atStart => exact ⟨0,Nat.zero_le _,HA6.out,HG6.out⟩
 obtain ⟨wo,rfl⟩:∃ wo:World,wo = wr:=⟨_,rfl⟩
 obtain ⟨i,hi,hAo,hgo⟩:=hrel
 have c1:=hAo.cell 73 (by omega)
 rw [HS.Gb] at c1
 have hmo:=nZ g HMM.out (List.replicate i 0)
 rw [List.length_replicate] at hmo
 generalize hq:g.feed (List.replicate i 0) = q at hAo c1 hmo
 by_cases hne:q.many = 56
 ·have hd:((q.many:Int) != 56) = false:=by rw [bne_eq_false_iff_eq];omega
  have hie:i = padN g.many:=by unfold padN at hi ⊢;have:=HMM.out;omega
  have hA1:=hAo
  rw [hie] at hq
  have HEN2:Hid (h.ended = q.feed (be64 (8 * h.taken.toNat))):=by
   have:=HEN.out;rw [hq] at this;exact this
  have htq:q.taken = h.taken:=by rw [← hq,HS.oK];exact HTT.out
  have hmq:q.many < 64:=by omega
  have HTQ:=ah htq
  have HMQ:=ah hmq
  have HA1:=ah hA1
  have HGO:=ah hgo
  clear hAo hA1 hgo hmo hne hie hi htq hmq HEN hq
  obtain ⟨T,hT⟩:∃ T:Nat,h.taken = T:=⟨h.taken.toNat,by have:=HT.out;omega⟩
  have hT2:T ≤ 1000000000:=by have:=HT.out;omega
  have HTT2:=ah hT
  rw [hT,Int.toNat_natCast] at HEN2
  clear hT
  go_wp2
  go_loopw [4] (fun i wr => ∃ k:Nat,k ≤ 8 ∧ i = .int .i64 (56 - 8 * (k:Int)) ∧ Arr wr (w.heap.size + 1) 75 (q.feed ((be64 (8 * T)).take k)).c ∧ W.grownBy wr (some (w.heap.size + 1))) (fun i _ => (intOf i + 8).toNat)
  case atStart => exact ⟨0,by omega,rfl,HA1.out,HGO.out⟩
  obtain ⟨wi,rfl⟩:∃ wi:World,wi = wr:=⟨_,rfl⟩
  obtain ⟨k,hk,rfl,hAi,hgi⟩:=hrel
  by_cases hk8:k < 8
  ·obtain ⟨j,hj⟩:∃ j:Nat,(56 - 8 * (k:Int)) = (j:Int):=⟨(56 - 8 * (k:Int)).toNat,by omega⟩
   have hjk:j = 56 - 8 * k:=by omega
   rw [hj]
   have c1:=hAi.cell 74 (by omega)
   rw [HS.G9,HS.oK,HTQ.out,HTT2.out] at c1
   have HP:=sV (w.heap.size + 1) _ (be8 (8 * T) k) wi hAi (HS.nI _ _ HMQ.out) ((HL.out.below HBW.out).grown hgi h8) h8
   have hb8:(((be8 (8 * T) k).toNat:Nat):Int) = 8 * (T:Int) / 2 ^ j % 256:=by
    unfold be8;rw [Gg,← hjk];push_cast;rfl
   rw [hb8] at HP
   have HPP:=ah HP
   have HGI:=ah hgi
   have HTK:=ah (Kk (8 * T) k hk8)
   have HJ:=ah hj
   have j0:(0:Int) ≤ j:=by omega
   have j1:(j:Int) ≤ 56:=by omega
   have t0:(0:Int) ≤ T:=by omega
   have t1:(T:Int) ≤ 1000000000:=by omega
   clear HP hgi hAi hb8 hj hjk
   go_wp2_with fail
   refine HPP.out.mono ?_
   rintro e w3 ⟨rfl,hA7,hg7⟩
   have HA7:=ah hA7
   have HG7:=ah (dY HGI.out hg7)
   clear hA7 hg7 c1
   go_wp2
   go_roundw
   case rel =>
    have h1:=HJ.out
    exact ⟨k + 1,by omega,vi64 (by push_cast;omega),by rw [HTK.out,mQ];exact HA7.out,HG7.out⟩
   case measure => have h1:=HJ.out;simp [intOf];omega
  obtain rfl:k = 8:=by omega
  have hf:(be64 (8 * T)).take 8 = be64 (8 * T):=List.take_of_length_le (by simp [be64])
  rw [hf,← HEN2.out] at hAi
  have cs:=fun k (hk:k < 8) => (hAi.cell (1 + k) (by omega)).trans (by rw [HS.c_st _ _ hk])
  have c0:=cs 0 (by omega)
  have c1:=cs 1 (by omega)
  have c2:=cs 2 (by omega)
  have c3:=cs 3 (by omega)
  have c4:=cs 4 (by omega)
  have c5:=cs 5 (by omega)
  have c6:=cs 6 (by omega)
  have c7:=cs 7 (by omega)
  simp only [Nat.reduceAdd] at c0 c1 c2 c3 c4 c5 c6 c7
  clear cs
  have hsi:W.heap.size ≤ wi.heap.size:=hgi.size
  have hO:Arr wi w.heap.size 32 (fun _ => .int .u8 0):=⟨fun k hk => hgi.cell (HO4.out.cell k hk) (by simp),fun k hk => by
   rw [World.frozen?_of_block (w:=W) (a:=⟨w.heap.size,k,none⟩) (hgi.block w.heap.size (by omega) (by simp))];exact HO4.out.free k hk⟩
  have hbi:Below w.heap.size w wi:=(HBW.out).grown hgi (by omega) (fun k hk => by cases hk;omega)
  have hlt:w.heap.size + 1 < wi.heap.size:=by omega
  have HO:=ah hO
  have HBI:=ah hbi
  clear hO hbi hgi hAi hf HEN2
  generalize hst:h.ended.st = st at c0 c1 c2 c3 c4 c5 c6 c7
  have HST:=ah hst
  have hO2:Arr (wi.alloc (.cells (Array.replicate 32 (.int .u8 0)) 24)) wi.heap.size 32 (outC st 0):=by rw [Jp];exact Arr.new wi 32 _ _
  have HO2:=ah hO2
  clear hst hO2
  go_wp2
  go_loopw [32] (fun i wr => ∃ n:Nat,n ≤ 8 ∧ i = .int .i64 n ∧ Arr wr wi.heap.size 32 (outC st n) ∧ Below wi.heap.size wi wr) (fun i _ => (8 - intOf i).toNat)
  case atStart => exact ⟨0,by omega,rfl,HO2.out,bal⟩
  obtain ⟨wj,rfl⟩:∃ wj:World,wj = wr:=⟨_,rfl⟩
  obtain ⟨n,hn,rfl,hAj,hbj⟩:=hrel
  clear c0 c1 c2 c3 c4 c5 c6 c7
  by_cases hn8:n < 8
  ·have hix:=fun w => mq 238 237 8 underlying238 (fun _ => by kernel_rfl) (fun _ => by kernel_rfl) _ w n hn8 _ (idx8 st n hn8)
   have c0:=hAj.cell (4 * n) (by omega)
   have c1:=hAj.cell (4 * n + 1) (by omega)
   have c2:=hAj.cell (4 * n + 2) (by omega)
   have c3:=hAj.cell (4 * n + 3) (by omega)
   have f0:=hAj.free (4 * n) (by omega)
   have f1:=hAj.free (4 * n + 1) (by omega)
   have f2:=hAj.free (4 * n + 2) (by omega)
   have f3:=hAj.free (4 * n + 3) (by omega)
   have n0:(0:Int) ≤ n:=by omega
   have n1:(n:Int) < 8:=by omega
   have hd3:decide ((n:Int) < 8) = true:=decide_eq_true (by omega)
   have x0:=wn_0 (st n)
   have x1:=nO (st n)
   have HAJ:=ah hAj
   have HBJ:=ah hbj
   clear hAj hbj
   go_wp2
   go_roundw
   case rel =>
    refine ⟨n + 1,by omega,by go_num,?_,(((HBJ.out.setCell (Nat.le_refl _) _).setCell (Nat.le_refl _) _).setCell (Nat.le_refl _) _).setCell (Nat.le_refl _) _⟩
    exact ((((HAJ.out.set (4 * n) (by omega) _).set (4 * n + 1) (by omega) _).set (4 * n + 2) (by omega) _).set (4 * n + 3) (by omega) _).congr fun k _ => Jq st n k
   case measure => simp [intOf];omega
  obtain rfl:n = 8:=by omega
  have hr:=hAj.range
  have e8:(List.range 32).map (outC st 8) = ((List.range 32).map (stB st)).map fun b => Value.int .u8 (b.toNat:Int):=by
   rw [List.map_map]
   refine List.map_congr_left fun k hk => ?_
   have:=List.mem_range.1 hk
   show outC st 8 k = _
   unfold outC;rw [if_pos (by omega)];rfl
  rw [e8] at hr
  have hO5:Arr wj w.heap.size 32 (fun _ => .int .u8 0):=HO.out.below hbj (by omega)
  have hlen:(((List.range 32).map (stB st)).map fun b => Value.int .u8 (b.toNat:Int)).length = 32:=by simp
  have hone:∀ v ∈ ((List.range 32).map (stB st)).map (fun b => Value.int .u8 (b.toNat:Int)),v.oneCell' = true:=by
   intro v hv;obtain ⟨x,_,rfl⟩:=List.mem_map.1 hv;rfl
  have hfin:idV h.sum = .agg (((List.range 32).map (stB st)).map fun b => Value.int .u8 (b.toNat:Int)).toArray:=by unfold idV HS.sum;rw [HST.out]
  have HF:=ah hfin
  generalize ((List.range 32).map (stB st)).map (fun b => Value.int .u8 (b.toNat:Int)) = us at hr hlen hone HF
  have h32:(prog.info? 24).map (·.size) = some 32:=by kernel_rfl
  have h32u:(prog.info? 24).map (·.size) = some us.length:=by rw [hlen];exact h32
  have hth:=hO5.there
  have hfr:=World.rangeAt_setCells_same wj w.heap.size 0 us (by rw [hlen];exact hth)
  have HFR:=ah hfr
  have HTH:=ah hth
  have HLN:=ah hlen
  have HON:=ah hone
  have hbf:Below w.heap.size w (wj.setCells w.heap.size 0 us):=below_setCells _ (Nat.le_refl _) us 0 _ (HBI.out.trans (hbj.mono HBI.out.size))
  have HBF:=ah hbf
  clear hAj hbj e8 hfin hth hlen hone hfr hbf hO5
  go_wp2_with (first | (refine wpList_load_mid rfl 24 _ rfl wi.heap.size 0 rfl us _ hr underlying24 rfl h32u ?_) | (refine aj rfl 24 _ _ rfl w.heap.size 0 us ?y1 ?y2 32 HLN.out ?y4 h32 HON.out ?_))
  case y4 => exact HTH.out
  go_wp2
  refine gU rfl w.heap.size 0 rfl us _ HFR.out underlying24 rfl h32u rfl ⟨by rw [HF.out],HBF.out⟩
 have hd:((q.many:Int) != 56) = true:=by rw [bne_iff_ne];omega
 have HP:=sV (w.heap.size + 1) q 0 wo hAo (by omega) ((HL.out.below HBW.out).grown hgo h8) h8
 rw [show (((0:UInt8).toNat:Nat):Int) = 0 from rfl] at HP
 have HPP:=ah HP
 have HGO:=ah hgo
 have HQ:=ah hq
 have HMQ:=ah hmo
 have HNE:=ah hne
 have HC1:=ah c1
 clear HP hgo hAo hq hmo hne
 go_wp2_with fail
 refine HPP.out.mono ?_
 rintro e w3 ⟨rfl,hA7,hg7⟩
 have HA7:=ah hA7
 have HG7:=ah (dY HGO.out hg7)
 clear hA7 hg7 c1
 go_wp2
 go_roundw
 case rel =>
  refine ⟨i + 1,?_,?_,HG7.out⟩
  ·have h1:=HMQ.out;have h2:=HNE.out;have h3:=HMM.out
   unfold padN at hi ⊢;omega
  rw [List.replicate_succ',mQ,HQ.out];exact HA7.out
 have c2:=HA7.out.cell 73 (by omega)
 have h1:=HMQ.out;have h2:=HNE.out
 rw [HS.Gb,kY _ _ (by omega)] at c2
 unfold Gu padN
 rw [HC1.out,c2]
 dsimp only
 rw [Int.toNat_natCast,Int.toNat_natCast]
 omega
def shaP (s:ByteArray):List UInt8:=(dF.w1 s 1).sum
theorem Nn (h:HS):h.sum.length = 32:=by simp [HS.sum]
theorem Df (x:List UInt8):(x.map fun b => Value.int .u8 (b.toNat:Int)).length = x.length:=by simp
theorem MP (p q cap:Nat) (s:ByteArray) (w:World) (hs:w.cell? ⟨p,q,none⟩ = some (.string s)) (hL:Laid w) (hz:s.size ≤ 1000000000) :
  Calls prog 153 #[.slice (some ⟨p,q,none⟩) 1 cap] w fun e w' => e = .returned (idV (shaP s)) ∧ Below w.heap.size w w':=by
 have hpl:p < w.heap.size:=World.block_lt_of_cell? w _ hs
 have hzc:Tryz.zeroCells323 = ((List.range 75).map dF.c).toArray:=by kernel_rfl
 have hb1:Below w.heap.size w ((w.alloc (.cells (Array.replicate 32 (.int .u8 0)) 24)).alloc (.cells Tryz.zeroCells323 323)):=bal.alloc (by simp) _
 have hA1:Arr ((w.alloc (.cells (Array.replicate 32 (.int .u8 0)) 24)).alloc (.cells Tryz.zeroCells323 323)) (w.heap.size + 1) 75 dF.c:=by
  rw [hzc]
  have:=Arr.dF (w.alloc (.cells (Array.replicate 32 (.int .u8 0)) 24)) 323
  rw [World.size_alloc] at this;exact this
 have hO1:=(Arr.new w 32 (.int .u8 0) 24).alloc (by omega) (.cells Tryz.zeroCells323 323)
 clear hzc
 go_enter func153,ntmps153
 go_wp2_with fail
 generalize hW:(w.alloc _).alloc _ = W
 have hb2:Below w.heap.size w W:=by rw [← hW];exact hb1
 have hA2:Arr W (w.heap.size + 1) 75 dF.c:=by rw [← hW];exact hA1
 have hO2:Arr W w.heap.size 32 (fun _ => .int .u8 0):=by rw [← hW];exact hO1
 have hL2:=hL.below hb2
 have h8:=hL.lt
 have hsz:w.heap.size + 1 < W.heap.size:=hA2.lt (by omega)
 have hs2:=ak hs hb2 hpl
 have HW1:=Hz (w.heap.size + 1) p q cap dF s W hA2 hL2 (by omega) hs2 (by omega) rfl (by show 0 < 64;omega) hz
 have HB2:=ah hb2
 have HO2:=ah hO2
 have HL2:=ah hL2
 clear hb1 hA1 hO1 hW hb2 hA2 hO2 hL2 hs hs2
 refine HW1.mono ?_
 rintro e w1 ⟨rfl,hA3,hg3⟩
 have hm3:(dF.w1 s 1).many < 64:=by
  unfold HS.w1;rw [if_neg (by omega)]
  exact HS.nI _ _ (by rw [HS.lM];show 0 < 64;omega)
 have ht3:(dF.w1 s 1).taken = (s.size:Int):=rfl
 have hS:=Mq (w.heap.size + 1) (dF.w1 s 1) w1 hA3 (HL2.out.grown hg3 (by omega)) hm3 (by rw [ht3];omega)
 have HSS:=ah hS
 have hO3:Arr w1 w.heap.size 32 (fun _ => .int .u8 0):=⟨fun k hk => hg3.cell (HO2.out.cell k hk) (by simp),fun k hk => by
  rw [World.frozen?_of_block (w:=W) (a:=⟨w.heap.size,k,none⟩) (hg3.block w.heap.size (by omega) (by simp))];exact HO2.out.free k hk⟩
 have hb3:Below w.heap.size w w1:=(HB2.out).grown hg3 (by omega) (fun k hk => by cases hk;omega)
 have hsz1:w.heap.size < w1.heap.size:=hO3.lt (by omega)
 have HO3:=ah hO3
 have HB3:=ah hb3
 clear hA3 hg3 hS hO3 hb3 hm3 ht3 HW1 HB2 HO2 HL2
 go_wp2_with fail
 refine HSS.out.mono ?_
 rintro e w2 ⟨rfl,hb4⟩
 have hlen:((shaP s).map fun b => Value.int .u8 (b.toNat:Int)).length = 32:=by rw [Df];exact Nn _
 have hone:∀ v ∈ (shaP s).map (fun b => Value.int .u8 (b.toNat:Int)),v.oneCell' = true:=by
  intro v hv;obtain ⟨x,_,rfl⟩:=List.mem_map.1 hv;rfl
 have HF:Hid (idV (shaP s) = .agg ((shaP s).map fun b => Value.int .u8 (b.toNat:Int)).toArray):=ah rfl
 have hV:idV (HS.sum (dF.w1 s 1)) = .agg ((shaP s).map fun b => Value.int .u8 (b.toNat:Int)).toArray:=rfl
 rw [hV]
 have hth:=(HO3.out.below hb4 hsz1).there
 generalize (shaP s).map (fun b => Value.int .u8 (b.toNat:Int)) = us at hlen hone HF
 have h32:(prog.info? 24).map (·.size) = some 32:=by kernel_rfl
 have h32u:(prog.info? 24).map (·.size) = some us.length:=by rw [hlen];exact h32
 have HFR:=ah (World.rangeAt_setCells_same w2 w.heap.size 0 us (by rw [hlen];exact hth))
 have HTH:=ah hth
 have HLN:=ah hlen
 have HON:=ah hone
 have HBF:=ah (below_setCells (B:=w.heap.size) (a:=w) w.heap.size (Nat.le_refl _) us 0 w2 (HB3.out.trans (hb4.mono HB3.out.size)))
 clear hth hlen hone hb4 hV
 go_wp2_with (refine aj rfl 24 _ _ rfl w.heap.size 0 us ?y1 ?y2 32 HLN.out ?y4 h32 HON.out ?_)
 case y1 => rfl
 case y2 => rfl
 case y4 => exact HTH.out
 simp only [Act.put]
 refine gU rfl w.heap.size 0 rfl us _ HFR.out underlying24 rfl h32u rfl ⟨by rw [HF.out],HBF.out⟩
def lenL (l:List UInt8):List UInt8:=l ++ (128 :: List.replicate (padN ((l.length + 1) % 64)) 0) ++ be64 (8 * l.length)
def ofB (l:List UInt8):ByteArray:=⟨l.toArray⟩
theorem aW (l:List UInt8):(ofB l).data.toList = l:=by simp [ofB]
theorem aM (l:List UInt8):(ofB l).size = l.length:=by simp [ofB,ByteArray.size]
theorem ba_eq {p q:ByteArray} (h:p.data.toList = q.data.toList):p = q:=by
 cases p;cases q;simp at h;rw [h]
theorem nM (p q:ByteArray):(p ++ q).data.toList = p.data.toList ++ q.data.toList:=by simp
def endC (T n k:Nat):Value:=if 8 ≤ k + n then .int .u8 ((be8 T k).toNat:Int) else .int .u8 0
theorem J6 (T n k:Nat) (hn:n < 8) (hk:k < 8):upd (endC T n) (7 - n) (.int .u8 ((T / 2 ^ (8 * n):Nat) % 256:Int)) k = endC T (n + 1) k:=by
 unfold upd endC
 by_cases e:k = 7 - n
 ·subst e
  rw [if_pos rfl,if_pos (by omega)]
  unfold be8
  rw [Gg,show 56 - 8 * (7 - n) = 8 * n from by omega]
 rw [if_neg e]
 by_cases h:8 ≤ k + n
 ·rw [if_pos h,if_pos (by omega)]
 rw [if_neg h,if_neg (by omega)]
theorem vI (s:ByteArray) (w:World) (hz:s.size ≤ 1000000000) :
  Calls prog 131 #[.string s] w fun e w' => e = .returned (.string (ofB (lenL s.data.toList))) ∧ Below w.heap.size w w':=by
 have hsz:s.data.toList.length = s.size:=by simp
 have HSZ:=ah hsz
 clear hsz
 go_enter func131,ntmps131
 go_wp2
 go_loopw [3] (fun v wr => ∃ (i:Nat) (o:ByteArray),i ≤ padN ((s.size + 1) % 64) ∧ v = .string o ∧ o.size = s.size + 1 + i ∧ Hid (o.data.toList = s.data.toList ++ (128 :: List.replicate i 0)) ∧ wr = w) (fun v _ => match v with | .string o => 1000000100 - o.size | _ => 0)
 case atStart => exact ⟨0,_,Nat.zero_le _,rfl,by simp;rfl,by unfold Hid;simp,rfl⟩
 obtain ⟨wo,rfl⟩:∃ wo:World,wo = wr:=⟨_,rfl⟩
 obtain ⟨i,o,hi,rfl,hos,hol,rfl⟩:=hrel
 have HOS:=ah hos
 have HP:Hid (padN ((s.size + 1) % 64) = (120 - (s.size + 1) % 64) % 64):=ah rfl
 have hb1:o.size ≤ 1000000070:=by unfold padN at hi;omega
 by_cases hne:o.size % 64 = 56
 ·have hd:((o.size:Int) % 64 != 56) = false:=by rw [bne_eq_false_iff_eq];omega
  have hie:i = padN ((s.size + 1) % 64):=by unfold padN at hi ⊢;omega
  have HL:=ah hol.out
  rw [hie] at HL
  have hE0:Arr (wo.alloc (.cells (Array.replicate 8 (.int .u8 0)) 305)) wo.heap.size 8 (endC (8 * s.size) 0):=by
   have h:endC (8 * s.size) 0 = fun k => if 8 ≤ k then .int .u8 ((be8 (8 * s.size) k).toNat:Int) else .int .u8 0:=rfl
   exact (Arr.new wo 8 (.int .u8 0) _).congr fun k hk => by rw [h];dsimp only;rw [if_neg (by omega)]
  have HE0:=ah hE0
  clear hos hol hi hie hE0 hne
  generalize hT:8 * s.size = T at HE0
  have HT:=ah hT
  have hTb:T ≤ 8000000000:=by omega
  clear hT
  go_wp2
  go_loopw [4,6] (fun v i wr2 => ∃ n:Nat,n ≤ 8 ∧ i = .int .i64 n ∧ v = .int .u64 ((T / 2 ^ (8 * n):Nat):Int) ∧ Arr wr2 wo.heap.size 8 (endC T n) ∧ Below wo.heap.size wo wr2) (fun _ i _ => (8 - intOf i).toNat)
  case atStart => exact ⟨0,by omega,rfl,by rw [← HT.out,Nat.mul_zero,Nat.pow_zero,Nat.div_one];congr 1;omega,HE0.out,bal⟩
  obtain ⟨wi,rfl⟩:∃ wi:World,wi = wr:=⟨_,rfl⟩
  obtain ⟨n,hn,rfl,rfl,hAi,hbi⟩:=hrel
  by_cases hn8:n < 8
  ·have c1:=hAi.cell (7 - n) (by omega)
   have f1:=hAi.free (7 - n) (by omega)
   have ec:endC T n (7 - n) = .int .u8 0:=by unfold endC;rw [if_neg (by omega)]
   rw [ec] at c1
   have hd3:decide ((n:Int) < 8) = true:=decide_eq_true (by omega)
   have n0:(0:Int) ≤ n:=by omega
   have n1:(n:Int) < 8:=by omega
   have n2:(n:Int) ≤ 7:=by omega
   have n3:((7:Int) - n).toNat = 7 - n:=by omega
   have HN:=ah (hAi.set (7 - n) (by omega) (.int .u8 (((T / 2 ^ (8 * n):Nat):Int) % 256)))
   have HBI:=ah hbi
   have hX:(T / 2 ^ (8 * n)) ≤ 8000000000:=Nat.le_trans (Nat.div_le_self _ _) hTb
   have hXn:T / 2 ^ (8 * (n + 1)) = T / 2 ^ (8 * n) / 256:=by
    rw [Nat.div_div_eq_div_mul,show 8 * (n + 1) = 8 * n + 8 from by omega,Nat.pow_add]
   have HXN:=ah hXn
   have HEN:=ah (fun k (hk:k < 8) => J6 T n k hn8 hk)
   generalize T / 2 ^ (8 * n) = X at hX HXN HN HEN
   clear hAi hbi ec hXn
   go_wp2
   go_roundw
   case rel =>
    refine ⟨n + 1,by omega,by go_num,?_,?_,HBI.out.setCell (Nat.le_refl _) _⟩
    ·rw [HXN.out];rfl
    exact HN.out.congr HEN.out
   case measure => simp [intOf];omega
  obtain rfl:n = 8:=by omega
  have hcell:∀ j (hj:j < (be64 T).length),wi.cell? ((⟨wo.heap.size,0,none⟩:Addr).add j) = some (.int .u8 ((be64 T)[j].toNat:Int)):=fun j hj => by
   have h8:j < 8:=by simpa [be64] using hj
   rw [Addr.add_mid,Nat.zero_add,hAi.cell j h8]
   unfold endC
   rw [if_pos (by omega)]
   simp [be64]
  have hcv:=run_convert_bytes_back (P:=prog) wi 221 9 5 ⟨wo.heap.size,0,none⟩ 8 (be64 T) underlying221 underlying5 underlying9 hcell
  rw [show (be64 T).length = 8 from by simp [be64]] at hcv
  have HBI:=ah hbi
  have HB64:Hid ((⟨(be64 T).toArray⟩:ByteArray).data.toList = be64 T):=by unfold Hid;simp
  have hqs:(⟨(be64 T).toArray⟩:ByteArray).size ≤ 8:=by show (be64 T).toArray.size ≤ 8;simp [be64]
  generalize (⟨(be64 T).toArray⟩:ByteArray) = q at hcv HB64 hqs
  clear hcell hAi hbi
  generalize T / 2 ^ (8 * 8) = X
  go_wp2
  go_ret
  refine ⟨?_,HBI.out⟩
  have e:o ++ q = ofB (lenL s.data.toList):=by
   apply ba_eq
   rw [nM,aW,HL.out,HB64.out]
   unfold lenL
   rw [HSZ.out,HT.out]
  rw [← e]
  rfl
 have hd:((o.size:Int) % 64 != 56) = true:=by rw [bne_iff_ne];omega
 clear hos
 go_wp2
 go_roundw
 case rel =>
  refine ⟨i + 1,_,?_,rfl,?_,?_,trivial⟩
  ·have h:=HOS.out;have h2:=HP.out;omega
  ·have h:=HOS.out;have e:(⟨#[0]⟩:ByteArray).size = 1:=rfl
   rw [ByteArray.size_append,e];omega
  unfold Hid;rw [nM,hol.out,List.append_assoc];simp [List.replicate_succ']
 have e:(⟨#[0]⟩:ByteArray).size = 1:=rfl
 dsimp only
 rw [ByteArray.size_append,e];omega
theorem Pf (x y z:W32):(x &&& y ||| ~~~x &&& z) = (x &&& y ^^^ ~~~x &&& z):=by
 apply BitVec.eq_of_getLsbD_eq;intro i hi
 simp only [BitVec.getLsbD_or,BitVec.getLsbD_and,BitVec.getLsbD_xor,BitVec.getLsbD_not,hi,decide_true,Bool.true_and]
 cases x.getLsbD i <;> cases y.getLsbD i <;> cases z.getLsbD i <;> rfl
theorem OT (x y z:W32):(x &&& y ||| x &&& z ||| y &&& z) = (x &&& y ^^^ x &&& z ^^^ y &&& z):=by
 apply BitVec.eq_of_getLsbD_eq;intro i hi
 simp only [BitVec.getLsbD_or,BitVec.getLsbD_and,BitVec.getLsbD_xor]
 cases x.getLsbD i <;> cases y.getLsbD i <;> cases z.getLsbD i <;> rfl
theorem pQ (x:W32) (b:UInt8) (hx:wn x < 16777216):wn (x <<< 8 ||| bw b) = wn x * 256 + wn (bw b):=by
 have hb:(bw b).toNat < 256:=by have:=og b;unfold wn at this;omega
 have hx':x.toNat < 16777216:=by unfold wn at hx;omega
 unfold wn
 rw [BitVec.toNat_or,BitVec.toNat_shiftLeft,Nat.shiftLeft_eq,Nat.mod_eq_of_lt (by omega),← Nat.shiftLeft_eq,← Nat.shiftLeft_add_eq_or_of_lt (by simpa using hb),Nat.shiftLeft_eq,show (2:Nat) ^ 8 = 256 from rfl]
 omega
theorem Kq (r:Nat → UInt8) (k:Nat):wn (bw (r (4 * k))) * 16777216 + wn (bw (r (4 * k + 1))) * 65536 + wn (bw (r (4 * k + 2))) * 256 + wn (bw (r (4 * k + 3))) = wn (d9 r k 4):=by
 have e0:wn (d9 r k 0) = 0:=rfl
 have b0:=og (r (4 * k));have b1:=og (r (4 * k + 1));have b2:=og (r (4 * k + 2));have b3:=og (r (4 * k + 3))
 have e1:wn (d9 r k 1) = wn (bw (r (4 * k))):=by
  show wn (d9 r k 0 <<< 8 ||| bw (r (4 * k + 0))) = _
  rw [pQ _ _ (by omega),e0];simp
 have e2:wn (d9 r k 2) = wn (bw (r (4 * k))) * 256 + wn (bw (r (4 * k + 1))):=by
  show wn (d9 r k 1 <<< 8 ||| bw (r (4 * k + 1))) = _
  rw [pQ _ _ (by omega),e1]
 have e3:wn (d9 r k 3) = (wn (bw (r (4 * k))) * 256 + wn (bw (r (4 * k + 1)))) * 256 + wn (bw (r (4 * k + 2))):=by
  show wn (d9 r k 2 <<< 8 ||| bw (r (4 * k + 2))) = _
  rw [pQ _ _ (by omega),e2]
 show _ = wn (d9 r k 3 <<< 8 ||| bw (r (4 * k + 3)))
 rw [pQ _ _ (by omega),e3];omega
theorem Et (w:World):Calls prog 193 #[] w fun e w' => e = .returned (.agg kV.toArray) ∧ Below w.heap.size w w':=by
 have h64:(prog.info? 306).map (·.size) = some 64:=by kernel_rfl
 have hA:=Arr.new w 64 (.int .u32 0) 306
 have hone:∀ v ∈ kV,v.oneCell' = true:=by
  intro v hv;obtain ⟨x,_,rfl⟩:=List.mem_map.1 hv;rfl
 have hfr:=World.rangeAt_setCells_same _ w.heap.size 0 kV (by rw [qX];exact hA.there)
 have hi:(prog.info? 306).map (·.size) = some kV.length:=by rw [qX];exact h64
 have hb:=below_setCells (B:=w.heap.size) (a:=w) w.heap.size (Nat.le_refl _) kV 0 _ ((Below.refl _ _).alloc (Nat.le_refl _) (.cells (Array.replicate 64 (.int .u32 0)) 306))
 have HTH:=ah hA.there
 have HON:=ah hone
 have HFR:=ah hfr
 have HB:=ah hb
 clear hA hone hfr hb
 go_enter func193,ntmps193
 go_wp2_with (refine aj rfl 306 _ _ rfl w.heap.size 0 kV ?y1 ?y2 64 qX ?y4 h64 HON.out ?_)
 case y1 => rfl
 case y2 => kernel_rfl
 case y4 => exact HTH.out
 simp only [Act.put]
 refine gU rfl w.heap.size 0 rfl kV _ HFR.out underlying306 rfl hi rfl ⟨rfl,HB.out⟩
structure Rd where
 s:ByteArray
 pos:Nat
 err:Nat
def Rd.c (r:Rd) (k:Nat):Value:=if k = 0 then .string r.s else if k = 1 then .int .i64 (r.pos:Int) else .int .i64 (r.err:Int)
structure Rd.fine (r:Rd):Prop where
 pos:r.pos ≤ r.s.size
 size:r.s.size ≤ 1000000
 err:r.err ≤ 100
def Rd.raw (r:Rd) (n:Nat):Rd × ByteArray :=
 if r.err ≠ 0 then (r,ByteArray.empty) else if r.s.size - r.pos < n then ({ r with err:=3 },ByteArray.empty) else ({ r with pos:=r.pos + n },r.s.extract r.pos (r.pos + n))
theorem Rd.jE (r:Rd) (n:Nat) (h:r.fine):(r.raw n).1.fine:=by
 unfold Rd.raw
 split
 ·exact h
 split
 ·exact ⟨h.pos,h.size,by show 3 ≤ 100;omega⟩
 exact ⟨by show r.pos + n ≤ r.s.size;have:=h.pos;omega,h.size,h.err⟩
theorem Rd.jh (r:Rd) (e:Nat):∀ k,k < 3 → upd r.c 2 (.int .i64 (e:Int)) k = Rd.c { r with err:=e } k:=by
 intro k hk;unfold upd Rd.c
 obtain h | h | h:k = 0 ∨ k = 1 ∨ k = 2:=by omega
 all_goals subst h;rfl
theorem Rd.fO (r:Rd) (p:Nat):∀ k,k < 3 → upd r.c 1 (.int .i64 (p:Int)) k = Rd.c { r with pos:=p } k:=by
 intro k hk;unfold upd Rd.c
 obtain h | h | h:k = 0 ∨ k = 1 ∨ k = 2:=by omega
 all_goals subst h;rfl
theorem iM (o:ByteArray) (m n:Nat) (h:m + n ≤ o.size) (w:World):(Instr.slice 9 (.string o) (some (.int .i64 (m:Int))) (some (.int .i64 ((m:Int) + n))) none).run prog w = .ok (.string (o.extract m (m + n))) w:=by
 have h3:(m:Int) + n ≤ o.size:=by omega
 have h4:((m:Int) + n).toNat = m + n:=by omega
 have h5:(0:Int) ≤ (m:Int) + n:=by omega
 simp [Instr.slice,run_underlying underlying9,Instr.sliceBounds,Instr.sliceBound,asIntOf,h3,h4,h5]
theorem uH (b:Nat) (r:Rd) (n:Nat) (w:World) (hA:Arr w b 3 r.c) (hf:r.fine) (hn:n ≤ 1000000000) :
  Calls prog 186 #[.pointer (some ⟨b,0,none⟩),.int .i64 (n:Int)] w fun e w' => e = .returned (.string (r.raw n).2) ∧ Arr w' b 3 (r.raw n).1.c ∧ w.grownBy w' (some b):=by
 have hbl:b < w.heap.size:=hA.lt (by omega)
 have c0:w.cell? ⟨b,0,none⟩ = some (.string r.s):=hA.cell 0 (by omega)
 have c1:w.cell? ⟨b,1,none⟩ = some (.int .i64 (r.pos:Int)):=hA.cell 1 (by omega)
 have c2:w.cell? ⟨b,2,none⟩ = some (.int .i64 (r.err:Int)):=hA.cell 2 (by omega)
 have f1:=hA.free 1 (by omega)
 have f2:=hA.free 2 (by omega)
 have hp:=hf.pos
 have hs:=hf.size
 have he:=hf.err
 have hn0:decide ((n:Int) < 0) = false:=decide_eq_false (by omega)
 have HA:=ah hA
 clear hA
 by_cases h0:r.err = 0
 ·have h0':((r.err:Int) != 0) = false:=by rw [bne_eq_false_iff_eq];omega
  by_cases hlt:r.s.size - r.pos < n
  ·have HR:Hid (r.raw n = ({ r with err:=3 },ByteArray.empty)):=by unfold Hid Rd.raw;rw [if_neg (by simp [h0]),if_pos hlt]
   have hd:decide ((r.s.size:Int) - r.pos < n) = true:=decide_eq_true (by omega)
   have hw:IntKind.i64.wrap ((r.s.size:Int) - r.pos) = (r.s.size:Int) - r.pos:=IntWalk.i64_in _ (by omega)
   have H0:=ah h0
   clear h0 hlt hf
   go_enter func186,ntmps186
   go_wp2
   refine wbq ?_
   have LQ0:=blq c0
   have LQ1:=blq c1
   repeat (go_big_quiet_step (fail))
   refine wpQuiet_nil ?_
   intro wq hbq
   clear LQ0 LQ1
   have g2:=ak c2 hbq hbl
   have k2:wq.frozen? ⟨b,2,none⟩ = false:=by rw [hbq.frozen (p:=⟨b,2,none⟩) hbl];exact f2
   clear c0 c1 c2 f1 f2
   go_wp2
   go_ret
   rw [HR.out]
   exact ⟨rfl,((HA.out.below hbq hbl).set 2 (by omega) (.int .i64 ((3:Nat):Int))).congr (Rd.jh r 3),aI (aA hbq _) _⟩
  have HR:Hid (r.raw n = ({ r with pos:=r.pos + n },r.s.extract r.pos (r.pos + n))):=by unfold Hid Rd.raw;rw [if_neg (by simp [h0]),if_neg hlt]
  have hd:decide ((r.s.size:Int) - r.pos < n) = false:=decide_eq_false (by omega)
  have hw:IntKind.i64.wrap ((r.s.size:Int) - r.pos) = (r.s.size:Int) - r.pos:=IntWalk.i64_in _ (by omega)
  have hw2:IntKind.i64.wrap ((r.pos:Int) + n) = (r.pos:Int) + n:=IntWalk.i64_in _ (by omega)
  have HSL:=fun w => iM r.s r.pos n (by omega) w
  have H0:=ah h0
  clear h0 hlt hf
  go_enter func186,ntmps186
  go_wp2
  refine wbq ?_
  have LQ0:=blq c0
  have LQ1:=blq c1
  repeat (go_big_quiet_step (fail))
  refine wpQuiet_nil ?_
  intro wq hbq
  clear LQ0 LQ1
  obtain ⟨wa,rfl⟩:∃ wa:World,wa = wq:=⟨_,rfl⟩
  have hb1:=hbq
  clear hbq
  have d0:=ak c0 hb1 hbl
  have d1:=ak c1 hb1 hbl
  have hbl2:b < wa.heap.size:=by have:=hb1.size;omega
  go_wp2
  refine wbq ?_
  have LQ0:=blq d0
  have LQ1:=blq d1
  repeat (go_big_quiet_step (fail))
  refine wpQuiet_nil ?_
  intro wq hbq
  clear LQ0 LQ1
  have hb2:=hb1.trans (hbq.mono hb1.size)
  have g1:=ak c1 hb2 hbl
  have k1:wq.frozen? ⟨b,1,none⟩ = false:=by rw [hb2.frozen (p:=⟨b,1,none⟩) hbl];exact f1
  have HB2:=ah hb2
  clear c0 c1 c2 f1 f2 d0 d1 hb1 hb2 hbq HSL
  go_wp2
  go_ret
  rw [HR.out]
  exact ⟨rfl,((HA.out.below HB2.out hbl).set 1 (by omega) (.int .i64 ((r.pos + n:Nat):Int))).congr (Rd.fO r _),aI (aA HB2.out _) _⟩
 have h0':((r.err:Int) != 0) = true:=by rw [bne_iff_ne];omega
 have HR:Hid (r.raw n = (r,ByteArray.empty)):=by unfold Hid Rd.raw;rw [if_pos h0]
 clear h0
 go_enter func186,ntmps186
 go_wp2
 go_ret
 rw [HR.out]
 exact ⟨rfl,HA.out,aA (Below.refl _ _) _⟩
def blk (c:ByteArray) (k:Nat):UInt8:=c.data.toList.getD k 0
def stV (st:Nat → W32):Value:=.agg #[.int .u32 (wn (st 0)),.int .u32 (wn (st 1)),.int .u32 (wn (st 2)),.int .u32 (wn (st 3)),.int .u32 (wn (st 4)),.int .u32 (wn (st 5)),.int .u32 (wn (st 6)),.int .u32 (wn (st 7))]
theorem dB (c:ByteArray) (w:World) (k:Nat) (hk:k < c.size):(Instr.index 9 (.string c) (.int .i64 (k:Int))).run prog w = .ok (.int .u8 (wn (bw (blk c k)))) w:=by
 have h1:(0:Int) ≤ k:=by omega
 have h2:c[k]? = some (blk c k):=by
  unfold blk
  rw [getElem?_pos c k hk]
  have:c.data.toList[k]? = some c[k]:=by simp [hk];rfl
  simp only [List.getD,this,Option.getD_some]
 unfold Instr.index
 simp only [Sem.run_bind,asIntOf,Sem.run_pure,Result.andThen_ok,run_underlying underlying9,if_pos h1,Int.toNat_natCast,h2,lS]
def p8 (r:Nat → UInt8) (i:Nat):Nat → W32:=fun k => if k < i then d9 r k 4 else 0
theorem FE (r:Nat → UInt8) (i:Nat):upd (p8 r i) i (d9 r i 4) = p8 r (i + 1):=by
 funext k;unfold upd p8
 by_cases h:k = i
 ·subst h;rw [if_pos rfl,if_pos (by omega)]
 rw [if_neg h]
 by_cases h2:k < i
 ·rw [if_pos h2,if_pos (by omega)]
 rw [if_neg h2,if_neg (by omega)]
theorem Mc (r:Nat → UInt8):p8 r 16 = iw r 16 0:=by
 funext k;unfold p8 iw
 by_cases h:k < 16
 ·rw [if_pos h,if_pos h]
 rw [if_neg h,if_neg h];split <;> rfl
theorem Kj (st:Nat → W32) (c:ByteArray) (w:World) (hc:c.size = 64) :
  Calls prog 132 #[stV st,.string c] w fun e w' => e = .returned (stV (gu st (blk c))) ∧ Below w.heap.size w w':=by
 unfold stV
 have HI:=ah (fun (w:World) (k:Nat) (hk:k < 64) => dB c w k (by omega))
 generalize hr:blk c = r at HI
 have HR:=ah hr
 clear hr hc
 have hW0:∃ W,W = ((w.alloc (.cells #[.int .u32 (wn (st 0)),.int .u32 (wn (st 1)),.int .u32 (wn (st 2)),.int .u32 (wn (st 3)),.int .u32 (wn (st 4)),.int .u32 (wn (st 5)),.int .u32 (wn (st 6)),.int .u32 (wn (st 7))] 238)).alloc (.cells (Array.replicate 8 (.int .u32 0)) 238)).alloc (.cells (Array.replicate 64 (.int .u32 0)) 306):=⟨_,rfl⟩
 obtain ⟨W,hW⟩:=hW0
 have hb0:Below w.heap.size w W:=by rw [hW];exact (bal.alloc (by simp) _).alloc (by simp;omega) _
 have hS0:Arr W w.heap.size 8 (aY st):=by rw [hW];exact ((Arr.eight w st _).alloc (by omega) _).alloc (by omega) _
 have hO0:Arr W (w.heap.size + 1) 8 (fun _ => .int .u32 0):=by
  rw [hW]
  have h:=(Arr.new (w.alloc (.cells #[.int .u32 (wn (st 0)),.int .u32 (wn (st 1)),.int .u32 (wn (st 2)),.int .u32 (wn (st 3)),.int .u32 (wn (st 4)),.int .u32 (wn (st 5)),.int .u32 (wn (st 6)),.int .u32 (wn (st 7))] 238)) 8 (.int .u32 0) 238).alloc (by omega) (.cells (Array.replicate 64 (.int .u32 0)) 306)
  rw [World.size_alloc] at h;exact h
 have hX0:Arr W (w.heap.size + 2) 64 (aY (p8 r 0)):=by
  have e:aY (p8 r 0) = fun _ => .int .u32 0:=by funext k;unfold aY p8;rw [if_neg (by omega)];rfl
  rw [hW,e]
  have h:=Arr.new ((w.alloc (.cells #[.int .u32 (wn (st 0)),.int .u32 (wn (st 1)),.int .u32 (wn (st 2)),.int .u32 (wn (st 3)),.int .u32 (wn (st 4)),.int .u32 (wn (st 5)),.int .u32 (wn (st 6)),.int .u32 (wn (st 7))] 238)).alloc (.cells (Array.replicate 8 (.int .u32 0)) 238)) 64 (.int .u32 0) 306
  rw [World.size_alloc,World.size_alloc] at h;exact h
 have HB0:=ah hb0
 have HS0:=ah hS0
 have HO0:=ah hO0
 have HX0:=ah hX0
 have HW:=ah hW
 clear hb0 hS0 hO0 hX0 hW
 go_enter func132,ntmps132
 go_wp2
 go_loopw [6] (fun i wr => ∃ k:Nat,k ≤ 16 ∧ i = .int .i64 k ∧ Arr wr (w.heap.size + 2) 64 (aY (p8 r k)) ∧ Arr wr w.heap.size 8 (aY st) ∧ Arr wr (w.heap.size + 1) 8 (fun _ => .int .u32 0) ∧ Below w.heap.size w wr) (fun i _ => (16 - intOf i).toNat)
 case atStart =>
  have e:=HW.out
  exact ⟨0,by omega,rfl,by have:=HX0.out;rw [e] at this;exact this,by have:=HS0.out;rw [e] at this;exact this,by have:=HO0.out;rw [e] at this;exact this,by have:=HB0.out;rw [e] at this;exact this⟩
 obtain ⟨wo,rfl⟩:∃ wo:World,wo = wr:=⟨_,rfl⟩
 obtain ⟨k,hk,rfl,hX,hS,hO,hb⟩:=hrel
 clear HB0 HS0 HO0 HX0 HW
 by_cases hlt:k < 16
 ·have i0:=fun w => HI.out w (4 * k) (by omega)
  have i1:=fun w => HI.out w (4 * k + 1) (by omega)
  have i2:=fun w => HI.out w (4 * k + 2) (by omega)
  have i3:=fun w => HI.out w (4 * k + 3) (by omega)
  simp only [Int.natCast_add,Int.natCast_mul,Int.cast_ofNat_Int] at i0 i1 i2 i3
  have b0:=og (r (4 * k));have b1:=og (r (4 * k + 1));have b2:=og (r (4 * k + 2));have b3:=og (r (4 * k + 3))
  have p0:=wn_0 (bw (r (4 * k)));have p1:=wn_0 (bw (r (4 * k + 1)));have p2:=wn_0 (bw (r (4 * k + 2)));have p3:=wn_0 (bw (r (4 * k + 3)))
  have c1:=hX.cell k (by omega)
  have f1:=hX.free k (by omega)
  unfold aY at c1
  have hsX:w.heap.size + 2 < wo.heap.size:=hX.lt (by omega)
  have k0:(0:Int) ≤ k:=by omega
  have k1:(k:Int) < 16:=by omega
  have hd:decide ((k:Int) < 16) = true:=decide_eq_true (by omega)
  have HXX:=ah hX
  have HSS:=ah hS
  have HOO:=ah hO
  have HBB:=ah hb
  clear hX hS hO hb
  go_wp2
  refine dL 31 (by kernel_rfl) (by kernel_rfl) ?_
  simp only [List.take_succ_cons,List.take_zero,List.drop_succ_cons,List.drop_zero]
  repeat (go_big_quiet_step (fail))
  refine wpQuiet_nil ?_
  intro wq hbq
  have g1:=ak c1 hbq hsX
  have h1:wq.frozen? ⟨w.heap.size + 2,k,none⟩ = false:=by rw [hbq.frozen (p:=⟨w.heap.size + 2,k,none⟩) hsX];exact f1
  clear c1 f1
  go_wp2
  go_roundw
  case rel =>
   rw [Kq]
   have hx:=(HXX.out.below hbq hsX).set k (by omega) (.int .u32 (wn (d9 r k 4)))
   rw [kT,FE] at hx
   have hbb:=HBB.out
   have hsz:=hbb.size
   refine ⟨k + 1,by omega,by go_num,hx,(HSS.out.below hbq (HSS.out.lt (by omega))).far (by show w.heap.size + 2 ≠ w.heap.size;omega) _,(HOO.out.below hbq (HOO.out.lt (by omega))).far (by show w.heap.size + 2 ≠ w.heap.size + 1;omega) _,(hbb.trans (hbq.mono hsz)).setCell (by show w.heap.size ≤ w.heap.size + 2;omega) _⟩
  case measure => simp [intOf];omega
 obtain rfl:k = 16:=by omega
 rw [Mc] at hX
 have HXX:=ah hX
 have HSS:=ah hS
 have HOO:=ah hO
 have HBB:=ah hb
 clear hX hS hO hb
 go_wp2
 go_loopw [7] (fun i wr => ∃ n:Nat,n ≤ 48 ∧ i = .int .i64 (16 + n:Nat) ∧ Arr wr (w.heap.size + 2) 64 (aY (bH r n)) ∧ Arr wr w.heap.size 8 (aY st) ∧ Arr wr (w.heap.size + 1) 8 (fun _ => .int .u32 0) ∧ Below w.heap.size w wr) (fun i _ => (64 - intOf i).toNat)
 case atStart => exact ⟨0,by omega,rfl,HXX.out,HSS.out,HOO.out,HBB.out⟩
 obtain ⟨wi,rfl⟩:∃ wi:World,wi = wr:=⟨_,rfl⟩
 obtain ⟨n,hn,rfl,hX,hS,hO,hb⟩:=hrel
 clear HXX HSS HOO HBB
 generalize hm:16 + n = m
 by_cases hnl:n < 48
 ·have c2:=hX.cell (m - 2) (by omega)
  have c7:=hX.cell (m - 7) (by omega)
  have c15:=hX.cell (m - 15) (by omega)
  have c16:=hX.cell (m - 16) (by omega)
  have cm:=hX.cell m (by omega)
  have fm:=hX.free m (by omega)
  have hsz:w.heap.size + 2 < wi.heap.size:=hX.lt (by omega)
  unfold aY at c2 c7 c15 c16 cm
  have m0:(16:Int) ≤ m:=by omega
  have m1:(m:Int) < 64:=by omega
  have hd2:decide ((m:Int) < 64) = true:=decide_eq_true (by omega)
  have HXX:=ah hX
  have HSS:=ah hS
  have HOO:=ah hO
  have HBB:=ah hb
  clear hX hS hO hb
  have a2:IntKind.i64.wrap ((m:Int) - 2) = (m:Int) - 2:=IntWalk.i64_in _ (by omega)
  have t2:((m:Int) - 2).toNat = m - 2:=by omega
  have z2:(2:Int) ≤ m:=by omega
  have y2:(m:Int) - 2 < 64:=by omega
  have a7:IntKind.i64.wrap ((m:Int) - 7) = (m:Int) - 7:=IntWalk.i64_in _ (by omega)
  have t7:((m:Int) - 7).toNat = m - 7:=by omega
  have z7:(7:Int) ≤ m:=by omega
  have y7:(m:Int) - 7 < 64:=by omega
  have a15:IntKind.i64.wrap ((m:Int) - 15) = (m:Int) - 15:=IntWalk.i64_in _ (by omega)
  have t15:((m:Int) - 15).toNat = m - 15:=by omega
  have z15:(15:Int) ≤ m:=by omega
  have y15:(m:Int) - 15 < 64:=by omega
  have a16:IntKind.i64.wrap ((m:Int) - 16) = (m:Int) - 16:=IntWalk.i64_in _ (by omega)
  have t16:((m:Int) - 16).toNat = m - 16:=by omega
  have z16:(16:Int) ≤ m:=by omega
  have y16:(m:Int) - 16 < 64:=by omega
  have EA:=mU
  have EX:=nP
  have ES1:∀ x:W32,wn x / (1024:Int) = wn (x >>> 10):=fun x => wP x 10
  have ES2:∀ x:W32,wn x / (8:Int) = wn (x >>> 3):=fun x => wP x 3
  have HNW:Hid (GH (bH r n) m = kG (bH r n (m - 2)) 17 19 10 + bH r n (m - 7) + kG (bH r n (m - 15)) 7 18 3 + bH r n (m - 16)):=ah rfl
  generalize bH r n (m - 2) = y at c2 HNW
  generalize bH r n (m - 15) = x at c15 HNW
  generalize bH r n (m - 7) = u at c7 HNW
  generalize bH r n (m - 16) = v at c16 HNW
  generalize bH r n m = q at cm
  have K1:∀ w,Calls prog 192 #[.int .u32 (wn y),.int .u64 17] w fun e w' => e = .returned (.int .u32 (wn (BitVec.rotateRight y 17))) ∧ w' = w:=fun w => eP y 17 17 rfl (by omega) (by omega) w
  have K2:∀ w,Calls prog 192 #[.int .u32 (wn y),.int .u64 19] w fun e w' => e = .returned (.int .u32 (wn (BitVec.rotateRight y 19))) ∧ w' = w:=fun w => eP y 19 19 rfl (by omega) (by omega) w
  have K3:∀ w,Calls prog 192 #[.int .u32 (wn x),.int .u64 7] w fun e w' => e = .returned (.int .u32 (wn (BitVec.rotateRight x 7))) ∧ w' = w:=fun w => eP x 7 7 rfl (by omega) (by omega) w
  have K4:∀ w,Calls prog 192 #[.int .u32 (wn x),.int .u64 18] w fun e w' => e = .returned (.int .u32 (wn (BitVec.rotateRight x 18))) ∧ w' = w:=fun w => eP x 18 18 rfl (by omega) (by omega) w
  go_wp2
  refine wbq ?_
  have LQ0:=blq c15
  have LQ1:=blq c2
  repeat (go_big_quiet_step (fail))
  refine wpQuiet_nil ?_
  intro wq hbq
  clear LQ0 LQ1
  obtain ⟨wa,rfl⟩:∃ wa:World,wa = wq:=⟨_,rfl⟩
  have hb7:=hbq
  clear hbq
  have d7:=ak c7 hb7 hsz
  have d16:=ak c16 hb7 hsz
  have hsa:w.heap.size + 2 < wa.heap.size:=by have:=hb7.size;omega
  go_wp2
  refine dL 29 (by kernel_rfl) (by kernel_rfl) ?_
  simp only [List.take_succ_cons,List.take_zero,List.drop_succ_cons,List.drop_zero]
  have LQ0:=blq d7
  have LQ1:=blq d16
  repeat (go_big_quiet_step ((first | (go_at_call 192;with_reducible exact bY (K1 _)) | (go_at_call 192;with_reducible exact bY (K2 _)) | (go_at_call 192;with_reducible exact bY (K3 _)) | (go_at_call 192;with_reducible exact bY (K4 _)))))
  refine wpQuiet_nil ?_
  intro wq hbq
  clear LQ0 LQ1
  have hbe:=hb7.trans (hbq.mono hb7.size)
  have cmn:=ak cm hbe hsz
  have fmn:wq.frozen? ⟨w.heap.size + 2,m,none⟩ = false:=by rw [hbe.frozen (p:=⟨w.heap.size + 2,m,none⟩) hsz];exact fm
  have HBE:=ah hbe
  clear c2 c7 c15 c16 cm fm d7 d16 K1 K2 K3 K4 hbq hb7 hbe
  go_wp2
  go_roundw
  case rel =>
   have hx:=(HXX.out.below HBE.out hsz).set m (by omega) (.int .u32 (wn (kG y 17 19 10 + u + kG x 7 18 3 + v)))
   have e:upd (bH r n) m (kG y 17 19 10 + u + kG x 7 18 3 + v) = bH r (n + 1):=by rw [← HNW.out,← hm];rfl
   rw [kT,e] at hx
   have hbb:=HBB.out
   exact ⟨n + 1,by omega,by rw [← hm];go_num,hx,(HSS.out.below HBE.out (HSS.out.lt (by omega))).far (by show w.heap.size + 2 ≠ w.heap.size;omega) _,(HOO.out.below HBE.out (HOO.out.lt (by omega))).far (by show w.heap.size + 2 ≠ w.heap.size + 1;omega) _,(hbb.trans (HBE.out.mono hbb.size)).setCell (by show w.heap.size ≤ w.heap.size + 2;omega) _⟩
  case measure => simp [intOf];omega
 obtain rfl:n = 48:=by omega
 obtain rfl:m = 64:=by omega
 have hsz:w.heap.size + 2 < wi.heap.size:=hX.lt (by omega)
 have c0:=hS.cell 0 (by omega)
 have c1:=hS.cell 1 (by omega)
 have c2:=hS.cell 2 (by omega)
 have c3:=hS.cell 3 (by omega)
 have c4:=hS.cell 4 (by omega)
 have c5:=hS.cell 5 (by omega)
 have c6:=hS.cell 6 (by omega)
 have c7:=hS.cell 7 (by omega)
 unfold aY at c0 c1 c2 c3 c4 c5 c6 c7
 generalize hW:bH r 48 = Wd at hX
 have HWW:=ah hW
 have HXX:=ah hX
 have HSS:=ah hS
 have HOO:=ah hO
 have HBB:=ah hb
 clear hX hS hO hb hW
 go_wp2_with fail
 refine (Et _).mono ?_
 rintro e w1 ⟨rfl,hb1⟩
 have hA1:=Arr.new w1 64 (.int .u32 0) 306
 have hA2:=hA1.Ag kV qX
 have h64:(prog.info? 306).map (·.size) = some 64:=by kernel_rfl
 have hone:∀ v ∈ kV,v.oneCell' = true:=by
  intro v hv;obtain ⟨x,_,rfl⟩:=List.mem_map.1 hv;rfl
 have hK:∀ k,k < 64 → kV.getD k undef = .int .u32 (wn (rK k)):=fun k hk => by
  unfold kV rK
  have:k < mD.length:=by rw [oD];exact hk
  simp [this]
 have hA3:=hA2.congr hK
 have hbs:Below w1.heap.size w1 ((w1.alloc (.cells (Array.replicate 64 (.int .u32 0)) 306)).setCells w1.heap.size 0 kV):=below_setCells _ (Nat.le_refl _) kV 0 _ bal
 have HTH:=ah hA1.there
 have HON:=ah hone
 have HLN:=ah qX
 have HA3:=ah hA3
 have HBS:=ah hbs
 clear hA1 hA2 hA3 hone hK hbs
 generalize kV = KV at HTH HON HLN HA3 HBS
 go_wp2_with (refine aj rfl 306 _ _ rfl w1.heap.size 0 KV ?y1 ?y2 64 HLN.out ?y4 h64 HON.out ?_)
 case y4 => exact HTH.out
 try case y1 => rfl
 try case y2 => rfl
 generalize hWc:World.setCells _ w1.heap.size 0 KV = wc
 have hA4:Arr wc w1.heap.size 64 (fun k => .int .u32 (wn (rK k))):=by rw [← hWc];exact HA3.out
 have hbc:Below wi.heap.size wi wc:=hb1.trans ((by rw [← hWc];exact HBS.out:Below w1.heap.size w1 wc).mono hb1.size)
 have hsc:w1.heap.size < wc.heap.size:=hA4.lt (by omega)
 have hs1:=hb1.size
 have HA4:=ah hA4
 have HBC:=ah hbc
 have d0:=ak c0 hbc (by omega)
 have d1:=ak c1 hbc (by omega)
 have d2:=ak c2 hbc (by omega)
 have d3:=ak c3 hbc (by omega)
 have d4:=ak c4 hbc (by omega)
 have d5:=ak c5 hbc (by omega)
 have d6:=ak c6 hbc (by omega)
 have d7:=ak c7 hbc (by omega)
 clear hWc HA3 HBS HTH HON HLN hA4 hbc hb1 c0 c1 c2 c3 c4 c5 c6 c7
 go_wp2
 simp only [Act.put]
 refine wbq ?_
 have LQ0:=blq d0
 have LQ1:=blq d1
 have LQ2:=blq d2
 have LQ3:=blq d3
 repeat (go_big_quiet_step (fail))
 refine wpQuiet_nil ?_
 intro wq hbq
 clear LQ0 LQ1 LQ2 LQ3
 obtain ⟨wd,rfl⟩:∃ wd:World,wd = wq:=⟨_,rfl⟩
 have hbd:=hbq
 clear hbq
 have g4:=ak d4 hbd (by omega)
 have g5:=ak d5 hbd (by omega)
 have g6:=ak d6 hbd (by omega)
 have g7:=ak d7 hbd (by omega)
 have hsd:w1.heap.size < wd.heap.size:=by have:=hbd.size;omega
 go_wp2
 refine wbq ?_
 have LQ0:=blq g4
 have LQ1:=blq g5
 have LQ2:=blq g6
 have LQ3:=blq g7
 repeat (go_big_quiet_step (fail))
 refine wpQuiet_nil ?_
 intro wq hbq
 clear LQ0 LQ1 LQ2 LQ3
 have hbf:Below wi.heap.size wi wq:=HBC.out.trans ((hbd.trans (hbq.mono hbd.size)).mono HBC.out.size)
 have hK5:Arr wq w1.heap.size 64 (fun k => .int .u32 (wn (rK k))):=HA4.out.below (hbd.trans (hbq.mono hbd.size)) hsc
 have HBF:=ah hbf
 have HK5:=ah hK5
 obtain ⟨wg,rfl⟩:∃ wg:World,wg = wq:=⟨_,rfl⟩
 clear d0 d1 d2 d3 d4 d5 d6 d7 g4 g5 g6 g7 hbd hbq hbf hK5
 go_wp2
 go_loopw [11,12,13,14,15,16,17,18,19] (fun v0 v1 v2 v3 v4 v5 v6 v7 i wr => ∃ n:Nat,n ≤ 64 ∧ i = .int .i64 n ∧ v0 = .int .u32 (wn (bL Wd st n 0)) ∧ v1 = .int .u32 (wn (bL Wd st n 1)) ∧ v2 = .int .u32 (wn (bL Wd st n 2)) ∧ v3 = .int .u32 (wn (bL Wd st n 3)) ∧ v4 = .int .u32 (wn (bL Wd st n 4)) ∧ v5 = .int .u32 (wn (bL Wd st n 5)) ∧ v6 = .int .u32 (wn (bL Wd st n 6)) ∧ v7 = .int .u32 (wn (bL Wd st n 7)) ∧ Below wg.heap.size wg wr) (fun _ _ _ _ _ _ _ _ i _ => (64 - intOf i).toNat)
 case atStart => exact ⟨0,by omega,rfl,rfl,rfl,rfl,rfl,rfl,rfl,rfl,rfl,Below.refl _ _⟩
 obtain ⟨wh,rfl⟩:∃ wh:World,wh = wr:=⟨_,rfl⟩
 obtain ⟨n,hn,rfl,rfl,rfl,rfl,rfl,rfl,rfl,rfl,rfl,hbh⟩:=hrel
 have hsg:w1.heap.size < wg.heap.size:=HK5.out.lt (by omega)
 have hsh:=hbh.size
 by_cases hnl:n < 64
 ·have cK:=(HK5.out.below hbh hsg).cell n (by omega)
  have hXg:Arr wg (w.heap.size + 2) 64 (aY Wd):=HXX.out.below HBF.out hsz
  have hsz2:w.heap.size + 2 < wg.heap.size:=hXg.lt (by omega)
  have cW:=(hXg.below hbh hsz2).cell n (by omega)
  unfold aY at cW
  have n0:(0:Int) ≤ n:=by omega
  have n1:(n:Int) < 64:=by omega
  have hd3:decide ((n:Int) < 64) = true:=decide_eq_true (by omega)
  have HRN:Hid (bL Wd st (n + 1) = stepW (bL Wd st n) (rK n) (Wd n)):=ah rfl
  generalize bL Wd st n = R at HRN
  have HHB:=ah hbh
  clear hXg hbh
  have EA:=mU
  have EX:=nP
  have EN:=Kr
  have EO:=w_or
  have EC:=Ab
  have K1:∀ w,Calls prog 192 #[.int .u32 (wn (R 4)),.int .u64 6] w fun e w' => e = .returned (.int .u32 (wn (BitVec.rotateRight (R 4) 6))) ∧ w' = w:=fun w => eP (R 4) 6 6 rfl (by omega) (by omega) w
  have K2:∀ w,Calls prog 192 #[.int .u32 (wn (R 4)),.int .u64 11] w fun e w' => e = .returned (.int .u32 (wn (BitVec.rotateRight (R 4) 11))) ∧ w' = w:=fun w => eP (R 4) 11 11 rfl (by omega) (by omega) w
  have K3:∀ w,Calls prog 192 #[.int .u32 (wn (R 4)),.int .u64 25] w fun e w' => e = .returned (.int .u32 (wn (BitVec.rotateRight (R 4) 25))) ∧ w' = w:=fun w => eP (R 4) 25 25 rfl (by omega) (by omega) w
  go_wp2
  refine wbq ?_
  have LQ0:=blq cK
  have LQ1:=blq cW
  repeat (go_big_quiet_step ((first | (go_at_call 192;with_reducible exact bY (K1 _)) | (go_at_call 192;with_reducible exact bY (K2 _)) | (go_at_call 192;with_reducible exact bY (K3 _)))))
  refine wpQuiet_nil ?_
  intro wq hbq
  clear LQ0 LQ1
  obtain ⟨wj,rfl⟩:∃ wj:World,wj = wq:=⟨_,rfl⟩
  have HBQ:=ah hbq
  clear hbq K1 K2 K3 cK cW
  rw [mU]
  have eT:R 7 + (BitVec.rotateRight (R 4) 6 ^^^ BitVec.rotateRight (R 4) 11 ^^^ BitVec.rotateRight (R 4) 25) + (R 4 &&& R 5 ||| ~~~R 4 &&& R 6) + rK n + Wd n = tW R (rK n) (Wd n):=by unfold tW mg;rw [Pf]
  rw [eT]
  clear eT
  generalize hT:tW R (rK n) (Wd n) = T
  have HTT:=ah hT
  clear hT
  go_wp2_with (go_at_call 192;first | ((with_reducible refine (eP (R 0) 2 2 rfl (by omega) (by omega) _).mono ?_);rintro e w' ⟨rfl,rfl⟩) | ((with_reducible refine (eP (R 0) 13 13 rfl (by omega) (by omega) _).mono ?_);rintro e w' ⟨rfl,rfl⟩) | ((with_reducible refine (eP (R 0) 22 22 rfl (by omega) (by omega) _).mono ?_);rintro e w' ⟨rfl,rfl⟩))
  go_roundw
  case rel =>
   rw [mU,mU]
   have eU:(BitVec.rotateRight (R 0) 2 ^^^ BitVec.rotateRight (R 0) 13 ^^^ BitVec.rotateRight (R 0) 22) + (R 0 &&& R 1 ||| R 0 &&& R 2 ||| R 1 &&& R 2) = uW R:=by unfold uW mg;rw [OT]
   rw [eU]
   have h0:bL Wd st (n + 1) 0 = T + uW R:=by rw [HRN.out,← HTT.out];rfl
   have h4:bL Wd st (n + 1) 4 = R 3 + T:=by rw [HRN.out,← HTT.out];rfl
   have hh:∀ k,bL Wd st (n + 1) k = stepW R (rK n) (Wd n) k:=fun k => by rw [HRN.out]
   refine ⟨n + 1,by omega,by go_num,by rw [h0],by rw [hh];rfl,by rw [hh];rfl,by rw [hh];rfl,by rw [h4],by rw [hh];rfl,by rw [hh];rfl,by rw [hh];rfl,HHB.out.trans (HBQ.out.mono HHB.out.size)⟩
  case measure => simp [intOf];omega
 obtain rfl:n = 64:=by omega
 have hSg:Arr wg w.heap.size 8 (aY st):=HSS.out.below HBF.out (by omega)
 have hOg:Arr wg (w.heap.size + 1) 8 (fun _ => .int .u32 0):=HOO.out.below HBF.out (by omega)
 have hlg:w.heap.size + 1 < wg.heap.size:=hOg.lt (by omega)
 have hSh:=hSg.below hbh (by omega)
 have hOh:=hOg.below hbh (by omega)
 have c0:=hSh.cell 0 (by omega)
 have c1:=hSh.cell 1 (by omega)
 have c2:=hSh.cell 2 (by omega)
 have c3:=hSh.cell 3 (by omega)
 have c4:=hSh.cell 4 (by omega)
 have c5:=hSh.cell 5 (by omega)
 have c6:=hSh.cell 6 (by omega)
 have c7:=hSh.cell 7 (by omega)
 unfold aY at c0 c1 c2 c3 c4 c5 c6 c7
 have hfin:∀ k,gu st r k = st k + bL Wd st 64 k:=fun k => by unfold gu;rw [HWW.out]
 generalize bL Wd st 64 = X at hfin
 have HF:=ah hfin
 have hth:=hOh.there
 have h8:(prog.info? 238).map (·.size) = some 8:=by kernel_rfl
 have hbw:Below w.heap.size w wh:=by
  have h1:=HBB.out;have h2:=HBF.out
  exact (h1.trans (h2.mono h1.size)).trans (hbh.mono (Nat.le_trans h1.size h2.size))
 have hfr:=World.rangeAt_setCells_same wh (w.heap.size + 1) 0 [.int .u32 (wn (st 0 + X 0)),.int .u32 (wn (st 1 + X 1)),.int .u32 (wn (st 2 + X 2)),.int .u32 (wn (st 3 + X 3)),.int .u32 (wn (st 4 + X 4)),.int .u32 (wn (st 5 + X 5)),.int .u32 (wn (st 6 + X 6)),.int .u32 (wn (st 7 + X 7))] hth
 have hbf:=below_setCells (B:=w.heap.size) (a:=w) (w.heap.size + 1) (by omega) [.int .u32 (wn (st 0 + X 0)),.int .u32 (wn (st 1 + X 1)),.int .u32 (wn (st 2 + X 2)),.int .u32 (wn (st 3 + X 3)),.int .u32 (wn (st 4 + X 4)),.int .u32 (wn (st 5 + X 5)),.int .u32 (wn (st 6 + X 6)),.int .u32 (wn (st 7 + X 7))] 0 wh hbw
 have HTH:=ah hth
 have HFR:=ah hfr
 have HBW:=ah hbf
 have EA:=mU
 clear hSg hOg hSh hOh hfin hth hfr hbf hbw hbh
 go_wp2_with (refine aj rfl 238 _ _ rfl (w.heap.size + 1) 0 [.int .u32 (wn (st 0 + X 0)),.int .u32 (wn (st 1 + X 1)),.int .u32 (wn (st 2 + X 2)),.int .u32 (wn (st 3 + X 3)),.int .u32 (wn (st 4 + X 4)),.int .u32 (wn (st 5 + X 5)),.int .u32 (wn (st 6 + X 6)),.int .u32 (wn (st 7 + X 7))] ?z1 ?z2 8 rfl HTH.out h8 ?z3 ?_)
 try case z1 => rfl
 try case z2 => go_simp
 case z3 => simp [Value.oneCell']
 rw [HF.out 0,HF.out 1,HF.out 2,HF.out 3,HF.out 4,HF.out 5,HF.out 6,HF.out 7]
 simp only [Act.put]
 refine gU rfl (w.heap.size + 1) 0 rfl [.int .u32 (wn (st 0 + X 0)),.int .u32 (wn (st 1 + X 1)),.int .u32 (wn (st 2 + X 2)),.int .u32 (wn (st 3 + X 3)),.int .u32 (wn (st 4 + X 4)),.int .u32 (wn (st 5 + X 5)),.int .u32 (wn (st 6 + X 6)),.int .u32 (wn (st 7 + X 7))] _ HFR.out underlying238 rfl h8 rfl ⟨rfl,HBW.out⟩
def bG (l:List UInt8) (most:Nat):Nat → Nat → Nat → Sum Nat (Nat × Nat)
 | 0,_,_ => .inl 4
 | f + 1,i,n => match l[i]? with
  | none => .inl 3
  | some b => if 128 ≤ b.toNat then bG l most f (i + 1) (n + b.toNat % 128 * 128 ^ i)
   else if b.toNat = 0 ∧ 0 < i then .inl 2
   else if 1099511627775 < n + b.toNat % 128 * 128 ^ i ∨ most < n + b.toNat % 128 * 128 ^ i then .inl 4
   else .inr (n + b.toNat % 128 * 128 ^ i,i + 1)
def Rd.left (r:Rd):List UInt8:=r.s.data.toList.drop r.pos
def Rd.num (r:Rd) (most:Nat):Rd × Nat:=if r.err ≠ 0 then (r,0) else match bG r.left most 6 0 0 with
 | .inl e => ({ r with err:=e },0)
 | .inr x => ({ r with pos:=r.pos + x.2 },x.1)
theorem vJ (r:Rd) (k:Nat):r.left[k]? = r.s.data.toList[r.pos + k]?:=by unfold Rd.left;rw [List.getElem?_drop]
theorem eD (l:List UInt8) (most:Nat):∀ f i n,(∀ e,bG l most f i n = .inl e → e ≤ 4 ∧ 0 < e) ∧ (∀ x,bG l most f i n = .inr x → x.2 ≤ l.length ∧ x.1 ≤ most ∧ i < x.2 ∧ x.1 ≤ 1099511627775)
 | 0,i,n => ⟨fun e h => by cases h;omega,fun x h => by cases h⟩
 | f + 1,i,n => by
  unfold bG
  cases hl:l[i]? with
  | none => exact ⟨fun e h => by cases h;omega,fun x h => by cases h⟩
  | some b =>
   dsimp only
   have hi:i < l.length:=(List.getElem?_eq_some_iff.1 hl).1
   by_cases h1:128 ≤ b.toNat
   ·rw [if_pos h1]
    obtain ⟨a1,a2⟩:=eD l most f (i + 1) (n + b.toNat % 128 * 128 ^ i)
    exact ⟨a1,fun x h => by obtain ⟨q1,q2,q3,q4⟩:=a2 x h;exact ⟨q1,q2,by omega,q4⟩⟩
   rw [if_neg h1]
   by_cases h2:b.toNat = 0 ∧ 0 < i
   ·rw [if_pos h2];exact ⟨fun e h => by cases h;omega,fun x h => by cases h⟩
   rw [if_neg h2]
   by_cases h3:1099511627775 < n + b.toNat % 128 * 128 ^ i ∨ most < n + b.toNat % 128 * 128 ^ i
   ·rw [if_pos h3];exact ⟨fun e h => by cases h;omega,fun x h => by cases h⟩
   rw [if_neg h3]
   refine ⟨fun e h => (by cases h),fun x h => ?_⟩
   cases h
   exact ⟨by omega,by omega,by omega,by omega⟩
theorem Rd.aT (r:Rd) (most:Nat) (h:r.fine):(r.num most).1.fine ∧ (r.num most).2 ≤ most:=by
 unfold Rd.num
 split
 ·exact ⟨h,Nat.zero_le _⟩
 obtain ⟨a1,a2⟩:=eD r.left most 6 0 0
 split
 ·rename_i e he
  have:=a1 e he
  exact ⟨⟨h.pos,h.size,by show e ≤ 100;omega⟩,Nat.zero_le _⟩
 rename_i x hx
 obtain ⟨q1,q2,_,_⟩:=a2 x hx
 have hl:r.left.length = r.s.size - r.pos:=by unfold Rd.left;simp
 have:=h.pos
 exact ⟨⟨by show r.pos + x.2 ≤ r.s.size;omega,h.size,h.err⟩,q2⟩
theorem Rd.fQ (r:Rd) (most e:Nat) (h0:r.err = 0) (h:bG r.left most 6 0 0 = .inl e):r.num most = ({ r with err:=e },0):=by
 unfold Rd.num;rw [if_neg (by simp [h0]),h]
theorem Rd.Fa (r:Rd) (most:Nat) (x:Nat × Nat) (h0:r.err = 0) (h:bG r.left most 6 0 0 = .inr x):r.num most = ({ r with pos:=r.pos + x.2 },x.1):=by
 unfold Rd.num;rw [if_neg (by simp [h0]),h]
theorem gQ (b:Nat) (r:Rd) (most:Nat) (w:World) (hA:Arr w b 3 r.c) (hf:r.fine) (hn:most ≤ 1000000000) :
  Calls prog 125 #[.pointer (some ⟨b,0,none⟩),.int .i64 (most:Int)] w fun e w' => e = .returned (.int .i64 ((r.num most).2:Int)) ∧ Arr w' b 3 (r.num most).1.c ∧ w.grownBy w' (some b):=by
 have hbl:b < w.heap.size:=hA.lt (by omega)
 have c0:w.cell? ⟨b,0,none⟩ = some (.string r.s):=hA.cell 0 (by omega)
 have c1:w.cell? ⟨b,1,none⟩ = some (.int .i64 (r.pos:Int)):=hA.cell 1 (by omega)
 have c2:w.cell? ⟨b,2,none⟩ = some (.int .i64 (r.err:Int)):=hA.cell 2 (by omega)
 have f1:=hA.free 1 (by omega)
 have f2:=hA.free 2 (by omega)
 have hp:=hf.pos
 have hs:=hf.size
 have he:=hf.err
 have HA:=ah hA
 clear hA hf
 by_cases h0:r.err = 0
 ·have h0':((r.err:Int) != 0) = false:=by rw [bne_eq_false_iff_eq];omega
  have H0:=ah h0
  clear h0
  go_enter func125,ntmps125
  go_wp2
  go_loopw [5,6,7] (fun n o i wr => ∃ k N:Nat,k ≤ 6 ∧ i = .int .i64 k ∧ n = .int .i64 N ∧ o = .int .i64 ((128 ^ k:Nat):Int) ∧ N ≤ 4398046511104 ∧ Hid (bG r.left most 6 0 0 = bG r.left most (6 - k) k N) ∧ Hid (N < 128 ^ k) ∧ Below w.heap.size w wr) (fun _ _ i _ => (6 - intOf i).toNat)
  case atStart => exact ⟨0,0,by omega,rfl,rfl,rfl,by omega,rfl,by unfold Hid;decide,Below.refl _ _⟩
  obtain ⟨wo,rfl⟩:∃ wo:World,wo = wr:=⟨_,rfl⟩
  obtain ⟨k,N,hk,rfl,rfl,rfl,hN,hgo,hNl,hb⟩:=hrel
  have d0:=ak c0 hb hbl
  have d1:=ak c1 hb hbl
  have d2:=ak c2 hb hbl
  have e1:wo.frozen? ⟨b,1,none⟩ = false:=by rw [hb.frozen (p:=⟨b,1,none⟩) hbl];exact f1
  have e2:wo.frozen? ⟨b,2,none⟩ = false:=by rw [hb.frozen (p:=⟨b,2,none⟩) hbl];exact f2
  have hbo:b < wo.heap.size:=by have:=hb.size;omega
  by_cases hk6:k < 6
  ·have k0:(0:Int) ≤ k:=by omega
   have k1:(k:Int) < 6:=by omega
   have hd:decide ((k:Int) < 6) = true:=decide_eq_true (by omega)
   by_cases hlt:r.pos + k < r.s.size
   ·have hxk:r.s.data.toList[r.pos + k]? = some (blk r.s (r.pos + k)):=by
     unfold blk
     have hl:r.pos + k < r.s.data.toList.length:=by simp;omega
     simp only [List.getD,List.getElem?_eq_getElem hl,Option.getD_some]
    have HI:∀ w,(Instr.index 9 (.string r.s) (.int .i64 ((r.pos:Int) + k))).run prog w = .ok (.int .u8 (wn (bw (blk r.s (r.pos + k))))) w:=fun w => dB r.s w (r.pos + k) hlt
    have hwn:=lS (blk r.s (r.pos + k))
    have hX:(blk r.s (r.pos + k)).toNat < 256:=(blk r.s (r.pos + k)).toNat_lt
    have hl:r.left[k]? = some (blk r.s (r.pos + k)):=by rw [vJ];exact hxk
    have hstep:bG r.left most (6 - k) k N = if 128 ≤ (blk r.s (r.pos + k)).toNat then bG r.left most (5 - k) (k + 1) (N + (blk r.s (r.pos + k)).toNat % 128 * 128 ^ k)
      else if (blk r.s (r.pos + k)).toNat = 0 ∧ 0 < k then .inl 2
      else if 1099511627775 < N + (blk r.s (r.pos + k)).toNat % 128 * 128 ^ k ∨ most < N + (blk r.s (r.pos + k)).toNat % 128 * 128 ^ k then .inl 4
      else .inr (N + (blk r.s (r.pos + k)).toNat % 128 * 128 ^ k,k + 1):=by
     rw [show 6 - k = (5 - k) + 1 from by omega];conv => lhs;unfold bG
     rw [hl]
    rw [← hwn] at HI
    generalize (blk r.s (r.pos + k)).toNat = X at HI hX hstep
    have ho:128 ^ k ≤ 34359738368:=by
     have:128 ^ k ≤ 128 ^ 5:=Nat.pow_le_pow_right (by omega) (by omega)
     omega
    have ho1:128 ^ (k + 1) = 128 ^ k * 128:=Nat.pow_succ 128 k
    have hgo2:=hgo.out
    rw [hstep] at hgo2
    have hNo:=hNl.out
    have HO1:=ah ho1
    have hpp:∃ p,p = X % 128 * 128 ^ k:=⟨_,rfl⟩
    obtain ⟨p,hpd⟩:=hpp
    have hpb:p ≤ 4363686772736:=by
     rw [hpd]
     exact Nat.le_trans (Nat.mul_le_mul (show X % 128 ≤ 127 by omega) ho) (by omega)
    have hpl:N + p < 128 ^ (k + 1):=by
     rw [ho1,hpd]
     have h1:X % 128 * 128 ^ k ≤ 127 * 128 ^ k:=Nat.mul_le_mul (by omega) (Nat.le_refl _)
     omega
    rw [← hpd] at hgo2
    have hw1:IntKind.i64.wrap ((X:Int) % 128 * ((128 ^ k:Nat):Int)) = (p:Int):=by
     rw [hpd]
     have e:((X % 128 * 128 ^ k:Nat):Int) = (X:Int) % 128 * ((128 ^ k:Nat):Int):=by push_cast;rfl
     rw [← e,← hpd];exact IntWalk.i64_in _ (by omega)
    have HPL:=ah hpl
    have HGO:=ah hgo2
    have HB:=ah hb
    clear hpd hgo2 hstep hgo hNl hNo ho1 hl hxk hwn hb c0 c1 c2 f1 f2 hpl
    generalize ho2:128 ^ k = o at hw1 ho HO1
    have HOO:=ah ho2
    clear ho2
    have hd2:decide (((r.s.size:Int)) ≤ (r.pos:Int) + k) = false:=decide_eq_false (by omega)
    have x0:(0:Int) ≤ X:=by omega
    have x1:(X:Int) < 256:=by omega
    by_cases h128:128 ≤ X
    ·have hdx:decide ((128:Int) ≤ X) = true:=decide_eq_true (by omega)
     go_wp2
     refine wbq ?_
     have LQ0:=blq d0
     have LQ1:=blq d1
     repeat (go_big_quiet_step (fail))
     refine wpQuiet_nil ?_
     intro wq hbq
     clear LQ0 LQ1
     obtain ⟨wa,rfl⟩:∃ wa:World,wa = wq:=⟨_,rfl⟩
     have hba:=hbq
     clear hbq
     have q0:=ak d0 hba hbo
     have q1:=ak d1 hba hbo
     have hboa:b < wa.heap.size:=by have:=hba.size;omega
     go_wp2
     refine wbq ?_
     have LQ0:=blq q0
     have LQ1:=blq q1
     repeat (go_big_quiet_step (fail))
     refine wpQuiet_nil ?_
     intro wq hbq
     clear LQ0 LQ1
     have hbq2:=hba.trans (hbq.mono hba.size)
     clear q0 q1 hba hbq
     have hb2:=HB.out.trans (hbq2.mono HB.out.size)
     have g1:=ak d1 hbq2 hbo
     have g2:=ak d2 hbq2 hbo
     have k1':wq.frozen? ⟨b,1,none⟩ = false:=by rw [hbq2.frozen (p:=⟨b,1,none⟩) hbo];exact e1
     have k2:wq.frozen? ⟨b,2,none⟩ = false:=by rw [hbq2.frozen (p:=⟨b,2,none⟩) hbo];exact e2
     have HB2:=ah hb2
     clear d0 d1 d2 e1 e2 hbq2 hb2 HI
     go_wp2
     go_roundw
     case rel =>
      have h7:128 ^ (k + 1) ≤ 128 ^ 6:=Nat.pow_le_pow_right (by omega) (by omega)
      have h8:=HPL.out
      refine ⟨k + 1,N + p,by omega,by go_num,by go_num,vi64 (by rw [HO1.out];push_cast;rfl),by omega,?_,h8,HB2.out⟩
      show bG r.left most 6 0 0 = bG r.left most (6 - (k + 1)) (k + 1) (N + p)
      rw [HGO.out,if_pos h128,show 6 - (k + 1) = 5 - k from by omega]
     case measure => simp [intOf];omega
    have hdx:decide ((128:Int) ≤ X) = false:=decide_eq_false (by omega)
    by_cases hz:X = 0 ∧ 0 < k
    ·have hr:bG r.left most 6 0 0 = .inl 2:=by rw [HGO.out,if_neg h128,if_pos hz]
     have HR:=ah (Rd.fQ r most 2 H0.out hr)
     have hx1:((X:Int) == 0) = true:=by rw [beq_iff_eq];omega
     have hk1:decide ((0:Int) < k) = true:=decide_eq_true (by omega)
     have hk2:0 < k:=hz.2
     clear hz hr h128
     go_wp2
     refine wbq ?_
     have LQ0:=blq d0
     have LQ1:=blq d1
     repeat (go_big_quiet_step (fail))
     refine wpQuiet_nil ?_
     intro wq hbq
     clear LQ0 LQ1
     obtain ⟨wa,rfl⟩:∃ wa:World,wa = wq:=⟨_,rfl⟩
     have hba:=hbq
     clear hbq
     have q0:=ak d0 hba hbo
     have q1:=ak d1 hba hbo
     have hboa:b < wa.heap.size:=by have:=hba.size;omega
     go_wp2
     refine wbq ?_
     have LQ0:=blq q0
     have LQ1:=blq q1
     repeat (go_big_quiet_step (fail))
     refine wpQuiet_nil ?_
     intro wq hbq
     clear LQ0 LQ1
     have hbq2:=hba.trans (hbq.mono hba.size)
     clear q0 q1 hba hbq
     have hb2:=HB.out.trans (hbq2.mono HB.out.size)
     have g1:=ak d1 hbq2 hbo
     have g2:=ak d2 hbq2 hbo
     have k1':wq.frozen? ⟨b,1,none⟩ = false:=by rw [hbq2.frozen (p:=⟨b,1,none⟩) hbo];exact e1
     have k2:wq.frozen? ⟨b,2,none⟩ = false:=by rw [hbq2.frozen (p:=⟨b,2,none⟩) hbo];exact e2
     have HB2:=ah hb2
     clear d0 d1 d2 e1 e2 hbq2 hb2 HI
     go_wp2
     go_ret
     rw [HR.out]
     exact ⟨rfl,((HA.out.below HB2.out hbl).set 2 (by omega) (.int .i64 ((2:Nat):Int))).congr (Rd.jh r 2),aI (aA HB2.out _) _⟩
    by_cases hx0:X = 0
    ·skip
     by_cases hA:1099511627775 < N + p
     ·skip
      have hr:bG r.left most 6 0 0 = .inl 4:=by rw [HGO.out,if_neg h128,if_neg hz,if_pos (by omega)]
      have HR:=ah (Rd.fQ r most 4 H0.out hr)
      have hx1:((X:Int) == 0) = true:=by rw [beq_iff_eq];omega
      have hk1:decide ((0:Int) < k) = false:=decide_eq_false (by omega)
      have hk3:decide (0 < k) = false:=decide_eq_false (by omega)
      have hb1:decide ((1099511627775:Int) < (N:Int) + p) = true:=decide_eq_true (by omega)
      clear hz hr h128 hx0
      go_wp2
      refine wbq ?_
      have LQ0:=blq d0
      have LQ1:=blq d1
      repeat (go_big_quiet_step (fail))
      refine wpQuiet_nil ?_
      intro wq hbq
      clear LQ0 LQ1
      obtain ⟨wa,rfl⟩:∃ wa:World,wa = wq:=⟨_,rfl⟩
      have hba:=hbq
      clear hbq
      have q0:=ak d0 hba hbo
      have q1:=ak d1 hba hbo
      have hboa:b < wa.heap.size:=by have:=hba.size;omega
      go_wp2
      refine wbq ?_
      have LQ0:=blq q0
      have LQ1:=blq q1
      repeat (go_big_quiet_step (fail))
      refine wpQuiet_nil ?_
      intro wq hbq
      clear LQ0 LQ1
      have hbq2:=hba.trans (hbq.mono hba.size)
      clear q0 q1 hba hbq
      have hb2:=HB.out.trans (hbq2.mono HB.out.size)
      have g1:=ak d1 hbq2 hbo
      have g2:=ak d2 hbq2 hbo
      have k1':wq.frozen? ⟨b,1,none⟩ = false:=by rw [hbq2.frozen (p:=⟨b,1,none⟩) hbo];exact e1
      have k2:wq.frozen? ⟨b,2,none⟩ = false:=by rw [hbq2.frozen (p:=⟨b,2,none⟩) hbo];exact e2
      have HB2:=ah hb2
      clear d0 d1 d2 e1 e2 hbq2 hb2 HI
      go_wp2
      go_ret
      rw [HR.out]
      exact ⟨rfl,((HA.out.below HB2.out hbl).set 2 (by omega) (.int .i64 ((4:Nat):Int))).congr (Rd.jh r 4),aI (aA HB2.out _) _⟩
     by_cases hB:most < N + p
     ·skip
      have hr:bG r.left most 6 0 0 = .inl 4:=by rw [HGO.out,if_neg h128,if_neg hz,if_pos (by omega)]
      have HR:=ah (Rd.fQ r most 4 H0.out hr)
      have hx1:((X:Int) == 0) = true:=by rw [beq_iff_eq];omega
      have hk1:decide ((0:Int) < k) = false:=decide_eq_false (by omega)
      have hk3:decide (0 < k) = false:=decide_eq_false (by omega)
      have hb1:decide ((1099511627775:Int) < (N:Int) + p) = false:=decide_eq_false (by omega)
      have hb3:decide ((most:Int) < (N:Int) + p) = true:=decide_eq_true (by omega)
      clear hz hr h128 hx0
      go_wp2
      refine wbq ?_
      have LQ0:=blq d0
      have LQ1:=blq d1
      repeat (go_big_quiet_step (fail))
      refine wpQuiet_nil ?_
      intro wq hbq
      clear LQ0 LQ1
      obtain ⟨wa,rfl⟩:∃ wa:World,wa = wq:=⟨_,rfl⟩
      have hba:=hbq
      clear hbq
      have q0:=ak d0 hba hbo
      have q1:=ak d1 hba hbo
      have hboa:b < wa.heap.size:=by have:=hba.size;omega
      go_wp2
      refine wbq ?_
      have LQ0:=blq q0
      have LQ1:=blq q1
      repeat (go_big_quiet_step (fail))
      refine wpQuiet_nil ?_
      intro wq hbq
      clear LQ0 LQ1
      have hbq2:=hba.trans (hbq.mono hba.size)
      clear q0 q1 hba hbq
      have hb2:=HB.out.trans (hbq2.mono HB.out.size)
      have g1:=ak d1 hbq2 hbo
      have g2:=ak d2 hbq2 hbo
      have k1':wq.frozen? ⟨b,1,none⟩ = false:=by rw [hbq2.frozen (p:=⟨b,1,none⟩) hbo];exact e1
      have k2:wq.frozen? ⟨b,2,none⟩ = false:=by rw [hbq2.frozen (p:=⟨b,2,none⟩) hbo];exact e2
      have HB2:=ah hb2
      clear d0 d1 d2 e1 e2 hbq2 hb2 HI
      go_wp2
      go_ret
      rw [HR.out]
      exact ⟨rfl,((HA.out.below HB2.out hbl).set 2 (by omega) (.int .i64 ((4:Nat):Int))).congr (Rd.jh r 4),aI (aA HB2.out _) _⟩
     skip
     have hr:bG r.left most 6 0 0 = .inr (N + p,k + 1):=by rw [HGO.out,if_neg h128,if_neg hz,if_neg (by omega)]
     have HR:=ah (Rd.Fa r most (N + p,k + 1) H0.out hr)
     have hx1:((X:Int) == 0) = true:=by rw [beq_iff_eq];omega
     have hk1:decide ((0:Int) < k) = false:=decide_eq_false (by omega)
     have hk3:decide (0 < k) = false:=decide_eq_false (by omega)
     have hb1:decide ((1099511627775:Int) < (N:Int) + p) = false:=decide_eq_false (by omega)
     have hb3:decide ((most:Int) < (N:Int) + p) = false:=decide_eq_false (by omega)
     have hw5:IntKind.i64.wrap ((r.pos:Int) + k) = (r.pos:Int) + k:=IntWalk.i64_in _ (by omega)
     clear hz hr h128 hx0
     go_wp2
     refine wbq ?_
     have LQ0:=blq d0
     have LQ1:=blq d1
     repeat (go_big_quiet_step (fail))
     refine wpQuiet_nil ?_
     intro wq hbq
     clear LQ0 LQ1
     obtain ⟨wa,rfl⟩:∃ wa:World,wa = wq:=⟨_,rfl⟩
     have hba:=hbq
     clear hbq
     have q0:=ak d0 hba hbo
     have q1:=ak d1 hba hbo
     have hboa:b < wa.heap.size:=by have:=hba.size;omega
     go_wp2
     refine wbq ?_
     have LQ0:=blq q0
     have LQ1:=blq q1
     repeat (go_big_quiet_step (fail))
     refine wpQuiet_nil ?_
     intro wq hbq
     clear LQ0 LQ1
     have hbq2:=hba.trans (hbq.mono hba.size)
     clear q0 q1 hba hbq
     have hb2:=HB.out.trans (hbq2.mono HB.out.size)
     have g1:=ak d1 hbq2 hbo
     have g2:=ak d2 hbq2 hbo
     have k1':wq.frozen? ⟨b,1,none⟩ = false:=by rw [hbq2.frozen (p:=⟨b,1,none⟩) hbo];exact e1
     have k2:wq.frozen? ⟨b,2,none⟩ = false:=by rw [hbq2.frozen (p:=⟨b,2,none⟩) hbo];exact e2
     have HB2:=ah hb2
     clear d0 d1 d2 e1 e2 hbq2 hb2 HI
     go_wp2
     go_ret
     rw [HR.out]
     exact ⟨ng (by push_cast;rfl),((HA.out.below HB2.out hbl).set 1 (by omega) (.int .i64 ((r.pos + (k + 1):Nat):Int))).congr (Rd.fO r _),aI (aA HB2.out _) _⟩
    skip
    by_cases hA:1099511627775 < N + p
    ·skip
     have hr:bG r.left most 6 0 0 = .inl 4:=by rw [HGO.out,if_neg h128,if_neg hz,if_pos (by omega)]
     have HR:=ah (Rd.fQ r most 4 H0.out hr)
     have hx1:((X:Int) == 0) = false:=by rw [beq_eq_false_iff_ne];omega
     have hb1:decide ((1099511627775:Int) < (N:Int) + p) = true:=decide_eq_true (by omega)
     clear hz hr h128 hx0
     go_wp2
     refine wbq ?_
     have LQ0:=blq d0
     have LQ1:=blq d1
     repeat (go_big_quiet_step (fail))
     refine wpQuiet_nil ?_
     intro wq hbq
     clear LQ0 LQ1
     obtain ⟨wa,rfl⟩:∃ wa:World,wa = wq:=⟨_,rfl⟩
     have hba:=hbq
     clear hbq
     have q0:=ak d0 hba hbo
     have q1:=ak d1 hba hbo
     have hboa:b < wa.heap.size:=by have:=hba.size;omega
     go_wp2
     refine wbq ?_
     have LQ0:=blq q0
     have LQ1:=blq q1
     repeat (go_big_quiet_step (fail))
     refine wpQuiet_nil ?_
     intro wq hbq
     clear LQ0 LQ1
     have hbq2:=hba.trans (hbq.mono hba.size)
     clear q0 q1 hba hbq
     have hb2:=HB.out.trans (hbq2.mono HB.out.size)
     have g1:=ak d1 hbq2 hbo
     have g2:=ak d2 hbq2 hbo
     have k1':wq.frozen? ⟨b,1,none⟩ = false:=by rw [hbq2.frozen (p:=⟨b,1,none⟩) hbo];exact e1
     have k2:wq.frozen? ⟨b,2,none⟩ = false:=by rw [hbq2.frozen (p:=⟨b,2,none⟩) hbo];exact e2
     have HB2:=ah hb2
     clear d0 d1 d2 e1 e2 hbq2 hb2 HI
     go_wp2
     go_ret
     rw [HR.out]
     exact ⟨rfl,((HA.out.below HB2.out hbl).set 2 (by omega) (.int .i64 ((4:Nat):Int))).congr (Rd.jh r 4),aI (aA HB2.out _) _⟩
    by_cases hB:most < N + p
    ·skip
     have hr:bG r.left most 6 0 0 = .inl 4:=by rw [HGO.out,if_neg h128,if_neg hz,if_pos (by omega)]
     have HR:=ah (Rd.fQ r most 4 H0.out hr)
     have hx1:((X:Int) == 0) = false:=by rw [beq_eq_false_iff_ne];omega
     have hb1:decide ((1099511627775:Int) < (N:Int) + p) = false:=decide_eq_false (by omega)
     have hb3:decide ((most:Int) < (N:Int) + p) = true:=decide_eq_true (by omega)
     clear hz hr h128 hx0
     go_wp2
     refine wbq ?_
     have LQ0:=blq d0
     have LQ1:=blq d1
     repeat (go_big_quiet_step (fail))
     refine wpQuiet_nil ?_
     intro wq hbq
     clear LQ0 LQ1
     obtain ⟨wa,rfl⟩:∃ wa:World,wa = wq:=⟨_,rfl⟩
     have hba:=hbq
     clear hbq
     have q0:=ak d0 hba hbo
     have q1:=ak d1 hba hbo
     have hboa:b < wa.heap.size:=by have:=hba.size;omega
     go_wp2
     refine wbq ?_
     have LQ0:=blq q0
     have LQ1:=blq q1
     repeat (go_big_quiet_step (fail))
     refine wpQuiet_nil ?_
     intro wq hbq
     clear LQ0 LQ1
     have hbq2:=hba.trans (hbq.mono hba.size)
     clear q0 q1 hba hbq
     have hb2:=HB.out.trans (hbq2.mono HB.out.size)
     have g1:=ak d1 hbq2 hbo
     have g2:=ak d2 hbq2 hbo
     have k1':wq.frozen? ⟨b,1,none⟩ = false:=by rw [hbq2.frozen (p:=⟨b,1,none⟩) hbo];exact e1
     have k2:wq.frozen? ⟨b,2,none⟩ = false:=by rw [hbq2.frozen (p:=⟨b,2,none⟩) hbo];exact e2
     have HB2:=ah hb2
     clear d0 d1 d2 e1 e2 hbq2 hb2 HI
     go_wp2
     go_ret
     rw [HR.out]
     exact ⟨rfl,((HA.out.below HB2.out hbl).set 2 (by omega) (.int .i64 ((4:Nat):Int))).congr (Rd.jh r 4),aI (aA HB2.out _) _⟩
    skip
    have hr:bG r.left most 6 0 0 = .inr (N + p,k + 1):=by rw [HGO.out,if_neg h128,if_neg hz,if_neg (by omega)]
    have HR:=ah (Rd.Fa r most (N + p,k + 1) H0.out hr)
    have hx1:((X:Int) == 0) = false:=by rw [beq_eq_false_iff_ne];omega
    have hb1:decide ((1099511627775:Int) < (N:Int) + p) = false:=decide_eq_false (by omega)
    have hb3:decide ((most:Int) < (N:Int) + p) = false:=decide_eq_false (by omega)
    have hw5:IntKind.i64.wrap ((r.pos:Int) + k) = (r.pos:Int) + k:=IntWalk.i64_in _ (by omega)
    clear hz hr h128 hx0
    go_wp2
    refine wbq ?_
    have LQ0:=blq d0
    have LQ1:=blq d1
    repeat (go_big_quiet_step (fail))
    refine wpQuiet_nil ?_
    intro wq hbq
    clear LQ0 LQ1
    obtain ⟨wa,rfl⟩:∃ wa:World,wa = wq:=⟨_,rfl⟩
    have hba:=hbq
    clear hbq
    have q0:=ak d0 hba hbo
    have q1:=ak d1 hba hbo
    have hboa:b < wa.heap.size:=by have:=hba.size;omega
    go_wp2
    refine wbq ?_
    have LQ0:=blq q0
    have LQ1:=blq q1
    repeat (go_big_quiet_step (fail))
    refine wpQuiet_nil ?_
    intro wq hbq
    clear LQ0 LQ1
    have hbq2:=hba.trans (hbq.mono hba.size)
    clear q0 q1 hba hbq
    have hb2:=HB.out.trans (hbq2.mono HB.out.size)
    have g1:=ak d1 hbq2 hbo
    have g2:=ak d2 hbq2 hbo
    have k1':wq.frozen? ⟨b,1,none⟩ = false:=by rw [hbq2.frozen (p:=⟨b,1,none⟩) hbo];exact e1
    have k2:wq.frozen? ⟨b,2,none⟩ = false:=by rw [hbq2.frozen (p:=⟨b,2,none⟩) hbo];exact e2
    have HB2:=ah hb2
    clear d0 d1 d2 e1 e2 hbq2 hb2 HI
    go_wp2
    go_ret
    rw [HR.out]
    exact ⟨ng (by push_cast;rfl),((HA.out.below HB2.out hbl).set 1 (by omega) (.int .i64 ((r.pos + (k + 1):Nat):Int))).congr (Rd.fO r _),aI (aA HB2.out _) _⟩
   have hd2:decide (((r.s.size:Int)) ≤ (r.pos:Int) + k) = true:=decide_eq_true (by omega)
   have hr:bG r.left most (6 - k) k N = .inl 3:=by
    have hl:r.left[k]? = none:=by rw [vJ];simp;omega
    rw [show 6 - k = (5 - k) + 1 from by omega];unfold bG;rw [hl]
   have HR:=ah (Rd.fQ r most 3 H0.out (by rw [hgo.out,hr]))
   have HB:=ah hb
   clear hr hgo hNl hb c0 c1 c2 f1 f2 hlt
   generalize 128 ^ k = o
   go_wp2
   refine wbq ?_
   have LQ0:=blq d0
   have LQ1:=blq d1
   repeat (go_big_quiet_step (fail))
   refine wpQuiet_nil ?_
   intro wq hbq
   clear LQ0 LQ1
   have hb2:=HB.out.trans (hbq.mono HB.out.size)
   have g2:=ak d2 hbq hbo
   have k2:wq.frozen? ⟨b,2,none⟩ = false:=by rw [hbq.frozen (p:=⟨b,2,none⟩) hbo];exact e2
   have HB2:=ah hb2
   clear d0 d1 d2 e1 e2 hbq hb2
   go_wp2
   go_ret
   rw [HR.out]
   exact ⟨rfl,((HA.out.below HB2.out hbl).set 2 (by omega) (.int .i64 ((3:Nat):Int))).congr (Rd.jh r 3),aI (aA HB2.out _) _⟩
  obtain rfl:k = 6:=by omega
  have HR:=ah (Rd.fQ r most 4 H0.out (by rw [hgo.out];rfl))
  have HB:=ah hb
  clear hgo hNl hb c0 c1 c2 f1 f2
  generalize 128 ^ 6 = o
  go_wp2
  go_ret
  rw [HR.out]
  exact ⟨rfl,((HA.out.below HB.out hbl).set 2 (by omega) (.int .i64 ((4:Nat):Int))).congr (Rd.jh r 4),aI (aA HB.out _) _⟩
 have h0':((r.err:Int) != 0) = true:=by rw [bne_iff_ne];omega
 have HR:Hid (r.num most = (r,0)):=by unfold Hid Rd.num;rw [if_pos h0]
 clear h0
 go_enter func125,ntmps125
 go_wp2
 go_ret
 rw [HR.out]
 exact ⟨rfl,HA.out,aA (Below.refl _ _) _⟩
end
end Go.Proofs.YtijhemdnajlfnaaGreatDoor
