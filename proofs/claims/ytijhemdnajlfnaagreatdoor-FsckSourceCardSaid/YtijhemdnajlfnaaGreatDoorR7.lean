/- A part of this claim. -/
import Derived.Test.YtijhemdnajlfnaaGreatDoorR6
namespace Go.Proofs.YtijhemdnajlfnaaGreatDoor
open Tryz
set_option maxHeartbeats 64000000
set_option maxRecDepth 100000
section
open Go.RowKit
def Rd.text (r:Rd) (most:Nat):Rd × ByteArray :=
 if r.err ≠ 0 then (r,ByteArray.empty) else
  if ((r.num most).1.raw (r.num most).2).1.err ≠ 0 then ({ ((r.num most).1.raw (r.num most).2).1 with pos:=r.pos },ByteArray.empty) else (r.num most).1.raw (r.num most).2
def Rd.fin (r:Rd):Nat:=if r.err ≠ 0 then r.err else if r.pos < r.s.size then 5 else 0
theorem Rd.kL (r:Rd) (most:Nat):(r.num most).1.s = r.s:=by
 unfold Rd.num
 split
 ·rfl
 split <;> rfl
theorem Rd.uQ (r:Rd) (n:Nat):(r.raw n).1.s = r.s:=by
 unfold Rd.raw
 split
 ·rfl
 split <;> rfl
theorem Rd.dK (r:Rd) (most:Nat) (h:r.fine):(r.text most).1.fine:=by
 have h1:=Rd.jE _ (r.num most).2 (Rd.aT r most h).1
 unfold Rd.text
 split
 ·exact h
 split
 ·exact ⟨by show r.pos ≤ ((r.num most).1.raw (r.num most).2).1.s.size;rw [Rd.uQ,Rd.kL];exact h.pos,h1.size,h1.err⟩
 exact h1
theorem kJ (b:Nat) (r:Rd) (w:World) (hA:Arr w b 3 r.c) (hf:r.fine) :
  Calls prog 123 #[.pointer (some ⟨b,0,none⟩)] w fun e w' => e = .returned (.int .i64 (r.fin:Int)) ∧ Below w.heap.size w w':=by
 have hbl:b < w.heap.size:=hA.lt (by omega)
 have c0:w.cell? ⟨b,0,none⟩ = some (.string r.s):=hA.cell 0 (by omega)
 have c1:w.cell? ⟨b,1,none⟩ = some (.int .i64 (r.pos:Int)):=hA.cell 1 (by omega)
 have c2:w.cell? ⟨b,2,none⟩ = some (.int .i64 (r.err:Int)):=hA.cell 2 (by omega)
 have hs:=hf.size
 clear hA hf
 by_cases h0:r.err = 0
 ·have h0':((r.err:Int) != 0) = false:=by rw [bne_eq_false_iff_eq];omega
  by_cases hlt:r.pos < r.s.size
  ·have HR:Hid (r.fin = 5):=by unfold Hid Rd.fin;rw [if_neg (by simp [h0]),if_pos hlt]
   have hd:decide (r.pos < r.s.size) = true:=decide_eq_true hlt
   have hd2:decide ((r.pos:Int) < r.s.size) = true:=decide_eq_true (by omega)
   clear h0
   go_enter func123,ntmps123
   go_wp2
   refine wbq ?_
   have LQ0:=blq c0
   have LQ1:=blq c1
   repeat (go_big_quiet_step (fail))
   refine wpQuiet_nil ?_
   intro wq hbq
   clear LQ0 LQ1
   go_wp2
   go_ret
   rw [HR.out]
   exact ⟨rfl,hbq⟩
  have HR:Hid (r.fin = 0):=by unfold Hid Rd.fin;rw [if_neg (by simp [h0]),if_neg hlt]
  have hd:decide (r.pos < r.s.size) = false:=decide_eq_false hlt
  have hd2:decide ((r.pos:Int) < r.s.size) = false:=decide_eq_false (by omega)
  clear h0
  go_enter func123,ntmps123
  go_wp2
  refine wbq ?_
  have LQ0:=blq c0
  have LQ1:=blq c1
  repeat (go_big_quiet_step (fail))
  refine wpQuiet_nil ?_
  intro wq hbq
  clear LQ0 LQ1
  go_wp2
  go_ret
  rw [HR.out]
  exact ⟨rfl,hbq⟩
 have h0':((r.err:Int) != 0) = true:=by rw [bne_iff_ne];omega
 have HR:Hid (r.fin = r.err):=by unfold Hid Rd.fin;rw [if_pos h0]
 clear h0
 go_enter func123,ntmps123
 go_wp2
 go_ret
 rw [HR.out]
 exact ⟨rfl,Below.refl _ _⟩
theorem jv (b:Nat) (r:Rd) (most:Nat) (w:World) (hA:Arr w b 3 r.c) (hf:r.fine) (hn:most ≤ 1000000000) :
  Calls prog 122 #[.pointer (some ⟨b,0,none⟩),.int .i64 (most:Int)] w fun e w' => e = .returned (.string (r.text most).2) ∧ Arr w' b 3 (r.text most).1.c ∧ w.grownBy w' (some b):=by
 have c1:w.cell? ⟨b,1,none⟩ = some (.int .i64 (r.pos:Int)):=hA.cell 1 (by omega)
 have c2:w.cell? ⟨b,2,none⟩ = some (.int .i64 (r.err:Int)):=hA.cell 2 (by omega)
 by_cases h0:r.err = 0
 ·have h0':((r.err:Int) != 0) = false:=by rw [bne_eq_false_iff_eq];omega
  have HN:=ah (gQ b r most w hA hf hn)
  obtain ⟨hf1,hn1⟩:=Rd.aT r most hf
  have HT:Hid (r.text most = if ((r.num most).1.raw (r.num most).2).1.err ≠ 0 then ({ ((r.num most).1.raw (r.num most).2).1 with pos:=r.pos },ByteArray.empty) else (r.num most).1.raw (r.num most).2):=by
   unfold Hid Rd.text;rw [if_neg (by simp [h0])]
  generalize r.num most = x at HN hf1 hn1 HT
  obtain ⟨r1,n⟩:=x
  have HF1:=ah hf1
  clear hA hf h0 hf1
  dsimp only at HN hn1 HT
  go_enter func122,ntmps122
  go_wp2_with fail
  refine HN.out.mono ?_
  rintro e w1 ⟨rfl,hA1,hg1⟩
  have HRW:=ah (uH b r1 n w1 hA1 HF1.out (by omega))
  have HG1:=ah hg1
  generalize r1.raw n = y at HRW HT
  obtain ⟨r2,s⟩:=y
  dsimp only at HRW HT
  clear hA1 hg1 c1 c2
  go_wp2_with fail
  refine HRW.out.mono ?_
  rintro e w2 ⟨rfl,hA2,hg2⟩
  have HG2:=ah (dY HG1.out hg2)
  have d2:w2.cell? ⟨b,2,none⟩ = some (.int .i64 (r2.err:Int)):=hA2.cell 2 (by omega)
  have d1:w2.cell? ⟨b,1,none⟩ = some (.int .i64 (r2.pos:Int)):=hA2.cell 1 (by omega)
  have f1:=hA2.free 1 (by omega)
  have HA2:=ah hA2
  clear hA2 hg2
  by_cases h2:r2.err = 0
  ·have h2':((r2.err:Int) != 0) = false:=by rw [bne_eq_false_iff_eq];omega
   have HR:Hid (r.text most = (r2,s)):=by unfold Hid;rw [HT.out,if_neg (by simp [h2])]
   clear h2
   go_wp2
   go_ret
   rw [HR.out]
   exact ⟨rfl,HA2.out,HG2.out⟩
  have h2':((r2.err:Int) != 0) = true:=by rw [bne_iff_ne];omega
  have HR:Hid (r.text most = ({ r2 with pos:=r.pos },ByteArray.empty)):=by unfold Hid;rw [HT.out,if_pos h2]
  clear h2
  go_wp2
  go_ret
  rw [HR.out]
  exact ⟨rfl,(HA2.out.set 1 (by omega) (.int .i64 (r.pos:Int))).congr (Rd.fO r2 _),aI HG2.out _⟩
 have h0':((r.err:Int) != 0) = true:=by rw [bne_iff_ne];omega
 have HR:Hid (r.text most = (r,ByteArray.empty)):=by unfold Hid Rd.text;rw [if_pos h0]
 have HA:=ah hA
 clear h0 hA hf
 go_enter func122,ntmps122
 go_wp2
 go_ret
 rw [HR.out]
 exact ⟨rfl,HA.out,aA (Below.refl _ _) _⟩
theorem jy (b:Nat) (r:Rd) (w:World) (hA:Arr w b 3 r.c) :
  Calls prog 142 #[.pointer (some ⟨b,0,none⟩)] w fun e w' => e = .returned (.int .i64 (r.err:Int)) ∧ w' = w:=by
 have c2:w.cell? ⟨b,2,none⟩ = some (.int .i64 (r.err:Int)):=hA.cell 2 (by omega)
 clear hA
 go_enter func142,ntmps142
 go_wp2
 go_ret
 exact ⟨rfl,rfl⟩
theorem Gf (b:Nat) (r:Rd) (w:World) (hA:Arr w b 3 r.c) :
  Calls prog 110 #[.pointer (some ⟨b,0,none⟩)] w fun e w' => e = .returned (.int .i64 (r.pos:Int)) ∧ w' = w:=by
 have c1:w.cell? ⟨b,1,none⟩ = some (.int .i64 (r.pos:Int)):=hA.cell 1 (by omega)
 clear hA
 go_enter func110,ntmps110
 go_wp2
 go_ret
 exact ⟨rfl,rfl⟩
def Rd.fail (r:Rd) (e p:Nat):Rd:=if r.err = 0 then { r with err:=e,pos:=p } else r
theorem xX (b:Nat) (r:Rd) (e p:Nat) (w:World) (hA:Arr w b 3 r.c) :
  Calls prog 176 #[.pointer (some ⟨b,0,none⟩),.int .i64 (e:Int),.int .i64 (p:Int)] w fun x w' => x = .returned (.tuple #[]) ∧ Arr w' b 3 (r.fail e p).c ∧ w.grownBy w' (some b):=by
 have c1:w.cell? ⟨b,1,none⟩ = some (.int .i64 (r.pos:Int)):=hA.cell 1 (by omega)
 have c2:w.cell? ⟨b,2,none⟩ = some (.int .i64 (r.err:Int)):=hA.cell 2 (by omega)
 have f1:=hA.free 1 (by omega)
 have f2:=hA.free 2 (by omega)
 have HA:=ah hA
 clear hA
 by_cases h0:r.err = 0
 ·have h0':((r.err:Int) == 0) = true:=by rw [beq_iff_eq];omega
  have HR:Hid (r.fail e p = { r with err:=e,pos:=p }):=by unfold Hid Rd.fail;rw [if_pos h0]
  clear h0
  go_enter func176,ntmps176
  go_wp2
  go_end0
  rw [HR.out]
  exact ⟨rfl,(((HA.out.set 2 (by omega) (.int .i64 (e:Int))).congr (Rd.jh r e)).set 1 (by omega) (.int .i64 (p:Int))).congr (Rd.fO _ p),aI (aI (aA (Below.refl _ _) _) _) _⟩
 have h0':((r.err:Int) == 0) = false:=by rw [beq_eq_false_iff_ne];omega
 have HR:Hid (r.fail e p = r):=by unfold Hid Rd.fail;rw [if_neg h0]
 clear h0
 go_enter func176,ntmps176
 go_wp2
 go_end0
 rw [HR.out]
 exact ⟨rfl,HA.out,aA (Below.refl _ _) _⟩
theorem Rd.MK (r:Rd) (h0:r.err = 0):r.fail 3 r.pos = { r with err:=3 }:=by unfold Rd.fail;rw [if_pos h0]
theorem l5 (b:Nat) (r:Rd) (n:Nat) (w:World) (hA:Arr w b 3 r.c) (hf:r.fine) (hn:n ≤ 1000000000) :
  Calls prog 141 #[.pointer (some ⟨b,0,none⟩),.int .i64 (n:Int)] w fun e w' => e = .returned (.string (r.raw n).2) ∧ Arr w' b 3 (r.raw n).1.c ∧ w.grownBy w' (some b):=by
 have hbl:b < w.heap.size:=hA.lt (by omega)
 have c0:w.cell? ⟨b,0,none⟩ = some (.string r.s):=hA.cell 0 (by omega)
 have c1:w.cell? ⟨b,1,none⟩ = some (.int .i64 (r.pos:Int)):=hA.cell 1 (by omega)
 have f1:=hA.free 1 (by omega)
 have hp:=hf.pos
 have hs:=hf.size
 have hn0:decide ((n:Int) < 0) = false:=decide_eq_false (by omega)
 have HA:=ah hA
 have HE:=ah (jy b r w hA)
 clear hA
 by_cases h0:r.err = 0
 ·have h0':((r.err:Int) != 0) = false:=by rw [bne_eq_false_iff_eq];omega
  by_cases hlt:r.s.size - r.pos < n
  ·have HR:Hid (r.raw n = (r.fail 3 r.pos,ByteArray.empty)):=by unfold Hid Rd.raw;rw [if_neg (by simp [h0]),if_pos hlt,Rd.MK r h0]
   have hd:decide ((r.s.size:Int) - r.pos < n) = true:=decide_eq_true (by omega)
   have hw:IntKind.i64.wrap ((r.s.size:Int) - r.pos) = (r.s.size:Int) - r.pos:=IntWalk.i64_in _ (by omega)
   have H0:=ah h0
   clear h0 hlt hf
   go_enter func141,ntmps141
   go_wp2_with fail
   refine HE.out.mono ?_
   rintro e w' ⟨rfl,rfl⟩
   go_wp2
   refine wbq ?_
   have LQ0:=blq c0
   have LQ1:=blq c1
   repeat (go_big_quiet_step (fail))
   refine wpQuiet_nil ?_
   intro wq hbq
   clear LQ0 LQ1
   have g1:=ak c1 hbq hbl
   have HF:=ah (xX b r 3 r.pos wq (HA.out.below hbq hbl))
   have HB:=ah hbq
   clear c0 c1 f1 hbq
   go_wp2_with fail
   refine HF.out.mono ?_
   rintro e w2 ⟨rfl,hA2,hg2⟩
   have HA2:=ah hA2
   have HG2:=ah (dY (aA HB.out (some b)) hg2)
   clear hA2 hg2
   go_wp2
   go_ret
   rw [HR.out]
   exact ⟨rfl,HA2.out,HG2.out⟩
  have HR:Hid (r.raw n = ({ r with pos:=r.pos + n },r.s.extract r.pos (r.pos + n))):=by unfold Hid Rd.raw;rw [if_neg (by simp [h0]),if_neg hlt]
  have hd:decide ((r.s.size:Int) - r.pos < n) = false:=decide_eq_false (by omega)
  have hw:IntKind.i64.wrap ((r.s.size:Int) - r.pos) = (r.s.size:Int) - r.pos:=IntWalk.i64_in _ (by omega)
  have hw2:IntKind.i64.wrap ((r.pos:Int) + n) = (r.pos:Int) + n:=IntWalk.i64_in _ (by omega)
  have HSL:=fun w => iM r.s r.pos n (by omega) w
  have H0:=ah h0
  clear h0 hlt hf
  go_enter func141,ntmps141
  go_wp2_with fail
  refine HE.out.mono ?_
  rintro e w' ⟨rfl,rfl⟩
  go_wp2
  refine wbq ?_
  have LQ0:=blq c0
  have LQ1:=blq c1
  repeat (go_big_quiet_step (fail))
  refine wpQuiet_nil ?_
  intro wq hbq
  clear LQ0 LQ1
  obtain ⟨wa,rfl⟩:∃ wa:World,wa = wq:=⟨_,rfl⟩
  have hb1:=hbq
  clear hbq
  have d0:=ak c0 hb1 hbl
  have d1:=ak c1 hb1 hbl
  have hbl2:b < wa.heap.size:=by have:=hb1.size;omega
  go_wp2
  refine wbq ?_
  have LQ0:=blq d0
  have LQ1:=blq d1
  repeat (go_big_quiet_step (fail))
  refine wpQuiet_nil ?_
  intro wq hbq
  clear LQ0 LQ1
  have hb2:=hb1.trans (hbq.mono hb1.size)
  have g1:=ak c1 hb2 hbl
  have k1:wq.frozen? ⟨b,1,none⟩ = false:=by rw [hb2.frozen (p:=⟨b,1,none⟩) hbl];exact f1
  have HB2:=ah hb2
  clear c0 c1 f1 d0 d1 hb1 hb2 hbq HSL
  go_wp2
  go_ret
  rw [HR.out]
  exact ⟨rfl,((HA.out.below HB2.out hbl).set 1 (by omega) (.int .i64 ((r.pos + n:Nat):Int))).congr (Rd.fO r _),aI (aA HB2.out _) _⟩
 have h0':((r.err:Int) != 0) = true:=by rw [bne_iff_ne];omega
 have HR:Hid (r.raw n = (r,ByteArray.empty)):=by unfold Hid Rd.raw;rw [if_pos h0]
 clear h0 hf
 go_enter func141,ntmps141
 go_wp2_with fail
 refine HE.out.mono ?_
 rintro e w' ⟨rfl,rfl⟩
 go_wp2
 go_ret
 rw [HR.out]
 exact ⟨rfl,HA.out,aA (Below.refl _ _) _⟩
theorem kF (b:Nat) (r:Rd) (w:World) (hA:Arr w b 3 r.c) (hf:r.fine) :
  Calls prog 79 #[.pointer (some ⟨b,0,none⟩)] w fun e w' => e = .returned (.int .i64 (r.fin:Int)) ∧ Below w.heap.size w w':=by
 have hbl:b < w.heap.size:=hA.lt (by omega)
 have c0:w.cell? ⟨b,0,none⟩ = some (.string r.s):=hA.cell 0 (by omega)
 have c1:w.cell? ⟨b,1,none⟩ = some (.int .i64 (r.pos:Int)):=hA.cell 1 (by omega)
 have hs:=hf.size
 have HE:=ah (jy b r w hA)
 clear hA hf
 by_cases h0:r.err = 0
 ·have h0':((r.err:Int) != 0) = false:=by rw [bne_eq_false_iff_eq];omega
  by_cases hlt:r.pos < r.s.size
  ·have HR:Hid (r.fin = 5):=by unfold Hid Rd.fin;rw [if_neg (by simp [h0]),if_pos hlt]
   have hd:decide (r.pos < r.s.size) = true:=decide_eq_true hlt
   have hd2:decide ((r.pos:Int) < r.s.size) = true:=decide_eq_true (by omega)
   clear h0
   go_enter func79,ntmps79
   go_wp2_with fail
   refine HE.out.mono ?_
   rintro e w' ⟨rfl,rfl⟩
   go_wp2
   refine wbq ?_
   have LQ0:=blq c0
   have LQ1:=blq c1
   repeat (go_big_quiet_step (fail))
   refine wpQuiet_nil ?_
   intro wq hbq
   clear LQ0 LQ1
   go_wp2
   go_ret
   rw [HR.out]
   exact ⟨rfl,hbq⟩
  have HR:Hid (r.fin = 0):=by unfold Hid Rd.fin;rw [if_neg (by simp [h0]),if_neg hlt]
  have hd:decide (r.pos < r.s.size) = false:=decide_eq_false hlt
  have hd2:decide ((r.pos:Int) < r.s.size) = false:=decide_eq_false (by omega)
  clear h0
  go_enter func79,ntmps79
  go_wp2_with fail
  refine HE.out.mono ?_
  rintro e w' ⟨rfl,rfl⟩
  go_wp2
  refine wbq ?_
  have LQ0:=blq c0
  have LQ1:=blq c1
  repeat (go_big_quiet_step (fail))
  refine wpQuiet_nil ?_
  intro wq hbq
  clear LQ0 LQ1
  go_wp2
  go_ret
  rw [HR.out]
  exact ⟨rfl,hbq⟩
 have h0':((r.err:Int) != 0) = true:=by rw [bne_iff_ne];omega
 have HR:Hid (r.fin = r.err):=by unfold Hid Rd.fin;rw [if_pos h0]
 clear h0
 go_enter func79,ntmps79
 go_wp2_with fail
 refine HE.out.mono ?_
 rintro e w' ⟨rfl,rfl⟩
 go_wp2
 go_ret
 rw [HR.out]
 exact ⟨rfl,Below.refl _ _⟩
theorem mP {w wa w1 w2:World} {b:Nat} (h0:Below w.heap.size w wa) (hg:wa.grownBy w1 (some b)) (hb:Below w.heap.size w1 w2):w.grownBy w2 (some b) :=
 ⟨by rw [hb.os,hg.os,h0.os],by rw [hb.tape,hg.tape,h0.tape],by rw [hb.output,hg.output,h0.output],by have:=h0.size;have:=hg.size;have:=hb.size;omega,
  fun k hk hne => by rw [hb.block k hk,hg.block k (by have:=h0.size;omega) hne,h0.block k hk]⟩
theorem Arr.grown {w w':World} {b n B:Nat} {c:Nat → Value} (h:Arr w b n c) (hg:w.grownBy w' (some B)) (hne:b ≠ B):Arr w' b n c :=
 ⟨fun k hk => hg.cell (h.cell k hk) (by simpa using hne),fun k hk => by
  rw [World.frozen?_of_block (w:=w) (a:=⟨b,k,none⟩) (hg.block b (h.lt (by omega)) (by simpa using hne))];exact h.free k hk⟩
def idOf (s:ByteArray):List UInt8:=(List.range 32).map (blk s)
def Rd.id (r:Rd):Rd × List UInt8:=((r.raw 32).1,idOf (r.raw 32).2)
theorem gF (s:ByteArray):(idOf s).length = 32:=by simp [idOf]
theorem Rd.jD (r:Rd) (n:Nat):(r.raw n).2.size ≤ n:=by
 unfold Rd.raw
 split
 ·exact Nat.zero_le _
 split
 ·exact Nat.zero_le _
 show (r.s.extract r.pos (r.pos + n)).size ≤ n
 rw [ByteArray.size_extract];omega
def idB (s:ByteArray) (n k:Nat):Value:=if k < n then .int .u8 ((blk s k).toNat:Int) else .int .u8 0
theorem Mj (s:ByteArray):idB s 0 = fun _ => .int .u8 0:=by funext k;unfold idB;rw [if_neg (by omega)]
theorem Mk (s:ByteArray) (n k:Nat):upd (idB s n) n (.int .u8 ((blk s n).toNat:Int)) k = idB s (n + 1) k:=by
 unfold upd idB
 by_cases e:k = n
 ·subst e;rw [if_pos rfl,if_pos (by omega)]
 rw [if_neg e]
 by_cases h:k < n
 ·rw [if_pos h,if_pos (by omega)]
 rw [if_neg h,if_neg (by omega)]
theorem GL (s:ByteArray) (k:Nat):idB s s.size k = .int .u8 ((blk s k).toNat:Int):=by
 unfold idB
 by_cases h:k < s.size
 ·rw [if_pos h]
 rw [if_neg h]
 have e:blk s k = 0:=by unfold blk;rw [List.getD_eq_getElem?_getD,List.getElem?_eq_none (by simpa using h)];rfl
 rw [e];rfl
theorem AU (x:List UInt8):∀ v ∈ x.map (fun b => Value.int .u8 (b.toNat:Int)),v.oneCell' = true:=by
 intro v hv;obtain ⟨x,_,rfl⟩:=List.mem_map.1 hv;rfl
theorem Aj (b:Nat) (r:Rd) (w:World) (hA:Arr w b 3 r.c) (hf:r.fine) :
  Calls prog 126 #[.pointer (some ⟨b,0,none⟩)] w fun e w' => e = .returned (idV r.id.2) ∧ Arr w' b 3 r.id.1.c ∧ w.grownBy w' (some b):=by
 have hbl:b < w.heap.size:=hA.lt (by omega)
 have HR:=ah (uH b r 32 (w.alloc (.cells (Array.replicate 32 (.int .u8 0)) 24)) (hA.alloc (by omega) _) hf (by omega))
 have hs:=Rd.jD r 32
 have HF:Hid (idV r.id.2 = .agg ((idOf (r.raw 32).2).map fun b => Value.int .u8 (b.toNat:Int)).toArray):=ah rfl
 have HG:Hid (r.id.1 = (r.raw 32).1):=ah rfl
 have hO:=Arr.new w 32 (.int .u8 0) 24
 have HO:=ah hO
 generalize r.raw 32 = x at HR hs HF HG
 obtain ⟨r1,s⟩:=x
 dsimp only at HR hs HF HG
 clear hA hf hO
 go_enter func126,ntmps126
 go_wp2_with fail
 refine HR.out.mono ?_
 rintro e w1 ⟨rfl,hA1,hg1⟩
 have HA1:=ah hA1
 have HG1:=ah hg1
 have HO1:=ah (HO.out.grown hg1 (by omega))
 have HX0:Hid (Arr (w1.alloc (.cells (Array.replicate 32 (.int .u8 0)) 24)) w1.heap.size 32 (idB s 0)):=by rw [Mj];exact ah (Arr.new w1 32 _ _)
 have hw1:w.heap.size < w1.heap.size:=HO1.out.lt (by omega)
 clear hA1 hg1
 go_wp2
 go_loopw [5] (fun i wr => ∃ k:Nat,k ≤ s.size ∧ i = .int .i64 k ∧ Arr wr w1.heap.size 32 (idB s k) ∧ Below w1.heap.size w1 wr) (fun i _ => (s.size - intOf i).toNat)
 case atStart => exact ⟨0,by omega,rfl,HX0.out,bal⟩
 obtain ⟨wo,rfl⟩:∃ wo:World,wo = wr:=⟨_,rfl⟩
 obtain ⟨k,hk,rfl,hX,hb⟩:=hrel
 clear HX0
 by_cases hlt:k < s.size
 ·have HI:∀ w,(Instr.index 9 (.string s) (.int .i64 (k:Int))).run prog w = .ok (.int .u8 ((blk s k).toNat:Int)) w:=fun w => by rw [dB s w k hlt,lS]
  have c1:=hX.cell k (by omega)
  have f1:=hX.free k (by omega)
  have hX1:=ah hX
  have HB:=ah hb
  have k0:(0:Int) ≤ k:=by omega
  have k1:(k:Int) < 32:=by omega
  have hd:decide ((k:Int) < s.size) = true:=decide_eq_true (by omega)
  clear hX hb
  go_wp2
  go_roundw
  case rel => exact ⟨k + 1,by omega,by go_num,(hX1.out.set k (by omega) (.int .u8 ((blk s k).toNat:Int))).congr (fun q _ => Mk s k q),HB.out.setCell (Nat.le_refl _) _⟩
  case measure => simp [intOf];omega
 obtain rfl:k = s.size:=by omega
 have hd:decide ((s.size:Int) < s.size) = false:=decide_eq_false (by omega)
 have hr:=hX.range
 have e8:(List.range 32).map (idB s s.size) = (idOf s).map fun b => Value.int .u8 (b.toNat:Int):=by
  unfold idOf;rw [List.map_map]
  exact List.map_congr_left fun k _ => GL s k
 rw [e8] at hr
 have hO5:Arr wo w.heap.size 32 (fun _ => .int .u8 0):=HO1.out.below hb hw1
 have hlen:((idOf s).map fun b => Value.int .u8 (b.toNat:Int)).length = 32:=by rw [Df];exact gF s
 have hone:=AU (idOf s)
 generalize (idOf s).map (fun b => Value.int .u8 (b.toNat:Int)) = us at hr hlen hone HF
 have h32:(prog.info? 24).map (·.size) = some 32:=by kernel_rfl
 have h32u:(prog.info? 24).map (·.size) = some us.length:=by rw [hlen];exact h32
 have hth:=hO5.there
 have HFR:=ah (World.rangeAt_setCells_same wo w.heap.size 0 us (by rw [hlen];exact hth))
 have HTH:=ah hth
 have HLN:=ah hlen
 have HON:=ah hone
 have HBF:=ah (below_setCells (B:=w.heap.size) (a:=w1) w.heap.size (Nat.le_refl _) us 0 wo (hb.mono (by omega)))
 have hb1:=HBF.out
 have HFIN:=ah (mP bal HG1.out hb1)
 have HAF:=ah (HA1.out.below hb1 hbl)
 clear hX hb e8 hth hlen hone hO5 hb1
 go_wp2_with (first | (refine wpList_load_mid rfl 24 _ rfl w1.heap.size 0 rfl us _ hr underlying24 rfl h32u ?_) | (refine aj rfl 24 _ _ rfl w.heap.size 0 us ?y1 ?y2 32 HLN.out ?y4 h32 HON.out ?_))
 try case y1 => rfl
 try case y2 => rfl
 case y4 => exact HTH.out
 simp only [Act.put]
 refine gU rfl w.heap.size 0 rfl us _ HFR.out underlying24 rfl h32u rfl ⟨by rw [HF.out],by rw [HG.out];exact HAF.out,HFIN.out⟩
structure Behind (k:Nat) (r r':Rd):Prop where
 s:r'.s.data.toList = r.s.data.toList.drop k
 pos:r.pos = k + r'.pos
 err:r.err = r'.err
 fit:k ≤ r.s.size
theorem Behind.size {k:Nat} {r r':Rd} (h:Behind k r r'):r.s.size = k + r'.s.size:=by
 have h1:=congrArg List.length h.s
 have h2:=h.fit
 simp only [List.length_drop] at h1
 have e1:r'.s.data.toList.length = r'.s.size:=by simp
 have e2:r.s.data.toList.length = r.s.size:=by simp
 omega
theorem iT (s:ByteArray) (i n:Nat):(s.extract i (i + n)).data.toList = (s.data.toList.drop i).take n:=by
 rw [ByteArray.data_extract,Array.toList_extract,List.extract_eq_take_drop,Nat.add_sub_cancel_left]
theorem Behind.left {k:Nat} {r r':Rd} (h:Behind k r r'):r.left = r'.left:=by
 unfold Rd.left
 rw [h.s,List.drop_drop,h.pos]
theorem Behind.num {k:Nat} {r r':Rd} (h:Behind k r r') (most:Nat):Behind k (r.num most).1 (r'.num most).1 ∧ (r.num most).2 = (r'.num most).2:=by
 unfold Rd.num
 rw [← h.err]
 by_cases he:r.err ≠ 0
 ·rw [if_pos he,if_pos he];exact ⟨h,rfl⟩
 rw [if_neg he,if_neg he,h.left]
 cases bG r'.left most 6 0 0 with
 | inl e => exact ⟨⟨h.s,h.pos,rfl,h.fit⟩,rfl⟩
 | inr x => exact ⟨⟨h.s,by have:=h.pos;show r.pos + x.2 = k + (r'.pos + x.2);omega,rfl,h.fit⟩,rfl⟩
theorem Behind.raw {k:Nat} {r r':Rd} (h:Behind k r r') (n:Nat):Behind k (r.raw n).1 (r'.raw n).1 ∧ (r.raw n).2 = (r'.raw n).2:=by
 have hs:=h.size
 have hp:=h.pos
 unfold Rd.raw
 rw [← h.err]
 by_cases he:r.err ≠ 0
 ·rw [if_pos he,if_pos he];exact ⟨h,rfl⟩
 rw [if_neg he,if_neg he]
 by_cases hn:r.s.size - r.pos < n
 ·rw [if_pos hn,if_pos (by omega)];exact ⟨⟨h.s,h.pos,rfl,h.fit⟩,rfl⟩
 rw [if_neg hn,if_neg (by omega)]
 refine ⟨⟨h.s,by show r.pos + n = k + (r'.pos + n);omega,rfl,h.fit⟩,?_⟩
 show r.s.extract r.pos (r.pos + n) = r'.s.extract r'.pos (r'.pos + n)
 refine ba_eq ?_
 rw [iT,iT,h.s,h.pos,List.drop_drop]
theorem Behind.text {k:Nat} {r r':Rd} (h:Behind k r r') (most:Nat):Behind k (r.text most).1 (r'.text most).1 ∧ (r.text most).2 = (r'.text most).2:=by
 obtain ⟨h1,h2⟩:=h.num most
 obtain ⟨h3,h4⟩:=h1.raw (r.num most).2
 unfold Rd.text
 rw [← h.err]
 rw [← h2]
 by_cases he:r.err ≠ 0
 ·rw [if_pos he,if_pos he];exact ⟨h,rfl⟩
 rw [if_neg he,if_neg he]
 rw [← h3.err]
 by_cases h5:((r.num most).1.raw (r.num most).2).1.err ≠ 0
 ·rw [if_pos h5,if_pos h5];exact ⟨⟨h3.s,h.pos,h3.err,h3.fit⟩,rfl⟩
 rw [if_neg h5,if_neg h5];exact ⟨h3,h4⟩
theorem Behind.fin {k:Nat} {r r':Rd} (h:Behind k r r'):r.fin = r'.fin:=by
 have hs:=h.size
 have hp:=h.pos
 unfold Rd.fin
 rw [← h.err]
 by_cases he:r.err ≠ 0
 ·rw [if_pos he,if_pos he]
 rw [if_neg he,if_neg he]
 by_cases h1:r.pos < r.s.size
 ·rw [if_pos h1,if_pos (by omega)]
 rw [if_neg h1,if_neg (by omega)]
end
end Go.Proofs.YtijhemdnajlfnaaGreatDoor
