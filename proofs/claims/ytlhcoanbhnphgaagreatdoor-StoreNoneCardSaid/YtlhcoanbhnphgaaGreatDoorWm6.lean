/- A part of this claim. -/
import Derived.Lib.SlBytesRow
import Derived.ScopeJumps
import Derived.Test.YtlhcoanbhnphgaaGreatDoorWm5
import Derived.WalkMore
namespace Go.Proofs.YtlhcoanbhnphgaaGreatDoor
open Tryz
set_option maxHeartbeats 64000000
set_option maxRecDepth 100000
section
open Go.RowKit
def Rd.text (r:Rd) (most:Nat):Rd × ByteArray :=
 if r.err ≠ 0 then (r,ByteArray.empty) else
  if ((r.num most).1.raw (r.num most).2).1.err ≠ 0 then ({ ((r.num most).1.raw (r.num most).2).1 with pos:=r.pos },ByteArray.empty) else (r.num most).1.raw (r.num most).2
def Rd.fin (r:Rd):Nat:=if r.err ≠ 0 then r.err else if r.pos < r.s.size then 5 else 0
theorem Rd.Cx (r:Rd) (most:Nat):(r.num most).1.s = r.s:=by
 unfold Rd.num
 split
 ·rfl
 split <;> rfl
theorem Rd.Cr (r:Rd) (n:Nat):(r.raw n).1.s = r.s:=by
 unfold Rd.raw
 split
 ·rfl
 split <;> rfl
theorem Rd.bX (r:Rd) (most:Nat) (h:r.fine):(r.text most).1.fine:=by
 have h1:=Rd.rZ _ (r.num most).2 (Rd.cu r most h).1
 unfold Rd.text
 split
 ·exact h
 split
 ·exact ⟨by show r.pos ≤ ((r.num most).1.raw (r.num most).2).1.s.size;rw [Rd.Cr,Rd.Cx];exact h.pos,h1.size,h1.err⟩
 exact h1
theorem ni (b:Nat) (r:Rd) (w:World) (hA:Arr w b 3 r.c) :
  Calls prog 195 #[.pointer (some ⟨b,0,none⟩)] w fun e w' => e = .returned (.int .i64 (r.err:Int)) ∧ w' = w:=by
 have c2:w.cell? ⟨b,2,none⟩ = some (.int .i64 (r.err:Int)):=hA.cell 2 (by omega)
 clear hA
 go_enter func195,ntmps195
 go_wp2
 go_ret
 exact ⟨rfl,rfl⟩
theorem qK (b:Nat) (r:Rd) (w:World) (hA:Arr w b 3 r.c) :
  Calls prog 133 #[.pointer (some ⟨b,0,none⟩)] w fun e w' => e = .returned (.int .i64 (r.pos:Int)) ∧ w' = w:=by
 have c1:w.cell? ⟨b,1,none⟩ = some (.int .i64 (r.pos:Int)):=hA.cell 1 (by omega)
 clear hA
 go_enter func133,ntmps133
 go_wp2
 go_ret
 exact ⟨rfl,rfl⟩
def Rd.fail (r:Rd) (e p:Nat):Rd:=if r.err = 0 then { r with err:=e,pos:=p } else r
theorem vk (b:Nat) (r:Rd) (e p:Nat) (w:World) (hA:Arr w b 3 r.c) :
  Calls prog 196 #[.pointer (some ⟨b,0,none⟩),.int .i64 (e:Int),.int .i64 (p:Int)] w fun x w' => x = .returned (.tuple #[]) ∧ Arr w' b 3 (r.fail e p).c ∧ w.grownBy w' (some b):=by
 have c1:w.cell? ⟨b,1,none⟩ = some (.int .i64 (r.pos:Int)):=hA.cell 1 (by omega)
 have c2:w.cell? ⟨b,2,none⟩ = some (.int .i64 (r.err:Int)):=hA.cell 2 (by omega)
 have f1:=hA.free 1 (by omega)
 have f2:=hA.free 2 (by omega)
 have HA:=ah hA
 clear hA
 by_cases h0:r.err = 0
 ·have h0':((r.err:Int) == 0) = true:=by rw [beq_iff_eq];omega
  have HR:Hid (r.fail e p = { r with err:=e,pos:=p }):=by unfold Hid Rd.fail;rw [if_pos h0]
  clear h0
  go_enter func196,ntmps196
  go_wp2
  go_end0
  rw [HR.out]
  exact ⟨rfl,(((HA.out.set 2 (by omega) (.int .i64 (e:Int))).congr (Rd.Jj r e)).set 1 (by omega) (.int .i64 (p:Int))).congr (Rd.fK _ p),bg (bg (aU (Below.refl _ _) _) _) _⟩
 have h0':((r.err:Int) == 0) = false:=by rw [beq_eq_false_iff_ne];omega
 have HR:Hid (r.fail e p = r):=by unfold Hid Rd.fail;rw [if_neg h0]
 clear h0
 go_enter func196,ntmps196
 go_wp2
 go_end0
 rw [HR.out]
 exact ⟨rfl,HA.out,aU (Below.refl _ _) _⟩
theorem Rd.Iu (r:Rd) (h0:r.err = 0):r.fail 3 r.pos = { r with err:=3 }:=by unfold Rd.fail;rw [if_pos h0]
theorem qW (b:Nat) (r:Rd) (n:Nat) (w:World) (hA:Arr w b 3 r.c) (hf:r.fine) (hn:n ≤ 1000000000) :
  Calls prog 200 #[.pointer (some ⟨b,0,none⟩),.int .i64 (n:Int)] w fun e w' => e = .returned (.string (r.raw n).2) ∧ Arr w' b 3 (r.raw n).1.c ∧ w.grownBy w' (some b):=by
 have hbl:b < w.heap.size:=hA.lt (by omega)
 have c0:w.cell? ⟨b,0,none⟩ = some (.string r.s):=hA.cell 0 (by omega)
 have c1:w.cell? ⟨b,1,none⟩ = some (.int .i64 (r.pos:Int)):=hA.cell 1 (by omega)
 have f1:=hA.free 1 (by omega)
 have hp:=hf.pos
 have hs:=hf.size
 have hn0:decide ((n:Int) < 0) = false:=decide_eq_false (by omega)
 have HA:=ah hA
 have HE:=ah (ni b r w hA)
 clear hA
 by_cases h0:r.err = 0
 ·have h0':((r.err:Int) != 0) = false:=by rw [bne_eq_false_iff_eq];omega
  by_cases hlt:r.s.size - r.pos < n
  ·have HR:Hid (r.raw n = (r.fail 3 r.pos,ByteArray.empty)):=by unfold Hid Rd.raw;rw [if_neg (by simp [h0]),if_pos hlt,Rd.Iu r h0]
   have hd:decide ((r.s.size:Int) - r.pos < n) = true:=decide_eq_true (by omega)
   have hw:IntKind.i64.wrap ((r.s.size:Int) - r.pos) = (r.s.size:Int) - r.pos:=IntWalk.i64_in _ (by omega)
   have H0:=ah h0
   clear h0 hlt hf
   go_enter func200,ntmps200
   go_wp2_with fail
   refine HE.out.mono ?_
   rintro e w' ⟨rfl,rfl⟩
   go_wp2
   refine wbq ?_
   have LQ0:=blq c0
   have LQ1:=blq c1
   repeat (go_big_quiet_step (fail))
   refine wpQuiet_nil ?_
   intro wq hbq
   clear LQ0 LQ1
   have g1:=aA c1 hbq hbl
   have HF:=ah (vk b r 3 r.pos wq (HA.out.below hbq hbl))
   have HB:=ah hbq
   clear c0 c1 f1 hbq
   go_wp2_with fail
   refine HF.out.mono ?_
   rintro e w2 ⟨rfl,hA2,hg2⟩
   have HA2:=ah hA2
   have HG2:=ah (dU (aU HB.out (some b)) hg2)
   clear hA2 hg2
   go_wp2
   go_ret
   rw [HR.out]
   exact ⟨rfl,HA2.out,HG2.out⟩
  have HR:Hid (r.raw n = ({ r with pos:=r.pos + n },r.s.extract r.pos (r.pos + n))):=by unfold Hid Rd.raw;rw [if_neg (by simp [h0]),if_neg hlt]
  have hd:decide ((r.s.size:Int) - r.pos < n) = false:=decide_eq_false (by omega)
  have hw:IntKind.i64.wrap ((r.s.size:Int) - r.pos) = (r.s.size:Int) - r.pos:=IntWalk.i64_in _ (by omega)
  have hw2:IntKind.i64.wrap ((r.pos:Int) + n) = (r.pos:Int) + n:=IntWalk.i64_in _ (by omega)
  have HSL:=fun w => kZ r.s r.pos n (by omega) w
  have H0:=ah h0
  clear h0 hlt hf
  go_enter func200,ntmps200
  go_wp2_with fail
  refine HE.out.mono ?_
  rintro e w' ⟨rfl,rfl⟩
  go_wp2
  refine wbq ?_
  have LQ0:=blq c0
  have LQ1:=blq c1
  repeat (go_big_quiet_step (fail))
  refine wpQuiet_nil ?_
  intro wq hbq
  clear LQ0 LQ1
  obtain ⟨wa,rfl⟩:∃ wa:World,wa = wq:=⟨_,rfl⟩
  have hb1:=hbq
  clear hbq
  have d0:=aA c0 hb1 hbl
  have d1:=aA c1 hb1 hbl
  have hbl2:b < wa.heap.size:=by have:=hb1.size;omega
  go_wp2
  refine wbq ?_
  have LQ0:=blq d0
  have LQ1:=blq d1
  repeat (go_big_quiet_step (fail))
  refine wpQuiet_nil ?_
  intro wq hbq
  clear LQ0 LQ1
  have hb2:=hb1.trans (hbq.mono hb1.size)
  have g1:=aA c1 hb2 hbl
  have k1:wq.frozen? ⟨b,1,none⟩ = false:=by rw [hb2.frozen (p:=⟨b,1,none⟩) hbl];exact f1
  have HB2:=ah hb2
  clear c0 c1 f1 d0 d1 hb1 hb2 hbq HSL
  go_wp2
  go_ret
  rw [HR.out]
  exact ⟨rfl,((HA.out.below HB2.out hbl).set 1 (by omega) (.int .i64 ((r.pos + n:Nat):Int))).congr (Rd.fK r _),bg (aU HB2.out _) _⟩
 have h0':((r.err:Int) != 0) = true:=by rw [bne_iff_ne];omega
 have HR:Hid (r.raw n = (r,ByteArray.empty)):=by unfold Hid Rd.raw;rw [if_pos h0]
 clear h0 hf
 go_enter func200,ntmps200
 go_wp2_with fail
 refine HE.out.mono ?_
 rintro e w' ⟨rfl,rfl⟩
 go_wp2
 go_ret
 rw [HR.out]
 exact ⟨rfl,HA.out,aU (Below.refl _ _) _⟩
theorem iD (b:Nat) (r:Rd) (w:World) (hA:Arr w b 3 r.c) (hf:r.fine) :
  Calls prog 132 #[.pointer (some ⟨b,0,none⟩)] w fun e w' => e = .returned (.int .i64 (r.fin:Int)) ∧ Below w.heap.size w w':=by
 have hbl:b < w.heap.size:=hA.lt (by omega)
 have c0:w.cell? ⟨b,0,none⟩ = some (.string r.s):=hA.cell 0 (by omega)
 have c1:w.cell? ⟨b,1,none⟩ = some (.int .i64 (r.pos:Int)):=hA.cell 1 (by omega)
 have hs:=hf.size
 have HE:=ah (ni b r w hA)
 clear hA hf
 by_cases h0:r.err = 0
 ·have h0':((r.err:Int) != 0) = false:=by rw [bne_eq_false_iff_eq];omega
  by_cases hlt:r.pos < r.s.size
  ·have HR:Hid (r.fin = 5):=by unfold Hid Rd.fin;rw [if_neg (by simp [h0]),if_pos hlt]
   have hd:decide (r.pos < r.s.size) = true:=decide_eq_true hlt
   have hd2:decide ((r.pos:Int) < r.s.size) = true:=decide_eq_true (by omega)
   clear h0
   go_enter func132,ntmps132
   go_wp2_with fail
   refine HE.out.mono ?_
   rintro e w' ⟨rfl,rfl⟩
   go_wp2
   refine wbq ?_
   have LQ0:=blq c0
   have LQ1:=blq c1
   repeat (go_big_quiet_step (fail))
   refine wpQuiet_nil ?_
   intro wq hbq
   clear LQ0 LQ1
   go_wp2
   go_ret
   rw [HR.out]
   exact ⟨rfl,hbq⟩
  have HR:Hid (r.fin = 0):=by unfold Hid Rd.fin;rw [if_neg (by simp [h0]),if_neg hlt]
  have hd:decide (r.pos < r.s.size) = false:=decide_eq_false hlt
  have hd2:decide ((r.pos:Int) < r.s.size) = false:=decide_eq_false (by omega)
  clear h0
  go_enter func132,ntmps132
  go_wp2_with fail
  refine HE.out.mono ?_
  rintro e w' ⟨rfl,rfl⟩
  go_wp2
  refine wbq ?_
  have LQ0:=blq c0
  have LQ1:=blq c1
  repeat (go_big_quiet_step (fail))
  refine wpQuiet_nil ?_
  intro wq hbq
  clear LQ0 LQ1
  go_wp2
  go_ret
  rw [HR.out]
  exact ⟨rfl,hbq⟩
 have h0':((r.err:Int) != 0) = true:=by rw [bne_iff_ne];omega
 have HR:Hid (r.fin = r.err):=by unfold Hid Rd.fin;rw [if_pos h0]
 clear h0
 go_enter func132,ntmps132
 go_wp2_with fail
 refine HE.out.mono ?_
 rintro e w' ⟨rfl,rfl⟩
 go_wp2
 go_ret
 rw [HR.out]
 exact ⟨rfl,Below.refl _ _⟩
theorem qd {w wa w1 w2:World} {b:Nat} (h0:Below w.heap.size w wa) (hg:wa.grownBy w1 (some b)) (hb:Below w.heap.size w1 w2):w.grownBy w2 (some b) :=
 ⟨by rw [hb.os,hg.os,h0.os],by rw [hb.tape,hg.tape,h0.tape],by rw [hb.output,hg.output,h0.output],by have:=h0.size;have:=hg.size;have:=hb.size;omega,
  fun k hk hne => by rw [hb.block k hk,hg.block k (by have:=h0.size;omega) hne,h0.block k hk]⟩
theorem Arr.grown {w w':World} {b n B:Nat} {c:Nat → Value} (h:Arr w b n c) (hg:w.grownBy w' (some B)) (hne:b ≠ B):Arr w' b n c :=
 ⟨fun k hk => hg.cell (h.cell k hk) (by simpa using hne),fun k hk => by
  rw [World.frozen?_of_block (w:=w) (a:=⟨b,k,none⟩) (hg.block b (h.lt (by omega)) (by simpa using hne))];exact h.free k hk⟩
def idOf (s:ByteArray):List UInt8:=(List.range 32).map (blk s)
def Rd.id (r:Rd):Rd × List UInt8:=((r.raw 32).1,idOf (r.raw 32).2)
theorem gU (s:ByteArray):(idOf s).length = 32:=by simp [idOf]
theorem Rd.nH (r:Rd) (n:Nat):(r.raw n).2.size ≤ n:=by
 unfold Rd.raw
 split
 ·exact Nat.zero_le _
 split
 ·exact Nat.zero_le _
 show (r.s.extract r.pos (r.pos + n)).size ≤ n
 rw [ByteArray.size_extract];omega
def idB (s:ByteArray) (n k:Nat):Value:=if k < n then .int .u8 ((blk s k).toNat:Int) else .int .u8 0
theorem JL (s:ByteArray) (k:Nat):idB s s.size k = .int .u8 ((blk s k).toNat:Int):=by
 unfold idB
 by_cases h:k < s.size
 ·rw [if_pos h]
 rw [if_neg h]
 have e:blk s k = 0:=by unfold blk;rw [List.getD_eq_getElem?_getD,List.getElem?_eq_none (by simpa using h)];rfl
 rw [e];rfl
theorem CO (x:List UInt8):∀ v ∈ x.map (fun b => Value.int .u8 (b.toNat:Int)),v.oneCell' = true:=by
 intro v hv;obtain ⟨x,_,rfl⟩:=List.mem_map.1 hv;rfl
def jS (c:ByteArray):Nat → Nat → W32
 | 0 => gX
 | n + 1 => d9 (jS c n) (blk (c.extract (64 * n) (64 * n + 64)))
def AL (s:ByteArray):Nat → W32:=jS (ofB (lenL s.data.toList)) ((lenL s.data.toList).length / 64)
def shaR (s:ByteArray):List UInt8:=(List.range 32).map (stB (AL s))
theorem G8 (l:List UInt8):∃ n,(lenL l).length = 64 * n:=by
 have h:(lenL l).length = l.length + 1 + padN ((l.length + 1) % 64) + 8:=by
  unfold lenL be64;simp;omega
 refine ⟨(lenL l).length / 64,?_⟩
 rw [h];unfold padN;omega
end
section
theorem ng {r q:Nat → UInt8} (h:∀ k,k < 64 → r k = q k) (i:Nat) (hi:i < 16):∀ j,j ≤ 4 → ko r i j = ko q i j
 | 0,_ => rfl
 | j + 1,hj => by
  unfold ko
  rw [ng h i hi j (by omega),h _ (by omega)]
theorem pQ {r q:Nat → UInt8} (h:∀ k,k < 64 → r k = q k):∀ n,aW r n = aW q n
 | 0 => by
  funext k;unfold aW fQ
  by_cases hk:k < 16
  ·rw [if_pos hk,if_pos hk,ng h k hk 4 (by omega)]
  rw [if_neg hk,if_neg hk];split <;> rfl
 | n + 1 => by unfold aW;rw [pQ h n]
theorem qm (s:Nat → W32) {r q:Nat → UInt8} (h:∀ k,k < 64 → r k = q k):d9 s r = d9 s q:=by
 funext k;unfold d9;rw [pQ h]
theorem wG (h:HS) (hm:h.many = 0) (c:List UInt8) (hc:c.length = 64):∀ j,j ≤ 63 →
  (h.feed (c.take j)).many = j ∧ (h.feed (c.take j)).st = h.st ∧ ∀ k,k < j → (h.feed (c.take j)).rest k = c.getD k 0
 | 0,_ => ⟨hm,rfl,fun k hk => by omega⟩
 | j + 1,hj => by
  obtain ⟨h1,h2,h3⟩:=wG h hm c hc j (by omega)
  have e:c.take (j + 1) = c.take j ++ [c.getD j 0]:=by
   rw [List.take_succ_eq_append_getElem (by omega)];congr 1;simp [show j < c.length from by omega]
  rw [e,kQ]
  generalize h.feed (c.take j) = g at h1 h2 h3
  unfold HS.put
  rw [h1,if_neg (by omega)]
  refine ⟨rfl,h2,fun k hk => ?_⟩
  show upd g.rest j _ k = _
  unfold upd
  by_cases ek:k = j
  ·subst ek;rw [if_pos rfl]
  rw [if_neg ek];exact h3 k (by omega)
theorem BI (h:HS) (hm:h.many = 0) (c:List UInt8) (hc:c.length = 64) :
  (h.feed c).many = 0 ∧ (h.feed c).st = d9 h.st (fun k => c.getD k 0):=by
 obtain ⟨h1,h2,h3⟩:=wG h hm c hc 63 (by omega)
 have e:c = c.take 63 ++ [c.getD 63 0]:=by
  have t:=List.take_succ_eq_append_getElem (l:=c) (i:=63) (by omega)
  have t2:c.take (63 + 1) = c:=List.take_of_length_le (by omega)
  have g:c.getD 63 0 = c[63]:=by simp [show 63 < c.length from by omega]
  rw [g];rw [t2] at t;exact t
 have e2:h.feed c = (h.feed (c.take 63)).put (c.getD 63 0):=by rw [← kQ,← e]
 rw [e2]
 generalize h.feed (c.take 63) = g at h1 h2 h3
 unfold HS.put
 rw [h1,if_pos (by omega)]
 refine ⟨rfl,?_⟩
 show d9 g.st _ = _
 rw [h2]
 refine qm _ fun k hk => ?_
 unfold upd
 by_cases ek:k = 63
 ·subst ek;rw [if_pos rfl]
 rw [if_neg ek];exact h3 k (by omega)
theorem qg (h:HS) (hm:h.many = 0) (hs:h.st = gX) (L:List UInt8) (N:Nat) (hL:L.length = 64 * N):∀ n,n ≤ N →
  (h.feed (L.take (64 * n))).many = 0 ∧ (h.feed (L.take (64 * n))).st = jS (ofB L) n
 | 0,_ => ⟨hm,hs⟩
 | n + 1,hn => by
  obtain ⟨h1,h2⟩:=qg h hm hs L N hL n (by omega)
  have e:L.take (64 * (n + 1)) = L.take (64 * n) ++ (L.drop (64 * n)).take 64:=by
   rw [show 64 * (n + 1) = 64 * n + 64 from by omega,List.take_add]
  rw [e,nW]
  obtain ⟨h3,h4⟩:=BI (h.feed (L.take (64 * n))) h1 ((L.drop (64 * n)).take 64) (by rw [List.length_take,List.length_drop];omega)
  refine ⟨h3,?_⟩
  rw [h4,h2]
  show _ = d9 (jS (ofB L) n) (blk ((ofB L).extract (64 * n) (64 * n + 64)))
  refine qm _ fun k hk => ?_
  unfold blk
  rw [Lib.extract_data,aX,show 64 * n + 64 - 64 * n = 64 from by omega]
def HS.noT (h:HS):HS:={ h with taken:=0 }
theorem GJ (h:HS):h.noT.st = h.st:=rfl
theorem xB (h:HS) (x:UInt8):(h.put x).noT = h.noT.put x:=by unfold HS.put HS.noT;dsimp only;split <;> rfl
theorem nV (l:List UInt8):∀ h:HS,(h.feed l).noT = h.noT.feed l:=by
 induction l with
 | nil => intro h;rfl
 | cons x l ih => intro h;show ((h.put x).feed l).noT = (h.noT.put x).feed l;rw [ih,xB]
theorem D5 (h:HS) (x:UInt8):(h.put x).begun = h.begun:=by unfold HS.put;split <;> rfl
theorem BJ (l:List UInt8):∀ h:HS,(h.feed l).begun = h.begun:=by
 induction l with
 | nil => intro h;rfl
 | cons x l ih => intro h;show ((h.put x).feed l).begun = _;rw [ih,D5]
theorem KT (s:ByteArray):shaP s = shaR s:=by
 obtain ⟨N,hN⟩:=G8 s.data.toList
 have hsz:s.data.toList.length = s.size:=by simp
 unfold shaP shaR HS.sum AL
 have key:(bP.w1 s 1).ended.st = jS (ofB (lenL s.data.toList)) ((lenL s.data.toList).length / 64):=by
  have hw:bP.w1 s 1 = { bP.begin.feed s.data.toList with taken:=(s.size:Int) }:=by unfold HS.w1;rw [if_neg (by omega)]
  have hb:(bP.w1 s 1).begin = bP.w1 s 1:=by
   unfold HS.begin
   rw [if_pos (by rw [hw];exact (BJ s.data.toList bP.begin).trans rfl)]
  have hmany:((bP.w1 s 1).put 128).many = (s.size + 1) % 64:=by
   rw [jI _ _ (by rw [hw];exact HS.lM _ _ (by show 0 < 64;omega)),hw]
   show ((bP.begin.feed s.data.toList).many + 1) % 64 = _
   rw [lZ _ (by show 0 < 64;omega),hsz]
   show ((0 + s.size) % 64 + 1) % 64 = _
   omega
  have ht:(bP.w1 s 1).taken.toNat = s.size:=by rw [hw];exact Int.toNat_natCast _
  have e:(bP.w1 s 1).ended.noT = (bP.begin.feed (lenL s.data.toList)).noT:=by
   unfold HS.ended
   rw [hb,hmany,ht,nV,nV,xB]
   have h1:(bP.w1 s 1).noT = (bP.begin.feed s.data.toList).noT:=by rw [hw];rfl
   rw [h1,← xB,← nV,← nV,← kQ,← nW,← nW]
   unfold lenL
   rw [hsz]
   congr 2
   simp
  have e2:=congrArg HS.st e
  rw [GJ,GJ] at e2
  rw [e2,hN,Nat.mul_div_cancel_left _ (by omega)]
  have:=(qg bP.begin rfl rfl (lenL s.data.toList) N hN N (Nat.le_refl _)).2
  rwa [List.take_of_length_le (by omega)] at this
 rw [key]
theorem vM {s t:Nat → W32} (h:∀ k,k < 8 → s k = t k) (w:Nat → W32):∀ n,∀ k,k < 8 → bW w s n k = bW w t n k
 | 0 => h
 | n + 1 => fun k hk => by
  have ih:=vM h w n
  show stepW (bW w s n) _ _ k = stepW (bW w t n) _ _ k
  generalize bW w s n = a at ih ⊢
  generalize bW w t n = b at ih ⊢
  unfold stepW tW uW
  rw [ih 0 (by omega),ih 1 (by omega),ih 2 (by omega),ih 3 (by omega),ih 4 (by omega),ih 5 (by omega),ih 6 (by omega),ih 7 (by omega)]
theorem I8 {s t:Nat → W32} (h:∀ k,k < 8 → s k = t k) (r:Nat → UInt8) (k:Nat) (hk:k < 8):d9 s r k = d9 t r k:=by
 unfold d9;rw [h k hk,vM h _ _ k hk]
def fN {α:Type} (n:Nat) (k:Nat → α):α:=match n with
 | 0 => k 0
 | m + 1 => k (m + 1)
theorem LY {α:Type} (n:Nat) (k:Nat → α):fN n k = k n:=by cases n <;> rfl
def fW {α:Type} (x:W32) (k:W32 → α):α:=fN x.toNat fun n => k (BitVec.ofNat 32 n)
theorem Iw {α:Type} (x:W32) (k:W32 → α):fW x k = k x:=by unfold fW;rw [LY,BitVec.ofNat_toNat,BitVec.setWidth_eq]
def wX:Nat → List W32 → List W32
 | 0,l => l
 | n + 1,l => fW (nu (l.getD 1 0) 17 19 10 + l.getD 6 0 + nu (l.getD 14 0) 7 18 3 + l.getD 15 0) fun x => wX n (x :: l)
structure S8 where
 (a b c d e f g h:W32)
def S8.w (s:S8):Nat → W32:=eight s.a s.b s.c s.d s.e s.f s.g s.h
def S8.step (s:S8) (k w:W32):S8 :=
 let t:=s.h + nC s.e 6 11 25 + (s.e &&& s.f ^^^ ~~~ s.e &&& s.g) + k + w
 ⟨t + (nC s.a 2 13 22 + (s.a &&& s.b ^^^ s.a &&& s.c ^^^ s.b &&& s.c)),s.a,s.b,s.c,s.d + t,s.e,s.f,s.g⟩
def S8.force {α:Type} (s:S8) (k:S8 → α):α:=fW s.a fun a => fW s.b fun b => fW s.c fun c => fW s.d fun d => fW s.e fun e => fW s.f fun f => fW s.g fun g => fW s.h fun h => k ⟨a,b,c,d,e,f,g,h⟩
theorem S8.force_eq {α:Type} (s:S8) (k:S8 → α):s.force k = k s:=by unfold S8.force;simp only [Iw]
def lq:List W32 → List W32 → S8 → S8
 | k :: ks,w :: ws,s => (s.step k w).force fun s => lq ks ws s
 | _,_,s => s
def S8.add (s t:S8):S8:=⟨s.a + t.a,s.b + t.b,s.c + t.c,s.d + t.d,s.e + t.e,s.f + t.f,s.g + t.g,s.h + t.h⟩
def FX (b:List UInt8) (i:Nat):W32:=(((bw (b.getD (4 * i) 0)) <<< 8 ||| bw (b.getD (4 * i + 1) 0)) <<< 8 ||| bw (b.getD (4 * i + 2) 0)) <<< 8 ||| bw (b.getD (4 * i + 3) 0)
def iK (b:List UInt8):Nat → List W32 → List W32
 | 0,l => l
 | n + 1,l => fW (FX b (15 - n)) fun x => iK b n (x :: l)
def xY (s:S8) (b:List UInt8):S8:=(s.add (lq iZ (wX 48 (iK b 16 [])).reverse s)).force id
theorem KR (s:S8) (k w:W32):(s.step k w).w = stepW s.w k w:=rfl
theorem nD (ws:Nat → W32) (s:Nat → W32):∀ n,n ≤ 64 → ∀ (t:S8),t.w = bW ws s (64 - n) → (lq (iZ.drop (64 - n)) ((List.range n).map fun i => ws (64 - n + i)) t).w = bW ws s 64
 | 0,_,t,ht => by simpa [lq] using ht
 | n + 1,hn,t,ht => by
  have hk:iZ.drop (64 - (n + 1)) = rK (64 - (n + 1)) :: iZ.drop (64 - n):=by
   have hl:=mq
   rw [List.drop_eq_getElem_cons (by omega)]
   congr 1
   ·unfold rK;rw [List.getD_eq_getElem?_getD,List.getElem?_eq_getElem (by omega)];rfl
   rw [show 64 - (n + 1) + 1 = 64 - n from by omega]
  rw [hk,List.range_succ_eq_map,List.map_cons,List.map_map]
  unfold lq
  rw [S8.force_eq]
  have hm:(List.range n).map ((fun i => ws (64 - (n + 1) + i)) ∘ Nat.succ) = (List.range n).map fun i => ws (64 - n + i):=List.map_congr_left fun i _ => by
   show ws (64 - (n + 1) + (i + 1)) = _;congr 1;omega
  rw [hm]
  refine nD ws s n (by omega) _ ?_
  rw [KR,ht,show 64 - n = (64 - (n + 1)) + 1 from by omega];rfl
theorem gB (r:Nat → UInt8):∀ n k,k < 16 + n → ∀ m,n ≤ m → aW r m k = aW r n k:=by
 intro n k hk m hm
 induction m with
 | zero =>
  obtain rfl:n = 0:=by omega
  rfl
 | succ m ih =>
  by_cases e:n = m + 1
  ·rw [e]
  rw [← ih (by omega)]
  show upd (aW r m) (16 + m) _ k = _
  unfold upd;rw [if_neg (by omega)]
def revW (f:Nat → W32) (n:Nat):List W32:=((List.range n).map f).reverse
theorem nG (f:Nat → W32) (n i:Nat) (h:i < n):(revW f n).getD i 0 = f (n - 1 - i):=by
 unfold revW
 rw [List.getD_eq_getElem?_getD,List.getElem?_reverse (by simpa using h)]
 simp [show n - 1 - i < n from by omega]
theorem vN (f:Nat → W32) (n:Nat):revW f (n + 1) = f n :: revW f n:=by unfold revW;rw [List.range_succ];simp
theorem vL (r : Nat → UInt8) : ∀ m n, n + m = 48 → wX m (revW (aW r 48) (16 + n)) = revW (aW r 48) 64
  | 0, n, h => by obtain rfl : n = 48 := by omega
                  rfl
  | m + 1, n, h => by
    unfold wX
    rw [Iw, nG _ _ _ (by omega), nG _ _ _ (by omega), nG _ _ _ (by omega), nG _ _ _ (by omega)]
    rw [show 16 + n - 1 - 1 = 16 + n - 2 from by omega, show 16 + n - 1 - 6 = 16 + n - 7 from by omega, show 16 + n - 1 - 14 = 16 + n - 15 from by omega, show 16 + n - 1 - 15 = 16 + n - 16 from by omega]
    have e : aW r 48 (16 + n) = nu (aW r 48 (16 + n - 2)) 17 19 10 + aW r 48 (16 + n - 7) + nu (aW r 48 (16 + n - 15)) 7 18 3 + aW r 48 (16 + n - 16) := by
      rw [gB r (n + 1) (16 + n) (by omega) 48 (by omega), gB r n (16 + n - 2) (by omega) 48 (by omega), gB r n (16 + n - 7) (by omega) 48 (by omega), gB r n (16 + n - 15) (by omega) 48 (by omega), gB r n (16 + n - 16) (by omega) 48 (by omega)]
      show upd (aW r n) (16 + n) (CF (aW r n) (16 + n)) (16 + n) = _
      unfold upd; rw [if_pos rfl]; rfl
    rw [← e, ← vN, show 16 + n + 1 = 16 + (n + 1) from by omega]
    exact vL r m (n + 1) (by omega)
theorem FW (b:List UInt8) (i:Nat):FX b i = ko (fun k => b.getD k 0) i 4:=by
 show _ = ((((0:W32) <<< 8 ||| bw (b.getD (4 * i + 0) 0)) <<< 8 ||| bw (b.getD (4 * i + 1) 0)) <<< 8 ||| bw (b.getD (4 * i + 2) 0)) <<< 8 ||| bw (b.getD (4 * i + 3) 0)
 have:(0:W32) <<< 8 ||| bw (b.getD (4 * i + 0) 0) = bw (b.getD (4 * i) 0):=by simp
 rw [this];rfl
theorem lY (b:List UInt8):∀ n,n ≤ 16 → iK b n (revW (aW (fun k => b.getD k 0) 48) (16 - n)) = revW (aW (fun k => b.getD k 0) 48) 16
 | 0,_ => rfl
 | n + 1,h => by
  unfold iK
  rw [Iw]
  have e:FX b (15 - n) = aW (fun k => b.getD k 0) 48 (16 - (n + 1)):=by
   rw [gB _ 0 (16 - (n + 1)) (by omega) 48 (by omega),FW,show 16 - (n + 1) = 15 - n from by omega]
   show _ = fQ _ 16 0 (15 - n)
   unfold fQ;rw [if_pos (by omega)]
  rw [e,← vN,show 16 - (n + 1) + 1 = 16 - n from by omega]
  exact lY b n (by omega)
theorem FI (s:S8) (b:List UInt8):(xY s b).w = d9 s.w fun k => b.getD k 0:=by
 unfold xY
 rw [S8.force_eq]
 have h1:iK b 16 [] = revW (aW (fun k => b.getD k 0) 48) 16:=lY b 16 (Nat.le_refl _)
 have h2:=vL (fun k => b.getD k 0) 48 0 rfl
 rw [h1,h2]
 have h3:(revW (aW (fun k => b.getD k 0) 48) 64).reverse = (List.range 64).map fun i => aW (fun k => b.getD k 0) 48 (64 - 64 + i):=by
  unfold revW;rw [List.reverse_reverse];exact List.map_congr_left fun i _ => by rw [Nat.sub_self,Nat.zero_add]
 rw [h3]
 have h4:=nD (aW (fun k => b.getD k 0) 48) s.w 64 (Nat.le_refl _) s rfl
 rw [Nat.sub_self,List.drop_zero] at h4
 generalize hR:lq iZ _ s = t at h4
 funext k
 unfold d9
 rw [← h4]
 show S8.w ⟨_,_,_,_,_,_,_,_⟩ k = S8.w s k + S8.w t k
 unfold S8.w eight
 repeat' split
 all_goals rfl
def qV (l:List UInt8):Nat → S8
 | 0 => ⟨0x6a09e667#32,0xbb67ae85#32,0x3c6ef372#32,0xa54ff53a#32,0x510e527f#32,0x9b05688c#32,0x1f83d9ab#32,0x5be0cd19#32⟩
 | n + 1 => xY (qV l n) ((l.drop (64 * n)).take 64)
theorem uE (l:List UInt8):∀ n k,k < 8 → (qV l n).w k = jS (ofB l) n k
 | 0,k,hk => by
  obtain h | h | h | h | h | h | h | h:k = 0 ∨ k = 1 ∨ k = 2 ∨ k = 3 ∨ k = 4 ∨ k = 5 ∨ k = 6 ∨ k = 7:=by omega
  all_goals subst h;rfl
 | n + 1,k,hk => by
  show (xY (qV l n) ((l.drop (64 * n)).take 64)).w k = d9 (jS (ofB l) n) (blk ((ofB l).extract (64 * n) (64 * n + 64))) k
  rw [FI]
  have e:(fun k => ((l.drop (64 * n)).take 64).getD k 0) = blk ((ofB l).extract (64 * n) (64 * n + 64)):=by
   funext j;unfold blk
   rw [ByteArray.data_extract,Array.toList_extract,List.extract_eq_take_drop]
   simp [ofB]
  rw [e]
  exact I8 (fun k hk => uE l n k hk) _ k hk
def shaL (l:List UInt8):List UInt8:=(List.range 32).map (stB (qV (lenL l) ((lenL l).length / 64)).w)
theorem Jp (s:ByteArray):shaL s.data.toList = shaR s:=by
 unfold shaL shaR AL
 refine List.map_congr_left fun j hj => ?_
 unfold stB
 rw [uE _ _ _ (by have:=List.mem_range.1 hj;omega)]
def sa:List UInt8:=99 :: 35 :: (List.replicate 32 0 ++ [0,1,97])
def sb:List UInt8:=99 :: 67 :: (List.replicate 32 0 ++ [1] ++ shaL sa ++ [1,98])
end
section
open Go.RowKit
def Exit.jumps (J:Nat → Act → World → Prop) (Q:Exit → Act → World → Prop):Exit → Act → World → Prop
 | .goto l,a,w => J l a w
 | e,a,w => Q e a w
section
variable {P:Program} {a:Act} {w:World} {Q:Exit → Act → World → Prop}
theorem Exit.jB {J:Nat → Act → World → Prop}:Exit.jumps J Q .ret a w = Q .ret a w:=rfl
theorem Exit.mG {J:Nat → Act → World → Prop} {l:Nat}:Exit.jumps J Q (.goto l) a w = J l a w:=rfl
theorem jV {c:Code} (J:Nat → Act → World → Prop) (μ:Nat → Act → World → Nat) (first:c.wp P (Exit.jumps J Q) a w)
  (pass:∀ l a w,J l a w → ∃ rest,findLabel c l = some rest ∧ rest.wp P (Exit.jumps (fun l' a' w' => J l' a' w' ∧ μ l' a' w' < μ l a w) Q) a w):(Code.scope c).wp P Q a w:=by
 intro b k cs
 have key:∀ n l a w,μ l a w = n → J l a w → ∃ rest,findLabel c l = some rest ∧ ∃ e a' w',Q e a' w' ∧ Arrives P (lone (b.at a (.code rest :: .inScope c :: k)) cs w) b k cs e a' w':=by
  intro n
  induction n using Nat.strongRecOn with
  | _ n ih =>
   intro l a w hn hJ
   obtain ⟨rest,hf,hp⟩:=pass l a w hJ
   refine ⟨rest,hf,?_⟩
   obtain ⟨e,a₁,w₁,hq,harr⟩:=hp b (.inScope c :: k) cs
   cases e with
   | normal => exact ⟨.normal,a₁,w₁,hq,Steps.trans harr (.one step_inScope)⟩
   | exit id => exact ⟨.exit id,a₁,w₁,hq,fun k' hk => harr k' (by simp [exitTo,hk])⟩
   | goto l' =>
    obtain ⟨hJ',hlt⟩:=hq
    obtain ⟨rest',hf',e₂,a₂,w₂,hq₂,harr₂⟩:=ih _ (by omega) l' a₁ w₁ rfl hJ'
    exact ⟨e₂,a₂,w₂,hq₂,.of_steps (harr _ (by simp [gotoIn,hf'])) harr₂⟩
   | ret => exact ⟨_,a₁,w₁,hq,harr⟩
   | panic ch => exact ⟨_,a₁,w₁,hq,harr⟩
   | outgrown => exact ⟨_,a₁,w₁,hq,harr⟩
 obtain ⟨e,a₁,w₁,hq,harr⟩:=first b (.inScope c :: k) cs
 cases e with
 | normal => exact ⟨.normal,a₁,w₁,hq,.head step_scope (Steps.trans harr (.one step_inScope))⟩
 | exit id => exact ⟨.exit id,a₁,w₁,hq,fun k' hk => .head step_scope (harr k' (by simp [exitTo,hk]))⟩
 | goto l' =>
  obtain ⟨rest',hf',e₂,a₂,w₂,hq₂,harr₂⟩:=key _ l' a₁ w₁ rfl hq
  exact ⟨e₂,a₂,w₂,hq₂,.of_steps (.head step_scope (harr _ (by simp [gotoIn,hf']))) harr₂⟩
 | ret => exact ⟨_,a₁,w₁,hq,.of_steps (.one step_scope) harr⟩
 | panic ch => exact ⟨_,a₁,w₁,hq,.of_steps (.one step_scope) harr⟩
 | outgrown => exact ⟨_,a₁,w₁,hq,.of_steps (.one step_scope) harr⟩
theorem Exit.jK {J J':Nat → Act → World → Prop} (h:∀ l a w,J l a w → J' l a w) (e:Exit) (a:Act) (w:World) (hq:Exit.jumps J Q e a w):Exit.jumps J' Q e a w:=by
 cases e <;> first | exact h _ _ _ hq | exact hq
theorem qX {c:Code} (J:Nat → Act → World → Prop) (μ:Nat → Act → World → Nat)
  (pass:∀ l a w,J l a w → (∀ l' X,findLabel c l' = some (.seq .skip X) → ∀ a' w',J l' a' w' ∧ μ l' a' w' < μ l a w → X.wp P (Exit.jumps (fun l' a' w' => J l' a' w' ∧ μ l' a' w' < μ l a w) Q) a' w') →
   ∃ X,findLabel c l = some (.seq .skip X) ∧ X.wp P (Exit.jumps (fun l' a' w' => J l' a' w' ∧ μ l' a' w' < μ l a w) Q) a w)
  (first:(∀ l' X,findLabel c l' = some (.seq .skip X) → ∀ a' w',J l' a' w' → X.wp P (Exit.jumps J Q) a' w') → c.wp P (Exit.jumps J Q) a w):(Code.scope c).wp P Q a w:=by
 have key:∀ n l a w,μ l a w = n → J l a w → ∃ X,findLabel c l = some (.seq .skip X) ∧ X.wp P (Exit.jumps (fun l' a' w' => J l' a' w' ∧ μ l' a' w' < μ l a w) Q) a w:=by
  intro n
  induction n using Nat.strongRecOn with
  | _ n ih =>
   intro l a w hn hJ
   refine pass l a w hJ ?_
   intro l' X hf a' w' ⟨hJ',hlt⟩
   obtain ⟨X',hf',hX'⟩:=ih _ (by omega) l' a' w' rfl hJ'
   rw [hf] at hf'
   injection hf' with hf'
   injection hf' with _ hf'
   subst hf'
   exact Code.wp_mono (Exit.jK fun l2 a2 w2 h => ⟨h.1,Nat.lt_trans h.2 hlt⟩) hX'
 refine jV J μ ?_ ?_
 ·refine first fun l' X hf a' w' hJ => ?_
  obtain ⟨X',hf',hX'⟩:=key _ l' a' w' rfl hJ
  rw [hf] at hf'
  injection hf' with hf'
  injection hf' with _ hf'
  subst hf'
  exact Code.wp_mono (Exit.jK fun l2 a2 w2 h => h.1) hX'
 intro l a w hJ
 obtain ⟨X,hf,hX⟩:=key _ l a w rfl hJ
 exact ⟨_,hf,wp_seq (wp_skip hX)⟩
end
def NumJ (b:Nat) (r:Rd) (most:Nat) (w:World):Nat → Act → World → Prop
 | 0,a,w' => ∃ (e:Nat) (v5 v6 v7:Value) (r':Rd) (v10 v11 v12 v13 v14 v15 v16 v17 v18 v19 v20 v21 v22 v23 v24 v25 v26 v27 v28 v29 v30 v31 v32 v33 v34 v35 v36 v37 v38 v39 v40 v41 v42 v43 v44 v45 v46 v47 v48 v49 v50 v51 v52 v53 v54 v55 v56 v57 v58 v59 v60 v61 v62 v63 v64 v65 v66 v67 v68 v69 v70 v71 v72 v73:Value),a = { tmps:=#[.pointer (some ⟨b,0,none⟩),.int .i64 (most:Int),undef,undef,.int .i64 0,v5,v6,v7,.int .i64 (e:Int),.int .i64 (r.pos:Int),v10,v11,v12,v13,v14,v15,v16,v17,v18,v19,v20,v21,v22,v23,v24,v25,v26,v27,v28,v29,v30,v31,v32,v33,v34,v35,v36,v37,v38,v39,v40,v41,v42,v43,v44,v45,v46,v47,v48,v49,v50,v51,v52,v53,v54,v55,v56,v57,v58,v59,v60,v61,v62,v63,v64,v65,v66,v67,v68,v69,v70,v71,v72,v73],defers:=[] } ∧
   Hid (bS r.left most 6 0 0 = .inl e) ∧ Hid (r'.err = 0 ∧ r'.s = r.s ∧ r.err = 0) ∧ Arr w' b 3 r'.c ∧ w.grownBy w' (some b)
 | 1,a,w' => ∃ (k N:Nat) (v7:Value) (v10 v11 v12 v13 v14 v15 v16 v17 v18 v19 v20 v21 v22 v23 v24 v25 v26 v27 v28 v29 v30 v31 v32 v33 v34 v35 v36 v37 v38 v39 v40 v41 v42 v43 v44 v45 v46 v47 v48 v49 v50 v51 v52 v53 v54 v55 v56 v57 v58 v59 v60 v61 v62 v63 v64 v65 v66 v67 v68 v69 v70 v71 v72 v73:Value),a = { tmps:=#[.pointer (some ⟨b,0,none⟩),.int .i64 (most:Int),undef,undef,.int .i64 0,.int .i64 (N:Int),.int .i64 (7 * k:Int),v7,.int .i64 3,.int .i64 (r.pos:Int),v10,v11,v12,v13,v14,v15,v16,v17,v18,v19,v20,v21,v22,v23,v24,v25,v26,v27,v28,v29,v30,v31,v32,v33,v34,v35,v36,v37,v38,v39,v40,v41,v42,v43,v44,v45,v46,v47,v48,v49,v50,v51,v52,v53,v54,v55,v56,v57,v58,v59,v60,v61,v62,v63,v64,v65,v66,v67,v68,v69,v70,v71,v72,v73],defers:=[] } ∧
   k ≤ 5 ∧ Hid (r.err = 0) ∧ Hid (bS r.left most 6 0 0 = bS r.left most (6 - k) k N) ∧ Hid (N < 128 ^ k) ∧ Arr w' b 3 (Rd.c ⟨r.s,r.pos + k,0⟩) ∧ w.grownBy w' (some b) ∧ r.pos + k ≤ r.s.size
 | _,_,_ => False
def NumM:Nat → Act → World → Nat
 | 0,_,_ => 0
 | _,a,_ => 100 - (intOf (a.tmps.getD 6 undef)).toNat
theorem K7 (N X k M:Nat) (hk:k ≤ 5) (hN:N < 128 ^ k) (hM:M = N + X % 128 * 128 ^ k):bits .or .i64 (N:Int) (wrap64 ((X:Int) % 128 * 2 ^ (7 * k))) = (M:Int):=by
 have hp:(128:Nat) ^ k = 2 ^ (7 * k):=by rw [show (128:Nat) = 2 ^ 7 from rfl,← Nat.pow_mul]
 have hb:(128:Nat) ^ k ≤ 34359738368:=Nat.le_trans (Nat.pow_le_pow_right (by omega) hk) (by decide)
 have hy:X % 128 * 128 ^ k ≤ 4363686772736:=Nat.le_trans (Nat.mul_le_mul (show X % 128 ≤ 127 by omega) hb) (by omega)
 have e1:(X:Int) % 128 * 2 ^ (7 * k) = ((X % 128 * 128 ^ k:Nat):Int):=by rw [hp];push_cast;rfl
 have e2:wrap64 ((X % 128 * 128 ^ k:Nat):Int) = ((X % 128 * 128 ^ k:Nat):Int):=by unfold wrap64;omega
 have h62:(2:Nat) ^ 62 = 4611686018427387904:=by decide
 have i62:(2:Int) ^ 62 = 4611686018427387904:=by decide
 rw [e1,e2,(bits_nat .i64 62 (by decide) (fun n h0 h1 => by rw [IntKind.wrap_i64];omega) N (X % 128 * 128 ^ k) (by omega) (by omega)).2,hM]
 congr 1
 rw [hp] at hN ⊢
 rw [Nat.or_comm,Nat.mul_comm,← Nat.two_pow_add_eq_or_of_lt hN,Nat.add_comm]
theorem Rd.Cz (r:Rd) (most:Nat) (h:r.err ≠ 0):r.num most = (r,0):=by unfold Rd.num;rw [if_pos h]
theorem kr (b:Nat) (r:Rd) (most:Nat) (w:World) (hA:Arr w b 3 r.c) (hf:r.fine) (_hn:most ≤ 1000000000) :
  Calls prog 130 #[.pointer (some ⟨b,0,none⟩),.int .i64 (most:Int)] w fun e w' => e = .returned (.int .i64 ((r.num most).2:Int)) ∧ Arr w' b 3 (r.num most).1.c ∧ w.grownBy w' (some b):=by
 have hbl:b < w.heap.size:=hA.lt (by omega)
 have HE:=ah (ni b r w hA)
 have HF:=ah (fun (r':Rd) e W (h:Arr W b 3 r'.c) => vk b r' e r.pos W h)
 have hp:=hf.pos
 have hs:=hf.size
 have he:=hf.err
 have HA:=ah hA
 clear hA hf
 go_enter func130,ntmps130
 go_wp2_with fail
 refine qX (NumJ b r most w) NumM ?_ ?_
 ·rintro l a w' hJ hfall
  have HFALL:=ah hfall
  clear hfall
  match l,hJ with
  | 1,hJ =>
   refine ⟨_,rfl,?_⟩
   obtain ⟨k,N,v7,v10,v11,v12,v13,v14,v15,v16,v17,v18,v19,v20,v21,v22,v23,v24,v25,v26,v27,v28,v29,v30,v31,v32,v33,v34,v35,v36,v37,v38,v39,v40,v41,v42,v43,v44,v45,v46,v47,v48,v49,v50,v51,v52,v53,v54,v55,v56,v57,v58,v59,v60,v61,v62,v63,v64,v65,v66,v67,v68,v69,v70,v71,v72,v73,rfl,hk,hr0,hgo,hN,hA1,hg1,hle⟩:=hJ
   have HL:=ah (He r k)
   have HSE:=ah (fun (h:r.pos + k < r.s.size) w => iY r.s w (r.pos + k) h)
   generalize hpk:r.pos + k = p at hA1 hle HL HSE
   have HPK:=ah hpk
   clear hpk
   have c0:w'.cell? ⟨b,0,none⟩ = some (.string r.s):=hA1.cell 0 (by omega)
   have c1:w'.cell? ⟨b,1,none⟩ = some (.int .i64 (p:Int)):=hA1.cell 1 (by omega)
   have hbl':b < w'.heap.size:=hA1.lt (by omega)
   have HA1:=ah hA1
   have HG1:=ah hg1
   clear hA1 hg1
   by_cases hlt:p < r.s.size
   ·have d1:((p:Int) == (r.s.size:Int)) = false:=by rw [beq_eq_false_iff_ne];omega
    have HI:∀ w,(Instr.index 9 (.string r.s) (.int .i64 (p:Int))).run prog w = .ok (.int .u8 (wn (bw (blk r.s p)))) w:=fun w => HSE.out hlt w
    have hwn:=q9 (blk r.s p)
    have hX:(blk r.s p).toNat < 256:=(blk r.s p).toNat_lt
    have hl:r.left[k]? = some (blk r.s p):=by
     rw [HL.out];unfold blk
     have hl:p < r.s.data.toList.length:=by simp;omega
     simp only [List.getD,List.getElem?_eq_getElem hl,Option.getD_some]
    have hstep:bS r.left most (6 - k) k N = if 128 ≤ (blk r.s p).toNat then bS r.left most (5 - k) (k + 1) (N + (blk r.s p).toNat % 128 * 128 ^ k)
      else if (blk r.s p).toNat = 0 ∧ 0 < k then .inl 2
      else if 1099511627775 < N + (blk r.s p).toNat % 128 * 128 ^ k ∨ most < N + (blk r.s p).toNat % 128 * 128 ^ k then .inl 4
      else .inr (N + (blk r.s p).toNat % 128 * 128 ^ k,k + 1):=by
     rw [show 6 - k = (5 - k) + 1 from by omega];conv => lhs;unfold bS
     rw [hl]
    rw [← hwn] at HI
    generalize (blk r.s p).toNat = X at HI hX hstep
    have HGO:Hid _:=ah (hgo.out.trans hstep)
    obtain ⟨M,hM⟩:∃ M,M = N + X % 128 * 128 ^ k:=⟨_,rfl⟩
    have hbor:=K7 N X k M hk hN.out hM
    have hMs:M ≤ 4398046511104:=by
     have h1:=hN.out
     have hb:(128:Nat) ^ k ≤ 34359738368:=Nat.le_trans (Nat.pow_le_pow_right (by omega) hk) (by decide)
     have hy:X % 128 * 128 ^ k ≤ 4363686772736:=Nat.le_trans (Nat.mul_le_mul (show X % 128 ≤ 127 by omega) hb) (by omega)
     omega
    have HMK:Hid (M < 128 ^ (k + 1)):=by
     unfold Hid
     have h1:=hN.out
     have h2:X % 128 * 128 ^ k ≤ 127 * 128 ^ k:=Nat.mul_le_mul (by omega) (Nat.le_refl _)
     rw [Nat.pow_succ];omega
    rw [← hM] at HGO
    have HN:=ah hN.out
    clear hstep hl hwn hgo hM hN
    have x0:(0:Int) ≤ X:=by omega
    have x1:(X:Int) < 256:=by omega
    have f1:=HA1.out.free 1 (by omega)
    go_wp2
    refine wbq ?_
    have LQ0:=blq c0
    have LQ1:=blq c1
    repeat (go_big_quiet_step (fail))
    refine wpQuiet_nil ?_
    intro wq hbq
    clear LQ0 LQ1
    obtain ⟨wa,rfl⟩:∃ wa:World,wa = wq:=⟨_,rfl⟩
    have q0:=aA c0 hbq hbl'
    have q1:=aA c1 hbq hbl'
    have hbla:b < wa.heap.size:=by have:=hbq.size;omega
    have HAA:=ah (HA1.out.below hbq hbl')
    have HGA:=ah (iq HG1.out hbq)
    clear hbq c0 c1
    go_wp2
    refine wbq ?_
    have LQ0:=blq q0
    have LQ1:=blq q1
    repeat (go_big_quiet_step (fail))
    refine wpQuiet_nil ?_
    intro wq hbq
    clear LQ0 LQ1
    have HAQ:=ah (HAA.out.below hbq hbla)
    have HGQ:=ah (iq HGA.out hbq)
    clear hbq q0 q1
    have g1:wq.cell? ⟨b,1,none⟩ = some (.int .i64 (p:Int)):=HAQ.out.cell 1 (by omega)
    have g2:=HAQ.out.free 1 (by omega)
    by_cases h128:128 ≤ X
    ·have dA:decide ((128:Int) ≤ X) = true:=decide_eq_true (by omega)
     have HG2:Hid (bS r.left most 6 0 0 = bS r.left most (5 - k) (k + 1) M):=by unfold Hid;rw [HGO.out,if_pos h128]
     clear HGO h128
     by_cases h5:k = 5
     ·have d42:((7 * (k:Int) + 7) == 42) = true:=by rw [beq_iff_eq];omega
      have HG4:Hid (bS r.left most 6 0 0 = .inl 4):=by unfold Hid;rw [HG2.out,h5];rfl
      clear HG2
      go_wp2
      refine wp_goto ?_
      refine ⟨⟨4,_,_,_,⟨r.s,p + 1,0⟩,_,_,_,_,_,_,_,_,_,_,_,_,_,_,_,_,_,_,_,_,_,_,_,_,_,_,_,_,_,_,_,_,_,_,_,_,_,_,_,_,_,_,_,_,_,_,_,_,_,_,_,_,_,_,_,_,_,_,_,_,_,_,_,_,rfl,HG4,ah ⟨rfl,rfl,hr0.out⟩,(HAQ.out.set 1 (by omega) _).congr (Rd.fK ⟨r.s,p,0⟩ (p + 1)),bg HGQ.out _⟩,?_⟩
      show 0 < 100 - (7 * (k:Int)).toNat
      omega
     have d42:((7 * (k:Int) + 7) == 42) = false:=by rw [beq_eq_false_iff_ne];omega
     go_wp2
     refine wp_goto ?_
     rw [show (7 * (k:Int) + 7) = 7 * ((k + 1:Nat):Int) from by omega]
     refine ⟨⟨k + 1,M,_,_,_,_,_,_,_,_,_,_,_,_,_,_,_,_,_,_,_,_,_,_,_,_,_,_,_,_,_,_,_,_,_,_,_,_,_,_,_,_,_,_,_,_,_,_,_,_,_,_,_,_,_,_,_,_,_,_,_,_,_,_,_,_,_,rfl,by omega,hr0,?_,HMK,?_,bg HGQ.out _,by have:=HPK.out;omega⟩,?_⟩
     ·unfold Hid;rw [HG2.out,show 6 - (k + 1) = 5 - k from by omega]
     ·have:=(HAQ.out.set 1 (by omega) (.int .i64 ((p + 1:Nat):Int))).congr (Rd.fK ⟨r.s,p,0⟩ (p + 1))
      rw [show r.pos + (k + 1) = p + 1 from by have:=HPK.out;omega]
      exact this
     show 100 - (7 * ((k + 1:Nat):Int)).toNat < 100 - (7 * (k:Int)).toNat
     omega
    have dA:decide ((128:Int) ≤ X) = false:=decide_eq_false (by omega)
    by_cases hz:X = 0 ∧ 0 < k
    ·have HG4:Hid (bS r.left most 6 0 0 = .inl 2):=by unfold Hid;rw [HGO.out,if_neg h128,if_pos hz]
     have hx1:((X:Int) == 0) = true:=by rw [beq_iff_eq];omega
     have hk1:decide ((7:Int) < 7 * (k:Int) + 7) = true:=decide_eq_true (by omega)
     clear HGO h128 hz
     go_wp2
     refine wp_goto ?_
     refine ⟨⟨2,_,_,_,⟨r.s,p + 1,0⟩,_,_,_,_,_,_,_,_,_,_,_,_,_,_,_,_,_,_,_,_,_,_,_,_,_,_,_,_,_,_,_,_,_,_,_,_,_,_,_,_,_,_,_,_,_,_,_,_,_,_,_,_,_,_,_,_,_,_,_,_,_,_,_,_,rfl,HG4,ah ⟨rfl,rfl,hr0.out⟩,(HAQ.out.set 1 (by omega) _).congr (Rd.fK ⟨r.s,p,0⟩ (p + 1)),bg HGQ.out _⟩,?_⟩
     show 0 < 100 - (7 * (k:Int)).toNat
     omega
    have hxk:Hid (((X:Int) == 0) = false ∨ (((X:Int) == 0) = true ∧ decide ((7:Int) < 7 * (k:Int) + 7) = false)):=by
     unfold Hid
     by_cases hX0:X = 0
     ·right;exact ⟨by rw [beq_iff_eq];omega,decide_eq_false (by omega)⟩
     left;rw [beq_eq_false_iff_ne];omega
    by_cases hm:1099511627775 < M ∨ most < M
    ·have HG4:Hid (bS r.left most 6 0 0 = .inl 4):=by unfold Hid;rw [HGO.out,if_neg h128,if_neg hz,if_pos hm]
     have hmm:Hid ((decide ((M:Int) ≤ 1099511627775) = false ∧ decide (M ≤ 1099511627775) = false) ∨ (decide ((M:Int) ≤ 1099511627775) = true ∧ decide (M ≤ 1099511627775) = true ∧ decide ((M:Int) ≤ (most:Int)) = false ∧ decide (M ≤ most) = false)):=by
      unfold Hid
      by_cases h1:1099511627775 < M
      ·left;exact ⟨decide_eq_false (by omega),decide_eq_false (by omega)⟩
      right;exact ⟨decide_eq_true (by omega),decide_eq_true (by omega),decide_eq_false (by omega),decide_eq_false (by omega)⟩
     clear HGO h128 hz hm
     rcases hxk.out with hx | ⟨hx,hx2⟩ <;> rcases hmm.out with ⟨hm1,hm2⟩ | ⟨hm1,hm2,hm3,hm4⟩
     all_goals
      go_wp2
      rename_i hK
      refine wp_label (hK _ _ (HFALL.out 0 _ rfl _ _ ?_))
      refine ⟨⟨4,_,_,_,⟨r.s,p + 1,0⟩,_,_,_,_,_,_,_,_,_,_,_,_,_,_,_,_,_,_,_,_,_,_,_,_,_,_,_,_,_,_,_,_,_,_,_,_,_,_,_,_,_,_,_,_,_,_,_,_,_,_,_,_,_,_,_,_,_,_,_,_,_,_,_,_,rfl,HG4,ah ⟨rfl,rfl,hr0.out⟩,(HAQ.out.set 1 (by omega) _).congr (Rd.fK ⟨r.s,p,0⟩ (p + 1)),bg HGQ.out _⟩,?_⟩
      show 0 < 100 - (7 * (k:Int)).toNat
      omega
    have HR:Hid (r.num most = ({ r with pos:=r.pos + (k + 1) },M)):=ah (Rd.K8 r most (M,k + 1) hr0.out (by rw [HGO.out,if_neg h128,if_neg hz,if_neg hm]))
    have hm1:decide ((M:Int) ≤ 1099511627775) = true:=decide_eq_true (by omega)
    have hm2:decide ((M:Int) ≤ (most:Int)) = true:=decide_eq_true (by omega)
    have hm3:decide (M ≤ 1099511627775) = true:=decide_eq_true (by omega)
    have hm4:decide (M ≤ most) = true:=decide_eq_true (by omega)
    clear HGO h128 hz hm
    rcases hxk.out with hx | ⟨hx,hx2⟩
    all_goals
     go_wp2
     rw [Exit.jB]
     go_ret
     rw [HR.out]
     refine ⟨rfl,?_,bg HGQ.out _⟩
     have h1:=(HAQ.out.set 1 (by omega) (.int .i64 ((p + 1:Nat):Int))).congr (Rd.fK ⟨r.s,p,0⟩ (p + 1))
     have h2:({ r with pos:=r.pos + (k + 1) }:Rd) = ⟨r.s,p + 1,0⟩:=by
      have h3:=hr0.out
      have h4:=HPK.out
      rw [show r.pos + (k + 1) = p + 1 from by omega,h3]
     show Arr _ b 3 (Rd.c { r with pos:=r.pos + (k + 1) })
     rw [h2]
     exact h1
   have d1:((p:Int) == (r.s.size:Int)) = true:=by rw [beq_iff_eq];omega
   have hl:r.left[k]? = none:=by
    rw [HL.out];exact List.getElem?_eq_none (by simp;omega)
   have hgo3:Hid (bS r.left most 6 0 0 = .inl 3):=by
    unfold Hid
    rw [hgo.out,show 6 - k = (5 - k) + 1 from by omega];unfold bS;rw [hl]
   go_wp2
   refine wbq ?_
   have LQ0:=blq c0
   have LQ1:=blq c1
   repeat (go_big_quiet_step (fail))
   refine wpQuiet_nil ?_
   intro wq hbq
   clear LQ0 LQ1
   have HAQ:=ah (HA1.out.below hbq hbl')
   have HGQ:=ah (iq HG1.out hbq)
   clear hbq c0 c1
   go_wp2
   refine wp_goto ?_
   refine ⟨⟨3,_,_,_,⟨r.s,p,0⟩,_,_,_,_,_,_,_,_,_,_,_,_,_,_,_,_,_,_,_,_,_,_,_,_,_,_,_,_,_,_,_,_,_,_,_,_,_,_,_,_,_,_,_,_,_,_,_,_,_,_,_,_,_,_,_,_,_,_,_,_,_,_,_,_,rfl,hgo3,ah ⟨rfl,rfl,hr0.out⟩,HAQ.out,HGQ.out⟩,?_⟩
   show 0 < 100 - (7 * (k:Int)).toNat
   omega
  | 0,hJ =>
   refine ⟨_,rfl,?_⟩
   obtain ⟨e,v5,v6,v7,r',v10,v11,v12,v13,v14,v15,v16,v17,v18,v19,v20,v21,v22,v23,v24,v25,v26,v27,v28,v29,v30,v31,v32,v33,v34,v35,v36,v37,v38,v39,v40,v41,v42,v43,v44,v45,v46,v47,v48,v49,v50,v51,v52,v53,v54,v55,v56,v57,v58,v59,v60,v61,v62,v63,v64,v65,v66,v67,v68,v69,v70,v71,v72,v73,rfl,hgo,hr',hA1,hg1⟩:=hJ
   have HC:=ah (HF.out r' e w' hA1)
   have HG1:=ah hg1
   have HFL:Hid (r'.fail e r.pos = { r with err:=e }):=by
    unfold Hid Rd.fail;rw [if_pos hr'.out.1,← hr'.out.2.1]
   clear hA1 hg1
   go_wp2_with fail
   refine HC.out.mono ?_
   rintro x w2 ⟨rfl,hA2,hg2⟩
   rw [HFL.out] at hA2
   have HA2:=ah hA2
   have HG2:=ah (HG1.out.trans hg2)
   have HR:=ah (Rd.Cy r most e hr'.out.2.2 hgo.out)
   clear hA2 hg2 hgo hr'
   go_wp2
   rw [Exit.jB]
   go_ret
   rw [HR.out]
   exact ⟨rfl,HA2.out,HG2.out⟩
  | _ + 2,hJ => exact hJ.elim
 intro hfall
 have HFALL:=ah hfall
 clear hfall
 go_wp2_with fail
 refine HE.out.mono ?_
 rintro e w1 ⟨rfl,rfl⟩
 by_cases h0:r.err = 0
 ·have d0:((r.err:Int) != 0) = false:=by rw [bne_eq_false_iff_eq];omega
  have HA0:Hid (Arr w1 b 3 (Rd.c ⟨r.s,r.pos,0⟩)):=by
   have:=HA.out
   have e:r.c = Rd.c ⟨r.s,r.pos,0⟩:=by rw [← h0]
   rw [e] at this
   exact ah this
  have c1:w1.cell? ⟨b,1,none⟩ = some (.int .i64 (r.pos:Int)):=HA0.out.cell 1 (by omega)
  go_wp2
  refine wbq ?_
  have LQ0:=blq c1
  repeat (go_big_quiet_step (fail))
  refine wpQuiet_nil ?_
  intro wq hbq
  clear LQ0
  have HAQ:=ah (HA0.out.below hbq hbl)
  have HGQ:=ah (aU hbq (some b))
  clear hbq c1
  go_wp2
  rename_i hK
  refine wp_label (hK _ _ (HFALL.out 1 _ rfl _ _ ?_))
  exact ⟨0,0,_,_,_,_,_,_,_,_,_,_,_,_,_,_,_,_,_,_,_,_,_,_,_,_,_,_,_,_,_,_,_,_,_,_,_,_,_,_,_,_,_,_,_,_,_,_,_,_,_,_,_,_,_,_,_,_,_,_,_,_,_,_,_,_,_,rfl,by omega,ah h0,ah rfl,ah (by decide),HAQ.out,HGQ.out,hp⟩
 have d0:((r.err:Int) != 0) = true:=by rw [bne_iff_ne];omega
 have HR:=ah (Rd.Cz r most h0)
 clear h0
 go_wp2
 rw [Exit.jB]
 go_ret
 rw [HR.out]
 exact ⟨rfl,HA.out,aU (Below.refl _ _) _⟩
theorem Rd.vW (r:Rd) (most:Nat):r.pos ≤ (r.num most).1.pos:=by
 unfold Rd.num
 split
 ·exact Nat.le_refl _
 split
 ·exact Nat.le_refl _
 exact Nat.le_add_right _ _
theorem Rd.vP (r:Rd) (n:Nat):r.pos ≤ (r.raw n).1.pos:=by
 unfold Rd.raw
 split
 ·exact Nat.le_refl _
 split
 ·exact Nat.le_refl _
 exact Nat.le_add_right _ _
theorem Rd.F9 (r:Rd) (most:Nat):r.text most = if ((r.num most).1.raw (r.num most).2).1.err ≠ 0 then ({ ((r.num most).1.raw (r.num most).2).1 with pos:=min ((r.num most).1.raw (r.num most).2).1.pos r.pos },ByteArray.empty) else (r.num most).1.raw (r.num most).2:=by
 have h1:=r.vW most
 have h2:=(r.num most).1.vP (r.num most).2
 rw [Nat.min_eq_right (by omega)]
 unfold Rd.text
 by_cases h0:r.err = 0
 ·rw [if_neg (by simp [h0])]
 rw [if_pos h0]
 have e:r.num most = (r,0):=Rd.Cz r most h0
 have e2:r.raw 0 = (r,ByteArray.empty):=by unfold Rd.raw;rw [if_pos h0]
 rw [e,e2,if_pos h0]
theorem jk (b : Nat) (r : Rd) (most : Nat) (w : World) (hA : Arr w b 3 r.c) (hf : r.fine) (hn : most ≤ 1000000000) :
    Calls prog 194 #[.pointer (some ⟨b, 0, none⟩), .int .i64 (most : Int)] w fun e w' => e = .returned (.string (r.text most).2) ∧ Arr w' b 3 (r.text most).1.c ∧ w.grownBy w' (some b) := by
  have HAT := ah (qK b r w hA)
  have HN := ah (kr b r most w hA hf hn)
  obtain ⟨hf1, hn1⟩ := Rd.cu r most hf
  have HT := ah (r.F9 most)
  have HPL : Hid (r.pos ≤ ((r.num most).1.raw (r.num most).2).1.pos) := ah (Nat.le_trans (r.vW most) (Rd.vP _ _))
  generalize r.num most = x at HN hf1 hn1 HT HPL
  obtain ⟨r1, n⟩ := x
  have HF1 := ah hf1
  clear hA hf hf1
  dsimp only at HN hn1 HT HPL
  go_enter func194, ntmps194
  go_wp2_with fail
  refine HAT.out.mono ?_
  rintro e w0 ⟨rfl, rfl⟩
  go_wp2_with fail
  refine HN.out.mono ?_
  rintro e w1 ⟨rfl, hA1, hg1⟩
  have HRW := ah (qW b r1 n w1 hA1 HF1.out (by omega))
  have HG1 := ah hg1
  generalize r1.raw n = y at HRW HT HPL
  obtain ⟨r2, s⟩ := y
  dsimp only at HRW HT HPL
  clear hA1 hg1
  go_wp2_with fail
  refine HRW.out.mono ?_
  rintro e w2 ⟨rfl, hA2, hg2⟩
  have HG2 := ah (dU HG1.out hg2)
  have d2 : w2.cell? ⟨b, 2, none⟩ = some (.int .i64 (r2.err : Int)) := hA2.cell 2 (by omega)
  have d1 : w2.cell? ⟨b, 1, none⟩ = some (.int .i64 (r2.pos : Int)) := hA2.cell 1 (by omega)
  have f1 := hA2.free 1 (by omega)
  have HA2 := ah hA2
  clear hA2 hg2
  by_cases h2 : r2.err = 0
  · have h2' : ((r2.err : Int) != 0) = false := by rw [bne_eq_false_iff_eq]; omega
    have HR : Hid (r.text most = (r2, s)) := by unfold Hid; rw [HT.out, if_neg (by simp [h2])]
    clear h2
    go_wp2
    go_ret
    rw [HR.out]
    exact ⟨rfl, HA2.out, HG2.out⟩
  · have h2' : ((r2.err : Int) != 0) = true := by rw [bne_iff_ne]; omega
    have HR : Hid (r.text most = ({ r2 with pos := r.pos }, ByteArray.empty)) := by unfold Hid; rw [HT.out, if_pos h2, Nat.min_eq_right HPL.out]
    clear h2
    go_wp2
    all_goals
      have hpl := HPL.out
      go_ret
      rw [HR.out]
      refine ⟨rfl, ?_, bg HG2.out _⟩
      first
        | exact (HA2.out.set 1 (by omega) (.int .i64 (r.pos : Int))).congr (Rd.fK r2 _)
        | (rw [show min (r.pos : Int) (r2.pos : Int) = (r.pos : Int) from by omega]
           exact (HA2.out.set 1 (by omega) (.int .i64 (r.pos : Int))).congr (Rd.fK r2 _))
        | (rw [show min (r2.pos : Int) (r.pos : Int) = (r.pos : Int) from by omega]
           exact (HA2.out.set 1 (by omega) (.int .i64 (r.pos : Int))).congr (Rd.fK r2 _))
        | (have e : r.pos = r2.pos := by omega
           rw [e]
           exact (HA2.out.set 1 (by omega) (.int .i64 (r2.pos : Int))).congr (Rd.fK r2 _))
def kI:W32:=0xedb88320#32
def lT (n:W32):W32:=(n >>> 1) ^^^ (if n.getLsbD 0 then kI else 0#32)
def jY (n:W32):W32:=lT (lT (lT (lT n)))
def fT:List W32:=[0x00000000#32,0x1db71064#32,0x3b6e20c8#32,0x26d930ac#32,0x76dc4190#32,0x6b6b51f4#32,0x4db26158#32,0x5005713c#32,0xedb88320#32,0xf00f9344#32,0xd6d6a3e8#32,0xcb61b38c#32,0x9b64c2b0#32,0x86d3d2d4#32,0xa00ae278#32,0xbdbdf21c#32]
def nibC (n:W32):W32:=(n >>> 4) ^^^ fT.getD (n &&& 15#32).toNat 0#32
theorem Dy (a b:W32):lT (a ^^^ b) = lT a ^^^ lT b:=by
 unfold lT
 rw [BitVec.ushiftRight_xor_distrib,BitVec.getLsbD_xor]
 generalize a >>> 1 = x
 generalize b >>> 1 = y
 cases a.getLsbD 0 <;> cases b.getLsbD 0
 ·simp
 ·show (x ^^^ y) ^^^ kI = (x ^^^ 0#32) ^^^ (y ^^^ kI)
  rw [BitVec.xor_zero]
  ac_rfl
 ·show (x ^^^ y) ^^^ kI = (x ^^^ kI) ^^^ (y ^^^ 0#32)
  rw [BitVec.xor_zero]
  ac_rfl
 show (x ^^^ y) ^^^ 0#32 = (x ^^^ kI) ^^^ (y ^^^ kI)
 have h:(x ^^^ kI) ^^^ (y ^^^ kI) = (x ^^^ y) ^^^ (kI ^^^ kI):=by ac_rfl
 rw [h,BitVec.xor_self]
theorem Dz (a b:W32):jY (a ^^^ b) = jY a ^^^ jY b:=by unfold jY;simp only [Dy]
theorem jG (n:W32) (h:n.toNat % 2 = 0):lT n = n >>> 1:=by
 have h0:n.getLsbD 0 = false:=by
  rw [BitVec.getLsbD,Nat.testBit_zero]
  simp only [decide_eq_false_iff_not]
  omega
 unfold lT
 rw [h0]
 simp
theorem iM (n:W32) (k:Nat):(n >>> k).toNat = n.toNat / 2 ^ k:=by rw [BitVec.toNat_ushiftRight,Nat.shiftRight_eq_div_pow]
theorem Az (n:W32) (h:n.toNat % 16 = 0):jY n = n >>> 4:=by
 unfold jY
 have h1:(n >>> 1).toNat = n.toNat / 2:=by rw [iM]
 have h2:(n >>> 1 >>> 1).toNat = n.toNat / 2 / 2:=by rw [iM,h1]
 have h3:(n >>> 1 >>> 1 >>> 1).toNat = n.toNat / 2 / 2 / 2:=by rw [iM,h2]
 rw [jG n (by omega),jG (n >>> 1) (by rw [h1];omega),jG (n >>> 1 >>> 1) (by rw [h2];omega),jG (n >>> 1 >>> 1 >>> 1) (by rw [h3];omega)]
 apply BitVec.eq_of_toNat_eq
 rw [iM,h3,iM]
 omega
theorem Ey:∀ l:Fin 16,jY (BitVec.ofNat 32 l.val) = fT.getD l.val 0#32:=by decide +kernel
theorem KC (n:W32):(n &&& 15#32).toNat = n.toNat % 16:=by
 rw [BitVec.toNat_and]
 exact Nat.and_two_pow_sub_one_eq_mod n.toNat 4
theorem GK (n:W32):nibC n = jY n:=by
 have hs:n = ((n >>> 4) <<< 4) ^^^ (n &&& 15#32):=by
  apply BitVec.eq_of_getLsbD_eq
  intro i hi
  have h15:(15#32).getLsbD i = decide (i < 4):=by
   revert hi
   have:∀ j:Fin 32,(15#32).getLsbD j.val = decide (j.val < 4):=by decide +kernel
   exact fun hi => this ⟨i,hi⟩
  rw [BitVec.getLsbD_xor,BitVec.getLsbD_and,BitVec.getLsbD_shiftLeft,BitVec.getLsbD_ushiftRight,h15]
  by_cases h:i < 4
  ·simp [h,hi]
  simp [h,hi,show 4 + (i - 4) = i by omega]
 have hl:jY (n &&& 15#32) = fT.getD (n &&& 15#32).toNat 0#32:=by
  have hlt:(n &&& 15#32).toNat < 16:=by rw [KC];omega
  have:=Ey ⟨_,hlt⟩
  rw [← this]
  congr 1
  apply BitVec.eq_of_toNat_eq
  rw [BitVec.toNat_ofNat]
  show _ = (n &&& 15#32).toNat % 4294967296
  omega
 have hh:jY ((n >>> 4) <<< 4) = n >>> 4:=by
  have h1:(((n >>> 4) <<< 4):W32).toNat = n.toNat / 16 * 16:=by
   rw [BitVec.toNat_shiftLeft,iM,Nat.shiftLeft_eq]
   have:=n.isLt
   omega
  rw [Az _ (by rw [h1];omega)]
  apply BitVec.eq_of_toNat_eq
  rw [iM,h1,iM]
  omega
 unfold nibC
 rw [← hl]
 conv => rhs;rw [hs,Dz,hh]
def zO (n:W32) (b:UInt8):W32:=jY (jY (n ^^^ bw b))
def sumC (n:W32) (l:List UInt8):W32:=l.foldl zO n
theorem Dx (n:W32) (l:List UInt8) (b:UInt8):sumC n (l ++ [b]) = zO (sumC n l) b:=by unfold sumC;rw [List.foldl_append];rfl
def crcC (l:List UInt8):W32:= ~~~ sumC (~~~ 0#32) l
def gV (n:W32) (i:Nat):UInt8:=UInt8.ofNat (n.toNat / 2 ^ (8 * i) % 256)
def Cm (l:List UInt8):List UInt8:=[gV (crcC l) 0,gV (crcC l) 1,gV (crcC l) 2,gV (crcC l) 3]
def dN (l:List UInt8):List UInt8:=l ++ Cm l
def eG (l:List UInt8):Option (List UInt8):=if 4 ≤ l.length ∧ dN (l.take (l.length - 4)) = l then some (l.take (l.length - 4)) else none
theorem jr (l:List UInt8):(dN l).length = l.length + 4:=by unfold dN Cm;simp
structure Behind (k:Nat) (r r':Rd):Prop where
 s:r'.s.data.toList = r.s.data.toList.drop k
 pos:r.pos = k + r'.pos
 err:r.err = r'.err
 fit:k ≤ r.s.size
theorem Behind.size {k:Nat} {r r':Rd} (h:Behind k r r'):r.s.size = k + r'.s.size:=by
 have h1:=congrArg List.length h.s
 have h2:=h.fit
 simp only [List.length_drop] at h1
 have e1:r'.s.data.toList.length = r'.s.size:=by simp
 have e2:r.s.data.toList.length = r.s.size:=by simp
 omega
theorem je (s:ByteArray) (i n:Nat):(s.extract i (i + n)).data.toList = (s.data.toList.drop i).take n:=by
 rw [ByteArray.data_extract,Array.toList_extract,List.extract_eq_take_drop,Nat.add_sub_cancel_left]
theorem Behind.left {k:Nat} {r r':Rd} (h:Behind k r r'):r.left = r'.left:=by
 unfold Rd.left
 rw [h.s,List.drop_drop,h.pos]
theorem Behind.num {k:Nat} {r r':Rd} (h:Behind k r r') (most:Nat):Behind k (r.num most).1 (r'.num most).1 ∧ (r.num most).2 = (r'.num most).2:=by
 unfold Rd.num
 rw [← h.err]
 by_cases he:r.err ≠ 0
 ·rw [if_pos he,if_pos he];exact ⟨h,rfl⟩
 rw [if_neg he,if_neg he,h.left]
 cases bS r'.left most 6 0 0 with
 | inl e => exact ⟨⟨h.s,h.pos,rfl,h.fit⟩,rfl⟩
 | inr x => exact ⟨⟨h.s,by have:=h.pos;show r.pos + x.2 = k + (r'.pos + x.2);omega,rfl,h.fit⟩,rfl⟩
theorem Behind.raw {k:Nat} {r r':Rd} (h:Behind k r r') (n:Nat):Behind k (r.raw n).1 (r'.raw n).1 ∧ (r.raw n).2 = (r'.raw n).2:=by
 have hs:=h.size
 have hp:=h.pos
 unfold Rd.raw
 rw [← h.err]
 by_cases he:r.err ≠ 0
 ·rw [if_pos he,if_pos he];exact ⟨h,rfl⟩
 rw [if_neg he,if_neg he]
 by_cases hn:r.s.size - r.pos < n
 ·rw [if_pos hn,if_pos (by omega)];exact ⟨⟨h.s,h.pos,rfl,h.fit⟩,rfl⟩
 rw [if_neg hn,if_neg (by omega)]
 refine ⟨⟨h.s,by show r.pos + n = k + (r'.pos + n);omega,rfl,h.fit⟩,?_⟩
 show r.s.extract r.pos (r.pos + n) = r'.s.extract r'.pos (r'.pos + n)
 refine ba_eq ?_
 rw [je,je,h.s,h.pos,List.drop_drop]
theorem Behind.text {k:Nat} {r r':Rd} (h:Behind k r r') (most:Nat):Behind k (r.text most).1 (r'.text most).1 ∧ (r.text most).2 = (r'.text most).2:=by
 obtain ⟨h1,h2⟩:=h.num most
 obtain ⟨h3,h4⟩:=h1.raw (r.num most).2
 unfold Rd.text
 rw [← h.err]
 rw [← h2]
 by_cases he:r.err ≠ 0
 ·rw [if_pos he,if_pos he];exact ⟨h,rfl⟩
 rw [if_neg he,if_neg he]
 rw [← h3.err]
 by_cases h5:((r.num most).1.raw (r.num most).2).1.err ≠ 0
 ·rw [if_pos h5,if_pos h5];exact ⟨⟨h3.s,h.pos,h3.err,h3.fit⟩,rfl⟩
 rw [if_neg h5,if_neg h5];exact ⟨h3,h4⟩
theorem Behind.fin {k:Nat} {r r':Rd} (h:Behind k r r'):r.fin = r'.fin:=by
 have hs:=h.size
 have hp:=h.pos
 unfold Rd.fin
 rw [← h.err]
 by_cases he:r.err ≠ 0
 ·rw [if_pos he,if_pos he]
 rw [if_neg he,if_neg he]
 by_cases h1:r.pos < r.s.size
 ·rw [if_pos h1,if_pos (by omega)]
 rw [if_neg h1,if_neg (by omega)]
def JmpN (P:Program) (c:Code) (Q:Exit → Act → World → Prop):Nat → Nat → Act → World → Prop
 | 0,_,_,_ => False
 | n + 1,l,a,w => ∃ X,findLabel c l = some (.seq .skip X) ∧ X.wp P (Exit.jumps (JmpN P c Q n) Q) a w
theorem Hg (p:Nat → Prop):∀ n,p n → ∃ m,p m ∧ ∀ k,k < m → ¬ p k:=by
 intro n
 induction n using Nat.strongRecOn with
 | _ n ih =>
  intro h
  by_cases h2:∃ k,k < n ∧ p k
  ·obtain ⟨k,h3,h4⟩:=h2
   exact ih k h3 h4
  exact ⟨n,h,fun k hk hp => h2 ⟨k,hk,hp⟩⟩
open Classical in
noncomputable def sU (p:Nat → Prop):Nat:=if h:∃ m,p m ∧ ∀ k,k < m → ¬ p k then Classical.choose h else 0
theorem vZ {p:Nat → Prop} {n:Nat} (h:p n):p (sU p) ∧ sU p ≤ n:=by
 have h2:=Hg p n h
 unfold sU
 rw [dif_pos h2]
 have h3:=Classical.choose_spec h2
 exact ⟨h3.1,Nat.le_of_not_lt fun hlt => h3.2 n hlt h⟩
theorem fH {P:Program} {c:Code} {Q:Exit → Act → World → Prop} {a:Act} {w:World} (n:Nat) (first:c.wp P (Exit.jumps (JmpN P c Q n) Q) a w):(Code.scope c).wp P Q a w:=by
 refine jV (fun l a w => ∃ m,JmpN P c Q m l a w) (fun l a w => sU fun m => JmpN P c Q m l a w) (Code.wp_mono (Exit.jK fun l a w h => ⟨n,h⟩) first) ?_
 rintro l a w ⟨m,hm⟩
 obtain ⟨h1,_⟩:=vZ (p:=fun m => JmpN P c Q m l a w) hm
 generalize sU (fun m => JmpN P c Q m l a w) = k at h1
 cases k with
 | zero => exact h1.elim
 | succ k =>
  obtain ⟨X,hf,hX⟩:=h1
  refine ⟨_,hf,wp_seq (wp_skip (Code.wp_mono (Exit.jK fun l' a' w' h => ⟨⟨k,h⟩,?_⟩) hX))⟩
  have:=(vZ (p:=fun m => JmpN P c Q m l' a' w') h).2
  omega
theorem qO {P:Program} {c X:Code} {Q:Exit → Act → World → Prop} {a:Act} {w:World} {n l:Nat} (hf:findLabel c l = some (.seq .skip X)) (h:X.wp P (Exit.jumps (JmpN P c Q n) Q) a w):JmpN P c Q (n + 1) l a w:=⟨X,hf,h⟩
section
variable {P:Program} {ops:Array Oper} {md:Region.Mode} {Q:Exit → Act → World → Prop} {S:World → Prop}
theorem rY {ls:Array Bool} {j:Nat} (h:j ∈ Region.ready md ops ls):j < ops.size:=by
 obtain ⟨_,oj,hoj,_⟩:=mem_ready.1 h
 exact (Array.getElem?_eq_some_iff.1 hoj).1
theorem Dp {n i:Nat} {oi:Oper} {v:Value} (hi:ops[i]? = some oi) (hsel:∀ (j:Nat) (o:Oper) cs b,ops[j]? = some o → o.op ≠ .select cs b)
  (hn:ops.size ≤ n) (hQ:∀ c a w,Q (.panic c) (a.put oi.dst v) w → Q (.panic c) a w) :
  ∀ (f:Nat) (ls:Array Bool) (a:Act) (w:World),HeadInv md ops n ls →
   (∀ j oj,ops[j]? = some oj → j ≠ i → ls.getD j true = false → (∀ e ∈ oj.after,Region.binds md e = true → e.on ≠ i) → oi.apart ops oj = true) →
   i ∈ Region.ready md ops ls → YieldsIf P ops S oi v a → S w → wpL P md ops Q S n f (ls.setIfInBounds i true) (a.put oi.dst v) w → wpL P md ops Q S n (f + 1) ls a w:=by
 intro f
 induction f with
 | zero =>
  intro ls a w inv _ hr hy hS H
  refine ⟨fun h0 => (by rw [h0] at hr;cases hr),fun j hj => ?_⟩
  have hjn:j < n:=Nat.lt_of_lt_of_le (rY hj) hn
  refine ⟨hjn,?_⟩
  by_cases e:j = i
  ·subst e;exact hy.wpOp hi hS ⟨hS,H⟩
  have:=H.1 j (ready_mono hj e);omega
 | succ f ih =>
  intro ls a w inv hfree hr hy hS H
  have hun:=(mem_ready.1 hr).1
  refine ⟨fun h0 => (by rw [h0] at hr;cases hr),fun j hj => ?_⟩
  have hjn:j < n:=Nat.lt_of_lt_of_le (rY hj) hn
  refine ⟨hjn,?_⟩
  by_cases e:j = i
  ·subst e;exact hy.wpOp hi hS ⟨hS,H⟩
  obtain ⟨hjun,oj,hoj,hall⟩:=mem_ready.1 hj
  have hnot:∀ x ∈ oj.after,Region.binds md x = true → x.on ≠ i:=fun x hx hb heq => by
   have h1:=hall x hx hb
   rw [heq,getD_both hun] at h1
   cases h1
  have h2:=wpOp_putIf hoj (hfree j oj hoj e hjun hnot) (fun cs b => hsel i oi cs b hi) (fun cs b => hsel j oj cs b hoj) hQ hy (H.2 j (ready_mono hj e)).2
  refine wpOp_mono (fun a' w' h3 => ⟨h3.2.1,ih (ls.setIfInBounds j true) a' w' (inv.set hj hjn) ?_ (ready_mono hr (Ne.symm e)) h3.1 h3.2.1 ?_⟩) h2
  ·intro k ok hk hki hkun hno
   refine hfree k ok hk hki ?_ hno
   by_cases ejk:j = k
   ·subst ejk;exact hjun
   rwa [getD_set_ne true ejk] at hkun
  rw [Array.setIfInBounds_comm _ _ e];exact h3.2.2
theorem WL.skip {n i:Nat} {oi:Oper} {f:Nat} {ls:Array Bool} {a:Act} {w:World} (hi:ops[i]? = some oi) (hB:lastB ops n = true) (hin:i < n)
  (hf:Region.free .any ops ls i = true) (hr:(Region.ready .any ops ls).contains i = true) (hQ:∀ c a w,Q (.panic c) (a.put oi.dst undef) w → Q (.panic c) a w) (hw:Region.wanted oi (yielded ops a.tmps) = false)
  (hS:S w) (h:WL P ops Q S n f (ls.setIfInBounds i true) (a.put oi.dst undef) w):WL P ops Q S n (f + 1) ls a w:=by
 simp only [lastB,Bool.and_eq_true,decide_eq_true_eq] at hB
 have hr':i ∈ Region.ready .any ops ls:=by simpa using hr
 exact ⟨fun inv => u7 hi (Region.noSelect_spec hB.1.1.1) hB.1.2 hB.2 hB.1.1.2 hin hQ f ls a w inv (Region.free_spec hi hf) hr' (.inr ⟨hw,rfl⟩) hS (h.out (inv.set hr' hin))⟩
def allB (ops:Array Oper) (n:Nat):Bool:=Region.noSelect ops && decide (ops.size = n)
theorem WN.take {n i:Nat} {oi:Oper} {v:Value} {f:Nat} {ls:Array Bool} {a:Act} {w:World} (hi:ops[i]? = some oi) (hB:allB ops n = true) (_hin:i < n)
  (hf:Region.free .any ops ls i = true) (hr:(Region.ready .any ops ls).contains i = true) (hQ:∀ c a w,Q (.panic c) (a.put oi.dst v) w → Q (.panic c) a w) (hw:Region.wanted oi (yielded ops a.tmps) = true)
  (hy:∀ w,S w → (execOp a.eval oi).run P w = .ok (.value v) w) (hS:S w) (h:WL P ops Q S n f (ls.setIfInBounds i true) (a.put oi.dst v) w):WL P ops Q S n (f + 1) ls a w:=by
 simp only [allB,Bool.and_eq_true,decide_eq_true_eq] at hB
 have hr':i ∈ Region.ready .any ops ls:=by simpa using hr
 exact ⟨fun inv => Dp hi (Region.noSelect_spec hB.1) (by omega) hQ f ls a w inv (Region.free_spec hi hf) hr' (.inl ⟨hw,hy⟩) hS (h.out (inv.set hr' (by have:=rY hr';omega)))⟩
theorem WN.done {n:Nat} {ls:Array Bool} {a:Act} {w:World} (hz:ops.size = n) (hr:Region.ready .any ops ls = []) (h:Q .normal a w):WL P ops Q S n 0 ls a w:=by
 refine ⟨fun _ => ⟨fun j hj => ?_,?_⟩⟩
 ·rw [hr] at hj;cases hj
 rw [show ops.size - n = 0 from by omega]
 exact ⟨hr,h⟩
theorem pI {id:Nat} {a:Act} {w:World} {l:List Oper} (n:Nat) (S:World → Prop) (hm:P.follows .mixedOrders = true) (hB:allB l.toArray n = true)
  (h:WL P l.toArray Q S n n (Array.replicate l.toArray.size false) a w.drew):(Code.region id l.toArray true).wp P Q a w:=by
 simp only [allB,Bool.and_eq_true,decide_eq_true_eq] at hB
 have inv:HeadInv .any l.toArray n (Array.replicate l.toArray.size false) :=
  ⟨by simp,fun j oj _ hl => (by rw [getD_replicate_false] at hl;cases hl),fun t h1 h2 => absurd h2 (by omega)⟩
 have H:=mh _ _ _ _ (h.out inv)
 rw [show n + (l.toArray.size - n) = l.toArray.size from by omega] at H
 exact wp_region_any hm H
end
end
end Go.Proofs.YtlhcoanbhnphgaaGreatDoor
