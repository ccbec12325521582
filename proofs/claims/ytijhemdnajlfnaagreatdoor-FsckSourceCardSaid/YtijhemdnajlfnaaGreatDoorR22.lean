/- A part of this claim. -/
import Derived.Deep.Cut
import Derived.Test.YtijhemdnajlfnaaGreatDoorR14
import Derived.Test.YtijhemdnajlfnaaGreatDoorR2
import Derived.Test.YtijhemdnajlfnaaGreatDoorR8
namespace Go.Proofs.YtijhemdnajlfnaaGreatDoor
open Tryz
set_option maxHeartbeats 64000000
set_option maxRecDepth 100000
section
open Go.RowKit Fl
theorem qo (n:Int) (h:n.natAbs < 2 ^ 53) (w:World):(convert 389 3 (.float .f64 (fb n))).run prog w = .ok (.int .i64 n) w :=
 run_convert_float_int w 389 3 .f64 .i64 _ _ (by rw [underlying389];rfl) underlying3 (by
  unfold floatToIntVal
  have:FloatKind.f64.decode (fb n) = Ieee.double.read (fb n):=rfl
  rw [this,Kz n h]
  have h1:IntKind.i64.min ≤ n:=by show (-9223372036854775808:Int) ≤ n;omega
  have h2:n ≤ IntKind.i64.max:=by show n ≤ (9223372036854775807:Int);omega
  simp only [h1,h2,and_self,if_true])
theorem mI (a b:Int) (ha:a.natAbs < 2 ^ 53) (hb:b.natAbs < 2 ^ 53):FloatKind.f64.format.order (fb a) (floatOfInt .f64 b) = some (compare a b):=vv a b ha hb
def inR (n a b:Int):Bool:=decide (a ≤ n ∧ n ≤ b)
theorem Ba (n a:Int):(compare n a == Ordering.gt || compare n a == Ordering.eq) = decide (a ≤ n):=by
 rcases Int.lt_trichotomy n a with h | h | h
 ·rw [Int.compare_eq_lt.2 h,decide_eq_false (by omega)];rfl
 ·rw [Int.compare_eq_eq.2 h,decide_eq_true (by omega)];rfl
 rw [Int.compare_eq_gt.2 h,decide_eq_true (by omega)];rfl
theorem A9 (n a:Int):(compare n a == Ordering.lt || compare n a == Ordering.eq) = decide (n ≤ a):=by
 rcases Int.lt_trichotomy n a with h | h | h
 ·rw [Int.compare_eq_lt.2 h,decide_eq_true (by omega)];rfl
 ·rw [Int.compare_eq_eq.2 h,decide_eq_true (by omega)];rfl
 rw [Int.compare_eq_gt.2 h,decide_eq_false (by omega)];rfl
theorem xW (n a b:Int) (hn:n.natAbs < 1000000) (ha:a.natAbs < 1000000) (hb:b.natAbs < 1000000) (w:World):Calls prog 308 #[.float .f64 (fb n),.int .i64 a,.int .i64 b] w fun e w' => e = .returned (.bool (inR n a b)) ∧ w' = w:=by
 have o1:=mI n a (by omega) (by omega)
 have o2:=mI n b (by omega) (by omega)
 have o3:FloatKind.f64.format.order (floatOfInt .f64 n) (fb n) = some Ordering.eq:=by
  have:=vv n n (by omega) (by omega)
  rw [Int.compare_eq_eq.2 rfl] at this
  exact this
 have hc:=qo n (by omega)
 by_cases h1:a ≤ n
 ·have g1:(compare n a == Ordering.gt || compare n a == Ordering.eq) = true:=by rw [Ba];exact decide_eq_true h1
  have g1':compare n a = Ordering.gt ∨ n = a:=by
   rcases Int.lt_trichotomy n a with h | h | h
   ·omega
   ·exact .inr h
   exact .inl (Int.compare_eq_gt.2 h)
  by_cases h2:n ≤ b
  ·have g2:(compare n b == Ordering.lt || compare n b == Ordering.eq) = true:=by rw [A9];exact decide_eq_true h2
   have g2':compare n b = Ordering.lt ∨ n = b:=by
    rcases Int.lt_trichotomy n b with h | h | h
    ·exact .inl (Int.compare_eq_lt.2 h)
    ·exact .inr h
    omega
   have HR:Hid (inR n a b = true):=ah (decide_eq_true ⟨h1,h2⟩)
   go_enter func308,ntmps308
   go_wp2_with fail
   go_ret
   exact ⟨by rw [HR.out];rfl,by first | rfl | trivial⟩
  have g2:(compare n b == Ordering.lt || compare n b == Ordering.eq) = false:=by rw [A9];exact decide_eq_false h2
  have g2':¬(compare n b = Ordering.lt ∨ n = b):=by
   rintro (h | h)
   ·have:=Int.compare_eq_lt.1 h;omega
   omega
  have HR:Hid (inR n a b = false):=ah (decide_eq_false fun h => h2 h.2)
  go_enter func308,ntmps308
  go_wp2_with fail
  go_ret
  exact ⟨by rw [HR.out];rfl,by first | rfl | trivial⟩
 have g1:(compare n a == Ordering.gt || compare n a == Ordering.eq) = false:=by rw [Ba];exact decide_eq_false h1
 have g1':¬(compare n a = Ordering.gt ∨ n = a):=by
  rintro (h | h)
  ·have:=Int.compare_eq_gt.1 h;omega
  omega
 have HR:Hid (inR n a b = false):=ah (decide_eq_false fun h => h1 h.1)
 go_enter func308,ntmps308
 go_wp2_with fail
 go_ret
 exact ⟨by rw [HR.out];rfl,by first | rfl | trivial⟩
def yY (n a b:Int):Value:=if inR n a b = true then .tuple #[.int .i64 n,.bool true] else .tuple #[.int .i64 0,.bool false]
theorem CQ (n a b:Int) (hn:n.natAbs < 1000000) (ha:a.natAbs < 1000000) (hb:b.natAbs < 1000000) (w:World):Calls prog 298 #[.float .f64 (fb n),.int .i64 a,.int .i64 b] w fun e w' => e = .returned (yY n a b) ∧ w' = w:=by
 have o1:=mI n a (by omega) (by omega)
 have o2:=mI n b (by omega) (by omega)
 have o3:FloatKind.f64.format.order (floatOfInt .f64 n) (fb n) = some Ordering.eq:=by
  have:=vv n n (by omega) (by omega)
  rw [Int.compare_eq_eq.2 rfl] at this
  exact this
 have hc:=qo n (by omega)
 by_cases h1:a ≤ n
 ·have g1:(compare n a == Ordering.gt || compare n a == Ordering.eq) = true:=by rw [Ba];exact decide_eq_true h1
  have g1':compare n a = Ordering.gt ∨ n = a:=by
   rcases Int.lt_trichotomy n a with h | h | h
   ·omega
   ·exact .inr h
   exact .inl (Int.compare_eq_gt.2 h)
  by_cases h2:n ≤ b
  ·have g2:(compare n b == Ordering.lt || compare n b == Ordering.eq) = true:=by rw [A9];exact decide_eq_true h2
   have g2':compare n b = Ordering.lt ∨ n = b:=by
    rcases Int.lt_trichotomy n b with h | h | h
    ·exact .inl (Int.compare_eq_lt.2 h)
    ·exact .inr h
    omega
   have HR:Hid (yY n a b = .tuple #[.int .i64 n,.bool true]):=ah (if_pos (decide_eq_true ⟨h1,h2⟩))
   go_enter func298,ntmps298
   go_wp2_with fail
   go_ret2
   exact ⟨by rw [HR.out];rfl,by first | rfl | trivial⟩
  have g2:(compare n b == Ordering.lt || compare n b == Ordering.eq) = false:=by rw [A9];exact decide_eq_false h2
  have g2':¬(compare n b = Ordering.lt ∨ n = b):=by
   rintro (h | h)
   ·have:=Int.compare_eq_lt.1 h;omega
   omega
  have HR:Hid (yY n a b = .tuple #[.int .i64 0,.bool false]):=ah (if_neg (by rw [show inR n a b = false from decide_eq_false fun h => h2 h.2];decide))
  go_enter func298,ntmps298
  go_wp2_with fail
  go_ret2
  exact ⟨by rw [HR.out];rfl,by first | rfl | trivial⟩
 have g1:(compare n a == Ordering.gt || compare n a == Ordering.eq) = false:=by rw [Ba];exact decide_eq_false h1
 have g1':¬(compare n a = Ordering.gt ∨ n = a):=by
  rintro (h | h)
  ·have:=Int.compare_eq_gt.1 h;omega
  omega
 have HR:Hid (yY n a b = .tuple #[.int .i64 0,.bool false]):=ah (if_neg (by rw [show inR n a b = false from decide_eq_false fun h => h1 h.1];decide))
 go_enter func298,ntmps298
 go_wp2_with fail
 go_ret2
 exact ⟨by rw [HR.out];rfl,by first | rfl | trivial⟩
def pcV (p:Pc):Value:=.agg #[.complex .f64 (fb (p.pos:Int)) (fb (p.n:Int)),.string p.t]
def iD (b:Nat) (p:Pc):Value:=match aN b p with
 | some x => .tuple #[.int .i64 (x.1:Int),.int .i64 (x.2:Int),.bool true]
 | none => .tuple #[.int .i64 0,.int .i64 0,.bool false]
theorem vS {n a b:Int} (h1:a ≤ n) (h2:n ≤ b):inR n a b = true:=decide_eq_true ⟨h1,h2⟩
theorem qY {n a b:Int} (h:¬(a ≤ n ∧ n ≤ b)):inR n a b = false:=decide_eq_false h
theorem wX (b:Nat) (p:Pc) (w:World) (hb:b ≤ 100000) (hp:p.pos ≤ 100000) (hn:p.n ≤ 100000):Calls prog 301 #[pcV p,.int .i64 (b:Int)] w fun e w' => e = .returned (iD b p) ∧ Below w.heap.size w w':=by
 obtain ⟨at0,n,t⟩:=p
 dsimp only at hp hn
 obtain ⟨W,hW⟩:∃ W,w.alloc (.cells #[.complex .f64 (fb (at0:Int)) (fb (n:Int)),.string t] 388) = W:=⟨_,rfl⟩
 have hbW:Below w.heap.size w W:=by rw [← hW];exact bal
 have c0:W.cell? ⟨w.heap.size,0,none⟩ = some (.complex .f64 (fb (at0:Int)) (fb (n:Int))):=by rw [← hW,World.cell?_alloc_new];rfl
 have c1:W.cell? ⟨w.heap.size,1,none⟩ = some (.string t):=by rw [← hW,World.cell?_alloc_new];rfl
 have HW1:=ah (xW (n:Int) 1 4099 (by omega) (by decide) (by decide) W)
 have HW:=ah hW
 have HBW:=ah hbW
 have hcn:=qo (n:Int) (by omega)
 have hca:=qo (at0:Int) (by omega)
 clear hW hbW
 unfold pcV
 dsimp only
 by_cases h1:1 ≤ n ∧ n ≤ 4099
 ·have e1:=vS (n:=(n:Int)) (a:=1) (b:=4099) (by omega) (by omega)
  rw [e1] at HW1
  by_cases h2:t.size = 0
  ·have ht:t = ⟨#[]⟩:=by
    apply fC
    have:t.data.toList.length = 0:=by simpa using h2
    rw [List.length_eq_zero_iff.1 this]
   subst ht
   have wb:IntKind.i64.wrap ((b:Int) - (n:Int)) = (b:Int) - (n:Int):=by rw [IntKind.wrap_i64];omega
   have HW2:=ah (xW (at0:Int) 0 ((b:Int) - (n:Int)) (by omega) (by decide) (by omega) W)
   by_cases h3:n ≤ b ∧ at0 ≤ b - n
   ·have e2:=vS (n:=(at0:Int)) (a:=0) (b:=(b:Int) - (n:Int)) (by omega) (by omega)
    rw [e2] at HW2
    have HC:Hid (iD b ⟨at0,n,⟨#[]⟩⟩ = .tuple #[.int .i64 (at0:Int),.int .i64 (n:Int),.bool true]):=ah (by
     unfold iD aN
     rw [if_pos ⟨h1.1,h1.2,rfl,h3.1,h3.2⟩])
    clear h1 h2 h3 e1 e2
    go_enter func301,ntmps301
    go_upto_region 1 with fail
    rw [HW.out]
    go_wp2_with fail
    refine HW1.out.mono ?_
    rintro e w2 ⟨rfl,rfl⟩
    go_wp2_with fail
    refine HW2.out.mono ?_
    rintro e w3 ⟨rfl,rfl⟩
    go_wp2_with fail
    go_ret3
    exact ⟨by rw [HC.out];rfl,HBW.out⟩
   have e2:=qY (n:=(at0:Int)) (a:=0) (b:=(b:Int) - (n:Int)) (by omega)
   rw [e2] at HW2
   have HC:Hid (iD b ⟨at0,n,⟨#[]⟩⟩ = .tuple #[.int .i64 0,.int .i64 0,.bool false]):=ah (by
    unfold iD aN
    rw [if_neg (by intro h;exact h3 ⟨h.2.2.2.1,h.2.2.2.2⟩)])
   clear h1 h2 h3 e1 e2
   go_enter func301,ntmps301
   go_upto_region 1 with fail
   rw [HW.out]
   go_wp2_with fail
   refine HW1.out.mono ?_
   rintro e w2 ⟨rfl,rfl⟩
   go_wp2_with fail
   refine HW2.out.mono ?_
   rintro e w3 ⟨rfl,rfl⟩
   go_wp2_with fail
   go_ret3
   exact ⟨by rw [HC.out];rfl,HBW.out⟩
  have htn:¬ t.size = 0:=h2
  have htl:t.toList.isEmpty = false:=by
   rw [Bool.eq_false_iff]
   intro h
   have h5:=List.isEmpty_iff.1 h
   rw [ByteArray.toList_eq] at h5
   have h6:t.data.toList.length = 0:=by rw [h5];rfl
   exact htn (by simpa using h6)
  have HC:Hid (iD b ⟨at0,n,t⟩ = .tuple #[.int .i64 0,.int .i64 0,.bool false]):=ah (by
   unfold iD aN
   rw [if_neg (by intro h;exact htn h.2.2.1)])
  clear h1 h2 e1 htn
  go_enter func301,ntmps301
  go_upto_region 1 with fail
  rw [HW.out]
  go_wp2_with fail
  refine HW1.out.mono ?_
  rintro e w2 ⟨rfl,rfl⟩
  go_wp2_with fail
  go_ret3
  exact ⟨by rw [HC.out];rfl,HBW.out⟩
 have e1:=qY (n:=(n:Int)) (a:=1) (b:=4099) (by omega)
 rw [e1] at HW1
 have HC:Hid (iD b ⟨at0,n,t⟩ = .tuple #[.int .i64 0,.int .i64 0,.bool false]):=ah (by
  unfold iD aN
  rw [if_neg (by intro h;exact h1 ⟨h.1,h.2.1⟩)])
 clear h1 e1
 go_enter func301,ntmps301
 go_upto_region 1 with fail
 rw [HW.out]
 go_wp2_with fail
 refine HW1.out.mono ?_
 rintro e w2 ⟨rfl,rfl⟩
 go_wp2_with fail
 go_ret3
 exact ⟨by rw [HC.out];rfl,HBW.out⟩
theorem GQ:floatOfInt .f64 0 = 0:=by decide
theorem Fq (b:Nat) (p:Pc) (w:World) (hb:b ≤ 100000) (hp:p.pos ≤ 100000) (hn:p.n ≤ 100000) (ht:p.t.size ≤ 1000000):Calls prog 307 #[pcV p,.int .i64 (b:Int)] w fun e w' => e = .returned (.int .i64 (lenP b p:Int)) ∧ Below w.heap.size w w':=by
 obtain ⟨at0,n,t⟩:=p
 dsimp only at hp hn ht
 obtain ⟨W,hW⟩:∃ W,w.alloc (.cells #[.complex .f64 (fb (at0:Int)) (fb (n:Int)),.string t] 388) = W:=⟨_,rfl⟩
 have hbW:Below w.heap.size w W:=by rw [← hW];exact bal
 have c0:W.cell? ⟨w.heap.size,0,none⟩ = some (.complex .f64 (fb (at0:Int)) (fb (n:Int))):=by rw [← hW,World.cell?_alloc_new];rfl
 have c1:W.cell? ⟨w.heap.size,1,none⟩ = some (.string t):=by rw [← hW,World.cell?_alloc_new];rfl
 have HW:=ah hW
 have HBW:=ah hbW
 clear hW hbW
 unfold pcV
 dsimp only
 obtain ⟨x,hx⟩:∃ x,fb (at0:Int) = x:=⟨_,rfl⟩
 obtain ⟨y,hy⟩:∃ y,fb (n:Int) = y:=⟨_,rfl⟩
 have ox:=mI (at0:Int) 0 (by omega) (by decide)
 have oy:=mI (n:Int) 0 (by omega) (by decide)
 rw [GQ] at ox oy
 have HCP:=ah (wX b ⟨at0,n,t⟩ W hb hp hn)
 have HCP:=ah (show Calls prog 301 #[.agg #[.complex .f64 x y,.string t],.int .i64 (b:Int)] W _ from by rw [← hx,← hy];exact HCP.out)
 rw [hx] at HW c0 ox
 rw [hy] at HW c0 oy
 rw [hx,hy]
 have HX:=ah hx
 have HY:=ah hy
 clear hx hy
 by_cases h1:at0 = 0 ∧ n = 0
 ·have ox2:FloatKind.f64.format.order x 0 = some Ordering.eq:=by rw [ox,show ((at0:Int)) = 0 by omega];rfl
  have oy2:FloatKind.f64.format.order y 0 = some Ordering.eq:=by rw [oy,show ((n:Int)) = 0 by omega];rfl
  by_cases h2:t.size ≤ 4099
  ·have h2':((t.size:Int) ≤ 4099):=by omega
   have HL:Hid (lenP b ⟨at0,n,t⟩ = t.size):=ah (by unfold lenP;rw [if_pos ⟨h1.1,h1.2,h2⟩])
   clear h1 h2 ox oy
   go_enter func307,ntmps307
   go_upto_region 1 with fail
   rw [HW.out]
   go_wp2_with fail
   go_ret
   exact ⟨by rw [HL.out];rfl,HBW.out⟩
  have h2':¬((t.size:Int) ≤ 4099):=by omega
  have HL:Hid (lenP b ⟨at0,n,t⟩ = match aN b ⟨at0,n,t⟩ with | some x => x.2 | none => 0):=ah (by unfold lenP;rw [if_neg (fun h => h2 h.2.2)];rfl)
  clear h1 h2 ox oy
  cases hcp:aN b ⟨at0,n,t⟩ with
  | none =>
   rw [hcp] at HL
   have HA:iD b ⟨at0,n,t⟩ = .tuple #[.int .i64 0,.int .i64 0,.bool false]:=by unfold iD;rw [hcp]
   rw [HA] at HCP
   clear hcp HA
   go_enter func307,ntmps307
   go_upto_region 1 with fail
   rw [HW.out]
   go_wp2_with fail
   refine HCP.out.mono ?_
   rintro e w2 ⟨rfl,hb2⟩
   go_wp2_with fail
   go_ret
   exact ⟨by rw [HL.out];rfl,HBW.out.trans (hb2.mono HBW.out.size)⟩
  | some v =>
   rw [hcp] at HL
   have HA:iD b ⟨at0,n,t⟩ = .tuple #[.int .i64 (v.1:Int),.int .i64 (v.2:Int),.bool true]:=by unfold iD;rw [hcp]
   rw [HA] at HCP
   clear hcp HA
   go_enter func307,ntmps307
   go_upto_region 1 with fail
   rw [HW.out]
   go_wp2_with fail
   refine HCP.out.mono ?_
   rintro e w2 ⟨rfl,hb2⟩
   go_wp2_with fail
   go_ret
   exact ⟨by rw [HL.out];rfl,HBW.out.trans (hb2.mono HBW.out.size)⟩
 have hF:(FloatKind.f64.format.order x 0 == some Ordering.eq && FloatKind.f64.format.order y 0 == some Ordering.eq) = false:=by
  rw [ox,oy,Bool.eq_false_iff]
  intro h
  rw [Bool.and_eq_true,beq_iff_eq,beq_iff_eq,Option.some.injEq,Option.some.injEq,Int.compare_eq_eq,Int.compare_eq_eq] at h
  exact h1 ⟨by omega,by omega⟩
 have hN:¬(FloatKind.f64.format.order x 0 = some Ordering.eq ∧ FloatKind.f64.format.order y 0 = some Ordering.eq):=by
  rintro ⟨h3,h4⟩
  rw [ox,Option.some.injEq,Int.compare_eq_eq] at h3
  rw [oy,Option.some.injEq,Int.compare_eq_eq] at h4
  exact h1 ⟨by omega,by omega⟩
 have HL:Hid (lenP b ⟨at0,n,t⟩ = match aN b ⟨at0,n,t⟩ with | some x => x.2 | none => 0):=ah (by unfold lenP;rw [if_neg (fun h => h1 ⟨h.1,h.2.1⟩)];rfl)
 clear h1 ox oy
 cases hcp:aN b ⟨at0,n,t⟩ with
 | none =>
  rw [hcp] at HL
  have HA:iD b ⟨at0,n,t⟩ = .tuple #[.int .i64 0,.int .i64 0,.bool false]:=by unfold iD;rw [hcp]
  rw [HA] at HCP
  clear hcp HA
  go_enter func307,ntmps307
  go_upto_region 1 with fail
  rw [HW.out]
  go_wp2_with fail
  refine HCP.out.mono ?_
  rintro e w2 ⟨rfl,hb2⟩
  go_wp2_with fail
  go_ret
  exact ⟨by rw [HL.out];rfl,HBW.out.trans (hb2.mono HBW.out.size)⟩
 | some v =>
  rw [hcp] at HL
  have HA:iD b ⟨at0,n,t⟩ = .tuple #[.int .i64 (v.1:Int),.int .i64 (v.2:Int),.bool true]:=by unfold iD;rw [hcp]
  rw [HA] at HCP
  clear hcp HA
  go_enter func307,ntmps307
  go_upto_region 1 with fail
  rw [HW.out]
  go_wp2_with fail
  refine HCP.out.mono ?_
  rintro e w2 ⟨rfl,hb2⟩
  go_wp2_with fail
  go_ret
  exact ⟨by rw [HL.out];rfl,HBW.out.trans (hb2.mono HBW.out.size)⟩
def fJ (b:Nat) (p:Pc) (v:Value):Prop:=match aN b p with
 | some x => v = .tuple #[.int .i64 (x.1:Int),.int .i64 (x.2:Int),.bool true]
 | none => ∃ i j:Int,v = .tuple #[.int .i64 i,.int .i64 j,.bool false]
theorem GD {n a b:Int} (h1:a ≤ n) (h2:n ≤ b):yY n a b = .tuple #[.int .i64 n,.bool true]:=if_pos (vS h1 h2)
theorem CO {n a b:Int} (h:¬(a ≤ n ∧ n ≤ b)):yY n a b = .tuple #[.int .i64 0,.bool false]:=if_neg (by rw [qY h];decide)
theorem qM (b:Nat) (p:Pc) (w:World) (hb:b ≤ 100000) (hp:p.pos ≤ 100000) (hn:p.n ≤ 100000) (ht:p.t.size ≤ 1000000):Calls prog 277 #[pcV p,.int .i64 (b:Int)] w fun e w' => (∃ v,e = .returned v ∧ fJ b p v) ∧ Below w.heap.size w w':=by
 obtain ⟨at0,n,t⟩:=p
 dsimp only at hp hn ht
 obtain ⟨W,hW⟩:∃ W,w.alloc (.cells #[.complex .f64 (fb (at0:Int)) (fb (n:Int)),.string t] 388) = W:=⟨_,rfl⟩
 have hbW:Below w.heap.size w W:=by rw [← hW];exact bal
 have c0:W.cell? ⟨w.heap.size,0,none⟩ = some (.complex .f64 (fb (at0:Int)) (fb (n:Int))):=by rw [← hW,World.cell?_alloc_new];rfl
 have c1:W.cell? ⟨w.heap.size,1,none⟩ = some (.string t):=by rw [← hW,World.cell?_alloc_new];rfl
 have HW1:=ah (CQ (n:Int) 1 4099 (by omega) (by decide) (by decide) W)
 have HW:=ah hW
 have HBW:=ah hbW
 clear hW hbW
 unfold pcV
 dsimp only
 by_cases h1:1 ≤ n ∧ n ≤ 4099
 ·have e1:=GD (n:=(n:Int)) (a:=1) (b:=4099) (by omega) (by omega)
  rw [e1] at HW1
  by_cases h2:t.size = 0
  ·have h2':¬(0 < t.size):=by omega
   have h2'':¬((0:Int) < (t.size:Int)):=by omega
   by_cases h4:n ≤ b
   ·have h4':¬(b < n):=by omega
    have h4'':¬((b:Int) < (n:Int)):=by omega
    have wb:IntKind.i64.wrap ((b:Int) - (n:Int)) = (b:Int) - (n:Int):=by rw [IntKind.wrap_i64];omega
    have HW2:=ah (CQ (at0:Int) 0 ((b:Int) - (n:Int)) (by omega) (by decide) (by omega) W)
    by_cases h3:at0 ≤ b - n
    ·have e2:=GD (n:=(at0:Int)) (a:=0) (b:=(b:Int) - (n:Int)) (by omega) (by omega)
     rw [e2] at HW2
     have HC:Hid (fJ b ⟨at0,n,t⟩ (.tuple #[.int .i64 (at0:Int),.int .i64 (n:Int),.bool true])):=ah (by
      unfold fJ aN
      rw [if_pos ⟨h1.1,h1.2,h2,h4,h3⟩])
     clear h1 h2 h3 h4 e1 e2
     go_enter func277,ntmps277
     go_upto_region 1 with fail
     rw [HW.out]
     go_wp2_with fail
     refine HW1.out.mono ?_
     rintro e w2 ⟨rfl,rfl⟩
     go_wp2_with fail
     refine HW2.out.mono ?_
     rintro e w3 ⟨rfl,rfl⟩
     go_wp2_with fail
     go_ret3
     exact ⟨⟨_,rfl,HC.out⟩,HBW.out⟩
    have e2:=CO (n:=(at0:Int)) (a:=0) (b:=(b:Int) - (n:Int)) (by omega)
    rw [e2] at HW2
    have HC:Hid (fJ b ⟨at0,n,t⟩ (.tuple #[.int .i64 0,.int .i64 (n:Int),.bool false])):=ah (by
     unfold fJ aN
     rw [if_neg (by intro h;exact h3 h.2.2.2.2)]
     exact ⟨_,_,rfl⟩)
    clear h1 h2 h3 h4 e1 e2
    go_enter func277,ntmps277
    go_upto_region 1 with fail
    rw [HW.out]
    go_wp2_with fail
    refine HW1.out.mono ?_
    rintro e w2 ⟨rfl,rfl⟩
    go_wp2_with fail
    refine HW2.out.mono ?_
    rintro e w3 ⟨rfl,rfl⟩
    go_wp2_with fail
    go_ret3
    exact ⟨⟨_,rfl,HC.out⟩,HBW.out⟩
   have h4':b < n:=by omega
   have h4'':((b:Int) < (n:Int)):=by omega
   have HC:Hid (fJ b ⟨at0,n,t⟩ (.tuple #[.int .i64 0,.int .i64 0,.bool false])):=ah (by
    unfold fJ aN
    rw [if_neg (by intro h;exact h4 h.2.2.2.1)]
    exact ⟨_,_,rfl⟩)
   clear h1 h2 h4 e1
   go_enter func277,ntmps277
   go_upto_region 1 with fail
   rw [HW.out]
   go_wp2_with fail
   refine HW1.out.mono ?_
   rintro e w2 ⟨rfl,rfl⟩
   go_wp2_with fail
   go_ret3
   exact ⟨⟨_,rfl,HC.out⟩,HBW.out⟩
  have h2':0 < t.size:=by omega
  have h2'':((0:Int) < (t.size:Int)):=by omega
  have HC:Hid (fJ b ⟨at0,n,t⟩ (.tuple #[.int .i64 0,.int .i64 0,.bool false])):=ah (by
   unfold fJ aN
   rw [if_neg (by intro h;exact h2 h.2.2.1)]
   exact ⟨_,_,rfl⟩)
  clear h1 h2 e1
  go_enter func277,ntmps277
  go_upto_region 1 with fail
  rw [HW.out]
  go_wp2_with fail
  refine HW1.out.mono ?_
  rintro e w2 ⟨rfl,rfl⟩
  go_wp2_with fail
  go_ret3
  exact ⟨⟨_,rfl,HC.out⟩,HBW.out⟩
 have e1:=CO (n:=(n:Int)) (a:=1) (b:=4099) (by omega)
 rw [e1] at HW1
 have HC:Hid (fJ b ⟨at0,n,t⟩ (.tuple #[.int .i64 0,.int .i64 0,.bool false])):=ah (by
  unfold fJ aN
  rw [if_neg (by intro h;exact h1 ⟨h.1,h.2.1⟩)]
  exact ⟨_,_,rfl⟩)
 clear h1 e1
 go_enter func277,ntmps277
 go_upto_region 1 with fail
 rw [HW.out]
 go_wp2_with fail
 refine HW1.out.mono ?_
 rintro e w2 ⟨rfl,rfl⟩
 go_wp2_with fail
 go_ret3
 exact ⟨⟨_,rfl,HC.out⟩,HBW.out⟩
theorem BU (b:Nat) (p:Pc) (w:World) (hb:b ≤ 100000) (hp:p.pos ≤ 100000) (hn:p.n ≤ 100000) (ht:p.t.size ≤ 1000000):Calls prog 297 #[pcV p,.int .i64 (b:Int)] w fun e w' => e = .returned (.bool (bI b p)) ∧ Below w.heap.size w w':=by
 obtain ⟨at0,n,t⟩:=p
 dsimp only at hp hn ht
 obtain ⟨W,hW⟩:∃ W,w.alloc (.cells #[.complex .f64 (fb (at0:Int)) (fb (n:Int)),.string t] 388) = W:=⟨_,rfl⟩
 have hbW:Below w.heap.size w W:=by rw [← hW];exact bal
 have c0:W.cell? ⟨w.heap.size,0,none⟩ = some (.complex .f64 (fb (at0:Int)) (fb (n:Int))):=by rw [← hW,World.cell?_alloc_new];rfl
 have c1:W.cell? ⟨w.heap.size,1,none⟩ = some (.string t):=by rw [← hW,World.cell?_alloc_new];rfl
 have HW:=ah hW
 have HBW:=ah hbW
 clear hW hbW
 unfold pcV
 dsimp only
 obtain ⟨x,hx⟩:∃ x,fb (at0:Int) = x:=⟨_,rfl⟩
 obtain ⟨y,hy⟩:∃ y,fb (n:Int) = y:=⟨_,rfl⟩
 have ox:=mI (at0:Int) 0 (by omega) (by decide)
 have oy:=mI (n:Int) 0 (by omega) (by decide)
 rw [GQ] at ox oy
 have HCP:=ah (qM b ⟨at0,n,t⟩ W hb hp hn ht)
 have HCP:=ah (show Calls prog 277 #[.agg #[.complex .f64 x y,.string t],.int .i64 (b:Int)] W _ from by rw [← hx,← hy];exact HCP.out)
 rw [hx] at HW c0 ox
 rw [hy] at HW c0 oy
 rw [hx,hy]
 have HX:=ah hx
 have HY:=ah hy
 clear hx hy
 have xT:at0 = 0 → FloatKind.f64.format.order x 0 = some Ordering.eq:=by intro h;rw [ox,h];rfl
 have yT:n = 0 → FloatKind.f64.format.order y 0 = some Ordering.eq:=by intro h;rw [oy,h];rfl
 have xF:at0 ≠ 0 → ¬ FloatKind.f64.format.order x 0 = some Ordering.eq:=by
  intro h h3;rw [ox,Option.some.injEq,Int.compare_eq_eq] at h3;omega
 have yF:n ≠ 0 → ¬ FloatKind.f64.format.order y 0 = some Ordering.eq:=by
  intro h h3;rw [oy,Option.some.injEq,Int.compare_eq_eq] at h3;omega
 clear ox oy
 by_cases h1:at0 = 0
 ·have f1:=xT h1
  have f1b:(FloatKind.f64.format.order x 0 == some Ordering.eq) = true:=by rw [f1];rfl
  by_cases h2:n = 0
  ·have f2:=yT h2
   have f2b:(FloatKind.f64.format.order y 0 == some Ordering.eq) = true:=by rw [f2];rfl
   clear xT yT xF yF
   by_cases h3:1 ≤ t.size
   ·have h3':(1:Int) ≤ (t.size:Int):=by omega
    by_cases h4:t.size ≤ 4099
    ·have h4':(t.size:Int) ≤ 4099:=by omega
     have HL:Hid (bI b ⟨at0,n,t⟩ = true):=ah (by unfold bI;rw [if_pos ⟨h1,h2⟩];exact decide_eq_true ⟨h3,h4⟩)
     clear h1 h2
     go_enter func297,ntmps297
     go_upto_region 1 with fail
     rw [HW.out]
     go_wp2_with fail
     go_ret
     exact ⟨by rw [HL.out];rfl,HBW.out⟩
    have h4':¬ (t.size:Int) ≤ 4099:=by omega
    have HL:Hid (bI b ⟨at0,n,t⟩ = false):=ah (by unfold bI;rw [if_pos ⟨h1,h2⟩];exact decide_eq_false fun h => h4 h.2)
    clear h1 h2
    go_enter func297,ntmps297
    go_upto_region 1 with fail
    rw [HW.out]
    go_wp2_with fail
    go_ret
    exact ⟨by rw [HL.out];rfl,HBW.out⟩
   have h3':¬ (1:Int) ≤ (t.size:Int):=by omega
   have h3z:t.size = 0:=by omega
   have HL:Hid (bI b ⟨at0,n,t⟩ = false):=ah (by unfold bI;rw [if_pos ⟨h1,h2⟩];exact decide_eq_false fun h => h3 h.1)
   clear h1 h2
   go_enter func297,ntmps297
   go_upto_region 1 with fail
   rw [HW.out]
   go_wp2_with fail
   go_ret
   exact ⟨by rw [HL.out];rfl,HBW.out⟩
  have f2:=yF h2
  have f2b:(FloatKind.f64.format.order y 0 == some Ordering.eq) = false:=by rw [Bool.eq_false_iff,ne_eq,beq_iff_eq];exact f2
  have HL:Hid (bI b ⟨at0,n,t⟩ = (aN b ⟨at0,n,t⟩).isSome):=ah (by unfold bI;rw [if_neg fun h => h2 h.2])
  clear xT yT xF yF h1 h2
  cases hcp:aN b ⟨at0,n,t⟩ with
  | none =>
   rw [hcp] at HL
   have HK:Hid (aN b ⟨at0,n,t⟩ = none):=ah hcp
   clear hcp
   go_enter func297,ntmps297
   go_upto_region 1 with fail
   rw [HW.out]
   go_wp2_with fail
   refine HCP.out.mono ?_
   rintro e w2 ⟨⟨v,rfl,hv⟩,hb2⟩
   unfold fJ at hv
   rw [HK.out] at hv
   obtain ⟨i,j,rfl⟩:=hv
   go_wp2_with fail
   go_ret
   exact ⟨by rw [HL.out];rfl,HBW.out.trans (hb2.mono HBW.out.size)⟩
  | some q =>
   rw [hcp] at HL
   have HK:Hid (aN b ⟨at0,n,t⟩ = some q):=ah hcp
   clear hcp
   go_enter func297,ntmps297
   go_upto_region 1 with fail
   rw [HW.out]
   go_wp2_with fail
   refine HCP.out.mono ?_
   rintro e w2 ⟨⟨v,rfl,hv⟩,hb2⟩
   unfold fJ at hv
   rw [HK.out] at hv
   dsimp only at hv
   subst hv
   go_wp2_with fail
   go_ret
   exact ⟨by rw [HL.out];rfl,HBW.out.trans (hb2.mono HBW.out.size)⟩
 have f1:=xF h1
 have f1b:(FloatKind.f64.format.order x 0 == some Ordering.eq) = false:=by rw [Bool.eq_false_iff,ne_eq,beq_iff_eq];exact f1
 have HL:Hid (bI b ⟨at0,n,t⟩ = (aN b ⟨at0,n,t⟩).isSome):=ah (by unfold bI;rw [if_neg fun h => h1 h.1])
 clear xT yT xF yF h1
 cases hcp:aN b ⟨at0,n,t⟩ with
 | none =>
  rw [hcp] at HL
  have HK:Hid (aN b ⟨at0,n,t⟩ = none):=ah hcp
  clear hcp
  go_enter func297,ntmps297
  go_upto_region 1 with fail
  rw [HW.out]
  go_wp2_with fail
  refine HCP.out.mono ?_
  rintro e w2 ⟨⟨v,rfl,hv⟩,hb2⟩
  unfold fJ at hv
  rw [HK.out] at hv
  obtain ⟨i,j,rfl⟩:=hv
  go_wp2_with fail
  go_ret
  exact ⟨by rw [HL.out];rfl,HBW.out.trans (hb2.mono HBW.out.size)⟩
 | some q =>
  rw [hcp] at HL
  have HK:Hid (aN b ⟨at0,n,t⟩ = some q):=ah hcp
  clear hcp
  go_enter func297,ntmps297
  go_upto_region 1 with fail
  rw [HW.out]
  go_wp2_with fail
  refine HCP.out.mono ?_
  rintro e w2 ⟨⟨v,rfl,hv⟩,hb2⟩
  unfold fJ at hv
  rw [HK.out] at hv
  dsimp only at hv
  subst hv
  go_wp2_with fail
  go_ret
  exact ⟨by rw [HL.out];rfl,HBW.out.trans (hb2.mono HBW.out.size)⟩
end
end Go.Proofs.YtijhemdnajlfnaaGreatDoor
