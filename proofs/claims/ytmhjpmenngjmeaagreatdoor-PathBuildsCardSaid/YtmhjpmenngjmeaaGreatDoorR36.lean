/- YtmhjpmenngjmeaaGreatDoorR36: texts ST, SU, SV, SW, SX, SY, SZ of this claim, in one. -/
import Derived.Shelf.SlSortFuncK.ComposeK
import Derived.Test.YtmhjpmenngjmeaaGreatDoorR2
import Derived.Test.YtmhjpmenngjmeaaGreatDoorR29
import Derived.Test.YtmhjpmenngjmeaaGreatDoorR35
namespace Go.Proofs.YtmhjpmenngjmeaaGreatDoor
open Go.RowKit Go.Sort Go.Shelf
set_option maxRecDepth 100000
structure SymP (P:Program) (k:Nat):Prop where
 mixed:P.follows .mixedOrders = true
 fS:P.funcs[150]? = some Tryz.f150
 fR:P.funcs[146]? = some Tryz.f146
 fM:P.funcs[136]? = some Tryz.f136
 t0:P.underlying 0 = some (TypeDesc.tuple #[])
 a0:∀ w,(isAgg 0).run P w = .ok false w
 z0:∀ w,(Go.sizeOf 0).run P w = .ok 1 w
 v0:∀ w,(zeroValue 0).run P w = .ok (Value.tuple #[]) w
 t3:P.underlying 3 = some (TypeDesc.int IntKind.i64)
 a3:∀ w,(isAgg 3).run P w = .ok false w
 z3:∀ w,(Go.sizeOf 3).run P w = .ok 1 w
 v3:∀ w,(zeroValue 3).run P w = .ok (Value.int IntKind.i64 0) w
 t4:P.underlying 4 = some (TypeDesc.bool)
 a4:∀ w,(isAgg 4).run P w = .ok false w
 z4:∀ w,(Go.sizeOf 4).run P w = .ok 1 w
 v4:∀ w,(zeroValue 4).run P w = .ok (Value.bool false) w
 t5:P.underlying 95 = some (TypeDesc.int IntKind.u64)
 a5:∀ w,(isAgg 95).run P w = .ok false w
 z5:∀ w,(Go.sizeOf 95).run P w = .ok 1 w
 v5:∀ w,(zeroValue 95).run P w = .ok (Value.int IntKind.u64 0) w
 tL:P.underlying 79 = some (TypeDesc.slice 84)
 aL:∀ w,(isAgg 79).run P w = .ok false w
 zL:∀ w,(Go.sizeOf 79).run P w = .ok 1 w
 vL:∀ w,(zeroValue 79).run P w = .ok (Value.slice none 0 0) w
 tF:P.underlying 122 = some (TypeDesc.func #[84,84] #[3] false)
 aF:∀ w,(isAgg 122).run P w = .ok false w
 zF:∀ w,(Go.sizeOf 122).run P w = .ok 1 w
 vF:∀ w,(zeroValue 122).run P w = .ok (Value.nilFunc) w
 aE:∀ w,(isAgg 84).run P w = .ok true w
 zE:∀ w,(Go.sizeOf 84).run P w = .ok k w
theorem symP:SymP Tryz.prog 34 where
 mixed:=by kernel_rfl
 fS:=Tryz.func150
 fR:=Tryz.func146
 fM:=Tryz.func136
 t0:=Tryz.underlying0
 a0:=Tryz.isAgg0
 z0:=Tryz.sizeOf0
 v0:=Tryz.zeroValue0
 t3:=Tryz.underlying3
 a3:=Tryz.isAgg3
 z3:=Tryz.sizeOf3
 v3:=Tryz.zeroValue3
 t4:=Tryz.underlying4
 a4:=Tryz.isAgg4
 z4:=Tryz.sizeOf4
 v4:=Tryz.zeroValue4
 t5:=Tryz.underlying95
 a5:=Tryz.isAgg95
 z5:=Tryz.sizeOf95
 v5:=Tryz.zeroValue95
 tL:=Tryz.underlying79
 aL:=Tryz.isAgg79
 zL:=Tryz.sizeOf79
 vL:=Tryz.zeroValue79
 tF:=Tryz.underlying122
 aF:=Tryz.isAgg122
 zF:=Tryz.sizeOf122
 vF:=Tryz.zeroValue122
 aE:=Tryz.isAgg84
 zE:=Tryz.sizeOf84
section
variable {α:Type} [Inhabited α] (enc:α → List Value) (k:Nat)
def SWK (w:World) (g off sz:Nat) (wr:World) (dk:Array α):Prop:=dk.size = sz ∧ ∃ n os,wr = sortWorldK enc k w g off n dk os
variable {enc:α → List Value} {k:Nat}
theorem SWK.start {w:World} {g off:Nat} {d:Array α} (h:HoldsK enc k w g off d):SWK enc k w g off d.size w d :=
 ⟨rfl,0,#[],by unfold sortWorldK;rw [grow_empty];exact (putRowK_self enc k w g off d h).symm⟩
theorem SWK.hold {w wr:World} {g off:Nat} {d dk:Array α} (h:HoldsK enc k w g off d) (hg:g < w.heap.size) (hs:SWK enc k w g off d.size wr dk):HoldsK enc k wr g off dk:=by
 obtain ⟨e,n,os,rfl⟩:=hs
 exact holdsK_sortWorldK_c enc k w g off d dk n os h hg e
theorem SWK.le {w wr:World} {g off sz:Nat} {dk:Array α} (hs:SWK enc k w g off sz wr dk):w.heap.size ≤ wr.heap.size:=by
 obtain ⟨_,n,os,rfl⟩:=hs
 exact size_sortWorldK_c enc k w g off n dk os
theorem SWK.grow {w wr:World} {g off sz:Nat} {dk:Array α} (hs:SWK enc k w g off sz wr dk) (n:Nat) (os:Array Obj):SWK enc k w g off sz (Go.Sort.grow (wr.drewN n) os) dk:=by
 obtain ⟨e,m,os',rfl⟩:=hs
 exact ⟨e,m + n,os' ++ os,sortWorldK_grown_c enc k w g off m n dk os' os⟩
theorem SWK.drew {w wr:World} {g off sz:Nat} {dk:Array α} (hs:SWK enc k w g off sz wr dk):SWK enc k w g off sz wr.drew dk:=by
 have:=hs.grow 1 #[]
 rw [grow_empty] at this
 exact this
theorem SWK.swp {w wr:World} {g off sz:Nat} {dk:Array α} (hk:∀ x,(enc x).length = k) (hs:SWK enc k w g off sz wr dk) (hg:g < w.heap.size) {i j:Nat} (hi:i < sz) (hj:j < sz) :
  SWK enc k w g off sz ((wr.drew.setCells g (off + i * k) (enc dk[j]!)).setCells g (off + j * k) (enc dk[i]!)) (Go.Sort.swp dk i j):=by
 obtain ⟨e,m,os,rfl⟩:=hs
 exact ⟨by rw [size_swp];exact e,m + 1,os,sortWorldK_swp_c enc k w g off hk m dk os hg i j (by rw [e];exact hi) (by rw [e];exact hj)⟩
theorem SWK.trans {w wr wr2:World} {g off sz:Nat} {dk d2:Array α} (hg:g < w.heap.size) (h1:SWK enc k w g off sz wr dk) (h2:SWK enc k wr g off sz wr2 d2):SWK enc k w g off sz wr2 d2:=by
 obtain ⟨e,m,os,rfl⟩:=h1
 obtain ⟨e2,m2,os2,rfl⟩:=h2
 exact ⟨e2,_,_,sortWorldK_on enc k w g off m m2 dk d2 os os2 hg (by rw [e,e2])⟩
theorem swp_facts {P:Program} (hk:∀ x,(enc x).length = k) (h1:∀ x,∀ v ∈ enc x,v.oneCell' = true) {W:World} {g off:Nat} {d:Array α} (h:HoldsK enc k W g off d) {i j:Nat} (hi:i < d.size) (hj:j < d.size) :
  Sem.run P (loadCellsFrom ⟨g,off + i * k,none⟩ 0 k #[]) W = .ok (enc d[i]!).toArray W ∧
  Sem.run P (loadCellsFrom ⟨g,off + j * k,none⟩ 0 k #[]) W = .ok (enc d[j]!).toArray W ∧
  Sem.run P (storeCells ⟨g,off + i * k,none⟩ (enc d[j]!) 0) W = .ok () (W.setCells g (off + i * k) (enc d[j]!)) ∧
  Sem.run P (storeCells ⟨g,off + j * k,none⟩ (enc d[i]!) 0) (W.setCells g (off + i * k) (enc d[j]!)) = .ok () ((W.setCells g (off + i * k) (enc d[j]!)).setCells g (off + j * k) (enc d[i]!)):=by
 have bnd:∀ x,x < d.size → x * k + k ≤ d.size * k:=fun x hx => by
  have:=Nat.mul_le_mul_right k (show x + 1 ≤ d.size from hx);rwa [Nat.add_mul,Nat.one_mul] at this
 refine ⟨run_loadCellsFrom_list _ _ _ _ k (hk _) (HoldsK.cells h hk hi),run_loadCellsFrom_list _ _ _ _ k (hk _) (HoldsK.cells h hk hj),
  stores_of_holds _ h (i * k) _ (by rw [hk,size_flatK];exact bnd i hi) (h1 _),
  stores_of_holds _ (holds_setCells_c h (i * k) _ (by rw [hk,size_flatK];exact bnd i hi)) (j * k) _ (by rw [hk,size_setMany,size_flatK];exact bnd j hj) (h1 _)⟩
set_option maxHeartbeats 4000000 in
theorem swapR_any {P:Program} (L:SymP P k) (hk:∀ x,(enc x).length = k) (h1:∀ x,∀ v ∈ enc x,v.oneCell' = true) (g off cap a b n:Nat) (d:Array α) (fv:Value) (w:World) (hH:HoldsK enc k w g off d) (hg:g < w.heap.size) (hab:a + n ≤ b) (hb:b + n ≤ d.size) (hsz:d.size ≤ 1000000) :
  Calls P 150 #[.slice (some ⟨g,off,none⟩) d.size cap,.int .i64 a,.int .i64 b,.int .i64 n,fv] w fun e w' => e = .returned (.tuple #[]) ∧ SWK enc k w g off d.size w' (swpR d a b n):=by
 have HS0:=Lib.hid (SWK.start hH)
 have HH:=Lib.hid hH
 have HK:=Lib.hid hk
 have H1:=Lib.hid h1
 clear hH hk h1
 have mixed:=L.mixed;have t0:=L.t0;have a0:=L.a0;have z0:=L.z0;have v0:=L.v0;have t3:=L.t3;have a3:=L.a3;have z3:=L.z3;have v3:=L.v3;have t4:=L.t4;have a4:=L.a4;have z4:=L.z4;have v4:=L.v4;have tL:=L.tL;have aL:=L.aL;have zL:=L.zL;have vL:=L.vL;have tF:=L.tF;have aF:=L.aF;have zF:=L.zF;have vF:=L.vF;have aE:=L.aE;have zE:=L.zE
 have uL:=run_underlying L.tL
 go_enter L.fS,Tryz.ntmps150
 go_wp2
 go_loopw [10] (fun i wr => ∃ q:Nat,i = .int .i64 (q:Int) ∧ q ≤ n ∧ SWK enc k w g off d.size wr (swpR d a b q)) (fun i _ => (n - intOf i).toNat)
 case atStart => exact ⟨0,rfl,by omega,HS0.out⟩
 case round =>
  obtain ⟨wo,rfl⟩:∃ wo:World,wo = wr:=⟨_,rfl⟩
  obtain ⟨q,rfl,hq,hst⟩:=hrel
  have HST:=Lib.hid hst
  clear hst
  by_cases hlt:q < n
  ·have d1:decide ((q:Int) < n) = true:=decide_eq_true (by omega)
   obtain ⟨dk,hdk⟩:∃ dk,swpR d a b q = dk:=⟨_,rfl⟩
   have HF:=swp_facts (P:=P) HK.out H1.out (W:=wo.drew) (d:=swpR d a b q) (HST.out.drew.hold HH.out hg) (i:=a + q) (j:=b + q) (by rw [swpR_size];omega) (by rw [swpR_size];omega)
   have HSW:=Lib.hid (HST.out.swp HK.out hg (i:=a + q) (j:=b + q) (by omega) (by omega))
   rw [hdk] at HF HSW
   have HNX:Hid (swpR d a b (q + 1) = swp dk (a + q) (b + q)):=Lib.hid (by rw [← hdk];rfl)
   obtain ⟨cI,hcI⟩:∃ c,enc dk[a + q]! = c:=⟨_,rfl⟩
   obtain ⟨cJ,hcJ⟩:∃ c,enc dk[b + q]! = c:=⟨_,rfl⟩
   have hlI:cI.length = k:=by rw [← hcI,HK.out]
   have hlJ:cJ.length = k:=by rw [← hcJ,HK.out]
   rw [hcI,hcJ] at HF HSW
   obtain ⟨f1,f2,f3,f4⟩:=HF
   have wa:IntKind.i64.wrap ((a:Int) + (q:Int)) = (a:Int) + (q:Int):=by rw [IntKind.wrap_i64];omega
   have wb:IntKind.i64.wrap ((b:Int) + (q:Int)) = (b:Int) + (q:Int):=by rw [IntKind.wrap_i64];omega
   have ta:((a:Int) + (q:Int)).toNat = a + q:=by omega
   have tb:((b:Int) + (q:Int)).toNat = b + q:=by omega
   have la:(a:Int) + (q:Int) < (d.size:Int):=by omega
   have lb:(b:Int) + (q:Int) < (d.size:Int):=by omega
   have pa:(0:Int) ≤ (a:Int) + (q:Int):=by omega
   have pb:(0:Int) ≤ (b:Int) + (q:Int):=by omega
   clear hdk hcI hcJ
   go_wp2_with fail
   go_big_region_o
   all_goals go_wp2
   go_roundw
   case rel => exact ⟨q + 1,by go_num,by omega,by rw [HNX.out];exact HSW.out⟩
   case measure => simp [intOf];omega
  ·obtain rfl:q = n:=by omega
   have d1:decide ((q:Int) < q) = false:=decide_eq_false (by omega)
   clear hq hlt
   go_wp2
   go_end0
   exact ⟨rfl,HST.out⟩
end
end Go.Proofs.YtmhjpmenngjmeaaGreatDoor
namespace Go.Proofs.YtmhjpmenngjmeaaGreatDoor
open Go.RowKit Go.Sort Go.Shelf
set_option maxRecDepth 100000
section
variable {α:Type} [Inhabited α] {enc:α → List Value} {k:Nat}
structure RotSt (d:Array α) (a m b i j:Nat) (dk:Array α):Prop where
 i0:0 < i
 j0:0 < j
 ia:a + i ≤ m
 jb:m + j ≤ b
 perm:PermIn a b d dk
 rot:∀ q,rotG dk (m - i) m (m + j) q = rotG d a m b q
theorem RotSt.start {d:Array α} {a m b:Nat} (h1:a < m) (h2:m < b):RotSt d a m b (m - a) (b - m) d :=
 ⟨by omega,by omega,by omega,by omega,permIn_refl _ _ _,fun q => by rw [show m - (m - a) = a from by omega,show m + (b - m) = b from by omega]⟩
theorem RotSt.gt {d dk:Array α} {a m b i j:Nat} (hb:b ≤ d.size) (h:RotSt d a m b i j dk) (hij:j < i):RotSt d a m b (i - j) j (swpR dk (m - i) m j) :=
 ⟨by omega,h.j0,by have:=h.ia;omega,h.jb,permIn_trans _ _ _ _ _ h.perm (swpR_perm _ _ _ _ _ (by have:=h.ia;omega) (by have:=h.ia;omega) (by rw [h.perm.1];exact hb) _ (by have:=h.ia;have:=h.jb;omega) (by have:=h.jb;omega)),fun q => by
  rw [← h.rot q]
  exact rot_gt dk m i j (by have:=h.ia;omega) hij (by rw [h.perm.1];have:=h.jb;omega) q⟩
theorem RotSt.lt {d dk:Array α} {a m b i j:Nat} (hb:b ≤ d.size) (h:RotSt d a m b i j dk) (hij:i < j):RotSt d a m b i (j - i) (swpR dk (m - i) (m + j - i) i) :=
 ⟨h.i0,by omega,h.ia,by have:=h.jb;omega,permIn_trans _ _ _ _ _ h.perm (swpR_perm _ _ _ _ _ (by have:=h.ia;omega) (by have:=h.ia;omega) (by rw [h.perm.1];exact hb) _ (by have:=h.ia;have:=h.jb;omega) (by have:=h.jb;omega)),fun q => by
  rw [← h.rot q]
  exact rot_lt dk m i j (by have:=h.ia;omega) hij (by rw [h.perm.1];have:=h.jb;omega) q⟩
theorem RotSt.eq {d dk:Array α} {a m b i:Nat} (hb:b ≤ d.size) (h:RotSt d a m b i i dk):PermIn a b d (swpR dk (m - i) m i) ∧ ∀ q,(swpR dk (m - i) m i)[q]! = rotG d a m b q :=
 ⟨permIn_trans _ _ _ _ _ h.perm (swpR_perm _ _ _ _ _ (by have:=h.ia;omega) (by have:=h.ia;omega) (by rw [h.perm.1];exact hb) _ (by have:=h.ia;have:=h.jb;omega) (by have:=h.jb;omega)),fun q => by
  rw [← h.rot q]
  exact rot_eq dk m i (by have:=h.ia;omega) (by rw [h.perm.1];have:=h.jb;omega) q⟩
set_option maxHeartbeats 4000000 in
theorem rot_any {P:Program} (L:SymP P k) (hk:∀ x,(enc x).length = k) (h1:∀ x,∀ v ∈ enc x,v.oneCell' = true) (g off cap a m b:Nat) (d:Array α) (fv:Value) (w:World) (hH:HoldsK enc k w g off d) (hg:g < w.heap.size) (ham:a < m) (hmb:m < b) (hb:b ≤ d.size) (hsz:d.size ≤ 1000000) :
  Calls P 146 #[.slice (some ⟨g,off,none⟩) d.size cap,.int .i64 a,.int .i64 m,.int .i64 b,fv] w fun e w' => e = .returned (.tuple #[]) ∧ ∃ d',(PermIn a b d d' ∧ ∀ q,d'[q]! = rotG d a m b q) ∧ SWK enc k w g off d.size w' d':=by
 have HS0:=Lib.hid (SWK.start hH)
 have HH:=Lib.hid hH
 have HR0:=Lib.hid (RotSt.start (d:=d) ham hmb)
 have HC:Hid (∀ (a b n:Nat) (dk:Array α) (wr:World),SWK enc k w g off d.size wr dk → a + n ≤ b → b + n ≤ d.size → Calls P 150 #[.slice (some ⟨g,off,none⟩) d.size cap,.int .i64 a,.int .i64 b,.int .i64 n,fv] wr fun e w' => e = .returned (.tuple #[]) ∧ SWK enc k w g off d.size w' (swpR dk a b n)) :=
  Lib.hid (fun a b n dk wr hs h2 h3 => by
   have hsz':=hs.1
   rw [← hsz'] at h3 ⊢
   refine (swapR_any L hk h1 g off cap a b n dk fv wr (hs.hold hH hg) (Nat.lt_of_lt_of_le hg hs.le) h2 h3 (by rw [hsz'];exact hsz)).mono ?_
   rintro e w' ⟨rfl,h⟩
   rw [hsz'] at h ⊢
   exact ⟨rfl,hs.trans hg h⟩)
 have eS:∀ args w,(callFunc 150 args).run P w = .ok (.enter 150 args) w:=enters_of L.fS (by kernel_rfl) rfl
 clear hH hk h1
 have mixed:=L.mixed;have t0:=L.t0;have a0:=L.a0;have z0:=L.z0;have v0:=L.v0;have t3:=L.t3;have a3:=L.a3;have z3:=L.z3;have v3:=L.v3;have t4:=L.t4;have a4:=L.a4;have z4:=L.z4;have v4:=L.v4;have tL:=L.tL;have aL:=L.aL;have zL:=L.zL;have vL:=L.vL;have tF:=L.tF;have aF:=L.aF;have zF:=L.zF;have vF:=L.vF;have aE:=L.aE;have zE:=L.zE
 have uL:=run_underlying L.tL
 have wma:IntKind.i64.wrap ((m:Int) - (a:Int)) = ((m - a:Nat):Int):=by rw [IntKind.wrap_i64];omega
 have wbm:IntKind.i64.wrap ((b:Int) - (m:Int)) = ((b - m:Nat):Int):=by rw [IntKind.wrap_i64];omega
 go_enter L.fR,Tryz.ntmps146
 go_wp2
 go_loopw [10,11] (fun vi vj wr => ∃ (i j:Nat) (dk:Array α),vi = .int .i64 (i:Int) ∧ vj = .int .i64 (j:Int) ∧ RotSt d a m b i j dk ∧ SWK enc k w g off d.size wr dk) (fun vi vj _ => (intOf vi + intOf vj).toNat)
 case atStart => exact ⟨m - a,b - m,d,rfl,rfl,HR0.out,HS0.out⟩
 case round =>
  obtain ⟨wo,rfl⟩:∃ wo:World,wo = wr:=⟨_,rfl⟩
  obtain ⟨i,j,dk,rfl,rfl,hro,hst⟩:=hrel
  have HRO:=Lib.hid hro
  have HST:=Lib.hid hst
  have r1:=hro.i0
  have r2:=hro.j0
  have r3:=hro.ia
  have r4:=hro.jb
  clear hst hro
  have wmi:IntKind.i64.wrap ((m:Int) - (i:Int)) = ((m - i:Nat):Int):=by rw [IntKind.wrap_i64];omega
  rcases Nat.lt_trichotomy j i with hij | hij | hij
  ·have d1:decide ((i:Int) = (j:Int)) = false:=decide_eq_false (by omega)
   have d2:decide ((i:Int) ≠ (j:Int)) = true:=decide_eq_true (by omega)
   have d3:decide ((j:Int) < (i:Int)) = true:=decide_eq_true (by omega)
   have wij:IntKind.i64.wrap ((i:Int) - (j:Int)) = ((i - j:Nat):Int):=by rw [IntKind.wrap_i64];omega
   have HN:=Lib.hid (HC.out (m - i) m j dk wo HST.out (by omega) (by omega))
   have HRN:=Lib.hid (HRO.out.gt hb hij)
   go_wp2_with fail
   refine HN.out.mono ?_
   rintro e w2 ⟨rfl,hs2⟩
   have HS2:=Lib.hid hs2
   clear hs2
   go_wp2_with fail
   go_roundw
   case rel => exact ⟨i - j,j,_,rfl,rfl,HRN.out,HS2.out⟩
   case measure => simp [intOf];omega
  ·subst hij
   have d1:decide ((j:Int) = (j:Int)) = true:=decide_eq_true rfl
   have HN:=Lib.hid (HC.out (m - j) m j dk wo HST.out (by omega) (by omega))
   have HRN:=Lib.hid (HRO.out.eq hb)
   go_wp2_with fail
   refine HN.out.mono ?_
   rintro e w2 ⟨rfl,hs2⟩
   have HS2:=Lib.hid hs2
   clear hs2
   go_wp2_with fail
   go_end0
   exact ⟨rfl,_,HRN.out,HS2.out⟩
  ·have d1:decide ((i:Int) = (j:Int)) = false:=decide_eq_false (by omega)
   have d2:decide ((i:Int) ≠ (j:Int)) = true:=decide_eq_true (by omega)
   have d3:decide ((j:Int) < (i:Int)) = false:=decide_eq_false (by omega)
   have wmj:IntKind.i64.wrap ((m:Int) + (j:Int)) = (m:Int) + (j:Int):=by rw [IntKind.wrap_i64];omega
   have wmji:IntKind.i64.wrap ((m:Int) + (j:Int) - (i:Int)) = ((m + j - i:Nat):Int):=by rw [IntKind.wrap_i64];omega
   have wji:IntKind.i64.wrap ((j:Int) - (i:Int)) = ((j - i:Nat):Int):=by rw [IntKind.wrap_i64];omega
   have HN:=Lib.hid (HC.out (m - i) (m + j - i) i dk wo HST.out (by omega) (by omega))
   have HRN:=Lib.hid (HRO.out.lt hb hij)
   go_wp2_with fail
   refine HN.out.mono ?_
   rintro e w2 ⟨rfl,hs2⟩
   have HS2:=Lib.hid hs2
   clear hs2
   go_wp2_with fail
   go_roundw
   case rel => exact ⟨i,j - i,_,rfl,rfl,HRN.out,HS2.out⟩
   case measure => simp [intOf];omega
end
end Go.Proofs.YtmhjpmenngjmeaaGreatDoor
namespace Go.Proofs.YtmhjpmenngjmeaaGreatDoor
open Go.RowKit Go.Sort Go.Shelf
set_option maxRecDepth 100000
section
variable {α:Type} [Inhabited α] (enc:α → List Value) (k:Nat)
def CmpAny (P:Program) (fc:Nat) (cf:α → α → Int):Prop:=∀ (x y:α) (w:World),Calls P fc #[.agg (enc x).toArray,.agg (enc y).toArray] w fun e w' => e = .returned (.int .i64 (cf x y)) ∧ ∃ q os',w' = grow (w.drewN q) os'
def MergeAns (cf:α → α → Int) (g off a m b:Nat) (d:Array α) (w:World) (e:Ending) (w':World):Prop :=
 e = .returned (.tuple #[]) ∧ ∃ d',Merged (ltOf cf) a m b d d' ∧ SWK enc k w g off d.size w' d'
variable {enc k}
theorem load_facts {P:Program} (hk:∀ x,(enc x).length = k) {w wr:World} {g off:Nat} {d dk:Array α} (hH:HoldsK enc k w g off d) (hg:g < w.heap.size) (hs:SWK enc k w g off d.size wr dk) {i:Nat} (hi:i < d.size) (n:Nat) (os:Array Obj) :
  Sem.run P (loadCellsFrom ⟨g,off + i * k,none⟩ 0 k #[]) (Go.Sort.grow (wr.drewN n) os) = .ok (enc dk[i]!).toArray (Go.Sort.grow (wr.drewN n) os) :=
 run_loadCellsFrom_list _ _ _ _ k (hk _) (HoldsK.cells ((hs.grow n os).hold hH hg) hk (by rw [hs.1];exact hi))
set_option maxHeartbeats 4000000 in
theorem mergeA_any {P:Program} (L:SymP P k) (hk:∀ x,(enc x).length = k) (h1:∀ x,∀ v ∈ enc x,v.oneCell' = true) (cf:α → α → Int) (hS:SWO (ltOf cf)) (fc:Nat) (eg:∀ args w,(callFunc fc args).run P w = .ok (.enter fc args) w) (hcmp:CmpAny enc P fc cf)
  (g off cap a b:Nat) (d:Array α) (w:World) (hH:HoldsK enc k w g off d) (hg:g < w.heap.size) (hmb:a + 1 < b) (hb:b ≤ d.size) (hsz:d.size ≤ 1000000) :
  Calls P 136 #[.slice (some ⟨g,off,none⟩) d.size cap,.int .i64 a,.int .i64 ((a:Int) + 1),.int .i64 b,.func (.func fc) #[] #[]] w (MergeAns enc k cf g off a (a + 1) b d w):=by
 have HS0:=Lib.hid (SWK.start hH)
 have HH:=Lib.hid hH
 have HK:=Lib.hid hk
 have H1:=Lib.hid h1
 have HCM:=Lib.hid hcmp
 have HR0:=Lib.hid (srch1_start (lt:=ltOf cf) d a (a + 1) b (by omega))
 clear hH hk h1 hcmp
 have mixed:=L.mixed;have t0:=L.t0;have a0:=L.a0;have z0:=L.z0;have v0:=L.v0;have t3:=L.t3;have a3:=L.a3;have z3:=L.z3;have v3:=L.v3;have t4:=L.t4;have a4:=L.a4;have z4:=L.z4;have v4:=L.v4;have t5:=L.t5;have a5:=L.a5;have z5:=L.z5;have v5:=L.v5;have tL:=L.tL;have aL:=L.aL;have zL:=L.zL;have vL:=L.vL;have tF:=L.tF;have aF:=L.aF;have zF:=L.zF;have vF:=L.vF;have aE:=L.aE;have zE:=L.zE
 have uL:=run_underlying L.tL
 have u3:=run_underlying L.t3
 have u5:=run_underlying L.t5
 have wma:IntKind.i64.wrap ((a:Int) + 1 - (a:Int)) = 1:=by rw [IntKind.wrap_i64];omega
 go_enter L.fM,Tryz.ntmps136
 go_wp2
 go_loopw [10,11,12] (fun vi vj vh wr => ∃ (i j:Nat),vi = .int .i64 (i:Int) ∧ vj = .int .i64 (j:Int) ∧ Srch1 (ltOf cf) d a (a + 1) b i j ∧ SWK enc k w g off d.size wr d) (fun vi vj _ _ => (intOf vj - intOf vi).toNat)
 case atStart => exact ⟨a + 1,b,by go_num,rfl,HR0.out,HS0.out⟩
 case round =>
  obtain ⟨wo,rfl⟩:∃ wo:World,wo = wr:=⟨_,rfl⟩
  obtain ⟨i,j,rfl,rfl,hro,hst⟩:=hrel
  have HRO:=Lib.hid hro
  have HST:=Lib.hid hst
  have r1:=hro.mi
  have r2:=hro.ij
  have r3:=hro.jb
  clear hst hro
  by_cases hij:i < j
  ·have d1:decide ((i:Int) < (j:Int)) = true:=decide_eq_true (by omega)
   have wij:IntKind.i64.wrap ((i:Int) + (j:Int)) = (i:Int) + (j:Int):=by rw [IntKind.wrap_i64];omega
   obtain ⟨c,hc⟩:∃ c,(i + j) / 2 = c:=⟨_,rfl⟩
   have hcc:((i:Int) + (j:Int)) / 2 = (c:Int):=by omega
   have hci:i ≤ c:=by omega
   have hcj:c < j:=by omega
   have HC:=Lib.hid hc
   have lC:=fun n os => load_facts (P:=P) HK.out HH.out hg HST.out (i:=c) (by omega) n os
   have lA:=fun n os => load_facts (P:=P) HK.out HH.out hg HST.out (i:=a) (by omega) n os
   obtain ⟨xc,hxc⟩:∃ x,d[c]! = x:=⟨_,rfl⟩
   obtain ⟨xa,hxa⟩:∃ x,d[a]! = x:=⟨_,rfl⟩
   rw [hxc] at lC
   rw [hxa] at lA
   have hcg:∀ n os,Calls P fc #[.agg (enc xc).toArray,.agg (enc xa).toArray] (grow (wo.drewN n) os) fun e w' => e = .returned (.int .i64 (cf xc xa)) ∧ ∃ q os',w' = grow ((grow (wo.drewN n) os).drewN q) os':=fun n os => HCM.out xc xa _
   have hlc:(enc xc).length = k:=HK.out _
   have hla:(enc xa).length = k:=HK.out _
   have hcz:(c:Int) < (d.size:Int):=by omega
   have haz:(a:Int) < (d.size:Int):=by omega
   have HX:=Lib.hid (show ltOf cf d[c]! d[a]! = decide (cf xc xa < 0) by rw [hxc,hxa];rfl)
   have wc1:IntKind.i64.wrap ((c:Int) + 1) = ((c + 1:Nat):Int):=by rw [IntKind.wrap_i64];omega
   clear hc hxc hxa
   by_cases hlv:cf xc xa < 0
   ·have d2:decide (cf xc xa < 0) = true:=decide_eq_true hlv
    have HRN:=Lib.hid (srch1_lt hS HRO.out hci hcj (by rw [HX.out];exact d2))
    go_wp2_with fail
    go_quiet_grown (first | (go_at_fn fc;refine Calls.grown_of (hcg _ _)))
    go_wp2_with fail
    go_roundw
    case rel => exact ⟨c + 1,j,by go_num,rfl,HRN.out,HST.out.grow _ _⟩
    case measure => simp [intOf];omega
   ·have d2:decide (cf xc xa < 0) = false:=decide_eq_false hlv
    have HRN:=Lib.hid (srch1_ge hS HRO.out hci hcj (by rw [HX.out];exact d2))
    go_wp2_with fail
    go_quiet_grown (first | (go_at_fn fc;refine Calls.grown_of (hcg _ _)))
    go_wp2_with fail
    go_roundw
    case rel => exact ⟨i,c,rfl,rfl,HRN.out,HST.out.grow _ _⟩
    case measure => simp [intOf];omega
  ·obtain rfl:i = j:=by omega
   have d1:decide ((i:Int) < (i:Int)) = false:=decide_eq_false (by omega)
   have wi1:IntKind.i64.wrap ((i:Int) - 1) = ((i - 1:Nat):Int):=by rw [IntKind.wrap_i64];omega
   have HM:=Lib.hid (up_merged hS HRO.out hb)
   have HS1:Hid (SWK enc k w g off d.size wo (upR d a (a - a))):=Lib.hid (by rw [Nat.sub_self];exact HST.out)
   go_wp2_with fail
   go_loopw [13] (fun v wr => ∃ r:Nat,v = .int .i64 (r:Int) ∧ a ≤ r ∧ r ≤ i - 1 ∧ SWK enc k w g off d.size wr (upR d a (r - a))) (fun v _ => (i - 1 - intOf v).toNat)
   case atStart => exact ⟨a,rfl,Nat.le_refl _,by omega,HS1.out⟩
   case round =>
    obtain ⟨wp,rfl⟩:∃ wp:World,wp = wr:=⟨_,rfl⟩
    obtain ⟨r,rfl,hr1,hr2,hst⟩:=hrel
    have HST:=Lib.hid hst
    clear hst
    by_cases hlt:r < i - 1
    ·have e1:decide ((r:Int) < ((i - 1:Nat):Int)) = true:=decide_eq_true (by omega)
     obtain ⟨dk,hdk⟩:∃ dk,upR d a (r - a) = dk:=⟨_,rfl⟩
     have HF:=swp_facts (P:=P) HK.out H1.out (W:=wp.drew) (d:=upR d a (r - a)) (HST.out.drew.hold HH.out hg) (i:=r) (j:=r + 1) (by rw [upR_size];omega) (by rw [upR_size];omega)
     have HSW:=Lib.hid (HST.out.swp HK.out hg (i:=r) (j:=r + 1) (by omega) (by omega))
     rw [hdk] at HF HSW
     have HNX:Hid (upR d a (r + 1 - a) = swp dk r (r + 1)):=Lib.hid (by rw [← hdk,show r + 1 - a = (r - a) + 1 from by omega];show swp _ _ _ = _;rw [show a + (r - a) = r from by omega])
     obtain ⟨cI,hcI⟩:∃ c,enc dk[r]! = c:=⟨_,rfl⟩
     obtain ⟨cJ,hcJ⟩:∃ c,enc dk[r + 1]! = c:=⟨_,rfl⟩
     have hlI:cI.length = k:=by rw [← hcI,HK.out]
     have hlJ:cJ.length = k:=by rw [← hcJ,HK.out]
     rw [hcI,hcJ] at HF HSW
     obtain ⟨f1,f2,f3,f4⟩:=HF
     have wr1:IntKind.i64.wrap ((r:Int) + 1) = (r:Int) + 1:=by rw [IntKind.wrap_i64];omega
     have tr:((r:Int) + 1).toNat = r + 1:=by omega
     have lr:(r:Int) < (d.size:Int):=by omega
     have lr1:(r:Int) + 1 < (d.size:Int):=by omega
     have pr:(0:Int) ≤ (r:Int) + 1:=by omega
     clear hdk hcI hcJ
     go_wp2_with fail
     go_big_region_o
     all_goals go_wp2
     go_roundw
     case rel => exact ⟨r + 1,by go_num,by omega,by omega,by rw [HNX.out];exact HSW.out⟩
     case measure => simp [intOf];omega
    ·obtain rfl:r = i - 1:=by omega
     have e1:decide (((i - 1:Nat):Int) < ((i - 1:Nat):Int)) = false:=decide_eq_false (by omega)
     clear hr2 hlt
     go_wp2_with fail
     go_end0
     exact ⟨rfl,_,HM.out,HST.out⟩
end
end Go.Proofs.YtmhjpmenngjmeaaGreatDoor
namespace Go.Proofs.YtmhjpmenngjmeaaGreatDoor
open Go.RowKit Go.Sort Go.Shelf
set_option maxRecDepth 100000
section
variable {α:Type} [Inhabited α] {enc:α → List Value} {k:Nat}
set_option maxHeartbeats 4000000 in
theorem mergeB_any {P:Program} (L:SymP P k) (hk:∀ x,(enc x).length = k) (h1:∀ x,∀ v ∈ enc x,v.oneCell' = true) (cf:α → α → Int) (hS:SWO (ltOf cf)) (fc:Nat) (eg:∀ args w,(callFunc fc args).run P w = .ok (.enter fc args) w) (hcmp:CmpAny enc P fc cf)
  (g off cap a m:Nat) (d:Array α) (w:World) (hH:HoldsK enc k w g off d) (hg:g < w.heap.size) (hma:a + 1 < m) (hb:m + 1 ≤ d.size) (hsz:d.size ≤ 1000000) :
  Calls P 136 #[.slice (some ⟨g,off,none⟩) d.size cap,.int .i64 a,.int .i64 m,.int .i64 ((m:Int) + 1),.func (.func fc) #[] #[]] w (MergeAns enc k cf g off a m (m + 1) d w):=by
 have HS0:=Lib.hid (SWK.start hH)
 have HH:=Lib.hid hH
 have HK:=Lib.hid hk
 have H1:=Lib.hid h1
 have HCM:=Lib.hid hcmp
 have HR0:=Lib.hid (srch2_start (lt:=ltOf cf) d a m (by omega))
 clear hH hk h1 hcmp
 have mixed:=L.mixed;have t0:=L.t0;have a0:=L.a0;have z0:=L.z0;have v0:=L.v0;have t3:=L.t3;have a3:=L.a3;have z3:=L.z3;have v3:=L.v3;have t4:=L.t4;have a4:=L.a4;have z4:=L.z4;have v4:=L.v4;have t5:=L.t5;have a5:=L.a5;have z5:=L.z5;have v5:=L.v5;have tL:=L.tL;have aL:=L.aL;have zL:=L.zL;have vL:=L.vL;have tF:=L.tF;have aF:=L.aF;have zF:=L.zF;have vF:=L.vF;have aE:=L.aE;have zE:=L.zE
 have uL:=run_underlying L.tL
 have u3:=run_underlying L.t3
 have u5:=run_underlying L.t5
 have wma:IntKind.i64.wrap ((m:Int) - (a:Int)) = ((m - a:Nat):Int):=by rw [IntKind.wrap_i64];omega
 have wmb:IntKind.i64.wrap ((m:Int) + 1 - (m:Int)) = 1:=by rw [IntKind.wrap_i64];omega
 have d0:decide (((m - a:Nat):Int) = 1) = false:=decide_eq_false (by omega)
 have d0b:((((m - a:Nat):Int)) == 1) = false:=beq_eq_false_iff_ne.2 (by omega)
 go_enter L.fM,Tryz.ntmps136
 go_wp2
 go_loopw [14,15,16] (fun vi vj vh wr => ∃ (i j:Nat),vi = .int .i64 (i:Int) ∧ vj = .int .i64 (j:Int) ∧ Srch2 (ltOf cf) d a m i j ∧ SWK enc k w g off d.size wr d) (fun vi vj _ _ => (intOf vj - intOf vi).toNat)
 case atStart => exact ⟨a,m,rfl,rfl,HR0.out,HS0.out⟩
 case round =>
  obtain ⟨wo,rfl⟩:∃ wo:World,wo = wr:=⟨_,rfl⟩
  obtain ⟨i,j,rfl,rfl,hro,hst⟩:=hrel
  have HRO:=Lib.hid hro
  have HST:=Lib.hid hst
  have r1:=hro.ai
  have r2:=hro.ij
  have r3:=hro.jm
  clear hst hro
  by_cases hij:i < j
  ·have d1:decide ((i:Int) < (j:Int)) = true:=decide_eq_true (by omega)
   have wij:IntKind.i64.wrap ((i:Int) + (j:Int)) = (i:Int) + (j:Int):=by rw [IntKind.wrap_i64];omega
   obtain ⟨c,hc⟩:∃ c,(i + j) / 2 = c:=⟨_,rfl⟩
   have hcc:((i:Int) + (j:Int)) / 2 = (c:Int):=by omega
   have hci:i ≤ c:=by omega
   have hcj:c < j:=by omega
   have HC:=Lib.hid hc
   have lC:=fun n os => load_facts (P:=P) HK.out HH.out hg HST.out (i:=c) (by omega) n os
   have lA:=fun n os => load_facts (P:=P) HK.out HH.out hg HST.out (i:=m) (by omega) n os
   obtain ⟨xc,hxc⟩:∃ x,d[c]! = x:=⟨_,rfl⟩
   obtain ⟨xa,hxa⟩:∃ x,d[m]! = x:=⟨_,rfl⟩
   rw [hxc] at lC
   rw [hxa] at lA
   have hcg:∀ n os,Calls P fc #[.agg (enc xa).toArray,.agg (enc xc).toArray] (grow (wo.drewN n) os) fun e w' => e = .returned (.int .i64 (cf xa xc)) ∧ ∃ q os',w' = grow ((grow (wo.drewN n) os).drewN q) os':=fun n os => HCM.out xa xc _
   have hlc:(enc xc).length = k:=HK.out _
   have hla:(enc xa).length = k:=HK.out _
   have hcz:(c:Int) < (d.size:Int):=by omega
   have haz:(m:Int) < (d.size:Int):=by omega
   have HX:=Lib.hid (show ltOf cf d[m]! d[c]! = decide (cf xa xc < 0) by rw [hxc,hxa];rfl)
   have wc1:IntKind.i64.wrap ((c:Int) + 1) = ((c + 1:Nat):Int):=by rw [IntKind.wrap_i64];omega
   clear hc hxc hxa
   by_cases hlv:cf xa xc < 0
   ·have d2:decide (cf xa xc < 0) = true:=decide_eq_true hlv
    have HRN:=Lib.hid (srch2_lt hS HRO.out hci hcj (by rw [HX.out];exact d2))
    go_wp2_with fail
    go_quiet_grown (first | (go_at_fn fc;refine Calls.grown_of (hcg _ _)))
    go_wp2_with fail
    go_roundw
    case rel => exact ⟨i,c,rfl,rfl,HRN.out,HST.out.grow _ _⟩
    case measure => simp [intOf];omega
   ·have d2:decide (cf xa xc < 0) = false:=decide_eq_false hlv
    have HRN:=Lib.hid (srch2_ge hS HRO.out hci hcj (by rw [HX.out];exact d2))
    go_wp2_with fail
    go_quiet_grown (first | (go_at_fn fc;refine Calls.grown_of (hcg _ _)))
    go_wp2_with fail
    go_roundw
    case rel => exact ⟨c + 1,j,by go_num,rfl,HRN.out,HST.out.grow _ _⟩
    case measure => simp [intOf];omega
  ·obtain rfl:i = j:=by omega
   have d1:decide ((i:Int) < (i:Int)) = false:=decide_eq_false (by omega)
   have HM:=Lib.hid (dn_merged hS HRO.out hb)
   have HS1:Hid (SWK enc k w g off d.size wo (dnR d m (m - m))):=Lib.hid (by rw [Nat.sub_self];exact HST.out)
   go_wp2_with fail
   go_loopw [17] (fun v wr => ∃ r:Nat,v = .int .i64 (r:Int) ∧ i ≤ r ∧ r ≤ m ∧ SWK enc k w g off d.size wr (dnR d m (m - r))) (fun v _ => (intOf v).toNat)
   case atStart => exact ⟨m,rfl,r3,Nat.le_refl _,HS1.out⟩
   case round =>
    obtain ⟨wp,rfl⟩:∃ wp:World,wp = wr:=⟨_,rfl⟩
    obtain ⟨r,rfl,hr1,hr2,hst⟩:=hrel
    have HST:=Lib.hid hst
    clear hst
    by_cases hlt:i < r
    ·obtain ⟨q,rfl⟩:∃ q,r = q + 1:=⟨r - 1,by omega⟩
     have e1:decide ((i:Int) < (q:Int) + 1) = true:=decide_eq_true (by omega)
     obtain ⟨dk,hdk⟩:∃ dk,dnR d m (m - (q + 1)) = dk:=⟨_,rfl⟩
     have HF:=swp_facts (P:=P) HK.out H1.out (W:=wp.drew) (d:=dnR d m (m - (q + 1))) (HST.out.drew.hold HH.out hg) (i:=q + 1) (j:=q) (by rw [dnR_size];omega) (by rw [dnR_size];omega)
     have HSW:=Lib.hid (HST.out.swp HK.out hg (i:=q + 1) (j:=q) (by omega) (by omega))
     rw [hdk] at HF HSW
     have HNX:Hid (dnR d m (m - q) = swp dk (q + 1) q):=Lib.hid (by rw [← hdk,show m - q = (m - (q + 1)) + 1 from by omega];show swp _ _ _ = _;rw [show m - (m - (q + 1)) = q + 1 from by omega];rfl)
     obtain ⟨cI,hcI⟩:∃ c,enc dk[q + 1]! = c:=⟨_,rfl⟩
     obtain ⟨cJ,hcJ⟩:∃ c,enc dk[q]! = c:=⟨_,rfl⟩
     have hlI:cI.length = k:=by rw [← hcI,HK.out]
     have hlJ:cJ.length = k:=by rw [← hcJ,HK.out]
     rw [hcI,hcJ] at HF HSW
     obtain ⟨f1,f2,f3,f4⟩:=HF
     have wr1:IntKind.i64.wrap ((q:Int) + 1 - 1) = (q:Int):=by rw [IntKind.wrap_i64];omega
     have tr:((q:Int) + 1).toNat = q + 1:=by omega
     have lr:(q:Int) < (d.size:Int):=by omega
     have lr1:(q:Int) + 1 < (d.size:Int):=by omega
     have pr:(0:Int) ≤ (q:Int) + 1:=by omega
     clear hdk hcI hcJ
     go_wp2_with fail
     go_big_region_o
     all_goals go_wp2
     go_roundw
     case rel => exact ⟨q,by go_num,by omega,by omega,by rw [HNX.out];exact HSW.out⟩
     case measure => simp [intOf]
    ·obtain rfl:r = i:=by omega
     have e1:decide ((r:Int) < (r:Int)) = false:=decide_eq_false (by omega)
     clear hr2 hlt
     go_wp2_with fail
     go_end0
     exact ⟨rfl,_,HM.out,HST.out⟩
end
end Go.Proofs.YtmhjpmenngjmeaaGreatDoor
namespace Go.Proofs.YtmhjpmenngjmeaaGreatDoor
open Go.RowKit Go.Sort Go.Shelf
set_option maxRecDepth 100000
section
variable {α:Type} [Inhabited α] {enc:α → List Value} {k:Nat}
def MergeRec (P:Program) (enc:α → List Value) (k:Nat) (cf:α → α → Int) (fc g off cap sz n:Nat) (w:World):Prop :=
 ∀ (a m b:Nat) (dk:Array α) (wr:World),SWK enc k w g off sz wr dk → a < m → m < b → b ≤ sz → b - a < n →
  Calls P 136 #[.slice (some ⟨g,off,none⟩) sz cap,.int .i64 a,.int .i64 m,.int .i64 b,.func (.func fc) #[] #[]] wr fun e w' => e = .returned (.tuple #[]) ∧ ∃ d',Merged (ltOf cf) a m b dk d' ∧ SWK enc k w g off sz w' d'
set_option maxHeartbeats 8000000 in
theorem mergeC_any {P:Program} (L:SymP P k) (hk:∀ x,(enc x).length = k) (h1:∀ x,∀ v ∈ enc x,v.oneCell' = true) (cf:α → α → Int) (hS:SWO (ltOf cf)) (fc:Nat) (eg:∀ args w,(callFunc fc args).run P w = .ok (.enter fc args) w) (hcmp:CmpAny enc P fc cf)
  (g off cap a m b:Nat) (d:Array α) (w:World) (hH:HoldsK enc k w g off d) (hg:g < w.heap.size) (hma:a + 1 < m) (hmb:m + 1 < b) (hb:b ≤ d.size) (hsz:d.size ≤ 1000000)
  (hrec:MergeRec P enc k cf fc g off cap d.size (b - a) w) :
  Calls P 136 #[.slice (some ⟨g,off,none⟩) d.size cap,.int .i64 a,.int .i64 m,.int .i64 b,.func (.func fc) #[] #[]] w (MergeAns enc k cf g off a m b d w):=by
 obtain ⟨mid,hmid⟩:∃ mid,(a + b) / 2 = mid:=⟨_,rfl⟩
 have HS0:=Lib.hid (SWK.start hH)
 have HH:=Lib.hid hH
 have HK:=Lib.hid hk
 have HCM:=Lib.hid hcmp
 have HREC:=Lib.hid hrec
 have HR0:=Lib.hid (srch3_start (lt:=ltOf cf) d (show a < m by omega) (show m < b by omega))
 have HLO:=Lib.hid (lohi3 (show a < m by omega) (show m < b by omega))
 rw [hmid] at HR0 HLO
 have HROT:Hid (∀ (wr:World) (s en:Nat),SWK enc k w g off d.size wr d → s < m → m < en → en ≤ d.size → Calls P 146 #[.slice (some ⟨g,off,none⟩) d.size cap,.int .i64 s,.int .i64 m,.int .i64 en,.func (.func fc) #[] #[]] wr fun e w' => e = .returned (.tuple #[]) ∧ ∃ d',(PermIn s en d d' ∧ ∀ q,d'[q]! = rotG d s m en q) ∧ SWK enc k w g off d.size w' d') :=
  Lib.hid (fun wr s en hs h2 h3 h4 => by
   refine (rot_any L hk h1 g off cap s m en d (.func (.func fc) #[] #[]) wr (hs.hold hH hg) (Nat.lt_of_lt_of_le hg hs.le) h2 h3 h4 hsz).mono ?_
   rintro e w' ⟨rfl,d',hd,h⟩
   exact ⟨rfl,d',hd,hs.trans hg h⟩)
 have eR:∀ args w,(callFunc 146 args).run P w = .ok (.enter 146 args) w:=enters_of L.fR (by kernel_rfl) rfl
 have eM:∀ args w,(callFunc 136 args).run P w = .ok (.enter 136 args) w:=enters_of L.fM (by kernel_rfl) rfl
 clear hH hk h1 hcmp hrec
 have mixed:=L.mixed;have t0:=L.t0;have a0:=L.a0;have z0:=L.z0;have v0:=L.v0;have t3:=L.t3;have a3:=L.a3;have z3:=L.z3;have v3:=L.v3;have t4:=L.t4;have a4:=L.a4;have z4:=L.z4;have v4:=L.v4;have t5:=L.t5;have a5:=L.a5;have z5:=L.z5;have v5:=L.v5;have tL:=L.tL;have aL:=L.aL;have zL:=L.zL;have vL:=L.vL;have tF:=L.tF;have aF:=L.aF;have zF:=L.zF;have vF:=L.vF;have aE:=L.aE;have zE:=L.zE
 have uL:=run_underlying L.tL
 have u3:=run_underlying L.t3
 have u5:=run_underlying L.t5
 have wma:IntKind.i64.wrap ((m:Int) - (a:Int)) = ((m - a:Nat):Int):=by rw [IntKind.wrap_i64];omega
 have wmb:IntKind.i64.wrap ((b:Int) - (m:Int)) = ((b - m:Nat):Int):=by rw [IntKind.wrap_i64];omega
 have d0:decide (((m - a:Nat):Int) = 1) = false:=decide_eq_false (by omega)
 have d0b:((((m - a:Nat):Int)) == 1) = false:=beq_eq_false_iff_ne.2 (by omega)
 have d1:decide (((b - m:Nat):Int) = 1) = false:=decide_eq_false (by omega)
 have d1b:((((b - m:Nat):Int)) == 1) = false:=beq_eq_false_iff_ne.2 (by omega)
 have wab:IntKind.i64.wrap ((a:Int) + (b:Int)) = (a:Int) + (b:Int):=by rw [IntKind.wrap_i64];omega
 have hcm:((a:Int) + (b:Int)) / 2 = (mid:Int):=by omega
 have wmm:IntKind.i64.wrap ((mid:Int) + (m:Int)) = (mid:Int) + (m:Int):=by rw [IntKind.wrap_i64];omega
 have wp1:IntKind.i64.wrap ((mid:Int) + (m:Int) - 1) = (mid:Int) + (m:Int) - 1:=by rw [IntKind.wrap_i64];omega
 have hmlt:mid < b:=by omega
 have hmam:a < mid:=by omega
 have HMID:=Lib.hid hmid
 clear hmid
 go_enter L.fM,Tryz.ntmps136
 go_upto_if 140 with fail
 go_cut [20,21] from 138 (fun s20 s21 wx => ∃ s0 r0:Nat,s20 = .int .i64 (s0:Int) ∧ s21 = .int .i64 (r0:Int) ∧ Hid (Srch3 (ltOf cf) d a m b s0 r0) ∧ w = wx)
 case first =>
  by_cases hmm:mid < m
  ·have e27:decide ((mid:Int) < (m:Int)) = true:=decide_eq_true (by omega)
   have wnb:IntKind.i64.wrap ((mid:Int) + (m:Int) - (b:Int)) = ((mid + m - b:Nat):Int):=by rw [IntKind.wrap_i64];omega
   have HR1:Hid (Srch3 (ltOf cf) d a m b (mid + m - b) mid):=Lib.hid (by have:=HR0.out;unfold lo3 hi3 at this;rwa [if_pos hmm,if_pos hmm] at this)
   go_wp2_with fail
   go_meet
   case rel => exact ⟨_,_,rfl,rfl,HR1,rfl⟩
  ·have e27:decide ((mid:Int) < (m:Int)) = false:=decide_eq_false (by omega)
   have HR1:Hid (Srch3 (ltOf cf) d a m b a m):=Lib.hid (by have:=HR0.out;unfold lo3 hi3 at this;rwa [if_neg hmm,if_neg hmm] at this)
   go_wp2_with fail
   go_meet
   case rel => exact ⟨_,_,rfl,rfl,HR1,rfl⟩
 obtain ⟨s0,r0,rfl,rfl,HR1,rfl⟩:=hcut
 go_wp2_with fail
 go_loopw [20,21,23] (fun vi vj vh wr => ∃ (i j:Nat),vi = .int .i64 (i:Int) ∧ vj = .int .i64 (j:Int) ∧ Srch3 (ltOf cf) d a m b i j ∧ SWK enc k w g off d.size wr d) (fun vi vj _ _ => (intOf vj - intOf vi).toNat)
 case atStart => exact ⟨s0,r0,rfl,rfl,HR1.out,HS0.out⟩
 case round =>
  obtain ⟨wo,rfl⟩:∃ wo:World,wo = wr:=⟨_,rfl⟩
  obtain ⟨i,j,rfl,rfl,hro,hst⟩:=hrel
  have HRO:=Lib.hid hro
  have HST:=Lib.hid hst
  have r1:=hro.ls
  have r2:=hro.sr
  have r3:=hro.rh
  have l1:=HLO.out
  rw [HMID.out] at r1 r3
  clear hst hro
  by_cases hij:i < j
  ·have d2:decide ((i:Int) < (j:Int)) = true:=decide_eq_true (by omega)
   have wij:IntKind.i64.wrap ((i:Int) + (j:Int)) = (i:Int) + (j:Int):=by rw [IntKind.wrap_i64];omega
   obtain ⟨c,hc⟩:∃ c,(i + j) / 2 = c:=⟨_,rfl⟩
   have hcc:((i:Int) + (j:Int)) / 2 = (c:Int):=by omega
   have hci:i ≤ c:=by omega
   have hcj:c < j:=by omega
   obtain ⟨q,hq⟩:∃ q,mid + m - 1 - c = q:=⟨_,rfl⟩
   have wpc:IntKind.i64.wrap ((mid:Int) + (m:Int) - 1 - (c:Int)) = (q:Int):=by rw [IntKind.wrap_i64];omega
   have lC:=fun n os => load_facts (P:=P) HK.out HH.out hg HST.out (i:=c) (by omega) n os
   have lA:=fun n os => load_facts (P:=P) HK.out HH.out hg HST.out (i:=q) (by omega) n os
   obtain ⟨xc,hxc⟩:∃ x,d[c]! = x:=⟨_,rfl⟩
   obtain ⟨xa,hxa⟩:∃ x,d[q]! = x:=⟨_,rfl⟩
   rw [hxc] at lC
   rw [hxa] at lA
   have hcg:∀ n os,Calls P fc #[.agg (enc xa).toArray,.agg (enc xc).toArray] (grow (wo.drewN n) os) fun e w' => e = .returned (.int .i64 (cf xa xc)) ∧ ∃ q os',w' = grow ((grow (wo.drewN n) os).drewN q) os':=fun n os => HCM.out xa xc _
   have hlc:(enc xc).length = k:=HK.out _
   have hla:(enc xa).length = k:=HK.out _
   have hcz:(c:Int) < (d.size:Int):=by omega
   have haz:(q:Int) < (d.size:Int):=by omega
   have HX:=Lib.hid (show ltOf cf d[(a + b) / 2 + m - 1 - c]! d[c]! = decide (cf xa xc < 0) by rw [HMID.out,hq,hxc,hxa];rfl)
   have wc1:IntKind.i64.wrap ((c:Int) + 1) = ((c + 1:Nat):Int):=by rw [IntKind.wrap_i64];omega
   clear hc hxc hxa hq r1 r3 l1
   by_cases hlv:cf xa xc < 0
   ·have d3:decide (cf xa xc < 0) = true:=decide_eq_true hlv
    have HRN:=Lib.hid (srch3_lt hS (by omega) (by omega) HRO.out hci hcj (by rw [HX.out];exact d3))
    go_wp2_with fail
    go_quiet_grown (first | (go_at_fn fc;refine Calls.grown_of (hcg _ _)))
    go_wp2_with fail
    go_roundw
    case rel => exact ⟨i,c,rfl,rfl,HRN.out,HST.out.grow _ _⟩
    case measure => simp [intOf];omega
   ·have d3:decide (cf xa xc < 0) = false:=decide_eq_false hlv
    have HRN:=Lib.hid (srch3_ge hS (by omega) (by omega) HRO.out hci hcj (by rw [HX.out];exact d3))
    go_wp2_with fail
    go_quiet_grown (first | (go_at_fn fc;refine Calls.grown_of (hcg _ _)))
    go_wp2_with fail
    go_roundw
    case rel => exact ⟨c + 1,j,by go_num,rfl,HRN.out,HST.out.grow _ _⟩
    case measure => simp [intOf];omega
  ·obtain rfl:i = j:=by omega
   have d2:decide ((i:Int) < (i:Int)) = false:=decide_eq_false (by omega)
   obtain ⟨en,hen⟩:∃ en,mid + m - i = en:=⟨_,rfl⟩
   have hx:=srch3_end (show a < m by omega) (show m < b by omega) HRO.out
   rw [HMID.out,hen] at hx
   obtain ⟨x1,x2,x3,x4,x5⟩:=hx
   have wen:IntKind.i64.wrap ((mid:Int) + (m:Int) - (i:Int)) = (en:Int):=by rw [IntKind.wrap_i64];omega
   have hmen:mid ≤ en:=by omega
   have HEN:=Lib.hid hen
   clear hen r1 r3 l1 r2 hij
   have HD3:=Lib.hid (fun (d1 d2 d3:Array α) (h1:PermIn a b d d1) (h2:∀ q,d1[q]! = rotG d i m en q) (h3:Merged (ltOf cf) a i mid d1 d2) (h4:Merged (ltOf cf) mid en b d2 d3) => merged_sym hS (show a < m by omega) (show m < b by omega) HMID.out HEN.out hb HRO.out h1 h2 h3 h4)
   go_upto_region 39 with fail
   go_cut [185] from 178 (fun sb wx => sb = .bool (decide ((i < m) ∧ (m < en))) ∧ wo = wx)
   case first =>
    by_cases q1:i < m
    ·have e1:decide ((i:Int) < (m:Int)) = true:=decide_eq_true (by omega)
     by_cases q2:m < en
     ·have e2:decide ((m:Int) < (en:Int)) = true:=decide_eq_true (by omega)
      have e3:decide ((i < m) ∧ (m < en)) = true:=decide_eq_true ⟨q1,q2⟩
      go_wp2_with fail
      go_meet
      case rel => exact ⟨by rw [e3],rfl⟩
     ·have e2:decide ((m:Int) < (en:Int)) = false:=decide_eq_false (by omega)
      have e3:decide ((i < m) ∧ (m < en)) = false:=decide_eq_false (fun h => q2 h.2)
      go_wp2_with fail
      go_meet
      case rel => exact ⟨by rw [e3],rfl⟩
    ·have e1:decide ((i:Int) < (m:Int)) = false:=decide_eq_false (by omega)
     have e3:decide ((i < m) ∧ (m < en)) = false:=decide_eq_false (fun h => q1 h.1)
     go_wp2_with fail
     go_meet
     case rel => exact ⟨by rw [e3],rfl⟩
   obtain ⟨rfl,rfl⟩:=hcut
   go_upto_if 185 with fail
   go_cut [] from 185 (fun wx => ∃ d1,Hid (PermIn a b d d1 ∧ ∀ q,d1[q]! = rotG d i m en q) ∧ Hid (SWK enc k w g off d.size wx d1))
   case first =>
    by_cases q3:i < m ∧ m < en
    ·have e3:decide (i < m ∧ m < en) = true:=decide_eq_true q3
     have HC:=Lib.hid (HROT.out wo i en HST.out q3.1 q3.2 (by omega))
     go_wp2_with fail
     refine HC.out.mono ?_
     rintro e w2 ⟨rfl,d1,hp,hs2⟩
     have HE:Hid (PermIn a b d d1 ∧ ∀ q,d1[q]! = rotG d i m en q):=Lib.hid ⟨permIn_mono _ _ _ _ a b x1 x5 hb hp.1,hp.2⟩
     have HS2:=Lib.hid hs2
     clear hp hs2
     go_wp2_with fail
     go_meet
     case rel => exact ⟨d1,HE,HS2⟩
    ·have e3:decide (i < m ∧ m < en) = false:=decide_eq_false q3
     have HE:Hid (PermIn a b d d ∧ ∀ q,d[q]! = rotG d i m en q):=Lib.hid ⟨permIn_refl _ _ _,fun q => by
      rcases (show i = m ∨ m = en by omega) with rfl | rfl
      ·rw [rotG_left]
      ·rw [rotG_right]⟩
     go_wp2_with fail
     go_meet
     case rel => exact ⟨d,HE,HST⟩
   obtain ⟨d1,HE1,HS1⟩:=hcut
   go_upto_region 41 with fail
   go_cut [199] from 192 (fun sb wx => sb = .bool (decide ((a < i) ∧ (i < mid))) ∧ wc = wx)
   case first =>
    by_cases q1:a < i
    ·have e1:decide ((a:Int) < (i:Int)) = true:=decide_eq_true (by omega)
     by_cases q2:i < mid
     ·have e2:decide ((i:Int) < (mid:Int)) = true:=decide_eq_true (by omega)
      have e3:decide ((a < i) ∧ (i < mid)) = true:=decide_eq_true ⟨q1,q2⟩
      go_wp2_with fail
      go_meet
      case rel => exact ⟨by rw [e3],rfl⟩
     ·have e2:decide ((i:Int) < (mid:Int)) = false:=decide_eq_false (by omega)
      have e3:decide ((a < i) ∧ (i < mid)) = false:=decide_eq_false (fun h => q2 h.2)
      go_wp2_with fail
      go_meet
      case rel => exact ⟨by rw [e3],rfl⟩
    ·have e1:decide ((a:Int) < (i:Int)) = false:=decide_eq_false (by omega)
     have e3:decide ((a < i) ∧ (i < mid)) = false:=decide_eq_false (fun h => q1 h.1)
     go_wp2_with fail
     go_meet
     case rel => exact ⟨by rw [e3],rfl⟩
   obtain ⟨rfl,rfl⟩:=hcut
   go_upto_if 199 with fail
   go_cut [] from 199 (fun wx => ∃ d2,Hid (Merged (ltOf cf) a i mid d1 d2) ∧ Hid (SWK enc k w g off d.size wx d2))
   case first =>
    by_cases q3:a < i ∧ i < mid
    ·have e3:decide (a < i ∧ i < mid) = true:=decide_eq_true q3
     have HC:=Lib.hid (HREC.out a i mid d1 _ HS1.out q3.1 q3.2 (by omega) (by omega))
     go_wp2_with fail
     refine HC.out.mono ?_
     rintro e w2 ⟨rfl,d2,hp,hs2⟩
     have HE2:=Lib.hid hp
     have HS2:=Lib.hid hs2
     clear hp hs2
     go_wp2_with fail
     go_meet
     case rel => exact ⟨d2,HE2,HS2⟩
    ·have e3:decide (a < i ∧ i < mid) = false:=decide_eq_false q3
     have HE2:Hid (Merged (ltOf cf) a i mid d1 d1):=Lib.hid (by
      rcases (show a = i ∨ i = mid by omega) with rfl | rfl
      ·exact merged_left _ _ _
      ·exact merged_right _ _ _)
     go_wp2_with fail
     go_meet
     case rel => exact ⟨d1,HE2,HS1⟩
   obtain ⟨d2,HE2,HS2⟩:=hcut
   go_upto_region 43 with fail
   go_cut [213] from 206 (fun sb wx => sb = .bool (decide ((mid < en) ∧ (en < b))) ∧ wc = wx)
   case first =>
    by_cases q1:mid < en
    ·have e1:decide ((mid:Int) < (en:Int)) = true:=decide_eq_true (by omega)
     by_cases q2:en < b
     ·have e2:decide ((en:Int) < (b:Int)) = true:=decide_eq_true (by omega)
      have e3:decide ((mid < en) ∧ (en < b)) = true:=decide_eq_true ⟨q1,q2⟩
      go_wp2_with fail
      go_meet
      case rel => exact ⟨by rw [e3],rfl⟩
     ·have e2:decide ((en:Int) < (b:Int)) = false:=decide_eq_false (by omega)
      have e3:decide ((mid < en) ∧ (en < b)) = false:=decide_eq_false (fun h => q2 h.2)
      go_wp2_with fail
      go_meet
      case rel => exact ⟨by rw [e3],rfl⟩
    ·have e1:decide ((mid:Int) < (en:Int)) = false:=decide_eq_false (by omega)
     have e3:decide ((mid < en) ∧ (en < b)) = false:=decide_eq_false (fun h => q1 h.1)
     go_wp2_with fail
     go_meet
     case rel => exact ⟨by rw [e3],rfl⟩
   obtain ⟨rfl,rfl⟩:=hcut
   by_cases q3:mid < en ∧ en < b
   ·have e3:decide (mid < en ∧ en < b) = true:=decide_eq_true q3
    have HC:=Lib.hid (HREC.out mid en b d2 _ HS2.out q3.1 q3.2 hb (by omega))
    go_wp2_with fail
    refine HC.out.mono ?_
    rintro e w2 ⟨rfl,d3,hp,hs2⟩
    have HE3:=Lib.hid (HD3.out d1 d2 d3 HE1.out.1 HE1.out.2 HE2.out hp)
    have HS3:=Lib.hid hs2
    clear hp hs2
    go_wp2_with fail
    go_end0
    exact ⟨rfl,d3,HE3.out,HS3.out⟩
   ·have e3:decide (mid < en ∧ en < b) = false:=decide_eq_false q3
    have HE3:Hid (Merged (ltOf cf) a m b d d2):=Lib.hid (HD3.out d1 d2 d2 HE1.out.1 HE1.out.2 HE2.out (by
     rcases (show mid = en ∨ en = b by omega) with rfl | rfl
     ·exact merged_left _ _ _
     ·exact merged_right _ _ _))
    go_wp2_with fail
    go_end0
    exact ⟨rfl,d2,HE3.out,HS2.out⟩
end
end Go.Proofs.YtmhjpmenngjmeaaGreatDoor
namespace Go.Proofs.YtmhjpmenngjmeaaGreatDoor
open Go.RowKit Go.Sort Go.Shelf
set_option maxRecDepth 100000
section
variable {α:Type} [Inhabited α] {lt:α → α → Bool}
def RunsTo (lt:α → α → Bool) (s n x:Nat) (d:Array α):Prop:=∀ p,s ∣ p → p < x → SortedIn lt p (min (p + s) n) d
def RunsN (lt:α → α → Bool) (s n:Nat) (d:Array α):Prop:=∀ p,s ∣ p → SortedIn lt p (min (p + s) n) d
theorem runs_zero (s n:Nat) (d:Array α):RunsTo lt s n 0 d:=fun p _ h => by omega
theorem dvd_same {s a p:Nat} (h1:s ∣ a) (h2:s ∣ p) (h3:a ≤ p) (h4:p < a + s):p = a:=by
 have:=Nat.dvd_sub h2 h1
 have:=Nat.eq_zero_of_dvd_of_lt this (by omega)
 omega
theorem sorted_perm {p q a b:Nat} {d d':Array α} (h:SortedIn lt p q d) (hp:PermIn a b d d') (ho:q ≤ a ∨ b ≤ p):SortedIn lt p q d' :=
 h.congr fun i h1 h2 => hp.2.1 i (by omega)
theorem dvd_le {s a p:Nat} (h1:s ∣ a) (h2:s ∣ p) (h3:p < a):p + s ≤ a:=by
 have:=Nat.dvd_sub h1 h2
 have:=Nat.le_of_dvd (by omega) this
 omega
theorem runs_next {s n a b:Nat} {d d':Array α} (ha:s ∣ a) (h:RunsTo lt s n a d) (hp:PermIn a b d d') (hs:SortedIn lt a (min (a + s) n) d'):RunsTo lt s n (a + s) d':=fun p hd hlt => by
 rcases Nat.lt_or_ge p a with hpa | hpa
 ·have:=dvd_le ha hd hpa
  exact sorted_perm (h p hd hpa) hp (.inl (by omega))
 ·obtain rfl:=dvd_same ha hd hpa hlt
  exact hs
theorem runs_end {s n a:Nat} {d:Array α} (h:RunsTo lt s n (a + s) d) (hn:n ≤ a + s):RunsN lt s n d:=fun p hd => by
 rcases Nat.lt_or_ge p (a + s) with hp | hp
 ·exact h p hd hp
 ·intro i j _ _ _;omega
structure Half (lt:α → α → Bool) (s n a:Nat) (d:Array α):Prop where
 done:RunsTo lt (2 * s) n a d
 left:∀ p,s ∣ p → a ≤ p → SortedIn lt p (min (p + s) n) d
theorem half_zero {s n:Nat} {d:Array α} (h:RunsN lt s n d):Half lt s n 0 d:=⟨runs_zero _ _ _,fun p hd _ => h p hd⟩
theorem half_parts {s n a:Nat} {d:Array α} (ha:2 * s ∣ a) (h:Half lt s n a d):SortedIn lt a (min (a + s) n) d ∧ SortedIn lt (a + s) (min (a + s + s) n) d:=by
 have hs:s ∣ a:=Nat.dvd_trans ⟨2,by omega⟩ ha
 exact ⟨h.left a hs (Nat.le_refl _),h.left (a + s) (Nat.dvd_add hs (Nat.dvd_refl _)) (by omega)⟩
theorem half_step {s n a:Nat} {d d':Array α} (ha:2 * s ∣ a) (h:Half lt s n a d) (hn:a + 2 * s ≤ n) (hm:Merged lt a (a + s) (a + 2 * s) d d'):Half lt s n (a + 2 * s) d':=by
 obtain ⟨p1,p2⟩:=half_parts ha h
 have e1:min (a + s) n = a + s:=by omega
 have e2:min (a + s + s) n = a + 2 * s:=by omega
 rw [e1] at p1
 rw [e2] at p2
 refine ⟨runs_next ha h.done hm.1 (by rw [Nat.min_eq_left hn];exact hm.2 p1 p2),fun p hd hp => sorted_perm (h.left p hd (by omega)) hm.1 (.inr hp)⟩
theorem half_end1 {s n a:Nat} {d d':Array α} (ha:2 * s ∣ a) (h:Half lt s n a d) (hn:n < a + 2 * s) (hm2:a + s < n) (hm:Merged lt a (a + s) n d d'):RunsN lt (2 * s) n d':=by
 obtain ⟨p1,p2⟩:=half_parts ha h
 have e1:min (a + s) n = a + s:=by omega
 have e2:min (a + s + s) n = n:=by omega
 rw [e1] at p1
 rw [e2] at p2
 exact runs_end (a:=a) (runs_next ha h.done hm.1 (by rw [Nat.min_eq_right (by omega)];exact hm.2 p1 p2)) (by omega)
theorem half_end2 {s n a:Nat} {d:Array α} (ha:2 * s ∣ a) (h:Half lt s n a d) (hn:n ≤ a + s):RunsN lt (2 * s) n d:=by
 obtain ⟨p1,_⟩:=half_parts ha h
 rw [Nat.min_eq_right hn] at p1
 exact runs_end (a:=a) (runs_next (b:=a) ha h.done (permIn_refl _ _ _) (by rw [Nat.min_eq_right (by omega)];exact p1)) (by omega)
theorem runs_whole {s n:Nat} {d:Array α} (h:RunsN lt s n d) (hn:n ≤ s):SortedIn lt 0 n d:=by
 have:=h 0 ⟨0,by omega⟩
 rwa [Nat.min_eq_right (by omega)] at this
variable {enc:α → List Value} {k:Nat}
theorem MergeRec.mono {P:Program} {cf:α → α → Int} {fc g off cap sz n n':Nat} {w:World} (h:MergeRec P enc k cf fc g off cap sz n w) (hn:n' ≤ n):MergeRec P enc k cf fc g off cap sz n' w :=
 fun a m b dk wr hs h1 h2 h3 h4 => h a m b dk wr hs h1 h2 h3 (by omega)
theorem merge_rec {P:Program} (L:SymP P k) (hk:∀ x,(enc x).length = k) (h1:∀ x,∀ v ∈ enc x,v.oneCell' = true) (cf:α → α → Int) (hS:SWO (ltOf cf)) (fc:Nat) (eg:∀ args w,(callFunc fc args).run P w = .ok (.enter fc args) w) (hcmp:CmpAny enc P fc cf)
  (g off cap:Nat):∀ (n:Nat) (d:Array α) (w:World),HoldsK enc k w g off d → g < w.heap.size → d.size ≤ 1000000 → MergeRec P enc k cf fc g off cap d.size n w
 | 0,_,_,_,_,_ => fun _ _ _ _ _ _ _ _ _ h => by omega
 | n + 1,d,w,hH,hg,hsz => fun a m b dk wr hs ham hmb hb hn => by
  have hHr:=hs.hold hH hg
  have hgr:=Nat.lt_of_lt_of_le hg hs.le
  have hds:=hs.1
  have ih:=merge_rec L hk h1 cf hS fc eg hcmp g off cap n dk wr hHr hgr (by omega)
  rw [← hds] at hb hsz ⊢
  have close:∀ e w',MergeAns enc k cf g off a m b dk wr e w' → (e = .returned (.tuple #[]) ∧ ∃ d',Merged (ltOf cf) a m b dk d' ∧ SWK enc k w g off dk.size w' d'):=by
   rintro e w' ⟨he,d',hm,h⟩
   refine ⟨he,d',hm,?_⟩
   rw [hds] at h ⊢
   exact hs.trans hg h
  rcases Nat.lt_or_ge (a + 1) m with h3 | h3
  ·rcases Nat.lt_or_ge (m + 1) b with h4 | h4
   ·exact (mergeC_any L hk h1 cf hS fc eg hcmp g off cap a m b dk wr hHr hgr h3 h4 hb hsz (ih.mono (by omega))).mono close
   ·obtain rfl:b = m + 1:=by omega
    exact (mergeB_any L hk h1 cf hS fc eg hcmp g off cap a m dk wr hHr hgr h3 hb hsz).mono close
  ·obtain rfl:m = a + 1:=by omega
   exact (mergeA_any L hk h1 cf hS fc eg hcmp g off cap a b dk wr hHr hgr hmb hb hsz).mono close
end
end Go.Proofs.YtmhjpmenngjmeaaGreatDoor
namespace Go.Proofs.YtmhjpmenngjmeaaGreatDoor
open Go.RowKit Go.Sort Go.Shelf
set_option maxRecDepth 100000
set_option maxHeartbeats 8000000 in
theorem stable_any (B:Nat) (q:Value) (l:List EJ) (w:World) (hq:OwnQ w B 34 q l.length (flatC encE l)) (hn:l.length ≤ 1000000) :
  Calls Tryz.prog 122 #[q,.int .i64 (l.length:Int),.func (.func 55) #[] #[]] w (StbAns B q l w):=by
 rcases Nat.lt_or_ge l.length 20 with h20 | h20
 ·exact stable_small B q l w hq h20
 rcases hq.2 with ⟨_,hz⟩ | ⟨g,off,cap,rfl,hB,hg,hnc,hcm,hth,hr⟩
 ·omega
 have hd:l.toArray.size = l.length:=by simp
 have hH:HoldsK encE 34 w g off l.toArray:=holdsK_row encE 34 encE_len hd hnc hth (by simpa using hr)
 have eg:∀ args w,(callFunc 55 args).run Tryz.prog w = .ok (.enter 55 args) w:=enters_of Tryz.func55 (by kernel_rfl) rfl
 have hM:=Lib.hid (merge_rec symP encE_len encE_one cfE swoE 55 eg (fun x y W => ocmp_any x y W) g off cap (l.toArray.size + 1) l.toArray w hH hg (by omega))
 have hI:Hid (∀ (a b:Nat) (dk:Array EJ) (wr:World),SWK encE 34 w g off l.toArray.size wr dk → a ≤ b → b ≤ l.toArray.size →
   Calls Tryz.prog 135 #[.slice (some ⟨g,off,none⟩) l.toArray.size cap,.int .i64 a,.int .i64 b,.func (.func 55) #[] #[]] wr fun e w' => e = .returned (.tuple #[]) ∧ ∃ d',(PermIn a b dk d' ∧ SortedIn (ltOf cfE) a b d') ∧ SWK encE 34 w g off l.toArray.size w' d') :=
  Lib.hid (fun a b dk wr hs hab hbn => by
   have hds:=hs.1
   have hHr:=hs.hold hH hg
   have hS:=AnyQ.insertionSortCmpFunc Tryz.insE 34 (fun w => by kernel_rfl) (fun w => by kernel_rfl) encE encE_len encE_one cfE 55 #[] g off cap a b dk wr eg
    (fun m os dk _ x y => ocmp_any x y _) hHr (Nat.lt_of_lt_of_le hg hs.le) hab (by rw [hds];exact hbn) (by omega)
   have hho:=insertionSort_holds (lt:=ltOf cfE) swoE dk a b hab (by rw [hds];exact hbn)
   rw [hds] at hS
   refine hS.mono ?_
   rintro e w' ⟨he,nq,os,rfl⟩
   exact ⟨he,_,hho,hs.trans hg ⟨by rw [hho.1.1,hds],nq,os,rfl⟩⟩)
 have HFIN:Hid (∀ (d':Array EJ) (w':World),PermIn 0 l.toArray.size l.toArray d' → SortedIn (ltOf cfE) 0 l.toArray.size d' → SWK encE 34 w g off l.toArray.size w' d' → StbAns B (.slice (some ⟨g,off,none⟩) l.length cap) l w (.returned (.tuple #[])) w') :=
  Lib.hid (fun d' w' hp hs hsw => by
   obtain ⟨_,nq,os,rfl⟩:=hsw
   obtain ⟨h1,h2,h3⟩:=row2_of _ _ hp hs
   exact ⟨rfl,_,h2,h3,ownQ_sorted encE 34 encE_len hB hg hnc hcm hth (by rw [h1,hd]) (by omega) (by omega),grownBy_sortedK encE 34 _⟩)
 have HS0:=Lib.hid (SWK.start hH)
 rw [← hd] at hn h20 ⊢
 rw [← hd] at HFIN
 generalize l.toArray = d at hM hI HFIN HS0 hn h20 ⊢
 clear hth hr hq hH hd hnc hcm eg
 obtain ⟨n,hnn⟩:∃ n,d.size = n:=⟨_,rfl⟩
 rw [hnn] at hM hI HFIN HS0 hn h20 ⊢
 have HN:=Lib.hid hnn
 clear hnn
 go_enter Tryz.func122,Tryz.ntmps122
 go_wp2_with fail
 go_loopw [7,8] (fun va vb wr => ∃ (a:Nat) (dk:Array EJ),va = .int .i64 (a:Int) ∧ vb = .int .i64 ((a:Int) + 20) ∧ a ≤ n ∧ Hid (20 ∣ a) ∧ Hid (RunsTo (ltOf cfE) 20 n a dk) ∧ Hid (PermIn 0 n d dk) ∧ Hid (SWK encE 34 w g off n wr dk)) (fun va _ _ => (n + 1 - intOf va).toNat)
 case atStart => exact ⟨0,d,rfl,by go_num,by omega,Lib.hid ⟨0,rfl⟩,Lib.hid (runs_zero _ _ _),Lib.hid (permIn_refl _ _ _),HS0⟩
 case round =>
  obtain ⟨wo,rfl⟩:∃ wo:World,wo = wr:=⟨_,rfl⟩
  obtain ⟨a,dk,rfl,rfl,han,HD,HR,HP,HS⟩:=hrel
  by_cases hb:a + 20 ≤ n
  ·have d1:decide ((a:Int) + 20 ≤ (n:Int)) = true:=decide_eq_true (by omega)
   have w1:IntKind.i64.wrap ((a:Int) + 20 + 20) = (a:Int) + 20 + 20:=by rw [IntKind.wrap_i64];omega
   have HC:=Lib.hid (hI.out a (a + 20) dk wo HS.out (by omega) hb)
   have e1:((a + 20:Nat):Int) = (a:Int) + 20:=by omega
   rw [e1] at HC
   clear e1
   go_wp2_with fail
   refine HC.out.mono ?_
   rintro e w2 ⟨rfl,d',⟨hp,hso⟩,hsw⟩
   have HR2:=Lib.hid (runs_next (s:=20) (n:=n) HD.out HR.out hp (by rw [Nat.min_eq_left hb];exact hso))
   have HP2:=Lib.hid (permIn_trans _ _ _ _ _ HP.out (permIn_mono _ _ _ _ 0 n (by omega) hb (by rw [HS.out.1];omega) hp))
   have HS2:=Lib.hid hsw
   clear hp hso hsw
   go_wp2_with fail
   go_roundw
   case rel => exact ⟨a + 20,d',by go_num,by go_num,hb,Lib.hid (Nat.dvd_add HD.out (Nat.dvd_refl _)),HR2,HP2,HS2⟩
   case measure => simp [intOf];omega
  ·have d1:decide ((a:Int) + 20 ≤ (n:Int)) = false:=decide_eq_false (by omega)
   have HC:=Lib.hid (hI.out a n dk wo HS.out han (Nat.le_refl _))
   go_wp2_with fail
   refine HC.out.mono ?_
   rintro e w2 ⟨rfl,d',⟨hp,hso⟩,hsw⟩
   have HR2:=Lib.hid (runs_end (runs_next (s:=20) (n:=n) HD.out HR.out hp (by rw [Nat.min_eq_right (by omega)];exact hso)) (by omega))
   have HP2:=Lib.hid (permIn_trans _ _ _ _ _ HP.out (permIn_mono _ _ _ _ 0 n (by omega) (Nat.le_refl _) (by rw [HS.out.1];omega) hp))
   have HS2:=Lib.hid hsw
   clear hp hso hsw hb HC HD HR HP HS HS0 d1
   go_wp2_with fail
   go_loopw [6,7,8,9] (fun vs _ _ _ wr => ∃ (s:Nat) (dk:Array EJ),vs = .int .i64 (s:Int) ∧ 0 < s ∧ s ≤ 2 * n ∧ Hid (RunsN (ltOf cfE) s n dk) ∧ Hid (PermIn 0 n d dk) ∧ Hid (SWK encE 34 w g off n wr dk)) (fun vs _ _ _ _ => (2 * n + 1 - intOf vs).toNat)
   case atStart => exact ⟨20,d',rfl,by omega,by omega,HR2,HP2,HS2⟩
   case round =>
    obtain ⟨wq,rfl⟩:∃ wq:World,wq = wr:=⟨_,rfl⟩
    obtain ⟨s,dk2,rfl,hs0,hs2,HR,HP,HS⟩:=hrel
    by_cases hsn:s < n
    ·have d2:decide ((s:Int) < (n:Int)) = true:=decide_eq_true (by omega)
     have w2s:IntKind.i64.wrap (2 * (s:Int)) = 2 * (s:Int):=by rw [IntKind.wrap_i64];omega
     have ws2:IntKind.i64.wrap ((s:Int) * 2) = (s:Int) * 2:=by rw [IntKind.wrap_i64];omega
     have HH0:=Lib.hid (half_zero HR.out)
     clear HR
     go_wp2_with fail
     go_loopw [7,8] (fun va vb wr => ∃ (a:Nat) (dk:Array EJ),va = .int .i64 (a:Int) ∧ vb = .int .i64 ((a:Int) + 2 * (s:Int)) ∧ a ≤ n ∧ Hid (2 * s ∣ a) ∧ Hid (Half (ltOf cfE) s n a dk) ∧ Hid (PermIn 0 n d dk) ∧ Hid (SWK encE 34 w g off n wr dk)) (fun va _ _ => (n + 1 - intOf va).toNat)
     case atStart => exact ⟨0,dk2,rfl,by go_num,by omega,Lib.hid ⟨0,rfl⟩,HH0,HP,HS⟩
     case round =>
      obtain ⟨wt,rfl⟩:∃ wt:World,wt = wr:=⟨_,rfl⟩
      obtain ⟨a2,dk,rfl,rfl,han2,HD,HF,HP,HS⟩:=hrel
      have w3:IntKind.i64.wrap ((a2:Int) + (s:Int)) = (a2:Int) + (s:Int):=by rw [IntKind.wrap_i64];omega
      by_cases hb2:a2 + 2 * s ≤ n
      ·have d3:decide ((a2:Int) + 2 * (s:Int) ≤ (n:Int)) = true:=decide_eq_true (by omega)
       have w4:IntKind.i64.wrap ((a2:Int) + 2 * (s:Int) + 2 * (s:Int)) = (a2:Int) + 2 * (s:Int) + 2 * (s:Int):=by rw [IntKind.wrap_i64];omega
       have HC:=Lib.hid (hM.out a2 (a2 + s) (a2 + 2 * s) dk wt HS.out (by omega) (by omega) hb2 (by omega))
       have e1:((a2 + s:Nat):Int) = (a2:Int) + s:=by omega
       have e2:((a2 + 2 * s:Nat):Int) = (a2:Int) + 2 * s:=by omega
       rw [e1,e2] at HC
       clear e1 e2
       go_wp2_with fail
       refine HC.out.mono ?_
       rintro e w5 ⟨rfl,d5,hm,hsw⟩
       have HF2:=Lib.hid (half_step HD.out HF.out hb2 hm)
       have HP2:=Lib.hid (permIn_trans _ _ _ _ _ HP.out (permIn_mono _ _ _ _ 0 n (by omega) hb2 (by rw [HS.out.1];omega) hm.1))
       have HS2:=Lib.hid hsw
       clear hm hsw
       go_wp2_with fail
       go_roundw
       case rel => exact ⟨a2 + 2 * s,d5,by go_num,by go_num,hb2,Lib.hid (Nat.dvd_add HD.out (Nat.dvd_refl _)),HF2,HP2,HS2⟩
       case measure => simp [intOf];omega
      ·have d3:decide ((a2:Int) + 2 * (s:Int) ≤ (n:Int)) = false:=decide_eq_false (by omega)
       by_cases hmn:a2 + s < n
       ·have d4:decide ((a2:Int) + (s:Int) < (n:Int)) = true:=decide_eq_true (by omega)
        have HC:=Lib.hid (hM.out a2 (a2 + s) n dk wt HS.out (by omega) hmn (Nat.le_refl _) (by omega))
        have e1:((a2 + s:Nat):Int) = (a2:Int) + s:=by omega
        rw [e1] at HC
        clear e1
        go_wp2_with fail
        refine HC.out.mono ?_
        rintro e w5 ⟨rfl,d5,hm,hsw⟩
        have HR2:=Lib.hid (half_end1 HD.out HF.out (by omega) hmn hm)
        have HP2:=Lib.hid (permIn_trans _ _ _ _ _ HP.out (permIn_mono _ _ _ _ 0 n (by omega) (Nat.le_refl _) (by rw [HS.out.1];omega) hm.1))
        have HS2:=Lib.hid hsw
        clear hm hsw
        go_wp2_with fail
        go_roundw
        case rel => exact ⟨2 * s,d5,by go_num,by omega,by omega,HR2,HP2,HS2⟩
        case measure => simp [intOf];omega
       ·have d4:decide ((a2:Int) + (s:Int) < (n:Int)) = false:=decide_eq_false (by omega)
        have HR2:=Lib.hid (half_end2 HD.out HF.out (by omega))
        go_wp2_with fail
        go_roundw
        case rel => exact ⟨2 * s,dk,by go_num,by omega,by omega,HR2,HP,HS⟩
        case measure => simp [intOf];omega
    ·have d2:decide ((s:Int) < (n:Int)) = false:=decide_eq_false (by omega)
     have HE:=Lib.hid (HFIN.out dk2 wq HP.out (runs_whole HR.out (by omega)) HS.out)
     go_wp2_with fail
     go_end0
     exact HE.out
theorem sortsTo_all:SortsTo 1000000:=fun B q l w hq hn => stable_any B q l w hq hn
end Go.Proofs.YtmhjpmenngjmeaaGreatDoor
