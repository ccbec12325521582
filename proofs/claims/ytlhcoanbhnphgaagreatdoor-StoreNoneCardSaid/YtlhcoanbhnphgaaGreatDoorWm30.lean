/- A part of this claim. -/
import Derived.Test.YtlhcoanbhnphgaaGreatDoorShelfA
import Derived.Test.YtlhcoanbhnphgaaGreatDoorWm29
namespace Go.Proofs.YtlhcoanbhnphgaaGreatDoor
open Tryz
set_option maxHeartbeats 64000000
set_option maxRecDepth 100000
set_option linter.all false
section
open Go.RowKit Go.Maps
section
variable {O:Nat → Prop} {N R M:Nat} {w:World} {g tb:Nat} {q:Int} {L:LK} {sy:Nat → Bool} {k:Nat} {nm data:ByteArray}
theorem CB (d:ByteArray):(⟨#[]⟩:ByteArray) ++ d = d:=iU (by rw [ByteArray.data_append];simp)
theorem Ar (nm:ByteArray):tmpN nm ≠ nm:=fun e => by
 have:=congrArg ByteArray.size e
 unfold tmpN at this
 rw [ByteArray.size_append] at this
 have e:(⟨#[46,116,109,112]⟩:ByteArray).size = 4:=rfl
 omega
theorem GZ (hs:L k (tmpN nm) = none) (a b c:ByteArray × Nat):((((L.put k (tmpN nm) (some a)).put k (tmpN nm) (some b)).put k (tmpN nm) (some c)).put k nm (some c)).put k (tmpN nm) none = L.put k nm (some c):=by
 funext j y
 unfold LK.put
 by_cases h1:j = k ∧ y = tmpN nm
 ·obtain ⟨rfl,rfl⟩:=h1
  rw [if_pos ⟨rfl,rfl⟩,if_neg (fun h => Ar nm h.2),hs]
 simp only [if_neg h1]
theorem G5 (hs:L k (tmpN nm) = none) (a b:ByteArray × Nat):(((L.put k (tmpN nm) (some a)).put k (tmpN nm) (some b)).put k nm (some b)).put k (tmpN nm) none = L.put k nm (some b):=by
 funext j y
 unfold LK.put
 by_cases h1:j = k ∧ y = tmpN nm
 ·obtain ⟨rfl,rfl⟩:=h1
  rw [if_pos ⟨rfl,rfl⟩,if_neg (fun h => Ar nm h.2),hs]
 simp only [if_neg h1]
theorem rC (f:Nat → Bool) (k:Nat) (a b:Bool):upN (upN f k a) k b = upN f k b:=by
 funext j
 unfold upN
 split <;> rfl
def Ah (O:Nat → Prop) (N R M:Nat) (g:Nat) (q:Int) (L:LK) (sy:Nat → Bool) (w:World) (e:Ending) (w':World):Prop:=e = .returned (.int .i64 0) ∧ DV O N R M w' g q L sy ∧ Kp O w w'
theorem D8 (hv:DV O N R M w g q L sy) (hb:TkB w tb k nm data false 0 false false) (ho:O tb) (hk:k < 3) (hN:N + R ≤ 900000) (hx:aN (tmpN nm) = true) (hy:aN nm = true) (hs:L k (tmpN nm) = none) (hM:data.size ≤ M) (hM2:M ≤ 1048576) (hq:3 * ((N + 1) * M) + data.size ≤ q) (hq2:q ≤ 1000000000) :
  Calls prog 126 #[.pointer (some ⟨g,0,none⟩),.pointer (some ⟨tb,0,none⟩)] w fun e w' => e = .returned (.int .i64 0) ∧ DV O (N + 1) (R + 2) M w' g q (L.put k nm (some (data,data.size))) (upN sy k true) ∧ Kp (Wo O tb) w w':=by
 have H1:=ah (mE (O:=O) (w:=w) (N1:=N) (R1:=R) (L1:=L) (sy1:=sy) (made1:=false) 0 (by omega) (by decide) 264 rfl (enters_of func264 (by kernel_rfl) rfl) 265 rfl (enters_of func265 (by kernel_rfl) rfl) hv hb ho
  (fun O W ho hv ht => sG hv hk (by omega) ht hx hs) (fun O W ho hv ht => pW hv hk (by omega) ht (gK ho) hx hs))
 have H2:=ah (fun w hv hb => iG (O:=O) (w:=w) (M:=M) (q:=q) (g:=g) (lt:=false) (made:=true) (made':=true) (N:=N + 1) (R:=R + 1) (L:=L.put k (tmpN nm) (some (⟨#[]⟩,0))) (sy:=upN sy k false) 2 (by omega) 266 rfl (enters_of func266 (by kernel_rfl) rfl) hv hb ho
  (fun O W ho hv ht => pX (data:=data) hv hk ht (gK ho) hx (LK.bF ..) (by show 0 + data.size ≤ M;omega) hM2 hq hq2))
 have H3:=ah (fun w hv hb => iG (O:=O) (w:=w) (M:=M) (q:=q) (g:=g) (lt:=false) (made:=true) (made':=true) (N:=N + 1) (R:=R + 1) (L:=(L.put k (tmpN nm) (some (⟨#[]⟩,0))).put k (tmpN nm) (some ((⟨#[]⟩:ByteArray) ++ data,0))) (sy:=upN sy k false) 3 (by omega) 267 rfl (enters_of func267 (by kernel_rfl) rfl) hv hb ho
  (fun O W ho hv ht => D7 (data:=data) hv hk ht (gK ho) hx (LK.bF ..)))
 have H4:=ah (fun w hv hb => iG (O:=O) (w:=w) (M:=M) (q:=q) (g:=g) (lt:=false) (made:=true) (made':=false) (N:=N + 1) (R:=R + 1) (L:=((L.put k (tmpN nm) (some (⟨#[]⟩,0))).put k (tmpN nm) (some ((⟨#[]⟩:ByteArray) ++ data,0))).put k (tmpN nm) (some ((⟨#[]⟩:ByteArray) ++ data,((⟨#[]⟩:ByteArray) ++ data).size))) (sy:=upN sy k false) 4 (by omega) 268 rfl (enters_of func268 (by kernel_rfl) rfl) hv hb ho
  (fun O W ho hv ht => pV (data:=data) hv hk (by omega) ht (gK ho) hx hy (LK.bF ..)))
 have H5:=ah (fun w hv hb => iG (O:=O) (w:=w) (nm:=nm) (M:=M) (q:=q) (g:=g) (lt:=false) (made:=false) (made':=false) (N:=N + 1) (R:=R + 2) (L:=L.put k nm (some ((⟨#[]⟩:ByteArray) ++ data,((⟨#[]⟩:ByteArray) ++ data).size))) (sy:=upN sy k false) 5 (by omega) 269 rfl (enters_of func269 (by kernel_rfl) rfl) hv hb ho
  (fun O W ho hv ht => zh (data:=data) hv hk (by omega) ht (gK ho)))
 rw [CB] at H2 H3 H4 H5
 have HLW:=ah (GZ hs (⟨#[]⟩,0) (data,0) (data,data.size))
 clear hv hb hs hx hy hM hM2 hq hq2
 go_enter func126,ntmps126
 go_wp2_with fail
 refine wp_loop_rounds 5 ?_
 rw [rounds_succ]
 go_wp2_with fail
 refine H1.out.mono ?_
 rintro e w1 ⟨he,hv1,hb1,hk1⟩
 obtain rfl:e = .returned (.tuple #[.bool false,.int .i64 0]):=he
 have HC1:=ah (H2.out w1 hv1 hb1)
 have HK1:=ah hk1
 clear hv1 hb1 hk1 H1 H2
 go_wp2_with fail
 rw [rounds_succ]
 go_wp2_with fail
 refine HC1.out.mono ?_
 rintro e w2 ⟨he,hv2,hb2,hk2⟩
 obtain rfl:e = .returned (.tuple #[.bool false,.int .i64 0]):=he
 have HC2:=ah (H3.out w2 hv2 hb2)
 have HK2:=ah (HK1.out.trans hk2)
 clear hv2 hb2 hk2 HC1 H3
 go_wp2_with fail
 rw [rounds_succ]
 go_wp2_with fail
 refine HC2.out.mono ?_
 rintro e w3 ⟨he,hv3,hb3,hk3⟩
 obtain rfl:e = .returned (.tuple #[.bool false,.int .i64 0]):=he
 have HC3:=ah (H4.out w3 hv3 hb3)
 have HK3:=ah (HK2.out.trans hk3)
 clear hv3 hb3 hk3 HC2 H4
 go_wp2_with fail
 rw [rounds_succ]
 go_wp2_with fail
 refine HC3.out.mono ?_
 rintro e w4 ⟨he,hv4,hb4,hk4⟩
 obtain rfl:e = .returned (.tuple #[.bool false,.int .i64 0]):=he
 rw [HLW.out,rC] at hv4
 have HC4:=ah (H5.out w4 hv4 hb4)
 have HK4:=ah (HK3.out.trans hk4)
 clear hv4 hb4 hk4 HC3 H5
 go_wp2_with fail
 rw [rounds_succ]
 go_wp2_with fail
 refine HC4.out.mono ?_
 rintro e w5 ⟨he,hv5,hb5,hk5⟩
 obtain rfl:e = .returned (.tuple #[.bool true,.int .i64 0]):=he
 rw [rC] at hv5
 have HE:=ah (And.intro hv5 (HK4.out.trans hk5))
 clear hv5 hb5 hk5 HC4
 go_wp2_with fail
 go_ret
 exact ⟨rfl,HE.out⟩
theorem D9 (hv:DV O N R M w g q L sy) (hb:TkB w tb k nm data true 0 false false) (ho:O tb) (hk:k < 3) (hN:N + R ≤ 900000) (hx:aN (tmpN nm) = true) (hy:aN nm = true) (hs:L k (tmpN nm) = none) (hM:data.size ≤ M) (hM2:M ≤ 1048576) (hq:3 * ((N + 1) * M) + data.size ≤ q) (hq2:q ≤ 1000000000) :
  Calls prog 126 #[.pointer (some ⟨g,0,none⟩),.pointer (some ⟨tb,0,none⟩)] w fun e w' => e = .returned (.int .i64 0) ∧ DV O (N + 1) (R + 2) M w' g q (L.put k nm (some (data,0))) (upN sy k false) ∧ Kp (Wo O tb) w w':=by
 have H1:=ah (mE (O:=O) (w:=w) (N1:=N) (R1:=R) (L1:=L) (sy1:=sy) (made1:=false) 0 (by omega) (by decide) 264 rfl (enters_of func264 (by kernel_rfl) rfl) 265 rfl (enters_of func265 (by kernel_rfl) rfl) hv hb ho
  (fun O W ho hv ht => sG hv hk (by omega) ht hx hs) (fun O W ho hv ht => pW hv hk (by omega) ht (gK ho) hx hs))
 have H2:=ah (fun w hv hb => iG (O:=O) (w:=w) (M:=M) (q:=q) (g:=g) (lt:=true) (made:=true) (made':=true) (N:=N + 1) (R:=R + 1) (L:=L.put k (tmpN nm) (some (⟨#[]⟩,0))) (sy:=upN sy k false) 2 (by omega) 266 rfl (enters_of func266 (by kernel_rfl) rfl) hv hb ho
  (fun O W ho hv ht => pX (data:=data) hv hk ht (gK ho) hx (LK.bF ..) (by show 0 + data.size ≤ M;omega) hM2 hq hq2))
 have H3:=ah (fun w hv hb => mE (O:=O) (w:=w) (M:=M) (q:=q) (g:=g) (lt:=true) (made:=true) (made1:=true) (made':=false) (N:=N + 1) (R:=R + 1) (L:=(L.put k (tmpN nm) (some (⟨#[]⟩,0))).put k (tmpN nm) (some ((⟨#[]⟩:ByteArray) ++ data,0))) (sy:=upN sy k false) 3 (by omega) (by decide) 267 rfl (enters_of func267 (by kernel_rfl) rfl) 268 rfl (enters_of func268 (by kernel_rfl) rfl) hv hb ho
  (fun O W ho hv ht => AY (data:=data) hv ht) (fun O W ho hv ht => pV (data:=data) hv hk (by omega) ht (gK ho) hx hy (LK.bF ..)))
 rw [CB] at H2 H3
 have HLW:=ah (G5 hs (⟨#[]⟩,0) (data,0))
 clear hv hb hs hx hy hM hM2 hq hq2
 go_enter func126,ntmps126
 go_wp2_with fail
 refine wp_loop_rounds 3 ?_
 rw [rounds_succ]
 go_wp2_with fail
 refine H1.out.mono ?_
 rintro e w1 ⟨he,hv1,hb1,hk1⟩
 obtain rfl:e = .returned (.tuple #[.bool false,.int .i64 0]):=he
 have HC1:=ah (H2.out w1 hv1 hb1)
 have HK1:=ah hk1
 clear hv1 hb1 hk1 H1 H2
 go_wp2_with fail
 rw [rounds_succ]
 go_wp2_with fail
 refine HC1.out.mono ?_
 rintro e w2 ⟨he,hv2,hb2,hk2⟩
 obtain rfl:e = .returned (.tuple #[.bool false,.int .i64 0]):=he
 have HC2:=ah (H3.out w2 hv2 hb2)
 have HK2:=ah (HK1.out.trans hk2)
 clear hv2 hb2 hk2 HC1 H3
 go_wp2_with fail
 rw [rounds_succ]
 go_wp2_with fail
 refine HC2.out.mono ?_
 rintro e w3 ⟨he,hv3,hb3,hk3⟩
 obtain rfl:e = .returned (.tuple #[.bool true,.int .i64 0]):=he
 rw [HLW.out,rC] at hv3
 have HE:=ah (And.intro hv3 (HK2.out.trans hk3))
 clear hv3 hb3 hk3 HC2
 go_wp2_with fail
 go_ret
 exact ⟨rfl,HE.out⟩
theorem Av (a b c:ByteArray) (lt:Bool) (w:World):(Instr.build 274 #[(0,.string a),(1,.string b),(2,.string c),(3,.bool lt)]).run prog w = .ok (.agg #[.string a,.string b,.string c,.bool lt,.int .i64 0,.bool false,.bool false]) w:=run_build w 274 _ _ (by kernel_rfl)
theorem zk (k:Nat) (nm data:ByteArray) (lt:Bool) (w:World):Calls prog 127 #[.string (dirN k),.string nm,.string data,.bool lt] w fun e w' => e = .returned (.pointer (some ⟨w.heap.size,0,none⟩)) ∧ TkB w' w.heap.size k nm data lt 0 false false ∧ Below w.heap.size w w':=by
 have hbt:=Av
 have HX:Hid (BoxL (w.alloc (.cells #[.string (dirN k),.string nm,.string data,.bool lt,.int .i64 0,.bool false,.bool false] 274)) w.heap.size 274 (tkC k nm data lt 0 false false)):=ah (BoxL.new w 274 (tkC k nm data lt 0 false false))
 generalize dirN k = dn at HX
 go_enter func127,ntmps127
 go_wp2_with fail
 go_ret
 exact ⟨rfl,HX.out,bal⟩
theorem AX (hv:DV O N R M w g q L sy) (hk:k < 3) (hN:N + R ≤ 900000) (hx:aN (tmpN nm) = true) (hy:aN nm = true) (hs:L k (tmpN nm) = none) (hM:data.size ≤ M) (hM2:M ≤ 1048576) (hq:3 * ((N + 1) * M) + data.size ≤ q) (hq2:q ≤ 1000000000) :
  Calls prog 73 #[.pointer (some ⟨g,0,none⟩),.string (dirN k),.string nm,.string data] w (Ah O (N + 1) (R + 2) M g q (L.put k nm (some (data,data.size))) (upN sy k true) w):=by
 have HN:=ah (zk k nm data false w)
 have HR:Hid (∀ W,Below w.heap.size w W → TkB W w.heap.size k nm data false 0 false false → Calls prog 126 #[.pointer (some ⟨g,0,none⟩),.pointer (some ⟨w.heap.size,0,none⟩)] W (Ah O (N + 1) (R + 2) M g q (L.put k nm (some (data,data.size))) (upN sy k true) w)):=ah fun W hb ht => by
  refine (D8 (hv.on hb) ht (.inr ⟨Nat.le_refl _,BoxL.lt ht⟩) hk hN hx hy hs hM hM2 hq hq2).mono ?_
  rintro e w' ⟨rfl,h1,h2⟩
  exact ⟨rfl,h1.sub (fun b h => .inl h) hv.glob,(Kp.of hb).trans (h2.sub fun b _ h => ⟨.inl h,fun e => by have:=hv.olt b h;omega⟩)⟩
 generalize dirN k = dn at HN
 clear hv hx hy hs hM hM2 hq hq2
 go_enter func73,ntmps73
 go_wp2_with fail
 refine HN.out.mono ?_
 rintro e w1 ⟨rfl,ht,hb⟩
 have HC:=ah (HR.out w1 hb ht)
 clear ht hb HN HR
 go_wp2_with fail
 refine HC.out.mono ?_
 rintro e w2 ⟨rfl,hE⟩
 have HE:=ah hE
 clear hE HC
 go_wp2_with fail
 go_ret
 exact ⟨rfl,HE.out⟩
theorem AZ (hv:DV O N R M w g q L sy) (hk:k < 3) (hN:N + R ≤ 900000) (hx:aN (tmpN nm) = true) (hy:aN nm = true) (hs:L k (tmpN nm) = none) (hM:data.size ≤ M) (hM2:M ≤ 1048576) (hq:3 * ((N + 1) * M) + data.size ≤ q) (hq2:q ≤ 1000000000) :
  Calls prog 96 #[.pointer (some ⟨g,0,none⟩),.string (dirN k),.string nm,.string data] w (Ah O (N + 1) (R + 2) M g q (L.put k nm (some (data,0))) (upN sy k false) w):=by
 have HN:=ah (zk k nm data true w)
 have HR:Hid (∀ W,Below w.heap.size w W → TkB W w.heap.size k nm data true 0 false false → Calls prog 126 #[.pointer (some ⟨g,0,none⟩),.pointer (some ⟨w.heap.size,0,none⟩)] W (Ah O (N + 1) (R + 2) M g q (L.put k nm (some (data,0))) (upN sy k false) w)):=ah fun W hb ht => by
  refine (D9 (hv.on hb) ht (.inr ⟨Nat.le_refl _,BoxL.lt ht⟩) hk hN hx hy hs hM hM2 hq hq2).mono ?_
  rintro e w' ⟨rfl,h1,h2⟩
  exact ⟨rfl,h1.sub (fun b h => .inl h) hv.glob,(Kp.of hb).trans (h2.sub fun b _ h => ⟨.inl h,fun e => by have:=hv.olt b h;omega⟩)⟩
 generalize dirN k = dn at HN
 clear hv hx hy hs hM hM2 hq hq2
 go_enter func96,ntmps96
 go_wp2_with fail
 refine HN.out.mono ?_
 rintro e w1 ⟨rfl,ht,hb⟩
 have HC:=ah (HR.out w1 hb ht)
 clear ht hb HN HR
 go_wp2_with fail
 refine HC.out.mono ?_
 rintro e w2 ⟨rfl,hE⟩
 have HE:=ah hE
 clear hE HC
 go_wp2_with fail
 go_ret
 exact ⟨rfl,HE.out⟩
end
theorem tF:∃ zi:Array Value,(∀ w,(zeroValue 42).run prog w = .ok (.agg zi) w) ∧ zi.size = 32:=⟨#[.int .u8 0,.int .u8 0,.int .u8 0,.int .u8 0,.int .u8 0,.int .u8 0,.int .u8 0,.int .u8 0,.int .u8 0,.int .u8 0,.int .u8 0,.int .u8 0,.int .u8 0,.int .u8 0,.int .u8 0,.int .u8 0,.int .u8 0,.int .u8 0,.int .u8 0,.int .u8 0,.int .u8 0,.int .u8 0,.int .u8 0,.int .u8 0,.int .u8 0,.int .u8 0,.int .u8 0,.int .u8 0,.int .u8 0,.int .u8 0,.int .u8 0,.int .u8 0],fun w => by kernel_rfl,rfl⟩
theorem bL:(prog.info? 42).map (·.size) = some 32:=by kernel_rfl
theorem cB:(prog.info? 33).map (·.size) = some 2:=by kernel_rfl
theorem vI (g:Nat):∀ (vs:List Value) (o:Nat) (w:World),(w.setCells g o vs).heap.size = w.heap.size
 | [],_,_ => rfl
 | v :: vs,o,w => by
  show (World.setCells (w.setCell ⟨g,o,none⟩ v) g (o + 1) vs).heap.size = _
  rw [vI]
  simp [World.setCell]
theorem boxed {w W:World} {zs:Array Value} {t:TypeId} {us:List Value} (hl:us.length = zs.size) (hW:(w.alloc (.cells zs t)).setCells w.heap.size 0 us = W):BoxL W w.heap.size t us ∧ Below w.heap.size w W ∧ W.heap.size = w.heap.size + 1:=by
 have h0:BoxL (w.alloc (.cells zs t)) w.heap.size t zs.toList:=by have:=BoxL.new w t zs.toList;simpa using this
 refine ⟨?_,?_,?_⟩
 ·rw [← hW];exact h0.set (by rw [hl];simp)
 ·rw [← hW];exact below_setCells _ (Nat.le_refl _) _ _ _ bal
 rw [← hW,vI];simp
theorem aC {P:Program} {ops:Array Oper} {rest:List Oper} {op:Oper} {a:Act} {w:World} {Q:Exit → Act → World → Prop} (hgd:op.guard = none) (ty:TypeId) (x y:Operand) (ho:op.op = .store ty x y)
  (zs:Array Value) (vs:List Value) (hx:a.eval x = .pointer (some ⟨w.heap.size,0,none⟩)) (hy:a.eval y = .agg vs.toArray) (n:Nat) (hn:vs.length = n) (hz:zs.size = n)
  (hi:(P.info? ty).map (·.size) = some n) (h1:∀ v ∈ vs,v.oneCell' = true)
  (h:∀ W,BoxL W w.heap.size ty vs → Below w.heap.size w W → Hid (W.heap.size = w.heap.size + 1) → wpList P ops Q rest (a.put op.dst undef) W):wpList P ops Q (op :: rest) a (w.alloc (.cells zs ty)):=by
 obtain ⟨b1,b2,b3⟩:=boxed (w:=w) (t:=ty) (us:=vs) (hn.trans hz.symm) rfl
 refine aj hgd ty x y ho w.heap.size 0 vs hx hy n hn (by rw [← hz];exact there_alloc w zs ty rfl) hi h1 (h _ b1 b2 (ah b3))
theorem eD (b:Nat) (vs:List Value) (w:World):Chg (fun k => k = b) w (w.setCells b 0 vs):=by
 have h:=bC w b 0 vs
 exact ⟨h.os,h.tape,h.output,h.size,fun k hk hn => h.block k hk (fun e => hn (Option.some.inj e))⟩
theorem BoxL.kp {O:Nat → Prop} {w w':World} {b:Nat} {t:TypeId} {cs:List Value} (h:BoxL w b t cs) (hk:Kp O w w') (ho:O b):BoxL w' b t cs:=(hk.block h.lt ho).trans h
end
section
open Go.RowKit
def hexN (x:List UInt8):ByteArray:=ofB (hexL x)
theorem tK {x y:List UInt8} (hx:x.length = 32) (hy:y.length = 32) (h:hexN x = hexN y):x = y:=by
 have h2:hexL x = hexL y:=by rw [← aX (hexL x),← aX (hexL y)];exact congrArg (fun b:ByteArray => b.data.toList) h
 have h3:=vC hx
 rw [h2,vC hy] at h3
 exact (Option.some.inj h3).symm
theorem o9 {x:List UInt8} (hx:x.length = 32):(hexN x).size = 64:=by unfold hexN;rw [bq,nP,hx]
theorem CQ {x:List UInt8} (hx:x.length = 32):aN (hexN x) = true:=Ih hx
theorem EO {x:List UInt8} (hx:x.length = 32):aN (tmpN (hexN x)) = true:=by
 have hs:(tmpN (hexN x)).size = 68:=by unfold tmpN;rw [ByteArray.size_append,o9 hx];rfl
 have ha:(tmpN (hexN x)).data.toList.all nU = true:=by
  unfold tmpN
  rw [pF,List.all_append]
  have:(hexN x).data.toList.all nU = true:=by unfold hexN;rw [aX];exact wD x
  rw [this]
  decide
 unfold aN
 rw [ha,hs]
 rfl
theorem JN {x y:List UInt8} (hx:x.length = 32) (hy:y.length = 32):tmpN (hexN x) ≠ hexN y:=fun e => by
 have h:=congrArg ByteArray.size e
 rw [o9 hy] at h
 unfold tmpN at h
 rw [ByteArray.size_append,o9 hx] at h
 exact absurd h (by decide)
structure LoF (L:LK) (F:List Ob):Prop where
 on:∀ o ∈ F,aB o = true ∧ ∃ n,L 0 (hexN (idO o)) = some (looB o,n)
 all:∀ nm d,L 0 nm = some d → ∃ o ∈ F,nm = hexN (idO o)
theorem LoF.non {L:LK} {F:List Ob} (h:LoF L F) {x:List UInt8} (hx:x.length = 32) (hn:∀ o ∈ F,idO o ≠ x):L 0 (hexN x) = none:=by
 cases e:L 0 (hexN x) with
 | none => rfl
 | some d =>
  obtain ⟨o,ho,e2⟩:=h.all _ d e
  exact absurd (tK hx (eP o) e2).symm (hn o ho)
theorem LoF.tmp {L:LK} {F:List Ob} (h:LoF L F) {x:List UInt8} (hx:x.length = 32):L 0 (tmpN (hexN x)) = none:=by
 cases e:L 0 (tmpN (hexN x)) with
 | none => rfl
 | some d =>
  obtain ⟨o,ho,e2⟩:=h.all _ d e
  exact absurd e2 (JN hx (eP o))
theorem LoF.get {L:LK} {F:List Ob} (h:LoF L F) {d:Dk} (hd:∀ k x,k < 3 → d k x = L.dk k x) {o:Ob} (ho:o ∈ F):dY d (idO o) = .inr o:=by
 obtain ⟨hr,n,hn⟩:=h.on o ho
 refine BG hr ?_
 rw [hd 0 _ (by omega)]
 show (L 0 (hexN (idO o))).map (·.1) = _
 rw [hn];rfl
theorem LoF.not {L:LK} {F:List Ob} (h:LoF L F) {d:Dk} (hd:∀ k x,k < 3 → d k x = L.dk k x) {x:List UInt8} (hx:x.length = 32) (hn:∀ o ∈ F,idO o ≠ x):dY d x = .inl 6:=by
 unfold dY
 rw [hd 0 _ (by omega)]
 unfold LK.dk
 rw [show L 0 (ofB (hexL x)) = none from h.non hx hn]
 rfl
theorem LoF.add {L:LK} {F:List Ob} (h:LoF L F) {o:Ob} (hr:aB o = true) (hn:∀ p ∈ F,idO p ≠ idO o) (n:Nat):LoF (L.put 0 (hexN (idO o)) (some (looB o,n))) (o :: F):=by
 refine ⟨fun p hp => ?_,fun nm d hd => ?_⟩
 ·rcases List.mem_cons.1 hp with rfl | hp
  ·exact ⟨hr,n,LK.bF ..⟩
  obtain ⟨h1,m,h2⟩:=h.on p hp
  refine ⟨h1,m,?_⟩
  rw [LK.aI (fun e => hn p hp (tK (eP _) (eP _) e.2))]
  exact h2
 by_cases e:nm = hexN (idO o)
 ·exact ⟨o,List.mem_cons_self ..,e⟩
 rw [LK.aI (fun e2 => e e2.2)] at hd
 obtain ⟨p,hp,e2⟩:=h.all nm d hd
 exact ⟨p,List.mem_cons_of_mem _ hp,e2⟩
structure SmL (L L':LK):Prop where
 dk:∀ k x,L'.dk k x = L.dk k x
 old:∀ k x d,L k x = some d → d.2 = d.1.size → L' k x = some d
 oth:∀ k x,k ≠ 0 → L' k x = L k x
theorem SmL.refl (L:LK):SmL L L:=⟨fun _ _ => rfl,fun _ _ _ h _ => h,fun _ _ _ => rfl⟩
theorem SmL.trans {L L' L'':LK} (h:SmL L L') (h':SmL L' L''):SmL L L'':=⟨fun k x => (h'.dk k x).trans (h.dk k x),fun k x d h1 h2 => h'.old k x d (h.old k x d h1 h2) h2,fun k x hk => (h'.oth k x hk).trans (h.oth k x hk)⟩
theorem SmL.sync {L:LK} {x:ByteArray} {d:ByteArray × Nat} (h:L 0 x = some d):SmL L (L.put 0 x (some (d.1,d.1.size))):=by
 refine ⟨fun k y => ?_,fun k y e h1 h2 => ?_,fun k y hk => LK.aI fun e => hk e.1⟩
 ·unfold LK.dk
  by_cases e:k = 0 ∧ y = x
  ·obtain ⟨rfl,rfl⟩:=e
   rw [LK.bF,h];rfl
  rw [LK.aI e]
 by_cases e3:k = 0 ∧ y = x
 ·obtain ⟨rfl,rfl⟩:=e3
  rw [h] at h1
  have e4:=Option.some.inj h1
  subst e4
  rw [LK.bF]
  obtain ⟨u,v⟩:=d
  dsimp at h2
  subst h2
  rfl
 rw [LK.aI e3];exact h1
theorem SmL.lof {L L':LK} {F:List Ob} (h:LoF L F) (hs:SmL L L'):LoF L' F:=by
 refine ⟨fun o ho => ?_,fun nm d hd => ?_⟩
 ·obtain ⟨h1,n,h2⟩:=h.on o ho
  have h3:=hs.dk 0 (hexN (idO o))
  unfold LK.dk at h3
  rw [h2] at h3
  cases e:L' 0 (hexN (idO o)) with
  | none => rw [e] at h3;cases h3
  | some d =>
   rw [e] at h3
   obtain ⟨a,b⟩:=d
   have e4:a = looB o:=Option.some.inj h3
   subst e4
   exact ⟨h1,b,rfl⟩
 have h3:=hs.dk 0 nm
 unfold LK.dk at h3
 rw [hd] at h3
 cases e:L 0 nm with
 | none => rw [e] at h3;cases h3
 | some d' => exact h.all nm d' e
def StF (L:LK) (k:Nat) (x:ByteArray):Prop:=∀ d,L k x = some d → d.2 = d.1.size
theorem SmL.stf {L L':LK} (h:SmL L L') {k:Nat} {x:ByteArray} (hs:StF L k x):StF L' k x:=fun d hd => by
 cases e:L k x with
 | none =>
  have h3:=h.dk k x
  unfold LK.dk at h3
  rw [hd,e] at h3;cases h3
 | some d' =>
  rw [h.old k x d' e (hs d' e)] at hd
  have e4:=Option.some.inj hd
  rw [← e4]
  exact hs d' e
end
section
open Go.RowKit Go.Maps
section
variable {O:Nat → Prop} {N R M:Nat} {w:World} {g:Nat} {q:Int} {L:LK} {sy:Nat → Bool}
theorem DV.at2 (h:DV O N R M w g q L sy) (hN:N + R ≤ 1000000):∃ d:Dk,jg w g d ∧ (∀ k x,k < 3 → d k x = L.dk k x) ∧ ∀ k nm s,d k nm = some s → s.size ≤ M:=by
 obtain ⟨d,h1,h2⟩:=h.at hN
 refine ⟨fun k x => if k < 3 then d k x else none,?_,fun k x hk => by dsimp only;rw [if_pos hk];exact h2 k x hk,fun k nm s hs => ?_⟩
 ·obtain ⟨m,n,f,a1,a2,a3,a4,a5⟩:=h1
  refine ⟨m,n,f,a1,a2,a3,a4,fun x hx => ?_⟩
  rcases a5 x hx with h | ⟨b,k,e1,e2,e3⟩
  ·exact .inl h
  have hk:k < 3:=(dM e2).1
  refine .inr ⟨b,k,e1,e2,?_⟩
  simp only [if_pos hk]
  exact e3
 dsimp only at hs
 by_cases hk:k < 3
 ·rw [if_pos hk,h2 k nm hk] at hs
  unfold LK.dk at hs
  cases e:L k nm with
  | none => rw [e] at hs;cases hs
  | some v => rw [e] at hs;cases hs;exact (h.size hk e).1
 rw [if_neg hk] at hs;cases hs
theorem rz (h:DV O N R M w g q L sy) (hN:N + R ≤ 1000000) (hM:M ≤ 1000000) (hG:Glob w) {x:List UInt8} (hx:x.length = 32):Calls prog 37 #[.pointer (some ⟨g,0,none⟩),.agg (idC x).toArray] w (qz L.dk x w):=by
 obtain ⟨d,h1,h2,h3⟩:=h.at2 hN
 have e:dY d x = dY L.dk x:=by unfold dY;rw [h2 0 _ (by omega)]
 have:=G7 g d x w hx h1 (fun k nm s hs => Nat.le_trans (h3 k nm s hs) hM) hG
 unfold qz at this ⊢
 rw [e] at this
 exact this
end
theorem rU {k:Int} {s:ByteArray} (h:aB ⟨k,s⟩ = true):s.size ≤ 4096:=by
 unfold aB at h
 rw [Bool.and_eq_true,decide_eq_true_eq] at h
 exact h.1
theorem Bn (k:Int) (s:ByteArray) (hr:aB ⟨k,s⟩ = true) (w:World) (hc:Crc w):Calls prog 95 #[.agg #[.int .i64 k,.string s]] w fun e w' => e = .returned (.tuple #[.string (looB ⟨k,s⟩),.int .i64 0]) ∧ Below w.heap.size w w':=by
 have hF:=fun w => sM k s w
 unfold Di at hF
 rw [hr] at hF
 simp only [if_pos,show okI true = 0 from rfl] at hF
 have hl:=vX (o:=⟨k,s⟩) (by have:=rU hr;show s.size < 128 ^ 3;omega)
 have hsz:(⟨#[83,76,79,49]⟩ ++ ofB (dh ⟨k,s⟩):ByteArray).size ≤ 1000000000:=by
  have h1:(looB ⟨k,s⟩).size = 4 + (dh ⟨k,s⟩).length + 4:=by unfold looB;rw [bq,jr,List.length_append];rfl
  have:=rU hr
  rw [ByteArray.size_append,bq]
  show 4 + _ ≤ _
  have h3:(looB ⟨k,s⟩).size ≤ s.size + 12:=hl
  omega
 have he:ofB (dN (⟨#[83,76,79,49]⟩ ++ ofB (dh ⟨k,s⟩):ByteArray).data.toList) = looB ⟨k,s⟩:=by
  rw [pF,aX];rfl
 have HS:=ah (fun w hc => rP (⟨#[83,76,79,49]⟩ ++ ofB (dh ⟨k,s⟩)) w hc hsz)
 rw [he] at HS
 generalize looB ⟨k,s⟩ = lb at HS ⊢
 generalize ofB (dh ⟨k,s⟩) = fb at HS hF hsz
 have hcat:∀ W,(Op.stringOp .add ⟨#[83,76,79,49]⟩ fb).run prog W = .ok (.string (⟨#[83,76,79,49]⟩ ++ fb)) W:=fun W => run_string_add_sum W _ _ (by rw [ByteArray.size_append] at hsz;omega)
 have HF:=ah hF
 have HB0:Hid (∀ o,Below w.heap.size w (w.alloc o)):=ah (fun o => bal)
 have HC:=ah hc
 clear hF hsz he hl hc hr
 go_enter func95,ntmps95
 go_wp2_with fail
 refine (HF.out _).mono ?_
 rintro e w1 ⟨rfl,hb⟩
 have HB1:=ah ((HB0.out _).trans (hb.mono (HB0.out _).size))
 clear hb
 go_wp2_with fail
 refine (HS.out w1 (HC.out.below HB1.out)).mono ?_
 rintro e w2 ⟨rfl,hb⟩
 have HB2:=bth HB1 hb
 clear hb
 go_wp2_with fail
 go_ret2
 exact ⟨rfl,HB2.out⟩
section
variable {O:Nat → Prop} {N R M:Nat} {w:World} {g:Nat} {q:Int} {L:LK} {sy:Nat → Bool}
def Dh (O:Nat → Prop) (N R M:Nat) (g:Nat) (q:Int) (L:LK) (sy:Nat → Bool) (x:List UInt8) (w:World) (e:Ending) (w':World):Prop:=e = .returned (.tuple #[.agg (idC x).toArray,.int .i64 0]) ∧ DV O N R M w' g q L sy ∧ Kp O w w'
theorem GV (hv:DV O N R M w g q L sy) (hG:Glob w) (k:Int) (s:ByteArray) (hr:aB ⟨k,s⟩ = true) (hN:N + R ≤ 900000) (hM2:M ≤ 1000000) (hs:L 0 (hexN (idO ⟨k,s⟩)) = none) (ht:L 0 (tmpN (hexN (idO ⟨k,s⟩))) = none) (hM:s.size + 12 ≤ M) (hq:3 * ((N + 1) * M) + M ≤ q) (hq2:q ≤ 1000000000) :
  Calls prog 52 #[.pointer (some ⟨g,0,none⟩),.agg #[.int .i64 k,.string s]] w (Dh O (N + 1) (R + 2) M g q (L.put 0 (hexN (idO ⟨k,s⟩)) (some (looB ⟨k,s⟩,0))) (upN sy 0 false) (idO ⟨k,s⟩) w):=by
 obtain ⟨zi,hzi,hzl⟩:=tF
 have hxl:(idO ⟨k,s⟩).length = 32:=eP _
 have HID:Hid (∀ W,Laid W → Calls prog 51 #[.agg #[.int .i64 k,.string s]] W fun e w' => e = .returned (.tuple #[.agg (idC (idO ⟨k,s⟩)).toArray,.bool true]) ∧ Below W.heap.size W w'):=ah fun W hL => by
  have h:=xD k s W hL
  unfold oF at h
  rw [hr] at h
  exact h
 have HGE:Hid (∀ W,Below w.heap.size w W → Calls prog 37 #[.pointer (some ⟨g,0,none⟩),.agg (idC (idO ⟨k,s⟩)).toArray] W fun e w' => e = .returned (.tuple #[.agg #[.int .i64 0,.string ⟨#[]⟩],.int .i64 6]) ∧ Below W.heap.size W w'):=ah fun W hb => by
  have h:=rz (hv.below hb) (by omega) hM2 (hG.below hb) hxl
  have e:dY L.dk (idO ⟨k,s⟩) = .inl 6:=by
   unfold dY LK.dk
   rw [show L 0 (ofB (hexL (idO ⟨k,s⟩))) = none from hs]
   rfl
  unfold qz at h
  rw [e] at h
  exact h
 have HBY:=ah (fun W hc => Bn k s hr W hc)
 have HNM:=ah (fun W => lF (idO ⟨k,s⟩) hxl W)
 have hlo:=vX (o:=⟨k,s⟩) (by have:=rU hr;show s.size < 128 ^ 3;omega)
 have hlq:3 * ((N + 1) * M) + ((looB ⟨k,s⟩).size:Int) ≤ q:=by
  have h1:(looB ⟨k,s⟩).size ≤ M:=Nat.le_trans hlo hM
  omega
 have HLI:Hid (∀ W,Below w.heap.size w W → Calls prog 96 #[.pointer (some ⟨g,0,none⟩),.string ⟨#[108,111,111,115,101]⟩,.string (ofB (hexL (idO ⟨k,s⟩))),.string (looB ⟨k,s⟩)] W fun e w' => e = .returned (.int .i64 0) ∧ DV (Ou O w W) (N + 1) (R + 2) M w' g q (L.put 0 (hexN (idO ⟨k,s⟩)) (some (looB ⟨k,s⟩,0))) (upN sy 0 false) ∧ Kp (Ou O w W) W w'):=ah fun W hb =>
  AZ (k:=0) (nm:=hexN (idO ⟨k,s⟩)) (hv.on hb) (by omega) hN (EO hxl) (CQ hxl) ht (Nat.le_trans hlo hM) (by omega) hlq hq2
 have HG:=ah hG
 have HFI:Hid (∀ W,DV (Ou O w W) (N + 1) (R + 2) M W g q (L.put 0 (hexN (idO ⟨k,s⟩)) (some (looB ⟨k,s⟩,0))) (upN sy 0 false) → True):=ah fun _ _ => trivial
 have HOG:=ah hv.glob
 have HOL:=ah hv.olt
 clear hv hG hs ht hM hM2 hq hq2 hN hlo hr
 have HCL:Hid ((idC (idO ⟨k,s⟩)).length = 32):=ah (by rw [au,hxl])
 have HCO:=ah (aM (idO ⟨k,s⟩))
 have h32:(prog.info? 42).map (·.size) = some (idC (idO ⟨k,s⟩)).length:=by rw [HCL.out];exact bL
 clear hxl HFI
 obtain ⟨LP,hLP⟩:∃ z,L.put 0 (hexN (idO ⟨k,s⟩)) (some (looB ⟨k,s⟩,0)) = z:=⟨_,rfl⟩
 rw [hLP] at HLI ⊢
 clear hLP
 unfold Dh
 generalize ofB (hexL (idO ⟨k,s⟩)) = nm at HNM HLI
 generalize looB ⟨k,s⟩ = lb at HBY HLI
 generalize idC (idO ⟨k,s⟩) = ci at HID HGE HNM HCL HCO h32 ⊢
 have HI32:=ah bL
 obtain ⟨W,hW⟩:∃ W,(w.alloc (.cells #[.int .i64 k,.string s] 33)).alloc (.cells zi 42) = W:=⟨_,rfl⟩
 have hbW:Below w.heap.size w W:=by rw [← hW];exact bal.alloc (by simp) _
 have hx0:BoxL W w.heap.size 33 [.int .i64 k,.string s]:=by rw [← hW];exact (BoxL.new w 33 [.int .i64 k,.string s]).below bal
 have hx1:BoxL W (w.heap.size + 1) 42 zi.toList:=by
  rw [← hW]
  have:=BoxL.new (w.alloc (.cells #[.int .i64 k,.string s] 33)) 42 zi.toList
  rw [World.size_alloc] at this
  simpa using this
 have HBW:=ah hbW
 have HX0:=ah hx0
 have HX1:=ah hx1
 have HW:=ah hW
 have e0:=hx0.range
 have h2:(prog.info? 33).map (·.size) = some ([.int .i64 k,.string s]:List Value).length:=cB
 clear hW hbW hx0 hx1
 go_enter func52,ntmps52
 go_upto_region 1 with fail
 rw [HW.out]
 clear HW
 go_wp2_with (refine wpList_load_mid rfl 33 _ rfl w.heap.size 0 rfl [.int .i64 k,.string s] _ e0 underlying33 rfl h2 ?_)
 refine (HID.out W (HG.out.below HBW.out).laid).mono ?_
 rintro e w1 ⟨rfl,hb1⟩
 have HB1:=bth HBW hb1
 replace HX0:=ah (HX0.out.below hb1)
 replace HX1:=ah (HX1.out.below hb1)
 clear hb1 HID e0
 go_upto_region 2 with (refine aC rfl 42 _ _ rfl zi ci rfl rfl 32 HCL.out hzl HI32.out HCO.out ?_;intro w2 hx2 hb2 hs2)
 have HB2:=bth HB1 hb2
 replace HX0:=ah (HX0.out.below hb2)
 replace HX1:=ah (HX1.out.below hb2)
 have HX2:=ah hx2
 have e2:=hx2.range
 clear hb2 hx2
 go_wp2_with (refine wpList_load_mid rfl 42 _ rfl w1.heap.size 0 rfl ci _ e2 underlying42 rfl h32 ?_)
 refine (HGE.out w2 HB2.out).mono ?_
 rintro e w3 ⟨rfl,hb3⟩
 have HB3:=bth HB2 hb3
 replace HX0:=ah (HX0.out.below hb3)
 replace HX1:=ah (HX1.out.below hb3)
 replace HX2:=ah (HX2.out.below hb3)
 clear hb3 HGE e2
 go_upto_region 7 with fail
 have hb4:Below w3.heap.size w3 (w3.alloc (.cells #[.int .i64 0,.string ⟨#[]⟩] 33)):=bal
 generalize w3.alloc (.cells #[.int .i64 0,.string ⟨#[]⟩] 33) = w4 at hb4 ⊢
 have HB4:=bth HB3 hb4
 replace HX0:=ah (HX0.out.below hb4)
 replace HX1:=ah (HX1.out.below hb4)
 replace HX2:=ah (HX2.out.below hb4)
 have e0:=HX0.out.range
 clear hb4
 go_wp2_with (refine wpList_load_mid rfl 33 _ rfl w.heap.size 0 rfl [.int .i64 k,.string s] _ e0 underlying33 rfl h2 ?_)
 refine (HBY.out w4 (HG.out.below HB4.out).crc).mono ?_
 rintro e w5 ⟨rfl,hb5⟩
 have HB5:=bth HB4 hb5
 replace HX1:=ah (HX1.out.below hb5)
 replace HX2:=ah (HX2.out.below hb5)
 have e2:=HX2.out.range
 clear hb5 e0 HX0 HBY
 go_wp2_with (refine wpList_load_mid rfl 42 _ rfl w1.heap.size 0 rfl ci _ e2 underlying42 rfl h32 ?_)
 refine (HNM.out w5).mono ?_
 rintro e w6 ⟨rfl,hb6⟩
 have HB6:=bth HB5 hb6
 replace HX1:=ah (HX1.out.below hb6)
 replace HX2:=ah (HX2.out.below hb6)
 have hl6:=HX1.out.lt
 clear hb6 e2 HNM
 go_wp2_with fail
 refine (HLI.out w6 HB6.out).mono ?_
 rintro e w7 ⟨rfl,hv7,hk7⟩
 replace HX1:=ah (HX1.out.kp hk7 (.inr ⟨by omega,HX1.out.lt⟩))
 replace HX2:=ah (HX2.out.kp hk7 (.inr ⟨HB1.out.size,HX2.out.lt⟩))
 have e2:=HX2.out.range
 obtain ⟨WE,hWE⟩:∃ z,w7.setCells (w.heap.size + 1) 0 ci = z:=⟨_,rfl⟩
 have hth:w7.there (w.heap.size + 1) 0 32:=by have:=HX1.out.there;simpa [hzl] using this
 have hre:WE.rangeAt (w.heap.size + 1) 0 ci:=by rw [← hWE];exact (HX1.out.set (us:=ci) (by rw [HCL.out];simpa using hzl.symm)).range
 have hcw:Chg (fun j => j = w.heap.size + 1) w7 WE:=by rw [← hWE];exact eD _ _ _
 have hbl:=HX1.out.lt
 have HFIN:Hid (DV O (N + 1) (R + 2) M WE g q LP (upN sy 0 false) ∧ Kp O w WE):=ah (by
  refine ⟨(hv7.chg hcw (fun j hj => ?_)).sub (fun b hb => .inl hb) HOG.out,(Kp.of HB6.out).trans ((hk7.sub fun b _ hb => .inl hb).trans (hcw.mono fun j hj hn hO => ?_))⟩
  ·rw [hj]
   exact .inr ⟨by omega,hl6⟩
  have:=HOL.out j hO;omega)
 have HWE:=ah hWE
 clear hWE hcw hv7 hk7 HLI
 go_wp2_with (first | (refine wpList_load_mid rfl 42 _ rfl w1.heap.size 0 rfl ci _ e2 underlying42 rfl h32 ?_) | (refine aj rfl 42 _ _ rfl (w.heap.size + 1) 0 ci rfl rfl 32 HCL.out hth HI32.out HCO.out ?_;rw [HWE.out]))
 refine aL rfl (w.heap.size + 1) 0 rfl ci _ hre underlying42 rfl h32 rfl _ rfl ?_
 exact ⟨rfl,HFIN.out⟩
end
def chV (l:List (Idl × Int)):List Value:=(l.map chC).flatten
theorem iw {c:Idl × Int} (h:c.1.length = 32):(chC c).length = 33:=by unfold chC;rw [List.length_append,au,h];rfl
theorem qU (c:Idl × Int):∀ u ∈ chC c,u.oneCell' = true:=fun u hu => by
 unfold chC at hu
 rcases List.mem_append.1 hu with h | h
 ·exact aM _ u h
 simp at h;rw [h];rfl
theorem CY {l:List (Idl × Int)} (h:∀ c ∈ l,c.1.length = 32):(chV l).length = l.length * 33:=by
 induction l with
 | nil => rfl
 | cons r l ih =>
  unfold chV at ih ⊢
  rw [List.map_cons,List.flatten_cons,List.length_append,iw (h r (List.mem_cons_self ..)),ih fun x hx => h x (List.mem_cons_of_mem _ hx),List.length_cons,Nat.succ_mul];omega
theorem qR (a b:List (Idl × Int)):chV (a ++ b) = chV a ++ chV b:=by unfold chV;rw [List.map_append,List.flatten_append]
theorem J5 (l:List (Idl × Int)):∀ u ∈ chV l,u.oneCell' = true:=fun u hu => by
 obtain ⟨c,hc,huc⟩:=List.mem_flatten.1 hu
 obtain ⟨r,_,rfl⟩:=List.mem_map.1 hc
 exact qU r u huc
theorem JI:∃ zs:Array Value,(prog.info? 259).map (fun i => (i.zero,i.size,i.bytes)) = some (some (.agg zs),33,40) ∧ zs.size = 33:=⟨#[.int .u8 0,.int .u8 0,.int .u8 0,.int .u8 0,.int .u8 0,.int .u8 0,.int .u8 0,.int .u8 0,.int .u8 0,.int .u8 0,.int .u8 0,.int .u8 0,.int .u8 0,.int .u8 0,.int .u8 0,.int .u8 0,.int .u8 0,.int .u8 0,.int .u8 0,.int .u8 0,.int .u8 0,.int .u8 0,.int .u8 0,.int .u8 0,.int .u8 0,.int .u8 0,.int .u8 0,.int .u8 0,.int .u8 0,.int .u8 0,.int .u8 0,.int .u8 0] ++ #[.int .i64 0],by kernel_rfl,rfl⟩
theorem tu:(prog.info? 259).map (·.size) = some 33:=by kernel_rfl
theorem og:∃ zs:Array Value,(∀ w,(zeroValue 259).run prog w = .ok (.agg zs) w) ∧ zs.size = 33:=⟨#[.int .u8 0,.int .u8 0,.int .u8 0,.int .u8 0,.int .u8 0,.int .u8 0,.int .u8 0,.int .u8 0,.int .u8 0,.int .u8 0,.int .u8 0,.int .u8 0,.int .u8 0,.int .u8 0,.int .u8 0,.int .u8 0,.int .u8 0,.int .u8 0,.int .u8 0,.int .u8 0,.int .u8 0,.int .u8 0,.int .u8 0,.int .u8 0,.int .u8 0,.int .u8 0,.int .u8 0,.int .u8 0,.int .u8 0,.int .u8 0,.int .u8 0,.int .u8 0] ++ #[.int .i64 0],fun w => by kernel_rfl,rfl⟩
theorem dX {w:World} {ops:Array Oper} {rest:List Oper} {o:Oper} {a:Act} {Q:Exit → Act → World → Prop} (hgd:o.guard = none) (s x:Operand)
  (ho:o.op = .call { callee:=.builtin .append,args:=#[s,x],argTypes:=#[255,255] }) (base:Nat) (v:Value) (n:Nat) (xs:List Value) (hs:a.eval s = v) (hown:OwnQ w base 33 v n xs)
  (ao:Option Addr) (m c:Nat) (l:List (Idl × Int)) (hx:a.eval x = .slice ao m c) (hm:l.length = m) (h32:∀ r ∈ l,r.1.length = 32) (hnews:0 < m → ∃ ad,ao = some ad ∧ ∀ j u,(chV l)[j]? = some u → w.cell? (ad.add j) = some u) (hn:n + m ≤ 10000000) (hbase:base ≤ w.heap.size)
  (h:∀ v' w',OwnQ w' base 33 v' (n + m) (xs ++ chV l) → w.grownBy w' v.ownBlock → Fr w v v' → wpList prog ops Q rest (a.put o.dst v') w'):wpList prog ops Q (o :: rest) a w:=by
 obtain ⟨zs,hz,hzs⟩:=JI
 obtain ⟨i0,hi,hz0,hz1,hz2⟩:=info_parts hz
 exact eF hgd s x 255 ho base 259 i0 _ 33 40 underlying255 hi hz0 hz1 hz2 hzs (by decide) v n xs hs hown ao m c (chV l) hx (by rw [CY h32,hm]) hnews (J5 l) (by unfold maxLen;omega) (by omega) hbase h
theorem oh (x:Idl) (k:Int) (hx:x.length = 32) (w:World):(Instr.build 259 #[(0,.agg (idC x).toArray),(1,.int .i64 k)]).run prog w = .ok (.agg (chC (x,k)).toArray) w:=by
 rcases x with _ | ⟨a0,x⟩
 ·simp at hx
 rcases x with _ | ⟨a1,x⟩
 ·simp at hx
 rcases x with _ | ⟨a2,x⟩
 ·simp at hx
 rcases x with _ | ⟨a3,x⟩
 ·simp at hx
 rcases x with _ | ⟨a4,x⟩
 ·simp at hx
 rcases x with _ | ⟨a5,x⟩
 ·simp at hx
 rcases x with _ | ⟨a6,x⟩
 ·simp at hx
 rcases x with _ | ⟨a7,x⟩
 ·simp at hx
 rcases x with _ | ⟨a8,x⟩
 ·simp at hx
 rcases x with _ | ⟨a9,x⟩
 ·simp at hx
 rcases x with _ | ⟨a10,x⟩
 ·simp at hx
 rcases x with _ | ⟨a11,x⟩
 ·simp at hx
 rcases x with _ | ⟨a12,x⟩
 ·simp at hx
 rcases x with _ | ⟨a13,x⟩
 ·simp at hx
 rcases x with _ | ⟨a14,x⟩
 ·simp at hx
 rcases x with _ | ⟨a15,x⟩
 ·simp at hx
 rcases x with _ | ⟨a16,x⟩
 ·simp at hx
 rcases x with _ | ⟨a17,x⟩
 ·simp at hx
 rcases x with _ | ⟨a18,x⟩
 ·simp at hx
 rcases x with _ | ⟨a19,x⟩
 ·simp at hx
 rcases x with _ | ⟨a20,x⟩
 ·simp at hx
 rcases x with _ | ⟨a21,x⟩
 ·simp at hx
 rcases x with _ | ⟨a22,x⟩
 ·simp at hx
 rcases x with _ | ⟨a23,x⟩
 ·simp at hx
 rcases x with _ | ⟨a24,x⟩
 ·simp at hx
 rcases x with _ | ⟨a25,x⟩
 ·simp at hx
 rcases x with _ | ⟨a26,x⟩
 ·simp at hx
 rcases x with _ | ⟨a27,x⟩
 ·simp at hx
 rcases x with _ | ⟨a28,x⟩
 ·simp at hx
 rcases x with _ | ⟨a29,x⟩
 ·simp at hx
 rcases x with _ | ⟨a30,x⟩
 ·simp at hx
 rcases x with _ | ⟨a31,x⟩
 ·simp at hx
 cases x with
 | nil => exact run_build w 259 _ _ (by kernel_rfl)
 | cons a x => simp at hx
theorem FB (x:Idl) (hx:x.length = 32) (w:World):(Instr.build 259 #[(0,.agg (idC x).toArray)]).run prog w = .ok (.agg (chC (x,0)).toArray) w:=by
 rcases x with _ | ⟨a0,x⟩
 ·simp at hx
 rcases x with _ | ⟨a1,x⟩
 ·simp at hx
 rcases x with _ | ⟨a2,x⟩
 ·simp at hx
 rcases x with _ | ⟨a3,x⟩
 ·simp at hx
 rcases x with _ | ⟨a4,x⟩
 ·simp at hx
 rcases x with _ | ⟨a5,x⟩
 ·simp at hx
 rcases x with _ | ⟨a6,x⟩
 ·simp at hx
 rcases x with _ | ⟨a7,x⟩
 ·simp at hx
 rcases x with _ | ⟨a8,x⟩
 ·simp at hx
 rcases x with _ | ⟨a9,x⟩
 ·simp at hx
 rcases x with _ | ⟨a10,x⟩
 ·simp at hx
 rcases x with _ | ⟨a11,x⟩
 ·simp at hx
 rcases x with _ | ⟨a12,x⟩
 ·simp at hx
 rcases x with _ | ⟨a13,x⟩
 ·simp at hx
 rcases x with _ | ⟨a14,x⟩
 ·simp at hx
 rcases x with _ | ⟨a15,x⟩
 ·simp at hx
 rcases x with _ | ⟨a16,x⟩
 ·simp at hx
 rcases x with _ | ⟨a17,x⟩
 ·simp at hx
 rcases x with _ | ⟨a18,x⟩
 ·simp at hx
 rcases x with _ | ⟨a19,x⟩
 ·simp at hx
 rcases x with _ | ⟨a20,x⟩
 ·simp at hx
 rcases x with _ | ⟨a21,x⟩
 ·simp at hx
 rcases x with _ | ⟨a22,x⟩
 ·simp at hx
 rcases x with _ | ⟨a23,x⟩
 ·simp at hx
 rcases x with _ | ⟨a24,x⟩
 ·simp at hx
 rcases x with _ | ⟨a25,x⟩
 ·simp at hx
 rcases x with _ | ⟨a26,x⟩
 ·simp at hx
 rcases x with _ | ⟨a27,x⟩
 ·simp at hx
 rcases x with _ | ⟨a28,x⟩
 ·simp at hx
 rcases x with _ | ⟨a29,x⟩
 ·simp at hx
 rcases x with _ | ⟨a30,x⟩
 ·simp at hx
 rcases x with _ | ⟨a31,x⟩
 ·simp at hx
 cases x with
 | nil => exact run_build w 259 _ _ (by kernel_rfl)
 | cons a x => simp at hx
theorem iW {w:World} {ops:Array Oper} {rest:List Oper} {o2 o3:Oper} {a:Act} {Q:Exit → Act → World → Prop} (h2:o2.guard = none) (h3:o3.guard = none) (x s:Operand) (k2:Nat) (ho2:o2.op = .buildSlice 255 1 #[(0,x)]) (hd2:o2.dst = some k2)
  (ho3:o3.op = .call { callee:=.builtin .append,args:=#[s,.tmp k2],argTypes:=#[255,255] }) (hk2:k2 < a.tmps.size) (c:Idl × Int) (h32:c.1.length = 32) (hx:a.eval x = .agg (chC c).toArray)
  (base:Nat) (v:Value) (n:Nat) (l:List (Idl × Int)) (hs:∀ u,(a.put (some k2) u).eval s = v) (hown:OwnQ w base 33 v n (chV l)) (hn:n ≤ 1000000) (hbase:base ≤ w.heap.size)
  (h:∀ v' w' u,OwnQ w' base 33 v' (n + 1) (chV (l ++ [c])) → (∀ B,B ≤ w.heap.size → (∀ k,v.ownBlock = some k → B ≤ k) → Below B w w') → (∀ S:Nat → Prop,(∀ k,v.ownBlock = some k → S k) → Chg S w w') → (∀ k,v'.ownBlock = some k → v.ownBlock = some k ∨ w.heap.size ≤ k) → wpList prog ops Q rest ((a.put (some k2) u).put o3.dst v') w'):wpList prog ops Q (o2 :: o3 :: rest) a w:=by
 obtain ⟨zc,hzc,hzl⟩:=og
 have hcl:(chC c).length = 33:=iw h32
 refine av h2 x 255 259 ho2 (chC c) zc hx underlying255 (fun w => by rw [hcl];kernel_rfl) hzc (by omega) (by omega) ?_
 rw [hd2]
 have hW:=BoxL.new w 259 (chC c)
 have hbW:Below w.heap.size w (w.alloc (.cells (chC c).toArray 259)):=bal
 have hsW:(w.alloc (.cells (chC c).toArray 259)).heap.size = w.heap.size + 1:=by simp
 generalize w.alloc (.cells (chC c).toArray 259) = W at hW hbW hsW ⊢
 refine dX h3 s (.tmp k2) ho3 base v n (chV l) (hs _) (hown.below hbW) (some ⟨w.heap.size,0,none⟩) 1 1 [c] (by simp [Act.put,Act.eval,hk2]) rfl (fun r hr => by simp at hr;rw [hr];exact h32) (fun _ => ⟨_,rfl,fun j u hu => by
  rw [Addr.add_mid]
  have:chV [c] = chC c:=by simp [chV]
  rw [this] at hu
  exact hW.range j u hu⟩) (by omega) (by omega) ?_
 intro v' w' g1 g2 g3
 rw [← qR] at g1
 refine h v' w' _ g1 (fun B hB hv => (hbW.mono hB).trans ?_) (fun S hS => (Chg.of_below hbW).trans ?_) (fun k hk => ?_)
 ·exact (Below.refl B W).grown g2 (by omega) hv
 ·exact ⟨g2.os,g2.tape,g2.output,g2.size,fun k hk hn => g2.block k hk fun e => hn (hS k e.symm)⟩
 rcases g3 with e | h4
 ·exact .inl (by rw [← e];exact hk)
 exact .inr (by have:=h4 k hk;omega)
theorem OwnQ.blkR {w:World} {B sz n:Nat} {v:Value} {xs:List Value} (h:OwnQ w B sz v n xs):∀ g,v.ownBlock = some g → B ≤ g:=fun g e => by
 rcases h.2 with ⟨rfl,_⟩ | ⟨g1,off,cap,rfl,hb,_⟩
 ·cases e
 cases e;exact hb
theorem OwnQ.base {w:World} {B B' sz n:Nat} {v:Value} {xs:List Value} (h:OwnQ w B sz v n xs) (hB:B' ≤ B):OwnQ w B' sz v n xs:=by
 refine ⟨h.1,?_⟩
 rcases h.2 with h2 | ⟨g1,off,cap,e,hb,h3⟩
 ·exact .inl h2
 exact .inr ⟨g1,off,cap,e,Nat.le_trans hB hb,h3⟩
theorem fD.LU {w:World} {v:Value} {l:List Ent} (h:fD w v l):∃ ao cap,v = .slice ao l.length cap ∧ l.length ≤ maxLen ∧ (l ≠ [] → ∃ b off,ao = some ⟨b,off,none⟩ ∧ b < w.heap.size ∧ ∀ k (hk:k < l.length),w.rangeAt b (off + k * 34) (entC l[k])):=by
 obtain ⟨ao,cap,rfl,hm,h⟩:=h
 rw [List.length_map] at hm ⊢
 refine ⟨ao,cap,rfl,hm,fun hne => ?_⟩
 obtain ⟨b,off,e,hl,hc⟩:=h (by simpa using hne)
 refine ⟨b,off,e,hl,fun k hk => ?_⟩
 have:=hc k (by simpa using hk)
 rw [List.getElem_map] at this
 exact this
theorem Li:∃ zi:Array Value,(∀ w,(zeroValue 217).run prog w = .ok (.agg zi) w) ∧ zi.size = 34:=⟨#[.string ⟨#[]⟩,.int .i64 0,.int .u8 0,.int .u8 0,.int .u8 0,.int .u8 0,.int .u8 0,.int .u8 0,.int .u8 0,.int .u8 0,.int .u8 0,.int .u8 0,.int .u8 0,.int .u8 0,.int .u8 0,.int .u8 0,.int .u8 0,.int .u8 0,.int .u8 0,.int .u8 0,.int .u8 0,.int .u8 0,.int .u8 0,.int .u8 0,.int .u8 0,.int .u8 0,.int .u8 0,.int .u8 0,.int .u8 0,.int .u8 0,.int .u8 0,.int .u8 0,.int .u8 0,.int .u8 0],fun w => by kernel_rfl,rfl⟩
def Jg (k:Int) (w:World) (e:Ending) (w':World):Prop:=∃ v cs,e = .returned v ∧ OwnQ w' w.heap.size 33 v cs.length (chV cs) ∧ (∀ c ∈ cs,c.1.length = 32 ∧ 0 ≤ c.2 ∧ c.2 ≤ 3) ∧ cs.length ≤ 40 ∧ (k = 1 → cs = []) ∧ Below w.heap.size w w'
theorem wK {k:Int} {w w':World} (hb:Below w.heap.size w w'):Jg k w (.returned (.slice none 0 0)) w':=by
 refine ⟨_,[],rfl,iH _ _ _,?_,by simp,fun _ => rfl,hb⟩
 intro c hc
 cases hc
theorem uT (k:Int) (s:ByteArray) (w:World):Calls prog 224 #[.agg #[.int .i64 k,.string s]] w (Jg k w):=by
 obtain ⟨zi,hzi,hzl⟩:=tF
 have HR:=ah (fun w => vT k s w)
 have HB0:Hid (∀ o,Below w.heap.size w (w.alloc o)):=ah (fun o => bal)
 cases hr:aB ⟨k,s⟩ with
 | false =>
  have HRB:=ah hr
  clear hr
  go_enter func224,ntmps224
  go_wp2_with fail
  refine (HR.out _).mono ?_
  intro e w1 h
  obtain ⟨⟨p,rfl,_,_,_⟩,hb⟩:=h
  rw [HRB.out]
  have HB:=ah ((HB0.out _).trans (hb.mono (HB0.out _).size))
  clear hb
  go_wp2_with fail
  go_ret
  exact wK HB.out
 | true =>
  have HRB:=ah hr
  clear hr
  obtain ⟨W0,hW0⟩:∃ W,w.alloc (.cells #[.int .i64 k,.string s] 33) = W:=⟨_,rfl⟩
  have hx0:BoxL W0 w.heap.size 33 [.int .i64 k,.string s]:=by rw [← hW0];exact BoxL.new w 33 [.int .i64 k,.string s]
  have hb0:Below w.heap.size w W0:=by rw [← hW0];exact bal
  have c0:W0.cell? ⟨w.heap.size,0,none⟩ = some (.int .i64 k):=hx0.range 0 _ rfl
  have c1:W0.cell? ⟨w.heap.size,1,none⟩ = some (.string s):=hx0.range 1 _ rfl
  have HX0:=ah hx0
  have HBW:=ah hb0
  have HW0:=ah hW0
  have HK3:Hid (k = 1 ∨ k = 2 ∨ k = 3):=ah (by
   have h:=HRB.out
   unfold aB at h
   rw [Bool.and_eq_true] at h
   by_cases h1:k = 1
   ·exact .inl h1
   by_cases h2:k = 2
   ·exact .inr (.inl h2)
   by_cases h3:k = 3
   ·exact .inr (.inr h3)
   rw [if_neg h1,if_neg h2,if_neg h3] at h;exact absurd h.2 (by decide))
  clear hW0 hx0 hb0 HB0
  obtain ⟨zn,hzn,hznl⟩:=Li
  have HI32:=ah bO
  have h34:(prog.info? 217).map (·.size) = some 34:=by kernel_rfl
  go_enter func224,ntmps224
  go_upto_region 1 with fail
  rw [HW0.out]
  clear HW0
  go_wp2_with fail
  refine (HR.out W0).mono ?_
  intro e w1 h
  obtain ⟨⟨p,rfl,h2,h3,h1⟩,hb⟩:=h
  rw [HRB.out]
  have HB:=bth HBW hb
  have HX1:=ah (HX0.out.below hb)
  have d0:w1.cell? ⟨w.heap.size,0,none⟩ = some (.int .i64 k):=HX1.out.range 0 _ rfl
  have HRV:Hid (k ≠ 2 → ∃ b,p = .pointer (some ⟨b,0,none⟩) ∧ w1.cell? ⟨b,1,none⟩ = some (.slice none 0 0)):=ah (h1 HRB.out)
  have HR2:=ah (h2 HRB.out)
  have HR3:=ah (h3 HRB.out)
  clear h1 h2 h3 hb c0 c1
  obtain rfl | rfl | rfl:=HK3.out
  ·obtain ⟨b,rfl,e1⟩:=HRV.out (by decide)
   go_wp2_with fail
   refine wp_loop_rounds 1 ?_
   rw [rounds_succ]
   go_wp2_with fail
   go_ret
   exact wK HB.out
  ·obtain ⟨b,v,rfl,hbl,e1,hfr,hrow⟩:=HR2.out rfl
   obtain ⟨es,hes⟩:∃ es,(dz s).getD [] = es:=⟨_,rfl⟩
   rw [hes] at hrow
   have HES:Hid (es.length ≤ 32 ∧ ∀ e ∈ es,e.id.length = 32 ∧ (e.kind = 1 ∨ e.kind = 2)):=ah (by
    cases ht:dz s with
    | none => rw [ht] at hes;subst hes;exact ⟨by simp,fun e he => by cases he⟩
    | some es' =>
     rw [ht] at hes
     dsimp at hes
     subst hes
     exact ⟨(kC ht).1,fun e he => ⟨((kC ht).2 e he).1,((kC ht).2 e he).2.2⟩⟩)
   obtain ⟨ao,cap,rfl,hmx,hv⟩:=hrow.LU
   have HV:=ah hv
   have HLE:=HES.out.1
   clear hes hrow hv hfr
   go_wp2_with fail
   go_loopw [5,22] (fun s5 s22 wr => ∃ (j:Nat) (cs:List (Idl × Int)),j ≤ es.length ∧ cs.length = j ∧ s22 = .int .i64 j ∧ Hid (OwnQ wr w1.heap.size 33 s5 j (chV cs)) ∧ Hid (∀ c ∈ cs,c.1.length = 32 ∧ 0 ≤ c.2 ∧ c.2 ≤ 3) ∧ Hid (Below w1.heap.size w1 wr)) (fun _ s22 _ => (es.length - intOf s22).toNat)
   case atStart => exact ⟨0,[],by omega,rfl,rfl,ah (iH _ _ _),ah (fun c hc => by cases hc),ah (Below.refl _ _)⟩
   obtain ⟨wo,rfl⟩:∃ wo:World,wo = wr:=⟨_,rfl⟩
   obtain ⟨j,cs,hj,hcl,rfl,HQ,HC,HBL⟩:=hrel
   have hwo:w.heap.size ≤ wo.heap.size:=Nat.le_trans HB.out.size HBL.out.size
   by_cases hlt:j < es.length
   ·obtain ⟨b2,off,rfl,hbl2,hcell⟩:=HV.out (by intro e;rw [e] at hlt;simp at hlt)
    have f1:=aF (hcell j hlt) HBL.out hbl2
    obtain ⟨hid,hkd⟩:=HES.out.2 es[j] (List.getElem_mem hlt)
    clear hcell
    generalize es[j] = en at f1 hid hkd
    have hel:(entC en).length = 34:=by simp [entC,au,hid]
    have h34s:(prog.info? 217).map (·.size) = some (entC en).length:=by rw [hel];exact h34
    have h32s:(prog.info? 42).map (·.size) = some (idC en.id).length:=by rw [au,hid];exact HI32.out
    have HEO:Hid (∀ u ∈ entC en,u.oneCell' = true):=ah (by
     intro u hu
     unfold entC at hu
     rcases List.mem_append.1 hu with h | h
     ·simp at h;rcases h with rfl | rfl <;> rfl
     exact aM _ u h)
    have k0:(0:Int) ≤ j:=by omega
    have k1:(j:Int) < es.length:=by omega
    have d1:decide ((j:Int) < es.length) = true:=decide_eq_true k1
    have HF1:=ah f1
    have HEL:=ah hel
    have HID:=ah hid
    have HKD:=ah hkd
    clear f1 hid hkd
    go_upto_region 8 with (first | (refine wpList_load_mid rfl 217 _ rfl b2 (off + j * 34) rfl (entC en) _ HF1.out underlying217 rfl h34s ?_) | (refine aC rfl 217 _ _ rfl zn (entC en) rfl rfl 34 HEL.out hznl h34 HEO.out ?_;intro wn hxn hbn hsn))
    have HXN:=ah hxn
    have HBN:=ah hbn
    have n1:wn.cell? ⟨wo.heap.size,1,none⟩ = some (.int .i64 (en.kind:Int)):=hxn.range 1 _ rfl
    have HRN:Hid (wn.rangeAt wo.heap.size 2 (idC en.id)):=ah (fun i u hu => by
     have:=hxn.range (i + 2) u (by unfold entC;exact hu)
     rwa [show 0 + (i + 2) = 2 + i from by omega] at this)
    have HQN:=ah (HQ.out.below hbn)
    have hsz:wn.heap.size = wo.heap.size + 1:=hsn.out
    have HSZ:=ah hsz
    have hcb:=oh en.id (en.kind:Int) HID.out
    clear hxn hbn hsz
    clear hcb
    refine wp_region_lit ?_
    refine aO rfl u5 (by first | rfl | (go_simp;done) | (go_simp;rfl)) ?_
    simp only [Act.put,nz]
    refine aO rfl (.pointer (some ⟨wo.heap.size,2,none⟩)) (by first | rfl | (go_simp;done) | (go_simp;rfl)) ?_
    simp only [Act.put,nz]
    refine wpList_load_mid rfl 42 _ rfl wo.heap.size 2 rfl (idC en.id) _ HRN.out underlying42 rfl h32s ?_
    simp only [Act.put,nz]
    refine aO rfl (.pointer (some ⟨wo.heap.size,1,none⟩)) (by first | rfl | (go_simp;done) | (go_simp;rfl)) ?_
    simp only [Act.put,nz]
    refine aO rfl (.int .i64 (en.kind:Int)) (by first | rfl | (go_simp;done) | (go_simp;rfl)) ?_
    simp only [Act.put,nz]
    refine eu rfl 259 _ _ rfl _ _ (.agg (chC (en.id,(en.kind:Int))).toArray) rfl rfl (oh en.id (en.kind:Int) HID.out wn) ?_
    simp only [Act.put,nz]
    refine iW rfl rfl _ _ 32 rfl rfl rfl (by simp) (en.id,(en.kind:Int)) HID.out rfl w1.heap.size u5 j cs (fun _ => rfl) HQN.out (by omega) (by have:=HSZ.out;have:=HBL.out.size;omega) ?_
    intro v' w' u g1 g2 g3 g4
    simp only [Act.put,nz]
    have HG1:=ah g1
    have HBF:=ah (HBL.out.trans ((HBN.out.mono HBL.out.size).trans (g2 w1.heap.size (by have:=HSZ.out;have:=HBL.out.size;omega) HQ.out.blkR)))
    clear g1 g2 g3 g4
    go_wp2_with fail
    go_roundw
    case rel => exact ⟨j + 1,cs ++ [(en.id,(en.kind:Int))],by omega,by rw [List.length_append,hcl];rfl,by go_num,HG1,ah (fun c hc => by
     rcases List.mem_append.1 hc with h | h
     ·exact HC.out c h
     simp at h
     rw [h]
     have:=HKD.out
     exact ⟨HID.out,by show (0:Int) ≤ en.kind;omega,by show (en.kind:Int) ≤ 3;omega⟩),HBF⟩
    case measure => simp [intOf];omega
   have d1:decide ((j:Int) < es.length) = false:=decide_eq_false (by omega)
   have d0:wo.cell? ⟨w.heap.size,0,none⟩ = some (.int .i64 2):=(HX1.out.below HBL.out).range 0 _ rfl
   have HF:=ah (HB.out.trans (HBL.out.mono HB.out.size))
   have HQF:=ah (HQ.out.base HB.out.size)
   go_wp2_with fail
   go_ret
   exact ⟨_,cs,rfl,by rw [hcl];exact HQF.out,HC.out,by omega,fun h => absurd h (by decide),HF.out⟩
  obtain ⟨b,t,v,l,x,rfl,hbl,hcm,hrg,hfr,hids⟩:=HR3.out rfl
  obtain ⟨b',e2,e1⟩:=HRV.out (by decide)
  obtain rfl:b = b':=by
   injection e2 with e2
   injection e2 with e2
   injection e2
  obtain ⟨htl,hl32,hl4,_,_⟩:=xW hcm
  dsimp only at htl hl32 hl4
  obtain ⟨ao,cap,rfl,hmx,hv⟩:=hids.open
  have r34:w1.cell? ⟨b,34,none⟩ = some (.slice ao l.length cap):=hrg 32 _ (by unfold cmC;rw [List.getElem?_append_right (by rw [au,htl];omega),au,htl];rfl)
  have HRT:Hid (w1.rangeAt b 2 (idC t)):=ah (fun i u hu => hrg i u (by unfold cmC;rw [List.getElem?_append_left (List.getElem?_eq_some_iff.1 hu).1];exact hu))
  have h32t:(prog.info? 42).map (·.size) = some (idC t).length:=by rw [au,htl];exact HI32.out
  have HV:=ah hv
  have HTL:=ah htl
  have HL32:=ah hl32
  clear hv hids hrg hfr hcm htl hl32 e2
  go_wp2_with fail
  refine wp_loop_rounds 1 ?_
  rw [rounds_succ]
  go_upto_region 11 with fail
  refine wp_region_lit ?_
  refine aO rfl (.slice none 0 0) (by first | rfl | (go_simp;done) | (go_simp;rfl)) ?_
  simp only [Act.put,nz]
  refine aO rfl (.pointer (some ⟨b,0,none⟩)) (by first | rfl | (go_simp;done) | (go_simp;rfl)) ?_
  simp only [Act.put,nz]
  refine aO rfl (.pointer (some ⟨b,0,none⟩)) (by first | rfl | (go_simp;done) | (go_simp;rfl)) ?_
  simp only [Act.put,nz]
  refine aO rfl (.pointer (some ⟨b,2,none⟩)) (by first | rfl | (go_simp;done) | (go_simp;rfl)) ?_
  simp only [Act.put,nz]
  refine aO rfl (.pointer (some ⟨b,2,none⟩)) (by first | rfl | (go_simp;done) | (go_simp;rfl)) ?_
  simp only [Act.put,nz]
  refine wpList_load_mid rfl 42 _ rfl b 2 rfl (idC t) _ HRT.out underlying42 rfl h32t ?_
  simp only [Act.put,nz]
  refine eu rfl 259 _ _ rfl _ _ (.agg (chC (t,2)).toArray) rfl rfl (oh t 2 HTL.out w1) ?_
  simp only [Act.put,nz]
  refine iW rfl rfl _ _ 45 rfl rfl rfl (by simp) (t,2) HTL.out rfl w1.heap.size (.slice none 0 0) 0 [] (fun _ => rfl) (iH _ _ _) (by omega) (Nat.le_refl _) ?_
  intro v1 w2 u1 g1 g2 g3 g4
  simp only [Act.put,nz]
  have HG1:=ah g1
  have HB2:=ah (g2 w1.heap.size (Nat.le_refl _) (fun k hk => by cases hk))
  have r34b:w2.cell? ⟨b,34,none⟩ = some (.slice ao l.length cap):=(HB2.out.cell (p:=⟨b,34,none⟩) hbl).trans r34
  clear g1 g2 g3 g4 r34 d0 e1
  go_wp2_with fail
  go_loopw [5,53] (fun s5 s53 wr => ∃ (j:Nat) (cs:List (Idl × Int)),j ≤ l.length ∧ cs.length = j + 1 ∧ s53 = .int .i64 j ∧ Hid (OwnQ wr w1.heap.size 33 s5 (j + 1) (chV cs)) ∧ Hid (∀ c ∈ cs,c.1.length = 32 ∧ 0 ≤ c.2 ∧ c.2 ≤ 3) ∧ Hid (Below w1.heap.size w1 wr)) (fun _ s53 _ => (l.length - intOf s53).toNat)
  case atStart => exact ⟨0,[(t,2)],by omega,rfl,rfl,HG1,ah (fun c hc => by simp at hc;rw [hc];exact ⟨HTL.out,(by show (0:Int) ≤ 2;omega),(by show (2:Int) ≤ 3;omega)⟩),HB2⟩
  obtain ⟨wo,rfl⟩:∃ wo:World,wo = wr:=⟨_,rfl⟩
  obtain ⟨j,cs,hj,hcl,rfl,HQ,HC,HBL⟩:=hrel
  by_cases hlt:j < l.length
  ·obtain ⟨b2,off,rfl,hbl2,hcell⟩:=HV.out (by intro e;rw [e] at hlt;simp at hlt)
   have f1:=aF (hcell j hlt) HBL.out hbl2
   have hid:=HL32.out l[j] (List.getElem_mem hlt)
   clear hcell
   generalize l[j] = en at f1 hid
   have h32s:(prog.info? 42).map (·.size) = some (idC en).length:=by rw [au,hid];exact HI32.out
   have HEO:=ah (aM en)
   have k0:(0:Int) ≤ j:=by omega
   have k1:(j:Int) < l.length:=by omega
   have d1:decide ((j:Int) < l.length) = true:=decide_eq_true k1
   have HF1:=ah f1
   have HEL:Hid ((idC en).length = 32):=ah (by rw [au,hid])
   have HID:=ah hid
   clear f1 hid
   go_upto_region 15 with (first | (refine wpList_load_mid rfl 42 _ rfl b2 (off + j * 32) rfl (idC en) _ HF1.out underlying42 rfl h32s ?_) | (refine aC rfl 42 _ _ rfl zi (idC en) rfl rfl 32 HEL.out hzl HI32.out HEO.out ?_;intro wn hxn hbn hsn))
   have HBN:=ah hbn
   have HRN:=ah hxn.range
   have HQN:=ah (HQ.out.below hbn)
   have hsz:wn.heap.size = wo.heap.size + 1:=hsn.out
   have HSZ:=ah hsz
   clear hxn hbn hsz
   refine wp_region_lit ?_
   refine aO rfl u5 (by first | rfl | (go_simp;done) | (go_simp;rfl)) ?_
   simp only [Act.put,nz]
   refine wpList_load_mid rfl 42 _ rfl wo.heap.size 0 rfl (idC en) _ HRN.out underlying42 rfl h32s ?_
   simp only [Act.put,nz]
   refine eu rfl 259 _ _ rfl _ _ (.agg (chC (en,3)).toArray) rfl rfl (oh en 3 HID.out wn) ?_
   simp only [Act.put,nz]
   refine iW rfl rfl _ _ 60 rfl rfl rfl (by simp) (en,3) HID.out rfl w1.heap.size u5 (j + 1) cs (fun _ => rfl) HQN.out (by omega) (by have:=HSZ.out;have:=HBL.out.size;omega) ?_
   intro v' w' u g1 g2 g3 g4
   simp only [Act.put,nz]
   have HG1:=ah g1
   have HBF:=ah (HBL.out.trans ((HBN.out.mono HBL.out.size).trans (g2 w1.heap.size (by have:=HSZ.out;have:=HBL.out.size;omega) HQ.out.blkR)))
   clear g1 g2 g3 g4
   go_wp2_with fail
   go_roundw
   case rel => exact ⟨j + 1,cs ++ [(en,3)],by omega,by rw [List.length_append,hcl];rfl,by go_num,HG1,ah (fun c hc => by
    rcases List.mem_append.1 hc with h | h
    ·exact HC.out c h
    simp at h
    rw [h]
    exact ⟨HID.out,(by show (0:Int) ≤ 3;omega),(by show (3:Int) ≤ 3;omega)⟩),HBF⟩
   case measure => simp [intOf];omega
  have d1:decide ((j:Int) < l.length) = false:=decide_eq_false (by omega)
  have HF:=ah (HB.out.trans (HBL.out.mono HB.out.size))
  have HQF:=ah (HQ.out.base HB.out.size)
  go_wp2_with fail
  go_ret
  exact ⟨_,cs,rfl,by rw [hcl];exact HQF.out,HC.out,by omega,fun h => absurd h (by decide),HF.out⟩
def lkN:LK:=fun _ _ => none
theorem Ll {w w':World} {q:Int} {M:Nat} (h:NwSt w.heap.size 3 w w') (hb:BoxL w' (w.heap.size + 1) 77 [.map (some w.heap.size),.int .i64 q,.int .i64 0,.bool false,.bool false]) (h5:5 ≤ w.heap.size):DV (fun b => b < w.heap.size) 0 0 M w' (w.heap.size + 1) q lkN (fun _ => true):=by
 have hn0:dR 0 fun _:ByteArray => (none:Option Nat):=⟨[],List.nodup_nil,by simp,(by intro x hx;cases hx),by intro x;simp⟩
 refine ⟨⟨w.heap.size,fun k => w.heap.size + 4 + 3 * k,fun k => w.heap.size + 2 + 3 * k,fun k => w.heap.size + 3 + 3 * k,fun _ => .slice none 0 0⟩,⟨fun _ _ => none,fun _ _ => none,fun _ => (⟨#[]⟩,0)⟩,?_,fun k x hk => rfl,fun k hk _ => rfl⟩
 refine ⟨hb,?_,fun k hk => h.dirs k hk,fun k hk => ⟨0,[],World.ownsRow_nil _ _ _ _,Nat.le_refl _⟩,fun k j b hk hj e => (by cases e),fun k hk => ⟨(h.seen k hk).1,hn0⟩,fun k hk => ⟨(h.seen k hk).2,hn0⟩,fun k x b hk e => (by rcases e with e | e <;> cases e),fun k j x y b hk hj e => (by cases e),⟨?_,?_,fun k hk => ⟨?_,?_,?_⟩,fun k b hk e => (by cases e)⟩,fun k hk => ⟨?_,?_⟩,fun k j hk hj => ?_,fun k j hk hj e => ?_,fun k j hk hj e => ?_,fun k j hk hj e => ?_,fun b hb => ?_,fun b hb => ?_⟩
 ·refine Eq.mp (congrArg (MapT encP w' w.heap.size 3) (funext fun x => ?_)) h.map
  split
  ·rename_i j hj
   rw [hj,if_pos (dM hj).1]
   rfl
  rename_i hj
  rw [hj]
  rfl
 all_goals (try dsimp only at *)
 all_goals (try have hs:=h.size)
 all_goals omega
end
section
open Go.RowKit Go.Maps Go.Shelf
theorem ig {w:World} {b i:Nat} {v:Value} (h:w.cell? ⟨b,i,none⟩ = some v):w.setCell ⟨b,i,none⟩ v = w:=by
 have hh:(w.setCell ⟨b,i,none⟩ v).heap = w.heap:=by
  unfold World.setCell
  dsimp only
  refine Array.ext_getElem? fun j => ?_
  rw [Array.getElem?_modify]
  by_cases e:b = j
  ·subst e
   rw [if_pos rfl]
   unfold World.cell? at h
   dsimp only at h
   split at h
   ·rename_i cs el fr hh
    rw [hh]
    dsimp only [Option.map_some]
    have:cs.setIfInBounds i v = cs:=by
     refine Array.ext_getElem? fun k => ?_
     rw [Array.getElem?_setIfInBounds]
     by_cases e:i = k
     ·subst e
      rw [if_pos rfl]
      have h0:cs[i]? = some v:=h
      obtain ⟨hl,_⟩:=Array.getElem?_eq_some_iff.1 h0
      rw [if_pos hl]
      exact h0.symm
     rw [if_neg e]
    rw [show (if Option.isSome (none:Option _) = true then cs else cs.setIfInBounds i v) = cs.setIfInBounds i v from rfl,this]
   cases h
  rw [if_neg e]
 unfold World.setCell at hh ⊢
 dsimp only at hh
 rw [hh]
section
variable {O S:Nat → Prop} {N R M:Nat} {w w':World} {g:Nat} {q:Int} {p:Pl} {m:Dm}
theorem DS.crashed {k nb:Nat} (h:DS O N R M w g q p m) (hk:k < 3) (hc:Chg (fun b => b = p.dir k) w w') (hn:w.heap.size ≤ nb) (hm:MapT encP w' nb (N + R) (m.seen k)) (hd:DirB w' (p.dir k) nb (p.st k) (.slice none 0 0)) :
  DS O N R M w' g q { p with sn:=upN p.sn k nb,pd:=upN p.pd k (.slice none 0 0) } m:=by
 have hbox:∀ {b:Nat} {t:TypeId} {cs:List Value},BoxL w b t cs → t ≠ 83 → ¬ b = p.dir k:=fun hB hne hx => (BoxL.ne hB (h.dir k hk) hne) hx
 have hdm:∀ {α:Type} {enc:α → Value} {b n:Nat} {F:ByteArray → Option α},MapT enc w b n F → b ≠ p.dir k:=fun hM e => BoxL.fC (h.dir k hk) hM e.symm
 have hnO:¬ O nb:=fun ho => by have:=h.olt nb ho;omega
 have hup:∀ j,upN p.sn k nb j = if j = k then nb else p.sn j:=fun j => rfl
 refine ⟨h.box.chg hc (hbox h.box (by decide)),h.top.chg hc (hdm h.top),fun j hj => ?_,fun j hj => ?_,fun i j b hi hj e1 e2 => ?_,fun j hj => ?_,fun j hj => ⟨(h.sett j hj).1.chg hc (hdm (h.sett j hj).1),(h.sett j hj).2⟩,fun j x b hj hb => ?_,h.one,⟨h.off.1,h.off.2.1,fun j hj => ⟨(h.off.2.2.1 j hj).1,?_,(h.off.2.2.1 j hj).2.2⟩,fun j b hj hb => ?_⟩,fun j hj => ⟨?_,(h.mtop j hj).2⟩,fun i j hi hj => ?_,fun i j hi hj e => ?_,h.mtt,h.mdir,fun b hb => Nat.lt_of_lt_of_le (h.olt b hb) hc.size,h.glob⟩
 ·show DirB w' (p.dir j) (upN p.sn k nb j) (p.st j) (upN p.pd k (.slice none 0 0) j)
  by_cases e:j = k
  ·subst e;rw [aJ,aJ];exact hd
  rw [aD e,aD e]
  exact (h.dir j hj).chg hc (fun hx => e (h.mdir j k hj hk hx))
 ·show PdR w' (upN p.pd k (.slice none 0 0) j) R
  by_cases e:j = k
  ·rw [e,aJ];exact ⟨0,[],World.ownsRow_nil w' _ _ _,Nat.zero_le _⟩
  rw [aD e]
  obtain ⟨n,xs,q1,q2⟩:=h.pend j hj
  exact ⟨n,xs,iN q1 hc (fun b hb hx => gQ q1 (h.dir k hk) (by decide) (hx ▸ hb)),q2⟩
 ·have e1:(upN p.pd k (.slice none 0 0) i).ownBlock = some b:=e1
  have e2:(upN p.pd k (.slice none 0 0) j).ownBlock = some b:=e2
  by_cases a:i = k
  ·rw [a,aJ] at e1;cases e1
  by_cases c:j = k
  ·rw [c,aJ] at e2;cases e2
  rw [aD a] at e1
  rw [aD c] at e2
  exact h.pone i j b hi hj e1 e2
 ·show MapT encP w' (upN p.sn k nb j) (N + R) (m.seen j) ∧ dR N (m.seen j)
  by_cases e:j = k
  ·subst e;rw [aJ];exact ⟨hm,(h.seen j hj).2⟩
  rw [aD e]
  exact ⟨(h.seen j hj).1.chg hc (hdm (h.seen j hj).1),(h.seen j hj).2⟩
 ·obtain ⟨q1,q2,q3⟩:=h.file j x b hj hb
  exact ⟨q1.chg hc (hbox q1 (by decide)),q2,q3⟩
 ·show ¬ O (upN p.sn k nb j)
  rw [hup]
  split
  ·exact hnO
  exact (h.off.2.2.1 j hj).2.1
 ·have hb:(upN p.pd k (.slice none 0 0) j).ownBlock = some b:=hb
  by_cases e:j = k
  ·rw [e,aJ] at hb;cases hb
  rw [aD e] at hb;exact h.off.2.2.2 j b hj hb
 ·show p.top ≠ upN p.sn k nb j
  rw [hup]
  split
  ·have:=h.top.lt;omega
  exact (h.mtop j hj).1
 ·show upN p.sn k nb i ≠ p.st j
  rw [hup]
  split
  ·have:=(h.sett j hj).1.lt;omega
  exact h.mst i j hi hj
 have e:upN p.sn k nb i = upN p.sn k nb j:=e
 rw [hup,hup] at e
 have hli:=(h.seen i hi).1.lt
 have hlj:=(h.seen j hj).1.lt
 by_cases a:i = k
 ·by_cases c:j = k
  ·rw [a,c]
  rw [if_pos a,if_neg c] at e;omega
 by_cases c:j = k
 ·rw [if_neg a,if_pos c] at e;omega
 rw [if_neg a,if_neg c] at e
 exact h.msn i j hi hj e
end
theorem Ea (n:Int) (pb:Nat) (w:World) (c0:w.cell? ⟨pb,0,none⟩ = some (.slice none 0 0)):Calls prog 68 #[.int .i64 n,.pointer (some ⟨pb,0,none⟩)] w fun e w' => e = .returned (.int .i64 0) ∧ w' = w:=by
 go_enter func68,ntmps68
 go_wp2_with fail
 go_ret
 exact ⟨rfl,rfl⟩
theorem BR {α:Type} {enc:α → Value} (b n:Nat) (f:ByteArray → Option α) (w:World) (h:MapT enc w b n f):Calls prog 69 #[.map (some b)] w fun e w' => e = .returned (.map (some w.heap.size)) ∧ MapT enc w' w.heap.size n f ∧ Below w.heap.size w w':=by
 obtain ⟨D,hown,hs⟩:=h
 have hc:=AnyW.maps_Clone_owns Tryz.cloneD 9 cZ b n D w hown
 refine hc.mono ?_
 rintro e w' ⟨rfl,h1,_,h2⟩
 exact ⟨rfl,⟨D,h1,hs⟩,h2⟩
end
section
open Go.RowKit Go.Maps
section
variable {O:Nat → Prop} {N R M:Nat} {w:World} {g:Nat} {q:Int} {L:LK} {sy:Nat → Bool} {m:Dm}
def CrS (O:Nat → Prop) (N R M:Nat) (w:World) (g:Nat) (q:Int) (m:Dm) (wr:World):Prop:=∃ p,DS O N R M wr g q p m ∧ Kp O w wr
theorem BP (hv:DV O N R M w g q L sy) (hs:∀ k,k < 3 → sy k = true) (hst:∀ k x d,k < 3 → L k x = some d → d.2 = d.1.size) (hG:Glob w) (hN:N + R ≤ 900000) (hM:M ≤ 1000000000) :
  Calls prog 33 #[.pointer (some ⟨g,0,none⟩),.slice none 0 0] w fun e w' => e = .returned (.tuple #[]) ∧ DV O N R M w' g q L sy ∧ Kp O w w':=by
 have HNM:Hid (∀ k,k < 3 → ∃ l:List ByteArray,AscT l ∧ l.length ≤ N ∧ (∀ x ∈ l,aN x = true) ∧ ∀ x,x ∈ l ↔ (L.dk k x).isSome = true):=ah fun k hk => hv.names hk
 obtain ⟨p,m,h1,h2,h3⟩:=hv
 have HVI:Hid (∀ k x,k < 3 → L.dk k x = m.vis k x):=ah fun k x hk => by
  unfold LK.dk Dm.vis
  rw [h2 k x hk]
  cases m.seen k x <;> rfl
 obtain ⟨W,hW⟩:∃ W,w.alloc (.cells #[.slice none 0 0] 34) = W:=⟨_,rfl⟩
 have hbW:Below w.heap.size w W:=by rw [← hW];exact bal
 have hcW:W.cell? ⟨w.heap.size,0,none⟩ = some (.slice none 0 0):=by rw [← hW];exact (BoxL.new w 34 [.slice none 0 0]).range 0 _ rfl
 have hsW:W.heap.size = w.heap.size + 1:=by rw [← hW];simp
 obtain ⟨OO,hOO⟩:∃ OO,Ou O w W = OO:=⟨_,rfl⟩
 have HPO:Hid (OO w.heap.size):=ah (by rw [← hOO];exact .inr ⟨Nat.le_refl _,by omega⟩)
 have HOO:Hid (∀ b,O b → OO b):=ah (fun b hb => by rw [← hOO];exact .inl hb)
 have HO5:Hid (∀ b,b < 5 → O b):=ah h1.glob
 have HS0:Hid (CrS OO N R M W g q m W):=ah ⟨p,by rw [← hOO];exact h1.on hbW,Kp.refl _ _⟩
 have HSS:Hid (∀ k,k < 3 → m.sett k = m.seen k):=ah fun k hk => h3 k hk (hs k hk)
 have HFULL:Hid (∀ k x b,k < 3 → m.seen k x = some b → (m.dat b).2 = (m.dat b).1.size):=ah fun k x b hk hb => hst k x _ hk (by rw [h2 k x hk,hb];rfl)
 have HEND:Hid (∀ w',CrS OO N R M W g q m w' → DV O N R M w' g q L sy ∧ Kp O w w'):=ah (fun w' h => by
  obtain ⟨p',a1,a2⟩:=h
  exact ⟨⟨p',m,a1.sub HOO.out HO5.out,h2,h3⟩,(Kp.of hbW).trans (a2.sub fun b _ hb => HOO.out b hb)⟩)
 have HPC:Hid (∀ w',CrS OO N R M W g q m w' → w'.cell? ⟨w.heap.size,0,none⟩ = some (.slice none 0 0)):=ah (fun w' h => by
  obtain ⟨p',a1,a2⟩:=h
  have:=a2.block (b:=w.heap.size) (by omega) HPO.out
  unfold World.cell? at hcW ⊢
  dsimp only at hcW ⊢
  rw [this];exact hcW)
 have HGL:Hid (∀ w',CrS OO N R M W g q m w' → w'.rangeAt 0 0 [.string fM,.string jZ,.string sRef]):=ah (fun w' h => by
  obtain ⟨p',a1,a2⟩:=h
  exact ((hG.below hbW).kp a2 fun b hb => HOO.out b (HO5.out b hb)).ord)
 have HIX:Hid (∀ (k:Nat) (h:k < 3) (W:World),(Instr.index 78 (.agg #[.string fM,.string jZ,.string sRef]) (.int .i64 (k:Int))).run prog W = .ok (.string (dirN k)) W):=ah (fun k h W => by
  obtain rfl | rfl | rfl:k = 0 ∨ k = 1 ∨ k = 2:=by omega
  all_goals kernel_rfl)
 have h3i:(prog.info? 78).map (·.size) = some ([.string fM,.string jZ,.string sRef]:List Value).length:=by kernel_rfl
 have HPK:=ah (Ea)
 have HW:=ah hW
 obtain ⟨pb,hpb⟩:∃ pb,w.heap.size = pb:=⟨_,rfl⟩
 rw [hpb] at HPC HPO
 have HPB:=ah hpb
 have hro:=HGL.out W HS0.out
 clear hW hbW hcW hsW hOO h1 h2 h3 hs hst hG HPO HOO HO5
 go_enter func33,ntmps33
 go_upto_region 3 with fail
 rw [HW.out]
 clear HW HPB hpb
 go_wp2_with (refine wpList_load_mid rfl 78 _ rfl 0 0 rfl _ _ hro underlying78 rfl h3i ?_)
 clear hro
 go_loopw [6,7,9,19] (fun _ _ _ i wr => ∃ k:Nat,i = .int .i64 (k:Int) ∧ k ≤ 3 ∧ Hid (CrS OO N R M W g q m wr)) (fun _ _ _ i _ => (3 - intOf i).toNat)
 case atStart => exact ⟨0,rfl,by omega,HS0⟩
 obtain ⟨wo,rfl⟩:∃ wo:World,wo = wr:=⟨_,rfl⟩
 obtain ⟨k,rfl,hk,HS⟩:=hrel
 by_cases hlt:k < 3
 ·have i1:(k:Int) < 3:=by omega
  have hix:=HIX.out k hlt
  have wi:IntKind.i64.wrap ((k:Int) + 1) = (k:Int) + 1:=by rw [IntKind.wrap_i64];omega
  have HC0:=ah (HPC.out wo HS.out)
  obtain ⟨p,hd,hkp⟩:=HS.out
  have c0:wo.cell? ⟨g,0,none⟩ = some (.map (some p.top)):=BoxL.range hd.box 0 _ rfl
  have hlk:=hd.top.look underlying75 (mV wo) (x:=dirN k) nY
  rw [fF hlt] at hlk
  dsimp only [Option.map,Option.getD,encP] at hlk
  have HD:=ah hd
  have HKP:=ah hkp
  generalize hdn:dirN k = dn at hix hlk
  obtain ⟨db,hdb⟩:∃ db,p.dir k = db:=⟨_,rfl⟩
  have HDB:=ah hdb
  rw [hdb] at hlk
  obtain ⟨xn,xs,ho,hxr⟩:=hd.pend k hlt
  have hqf:=OwnQ.bZ ho
  have hpdf:∃ (ao:Option Addr) (nc cc:Nat),p.pd k = .slice ao nc cc ∧ nc ≤ 900000 ∧ nc ≤ cc ∧ cc ≤ maxLen:=by
   rcases hqf.2 with ⟨e1,e2⟩ | ⟨gb,off,cap,e1,_,_,e3,e4,_⟩
   ·exact ⟨none,0,0,e1,by omega,Nat.le_refl _,by unfold maxLen;omega⟩
   exact ⟨_,_,_,e1,by omega,e3,e4⟩
  obtain ⟨ao,nc,cc,hpd,hnc,hcc,hcm⟩:=hpdf
  have hbx:=hd.dir k hlt
  rw [hdb,hpd] at hbx
  obtain ⟨sn,hsn⟩:∃ sn,p.sn k = sn:=⟨_,rfl⟩
  obtain ⟨st,hst⟩:∃ st,p.st k = st:=⟨_,rfl⟩
  rw [hsn,hst] at hbx
  have HBX:=ah hbx
  have HST:=ah hst
  unfold maxLen at hcm
  have HSN:=ah hsn
  have hS0:wo.drew.cell? ⟨db,2,none⟩ = some (.slice ao nc cc) ∧ wo.drew.cell? ⟨pb,0,none⟩ = some (.slice none 0 0):=⟨BoxL.range hbx 2 _ rfl,HC0.out⟩
  clear hd hkp hdb ho hqf hpd hbx hsn hst hxr hdn
  go_upto_region 7 with fail
  refine pI 14 (fun x => x.cell? ⟨db,2,none⟩ = some (.slice ao nc cc) ∧ x.cell? ⟨pb,0,none⟩ = some (.slice none 0 0)) (by kernel_rfl) (by kernel_rfl) ?_
  refine WN.take (i:=0) (v:=?_) rfl (by kernel_rfl) (by decide) (by decide +kernel) (by decide +kernel) (fun _ _ _ h => h) rfl ?_ hS0 ?_
  rotate_left
  ·(intro w' hSw;(try dsimp only at hSw);go_simp;(try with_reducible rfl))
  simp only [Act.put,nz]
  refine WN.take (i:=1) (v:=?_) rfl (by kernel_rfl) (by decide) (by decide +kernel) (by decide +kernel) (fun _ _ _ h => h) rfl ?_ hS0 ?_
  rotate_left
  ·(intro w' hSw;(try dsimp only at hSw);go_simp;(try with_reducible rfl))
  simp only [Act.put,nz]
  refine WN.take (i:=2) (v:=?_) rfl (by kernel_rfl) (by decide) (by decide +kernel) (by decide +kernel) (fun _ _ _ h => h) rfl ?_ hS0 ?_
  rotate_left
  ·(intro w' hSw;(try dsimp only at hSw);go_simp;(try with_reducible rfl))
  simp only [Act.put,nz]
  refine WN.take (i:=3) (v:=?_) rfl (by kernel_rfl) (by decide) (by decide +kernel) (by decide +kernel) (fun _ _ _ h => h) rfl ?_ hS0 ?_
  rotate_left
  ·(intro w' hSw;(try dsimp only at hSw);go_simp;(try with_reducible rfl))
  simp only [Act.put,nz]
  refine WN.take (i:=4) (v:=?_) rfl (by kernel_rfl) (by decide) (by decide +kernel) (by decide +kernel) (fun _ _ _ h => h) rfl ?_ hS0 ?_
  rotate_left
  ·(intro w' hSw;(try dsimp only at hSw);go_simp;(try with_reducible rfl))
  simp only [Act.put,nz]
  refine WN.take (i:=5) (v:=?_) rfl (by kernel_rfl) (by decide) (by decide +kernel) (by decide +kernel) (fun _ _ _ h => h) rfl ?_ hS0 ?_
  rotate_left
  ·(intro w' hSw;(try dsimp only at hSw);go_simp;(try with_reducible rfl))
  simp only [Act.put,nz]
  refine WN.take (i:=6) (v:=?_) rfl (by kernel_rfl) (by decide) (by decide +kernel) (by decide +kernel) (fun _ _ _ h => h) rfl ?_ hS0 ?_
  rotate_left
  ·(intro w' hSw;(try dsimp only at hSw);go_simp;(try with_reducible rfl))
  simp only [Act.put,nz]
  refine WN.take (i:=7) (v:=?_) rfl (by kernel_rfl) (by decide) (by decide +kernel) (by decide +kernel) (fun _ _ _ h => h) rfl ?_ hS0 ?_
  rotate_left
  ·(intro w' hSw;(try dsimp only at hSw);go_simp;(try with_reducible rfl))
  simp only [Act.put,nz]
  refine WN.take (i:=8) (v:=?_) rfl (by kernel_rfl) (by decide) (by decide +kernel) (by decide +kernel) (fun _ _ _ h => h) rfl ?_ hS0 ?_
  rotate_left
  ·(intro w' hSw;(try dsimp only at hSw);go_simp;(try with_reducible rfl))
  simp only [Act.put,nz]
  refine WN.take (i:=9) (v:=?_) rfl (by kernel_rfl) (by decide) (by decide +kernel) (by decide +kernel) (fun _ _ _ h => h) rfl ?_ hS0 ?_
  rotate_left
  ·(intro w' hSw;(try dsimp only at hSw);go_simp;(try with_reducible rfl))
  simp only [Act.put,nz]
  refine WN.take (i:=13) (v:=?_) rfl (by kernel_rfl) (by decide) (by decide +kernel) (by decide +kernel) (fun _ _ _ h => h) rfl ?_ hS0 ?_
  rotate_left
  ·(intro w' hSw;(try dsimp only at hSw);go_simp;(try with_reducible rfl))
  simp only [Act.put,nz]
  refine WL.on 10 ?_
  go_wp2_with fail
  refine (HPK.out _ pb _ hS0.2).mono ?_
  rintro e w1 ⟨rfl,rfl⟩
  go_wp2_with fail
  refine ⟨hS0,?_⟩
  refine WN.take (i:=11) (v:=?_) rfl (by kernel_rfl) (by decide) (by decide +kernel) (by decide +kernel) (fun _ _ _ h => h) rfl ?_ hS0 ?_
  rotate_left
  ·(intro w' hSw;(try dsimp only at hSw);go_simp;(try with_reducible rfl))
  simp only [Act.put,nz]
  refine WN.take (i:=12) (v:=?_) rfl (by kernel_rfl) (by decide) (by decide +kernel) (by decide +kernel) (fun _ _ _ h => h) rfl ?_ hS0 ?_
  rotate_left
  ·(intro w' hSw;(try dsimp only at hSw);go_simp;(try with_reducible rfl))
  simp only [Act.put,nz]
  refine WN.done rfl (by decide +kernel) ?_
  clear hS0 HC0
  have HC1:=ah (HPC.out wo HS.out)
  have HCL:=ah (BR (enc:=encP) st (N + R) (m.sett k) wo.drew (HST.out ▸ (HD.out.sett k hlt).1))
  have hbd:BoxL wo.drew db 83 [.map (some sn),.map (some st),.slice ao nc cc]:=HBX.out
  have c1:wo.drew.cell? ⟨db,1,none⟩ = some (.map (some st)):=BoxL.range hbd 1 _ rfl
  clear hbd
  go_wp2_with fail
  refine wp_loop_rounds 1 ?_
  rw [rounds_succ]
  go_wp2_with fail
  refine HCL.out.mono ?_
  rintro e w2 ⟨rfl,hmc,hbc⟩
  have hbx2:BoxL w2 db 83 [.map (some sn),.map (some st),.slice ao nc cc]:=BoxL.below (show BoxL wo.drew db 83 [.map (some sn),.map (some st),.slice ao nc cc] from HBX.out) hbc
  obtain ⟨W3,hW3⟩:∃ W3,(w2.setCell ⟨db,0,none⟩ (.map (some wo.drew.heap.size))).setCell ⟨db,2,none⟩ (.slice none 0 0) = W3:=⟨_,rfl⟩
  have hc3:Chg (fun b => b = db) w2 W3:=by
   rw [← hW3]
   have ha:Chg (fun b => b = db) w2 (w2.setCell ⟨db,0,none⟩ (.map (some wo.drew.heap.size))):=⟨rfl,rfl,rfl,by simp [World.setCell],fun j _ hj => Below.heap_setCell _ _ _ _ hj⟩
   exact ha.trans ⟨rfl,rfl,rfl,by simp [World.setCell],fun j _ hj => Below.heap_setCell _ _ _ _ hj⟩
  have hbx3:BoxL W3 db 83 [.map (some wo.drew.heap.size),.map (some st),.slice none 0 0]:=by
   rw [← hW3]
   exact (hbx2.put 0 (.map (some wo.drew.heap.size))).put 2 (.slice none 0 0)
  have hdlt:db < wo.drew.heap.size:=BoxL.lt (show BoxL wo.drew db 83 [.map (some sn),.map (some st),.slice ao nc cc] from HBX.out)
  have hfin:CrS OO N R M W g q m W3:=by
   have hd:=HD.out.below (Below.refl wo.heap.size wo).drew
   have hcw:Chg (fun b => b = p.dir k) wo.drew W3:=by rw [HDB.out];exact Chg.trans (Chg.of_below hbc) hc3
   refine ⟨_,hd.crashed (nb:=wo.drew.heap.size) hlt hcw (Nat.le_refl _) ?_ ?_,HKP.out.trans ((Kp.of ((Below.refl wo.heap.size wo).drew)).trans (hcw.mono fun b _ e => e ▸ (hd.off.2.2.1 k hlt).1))⟩
   ·rw [← HSS.out k hlt];exact hmc.chg hc3 (by omega)
   rw [HDB.out,HST.out];exact hbx3
  have c02:w2.cell? ⟨db,0,none⟩ = some (.map (some sn)):=BoxL.range hbx2 0 _ rfl
  have th0:=hbx2.there 0 (by simp)
  have th2:=hbx2.there 2 (by simp)
  rw [Nat.zero_add] at th0 th2
  have f0:=th0.2
  have f2:=th2.2
  have c22:w2.cell? ⟨db,2,none⟩ = some (.slice ao nc cc):=BoxL.range hbx2 2 _ rfl
  have HW3:=ah hW3
  have HFIN:=ah hfin
  clear hmc hbc hbx2 hW3 hc3 hbx3 hdlt hfin th0 th2 HCL c1 hlk c0
  go_wp2_with fail
  try rw [show wo.heap.size = wo.drew.heap.size from rfl]
  rw [HW3.out]
  go_roundw
  case rel => exact ⟨k + 1,by go_num,by omega,HFIN.out⟩
  case measure => simp [intOf];omega
 obtain rfl:k = 3:=by omega
 have HSM:Hid (∀ b:Bool,b = false → (wo.setCell ⟨g,4,none⟩ (.bool b)).setCell ⟨g,3,none⟩ (.bool b) = wo):=ah fun b hb => by
  obtain ⟨p3,hd3,_⟩:=HS.out
  subst hb
  rw [ig (BoxL.range hd3.box 4 _ rfl),ig (BoxL.range hd3.box 3 _ rfl)]
 obtain ⟨p3,hd3,hkp3⟩:=HS.out
 have c4:wo.cell? ⟨g,4,none⟩ = some (.bool false):=BoxL.range hd3.box 4 _ rfl
 have c3:wo.cell? ⟨g,3,none⟩ = some (.bool false):=BoxL.range hd3.box 3 _ rfl
 have th3:=(BoxL.there hd3.box) 3 (by simp)
 have th4:=(BoxL.there hd3.box) 4 (by simp)
 rw [Nat.zero_add] at th3 th4
 have f3:=th3.2
 have f4:=th4.2
 have hro:=HGL.out wo HS.out
 clear hd3 hkp3 th3 th4
 go_upto_region 16 with fail
 rw [HSM.out false rfl]
 clear HSM c4 c3 f3 f4
 go_wp2_with (refine wpList_load_mid rfl 78 _ rfl 0 0 rfl _ _ hro underlying78 rfl h3i ?_)
 clear hro
 go_loopw [11,13,14,71] (fun _ _ _ i wr => ∃ k:Nat,i = .int .i64 (k:Int) ∧ k ≤ 3 ∧ Hid (CrS OO N R M W g q m wr)) (fun _ _ _ i _ => (3 - intOf i).toNat)
 case atStart => exact ⟨0,rfl,by omega,HS⟩
 obtain ⟨wp,rfl⟩:∃ wp:World,wp = wr:=⟨_,rfl⟩
 obtain ⟨k,rfl,hk,HS⟩:=hrel
 by_cases hlt:k < 3
 ·have i1:(k:Int) < 3:=by omega
  have hix:=HIX.out k hlt
  have wi:IntKind.i64.wrap ((k:Int) + 1) = (k:Int) + 1:=by rw [IntKind.wrap_i64];omega
  obtain ⟨p,hd,hkp⟩:=HS.out
  obtain ⟨l,la,ln,lf,lm⟩:=HNM.out k hlt
  have hdz:(dirN k).size ≤ 1000000:=by
   obtain rfl | rfl | rfl:k = 0 ∨ k = 1 ∨ k = 2:=by omega
   all_goals decide
  have HLI:=ah (pq g m.vis (dirN k) k l wp (hd.at (by omega)) hdz (fF hlt) la (fun y => by rw [lm y,HVI.out k y hlt]) (fun y hy => by have:=bU (lf y hy);omega))
  have HD:=ah hd
  have HKP:=ah hkp
  have HLF:=ah lf
  have HLM:Hid (∀ x,x ∈ l → ∃ b,m.seen k x = some b):=ah (fun x hx => by
   have:=(lm x).1 hx
   rw [HVI.out k x hlt] at this
   unfold Dm.vis at this
   cases hs:m.seen k x with
   | none => rw [hs] at this;cases this
   | some b => exact ⟨b,rfl⟩)
  have hln:l.length ≤ 900000:=by omega
  have hdnz:(dirN k).size ≤ maxLen:=nY
  have HDN:=ah (fF hlt)
  clear hdz
  generalize dirN k = dn at hix HLI hdnz HDN
  clear hd hkp la ln lf lm
  go_wp2_with fail
  refine HLI.out.mono ?_
  rintro e w1 ⟨v,rfl,hrow,hb1⟩
  obtain ⟨ao,cc,rfl,hmx,hcel⟩:=hrow
  have HCE:=ah hcel
  have HB1:=ah hb1
  clear hcel hb1 HLI
  go_wp2_with fail
  go_loopw [13,14,78] (fun _ _ i wr => ∃ j:Nat,i = .int .i64 (j:Int) ∧ j ≤ l.length ∧ Hid (Below w1.heap.size w1 wr)) (fun _ _ i _ => (l.length - intOf i).toNat)
  case atStart => exact ⟨0,rfl,by omega,ah (Below.refl _ _)⟩
  obtain ⟨wi,rfl⟩:∃ wi:World,wi = wr:=⟨_,rfl⟩
  obtain ⟨j,rfl,hj,HBI⟩:=hrel
  by_cases hjl:j < l.length
  ·obtain ⟨b2,off,rfl,hbl2,hcell⟩:=HCE.out (by intro e;rw [e] at hjl;simp at hjl)
   have f1:=hcell j hjl
   have f2:wi.cell? ⟨b2,off + j,none⟩ = some (.string l[j]):=by rw [HBI.out.cell (p:=⟨b2,off + j,none⟩) hbl2];exact f1
   obtain ⟨fb,hfb⟩:=HLM.out l[j] (List.getElem_mem hjl)
   have hfn:=HLF.out l[j] (List.getElem_mem hjl)
   have hbt:Below wp.heap.size wp wi:=HB1.out.trans (HBI.out.mono HB1.out.size)
   have hdi:=HD.out.below hbt
   have hfl:=(hdi.file k _ fb hlt (.inl hfb)).1
   have hsz:=(hdi.file k _ fb hlt (.inl hfb)).2.2.1
   have hfu:=HFULL.out k _ fb hlt hfb
   have cf0:wi.cell? ⟨fb,0,none⟩ = some (.string (m.dat fb).1):=BoxL.range hfl 0 _ rfl
   have cf1:wi.cell? ⟨fb,1,none⟩ = some (.int .i64 ((m.dat fb).1.size:Int)):=by rw [← hfu];exact BoxL.range hfl 1 _ rfl
   have cg:wi.cell? ⟨g,0,none⟩ = some (.map (some p.top)):=BoxL.range hdi.box 0 _ rfl
   have cd:wi.cell? ⟨p.dir k,0,none⟩ = some (.map (some (p.sn k))):=BoxL.range (hdi.dir k hlt) 0 _ rfl
   have hl1:=hdi.top.look underlying75 (mV wi) (x:=dn) hdnz
   rw [HDN.out] at hl1
   dsimp only [Option.map,Option.getD,encP] at hl1
   have hl2:=(hdi.seen k hlt).1.look underlying80 (fE wi) (x:=l[j]) (by have:=bU hfn;unfold maxLen;omega)
   rw [hfb] at hl2
   dsimp only [Option.map,Option.getD,encP] at hl2
   have th0:=(BoxL.there hfl) 0 (by simp [fiC])
   have th1:=(BoxL.there hfl) 1 (by simp [fiC])
   rw [Nat.zero_add] at th0 th1
   have fz0:=th0.2
   have fz1:=th1.2
   have hpc:=HPC.out wi ⟨p,hdi,HKP.out.trans (Kp.of hbt)⟩
   have wj:IntKind.i64.wrap ((j:Int) + 1) = (j:Int) + 1:=by rw [IntKind.wrap_i64];omega
   have j1:(j:Int) < l.length:=by omega
   have j0:(0:Int) ≤ j:=by omega
   obtain ⟨sb,hsb⟩:∃ sb,(m.dat fb).1 = sb:=⟨_,rfl⟩
   rw [hsb] at cf0 cf1 hsz
   have ws0:IntKind.i64.wrap ((sb.size:Int) - sb.size) = 0:=by rw [Int.sub_self];rfl
   have ws1:IntKind.i64.wrap (sb.size:Int) = sb.size:=by rw [IntKind.wrap_i64];omega
   have ws2:(0:Int) ≤ sb.size:=by omega
   have hsi:(sb.size:Int) ≤ 9223372036854775807:=by omega
   generalize l[j] = nm at f2 hl2
   clear f1 hcell hfn hfu hfl hdi th0 th1 hsb hfb
   have hS0:wi.drew.cell? ⟨fb,0,none⟩ = some (.string sb) ∧ wi.drew.cell? ⟨fb,1,none⟩ = some (.int .i64 (sb.size:Int)) ∧ wi.drew.cell? ⟨pb,0,none⟩ = some (.slice none 0 0):=⟨cf0,cf1,hpc⟩
   go_upto_region 23 with fail
   refine wrL 25 (fun x => x.cell? ⟨fb,0,none⟩ = some (.string sb) ∧ x.cell? ⟨fb,1,none⟩ = some (.int .i64 (sb.size:Int)) ∧ x.cell? ⟨pb,0,none⟩ = some (.slice none 0 0)) ?_
   refine WL.tk 0 hS0 ?_
   refine WL.tk 1 hS0 ?_
   refine WL.tk 2 hS0 ?_
   refine WL.tk 3 hS0 ?_
   refine WL.tk 4 hS0 ?_
   refine WL.tk 5 hS0 ?_
   refine WL.tk 6 hS0 ?_
   refine WL.tk 7 hS0 ?_
   refine WL.tk 8 hS0 ?_
   refine WL.tk 9 hS0 ?_
   refine WL.tk 10 hS0 ?_
   refine WL.tk 11 hS0 ?_
   refine WL.tk 12 hS0 ?_
   refine WL.tk 13 hS0 ?_
   refine WL.tk 14 hS0 ?_
   refine WL.tk 15 hS0 ?_
   refine WL.tk 16 hS0 ?_
   refine WL.tk 17 hS0 ?_
   refine WL.tk 18 hS0 ?_
   refine WL.tk 19 hS0 ?_
   refine WL.on 20 ?_
   go_wp2_with fail
   refine (HPK.out _ pb _ hS0.2.2).mono ?_
   rintro e w3 ⟨rfl,rfl⟩
   go_wp2_with fail
   refine ⟨hS0,?_⟩
   refine WL.tk 21 hS0 ?_
   refine WL.tk 22 hS0 ?_
   refine WL.tk 23 hS0 ?_
   refine WL.tk 24 hS0 ?_
   refine WL.la 25 ?_
   have HSE:Hid (wi.setCell ⟨fb,0,none⟩ (.string sb) = wi):=ah (ig cf0)
   have HSF:Hid (wi.setCell ⟨fb,1,none⟩ (.int .i64 (sb.size:Int)) = wi):=ah (ig cf1)
   have HBE:Hid (Below w1.heap.size w1 wi.drew):=ah HBI.out.drew
   clear hS0 cg cd hl1 hl2 f2 hpc
   go_wp2_with fail
   go_roundw
   case rel => exact ⟨j + 1,by go_num,by omega,by rw [HSE.out,HSF.out];exact HBE.out⟩
   case measure => simp [intOf];omega
  obtain rfl:j = l.length:=by omega
  obtain ⟨p3,hd3,hkp3⟩:=HS.out
  have HFIN:Hid (CrS OO N R M W g q m wi):=ah ⟨p3,hd3.below (HB1.out.trans (HBI.out.mono HB1.out.size)),hkp3.trans (Kp.of (HB1.out.trans (HBI.out.mono HB1.out.size)))⟩
  clear hd3 hkp3
  go_wp2_with fail
  go_roundw
  case rel => exact ⟨k + 1,by go_num,by omega,HFIN.out⟩
  case measure => simp [intOf];omega
 obtain rfl:k = 3:=by omega
 go_wp2_with fail
 go_end0
 exact ⟨rfl,HEND.out _ HS.out⟩
end
end
end Go.Proofs.YtlhcoanbhnphgaaGreatDoor
