/- A part of this claim. -/
import Derived.Test.YtlhcoanbhnphgaaGreatDoorWm13
import Derived.Test.YtlhcoanbhnphgaaGreatDoorWm17
namespace Go.Proofs.YtlhcoanbhnphgaaGreatDoor
open Tryz
set_option maxHeartbeats 64000000
set_option maxRecDepth 100000
section
open Go.RowKit
def encP (b:Nat):Value:=.pointer (some ⟨b,0,none⟩)
def mR (w:World) (b:Nat) (s:ByteArray):Prop:=b < w.heap.size ∧ w.cell? ⟨b,0,none⟩ = some (.string s)
theorem mR.below {w w':World} {b:Nat} {s:ByteArray} (h:mR w b s) (hb:Below w.heap.size w w'):mR w' b s:=⟨Nat.lt_of_lt_of_le h.1 hb.size,aA h.2 hb h.1⟩
def wO (w:World) (b:Nat) (dt:ByteArray → Option ByteArray):Prop:=∃ m n f,b < w.heap.size ∧ w.cell? ⟨b,0,none⟩ = some (.map (some m)) ∧ MapT encP w m n f ∧ n ≤ 1000000 ∧ ∀ x,x.size ≤ maxLen → (f x = none ∧ dt x = none) ∨ ∃ fb s,f x = some fb ∧ dt x = some s ∧ mR w fb s
theorem wO.below {w w':World} {b:Nat} {dt:ByteArray → Option ByteArray} (h:wO w b dt) (hb:Below w.heap.size w w'):wO w' b dt:=by
 obtain ⟨m,n,f,h1,h2,h3,hn,h4⟩:=h
 refine ⟨m,n,f,Nat.lt_of_lt_of_le h1 hb.size,aA h2 hb h1,h3.on hb,hn,fun x hx => ?_⟩
 rcases h4 x hx with h | ⟨fb,s,e1,e2,e3⟩
 ·exact .inl h
 exact .inr ⟨fb,s,e1,e2,e3.below hb⟩
def jg (w:World) (g:Nat) (d:Dk):Prop:=∃ m n f,g < w.heap.size ∧ w.cell? ⟨g,0,none⟩ = some (.map (some m)) ∧ w.cell? ⟨g,4,none⟩ = some (.bool false) ∧ MapT encP w m n f ∧ ∀ x,x.size ≤ maxLen → (f x = none ∧ bI x = none) ∨ ∃ b k,f x = some b ∧ bI x = some k ∧ wO w b (d k)
theorem jg.below {w w':World} {g:Nat} {d:Dk} (h:jg w g d) (hb:Below w.heap.size w w'):jg w' g d:=by
 obtain ⟨m,n,f,h1,h2,h3,h4,h5⟩:=h
 refine ⟨m,n,f,Nat.lt_of_lt_of_le h1 hb.size,aA h2 hb h1,aA h3 hb h1,h4.on hb,fun x hx => ?_⟩
 rcases h5 x hx with h | ⟨b,k,e1,e2,e3⟩
 ·exact .inl h
 exact .inr ⟨b,k,e1,e2,e3.below hb⟩
theorem tN (x:ByteArray) (w:World) (hx:x.size ≤ 1000000000):Calls prog 186 #[.string x] w fun e w' => e = .returned (.bool (!aN x)) ∧ Below w.heap.size w w':=by
 have HN:=ah (Fh x w hx)
 generalize aN x = b at HN ⊢
 go_enter func186,ntmps186
 go_wp2_with fail
 refine HN.out.mono ?_
 rintro e w1 ⟨rfl,hb1⟩
 go_wp2_with fail
 go_ret
 exact ⟨rfl,hb1⟩
theorem DK (w:World):Calls prog 231 #[.slice none 0 0,.func (.func 186) #[] #[]] w fun e w' => e = .returned (.int .i64 (-1)) ∧ Below w.heap.size w w':=by
 go_enter func231,ntmps231
 go_wp2_with fail
 refine wp_loop_rounds 1 ?_
 rw [rounds_succ]
 go_wp2_with fail
 go_ret
 exact ⟨rfl,Below.refl _ _⟩
theorem DJ (b:Nat) (x:ByteArray) (w:World) (hc:w.cell? ⟨b,0,none⟩ = some (.string x)) (hx:x.size ≤ 1000000000):Calls prog 231 #[.slice (some ⟨b,0,none⟩) 1 1,.func (.func 186) #[] #[]] w fun e w' => e = .returned (.int .i64 (if aN x = true then -1 else 0)) ∧ Below w.heap.size w w':=by
 have HF:=ah (tN x w hx)
 cases hf:aN x with
 | true =>
  rw [hf] at HF
  rw [if_pos rfl]
  clear hf
  go_enter func231,ntmps231
  go_wp2_with fail
  refine wp_loop_rounds 2 ?_
  rw [rounds_succ]
  go_wp2_with fail
  refine HF.out.mono ?_
  rintro e w1 ⟨rfl,hb1⟩
  go_wp2_with fail
  rw [rounds_succ]
  go_wp2_with fail
  go_ret
  exact ⟨rfl,hb1⟩
 | false =>
  rw [hf] at HF
  rw [if_neg (by decide)]
  clear hf
  go_enter func231,ntmps231
  go_wp2_with fail
  refine wp_loop_rounds 1 ?_
  rw [rounds_succ]
  go_wp2_with fail
  refine HF.out.mono ?_
  rintro e w1 ⟨rfl,hb1⟩
  go_wp2_with fail
  go_ret
  exact ⟨rfl,hb1⟩
theorem vK (w:World):Calls prog 185 #[.slice none 0 0,.func (.func 186) #[] #[]] w fun e w' => e = .returned (.bool false) ∧ Below w.heap.size w w':=by
 have HI:=ah (DK w)
 go_enter func185,ntmps185
 go_wp2_with fail
 refine HI.out.mono ?_
 rintro e w1 ⟨rfl,hb1⟩
 go_wp2_with fail
 go_ret
 exact ⟨rfl,hb1⟩
theorem lg (b:Nat) (x:ByteArray) (w:World) (hc:w.cell? ⟨b,0,none⟩ = some (.string x)) (hx:x.size ≤ 1000000000):Calls prog 185 #[.slice (some ⟨b,0,none⟩) 1 1,.func (.func 186) #[] #[]] w fun e w' => e = .returned (.bool (!aN x)) ∧ Below w.heap.size w w':=by
 have HI:=ah (DJ b x w hc hx)
 clear hc
 cases hf:aN x <;> rw [hf] at HI
 all_goals
  go_enter func185,ntmps185
  go_wp2_with fail
  refine HI.out.mono ?_
  rintro e w1 ⟨rfl,hb1⟩
  go_wp2_with fail
  go_ret
  exact ⟨rfl,hb1⟩
def uN (d:Dk) (x:ByteArray) (ok:Bool) (w:World) (e:Ending) (w':World):Prop :=
 (match (if ok = true then bI x else none) with
 | none => e = .returned (.tuple #[.pointer none,.int .i64 1])
 | some k => ∃ b,e = .returned (.tuple #[.pointer (some ⟨b,0,none⟩),.int .i64 0]) ∧ wO w' b (d k)) ∧ Below w.heap.size w w'
theorem wE {d:Dk} {x:ByteArray} {ok:Bool} {w w':World} (h:(if ok = true then bI x else none) = none) (hb:Below w.heap.size w w'):uN d x ok w (.returned (.tuple #[.pointer none,.int .i64 1])) w':=⟨by rw [h],hb⟩
theorem BH {d:Dk} {x:ByteArray} {k b:Nat} {ok:Bool} {w w':World} (h:(if ok = true then bI x else none) = some k) (hd:wO w' b (d k)) (hb:Below w.heap.size w w'):uN d x ok w (.returned (.tuple #[.pointer (some ⟨b,0,none⟩),.int .i64 0])) w':=⟨by rw [h];exact ⟨b,rfl,hd⟩,hb⟩
theorem mV (w:World):(zeroValue 79).run prog w = .ok (.pointer none) w:=by kernel_rfl
theorem fE (w:World):(zeroValue 116).run prog w = .ok (.pointer none) w:=by kernel_rfl
theorem wI (g:Nat) (d:Dk) (x:ByteArray) (a:Option Addr) (n c:Nat) (ok:Bool) (w:World) (h:jg w g d) (hx:x.size ≤ 1000000) (hc:Calls prog 185 #[.slice a n c,.func (.func 186) #[] #[]] w fun e w' => e = .returned (.bool (!ok)) ∧ Below w.heap.size w w') :
  Calls prog 118 #[.pointer (some ⟨g,0,none⟩),.string x,.slice a n c] w (uN d x ok w):=by
 have HC:=ah hc
 have HD:=ah h
 obtain ⟨m,nn,f,hg,c0,c4,hm,hf⟩:=h
 have hlk:=hm.look underlying75 (mV w) (x:=x) (by unfold maxLen;omega)
 rcases hf x (by unfold maxLen;omega) with ⟨e1,e2⟩ | ⟨b,k,e1,e2,e3⟩
 ·rw [e1] at hlk
  dsimp only [Option.map,Option.getD] at hlk
  have HNO:Hid ((if ok = true then bI x else none) = none):=ah (by rw [e2];split <;> rfl)
  clear e1 e2 hm hf hc HD
  go_enter func118,ntmps118
  go_wp2_with fail
  go_ret2
  exact wE HNO.out (Below.refl _ _)
 rw [e1] at hlk
 dsimp only [Option.map,Option.getD,encP] at hlk
 have HE3:=ah e3
 cases ok with
 | true =>
  have HYE:Hid ((if true = true then bI x else none) = some k):=ah (by rw [e2];rfl)
  have HD4:=ah (fun (w':World) (hb:Below w.heap.size w w') => aA c4 hb hg)
  clear e1 e2 hm hf hc HD e3 c4
  go_enter func118,ntmps118
  go_wp2_with fail
  refine HC.out.mono ?_
  rintro e w1 ⟨rfl,hb1⟩
  have c4:=HD4.out w1 hb1
  go_wp2_with fail
  go_ret2
  exact BH HYE.out (HE3.out.below hb1) hb1
 | false =>
  have HNO:Hid ((if false = true then bI x else none) = none):=ah rfl
  clear e1 e2 hm hf hc HD e3 c4
  go_enter func118,ntmps118
  go_wp2_with fail
  refine HC.out.mono ?_
  rintro e w1 ⟨rfl,hb1⟩
  go_wp2_with fail
  go_ret2
  exact wE HNO.out hb1
def rdD (d:Dk) (x nm:ByteArray):ByteArray × Nat:=match (if aN nm = true then bI x else none) with
 | none => (⟨#[]⟩,1)
 | some k => match d k nm with
  | none => (⟨#[]⟩,6)
  | some s => (s,0)
def Ch (d:Dk) (x nm:ByteArray) (w:World) (e:Ending) (w':World):Prop:=e = .returned (.tuple #[.string (rdD d x nm).1,.int .i64 ((rdD d x nm).2:Int)]) ∧ Below w.heap.size w w'
theorem oZ {d:Dk} {x nm s:ByteArray} {k:Nat} {w w':World} (h:rdD d x nm = (s,k)) (hb:Below w.heap.size w w'):Ch d x nm w (.returned (.tuple #[.string s,.int .i64 (k:Int)])) w':=⟨by rw [h],hb⟩
theorem qh (g:Nat) (d:Dk) (x nm:ByteArray) (w:World) (h:jg w g d) (hx:x.size ≤ 1000000) (hn:nm.size ≤ 1000000):Calls prog 71 #[.pointer (some ⟨g,0,none⟩),.string x,.string nm] w (Ch d x nm w):=by
 obtain ⟨W,hW⟩:∃ W,w.alloc (.cells #[.string nm] 9) = W:=⟨_,rfl⟩
 have hbW:Below w.heap.size w W:=by rw [← hW];exact bal
 have hcW:W.cell? ⟨w.heap.size,0,none⟩ = some (.string nm):=by rw [← hW,World.cell?_alloc_new];rfl
 have HB:=ah hbW
 have HW:=ah hW
 have HF:=ah (wI g d x (some ⟨w.heap.size,0,none⟩) 1 1 (aN nm) W (h.below hbW) hx (lg w.heap.size nm W hcW (by omega)))
 unfold uN at HF
 clear hW hbW hcW h
 cases ht:(if aN nm = true then bI x else none) with
 | none =>
  have HR:Hid (rdD d x nm = (⟨#[]⟩,1)):=ah (by unfold rdD;rw [ht])
  rw [ht] at HF
  dsimp only at HF
  clear ht
  go_enter func71,ntmps71
  go_wp2_with fail
  rw [HW.out]
  refine HF.out.mono ?_
  rintro e w1 ⟨rfl,hb1⟩
  have HB1:=bth HB hb1
  clear hb1
  go_wp2_with fail
  go_ret2
  exact oZ HR.out HB1.out
 | some k =>
  rw [ht] at HF
  dsimp only at HF
  go_enter func71,ntmps71
  go_wp2_with fail
  rw [HW.out]
  refine HF.out.mono ?_
  rintro e w1 ⟨⟨b,rfl,hd⟩,hb1⟩
  have HB1:=bth HB hb1
  obtain ⟨m,n,f,hbl,c0,hm,_,hf⟩:=hd
  have hlk:=hm.look underlying80 (fE w1) (x:=nm) (by unfold maxLen;omega)
  rcases hf nm (by unfold maxLen;omega) with ⟨e1,e2⟩ | ⟨fb,s,e1,e2,e3⟩
  ·rw [e1] at hlk
   dsimp only [Option.map,Option.getD] at hlk
   have HR:Hid (rdD d x nm = (⟨#[]⟩,6)):=ah (by unfold rdD;rw [ht];dsimp only;rw [e2])
   clear ht e1 e2 hm hf hb1
   go_wp2_with fail
   go_ret2
   exact oZ HR.out HB1.out
  rw [e1] at hlk
  dsimp only [Option.map,Option.getD,encP] at hlk
  have HR:Hid (rdD d x nm = (s,0)):=ah (by unfold rdD;rw [ht];dsimp only;rw [e2])
  have cf:=e3.2
  clear ht e1 e2 hm hf hb1 e3
  go_wp2_with fail
  go_ret2
  exact oZ HR.out HB1.out
end
end Go.Proofs.YtlhcoanbhnphgaaGreatDoor
