/- YtmhjpmenngjmeaaGreatDoorR40: texts Z6 of this claim, in one. -/
import Derived.Test.YtmhjpmenngjmeaaGreatDoorR11
import Derived.Test.YtmhjpmenngjmeaaGreatDoorR12
import Derived.Test.YtmhjpmenngjmeaaGreatDoorR27
import Derived.Test.YtmhjpmenngjmeaaGreatDoorR30
namespace Go.Proofs.YtmhjpmenngjmeaaGreatDoor
open Go.RowKit
theorem pwalk_all (wb ob lb mb nm base:Nat) (f:List UInt8 → Option Ob) (hf:∀ x o,f x = some o → rightOb o = true) (hB:WB wb ob lb mb base):∀ d,d ≤ 8 → WalkC wb ob lb mb nm base f (8 - d) (walkF f d)
 | 0,_ => by
  have:=pwalk_step wb ob lb mb nm base f hf hB 8 (Nat.le_refl _) (fun _ _ _ _ => .inl 4) (fun h => absurd h (by omega))
  exact this
 | d + 1,h => by
  have:=pwalk_step wb ob lb mb nm base f hf hB (8 - (d + 1)) (by omega) (walkF f d) (fun _ => by
   rw [show 8 - (d + 1) + 1 = 8 - d from by omega]
   exact pwalk_all wb ob lb mb nm base f hf hB d (by omega))
  rw [show decide (8 - (d + 1) = 8) = false from decide_eq_false (by omega)] at this
  exact this
def PFAns (f:List UInt8 → Option Ob) (x:List UInt8) (w:World) (e:Ending) (w':World):Prop :=
 ∃ v,e = .returned (.tuple #[v,.int .i64 (errOf (filesF f x))]) ∧ (∀ y,filesF f x = .inr y → LeafRow w' v y ∧ y.length ≤ 300) ∧ (∀ c,filesF f x = .inl c → v = .slice none 0 0 ∧ 0 < c ∧ c < 100) ∧ Below w.heap.size w w'
theorem pfAns_err {f:List UInt8 → Option Ob} {x:List UInt8} {w w':World} {c:Nat} (h:filesF f x = .inl c) (h0:0 < c) (h1:c < 100) (hb:Below w.heap.size w w'):PFAns f x w (.returned (.tuple #[.slice none 0 0,.int .i64 (c:Int)])) w' :=
 ⟨_,by rw [h];rfl,(fun y hy => by rw [h] at hy;cases hy),(fun c' hc => by rw [h] at hc;cases hc;exact ⟨rfl,h0,h1⟩),hb⟩
theorem pfAns_ok {f:List UInt8 → Option Ob} {x:List UInt8} {w w':World} {y:Lfs} {v:Value} (h:filesF f x = .inr y) (hr:LeafRow w' v y) (hl:y.length ≤ 300) (hb:Below w.heap.size w w'):PFAns f x w (.returned (.tuple #[v,.int .i64 0])) w' :=
 ⟨_,by rw [h];rfl,(fun y' hy => by rw [h] at hy;cases hy;exact ⟨hr,hl⟩),(fun c' hc => by rw [h] at hc;cases hc),hb⟩
set_option maxRecDepth 100000 in
set_option maxHeartbeats 4000000 in
theorem pfiles_any (v:Value) (f:List UInt8 → Option Ob) (hf:∀ x o,f x = some o → rightOb o = true) (x:List UInt8) (w:World) (hs:SrcP w v f) (hx:x.length = 32) :
  Calls Tryz.prog 10 #[v,.agg (idC x).toArray] w (PFAns f x w):=by
 obtain ⟨lb,mb,nm,rfl,hc,hm⟩:=hs
 have hlb:lb < w.heap.size:=World.block_lt_of_cell? w _ hc
 have hlm:=hm.lt
 have hB:WB (w.heap.size + 1 + 1) (w.heap.size + 1) lb mb (w.heap.size + 1 + 1 + 1):=⟨by omega,by omega,by omega,by omega,by omega,by omega,by omega,by omega,by omega⟩
 have hWC:=pwalk_all (w.heap.size + 1 + 1) (w.heap.size + 1) lb mb nm (w.heap.size + 1 + 1 + 1) f hf hB 8 (Nat.le_refl _)
 have h32x:=h32_of (us:=idC x) (by rw [idC_len,hx])
 obtain ⟨W,hW⟩:∃ W,W = ((w.alloc (.cells (idC x).toArray 27)).alloc (.cells #[.slice none 0 0] 22)).alloc (.cells #[.iface 72 (.pointer (some ⟨lb,0,none⟩)),.func (.func 22) #[] #[.pointer (some ⟨w.heap.size + 1,0,none⟩)],.int .i64 0] 70):=⟨_,rfl⟩
 have hbW:Below w.heap.size w W:=by rw [hW];exact (((Below.refl _ _).alloc (Nat.le_refl _) _).alloc (by simp) _).alloc (by simp;omega) _
 have hsW:W.heap.size = w.heap.size + 1 + 1 + 1:=by rw [hW];simp
 have hrW:W.rangeAt w.heap.size 0 (idC x):=by
  rw [hW]
  exact rangeAt_below (range_new w (idC x) 27 rfl) (((Below.refl _ _).alloc (Nat.le_refl _) _).alloc (by simp) _) (by simp)
 have hWS:WS (w.heap.size + 1 + 1) (w.heap.size + 1) lb mb nm (w.heap.size + 1 + 1 + 1) f [] 0 (.slice none 0 0) W:=by
  refine ⟨?_,?_,World.ownsRow_nil _ _ _ _,below_load hc hbW hlb,hm.below hbW hlm,by omega⟩
  ·rw [hW]
   have:=Arr.ofList ((w.alloc (.cells (idC x).toArray 27)).alloc (.cells #[.slice none 0 0] 22)) [.iface 72 (.pointer (some ⟨lb,0,none⟩)),.func (.func 22) #[] #[.pointer (some ⟨w.heap.size + 1,0,none⟩)],.int .i64 0] 70
   rw [World.size_alloc,World.size_alloc] at this
   exact this.congr fun k hk => by
    obtain h | h | h:k = 0 ∨ k = 1 ∨ k = 2:=by simp at hk;omega
    all_goals subst h;rfl
  ·rw [hW]
   have:=(Arr.ofList (w.alloc (.cells (idC x).toArray 27)) [.slice none 0 0] 22).alloc (by simp) (.cells #[.iface 72 (.pointer (some ⟨lb,0,none⟩)),.func (.func 22) #[] #[.pointer (some ⟨w.heap.size + 1,0,none⟩)],.int .i64 0] 70)
   rw [World.size_alloc] at this
   exact this.congr fun k hk => by
    obtain h:k = 0:=by simp at hk;omega
    subst h;rfl
 have HC:=Lib.hid (hWC x ByteArray.empty (.slice none 0 0) [] 0 W hx (by simp) (by simp) (by omega) hWS)
 have HEQ:=Lib.hid (filesF_eq f x)
 have HBW:=Lib.hid hbW
 have HSW:=Lib.hid hsW
 clear hB hWC hbW hsW hWS hx hf hm
 generalize idC x = ux at h32x HC hW hrW
 have hrX:=hrW
 rw [hW] at hrX
 have HRX:=Lib.hid hrX
 have HWE:=Lib.hid hW
 clear hW hrW hrX
 go_enter Tryz.func10,Tryz.ntmps10
 go_wp2_with (refine wpList_load_mid rfl 27 _ rfl w.heap.size 0 rfl ux _ HRX.out Tryz.underlying27 rfl h32x ?_)
 rw [← HWE.out]
 clear HWE HRX hc
 refine HC.out.mono ?_
 intro e w1 h
 clear HC
 rcases HEQ.out with ⟨c,h1,h2⟩ | ⟨y,h1,h2⟩
 ·rw [h1] at h
  obtain ⟨rfl,hc1,hc2,v',hk⟩:=h
  have H2:=Lib.hid h2
  have HB1:=Lib.hid (HBW.out.trans (hk.bw w.heap.size (by omega) (by omega) (fun g hg => by cases hg) (by have:=HSW.out;omega)))
  have d5:((c:Int) != 0) = true:=by rw [bne_iff_ne];omega
  clear h1 h2 hk HEQ
  go_wp2
  go_ret2
  exact pfAns_err H2.out hc1 hc2 HB1.out
 ·rw [h1] at h
  obtain ⟨ly,ny⟩:=y
  obtain ⟨rfl,hy1,hy2,v',hs',hk⟩:=h
  have H2:=Lib.hid h2
  have HB1:=Lib.hid (HBW.out.trans (hk.bw w.heap.size (by omega) (by omega) (fun g hg => by cases hg) (by have:=HSW.out;omega)))
  have HROW:=Lib.hid (leafRow_own hs'.own)
  have c1:w1.cell? ⟨w.heap.size + 1,0,none⟩ = some v':=hs'.o.cell 0 (by omega)
  clear h1 h2 hk HEQ hs'
  go_wp2
  go_ret2
  exact pfAns_ok H2.out HROW.out hy1 HB1.out
end Go.Proofs.YtmhjpmenngjmeaaGreatDoor
