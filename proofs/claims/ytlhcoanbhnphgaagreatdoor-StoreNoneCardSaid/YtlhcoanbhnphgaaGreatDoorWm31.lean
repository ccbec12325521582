/- A part of this claim. -/
import Derived.Test.YtlhcoanbhnphgaaGreatDoorShelf9
import Derived.Test.YtlhcoanbhnphgaaGreatDoorWm26
import Derived.Test.YtlhcoanbhnphgaaGreatDoorWm27
import Derived.Test.YtlhcoanbhnphgaaGreatDoorWm30
namespace Go.Proofs.YtlhcoanbhnphgaaGreatDoor
open Tryz
set_option maxHeartbeats 64000000
set_option maxRecDepth 100000
set_option linter.all false
section
open Go.RowKit Go.Maps Go.Shelf
def bkN:ByteArray:=⟨#[98,111,111,107]⟩
theorem aS.chgN {S:Nat → Prop} {w w':World} {v:Value} {sz:Nat} {rows:List (List Value)} (h:aS w v sz rows) (hc:Chg S w w') (hne:rows ≠ [] → ∀ b,v.ownBlock = some b → ¬ S b):aS w' v sz rows:=by
 obtain ⟨ao,cap,rfl,hm,h2⟩:=h
 refine ⟨ao,cap,rfl,hm,fun hn => ?_⟩
 obtain ⟨b,off,rfl,hb,hcell⟩:=h2 hn
 refine ⟨b,off,rfl,Nat.lt_of_lt_of_le hb hc.size,fun i hi j u hu => ?_⟩
 rw [World.cell?_of_block (hc.block b hb (hne hn b rfl))]
 exact hcell i hi j u hu
theorem bK.chg {S:Nat → Prop} {w w':World} {v:Value} {l:List Rf} (h:bK w v l) (hc:Chg S w w') (hne:l ≠ [] → ∀ b,v.ownBlock = some b → ¬ S b):bK w' v l:=aS.chgN h hc fun hn => hne fun e => hn (by rw [e];rfl)
theorem bK.olt {w:World} {v:Value} {l:List Rf} (h:bK w v l) (hl:l ≠ []) {k:Nat} (hk:v.ownBlock = some k):k < w.heap.size:=by
 obtain ⟨ao,cap,e,_,h2⟩:=h
 obtain ⟨b,off,e2,hb,_⟩:=h2 (by simpa using hl)
 rw [e,e2] at hk
 cases hk
 exact hb
theorem OpB.chg {S:Nat → Prop} {w w':World} {b:Nat} {d vt vl:Value} {t l:List Rf} {n:Nat} (h:OpB w b d vt vl t l n) (hc:Chg S w w') (hb:¬ S b) (ht:t ≠ [] → ∀ k,vt.ownBlock = some k → ¬ S k) (hl:l ≠ [] → ∀ k,vl.ownBlock = some k → ¬ S k):OpB w' b d vt vl t l n :=
 ⟨h.box.chg hc hb,⟨h.row.tab.chg hc ht,h.row.log.chg hc hl,h.row.capt,h.row.capl,h.row.ok⟩⟩
structure OpO (O:Nat → Prop) (w:World) (b g:Nat) (vt vl:Value) (t l:List Rf) (n:Nat):Prop where
 op:OpB w b (.pointer (some ⟨g,0,none⟩)) vt vl t l n
 ob:O b
 ot:t ≠ [] → ∀ k,vt.ownBlock = some k → O k ∧ k ≠ b
 ol:l ≠ [] → ∀ k,vl.ownBlock = some k → O k ∧ k ≠ b
theorem OpO.chg {O S:Nat → Prop} {w w':World} {b g:Nat} {vt vl:Value} {t l:List Rf} {n:Nat} (h:OpO O w b g vt vl t l n) (hc:Chg S w w') (hS:∀ k,S k → ¬ O k):OpO O w' b g vt vl t l n :=
 ⟨h.op.chg hc (fun h1 => hS _ h1 h.ob) (fun hn k hk h1 => hS _ h1 (h.ot hn k hk).1) (fun hn k hk h1 => hS _ h1 (h.ol hn k hk).1),h.ob,h.ot,h.ol⟩
theorem OpO.kp {O:Nat → Prop} {w w':World} {b g:Nat} {vt vl:Value} {t l:List Rf} {n:Nat} (h:OpO O w b g vt vl t l n) (hc:Kp O w w'):OpO O w' b g vt vl t l n:=h.chg hc fun _ h => h
theorem OpO.below {O:Nat → Prop} {w w':World} {b g:Nat} {vt vl:Value} {t l:List Rf} {n:Nat} (h:OpO O w b g vt vl t l n) (hb:Below w.heap.size w w'):OpO O w' b g vt vl t l n:=⟨h.op.below hb,h.ob,h.ot,h.ol⟩
theorem OpO.sub {O O':Nat → Prop} {w:World} {b g:Nat} {vt vl:Value} {t l:List Rf} {n:Nat} (h:OpO O w b g vt vl t l n) (hO:∀ b,O b → O' b):OpO O' w b g vt vl t l n:=⟨h.op,hO _ h.ob,fun hn k hk => ⟨hO _ (h.ot hn k hk).1,(h.ot hn k hk).2⟩,fun hn k hk => ⟨hO _ (h.ol hn k hk).1,(h.ol hn k hk).2⟩⟩
theorem pE {O:Nat → Prop} {N R M:Nat} {w:World} {g:Nat} {q:Int} {L:LK} {sy:Nat → Bool} {b:Nat} {vt vl:Value} {t l:List Rf} {n:Nat} {d:ByteArray × Nat} (hv:DV O N R M w g q L sy) (ho:OpO O w b g vt vl t l n) (hs:L 2 bkN = some d) :
  Calls prog 65 #[.pointer (some ⟨b,0,none⟩)] w fun e w' => e = .returned (.int .i64 0) ∧ DV O N R M w' g q (L.put 2 bkN (some (d.1,d.1.size))) sy ∧ OpO O w' b g vt vl t l l.length ∧ Chg (fun k => ¬ O k ∨ k = b) w w':=by
 have HS:=ah (oO hv (k:=2) (x:=bkN) (by omega) (by decide) hs)
 have HO:=ah ho
 have c0:w.cell? ⟨b,0,none⟩ = some (.pointer (some ⟨g,0,none⟩)):=ho.op.box.range 0 _ rfl
 have hdn:dirN 2 = ⟨#[114,101,102]⟩:=rfl
 rw [hdn] at HS
 unfold bkN at HS
 clear hv ho hs hdn
 go_enter func65,ntmps65
 go_wp2_with fail
 refine HS.out.mono ?_
 rintro e w1 ⟨rfl,hv1,hk1⟩
 have HO1:=ah (HO.out.kp hk1)
 obtain ⟨la,lc,e,_,_⟩:=HO1.out.op.row.log.open
 subst e
 have hr1:=HO1.out.op.box.range
 have c2:w1.cell? ⟨b,2,none⟩ = some (.slice la l.length lc):=hr1 2 _ rfl
 have f3:w1.cell? ⟨b,3,none⟩ = some (.int .i64 (n:Int)):=hr1 3 _ rfl
 have g3:w1.frozen? ⟨b,3,none⟩ = false:=by have:=(HO1.out.op.box.there 3 (by simp)).2;rwa [Nat.zero_add] at this
 obtain ⟨w2,hw2⟩:∃ z,w1.setCell ⟨b,3,none⟩ (.int .i64 (l.length:Int)) = z:=⟨_,rfl⟩
 have HW2:=ah hw2
 have HB2:Hid (BoxL w2 b 128 [.pointer (some ⟨g,0,none⟩),vt,.slice la l.length lc,.int .i64 (l.length:Int)]):=ah (by
  rw [← hw2]
  have hbx:w1.heap[b]? = some (.cells #[.pointer (some ⟨g,0,none⟩),vt,.slice la l.length lc,.int .i64 (n:Int)] 128 (0,0)):=HO1.out.op.box
  show (w1.heap.modify b _)[b]? = _
  rw [Array.getElem?_modify,if_pos rfl,hbx]
  rfl)
 have HC2:Hid (Chg (fun k => k = b) w1 w2):=ah (by
  rw [← hw2]
  exact ⟨rfl,rfl,rfl,by simp,fun k hk hn => Below.heap_setCell _ _ _ _ hn⟩)
 have HO2:Hid (OpO O w2 b g vt (.slice la l.length lc) t l l.length):=ah (by
  have h:=HO1.out
  exact ⟨⟨HB2.out,⟨h.op.row.tab.chg HC2.out (fun hn k hk => (h.ot hn k hk).2),h.op.row.log.chg HC2.out (fun hn k hk => (h.ol hn k hk).2),h.op.row.capt,h.op.row.capl,h.op.row.ok⟩⟩,h.ob,h.ot,h.ol⟩)
 have HV2:=ah (hv1.chg HC2.out (fun k hk => by rw [hk];exact HO1.out.ob))
 have HCH:Hid (Chg (fun k => ¬ O k ∨ k = b) w w2):=ah ((hk1.mono fun k _ h => .inl h).trans (HC2.out.mono fun k _ h => .inr h))
 clear hw2 hr1 hv1 hk1
 go_wp2_with fail
 go_ret
 rw [HW2.out]
 exact ⟨rfl,HV2.out,HO2.out,HCH.out⟩
theorem LK.Jv (L:LK) (k:Nat) (x:ByteArray) (a b:Option (ByteArray × Nat)):(L.put k x a).put k x b = L.put k x b:=by
 funext j y
 unfold LK.put
 split <;> rfl
theorem nT:aN bkN = true ∧ aN (tmpN bkN) = true:=by decide +kernel
def Ai (O:Nat → Prop) (N R M:Nat) (g:Nat) (q:Int) (L:LK) (sy:Nat → Bool) (l:List Rf) (w:World) (e:Ending) (w':World):Prop :=
 ∃ O' ob v,e = .returned (.tuple #[.pointer (some ⟨ob,0,none⟩),.int .i64 0]) ∧ DV O' N R M w' g q L sy ∧ OpO O' w' ob g (.slice none 0 0) v [] l l.length ∧ Kp O w w' ∧ (∀ b,O b → O' b) ∧ (∀ b,O' b → O b ∨ w.heap.size ≤ b) ∧ w.heap.size ≤ ob
theorem C9 {O:Nat → Prop} {N R M:Nat} {w w3 w4 w5:World} {g:Nat} {q:Int} {L:LK} {sy:Nat → Bool} {ob:Nat} {v:Value} {l:List Rf} (hv:DV O N R M w3 g q L sy) (hO:∀ b,O b → b < w.heap.size) (hs:w.heap.size ≤ w3.heap.size) (hb4:Below w3.heap.size w3 w4) (hr:BkFr w3 w4 (.slice none 0 0) v [] l)
  (he:w4.heap.size = ob) (hw5:w4.alloc (.cells #[.pointer (some ⟨g,0,none⟩),.slice none 0 0,v,.int .i64 0] 128) = w5) :
  ∃ O',DV O' N R M w5 g q L sy ∧ OpO O' w5 ob g (.slice none 0 0) v [] l 0 ∧ (∀ b,O b → O' b) ∧ (∀ b,O' b → O b ∨ w.heap.size ≤ b) ∧ ¬ O ob:=by
 have hb5:Below w4.heap.size w4 w5:=by rw [← hw5];exact bal
 have hs5:w5.heap.size = w4.heap.size + 1:=by rw [← hw5];simp
 have hbx:BoxL w5 ob 128 [.pointer (some ⟨g,0,none⟩),.slice none 0 0,v,.int .i64 0]:=by rw [← he,← hw5];exact BoxL.new w4 128 [.pointer (some ⟨g,0,none⟩),.slice none 0 0,v,.int .i64 0]
 have hs4:=hb4.size
 refine ⟨Ou (Ou O w3 w4) w4 w5,(hv.on hb4).on hb5,⟨⟨hbx,hr.1.below hb5⟩,.inr ⟨by omega,by omega⟩,fun hn => absurd rfl hn,fun hn k hk => ?_⟩,fun b hb => .inl (.inl hb),fun b hb => ?_,fun hob => ?_⟩
 ·have h1:=hr.1.log.olt hn hk
  have h2:=hr.2.2 k hk
  exact ⟨.inl (.inr ⟨h2,h1⟩),by omega⟩
 ·rcases hb with (hb | hb) | hb
  ·exact .inl hb
  ·exact .inr (by omega)
  exact .inr (by omega)
 have:=hO ob hob;omega
theorem open_row {w:World} {v:Value} {l:List Rf} (h:bK w v l):∃ a c,v = .slice a l.length c:=by
 obtain ⟨a,c,e,_,_⟩:=h
 exact ⟨a,c,by rw [e,List.length_map]⟩
theorem sJ (g:Nat) (v:Value) (w:World):(Instr.build 128 #[(0,.pointer (some ⟨g,0,none⟩)),(1,.agg #[.slice none 0 0,v])]).run prog w = .ok (.agg #[.pointer (some ⟨g,0,none⟩),.slice none 0 0,v,.int .i64 0]) w:=run_build w 128 _ _ (by kernel_rfl)
section
variable {O:Nat → Prop} {N R M:Nat} {w:World} {g:Nat} {q:Int} {L:LK} {sy:Nat → Bool}
theorem Lv (hv:DV O N R M w g q L sy) (hG:Glob w) (hN:N + R ≤ 900000) (hs:L 2 bkN = none) (ht:L 2 (tmpN bkN) = none) (hM:7 ≤ M) (hM2:M ≤ 1048576) (hq:3 * ((N + 1) * M) + 7 ≤ q) (hq2:q ≤ 1000000000) :
  Calls prog 35 #[.pointer (some ⟨g,0,none⟩)] w (Ai O (N + 1) (R + 2) M g q (L.put 2 bkN (some (bk0,bk0.size))) (upN sy 2 true) [] w):=by
 have hrd:=oP hv (k:=2) (x:=bkN) (by omega) (by omega) nT.1
 rw [hs] at hrd
 unfold Jd at hrd
 have HRD:=ah hrd
 have HBY:Hid (∀ W,Below w.heap.size w W → Calls prog 72 #[.agg #[.slice none 0 0,.slice none 0 0]] W fun e w' => e = .returned (.tuple #[.string bk0,.int .i64 0]) ∧ Below W.heap.size W w'):=ah fun W hb => by
  refine (uR _ _ [] [] W (kU W) (hG.below hb).crc (hG.below hb).laid.lt).mono ?_
  intro e w' h
  unfold Dj at h
  rw [ok_0] at h
  exact h
 have HWH:Hid (∀ W,Below w.heap.size w W → Calls prog 73 #[.pointer (some ⟨g,0,none⟩),.string ⟨#[114,101,102]⟩,.string ⟨#[98,111,111,107]⟩,.string bk0] W (Ah O (N + 1) (R + 2) M g q (L.put 2 bkN (some (bk0,bk0.size))) (upN sy 2 true) W)):=ah fun W hb =>
  AX (k:=2) (nm:=bkN) (data:=bk0) (hv.below hb) (by omega) hN nT.2 nT.1 ht (by rw [sz_0.1];exact hM) hM2 (by rw [sz_0.1];exact hq) hq2
 have HRE:Hid (∀ W,Glob W → Calls prog 74 #[.string bk0] W (mU (.slice none 0 0) bk0.size W)):=ah fun W hG => by
  have h:=K3 bk0 (rd0 ⟨#[0]⟩) W (by rw [sz_0.1];omega) hG.crc (by have:=hG.laid.lt;omega) un_0 wS.1 wS.2 (dO _ (by decide)) LH
  rw [sz_0.2] at h
  exact h
 have HG:=ah (fun W (hk:Kp O w W) => hG.kp hk hv.glob)
 have HE:=ah (fun (w3 w4 w5:World) (ob:Nat) (h1:DV O (N + 1) (R + 2) M w3 g q (L.put 2 bkN (some (bk0,bk0.size))) (upN sy 2 true)) h2 h3 h4 h5 => C9 (l:=[]) (ob:=ob) (w4:=w4) (w5:=w5) h1 hv.olt h2 h3 ⟨kU w4,fun _ h => (by cases h),fun _ h => (by cases h)⟩ h4 h5)
 have HSY:Hid (∀ (O':Nat → Prop) (W:World) (ob:Nat),DV O' (N + 1) (R + 2) M W g q (L.put 2 bkN (some (bk0,bk0.size))) (upN sy 2 true) → OpO O' W ob g (.slice none 0 0) (.slice none 0 0) [] [] 0 → Calls prog 65 #[.pointer (some ⟨ob,0,none⟩)] W fun e w' => e = .returned (.int .i64 0) ∧ DV O' (N + 1) (R + 2) M w' g q (L.put 2 bkN (some (bk0,bk0.size))) (upN sy 2 true) ∧ OpO O' w' ob g (.slice none 0 0) (.slice none 0 0) [] [] 0 ∧ Chg (fun k => ¬ O' k ∨ k = ob) W w'):=ah fun O' W ob h1 h2 => by
  refine (pE h1 h2 (LK.bF ..)).mono ?_
  rintro e w' ⟨rfl,h3,h4⟩
  rw [LK.Jv] at h3
  exact ⟨rfl,h3,h4⟩
 have hbz:bk0.size = 7:=sz_0.1
 have HSZ:=ah hbz
 have HOLT:=ah hv.olt
 have HOB:=ah (sJ g (.slice none 0 0))
 unfold mU at HRE
 rw [hbz] at HRE
 have hdn:dirN 2 = ⟨#[114,101,102]⟩:=rfl
 rw [hdn] at HRD
 unfold bkN at HRD
 obtain ⟨bz,hbz0⟩:∃ b,bk0 = b:=⟨_,rfl⟩
 rw [hbz0] at HBY HWH HRE hbz
 have HBZ:=ah hbz0
 clear hv hG hs ht hM hM2 hq hq2 hrd hdn hbz0
 go_enter func35,ntmps35
 go_wp2_with fail
 refine HRD.out.mono ?_
 rintro e w1 ⟨rfl,hb1⟩
 have HB1:=ah hb1
 clear hb1
 go_wp2_with fail
 refine (HBY.out w1 HB1.out).mono ?_
 rintro e w2 ⟨rfl,hb2⟩
 have HB2:=bth HB1 hb2
 clear hb2
 go_wp2_with fail
 refine (HWH.out w2 HB2.out).mono ?_
 rintro e w3 ⟨rfl,hv3,hk3⟩
 rw [← HBZ.out] at hv3
 have HV3:=ah hv3
 have HK3:=ah ((Kp.of HB2.out).trans hk3)
 clear hv3 hk3
 go_wp2_with fail
 refine (HRE.out w3 (HG.out w3 HK3.out)).mono ?_
 rintro e w4 ⟨rfl,hb4⟩
 have HB4:=ah hb4
 clear hb4
 go_wp2_with fail
 have hb4b:Below w3.heap.size w3 (w4.alloc (.cells #[.slice none 0 0,.slice none 0 0] 51)):=HB4.out.alloc HB4.out.size _
 obtain ⟨w5,hw5⟩:∃ z,(w4.alloc (.cells #[.slice none 0 0,.slice none 0 0] 51)).alloc (.cells #[.pointer (some ⟨g,0,none⟩),.slice none 0 0,.slice none 0 0,.int .i64 0] 128) = z:=⟨_,rfl⟩
 have hb5:Below w3.heap.size w3 w5:=by rw [← hw5];exact hb4b.alloc hb4b.size _
 obtain ⟨O',hd,ho,h1,h2,h3⟩:=HE.out w3 _ w5 (w4.heap.size + 1) HV3.out HK3.out.size hb4b (by simp) hw5
 have HK5:=ah (HK3.out.trans (Kp.of hb5))
 have HSC:=ah (HSY.out O' w5 _ hd ho)
 have HH:=ah (And.intro h1 (And.intro h2 h3))
 rw [hw5]
 clear hb4b hw5 hb5 hd ho h1 h2 h3 HE HSY
 refine HSC.out.mono ?_
 rintro e w6 ⟨rfl,hd6,ho6,hc6⟩
 have HFIN:Hid (Ai O (N + 1) (R + 2) M g q (L.put 2 bkN (some (bk0,bk0.size))) (upN sy 2 true) [] w (.returned (.tuple #[.pointer (some ⟨w4.heap.size + 1,0,none⟩),.int .i64 0])) w6):=ah ⟨O',w4.heap.size + 1,.slice none 0 0,rfl,hd6,ho6,HK5.out.trans (hc6.mono fun j _ hj hO => hj.elim (fun h => h (HH.out.1 j hO)) (fun h => HH.out.2.2 (h ▸ hO))),HH.out.1,HH.out.2.1,by have h1:=HK3.out.size;have h2:=HB4.out.size;omega⟩
 clear hd6 ho6 hc6
 go_wp2_with fail
 go_ret2
 exact HFIN.out
theorem Lu (hv:DV O N R M w g q L sy) (hN:N + R ≤ 900000) {s:ByteArray} {n:Nat} {l:List Rf} (hs:L 2 bkN = some (s,n)) (hG:Glob w)
  (hre:∀ W,Glob W → Calls prog 74 #[.string s] W fun e w' => ∃ v,mU v s.size W e w' ∧ BkFr W w' (.slice none 0 0) v [] l) :
  Calls prog 35 #[.pointer (some ⟨g,0,none⟩)] w (Ai O N R M g q (L.put 2 bkN (some (s,s.size))) sy l w):=by
 have hrd:=oP hv (k:=2) (x:=bkN) (by omega) (by omega) nT.1
 rw [hs] at hrd
 unfold Jd at hrd
 have HRD:=ah hrd
 have HRE:=ah hre
 have HV3:=ah hv
 have HG:=ah hG
 have HE:=ah (fun (w3 w4 w5:World) (ob:Nat) (v:Value) (h1:DV O N R M w3 g q L sy) h2 h3 hr h4 h5 => C9 (l:=l) (v:=v) (ob:=ob) (w:=w) (w3:=w3) (w4:=w4) (w5:=w5) h1 hv.olt h2 h3 hr h4 h5)
 have HSY:Hid (∀ (O':Nat → Prop) (W:World) (ob:Nat) (v:Value),DV O' N R M W g q L sy → OpO O' W ob g (.slice none 0 0) v [] l 0 → Calls prog 65 #[.pointer (some ⟨ob,0,none⟩)] W fun e w' => e = .returned (.int .i64 0) ∧ DV O' N R M w' g q (L.put 2 bkN (some (s,s.size))) sy ∧ OpO O' w' ob g (.slice none 0 0) v [] l l.length ∧ Chg (fun k => ¬ O' k ∨ k = ob) W w'):=ah fun O' W ob v h1 h2 => pE h1 h2 hs
 unfold mU at HRE
 have d1:decide ((s.size:Int) < (s.size:Int)) = false:=decide_eq_false (by omega)
 have hdn:dirN 2 = ⟨#[114,101,102]⟩:=rfl
 rw [hdn] at HRD
 unfold bkN at HRD
 have HBO:Hid (∀ (v:Value) (w:World),(Instr.build 128 #[(0,.pointer (some ⟨g,0,none⟩)),(1,.agg #[.slice none 0 0,v])]).run prog w = .ok (.agg #[.pointer (some ⟨g,0,none⟩),.slice none 0 0,v,.int .i64 0]) w):=ah (sJ g)
 clear hv hG hs hrd hdn hre
 go_enter func35,ntmps35
 go_wp2_with fail
 refine HRD.out.mono ?_
 rintro e w3 ⟨rfl,hb3⟩
 have HB3:=ah hb3
 replace HV3:=ah (HV3.out.below hb3)
 have HK3:=ah (Kp.of (O:=O) hb3)
 replace HG:=ah (HG.out.below hb3)
 clear hb3
 go_wp2_with fail
 refine (HRE.out w3 HG.out).mono ?_
 rintro e w4 ⟨v,⟨rfl,hb4⟩,hbk⟩
 have HB4:=ah hb4
 have HBK:=ah hbk
 obtain ⟨va,vc,rfl⟩:=open_row hbk.1.log
 clear hb4 hbk
 go_wp2_with fail
 have hb4b:Below w3.heap.size w3 (w4.alloc (.cells #[.slice none 0 0,.slice va l.length vc] 51)):=HB4.out.alloc HB4.out.size _
 obtain ⟨w5,hw5⟩:∃ z,(w4.alloc (.cells #[.slice none 0 0,.slice va l.length vc] 51)).alloc (.cells #[.pointer (some ⟨g,0,none⟩),.slice none 0 0,.slice va l.length vc,.int .i64 0] 128) = z:=⟨_,rfl⟩
 have hb5:Below w3.heap.size w3 w5:=by rw [← hw5];exact hb4b.alloc hb4b.size _
 obtain ⟨O',hd,ho,h1,h2,h3⟩:=HE.out w3 _ w5 (w4.heap.size + 1) _ HV3.out HK3.out.size hb4b ⟨HBK.out.1.below bal,HBK.out.2⟩ (by simp) hw5
 have HK5:=ah (HK3.out.trans (Kp.of hb5))
 have HSC:=ah (HSY.out O' w5 _ _ hd ho)
 have HH:=ah (And.intro h1 (And.intro h2 h3))
 rw [hw5]
 clear hb4b hw5 hb5 hd ho h1 h2 h3 HE HSY
 refine HSC.out.mono ?_
 rintro e w6 ⟨rfl,hd6,ho6,hc6⟩
 have HFIN:Hid (Ai O N R M g q (L.put 2 bkN (some (s,s.size))) sy l w (.returned (.tuple #[.pointer (some ⟨w4.heap.size + 1,0,none⟩),.int .i64 0])) w6):=ah ⟨O',w4.heap.size + 1,.slice va l.length vc,rfl,hd6,ho6,HK5.out.trans (hc6.mono fun j _ hj hO => hj.elim (fun h => h (HH.out.1 j hO)) (fun h => HH.out.2.2 (h ▸ hO))),HH.out.1,HH.out.2.1,by have h1:=HK3.out.size;have h2:=HB4.out.size;omega⟩
 clear hd6 ho6 hc6
 go_wp2_with fail
 go_ret2
 exact HFIN.out
end
theorem fG.chg {S:Nat → Prop} {w w':World} {vt vl:Value} {t l:List Rf} (h:fG w vt vl t l) (hc:Chg S w w') (ht:t ≠ [] → ∀ k,vt.ownBlock = some k → ¬ S k) (hl:l ≠ [] → ∀ k,vl.ownBlock = some k → ¬ S k):fG w' vt vl t l:=⟨h.tab.chg hc ht,h.log.chg hc hl,h.capt,h.capl,h.ok⟩
theorem OpB.mid {w:World} {b:Nat} {d vt vl:Value} {t l:List Rf} {n:Nat} (h:OpB w b d vt vl t l n):w.rangeAt b 1 [vt,vl]:=fun j u hu => by
 have:=h.box.range (j + 1) u (by
  match j,hu with
  | 0,hu => exact hu
  | 1,hu => exact hu
  | j + 2,hu => simp at hu)
 rwa [show 0 + (j + 1) = 1 + j from by omega] at this
section
variable {O:Nat → Prop} {N R M:Nat} {w:World} {g:Nat} {q:Int} {L:LK} {sy:Nat → Bool} {b:Nat} {vt vl:Value} {t l:List Rf} {n:Nat} {d:ByteArray × Nat}
def l9 (O:Nat → Prop) (N R M:Nat) (g:Nat) (q:Int) (L:LK) (sy:Nat → Bool) (b:Nat) (vt vl:Value) (t l:List Rf) (n:Nat) (d:ByteArray × Nat) (r:Rf) (w:World) (e:Ending) (w':World):Prop :=
 (if aR t (l ++ [r]) = true then e = .returned (.int .i64 0) ∧ ∃ O' v1 v2,DV O' N R M w' g q (L.put 2 bkN (some (d.1 ++ ofB (entB r),d.2))) sy ∧ OpO O' w' b g v1 v2 t (l ++ [r]) n ∧ (∀ k,O k → O' k) ∧ (∀ k,O' k → O k ∨ w.heap.size ≤ k) ∧ (t ≠ [] → ∀ k,v1.ownBlock = some k → w.heap.size ≤ k) ∧ ∀ k,v2.ownBlock = some k → w.heap.size ≤ k
 else e = .returned (.int .i64 18) ∧ DV O N R M w' g q L sy ∧ OpO O w' b g vt vl t l n) ∧ Chg (fun k => ¬ O k ∨ k = b) w w'
theorem ql (hv:DV O N R M w g q L sy) (hG:Glob w) (ho:OpO O w b g vt vl t l n) (r:Rf) (old:List UInt8) (hr:r.1.size ≤ 1000) (hr2:r.2.length = 32) (hold:valB t l r.1 = old) (hol:old.length = 32) (hok:aR t l = true) (hnm:aQ r.1 = true) (hs:L 2 bkN = some d) (hM:d.1.size + 81 ≤ M) (hM2:M ≤ 1000000) (hq:3 * (N * M) + M ≤ q) (hq2:q ≤ 1000000000) :
  Calls prog 62 #[.pointer (some ⟨b,0,none⟩),.string r.1,.agg (idC old).toArray,.agg (idC r.2).toArray] w (l9 O N R M g q L sy b vt vl t l n d r w):=by
 obtain ⟨hb32,hbt,hbl⟩:=jR hok
 obtain ⟨W,hW⟩:∃ W,(w.alloc (.cells (idC old).toArray 42)).alloc (.cells (idC r.2).toArray 42) = W:=⟨_,rfl⟩
 have hbW:Below w.heap.size w W:=by rw [← hW];exact bal.alloc (by simp) _
 have hx0:BoxL W w.heap.size 42 (idC old):=by rw [← hW];exact (BoxL.new w 42 (idC old)).below bal
 have hx1:BoxL W (w.heap.size + 1) 42 (idC r.2):=by
  rw [← hW]
  have:=BoxL.new (w.alloc (.cells (idC old).toArray 42)) 42 (idC r.2)
  rwa [World.size_alloc] at this
 have HBW:=ah hbW
 have HX0:=ah hx0
 have HX1:=ah hx1
 have HOP:=ah (ho.below hbW)
 have HVA:=ah (fun V (hb:Below W.heap.size W V) => uw V b _ vt vl t l n r.1 ((ho.below hbW).below hb).op (by omega) (by omega) (by unfold maxLen;omega))
 rw [hold] at HVA
 unfold kX at HVA
 have HAD:=ah (fun V (hb:Below W.heap.size W V) => pU vt vl t l r V ((ho.below hbW).below hb).op.row hr hr2 (by omega) (by omega) ((hG.below hbW).below hb).crc ((hG.below hbW).below hb).laid.lt)
 unfold wP at HAD
 rw [hok,hnm] at HAD
 have hel:=qQ (r:=r) (by
  unfold aQ at hnm
  rw [Bool.and_eq_true,decide_eq_true_eq] at hnm
  exact hnm.2.2) hr2
 have HDV:=ah hv
 have HAP:Hid (∀ V,Below w.heap.size w V → Calls prog 113 #[.pointer (some ⟨g,0,none⟩),.string ⟨#[114,101,102]⟩,.string ⟨#[98,111,111,107]⟩,.string (ofB (entB r))] V (VAns (Ou O w V) N R M g q (L.put 2 bkN (some (d.1 ++ ofB (entB r),d.2))) sy V)):=ah fun V hb =>
  pK (k:=2) (x:=bkN) (hv.on hb) (by omega) nT.1 hs (ofB (entB r)) (by rw [bq];omega) (by omega) (by rw [bq];omega) hq2
 have HGL:=ah hv.olt
 have HOO:=ah ho
 have heq:∀ w,(Op.equalIn 10000 42 (.agg (idC old).toArray) (.agg (idC old).toArray)).run prog w = .ok true w:=by
  have:=lI old old hol hol
  simpa using this
 have h32o:(prog.info? 42).map (·.size) = some (idC old).length:=by rw [au,hol];exact bO
 have h32i:(prog.info? 42).map (·.size) = some (idC r.2).length:=by rw [au,hr2];exact bO
 have HANS:=ah (show ∀ e w',l9 O N R M g q L sy b vt vl t l n d r w e w' ↔ l9 O N R M g q L sy b vt vl t l n d r w e w' from fun _ _ => Iff.rfl)
 obtain ⟨at_,ct,evt⟩:=open_row ho.op.row.tab
 obtain ⟨al,cl,evl⟩:=open_row ho.op.row.log
 subst evt evl
 have hgbox:∀ V,Below W.heap.size W V → V.rangeAt b 1 [.slice at_ t.length ct,.slice al l.length cl]:=fun V hb =>
  ((ho.below hbW).below hb).op.mid
 have HW:=ah hW
 have HIB:=ah bQ
 clear hv hG ho hr hold hol hok hnm hs hM hM2 hq hq2 hel hb32 hbt hbl hr2
 generalize hco:idC old = co at hx0 HX0 HVA heq h32o HW
 generalize hci:idC r.2 = ci at hx1 HX1 HAD h32i HW
 clear hco hci hW HANS
 have HSX:Hid (∀ V,Below W.heap.size W V → V.rangeAt w.heap.size 0 co ∧ V.rangeAt (w.heap.size + 1) 0 ci ∧ V.rangeAt b 1 [.slice at_ t.length ct,.slice al l.length cl]):=ah fun V hb => ⟨(HX0.out.below hb).range,(HX1.out.below hb).range,hgbox V hb⟩
 clear hgbox hx0 hx1
 go_enter func62,ntmps62
 go_upto_region 3 with fail
 rw [HW.out]
 have hS0:=HSX.out W.drew (Below.refl _ _).drew
 refine wrL 5 (fun x => x.rangeAt w.heap.size 0 co ∧ x.rangeAt (w.heap.size + 1) 0 ci ∧ x.rangeAt b 1 [.slice at_ t.length ct,.slice al l.length cl]) ?_
 refine WL.tk 0 hS0 ?_
 refine WL.tk 1 hS0 ?_
 refine WL.tk 3 hS0 ?_ (hy:=(fun w' hSw => aK 42 _ (hSw.1) underlying42 rfl h32o _ rfl rfl))
 refine WL.on 2 ?_
 go_wp2_with fail
 refine (HVA.out _ (Below.refl _ _).drew).mono ?_
 rintro e w1 ⟨rfl,hb1⟩
 have HB1:=ah (bA hb1)
 have hS1:=HSX.out w1 HB1.out
 clear hb1 hS0
 go_wp2_with fail
 refine ⟨hS1,?_⟩
 refine WL.tk 4 hS1 ?_
 refine WL.la 5 ?_
 clear hS1
 go_upto_region 5 with fail
 have HB0:=ah (HBW.out.trans (HB1.out.mono HBW.out.size))
 have HSX1:Hid (∀ V,Below w1.heap.size w1 V → V.rangeAt w.heap.size 0 co ∧ V.rangeAt (w.heap.size + 1) 0 ci ∧ V.rangeAt b 1 [.slice at_ t.length ct,.slice al l.length cl]):=ah (fun V hb => HSX.out V (HB1.out.trans (hb.mono HB1.out.size)))
 have HAD1:=ah (fun V (hb:Below w1.heap.size w1 V) => HAD.out V (HB1.out.trans (hb.mono HB1.out.size)))
 have h2b:(prog.info? 51).map (·.size) = some ([.slice at_ t.length ct,.slice al l.length cl]:List Value).length:=bQ
 obtain ⟨l2,hl2⟩:∃ z,l ++ [r] = z:=⟨_,rfl⟩
 rw [hl2] at HAD1
 have HL2:=ah hl2
 have HN2:Hid (l2 ≠ []):=ah (by rw [← hl2];simp)
 clear HAD hl2
 cases hfull:aR t l2 with
 | false =>
  rw [hfull] at HAD1
  have HFU:=ah hfull
  clear hfull
  have HS0:=HSX1.out w1.drew (Below.refl _ _).drew
  refine wrL 14 (fun x => x.rangeAt w.heap.size 0 co ∧ x.rangeAt (w.heap.size + 1) 0 ci ∧ x.rangeAt b 1 [.slice at_ t.length ct,.slice al l.length cl]) ?_
  refine WL.tk 0 HS0 ?_
  refine WL.tk 1 HS0 ?_
  refine WL.tk 2 HS0 ?_
  refine WL.tk 3 HS0 ?_ (hy:=(fun w' hSw => aK 51 _ (hSw.2.2) underlying51 rfl h2b _ rfl rfl))
  refine WL.tk 4 HS0 ?_
  refine WL.tk 5 HS0 ?_ (hy:=(fun w' hSw => aK 42 _ (hSw.2.1) underlying42 rfl h32i _ rfl rfl))
  refine WL.tw 6 11 ?_ ?_
  focus
   go_wp2_with fail
   refine (HAD1.out _ (Below.refl _ _).drew).mono ?_
   rintro e w6 ⟨rfl,hb6⟩
   have HB6:=ah (bA hb6)
   have HS6:=HSX1.out w6 HB6.out
   have HB7:Hid (Below w1.heap.size w1 (w6.alloc (.cells #[.slice none 0 0,.slice none 0 0] 51))):=ah (HB6.out.alloc HB6.out.size _)
   have HS7:=HSX1.out _ HB7.out
   have HX7:Hid (BoxL (w6.alloc (.cells #[.slice none 0 0,.slice none 0 0] 51)) w6.heap.size 51 (#[.slice none 0 0,.slice none 0 0]:Array Value).toList):=ah (by have:=BoxL.new w6 51 (#[.slice none 0 0,.slice none 0 0]:Array Value).toList;simpa using this)
   have HBN7:Hid (Below w6.heap.size w6 (w6.alloc (.cells #[.slice none 0 0,.slice none 0 0] 51))):=ah bal
   have hp6:=HB6.out.size
   clear hb6
   go_wp2
   refine ⟨HS6,?_⟩
   refine WL.tk 7 HS6 ?_
   refine WL.tk 8 HS6 ?_
   refine WL.tk 9 HS6 ?_
   refine WL.tk 10 HS6 ?_
   refine WL.on 11 ?_
   go_wp2
   refine ⟨HS7,?_⟩
   obtain ⟨P,hP⟩:∃ P,w6.heap.size = P:=⟨_,rfl⟩
   obtain ⟨w7,hw7⟩:∃ w7,w6.alloc (.cells #[.slice none 0 0,.slice none 0 0] 51) = w7:=⟨_,rfl⟩
   rw [hw7] at HB7 HS7 HX7 HBN7  ⊢
   rw [hP] at HX7 hp6 
   simp only [hP]
   clear hP hw7 HS6 HBN7
  rotate_left
  focus
   have HB6:Hid (Below w1.heap.size w1 (w1.alloc (.cells #[.slice none 0 0,.slice none 0 0] 51)).drew):=ah (bal.drew)
   have hx6:BoxL (w1.alloc (.cells #[.slice none 0 0,.slice none 0 0] 51)).drew w1.heap.size 51 (#[.slice none 0 0,.slice none 0 0]:Array Value).toList:=(show BoxL (w1.alloc (.cells #[.slice none 0 0,.slice none 0 0] 51)) w1.heap.size 51 (#[.slice none 0 0,.slice none 0 0]:Array Value).toList from by have:=BoxL.new w1 51 (#[.slice none 0 0,.slice none 0 0]:Array Value).toList;simpa using this)
   have HS6:=HSX1.out _ HB6.out
   go_wp2
   refine ⟨HS6,?_⟩
   refine WL.on 6 ?_
   go_wp2_with fail
   refine (HAD1.out _ HB6.out).mono ?_
   rintro e w7 ⟨rfl,hb7⟩
   have HX7:=ah (hx6.below hb7)
   have HB7:=bth HB6 hb7
   have HS7:=HSX1.out _ HB7.out
   have hp6:w1.heap.size ≤ w1.heap.size:=Nat.le_refl _
   clear hb7 hx6
   go_wp2
   refine ⟨HS7,?_⟩
   refine WL.tk 7 HS7 ?_
   refine WL.tk 8 HS7 ?_
   refine WL.tk 9 HS7 ?_
   refine WL.tk 10 HS7 ?_
   obtain ⟨P,hP⟩:∃ P,P = w1.heap.size:=⟨_,rfl⟩
   rw [← hP] at HX7 
   have hp6:w1.heap.size ≤ P:=by omega
   simp only [← hP]
   clear hP HS6
  all_goals
   refine WL.on 12 ?_
   refine aj rfl 51 _ _ rfl P 0 [.slice none 0 0,.slice none 0 0] rfl rfl 2 rfl (by have:=HX7.out.there;simpa [] using this) bQ (by intro v hv;simp at hv;rw [hv];rfl) ?_
   simp only [Act.put,nz]
   have HB8:=ah (below_setCells (B:=w1.heap.size) (a:=w1) P hp6 [.slice none 0 0,.slice none 0 0] 0 w7 HB7.out)
   have HX8:=ah (HX7.out.set (us:=[.slice none 0 0,.slice none 0 0]) (by simp []))
   have HW8:Hid (Chg (fun k => k = P) w7 (w7.setCells P 0 [.slice none 0 0,.slice none 0 0])):=ah (eD P [.slice none 0 0,.slice none 0 0] w7)
   generalize w7.setCells P 0 [.slice none 0 0,.slice none 0 0] = w8 at HB8 HX8 HW8
   have HS8:=HSX1.out _ HB8.out
   refine ⟨HS8,?_⟩
   refine WL.tk 13 HS8 ?_
   refine WL.la 14 ?_
   clear HS8 HS7 HS0 HX7 HB7
  all_goals
   have HBE:=ah (HB0.out.trans (HB8.out.mono HB0.out.size))
   clear HX8 HW8 HB8 hp6
   go_wp2_with fail
   go_ret
   unfold l9
   rw [HL2.out,HFU.out]
   exact ⟨⟨rfl,HDV.out.below HBE.out,HOO.out.below HBE.out⟩,Chg.of_below HBE.out⟩
 | true =>
  rw [hfull] at HAD1
  have HFU:=ah hfull
  clear hfull
  have HS0:=HSX1.out w1.drew (Below.refl _ _).drew
  refine wrL 14 (fun x => x.rangeAt w.heap.size 0 co ∧ x.rangeAt (w.heap.size + 1) 0 ci ∧ x.rangeAt b 1 [.slice at_ t.length ct,.slice al l.length cl]) ?_
  refine WL.tk 0 HS0 ?_
  refine WL.tk 1 HS0 ?_
  refine WL.tk 2 HS0 ?_
  refine WL.tk 3 HS0 ?_ (hy:=(fun w' hSw => aK 51 _ (hSw.2.2) underlying51 rfl h2b _ rfl rfl))
  refine WL.tk 4 HS0 ?_
  refine WL.tk 5 HS0 ?_ (hy:=(fun w' hSw => aK 42 _ (hSw.2.1) underlying42 rfl h32i _ rfl rfl))
  refine WL.tw 6 11 ?_ ?_
  focus
   go_wp2_with fail
   refine (HAD1.out _ (Below.refl _ _).drew).mono ?_
   rintro e w6 ⟨⟨v1,v2,rfl,hbk⟩,hb6⟩
   have HB6:=ah (bA hb6)
   have HS6:=HSX1.out w6 HB6.out
   have HB7:Hid (Below w1.heap.size w1 (w6.alloc (.cells #[.slice none 0 0,.slice none 0 0] 51))):=ah (HB6.out.alloc HB6.out.size _)
   have HS7:=HSX1.out _ HB7.out
   have HX7:Hid (BoxL (w6.alloc (.cells #[.slice none 0 0,.slice none 0 0] 51)) w6.heap.size 51 (#[.slice none 0 0,.slice none 0 0]:Array Value).toList):=ah (by have:=BoxL.new w6 51 (#[.slice none 0 0,.slice none 0 0]:Array Value).toList;simpa using this)
   have HBN7:Hid (Below w6.heap.size w6 (w6.alloc (.cells #[.slice none 0 0,.slice none 0 0] 51))):=ah bal
   obtain ⟨a1,c1,rfl⟩:=open_row hbk.1.tab
   obtain ⟨a2,c2,rfl⟩:=open_row hbk.1.log
   have HBK:=ah (hbk.1.below HBN7.out)
   have HFR:Hid (FrB w1.heap.size (.slice a1 t.length c1) ∧ FrB w1.heap.size (.slice a2 l2.length c2)):=ah hbk.2
   have HNE:Hid ((t ≠ [] → ∀ k,(Value.slice a1 t.length c1).ownBlock = some k → ¬ k = w6.heap.size) ∧ (l2 ≠ [] → ∀ k,(Value.slice a2 l2.length c2).ownBlock = some k → ¬ k = w6.heap.size)):=ah ⟨fun hn k hk => by have:=hbk.1.tab.olt hn hk;omega,fun hn k hk => by have:=hbk.1.log.olt hn hk;omega⟩
   clear hbk
   have hp6:=HB6.out.size
   clear hb6
   go_wp2
   refine ⟨HS6,?_⟩
   refine WL.tk 7 HS6 ?_
   refine WL.tk 8 HS6 ?_
   refine WL.tk 9 HS6 ?_
   refine WL.tk 10 HS6 ?_
   refine WL.on 11 ?_
   go_wp2
   refine ⟨HS7,?_⟩
   obtain ⟨P,hP⟩:∃ P,w6.heap.size = P:=⟨_,rfl⟩
   obtain ⟨w7,hw7⟩:∃ w7,w6.alloc (.cells #[.slice none 0 0,.slice none 0 0] 51) = w7:=⟨_,rfl⟩
   rw [hw7] at HB7 HS7 HX7 HBN7 HBK ⊢
   rw [hP] at HX7 hp6 HNE
   simp only [hP]
   clear hP hw7 HS6 HBN7
  rotate_left
  focus
   have HB6:Hid (Below w1.heap.size w1 (w1.alloc (.cells #[.slice none 0 0,.slice none 0 0] 51)).drew):=ah (bal.drew)
   have hx6:BoxL (w1.alloc (.cells #[.slice none 0 0,.slice none 0 0] 51)).drew w1.heap.size 51 (#[.slice none 0 0,.slice none 0 0]:Array Value).toList:=(show BoxL (w1.alloc (.cells #[.slice none 0 0,.slice none 0 0] 51)) w1.heap.size 51 (#[.slice none 0 0,.slice none 0 0]:Array Value).toList from by have:=BoxL.new w1 51 (#[.slice none 0 0,.slice none 0 0]:Array Value).toList;simpa using this)
   have HS6:=HSX1.out _ HB6.out
   go_wp2
   refine ⟨HS6,?_⟩
   refine WL.on 6 ?_
   go_wp2_with fail
   refine (HAD1.out _ HB6.out).mono ?_
   rintro e w7 ⟨⟨v1,v2,rfl,hbk⟩,hb7⟩
   have HX7:=ah (hx6.below hb7)
   have HB7:=bth HB6 hb7
   have HS7:=HSX1.out _ HB7.out
   obtain ⟨a1,c1,rfl⟩:=open_row hbk.1.tab
   obtain ⟨a2,c2,rfl⟩:=open_row hbk.1.log
   have HBK:=ah hbk.1
   have hsz6:(w1.alloc (.cells #[.slice none 0 0,.slice none 0 0] 51)).drew.heap.size = w1.heap.size + 1:=by simp
   have HFR:Hid (FrB w1.heap.size (.slice a1 t.length c1) ∧ FrB w1.heap.size (.slice a2 l2.length c2)):=ah ⟨fun k hk => by have:=hbk.2.1 k hk;omega,fun k hk => by have:=hbk.2.2 k hk;omega⟩
   have HNE:Hid ((t ≠ [] → ∀ k,(Value.slice a1 t.length c1).ownBlock = some k → ¬ k = w1.heap.size) ∧ (l2 ≠ [] → ∀ k,(Value.slice a2 l2.length c2).ownBlock = some k → ¬ k = w1.heap.size)):=ah ⟨fun hn k hk => by have:=hbk.2.1 k hk;omega,fun hn k hk => by have:=hbk.2.2 k hk;omega⟩
   clear hbk hsz6
   have hp6:w1.heap.size ≤ w1.heap.size:=Nat.le_refl _
   clear hb7 hx6
   go_wp2
   refine ⟨HS7,?_⟩
   refine WL.tk 7 HS7 ?_
   refine WL.tk 8 HS7 ?_
   refine WL.tk 9 HS7 ?_
   refine WL.tk 10 HS7 ?_
   obtain ⟨P,hP⟩:∃ P,P = w1.heap.size:=⟨_,rfl⟩
   rw [← hP] at HX7 HNE
   have hp6:w1.heap.size ≤ P:=by omega
   simp only [← hP]
   clear hP HS6
  all_goals
   refine WL.on 12 ?_
   refine aj rfl 51 _ _ rfl P 0 [.slice a1 t.length c1,.slice a2 l2.length c2] rfl rfl 2 rfl (by have:=HX7.out.there;simpa [] using this) bQ (by intro v hv;simp at hv;rcases hv with rfl | rfl <;> rfl) ?_
   simp only [Act.put,nz]
   have HB8:=ah (below_setCells (B:=w1.heap.size) (a:=w1) P hp6 [.slice a1 t.length c1,.slice a2 l2.length c2] 0 w7 HB7.out)
   have HX8:=ah (HX7.out.set (us:=[.slice a1 t.length c1,.slice a2 l2.length c2]) (by simp []))
   have HW8:Hid (Chg (fun k => k = P) w7 (w7.setCells P 0 [.slice a1 t.length c1,.slice a2 l2.length c2])):=ah (eD P [.slice a1 t.length c1,.slice a2 l2.length c2] w7)
   generalize w7.setCells P 0 [.slice a1 t.length c1,.slice a2 l2.length c2] = w8 at HB8 HX8 HW8
   have HS8:=HSX1.out _ HB8.out
   refine ⟨HS8,?_⟩
   refine WL.tk 13 HS8 ?_
   refine WL.la 14 ?_
   clear HS8 HS7 HS0 HX7 HB7
  all_goals
   have HBE:=ah (HB0.out.trans (HB8.out.mono HB0.out.size))
   have HBK8:=ah (HBK.out.chg HW8.out HNE.out.1 HNE.out.2)
   have HO8:=ah (HOO.out.below HBE.out)
   have d0:w8.cell? ⟨b,0,none⟩ = some (.pointer (some ⟨g,0,none⟩)):=HO8.out.op.box.range 0 _ rfl
   have HS1:=ah HB0.out.size
   clear HW8 HBK HB8
   go_wp2_with fail
   refine (HAP.out w8 HBE.out).mono ?_
   rintro e w9 ⟨rfl,hv9,hk9⟩
   have hPl:=HX8.out.lt
   have HX9:=ah (HX8.out.kp hk9 (.inr ⟨Nat.le_trans HS1.out hp6,hPl⟩))
   have hvt:t ≠ [] → ∀ k,(Value.slice a1 t.length c1).ownBlock = some k → w.heap.size ≤ k ∧ k < w8.heap.size:=fun hn k hk => ⟨Nat.le_trans HS1.out (HFR.out.1 k hk),HBK8.out.tab.olt hn hk⟩
   have hvl:l2 ≠ [] → ∀ k,(Value.slice a2 l2.length c2).ownBlock = some k → w.heap.size ≤ k ∧ k < w8.heap.size:=fun hn k hk => ⟨Nat.le_trans HS1.out (HFR.out.2 k hk),HBK8.out.log.olt hn hk⟩
   have hbl:b < w.heap.size:=HGL.out b HOO.out.ob
   have HBK9:=ah (HBK8.out.chg hk9 (fun hn k hk h => h (.inr (hvt hn k hk))) (fun hn k hk h => h (.inr (hvl hn k hk))))
   have HO9:=ah ((HO8.out.sub (O':=Ou O w w8) fun k hk => .inl hk).kp hk9)
   obtain ⟨WE,hWE⟩:∃ z,w9.setCells b 1 [.slice a1 t.length c1,.slice a2 l2.length c2] = z:=⟨_,rfl⟩
   have hcw:Chg (fun k => k = b) w9 WE:=by
    rw [← hWE]
    have h:=bC w9 b 1 [.slice a1 t.length c1,.slice a2 l2.length c2]
    exact ⟨h.os,h.tape,h.output,h.size,fun k hk hn => h.block k hk (fun e => hn (Option.some.inj e))⟩
   have hbx:BoxL WE b 128 [.pointer (some ⟨g,0,none⟩),.slice a1 t.length c1,.slice a2 l2.length c2,.int .i64 (n:Int)]:=by
    rw [← hWE]
    exact (HO9.out.op.box.put 1 (.slice a1 t.length c1)).put 2 (.slice a2 l2.length c2)
   have hth:w9.there b 1 2:=fun j hj => by
    have:=HO9.out.op.box.there (1 + j) (by simp;omega)
    rwa [Nat.zero_add] at this
   have e9:=HX9.out.range
   have h2n:(prog.info? 51).map (·.size) = some ([.slice a1 t.length c1,.slice a2 l2.length c2]:List Value).length:=bQ
   have HFIN:Hid (l9 O N R M g q L sy b (.slice at_ t.length ct) (.slice al l.length cl) t l n d r w (.returned (.int .i64 0)) WE):=ah (by
    unfold l9
    rw [HL2.out,HFU.out]
    refine ⟨⟨rfl,Ou O w w8,_,_,hv9.chg hcw (fun j hj => hj ▸ .inl HOO.out.ob),⟨⟨hbx,HBK9.out.chg hcw (fun hn k hk e => ?_) (fun hn k hk e => ?_)⟩,.inl HOO.out.ob,fun hn k hk => ⟨.inr (hvt hn k hk),?_⟩,fun hn k hk => ⟨.inr (hvl hn k hk),?_⟩⟩,fun k hk => .inl hk,fun k hk => hk.imp id fun h => h.1,fun hn k hk => (hvt hn k hk).1,fun k hk => (hvl HN2.out k hk).1⟩,(Chg.of_below HBE.out).trans ((hk9.mono fun k _ hk => .inl fun h => hk (.inl h)).trans (hcw.mono fun k _ hk => .inr hk))⟩
    ·have:=(hvt hn k hk).1;omega
    ·have:=(hvl hn k hk).1;omega
    ·have:=(hvt hn k hk).1;omega
    have:=(hvl hn k hk).1;omega)
   have HWE:=ah hWE
   have HTH:=ah hth
   clear hWE hcw hbx hth hvt hvl hv9 hk9 d0
   go_wp2_with (first | (refine wpList_load_mid rfl 51 _ rfl P 0 rfl [.slice a1 t.length c1,.slice a2 l2.length c2] _ e9 underlying51 rfl h2n ?_) | (refine aj rfl 51 _ _ rfl b 1 [.slice a1 t.length c1,.slice a2 l2.length c2] rfl rfl 2 rfl HTH.out bQ (by intro v hv;simp at hv;rcases hv with rfl | rfl <;> rfl) ?_;rw [HWE.out]))
   go_ret
   exact HFIN.out
end
end
section
open Go.RowKit Go.Maps Go.Sort Go.Shelf
theorem Bp (mb:Option Nat) (w:World):Calls prog 137 #[.map mb] w fun e w' => e = .returned (.func (.func 201) #[] #[.pointer (some ⟨w.heap.size,0,none⟩)]) ∧ w' = w.alloc (.cells #[.map mb] 132) :=
 callsIn_wide.1 (AnyZ.keys_in Tryz.keysP Fence.wide 5 trivial rfl mb w)
theorem wW {α:Type} {enc:α → Value} (b n:Nat) (f:ByteArray → Option α) (l:List ByteArray) (w:World) (hm:MapT enc w b n f) (hn:n ≤ 1000000) (hl:AscT l) (hL:∀ x,x.size ≤ maxLen → ((f x).isSome = true ↔ x ∈ l)) (hz:∀ x ∈ l,x.size ≤ maxLen) :
  Calls prog 119 #[.func (.func 201) #[] #[.pointer (some ⟨w.heap.size,0,none⟩)]] (w.alloc (.cells #[.map (some b)] 132)) fun e w' => ∃ v,e = .returned v ∧ fV w' v l ∧ Below w.heap.size w w':=by
 obtain ⟨D,hown,hs⟩:=hm
 have hbl:=hown.lt
 have hsz:Maps.size D ≤ 1000000:=Nat.le_trans hown.size_le hn
 have hseq:SeqGives Fence.wide 2 prog 201 #[.pointer (some ⟨w.heap.size,0,none⟩)] encStr (fun ss => ss.Perm (strKeys D)) (Maps.size D) (w.alloc (.cells #[.map (some b)] 132)) :=
  AnyZ.keys_gives (ρ:=Tryz.keysP_ren) { Tryz.keysP with } Fence.wide _ trivial rfl (by omega) w.heap.size b n D _ (by simp) (by simp) (by
   obtain ⟨es,clock,hb,Ft,hs,hD⟩:=hown
   exact ⟨es,clock,(Below.heap_alloc _ _ b hbl).trans hb,Ft,hs,hD⟩)
 have h:=callsIn_wide.1 (AnyZ.sorted_in Tryz.sortedS Fence.wide 5 trivial trivial trivial trivial rfl (by omega) (Gg _) (enters_of func189 (by kernel_rfl) rfl) 201 #[.pointer (some ⟨w.heap.size,0,none⟩)] trivial (enters_of func201 (by kernel_rfl) rfl) _ _ (by unfold maxLen;omega) (by omega) _ hseq)
 refine h.mono ?_
 rintro e w' ⟨v,ss,he,hS,hrow,_,hb⟩
 obtain ⟨e1,e2⟩:=p9 hown hs hl hL hz hS
 rw [e1,e2] at hrow
 refine ⟨v,he,fV.bZ hrow,((Below.refl _ w).alloc (Nat.le_refl _) _).trans (hb.mono (by simp))⟩
def fZ (w:World) (b m:Nat):Prop:=BoxL w b 134 [.map (some m)] ∧ MapT encP w m 0 fun _ => none
theorem fZ.below {w w':World} {b m:Nat} (h:fZ w b m) (hb:Below w.heap.size w w'):fZ w' b m:=⟨h.1.below hb,h.2.on hb⟩
theorem rM (b m:Nat) (w:World) (h:fZ w b m):Calls prog 77 #[.pointer (some ⟨b,0,none⟩)] w fun e w' => ∃ v,e = .returned v ∧ fV w' v [] ∧ Below w.heap.size w w':=by
 obtain ⟨hx,hm⟩:=h
 have c0:w.cell? ⟨b,0,none⟩ = some (.map (some m)):=hx.range 0 _ rfl
 have HS:=ah (wW m 0 (fun _ => (none:Option Nat)) [] w hm (by omega) List.Pairwise.nil (fun x _ => by simp) (fun x hx => by cases hx))
 have HK:=ah (Bp (some m) w)
 obtain ⟨W,hW⟩:∃ W,w.alloc (.cells #[.map (some m)] 132) = W:=⟨_,rfl⟩
 rw [hW] at HS HK
 clear hW hx hm
 go_enter func77,ntmps77
 go_wp2_with fail
 refine HK.out.mono ?_
 rintro e w2 ⟨rfl,rfl⟩
 go_wp2_with fail
 refine HS.out.mono ?_
 rintro e w3 ⟨v,rfl,hv,hb3⟩
 have HB3:=ah hb3
 have HV:=ah hv
 clear hv hb3
 go_wp2_with fail
 go_ret
 exact ⟨v,rfl,HV.out,HB3.out⟩
theorem DL (m:Nat) (w:World):(Instr.build 134 #[(0,.map (some m))]).run prog w = .ok (.agg #[.map (some m)]) w:=run_build w 134 _ _ (by kernel_rfl)
section
variable {O:Nat → Prop} {N R M:Nat} {w:World} {g:Nat} {q:Int} {L:LK} {sy:Nat → Bool}
theorem Ji (h:DV O N R M w g q L sy) (hN:N + R ≤ 1000000) (h1:∀ y,L 1 y = none):Calls prog 70 #[.pointer (some ⟨g,0,none⟩),.string ⟨#[112,97,99,107]⟩] w fun e w' => ∃ v,e = .returned v ∧ fV w' v [] ∧ Below w.heap.size w w':=by
 obtain ⟨d,e1,e2,e3⟩:=h.at2 hN
 exact pq g d jZ 1 [] w e1 (by decide) rfl List.Pairwise.nil (fun y => by rw [e2 1 y (by omega)];unfold LK.dk;rw [h1];simp) (fun y hy => by cases hy)
theorem EF (h:DV O N R M w g q L sy) (hN:N + R ≤ 1000000) (h1:∀ y,L 1 y = none):Calls prog 55 #[.pointer (some ⟨g,0,none⟩)] w fun e w' => e = .returned (.pointer (some ⟨w.heap.size + 1,0,none⟩)) ∧ fZ w' (w.heap.size + 1) w.heap.size ∧ Below w.heap.size w w':=by
 have hmm:=@run_makeMap prog
 have HBP:=ah (DL w.heap.size)
 have HB0:Hid (Below w.heap.size w ((w.alloc (.map #[] 0)).alloc (.cells #[.map (some w.heap.size)] 134))):=ah (bal.alloc (by simp) _)
 have HL:=ah (fun W (hb:Below w.heap.size w W) => Ji (h.below hb) hN h1)
 have HS0:Hid (fZ ((w.alloc (.map #[] 0)).alloc (.cells #[.map (some w.heap.size)] 134)) (w.heap.size + 1) w.heap.size):=ah (by
  have hm:MapT encP (w.alloc (.map #[] 0)) w.heap.size 0 fun _ => (none:Option Nat):=lD w
  have hb:=BoxL.new (w.alloc (.map #[] 0)) 134 [.map (some w.heap.size)]
  rw [World.size_alloc] at hb
  exact ⟨hb,hm.on bal⟩)
 clear h h1
 go_enter func55,ntmps55
 go_wp2_with fail
 refine (HL.out _ HB0.out).mono ?_
 rintro e w1 ⟨v,rfl,hv,hb1⟩
 obtain ⟨ao,cap,rfl,_,_⟩:=hv
 have HB1:=bth HB0 hb1
 have HS1:=ah (HS0.out.below hb1)
 clear hb1
 go_wp2_with fail
 refine wp_loop_rounds 1 ?_
 rw [rounds_succ]
 go_wp2_with fail
 go_ret
 exact ⟨rfl,HS1.out,HB1.out⟩
end
theorem AJ (b m:Nat) (x:List UInt8) (w:World) (h:fZ w b m):Calls prog 38 #[.pointer (some ⟨b,0,none⟩),.agg (idC x).toArray] w fun e w' => e = .returned (.tuple #[.agg #[.int .i64 0,.string ⟨#[]⟩],.bool false]) ∧ Below w.heap.size w w':=by
 have hbn:=xG
 obtain ⟨W0,hW0⟩:∃ W,(w.alloc (.cells (idC x).toArray 42)).alloc (.cells #[.int .i64 0,.string ⟨#[]⟩] 33) = W:=⟨_,rfl⟩
 have HB0:Hid (Below w.heap.size w W0):=ah (by rw [← hW0];exact bal.alloc (by simp) _)
 have HX0:Hid (BoxL W0 (w.heap.size + 1) 33 [.int .i64 0,.string ⟨#[]⟩]):=ah (by
  rw [← hW0]
  have:=BoxL.new (w.alloc (.cells (idC x).toArray 42)) 33 [.int .i64 0,.string ⟨#[]⟩]
  rwa [World.size_alloc] at this)
 have HS:=ah (rM b m W0 (h.below HB0.out))
 have HW0:=ah hW0
 clear hW0 h
 generalize idC x = cx at HW0 ⊢
 go_enter func38,ntmps38
 go_upto_region 1 with fail
 rw [HW0.out]
 go_wp2_with fail
 refine HS.out.mono ?_
 rintro e w1 ⟨v,rfl,hv,hb1⟩
 obtain ⟨ao,cap,rfl,_,_⟩:=hv
 have HB1:=bth HB0 hb1
 have HX1:=ah (HX0.out.below hb1)
 clear hb1
 go_wp2_with fail
 refine wp_loop_rounds 1 ?_
 rw [rounds_succ]
 go_upto_region 11 with fail
 refine wp_region_lit ?_
 refine aO rfl (.agg #[.int .i64 0,.string ⟨#[]⟩]) (by first | rfl | (go_simp;done) | (go_simp;rfl)) ?_
 simp only [Act.put,nz]
 obtain ⟨WE,hWE⟩:∃ z,w1.setCells (w.heap.size + 1) 0 [.int .i64 0,.string ⟨#[]⟩] = z:=⟨_,rfl⟩
 have hre:WE.rangeAt (w.heap.size + 1) 0 [.int .i64 0,.string ⟨#[]⟩]:=by rw [← hWE];exact (HX1.out.set (us:=[.int .i64 0,.string ⟨#[]⟩]) rfl).range
 have HBE:Hid (Below w.heap.size w WE):=ah (by rw [← hWE];exact below_setCells _ (by omega) _ _ _ HB1.out)
 have hth:=HX1.out.there
 have h2:(prog.info? 33).map (·.size) = some ([.int .i64 0,.string ⟨#[]⟩]:List Value).length:=cB
 refine aj rfl 33 _ _ rfl (w.heap.size + 1) 0 [.int .i64 0,.string ⟨#[]⟩] rfl rfl 2 rfl hth cB (by intro v hv;simp at hv;rcases hv with rfl | rfl <;> rfl) ?_
 rw [hWE]
 simp only [Act.put,nz]
 go_wp2_with fail
 refine aL rfl (w.heap.size + 1) 0 rfl [.int .i64 0,.string ⟨#[]⟩] _ hre underlying33 rfl h2 rfl _ rfl ?_
 exact ⟨rfl,HBE.out⟩
theorem AB (b m:Nat) (w:World) (h:fZ w b m):Calls prog 58 #[.pointer (some ⟨b,0,none⟩)] w fun e w' => e = .returned (.slice none 0 0) ∧ Below w.heap.size w w':=by
 have HS:=ah (rM b m w h)
 have HSO:Hid (∀ w,Calls prog 46 #[.slice none 0 0,.func (.func 105) #[] #[]] w fun e w' => e = .returned (.tuple #[]) ∧ w' = w):=ah fun w =>
  AnyF.slices_SortFunc_none (P:=prog) (ρ:=Tryz.sortI_ren) { Tryz.sortI with } none 0 (.func (.func 105) #[] #[]) w
 have HCO:Hid (∀ w,Calls prog 49 #[.slice none 0 0] w fun e w' => e = .returned (.slice none 0 0) ∧ w' = w):=ah fun w => by
  go_enter func49,ntmps49
  go_wp2_with fail
  go_ret
  exact ⟨rfl,rfl⟩
 clear h
 go_enter func58,ntmps58
 go_wp2_with fail
 refine HS.out.mono ?_
 rintro e w1 ⟨v,rfl,hv,hb1⟩
 obtain ⟨ao,cap,rfl,_,_⟩:=hv
 have HB1:=ah hb1
 clear hb1
 go_wp2_with fail
 refine wp_loop_rounds 1 ?_
 rw [rounds_succ]
 go_wp2_with fail
 refine (HSO.out _).mono ?_
 rintro e w2 ⟨rfl,rfl⟩
 go_wp2_with fail
 refine (HCO.out _).mono ?_
 rintro e w3 ⟨rfl,rfl⟩
 go_wp2_with fail
 go_ret
 exact ⟨rfl,HB1.out⟩
end
section
open Go.RowKit Go.Maps
section
variable {O:Nat → Prop} {N R M:Nat} {w:World} {g:Nat} {q:Int} {L:LK} {sy:Nat → Bool}
theorem StF.put (L:LK) (k:Nat) (x d:ByteArray):StF (L.put k x (some (d,d.size))) k x:=fun e he => by
 rw [LK.bF] at he
 have:=Option.some.inj he
 rw [← this]
def KG (O:Nat → Prop) (N R M:Nat) (g:Nat) (q:Int) (L:LK) (sy:Nat → Bool) (l:List (List UInt8)) (w:World) (e:Ending) (w':World):Prop :=
 e = .returned (.int .i64 0) ∧ ∃ L',DV O N R M w' g q L' (if l = [] then sy else upN sy 0 true) ∧ SmL L L' ∧ (∀ x ∈ l,StF L' 0 (hexN x)) ∧ Kp O w w'
theorem zy (hv:DV O N R M w g q L sy) (hN:N ≤ 1000000) (v:Value) (l:List (List UInt8)) (hr:bB w v l) (hrO:l ≠ [] → ∀ k,v.ownBlock = some k → O k) (h32:∀ x ∈ l,x.length = 32) (hl:∀ x ∈ l,∃ d,L 0 (hexN x) = some d) :
  Calls prog 112 #[.pointer (some ⟨g,0,none⟩),v] w (KG O N R M g q L sy l w):=by
 obtain ⟨zi,hzi,hzl⟩:=tF
 have HROW:=ah (fun W (hk:Kp O w W) => (show bB W v l from aS.chgN hr hk (fun hn b hb h => h (hrO (fun e => hn (by rw [e];rfl)) b hb))))
 obtain ⟨ao,cap,rfl,hmx,_⟩:=hr.open
 have HL:=ah hl
 have H32:=ah h32
 have HI32:=ah bL
 have HV0:=ah hv
 have HNM:=ah (fun x hx W => lF x hx W)
 clear hl h32 hr hrO hv
 unfold maxLen at hmx
 go_enter func112,ntmps112
 go_wp2_with fail
 go_loopw [10] (fun s10 wr => ∃ (k:Nat) (L':LK),k ≤ l.length ∧ s10 = .int .i64 k ∧ Hid (DV O N R M wr g q L' sy) ∧ Hid (SmL L L') ∧ Hid (∀ x ∈ l.take k,StF L' 0 (hexN x)) ∧ Hid (Kp O w wr)) (fun s10 _ => (l.length - intOf s10).toNat)
 case atStart => exact ⟨0,L,by omega,rfl,HV0,ah (SmL.refl L),ah (fun x hx => by simp at hx),ah (Kp.refl _ _)⟩
 obtain ⟨wo,rfl⟩:∃ wo:World,wo = wr:=⟨_,rfl⟩
 obtain ⟨k,L',hk,rfl,HD,HS,HF,HK⟩:=hrel
 obtain ⟨ao2,cap2,e1,_,hv⟩:=(HROW.out wo HK.out).open
 injection e1 with e1 _ e3
 subst e3
 by_cases hlt:k < l.length
 ·obtain ⟨b2,off,e2,hbl2,hcell⟩:=hv (by intro e;rw [e] at hlt;simp at hlt)
  rw [e2] at e1
  subst e1
  have f1:=hcell k hlt
  have hid:=H32.out l[k] (List.getElem_mem hlt)
  obtain ⟨d,hd⟩:=HL.out l[k] (List.getElem_mem hlt)
  obtain ⟨d',hd'⟩:∃ d',L' 0 (hexN l[k]) = some d':=by
   have h3:=HS.out.dk 0 (hexN l[k])
   unfold LK.dk at h3
   rw [hd] at h3
   cases e:L' 0 (hexN l[k]) with
   | none => rw [e] at h3;cases h3
   | some d' => exact ⟨d',rfl⟩
  have HSY:=ah (fun W (hb:Below wo.heap.size wo W) => oO (HD.out.below hb) (k:=0) (x:=hexN l[k]) (by omega) (CQ hid) hd')
  have HTK:Hid (∀ L2:LK,StF L2 0 (hexN l[k]) → (∀ x ∈ l.take k,StF L2 0 (hexN x)) → ∀ x ∈ l.take (k + 1),StF L2 0 (hexN x)):=ah (fun L2 h1 h2 x hx => by
   rw [List.take_succ_eq_append_getElem hlt] at hx
   rcases List.mem_append.1 hx with h | h
   ·exact h2 x h
   simp at h;rw [h];exact h1)
  clear hcell hv e2 hd
  generalize l[k] = en at f1 hid hd' HSY HTK
  have h32s:(prog.info? 42).map (·.size) = some (idC en).length:=by rw [au,hid];exact HI32.out
  have HEO:=ah (aM en)
  have k0:(0:Int) ≤ k:=by omega
  have k1:(k:Int) < l.length:=by omega
  have d1:decide ((k:Int) < l.length) = true:=decide_eq_true k1
  have HEL:Hid ((idC en).length = 32):=ah (by rw [au,hid])
  have HN1:=ah (fun W => HNM.out en hid W)
  have HD':=ah hd'
  unfold hexN at HSY
  have hdn:dirN 0 = ⟨#[108,111,111,115,101]⟩:=rfl
  rw [hdn] at HSY
  clear hid hd' hdn
  go_upto_region 4 with (first | (refine wpList_load_mid rfl 42 _ rfl b2 (off + k * 32) rfl (idC en) _ f1 underlying42 rfl h32s ?_) | (refine aC rfl 42 _ _ rfl zi (idC en) rfl rfl 32 HEL.out hzl HI32.out HEO.out ?_;intro wn hxn hbn hsn))
  have HBN:=ah hbn
  have e0:=hxn.range
  clear f1 hbn hxn
  generalize idC en = ci at HN1 h32s HEO HEL e0
  go_wp2_with (refine wpList_load_mid rfl 42 _ rfl wo.heap.size 0 rfl ci _ e0 underlying42 rfl h32s ?_)
  refine (HN1.out wn).mono ?_
  rintro e w2 ⟨rfl,hb2⟩
  have HB2:=bth HBN hb2
  clear hb2 e0
  go_wp2_with fail
  refine (HSY.out w2 HB2.out).mono ?_
  rintro e w3 ⟨rfl,hd3,hk3⟩
  have HFIN:Hid (DV O N R M w3 g q (L'.put 0 (hexN en) (some (d'.1,d'.1.size))) sy ∧ SmL L (L'.put 0 (hexN en) (some (d'.1,d'.1.size))) ∧ (∀ x ∈ l.take (k + 1),StF (L'.put 0 (hexN en) (some (d'.1,d'.1.size))) 0 (hexN x)) ∧ Kp O w w3):=ah
   ⟨hd3,HS.out.trans (SmL.sync HD'.out),HTK.out _ (StF.put _ _ _ _) (fun x hx => (SmL.sync HD'.out).stf (HF.out x hx)),HK.out.trans ((Kp.of HB2.out).trans hk3)⟩
  clear hd3 hk3
  go_wp2_with fail
  go_roundw
  case rel => exact ⟨k + 1,_,by omega,by go_num,ah HFIN.out.1,ah HFIN.out.2.1,ah HFIN.out.2.2.1,ah HFIN.out.2.2.2⟩
  case measure => simp [intOf];omega
 obtain rfl:k = l.length:=by omega
 have d1:decide ((l.length:Int) < l.length) = false:=decide_eq_false (by omega)
 have HF2:Hid (∀ x ∈ l,StF L' 0 (hexN x)):=ah (by have:=HF.out;rwa [List.take_length] at this)
 clear e1 hv HF
 by_cases h0:l = []
 ·subst h0
  go_wp2_with fail
  go_ret
  exact ⟨rfl,L',by rw [if_pos rfl];exact HD.out,HS.out,HF2.out,HK.out⟩
 have hne:l.length ≠ 0:=fun e => h0 (List.eq_nil_of_length_eq_zero e)
 have d0:((l.length:Int) == 0) = false:=by rw [beq_eq_false_iff_ne];omega
 have HSD:=ah (vB HD.out (k:=0) (by omega) hN)
 have hdn:dirN 0 = ⟨#[108,111,111,115,101]⟩:=rfl
 rw [hdn] at HSD
 clear hdn
 have HNE:=ah h0
 clear h0 hne
 go_wp2_with fail
 refine HSD.out.mono ?_
 rintro e w3 ⟨rfl,hd3,hk3⟩
 have HFIN:Hid (DV O N R M w3 g q L' (upN sy 0 true) ∧ Kp O w w3):=ah ⟨hd3,HK.out.trans hk3⟩
 clear hd3 hk3
 go_wp2_with fail
 go_ret
 exact ⟨rfl,L',by rw [if_neg HNE.out];exact HFIN.out.1,HS.out,HF2.out,HFIN.out.2⟩
end
theorem uO {w:World} {ops:Array Oper} {rest:List Oper} {o2 o3:Oper} {a:Act} {Q:Exit → Act → World → Prop} (h2:o2.guard = none) (h3:o3.guard = none) (x s:Operand) (k2:Nat) (ho2:o2.op = .buildSlice 44 1 #[(0,x)]) (hd2:o2.dst = some k2)
  (ho3:o3.op = .call { callee:=.builtin .append,args:=#[s,.tmp k2],argTypes:=#[44,44] }) (hk2:k2 < a.tmps.size) (c:Idl) (h32:c.length = 32) (hx:a.eval x = .agg (idC c).toArray)
  (base:Nat) (v:Value) (n:Nat) (l:List Idl) (hs:∀ u,(a.put (some k2) u).eval s = v) (hown:OwnQ w base 32 v n (idsF l)) (hn:n ≤ 1000000) (hbase:base ≤ w.heap.size)
  (h:∀ v' w' u,OwnQ w' base 32 v' (n + 1) (idsF (l ++ [c])) → (∀ B,B ≤ w.heap.size → (∀ k,v.ownBlock = some k → B ≤ k) → Below B w w') → wpList prog ops Q rest ((a.put (some k2) u).put o3.dst v') w'):wpList prog ops Q (o2 :: o3 :: rest) a w:=by
 obtain ⟨zc,i0,hi,hz0,hz1,hz2,hzc,hzl⟩:=dH
 have hcl:(idC c).length = 32:=by rw [au,h32]
 refine av h2 x 44 42 ho2 (idC c) zc hx underlying44 (fun w => by rw [hcl];kernel_rfl) hzc (by omega) (by omega) ?_
 rw [hd2]
 have hW:=BoxL.new w 42 (idC c)
 have hbW:Below w.heap.size w (w.alloc (.cells (idC c).toArray 42)):=bal
 have hsW:(w.alloc (.cells (idC c).toArray 42)).heap.size = w.heap.size + 1:=by simp
 generalize w.alloc (.cells (idC c).toArray 42) = W at hW hbW hsW ⊢
 refine eF h3 s (.tmp k2) 44 ho3 base 42 i0 (.agg zc) 32 32 underlying44 hi hz0 hz1 hz2 hzl (by decide) v n (idsF l) (hs _) (hown.below hbW) (some ⟨w.heap.size,0,none⟩) 1 1 (idC c) (by simp [Act.put,Act.eval,hk2]) (by rw [hcl]) (fun _ => ⟨_,rfl,fun j u hu => by
  rw [Addr.add_mid]
  exact hW.range j u hu⟩) (aM c) (by unfold maxLen;omega) (by omega) (by omega) ?_
 intro v' w' g1 g2 g3
 rw [← lG] at g1
 refine h v' w' _ g1 (fun B hB hv => (hbW.mono hB).trans ?_)
 exact (Below.refl B W).grown g2 (by omega) hv
section
variable {O:Nat → Prop} {N R M:Nat} {w:World} {g:Nat} {q:Int} {L:LK} {sy:Nat → Bool}
theorem ET {d:Dk} {x:List UInt8} {n:Nat} (h:dY d x = .inl n):n = 6 ∨ n = 17:=by
 unfold dY at h
 cases e:d 0 (ofB (hexL x)) with
 | none => rw [e] at h;injection h with h;omega
 | some b =>
  rw [e] at h
  dsimp only at h
  cases e2:rdLo (ofB (hexL x)) b with
  | none => rw [e2] at h;injection h with h;omega
  | some o => rw [e2] at h;cases h
def KH (N:Nat) (w:World) (e:Ending) (w':World):Prop:=∃ v m,e = .returned v ∧ OwnQ w' w.heap.size 32 v m.length (idsF m) ∧ (∀ x ∈ m,x.length = 32) ∧ m.length ≤ N ∧ Below w.heap.size w w'
theorem EH (hv:DV O N R M w g q L sy) (hN:N + R ≤ 1000000) (hM:M ≤ 1000000) (hG:Glob w):Calls prog 57 #[.pointer (some ⟨g,0,none⟩)] w (KH N w):=by
 obtain ⟨zi,hzi,hzl⟩:=tF
 obtain ⟨d,hd1,hd2,hd3⟩:=hv.at2 hN
 obtain ⟨ns,hn1,hn2,hn3,hn4⟩:=hv.names (k:=0) (by omega)
 have HLI:=ah (pq g d fM 0 ns w hd1 (by decide) rfl hn1 (fun y => by rw [hn4,hd2 0 y (by omega)]) (fun y hy => by have:=bU (hn3 y hy);omega))
 have HGE:=ah (fun W (hb:Below w.heap.size w W) x hx => rz (x:=x) (hv.below hb) hN hM (hG.below hb) hx)
 have HUN:=ah (fun s W => Du s W)
 have HI32:=ah bL
 have HNL:=ah hn2
 clear hv hd1 hd2 hd3 hn1 hn3 hn4 hn2 hG
 unfold uG at HUN
 go_enter func57,ntmps57
 go_wp2_with fail
 refine HLI.out.mono ?_
 rintro e w1 ⟨v,rfl,hsr,hb1⟩
 obtain ⟨ao,cap,rfl,hmx,hcel⟩:=hsr
 have HB1:=ah hb1
 have HCE:=ah hcel
 unfold maxLen at hmx
 clear hb1 hcel HLI
 go_wp2_with fail
 go_loopw [3,13] (fun s3 s13 wr => ∃ (k:Nat) (m:List Idl),k ≤ ns.length ∧ m.length ≤ k ∧ s13 = .int .i64 k ∧ Hid (OwnQ wr w1.heap.size 32 s3 m.length (idsF m)) ∧ Hid (∀ x ∈ m,x.length = 32) ∧ Hid (Below w1.heap.size w1 wr)) (fun _ s13 _ => (ns.length - intOf s13).toNat)
 case atStart => exact ⟨0,[],by omega,by simp,rfl,ah (iH _ _ _),ah (fun x hx => by cases hx),ah (Below.refl _ _)⟩
 obtain ⟨wo,rfl⟩:∃ wo:World,wo = wr:=⟨_,rfl⟩
 obtain ⟨k,m,hk,hmk,rfl,HQ,HM,HB⟩:=hrel
 by_cases hlt:k < ns.length
 ·obtain ⟨b2,off,rfl,hbl2,hcell⟩:=HCE.out (by intro e;rw [e] at hlt;simp at hlt)
  have f1:=aA (hcell k hlt) HB.out hbl2
  clear hcell
  generalize ns[k] = nm at f1
  have k0:(0:Int) ≤ k:=by omega
  have k1:(k:Int) < ns.length:=by omega
  have d1:decide ((k:Int) < ns.length) = true:=decide_eq_true k1
  have hul:=F5 nm
  have HUL:=ah hul
  have HUX:=ah (fun W => HUN.out nm W)
  have h32s:(prog.info? 42).map (·.size) = some (idC (unId nm)).length:=by rw [au,hul];exact HI32.out
  have HEO:=ah (aM (unId nm))
  have HEL:Hid ((idC (unId nm)).length = 32):=ah (by rw [au,hul])
  have HGX:=ah (fun W (hb:Below wo.heap.size wo W) => HGE.out W (HB1.out.trans ((HB.out.trans (hb.mono HB.out.size)).mono HB1.out.size)) (unId nm) HUL.out)
  clear hul
  generalize unId nm = en at HUL HUX h32s HEO HEL HGX
  go_wp2_with fail
  refine (HUX.out wo).mono ?_
  rintro e w2 ⟨rfl,hb2⟩
  have HB2:=ah hb2
  clear hb2 f1
  go_upto_region 6 with (refine aC rfl 42 _ _ rfl zi (idC en) rfl rfl 32 HEL.out hzl HI32.out HEO.out ?_;intro wn hxn hbn hsn)
  have HBN:=bth HB2 hbn
  have HXN:=ah hxn
  clear hbn hxn
  cases hok:rE nm with
  | false =>
   have HFN:=ah (HB.out.trans (HBN.out.mono HB.out.size))
   have HQN:=ah (HQ.out.below HBN.out)
   go_wp2_with fail
   go_roundw
   case rel => exact ⟨k + 1,m,by omega,by omega,by go_num,HQN,HM,HFN⟩
   case measure => simp [intOf];omega
  | true =>
   have e0:=HXN.out.range
   have HGN:=ah (HGX.out wn HBN.out)
   unfold qz at HGN
   cases hgl:dY L.dk en with
   | inl n =>
    rw [hgl] at HGN
    dsimp only at HGN
    have hn0:=ET hgl
    have d2:((n:Int) == 0) = false:=by rw [beq_eq_false_iff_ne];omega
    clear hgl hn0
    go_wp2_with (refine wpList_load_mid rfl 42 _ rfl w2.heap.size 0 rfl (idC en) _ e0 underlying42 rfl h32s ?_)
    refine HGN.out.mono ?_
    rintro e w4 ⟨rfl,hb4⟩
    have HB4:=bth HBN hb4
    clear hb4 e0
    go_upto_region 8 with fail
    have hb5:Below w4.heap.size w4 (w4.alloc (.cells #[.int .i64 0,.string ⟨#[]⟩] 33)):=bal
    generalize w4.alloc (.cells #[.int .i64 0,.string ⟨#[]⟩] 33) = w5 at hb5 ⊢
    have HB5:=bth HB4 hb5
    have HFN:=ah (HB.out.trans (HB5.out.mono HB.out.size))
    have HQN:=ah (HQ.out.below HB5.out)
    clear hb5
    go_wp2_with fail
    go_roundw
    case rel => exact ⟨k + 1,m,by omega,by omega,by go_num,HQN,HM,HFN⟩
    case measure => simp [intOf];omega
   | inr o =>
    rw [hgl] at HGN
    dsimp only at HGN
    have HCO:=ah (lu o)
    have HCL:Hid ((obC o).length = 2):=ah rfl
    clear hgl
    generalize obC o = co at HGN HCO HCL
    go_wp2_with (refine wpList_load_mid rfl 42 _ rfl w2.heap.size 0 rfl (idC en) _ e0 underlying42 rfl h32s ?_)
    refine HGN.out.mono ?_
    rintro e w4 ⟨rfl,hb4⟩
    have HB4:=bth HBN hb4
    replace HXN:=ah (HXN.out.below hb4)
    clear hb4 e0
    go_upto_region 8 with (refine aC rfl 33 _ _ rfl #[.int .i64 0,.string ⟨#[]⟩] co rfl rfl 2 HCL.out rfl cB HCO.out ?_;intro w5 hx5 hb5 hs5)
    have HB5:=bth HB4 hb5
    replace HXN:=ah (HXN.out.below hb5)
    have HSZ:=ah (HB5.out.size)
    have HQN:=ah (HQ.out.below HB5.out)
    have e0:=HXN.out.range
    clear hb5 hx5
    go_upto_region 9 with fail
    refine wp_region_lit ?_
    refine aO rfl u3 (by first | rfl | (go_simp;done) | (go_simp;rfl)) ?_
    simp only [Act.put,nz]
    refine wpList_load_mid rfl 42 _ rfl w2.heap.size 0 rfl (idC en) _ e0 underlying42 rfl h32s ?_
    simp only [Act.put,nz]
    refine uO rfl rfl _ _ 34 rfl rfl rfl (by simp) en HUL.out rfl w1.heap.size u3 m.length m (fun _ => rfl) HQN.out (by have:=HNL.out;omega) (by have:=HSZ.out;have:=HB.out.size;omega) ?_
    intro v' w' u g1 g2
    simp only [Act.put,nz]
    have HG1:=ah g1
    have HBF:=ah (HB.out.trans ((HB5.out.mono HB.out.size).trans (g2 w1.heap.size (by have:=HSZ.out;have:=HB.out.size;omega) HQ.out.blkR)))
    clear g1 g2
    go_wp2_with fail
    go_roundw
    case rel => exact ⟨k + 1,m ++ [en],by omega,by rw [List.length_append];simp;omega,by go_num,ah (by rw [List.length_append];exact HG1.out),ah (fun x hx => by
     rcases List.mem_append.1 hx with h | h
     ·exact HM.out x h
     simp at h;rw [h];exact HUL.out),HBF⟩
    case measure => simp [intOf];omega
 obtain rfl:k = ns.length:=by omega
 have d1:decide ((ns.length:Int) < ns.length) = false:=decide_eq_false (by omega)
 have HNN:=ah (Nat.le_trans hmk HNL.out)
 have HFN:=ah (HB1.out.trans (HB.out.mono HB1.out.size))
 have HQN:=ah (HQ.out.base HB1.out.size)
 go_wp2_with fail
 go_ret
 exact ⟨_,m,rfl,HQN.out,HM.out,HNN.out,HFN.out⟩
end
structure Sb where
 sb:Nat
 ob:Nat
 g:Nat
 hb:Nat
 mp:Nat
 pn:Nat → Nat
 hd:Nat
 pt:Nat
 vt:Value
 vl:Value
def Sb.cells (B:Sb):List Value:=[.pointer (some ⟨B.ob,0,none⟩),.pointer (some ⟨B.g,0,none⟩),.pointer (some ⟨B.hb,0,none⟩),.map (some (B.pn 0)),.map (some (B.pn 1)),.map (some (B.pn 2)),.map (some (B.pn 3)),.map (some B.hd),.map (some B.pt)]
def Sb.bl (B:Sb):List Nat:=[B.sb,B.ob,B.hb,B.mp,B.pn 0,B.pn 1,B.pn 2,B.pn 3,B.hd,B.pt]
structure SM (O:Nat → Prop) (w:World) (B:Sb) (t l:List Rf) (n:Nat) (P:Nat → List Idl) (U:List Idl) (c:Nat):Prop where
 box:BoxL w B.sb 74 B.cells
 bk:OpO O w B.ob B.g B.vt B.vl t l n
 shf:fZ w B.hb B.mp
 pin:∀ k,k < 4 → SetI w (B.pn k) c (P k)
 hid:SetI w B.hd c []
 put:SetI w B.pt c U
 own:∀ b ∈ B.bl,O b
 nd:B.bl.Nodup
 vt:t ≠ [] → ∀ k,B.vt.ownBlock = some k → k ∉ B.bl
 vl:l ≠ [] → ∀ k,B.vl.ownBlock = some k → k ∉ B.bl
structure SL (L:LK) (sy:Nat → Bool) (t l:List Rf) (F:List Ob) (U:List Idl) (c:Nat):Prop where
 lo:LoF L F
 fc:F.length ≤ c
 nd:(F.map idO).Nodup
 pk:∀ y,L 1 y = none
 bk:∃ m,L 2 bkN = some (ofB (kT t l),m)
 lc:l.length ≤ c
 tm:L 2 (tmpN bkN) = none
 ok:aR t l = true
 uf:∀ o ∈ F,idO o ∉ U → StF L 0 (hexN (idO o))
 up:∀ x ∈ U,∃ o ∈ F,idO o = x
 s0:U = [] → sy 0 = true
section
variable {O:Nat → Prop} {w w':World} {B:Sb} {t l:List Rf} {n:Nat} {P:Nat → List Idl} {U:List Idl} {c:Nat}
theorem SetI.chg {w w':World} {b n:Nat} {l:List Idl} {S:Nat → Prop} (h:SetI w b n l) (hc:Chg S w w') (hb:¬ S b):SetI w' b n l:=h.heap (hc.block b h.lt hb)
theorem fZ.chg {w w':World} {b m:Nat} {S:Nat → Prop} (h:fZ w b m) (hc:Chg S w w') (hb:¬ S b) (hm:¬ S m):fZ w' b m:=⟨h.1.chg hc hb,h.2.chg hc hm⟩
theorem SM.chg {S:Nat → Prop} (h:SM O w B t l n P U c) (hc:Chg S w w') (hS:∀ b,S b → ¬ O b):SM O w' B t l n P U c:=by
 have hn:∀ b ∈ B.bl,¬ S b:=fun b hb hs => hS b hs (h.own b hb)
 exact ⟨h.box.chg hc (hn _ (by simp [Sb.bl])),h.bk.chg hc hS,h.shf.chg hc (hn _ (by simp [Sb.bl])) (hn _ (by simp [Sb.bl])),fun k hk => (h.pin k hk).chg hc (hn _ (by
  obtain rfl | rfl | rfl | rfl:k = 0 ∨ k = 1 ∨ k = 2 ∨ k = 3:=by omega
  all_goals simp [Sb.bl])),h.hid.chg hc (hn _ (by simp [Sb.bl])),h.put.chg hc (hn _ (by simp [Sb.bl])),h.own,h.nd,h.vt,h.vl⟩
theorem SM.kp (h:SM O w B t l n P U c) (hk:Kp O w w'):SM O w' B t l n P U c:=h.chg hk fun _ h => h
theorem SM.below (h:SM O w B t l n P U c) (hb:Below w.heap.size w w'):SM O w' B t l n P U c:=h.chg (Chg.of_below hb:Chg (fun _ => False) w w') fun _ h => h.elim
theorem SM.sub {O':Nat → Prop} (h:SM O w B t l n P U c) (hO:∀ b,O b → O' b):SM O' w B t l n P U c:=⟨h.box,h.bk.sub hO,h.shf,h.pin,h.hid,h.put,fun b hb => hO b (h.own b hb),h.nd,h.vt,h.vl⟩
theorem SM.more {c':Nat} (h:SM O w B t l n P U c) (hc:c ≤ c'):SM O w B t l n P U c':=⟨h.box,h.bk,h.shf,fun k hk => (h.pin k hk).mono hc,h.hid.mono hc,h.put.mono hc,h.own,h.nd,h.vt,h.vl⟩
theorem SL.more {L:LK} {sy:Nat → Bool} {F:List Ob} {c':Nat} (h:SL L sy t l F U c) (hc:c ≤ c'):SL L sy t l F U c':=⟨h.lo,Nat.le_trans h.fc hc,h.nd,h.pk,h.bk,Nat.le_trans h.lc hc,h.tm,h.ok,h.uf,h.up,h.s0⟩
theorem SM.cell (h:SM O w B t l n P U c) {i:Nat} {v:Value} (hv:B.cells[i]? = some v):w.cell? ⟨B.sb,i,none⟩ = some v:=by
 have:=h.box.range i v hv
 rwa [Nat.zero_add] at this
theorem SM.lt (h:SM O w B t l n P U c):B.sb < w.heap.size:=h.box.lt
end
theorem lN {P:Program} {w:World} {a:Act} {oi:Oper} {t:TypeId} {m x:Operand} {b:Bool} {mv xv v:Value} (hop:oi.op = .lookup t m x b) (hm:a.eval m = mv) (hx:a.eval x = xv) (h:(Instr.lookup t mv xv b).run P w = .ok v w):(execOp a.eval oi).run P w = .ok (.value v) w:=by
 unfold execOp
 simp only [hop,hm,hx,Sem.run_bind,h,Result.andThen_ok]
 rfl
theorem I6 {t l:List Rf} (h:aR t l = true) (h32:∀ r ∈ t ++ l,r.2.length = 32):(ofB (kT t l)).size ≤ 1137 + 81 * l.length:=by
 obtain ⟨h1,h2,h3⟩:=jR h
 have e1:=Ij (t:=t) (fun r hr => ⟨h1 r (List.mem_append.2 (.inl hr)),h32 r (List.mem_append.2 (.inl hr))⟩) (by omega)
 have e2:=lK (f:=entB) (n:=81) (l:=l) (fun r hr => qQ (h1 r (List.mem_append.2 (.inr hr))) (h32 r (List.mem_append.2 (.inr hr))))
 rw [bq]
 unfold kT
 rw [List.length_append]
 omega
def fndF (F:List Ob) (x:Idl):Option Ob:=F.find? fun o => decide (idO o = x)
theorem Im {L:LK} {F:List Ob} (h:LoF L F) {x:Idl} (hx:x.length = 32):dY L.dk x = (match fndF F x with | none => .inl 6 | some o => .inr o):=by
 cases e:fndF F x with
 | none =>
  refine h.not (fun _ _ _ => rfl) hx fun o ho e2 => ?_
  have:=List.find?_eq_none.1 e o ho
  simp [e2] at this
 | some o =>
  have h1:=List.find?_some e
  have h2:=List.mem_of_find?_eq_some e
  simp at h1
  rw [← h1]
  exact h.get (fun _ _ _ => rfl) h2
section
variable {O:Nat → Prop} {N R M:Nat} {w:World} {q:Int} {L:LK} {sy:Nat → Bool} {B:Sb} {t l:List Rf} {n:Nat} {P:Nat → List Idl} {U:List Idl} {c:Nat} {F:List Ob}
def l7 (r:Option Ob) (w:World) (e:Ending) (w':World):Prop :=
 (match r with
 | none => e = .returned (.tuple #[.agg #[.int .i64 0,.string ⟨#[]⟩],.bool false])
 | some o => e = .returned (.tuple #[.agg (obC o).toArray,.bool true])) ∧ Below w.heap.size w w'
theorem Gi {r:Option Ob} {w w':World} (h:r = none) (hb:Below w.heap.size w w'):l7 r w (.returned (.tuple #[.agg #[.int .i64 0,.string ⟨#[]⟩],.bool false])) w':=⟨by rw [h],hb⟩
theorem DN {r:Option Ob} {o:Ob} {co:List Value} {w w':World} (h:r = some o) (hc:obC o = co) (hb:Below w.heap.size w w'):l7 r w (.returned (.tuple #[.agg co.toArray,.bool true])) w':=⟨by rw [h,← hc],hb⟩
theorem mW (w:World):(zeroValue 4).run prog w = .ok (.bool false) w:=by kernel_rfl
theorem rO (hv:DV O N R M w B.g q L sy) (hG:Glob w) (hm:SM O w B t l n P U c) (hl:SL L sy t l F U c) (hN:N + R ≤ 1000000) (hM:M ≤ 1000000) (x:Idl) (hx:x.length = 32) :
  Calls prog 12 #[.pointer (some ⟨B.sb,0,none⟩),.agg (idC x).toArray] w (l7 (fndF F x) w):=by
 obtain ⟨W,hW⟩:∃ W,(w.alloc (.cells (idC x).toArray 42)).alloc (.cells #[.int .i64 0,.string ⟨#[]⟩] 33) = W:=⟨_,rfl⟩
 have hbW:Below w.heap.size w W:=by rw [← hW];exact bal.alloc (by simp) _
 have hx0:BoxL W w.heap.size 42 (idC x):=by rw [← hW];exact (BoxL.new w 42 (idC x)).below bal
 have hx1:BoxL W (w.heap.size + 1) 33 [.int .i64 0,.string ⟨#[]⟩]:=by
  rw [← hW]
  have:=BoxL.new (w.alloc (.cells (idC x).toArray 42)) 33 [.int .i64 0,.string ⟨#[]⟩]
  rwa [World.size_alloc] at this
 have HBW:=ah hbW
 have HX0:=ah hx0
 have HX1:=ah hx1
 have HGE:=ah (fun V (hb:Below w.heap.size w V) => rz (x:=x) (hv.below hb) hN hM (hG.below hb) hx)
 have hfg:=Im hl.lo hx
 unfold qz at HGE
 rw [hfg] at HGE
 have hLK:∀ V,Below w.heap.size w V → ∀ ci,idC x = ci → (Instr.lookup 70 (.map (some B.hd)) (.agg ci.toArray) false).run prog V = .ok (.bool false) V:=fun V hb ci he => by
  have:=(hm.below hb).hid.1.look underlying70 (mW V) hx
  rw [← he]
  unfold setF at this
  exact this
 have HSH:=ah (fun V (hb:Below w.heap.size w V) => AJ B.hb B.mp x V (hm.below hb).shf)
 have hcc:∀ V,Below w.heap.size w V → V.cell? ⟨B.sb,1,none⟩ = some (.pointer (some ⟨B.g,0,none⟩)) ∧ V.cell? ⟨B.sb,2,none⟩ = some (.pointer (some ⟨B.hb,0,none⟩)) ∧ V.cell? ⟨B.sb,7,none⟩ = some (.map (some B.hd)):=fun V hb => ⟨(hm.below hb).cell rfl,(hm.below hb).cell rfl,(hm.below hb).cell rfl⟩
 have h32:(prog.info? 42).map (·.size) = some (idC x).length:=by rw [au,hx];exact bL
 have HSB:Hid (B.sb < w.heap.size):=ah hm.lt
 have HW:=ah hW
 have HYES:=ah (fun o co (w':World) (h:fndF F x = some o) (hc:obC o = co) hb => DN (w:=w) (w':=w') h hc hb)
 have HNO:=ah (fun (w':World) (h:fndF F x = none) hb => Gi (w:=w) (w':=w') h hb)
 clear hv hG hm hl hx hW hfg
 generalize hci:idC x = ci at hx0 HX0 HGE HSH h32 HW ⊢
 have HLK:=ah (fun V hb => hLK V hb ci hci)
 clear hci hLK
 have HSX:Hid (∀ V,Below W.heap.size W V → V.rangeAt w.heap.size 0 ci ∧ V.cell? ⟨B.sb,1,none⟩ = some (.pointer (some ⟨B.g,0,none⟩)) ∧ V.cell? ⟨B.sb,2,none⟩ = some (.pointer (some ⟨B.hb,0,none⟩)) ∧ V.cell? ⟨B.sb,7,none⟩ = some (.map (some B.hd)) ∧ (Instr.lookup 70 (.map (some B.hd)) (.agg ci.toArray) false).run prog V = .ok (.bool false) V):=ah (fun V hb => ⟨(HX0.out.below hb).range,(hcc V (HBW.out.trans (hb.mono HBW.out.size))).1,(hcc V (HBW.out.trans (hb.mono HBW.out.size))).2.1,(hcc V (HBW.out.trans (hb.mono HBW.out.size))).2.2,HLK.out V (HBW.out.trans (hb.mono HBW.out.size))⟩)
 clear hcc hx0 hx1 HLK
 go_enter func12,ntmps12
 go_upto_region 1 with fail
 rw [HW.out]
 have hS0:=HSX.out W.drew (Below.refl _ _).drew
 refine wrL 9 (fun x => x.rangeAt w.heap.size 0 ci ∧ x.cell? ⟨B.sb,1,none⟩ = some (.pointer (some ⟨B.g,0,none⟩)) ∧ x.cell? ⟨B.sb,2,none⟩ = some (.pointer (some ⟨B.hb,0,none⟩)) ∧ x.cell? ⟨B.sb,7,none⟩ = some (.map (some B.hd)) ∧ (Instr.lookup 70 (.map (some B.hd)) (.agg ci.toArray) false).run prog x = .ok (.bool false) x) ?_
 refine WL.tk 0 hS0 ?_
 refine WL.tk 1 hS0 ?_
 refine WL.tk 2 hS0 ?_
 refine WL.tk 3 hS0 ?_
 refine WL.tk 4 hS0 ?_
 refine WL.tk 5 hS0 ?_
 refine WL.tk 6 hS0 ?_
 refine WL.tk 7 hS0 ?_ (hy:=(fun w' hSw => aK 42 _ (hSw.1) underlying42 rfl h32 _ rfl rfl))
 refine WL.take (i:=8) (v:=.bool false) rfl (by kernel_rfl) (by decide) (by decide +kernel) (by decide +kernel) (fun _ _ _ h => h) rfl (fun w' hSw => lN rfl rfl rfl hSw.2.2.2.2) hS0 ?_
 simp only [Act.put,nz]
 refine WL.la 9 ?_
 clear hS0
 obtain ⟨w1,hw1⟩:∃ z,W.drew = z:=⟨_,rfl⟩
 have hb1:Below W.heap.size W w1:=by rw [← hw1];exact (Below.refl _ _).drew
 simp only [hw1]
 have HB1:=bth HBW hb1
 have HX1':=ah (HX1.out.below hb1)
 have HSX1:Hid (∀ V,Below w1.heap.size w1 V → V.rangeAt w.heap.size 0 ci ∧ V.cell? ⟨B.sb,1,none⟩ = some (.pointer (some ⟨B.g,0,none⟩)) ∧ V.cell? ⟨B.sb,2,none⟩ = some (.pointer (some ⟨B.hb,0,none⟩)) ∧ V.cell? ⟨B.sb,7,none⟩ = some (.map (some B.hd)) ∧ (Instr.lookup 70 (.map (some B.hd)) (.agg ci.toArray) false).run prog V = .ok (.bool false) V):=ah (fun V hb => HSX.out V (hb1.trans (hb.mono hb1.size)))
 have HGE1:=ah (fun V (hb:Below w1.heap.size w1 V) => HGE.out V (HB1.out.trans (hb.mono HB1.out.size)))
 have HSH1:=ah (fun V (hb:Below w1.heap.size w1 V) => HSH.out V (HB1.out.trans (hb.mono HB1.out.size)))
 have hws:w.heap.size + 1 < w1.heap.size:=HX1'.out.lt
 have HWS:=ah hws
 clear hw1 hb1 HX1 HX0 HGE HSH hws HW
 go_upto_region 3 with fail
 cases hfo:fndF F x with
 | none =>
  rw [hfo] at HGE1
  dsimp only at HGE1
  have HFO:=ah hfo
  clear hfo
  have HS0:=HSX1.out w1.drew (Below.refl _ _).drew
  refine wrL 11 (fun x => x.rangeAt w.heap.size 0 ci ∧ x.cell? ⟨B.sb,1,none⟩ = some (.pointer (some ⟨B.g,0,none⟩)) ∧ x.cell? ⟨B.sb,2,none⟩ = some (.pointer (some ⟨B.hb,0,none⟩)) ∧ x.cell? ⟨B.sb,7,none⟩ = some (.map (some B.hd)) ∧ (Instr.lookup 70 (.map (some B.hd)) (.agg ci.toArray) false).run prog x = .ok (.bool false) x) ?_
  refine WL.tk 0 HS0 ?_
  refine WL.tk 1 HS0 ?_
  refine WL.tk 2 HS0 ?_
  refine WL.tk 3 HS0 ?_
  refine WL.tk 4 HS0 ?_ (hy:=(fun w' hSw => aK 42 _ (hSw.1) underlying42 rfl h32 _ rfl rfl))
  refine WL.tw 5 9 ?_ ?_
  focus
   go_wp2_with fail
   refine (HGE1.out _ (Below.refl _ _).drew).mono ?_
   rintro e w6 ⟨rfl,hb6⟩
   have HB6:=ah (bA hb6)
   have HS6:=HSX1.out w6 HB6.out
   have HB7:Hid (Below w1.heap.size w1 (w6.alloc (.cells #[.int .i64 0,.string ⟨#[]⟩] 33))):=ah (HB6.out.alloc HB6.out.size _)
   have HS7:=HSX1.out _ HB7.out
   have HX7:Hid (BoxL (w6.alloc (.cells #[.int .i64 0,.string ⟨#[]⟩] 33)) w6.heap.size 33 (#[.int .i64 0,.string ⟨#[]⟩]:Array Value).toList):=ah (by have:=BoxL.new w6 33 (#[.int .i64 0,.string ⟨#[]⟩]:Array Value).toList;simpa using this)
   have HBN7:Hid (Below w6.heap.size w6 (w6.alloc (.cells #[.int .i64 0,.string ⟨#[]⟩] 33))):=ah bal
   have hp6:=HB6.out.size
   clear hb6
   go_wp2
   refine ⟨HS6,?_⟩
   refine WL.tk 6 HS6 ?_
   refine WL.tk 7 HS6 ?_
   refine WL.tk 8 HS6 ?_
   refine WL.on 9 ?_
   go_wp2
   refine ⟨HS7,?_⟩
   obtain ⟨P,hP⟩:∃ P,w6.heap.size = P:=⟨_,rfl⟩
   obtain ⟨w7,hw7⟩:∃ w7,w6.alloc (.cells #[.int .i64 0,.string ⟨#[]⟩] 33) = w7:=⟨_,rfl⟩
   rw [hw7] at HB7 HS7 HX7 HBN7  ⊢
   rw [hP] at HX7 hp6 
   simp only [hP]
   clear hP hw7 HS6 HBN7
  rotate_left
  focus
   have HB6:Hid (Below w1.heap.size w1 (w1.alloc (.cells #[.int .i64 0,.string ⟨#[]⟩] 33)).drew):=ah (bal.drew)
   have hx6:BoxL (w1.alloc (.cells #[.int .i64 0,.string ⟨#[]⟩] 33)).drew w1.heap.size 33 (#[.int .i64 0,.string ⟨#[]⟩]:Array Value).toList:=(show BoxL (w1.alloc (.cells #[.int .i64 0,.string ⟨#[]⟩] 33)) w1.heap.size 33 (#[.int .i64 0,.string ⟨#[]⟩]:Array Value).toList from by have:=BoxL.new w1 33 (#[.int .i64 0,.string ⟨#[]⟩]:Array Value).toList;simpa using this)
   have HS6:=HSX1.out _ HB6.out
   go_wp2
   refine ⟨HS6,?_⟩
   refine WL.on 5 ?_
   go_wp2_with fail
   refine (HGE1.out _ HB6.out).mono ?_
   rintro e w7 ⟨rfl,hb7⟩
   have HX7:=ah (hx6.below hb7)
   have HB7:=bth HB6 hb7
   have HS7:=HSX1.out _ HB7.out
   have hp6:w1.heap.size ≤ w1.heap.size:=Nat.le_refl _
   clear hb7 hx6
   go_wp2
   refine ⟨HS7,?_⟩
   refine WL.tk 6 HS7 ?_
   refine WL.tk 7 HS7 ?_
   refine WL.tk 8 HS7 ?_
   obtain ⟨P,hP⟩:∃ P,P = w1.heap.size:=⟨_,rfl⟩
   rw [← hP] at HX7 
   have hp6:w1.heap.size ≤ P:=by omega
   simp only [← hP]
   clear hP HS6
  all_goals
   refine WL.on 10 ?_
   refine aj rfl 33 _ _ rfl P 0 [.int .i64 0,.string ⟨#[]⟩] rfl rfl 2 rfl (by have:=HX7.out.there;simpa [] using this) cB (by intro v hv;simp at hv;rcases hv with rfl | rfl <;> rfl) ?_
   simp only [Act.put,nz]
   have HB8:=ah (below_setCells (B:=w1.heap.size) (a:=w1) P hp6 [.int .i64 0,.string ⟨#[]⟩] 0 w7 HB7.out)
   have HX8:=ah (HX7.out.set (us:=[.int .i64 0,.string ⟨#[]⟩]) (by simp []))
   have HW8:Hid (Chg (fun k => k = P) w7 (w7.setCells P 0 [.int .i64 0,.string ⟨#[]⟩])):=ah (eD P [.int .i64 0,.string ⟨#[]⟩] w7)
   generalize w7.setCells P 0 [.int .i64 0,.string ⟨#[]⟩] = w8 at HB8 HX8 HW8
   have HS8:=HSX1.out _ HB8.out
   refine ⟨HS8,?_⟩
   refine WL.la 11 ?_
   clear HS8 HS7 HS0 HX7 HB7
  all_goals
   have HB9:=ah (HB1.out.trans (HB8.out.mono HB1.out.size))
   have HX9:=ah (HX1'.out.below HB8.out)
   have HSX9:Hid (∀ V,Below w8.heap.size w8 V → V.rangeAt w.heap.size 0 ci ∧ V.cell? ⟨B.sb,1,none⟩ = some (.pointer (some ⟨B.g,0,none⟩)) ∧ V.cell? ⟨B.sb,2,none⟩ = some (.pointer (some ⟨B.hb,0,none⟩)) ∧ V.cell? ⟨B.sb,7,none⟩ = some (.map (some B.hd)) ∧ (Instr.lookup 70 (.map (some B.hd)) (.agg ci.toArray) false).run prog V = .ok (.bool false) V):=ah (fun V hb => HSX1.out V (HB8.out.trans (hb.mono HB8.out.size)))
   have HSH9:=ah (fun V (hb:Below w8.heap.size w8 V) => HSH1.out V (HB8.out.trans (hb.mono HB8.out.size)))
   clear HX8 HW8 HB8 hp6
   go_upto_region 6 with fail
   have hS0':=HSX9.out w8.drew (Below.refl _ _).drew
   have hS0:=And.intro hS0'.1 (And.intro hS0'.2.1 (And.intro hS0'.2.2.1 (And.intro hS0'.2.2.2.1 trivial)))
   clear hS0'
   refine wrL 9 (fun x => x.rangeAt w.heap.size 0 ci ∧ x.cell? ⟨B.sb,1,none⟩ = some (.pointer (some ⟨B.g,0,none⟩)) ∧ x.cell? ⟨B.sb,2,none⟩ = some (.pointer (some ⟨B.hb,0,none⟩)) ∧ x.cell? ⟨B.sb,7,none⟩ = some (.map (some B.hd)) ∧ True) ?_
   refine WL.tk 0 hS0 ?_
   refine WL.tk 1 hS0 ?_
   refine WL.tk 2 hS0 ?_
   refine WL.tk 3 hS0 ?_
   refine WL.tk 4 hS0 ?_ (hy:=(fun w' hSw => aK 42 _ (hSw.1) underlying42 rfl h32 _ rfl rfl))
   refine WL.on 5 ?_
   go_wp2_with fail
   refine (HSH9.out _ (Below.refl _ _).drew).mono ?_
   rintro e wb ⟨rfl,hbb⟩
   have HBB:=ah (bA hbb)
   have hS1':=HSX9.out wb HBB.out
   have hS1:=And.intro hS1'.1 (And.intro hS1'.2.1 (And.intro hS1'.2.2.1 (And.intro hS1'.2.2.2.1 trivial)))
   clear hS1'
   have HXB:=ah (HX9.out.below HBB.out)
   clear hbb hS0
   go_wp2_with fail
   refine ⟨hS1,?_⟩
   refine WL.tk 6 hS1 ?_
   refine WL.tk 7 hS1 ?_
   refine WL.on 8 ?_
   obtain ⟨WE,hWE⟩:∃ z,wb.setCells (w.heap.size + 1) 0 [.int .i64 0,.string ⟨#[]⟩] = z:=⟨_,rfl⟩
   have hth:=HXB.out.there
   have hre:WE.rangeAt (w.heap.size + 1) 0 [.int .i64 0,.string ⟨#[]⟩]:=by rw [← hWE];exact (HXB.out.set (us:=[.int .i64 0,.string ⟨#[]⟩]) rfl).range
   have HBE:Hid (Below w.heap.size w WE):=ah (by rw [← hWE];exact below_setCells _ (by omega) _ _ _ (HB9.out.trans (HBB.out.mono HB9.out.size)))
   have hSE:WE.rangeAt w.heap.size 0 ci ∧ WE.cell? ⟨B.sb,1,none⟩ = some (.pointer (some ⟨B.g,0,none⟩)) ∧ WE.cell? ⟨B.sb,2,none⟩ = some (.pointer (some ⟨B.hb,0,none⟩)) ∧ WE.cell? ⟨B.sb,7,none⟩ = some (.map (some B.hd)) ∧ True:=by
    have hsb:=HSB.out
    rw [← hWE]
    exact ⟨World.rangeAt_setCells_apart hS1.1 _ 0 _ (.inl (by omega)),(World.cell?_setCells_out _ _ 0 wb _ (fun e _ => absurd e (by show ¬ B.sb = _;omega))).trans hS1.2.1,(World.cell?_setCells_out _ _ 0 wb _ (fun e _ => absurd e (by show ¬ B.sb = _;omega))).trans hS1.2.2.1,(World.cell?_setCells_out _ _ 0 wb _ (fun e _ => absurd e (by show ¬ B.sb = _;omega))).trans hS1.2.2.2.1,trivial⟩
   have h2:(prog.info? 33).map (·.size) = some ([.int .i64 0,.string ⟨#[]⟩]:List Value).length:=cB
   refine aj rfl 33 _ _ rfl (w.heap.size + 1) 0 [.int .i64 0,.string ⟨#[]⟩] rfl rfl 2 rfl hth cB (by intro v hv;simp at hv;rcases hv with rfl | rfl <;> rfl) ?_
   rw [hWE]
   simp only [Act.put,nz]
   refine ⟨hSE,?_⟩
   refine WL.la 9 ?_
   clear hSE hS1 hth hWE
   go_wp2_with fail
   refine aL rfl (w.heap.size + 1) 0 rfl [.int .i64 0,.string ⟨#[]⟩] _ hre underlying33 rfl h2 rfl _ rfl ?_
   exact HNO.out WE HFO.out HBE.out
 | some o =>
  rw [hfo] at HGE1
  dsimp only at HGE1
  have HFO:=ah hfo
  have HCL:Hid ((obC o).length = 2):=ah rfl
  have HCO:=ah (lu o)
  clear hfo
  generalize hco:obC o = co at HGE1 HCL HCO
  have HCC:=ah hco
  clear hco
  have HS0:=HSX1.out w1.drew (Below.refl _ _).drew
  refine wrL 11 (fun x => x.rangeAt w.heap.size 0 ci ∧ x.cell? ⟨B.sb,1,none⟩ = some (.pointer (some ⟨B.g,0,none⟩)) ∧ x.cell? ⟨B.sb,2,none⟩ = some (.pointer (some ⟨B.hb,0,none⟩)) ∧ x.cell? ⟨B.sb,7,none⟩ = some (.map (some B.hd)) ∧ (Instr.lookup 70 (.map (some B.hd)) (.agg ci.toArray) false).run prog x = .ok (.bool false) x) ?_
  refine WL.tk 0 HS0 ?_
  refine WL.tk 1 HS0 ?_
  refine WL.tk 2 HS0 ?_
  refine WL.tk 3 HS0 ?_
  refine WL.tk 4 HS0 ?_ (hy:=(fun w' hSw => aK 42 _ (hSw.1) underlying42 rfl h32 _ rfl rfl))
  refine WL.tw 5 9 ?_ ?_
  focus
   go_wp2_with fail
   refine (HGE1.out _ (Below.refl _ _).drew).mono ?_
   rintro e w6 ⟨rfl,hb6⟩
   have HB6:=ah (bA hb6)
   have HS6:=HSX1.out w6 HB6.out
   have HB7:Hid (Below w1.heap.size w1 (w6.alloc (.cells #[.int .i64 0,.string ⟨#[]⟩] 33))):=ah (HB6.out.alloc HB6.out.size _)
   have HS7:=HSX1.out _ HB7.out
   have HX7:Hid (BoxL (w6.alloc (.cells #[.int .i64 0,.string ⟨#[]⟩] 33)) w6.heap.size 33 (#[.int .i64 0,.string ⟨#[]⟩]:Array Value).toList):=ah (by have:=BoxL.new w6 33 (#[.int .i64 0,.string ⟨#[]⟩]:Array Value).toList;simpa using this)
   have HBN7:Hid (Below w6.heap.size w6 (w6.alloc (.cells #[.int .i64 0,.string ⟨#[]⟩] 33))):=ah bal
   have hp6:=HB6.out.size
   clear hb6
   go_wp2
   refine ⟨HS6,?_⟩
   refine WL.tk 6 HS6 ?_
   refine WL.tk 7 HS6 ?_
   refine WL.tk 8 HS6 ?_
   refine WL.on 9 ?_
   go_wp2
   refine ⟨HS7,?_⟩
   obtain ⟨P,hP⟩:∃ P,w6.heap.size = P:=⟨_,rfl⟩
   obtain ⟨w7,hw7⟩:∃ w7,w6.alloc (.cells #[.int .i64 0,.string ⟨#[]⟩] 33) = w7:=⟨_,rfl⟩
   rw [hw7] at HB7 HS7 HX7 HBN7  ⊢
   rw [hP] at HX7 hp6 
   simp only [hP]
   clear hP hw7 HS6 HBN7
  rotate_left
  focus
   have HB6:Hid (Below w1.heap.size w1 (w1.alloc (.cells #[.int .i64 0,.string ⟨#[]⟩] 33)).drew):=ah (bal.drew)
   have hx6:BoxL (w1.alloc (.cells #[.int .i64 0,.string ⟨#[]⟩] 33)).drew w1.heap.size 33 (#[.int .i64 0,.string ⟨#[]⟩]:Array Value).toList:=(show BoxL (w1.alloc (.cells #[.int .i64 0,.string ⟨#[]⟩] 33)) w1.heap.size 33 (#[.int .i64 0,.string ⟨#[]⟩]:Array Value).toList from by have:=BoxL.new w1 33 (#[.int .i64 0,.string ⟨#[]⟩]:Array Value).toList;simpa using this)
   have HS6:=HSX1.out _ HB6.out
   go_wp2
   refine ⟨HS6,?_⟩
   refine WL.on 5 ?_
   go_wp2_with fail
   refine (HGE1.out _ HB6.out).mono ?_
   rintro e w7 ⟨rfl,hb7⟩
   have HX7:=ah (hx6.below hb7)
   have HB7:=bth HB6 hb7
   have HS7:=HSX1.out _ HB7.out
   have hp6:w1.heap.size ≤ w1.heap.size:=Nat.le_refl _
   clear hb7 hx6
   go_wp2
   refine ⟨HS7,?_⟩
   refine WL.tk 6 HS7 ?_
   refine WL.tk 7 HS7 ?_
   refine WL.tk 8 HS7 ?_
   obtain ⟨P,hP⟩:∃ P,P = w1.heap.size:=⟨_,rfl⟩
   rw [← hP] at HX7 
   have hp6:w1.heap.size ≤ P:=by omega
   simp only [← hP]
   clear hP HS6
  all_goals
   refine WL.on 10 ?_
   refine aj rfl 33 _ _ rfl P 0 co rfl rfl 2 HCL.out (by have:=HX7.out.there;simpa [HCL.out] using this) cB HCO.out ?_
   simp only [Act.put,nz]
   have HB8:=ah (below_setCells (B:=w1.heap.size) (a:=w1) P hp6 co 0 w7 HB7.out)
   have HX8:=ah (HX7.out.set (us:=co) (by simp [HCL.out]))
   have HW8:Hid (Chg (fun k => k = P) w7 (w7.setCells P 0 co)):=ah (eD P co w7)
   generalize w7.setCells P 0 co = w8 at HB8 HX8 HW8
   have HS8:=HSX1.out _ HB8.out
   refine ⟨HS8,?_⟩
   refine WL.la 11 ?_
   clear HS8 HS7 HS0 HX7 HB7
  all_goals
   have HB9:=ah (HB1.out.trans (HB8.out.mono HB1.out.size))
   have HX9:=ah (HX1'.out.below HB8.out)
   have e9:=HX8.out.range
   have h2c:(prog.info? 33).map (·.size) = some co.length:=by rw [HCL.out];exact cB
   obtain ⟨WE,hWE⟩:∃ z,w8.setCells (w.heap.size + 1) 0 co = z:=⟨_,rfl⟩
   have hth:=HX9.out.there
   have hre:WE.rangeAt (w.heap.size + 1) 0 co:=by rw [← hWE];exact (HX9.out.set (us:=co) (by rw [HCL.out];rfl)).range
   have HBE:Hid (Below w.heap.size w WE):=ah (by rw [← hWE];exact below_setCells _ (by omega) _ _ _ HB9.out)
   have HWE:=ah hWE
   clear HW8 HB8 hWE
   go_wp2_with (first | (refine wpList_load_mid rfl 33 _ rfl P 0 rfl co _ e9 underlying33 rfl h2c ?_) | (refine aj rfl 33 _ _ rfl (w.heap.size + 1) 0 co rfl rfl 2 HCL.out hth cB HCO.out ?_;rw [HWE.out]))
   refine aL rfl (w.heap.size + 1) 0 rfl co _ hre underlying33 rfl h2c rfl _ rfl ?_
   exact HYES.out o co WE HFO.out HCC.out HBE.out
end
end
section
open Go.RowKit Go.Maps Go.Shelf
theorem OwnQ.iP {w:World} {B sz n:Nat} {v:Value} {xs:List Value} (h:OwnQ w B sz v n xs):∃ ao c,v = .slice ao n c:=by
 rcases h.2 with ⟨rfl,rfl⟩ | ⟨g,off,cap,rfl,_⟩
 ·exact ⟨_,_,rfl⟩
 exact ⟨_,_,rfl⟩
theorem Ik (n:Nat) (hn:n ≤ 100000) (w:World):Calls prog 101 #[.slice none 0 0,.int .i64 (n:Int)] w fun e w' => ∃ v,e = .returned v ∧ OwnQ w' w.heap.size 32 v 0 [] ∧ Below w.heap.size w w':=by
 obtain ⟨zc,i0,hi,hz0,hz1,hz2,hzc,hzl⟩:=dH
 by_cases h0:n = 0
 ·subst h0
  have h:=Any8.slices_Grow_room Tryz.growI none 0 0 0 w (Nat.le_refl _) (by omega) (by omega) (Nat.le_refl _)
  refine h.mono ?_
  rintro e w' ⟨rfl,rfl⟩
  exact ⟨_,rfl,iH _ _ _,Below.refl _ _⟩
 have h:=Any8.slices_Grow_grow Tryz.growI i0 (.agg zc) hi hz0 (by rw [hz1];decide) none 0 0 n [] w (Nat.le_refl _) (by omega) (by rw [hz2];omega) (by omega) (by simp) (fun _ => rfl) (fun a ha => by cases ha)
 refine h.mono ?_
 rintro e w' ⟨rfl,rfl⟩
 have hge:=grownCap_ge w (0 + n) 0 42
 have hle:=grownCap_le_maxLen w (0 + n) 0 42 (by unfold maxLen;omega)
 refine ⟨_,rfl,⟨rfl,.inr ⟨w.heap.size,0,grownCap w (0 + n) 0 42,rfl,Nat.le_refl _,?_,Nat.zero_le _,hle,?_,fun j u hu => by simp at hu⟩⟩,?_⟩
 ·show w.heap.size < (w.drew.alloc _).heap.size
  rw [World.size_alloc]
  exact Nat.lt_succ_self _
 ·refine there_alloc w.drew _ _ ?_
  simp [Builtin.zeroCells,Value.cells,hzl]
  have:n * 32 + (grownCap w n 0 42 - n) * 32 = grownCap w n 0 42 * 32:=by
   rw [Nat.zero_add] at hge
   rw [← Nat.add_mul];congr 1;omega
  exact this
 exact (Below.refl w.heap.size w).drew.alloc (Nat.le_refl _) _
theorem BQ (b:Nat) (v1:Value) (m:List Idl) (w:World) (c0:w.cell? ⟨b,0,none⟩ = some v1) (c1:w.cell? ⟨b,1,none⟩ = some (.slice none 0 0)) (hr:bB w v1 m) (h32:∀ x ∈ m,x.length = 32) (hm:m.length ≤ 100000) :
  Calls prog 56 #[.slice (some ⟨b,0,none⟩) 2 2] w fun e w' => ∃ v,e = .returned v ∧ OwnQ w' w.heap.size 32 v m.length (idsF m) ∧ Below w.heap.size w w':=by
 obtain ⟨zc,i0,hi,hz0,hz1,hz2,hzc,hzl⟩:=dH
 have hbl:=World.block_lt_of_cell? w _ c0
 have HROW:=ah (fun V (hb:Below w.heap.size w V) => bB.flat (show bB V v1 m from aS.below hr hb) h32)
 obtain ⟨ao,cap,rfl,_,_⟩:=hr.open
 have HGR:=ah (Ik m.length hm w)
 have q0:IntKind.i64.wrap (m.length:Int) = (m.length:Int):=IntWalk.i64_in _ (by omega)
 have q1:decide ((m.length:Int) < 0) = false:=decide_eq_false (by omega)
 have HC0:=ah (fun V (hb:Below w.heap.size w V) => aA c0 hb hbl)
 have HC1:=ah (fun V (hb:Below w.heap.size w V) => aA c1 hb hbl)
 have HM32:=ah (tC m h32)
 have HMO:=ah (Hy m)
 have HML:=ah hm
 clear hr h32 hm
 go_enter func56,ntmps56
 go_wp2_with fail
 refine wp_loop_rounds 3 ?_
 rw [rounds_succ]
 go_wp2_with fail
 rw [rounds_succ]
 go_wp2_with fail
 rw [rounds_succ]
 go_wp2_with fail
 refine HGR.out.mono ?_
 rintro e w1 ⟨v,rfl,hq,hb1⟩
 have HB1:=ah hb1
 have HQ1:=ah hq
 have d0:=HC0.out w1 hb1
 have d1:=HC1.out w1 hb1
 obtain ⟨vo,vc,rfl⟩:=hq.iP
 obtain ⟨ao',cap',e1,hfl⟩:=HROW.out w1 hb1
 injection e1 with e1 _ e2
 subst e1 e2
 have HFL:=ah hfl
 clear hb1 hq hfl HGR q0 q1
 go_wp2_with fail
 refine wp_loop_rounds 3 ?_
 rw [rounds_succ]
 go_wp2_with (refine eF rfl _ _ 44 rfl w.heap.size 42 i0 (.agg zc) 32 32 underlying44 hi hz0 hz1 hz2 hzl (by decide) _ 0 [] rfl HQ1.out ao m.length cap (idsF m) rfl HM32.out HFL.out HMO.out (by have:=HML.out;unfold maxLen;omega) (by have:=HML.out;omega) HB1.out.size ?_;intro v2 w2 g1 g2 g3)
 rw [Nat.zero_add,List.nil_append] at g1
 have HQ2:=ah g1
 have HB2:=ah (HB1.out.grown g2 HB1.out.size HQ1.out.blkR)
 have d2:=HC1.out w2 HB2.out
 obtain ⟨uo,uc,rfl⟩:=g1.iP
 clear g1 g2 g3 d0 d1
 go_wp2_with fail
 rw [rounds_succ]
 go_wp2_with (refine eF rfl _ _ 44 rfl w.heap.size 42 i0 (.agg zc) 32 32 underlying44 hi hz0 hz1 hz2 hzl (by decide) _ m.length (idsF m) rfl HQ2.out none 0 0 [] rfl rfl (fun h => absurd h (by decide)) (fun u hu => by cases hu) (by have:=HML.out;unfold maxLen;omega) (by have:=HML.out;omega) HB2.out.size ?_;intro v3 w3 g1 g2 g3)
 rw [Nat.add_zero,List.append_nil] at g1
 have HQ3:=ah g1
 have HB3:=ah (HB2.out.grown g2 HB2.out.size HQ2.out.blkR)
 obtain ⟨xo,xc,rfl⟩:=g1.iP
 clear g1 g2 g3 d2
 go_wp2_with fail
 rw [rounds_succ]
 go_wp2_with fail
 go_ret
 exact ⟨_,rfl,HQ3.out,HB3.out⟩
end
section
open Go.RowKit Go.Maps
theorem DZ {S:Nat → Prop} {w w':World} {b o:Nat} {cs:List Value} (h:w.rangeAt b o cs) (hc:Chg S w w') (hl:b < w.heap.size) (hb:¬ S b):w'.rangeAt b o cs:=fun j v hv => by
 rw [World.cell?_of_block (hc.block b hl hb)]
 exact h j v hv
section
variable {O:Nat → Prop} {N R M:Nat} {w:World} {q:Int} {L:LK} {sy:Nat → Bool} {B:Sb} {t l:List Rf} {n:Nat} {P:Nat → List Idl} {U:List Idl} {c:Nat} {F:List Ob}
def KE (N:Nat) (w:World) (e:Ending) (w':World):Prop:=∃ v m,e = .returned v ∧ bB w' v m ∧ m.length ≤ N ∧ Below w.heap.size w w'
theorem Gh (hv:DV O N R M w B.g q L sy) (hG:Glob w) (hm:SM O w B t l n P U c) (hN:N + R ≤ 1000000) (hN2:N ≤ 1000) (hM:M ≤ 1000000):Calls prog 23 #[.pointer (some ⟨B.sb,0,none⟩)] w (KE N w):=by
 obtain ⟨zi,hzi,hzl⟩:=tF
 have hmm:=@run_makeMap prog
 obtain ⟨W,hW⟩:∃ W,w.alloc (.map #[] 0) = W:=⟨_,rfl⟩
 have hbW:Below w.heap.size w W:=by rw [← hW];exact bal
 have hst:SetI W w.heap.size 0 []:=by rw [← hW];exact iy w
 have HBW:=ah hbW
 have HST:=ah hst
 have HWW:Hid (w.heap.size < W.heap.size):=ah hst.lt
 have HLI:=ah (fun V (hb:Below w.heap.size w V) => EH (hv.below hb) hN hM (hG.below hb))
 have HSI:=ah (fun V (hb:Below w.heap.size w V) => AB B.hb B.mp V (hm.below hb).shf)
 have HRI:=ah (fun k S V (hs:SetI V w.heap.size k S) (hl:S.length ≤ 1000) => kE w.heap.size k S V hs (by omega))
 have HMM:=ah hm
 have HSX:Hid (∀ V,Below w.heap.size w V → V.cell? ⟨B.sb,1,none⟩ = some (.pointer (some ⟨B.g,0,none⟩)) ∧ V.cell? ⟨B.sb,2,none⟩ = some (.pointer (some ⟨B.hb,0,none⟩))):=ah (fun V hb => ⟨(hm.below hb).cell rfl,(hm.below hb).cell rfl⟩)
 have HW:=ah hW
 have HI32:=ah bL
 unfold KH at HLI
 clear hv hG hm hW hst hbW
 go_enter func23,ntmps23
 go_upto_region 4 with fail
 rw [HW.out]
 have hS0:=HSX.out W.drew HBW.out.drew
 refine pI 14 (fun x => x.cell? ⟨B.sb,1,none⟩ = some (.pointer (some ⟨B.g,0,none⟩)) ∧ x.cell? ⟨B.sb,2,none⟩ = some (.pointer (some ⟨B.hb,0,none⟩))) (by kernel_rfl) (by kernel_rfl) ?_
 refine WN.take (i:=0) (v:=?_) rfl (by kernel_rfl) (by decide) (by decide +kernel) (by decide +kernel) (fun _ _ _ h => h) rfl ?_ hS0 ?_
 rotate_left
 ·(intro w' hSw;(try dsimp only at hSw);go_simp;(try with_reducible rfl))
 simp only [Act.put,nz]
 refine WN.take (i:=1) (v:=?_) rfl (by kernel_rfl) (by decide) (by decide +kernel) (by decide +kernel) (fun _ _ _ h => h) rfl ?_ hS0 ?_
 rotate_left
 ·(intro w' hSw;(try dsimp only at hSw);go_simp;(try with_reducible rfl))
 simp only [Act.put,nz]
 refine WN.take (i:=2) (v:=?_) rfl (by kernel_rfl) (by decide) (by decide +kernel) (by decide +kernel) (fun _ _ _ h => h) rfl ?_ hS0 ?_
 rotate_left
 ·(intro w' hSw;(try dsimp only at hSw);go_simp;(try with_reducible rfl))
 simp only [Act.put,nz]
 refine WN.take (i:=3) (v:=?_) rfl (by kernel_rfl) (by decide) (by decide +kernel) (by decide +kernel) (fun _ _ _ h => h) rfl ?_ hS0 ?_
 rotate_left
 ·(intro w' hSw;(try dsimp only at hSw);go_simp;(try with_reducible rfl))
 simp only [Act.put,nz]
 refine WN.take (i:=5) (v:=?_) rfl (by kernel_rfl) (by decide) (by decide +kernel) (by decide +kernel) (fun _ _ _ h => h) rfl ?_ hS0 ?_
 rotate_left
 ·(intro w' hSw;(try dsimp only at hSw);go_simp;(try with_reducible rfl))
 simp only [Act.put,nz]
 refine WN.take (i:=6) (v:=?_) rfl (by kernel_rfl) (by decide) (by decide +kernel) (by decide +kernel) (fun _ _ _ h => h) rfl ?_ hS0 ?_
 rotate_left
 ·(intro w' hSw;(try dsimp only at hSw);go_simp;(try with_reducible rfl))
 simp only [Act.put,nz]
 refine WN.take (i:=7) (v:=?_) rfl (by kernel_rfl) (by decide) (by decide +kernel) (by decide +kernel) (fun _ _ _ h => h) rfl ?_ hS0 ?_
 rotate_left
 ·(intro w' hSw;(try dsimp only at hSw);go_simp;(try with_reducible rfl))
 simp only [Act.put,nz]
 refine WN.take (i:=8) (v:=?_) rfl (by kernel_rfl) (by decide) (by decide +kernel) (by decide +kernel) (fun _ _ _ h => h) rfl ?_ hS0 ?_
 rotate_left
 ·(intro w' hSw;(try dsimp only at hSw);go_simp;(try with_reducible rfl))
 simp only [Act.put,nz]
 refine WN.take (i:=13) (v:=?_) rfl (by kernel_rfl) (by decide) (by decide +kernel) (by decide +kernel) (fun _ _ _ h => h) rfl ?_ hS0 ?_
 rotate_left
 ·(intro w' hSw;(try dsimp only at hSw);go_simp;(try with_reducible rfl))
 simp only [Act.put,nz]
 refine WL.on 4 ?_
 go_wp2_with fail
 refine (HLI.out W.drew HBW.out.drew).mono ?_
 rintro e w1 ⟨v,m,rfl,hq,h32,hml,hb1⟩
 have hsW:w.heap.size < W.heap.size:=by have:=HST.out.lt;exact this
 have HB1:=ah (HBW.out.trans ((bA hb1).mono HBW.out.size))
 have HST1:=ah (HST.out.on (bA hb1))
 have HR1:=ah (hq.row h32)
 have HM32:=ah h32
 have HML:=ah hml
 obtain ⟨va,vc,rfl⟩:=hq.iP
 have hS1:=HSX.out w1 HB1.out
 clear hb1 hq h32 hml hS0
 go_wp2_with fail
 refine ⟨hS1,?_⟩
 refine WL.on 9 ?_
 go_wp2_with fail
 refine (HSI.out w1 HB1.out).mono ?_
 rintro e w2 ⟨rfl,hb2⟩
 have HB2:=bth HB1 hb2
 have HST2:=ah (HST1.out.on hb2)
 have HR2:=ah (show bB w2 (.slice va m.length vc) m from aS.below HR1.out hb2)
 have hS2:=HSX.out w2 HB2.out
 clear hb2 hS1 HR1
 go_wp2_with fail
 refine ⟨hS2,?_⟩
 refine WL.on 10 ?_
 go_wp2_with fail
 have HX3:=ah (BoxL.new w2 44 [.slice va m.length vc,.slice none 0 0])
 have hb3:Below w2.heap.size w2 (w2.alloc (.cells #[.slice va m.length vc,.slice none 0 0] 44)):=bal
 have HX3:Hid (BoxL (w2.alloc (.cells #[.slice va m.length vc,.slice none 0 0] 44)) w2.heap.size 44 [.slice va m.length vc,.slice none 0 0]):=ah HX3.out
 generalize w2.alloc (.cells #[.slice va m.length vc,.slice none 0 0] 44) = w3 at hb3 HX3 ⊢
 have HB3:=bth HB2 hb3
 have HST3:=ah (HST2.out.on hb3)
 have HW3:Hid (w.heap.size < w3.heap.size):=ah HST3.out.lt
 have HCN:=ah (BQ w2.heap.size (.slice va m.length vc) m w3 (HX3.out.range 0 _ rfl) (HX3.out.range 1 _ rfl) (show bB w3 (.slice va m.length vc) m from aS.below HR2.out hb3) HM32.out (by have:=HML.out;omega))
 have hS3:=HSX.out w3 HB3.out
 clear hb3 hS2 HR2
 refine ⟨hS3,?_⟩
 refine WL.on 11 ?_
 go_wp2_with fail
 refine HCN.out.mono ?_
 rintro e w4 ⟨v4,rfl,hq4,hb4⟩
 have HB4:=bth HB3 hb4
 have HST4:=ah (HST3.out.on hb4)
 have HR4:=ah (hq4.row HM32.out)
 have HBK:=ah hq4.blkR
 obtain ⟨ya,yc,rfl⟩:=hq4.iP
 have hS4:=HSX.out w4 HB4.out
 clear hb4 hS3 HCN hq4 HX3
 go_wp2_with fail
 refine ⟨hS4,?_⟩
 refine WN.take (i:=12) (v:=?_) rfl (by kernel_rfl) (by decide) (by decide +kernel) (by decide +kernel) (fun _ _ _ h => h) rfl ?_ hS4 ?_
 rotate_left
 ·(intro w' hSw;(try dsimp only at hSw);go_simp;(try with_reducible rfl))
 simp only [Act.put,nz]
 refine WN.done rfl (by decide +kernel) ?_
 clear hS4 HST HST1 HST2 HST3 HLI HSI HB1 HB2
 obtain ⟨_,_,e1,hmx,hcel⟩:=HR4.out.open
 injection e1 with e1 _ e3
 subst e1 e3
 have HCE:=ah hcel
 clear hcel
 unfold maxLen at hmx
 go_wp2_with fail
 go_loopw [22] (fun s22 wr => ∃ (k:Nat) (S:List Idl),k ≤ m.length ∧ S.length ≤ k ∧ s22 = .int .i64 k ∧ Hid (SetI wr w.heap.size k S) ∧ Hid (Below w.heap.size w wr) ∧ Hid (Chg (fun b => b = w.heap.size) w4 wr)) (fun s22 _ => (m.length - intOf s22).toNat)
 case atStart => exact ⟨0,[],by omega,by simp,rfl,HST4,HB4,ah (Chg.refl _ _)⟩
 obtain ⟨wo,rfl⟩:∃ wo:World,wo = wr:=⟨_,rfl⟩
 obtain ⟨k,S,hk,hSk,rfl,HS,HB,HC⟩:=hrel
 by_cases hlt:k < m.length
 ·obtain ⟨b2,off,rfl,hbl2,hcell⟩:=HCE.out (by intro e;rw [e] at hlt;simp at hlt)
  have f1:=hcell k hlt
  have hid:=HM32.out m[k] (List.getElem_mem hlt)
  have hne:¬ b2 = w.heap.size:=by have h1:=HBK.out b2 rfl;have h2:=HB3.out.size;have h3:=HW3.out;omega
  have f2:=DZ f1 HC.out hbl2 hne
  clear hcell f1 hne
  generalize m[k] = en at f2 hid
  have h32s:(prog.info? 42).map (·.size) = some (idC en).length:=by rw [au,hid];exact HI32.out
  have HEO:=ah (aM en)
  have k0:(0:Int) ≤ k:=by omega
  have k1:(k:Int) < m.length:=by omega
  have d1:decide ((k:Int) < m.length) = true:=decide_eq_true k1
  have HEL:Hid ((idC en).length = 32):=ah (by rw [au,hid])
  have HID:=ah hid
  have hLK:∀ V,Below w.heap.size w V → ∀ ci,idC en = ci → (Instr.lookup 70 (.map (some B.hd)) (.agg ci.toArray) false).run prog V = .ok (.bool false) V:=fun V hb ci he => by
   have:=(HMM.out.below hb).hid.1.look underlying70 (mW V) hid
   rw [← he]
   unfold setF at this
   exact this
  obtain ⟨ci,hci⟩:∃ z,idC en = z:=⟨_,rfl⟩
  have HLK:=ah (fun V hb => hLK V hb ci hci)
  have HCI:=ah hci
  rw [hci] at f2 h32s HEO HEL
  clear hid hLK hci
  go_upto_region 7 with (first | (refine wpList_load_mid rfl 42 _ rfl b2 (off + k * 32) rfl ci _ f2 underlying42 rfl h32s ?_) | (refine aC rfl 42 _ _ rfl zi ci rfl rfl 32 HEL.out hzl HI32.out HEO.out ?_;intro wn hxn hbn hsn))
  have HBN:=ah hbn
  have HXN:=ah hxn
  have HSN:=ah (HS.out.on hbn)
  have hbw:Below w.heap.size w wn.drew:=(HB.out.trans (hbn.mono HB.out.size)).drew
  have hS0:wn.drew.cell? ⟨B.sb,7,none⟩ = some (.map (some B.hd)) ∧ wn.drew.rangeAt wo.heap.size 0 ci ∧ (Instr.lookup 70 (.map (some B.hd)) (.agg ci.toArray) false).run prog wn.drew = .ok (.bool false) wn.drew:=⟨(HMM.out.below hbw).cell rfl,hxn.range,HLK.out _ hbw⟩
  clear hbn hxn f2 hbw
  refine wrL 6 (fun x => x.cell? ⟨B.sb,7,none⟩ = some (.map (some B.hd)) ∧ x.rangeAt wo.heap.size 0 ci ∧ (Instr.lookup 70 (.map (some B.hd)) (.agg ci.toArray) false).run prog x = .ok (.bool false) x) ?_
  refine WL.tk 0 hS0 ?_
  refine WL.tk 1 hS0 ?_
  refine WL.tk 2 hS0 ?_
  refine WL.tk 3 hS0 ?_
  refine WL.tk 4 hS0 ?_ (hy:=(fun w' hSw => aK 42 _ (hSw.2.1) underlying42 rfl h32s _ rfl rfl))
  refine WL.take (i:=5) (v:=.bool false) rfl (by kernel_rfl) (by decide) (by decide +kernel) (by decide +kernel) (fun _ _ _ h => h) rfl (fun w' hSw => lN rfl rfl rfl hSw.2.2) hS0 ?_
  simp only [Act.put,nz]
  refine WL.la 6 ?_
  clear hS0
  obtain ⟨wd,hwd⟩:∃ z,wn.drew = z:=⟨_,rfl⟩
  have hbd:Below wn.heap.size wn wd:=by rw [← hwd];exact (Below.refl _ _).drew
  simp only [hwd]
  have HBD:=bth HBN hbd
  have HSD:=ah (HSN.out.on hbd)
  have e0:=(HXN.out.below hbd).range
  clear hwd hbd
  go_upto_region 8 with fail
  refine wp_region_lit ?_
  refine aO rfl (.map (some w.heap.size)) (by first | rfl | (go_simp;done) | (go_simp;rfl)) ?_
  simp only [Act.put,nz]
  refine wpList_load_mid rfl 42 _ rfl wo.heap.size 0 rfl ci _ e0 underlying42 rfl h32s ?_
  simp only [Act.put,nz]
  refine bR rfl _ _ _ 70 4 rfl underlying70 w.heap.size k (setF S) rfl HSD.out.1 en HID.out true (by rw [HCI.out];rfl) rfl (by have:=HML.out;unfold maxLen;omega) ?_
  intro w5 g1 g2
  simp only [Act.put,nz]
  have HS5:=ah (HSD.out.add HID.out g1)
  have hsw:=HB.out.size
  have HB5:=ah ((HB.out.trans (HBD.out.mono HB.out.size)).grown g2 (by have:=HBD.out.size;omega) (fun j hj => by cases hj;exact Nat.le_refl _))
  have HC5:Hid (Chg (fun b => b = w.heap.size) w4 w5):=ah (HC.out.trans ((Chg.of_below HBD.out).trans ⟨g2.os,g2.tape,g2.output,g2.size,fun j hj hn => g2.block j hj (fun e => hn (Option.some.inj e))⟩))
  have hal:(addI S en).length ≤ k + 1:=by
   unfold addI
   split
   ·omega
   rw [List.length_cons];omega
  clear g1 g2 hsw e0
  go_wp2_with fail
  go_roundw
  case rel => exact ⟨k + 1,addI S en,by omega,hal,by go_num,HS5,HB5,HC5⟩
  case measure => simp [intOf];omega
 obtain rfl:k = m.length:=by omega
 have d1:decide ((m.length:Int) < m.length) = false:=decide_eq_false (by omega)
 have HRX:=ah (HRI.out m.length S wo HS.out (by have:=HML.out;omega))
 have HNN:=ah (Nat.le_trans hSk HML.out)
 clear HS
 go_wp2_with fail
 refine HRX.out.mono ?_
 rintro e w5 ⟨v5,m5,rfl,hr5,_,hl5,_,hb5⟩
 have HFIN:Hid (KE N w (.returned v5) w5):=ah ⟨v5,m5,rfl,hr5,by rw [hl5];exact HNN.out,HB.out.trans (hb5.mono HB.out.size)⟩
 clear hr5 hl5 hb5
 go_wp2_with fail
 go_ret
 exact HFIN.out
end
section
variable {O:Nat → Prop} {w w':World} {B:Sb} {t l:List Rf} {n:Nat} {P P':Nat → List Idl} {U U':List Idl} {c c':Nat}
theorem SM.one {x:Nat} (h:SM O w B t l n P U c) (hc:Chg (fun b => b = x) w w') (hx:x ∈ [B.pn 0,B.pn 1,B.pn 2,B.pn 3,B.hd,B.pt])
  (hp:∀ k,k < 4 → SetI w' (B.pn k) c' (P' k)) (hh:SetI w' B.hd c' []) (hu:SetI w' B.pt c' U'):SM O w' B t l n P' U' c':=by
 have nd:∀ a ∈ [B.sb,B.ob,B.hb,B.mp],∀ b ∈ [B.pn 0,B.pn 1,B.pn 2,B.pn 3,B.hd,B.pt],a ≠ b:=(List.nodup_append.1 (show ([B.sb,B.ob,B.hb,B.mp] ++ [B.pn 0,B.pn 1,B.pn 2,B.pn 3,B.hd,B.pt]).Nodup from h.nd)).2.2
 have hxb:x ∈ B.bl:=List.mem_append.2 (.inr hx:x ∈ [B.sb,B.ob,B.hb,B.mp] ∨ _)
 refine ⟨h.box.chg hc (nd B.sb (by simp) x hx),⟨h.bk.op.chg hc (nd B.ob (by simp) x hx) (fun hn k hk e => ?_) (fun hn k hk e => ?_),h.bk.ob,h.bk.ot,h.bk.ol⟩,h.shf.chg hc (nd B.hb (by simp) x hx) (nd B.mp (by simp) x hx),hp,hh,hu,h.own,h.nd,h.vt,h.vl⟩
 ·exact h.vt hn k hk (by rw [show k = x from e];exact hxb)
 exact h.vl hn k hk (by rw [show k = x from e];exact hxb)
theorem SM.pinN (h:SM O w B t l n P U c) {i k:Nat} (hi:i < 4) (hk:k < 4) (hne:i ≠ k):B.pn i ≠ B.pn k:=by
 have nd:=(List.nodup_append.1 (show ([B.sb,B.ob,B.hb,B.mp] ++ [B.pn 0,B.pn 1,B.pn 2,B.pn 3,B.hd,B.pt]).Nodup from h.nd)).2.1
 simp only [List.nodup_cons,List.mem_cons,List.not_mem_nil,not_or,or_false] at nd
 obtain ⟨⟨a1,a2,a3,_⟩,⟨b1,b2,_⟩,⟨c1,_⟩,_⟩:=nd
 clear h
 obtain rfl | rfl | rfl | rfl:i = 0 ∨ i = 1 ∨ i = 2 ∨ i = 3:=by omega
 all_goals
  obtain rfl | rfl | rfl | rfl:k = 0 ∨ k = 1 ∨ k = 2 ∨ k = 3:=by omega
  all_goals first | exact absurd rfl hne | assumption | exact Ne.symm (by assumption)
theorem SM.pinH (h:SM O w B t l n P U c) {i:Nat} (hi:i < 4):B.pn i ≠ B.hd ∧ B.pn i ≠ B.pt ∧ B.hd ≠ B.pt:=by
 have nd:=(List.nodup_append.1 (show ([B.sb,B.ob,B.hb,B.mp] ++ [B.pn 0,B.pn 1,B.pn 2,B.pn 3,B.hd,B.pt]).Nodup from h.nd)).2.1
 simp only [List.nodup_cons,List.mem_cons,List.not_mem_nil,not_or,or_false] at nd
 obtain ⟨⟨_,_,_,a4,a5⟩,⟨_,_,b4,b5⟩,⟨_,c4,c5⟩,⟨d4,d5⟩,e5,_⟩:=nd
 clear h
 obtain rfl | rfl | rfl | rfl:i = 0 ∨ i = 1 ∨ i = 2 ∨ i = 3:=by omega
 ·exact ⟨a4,a5,e5⟩
 ·exact ⟨b4,b5,e5⟩
 ·exact ⟨c4,c5,e5⟩
 exact ⟨d4,d5,e5⟩
theorem xC {B:Sb} {i:Nat} (hi:i < 4):B.pn i ∈ [B.pn 0,B.pn 1,B.pn 2,B.pn 3,B.hd,B.pt]:=by
 obtain rfl | rfl | rfl | rfl:i = 0 ∨ i = 1 ∨ i = 2 ∨ i = 3:=by omega
 all_goals simp
theorem SM.Gm (h:SM O w B t l n P U c) {i:Nat} (hi:i < 4) {S:List Idl} (hcc:c ≤ c') (hc:Chg (fun b => b = B.pn i) w w') (hs:SetI w' (B.pn i) c' S):SM O w' B t l n (upN P i S) U c':=by
 obtain ⟨e1,e2,e3⟩:=h.pinH hi
 refine h.one hc (xC hi) (fun k hk => ?_) ((h.hid.mono hcc).chg hc (fun e => e1 e.symm)) ((h.put.mono hcc).chg hc (fun e => e2 e.symm))
 by_cases e:k = i
 ·subst e;rw [aJ];exact hs
 rw [aD e]
 exact ((h.pin k hk).mono hcc).chg hc (h.pinN hk hi e)
theorem SM.Gl (h:SM O w B t l n P U c) {S:List Idl} (hcc:c ≤ c') (hc:Chg (fun b => b = B.pt) w w') (hs:SetI w' B.pt c' S):SM O w' B t l n P S c':=by
 refine h.one hc (by simp) (fun k hk => ((h.pin k hk).mono hcc).chg hc (h.pinH hk).2.1) ((h.hid.mono hcc).chg hc (h.pinH (i:=0) (by omega)).2.2) hs
theorem SM.KX (h:SM O w B t l n P U c) (hcc:c ≤ c') (hc:Chg (fun b => b = B.hd) w w') (hs:SetI w' B.hd c' []):SM O w' B t l n P U c':=by
 refine h.one hc (by simp) (fun k hk => ((h.pin k hk).mono hcc).chg hc (h.pinH hk).1) hs ((h.put.mono hcc).chg hc (h.pinH (i:=0) (by omega)).2.2.symm)
theorem dK {w w':World} {b:Nat} (g2:w.grownBy w' (some b)):Chg (fun j => j = b) w w':=⟨g2.os,g2.tape,g2.output,g2.size,fun j hj hn => g2.block j hj (fun e => hn (Option.some.inj e))⟩
end
def hasS (s:Int):Bool:=decide (0 ≤ s ∧ s < 4)
theorem yP (p:Value) (s:Int) (w:World):Calls prog 41 #[p,.int .i64 s] w fun e w' => e = .returned (.bool (hasS s)) ∧ w' = w:=by
 by_cases h1:0 ≤ s
 ·by_cases h2:s < 4
  ·have d1:decide (0 ≤ s) = true:=decide_eq_true h1
   have d2:decide (s < 4) = true:=decide_eq_true h2
   have HH:Hid (hasS s = true):=ah (decide_eq_true ⟨h1,h2⟩)
   go_enter func41,ntmps41
   go_wp2_with fail
   go_ret
   exact ⟨by rw [HH.out];rfl,rfl⟩
  have d1:decide (0 ≤ s) = true:=decide_eq_true h1
  have d2:decide (s < 4) = false:=decide_eq_false h2
  have HH:Hid (hasS s = false):=ah (decide_eq_false fun h => h2 h.2)
  go_enter func41,ntmps41
  go_wp2_with fail
  go_ret
  exact ⟨by rw [HH.out];rfl,rfl⟩
 have d1:decide (0 ≤ s) = false:=decide_eq_false h1
 have HH:Hid (hasS s = false):=ah (decide_eq_false fun h => h1 h.1)
 go_enter func41,ntmps41
 go_wp2_with fail
 go_ret
 exact ⟨by rw [HH.out];rfl,rfl⟩
end
end Go.Proofs.YtlhcoanbhnphgaaGreatDoor
