/- A part of this claim. -/
import Derived.Test.YtlhcoanbhnphgaaGreatDoorWm22
import Derived.Test.YtlhcoanbhnphgaaGreatDoorWm24
import Derived.Test.YtlhcoanbhnphgaaGreatDoorWm25
namespace Go.Proofs.YtlhcoanbhnphgaaGreatDoor
open Tryz
set_option maxHeartbeats 64000000
set_option maxRecDepth 100000
set_option linter.all false
section
open Go.RowKit Go.Maps
theorem yJ:∀ {t V W:List Rf},tabV V t = some W → ∀ r ∈ t,aQ r.1 = true
 | [],_,_,_,r,hr => by cases hr
 | x :: t,V,W,h,r,hr => by
  unfold tabV at h
  split at h
  ·rename_i hb
   rcases List.mem_cons.1 hr with rfl | hr
   ·unfold tabB at hb
    rw [Bool.and_eq_true,Bool.and_eq_true,Bool.and_eq_true] at hb
    exact hb.1.1.1
   exact yJ h r hr
  cases h
theorem zC:∀ {t V W:List Rf},logV V t = some W → ∀ r ∈ t,aQ r.1 = true
 | [],_,_,_,r,hr => by cases hr
 | x :: t,V,W,h,r,hr => by
  unfold logV at h
  split at h
  ·rename_i hb
   rcases List.mem_cons.1 hr with rfl | hr
   ·unfold logB at hb
    rw [Bool.and_eq_true] at hb
    exact hb.1
   exact zC h r hr
  cases h
theorem CG {s:ByteArray} (h:aQ s = true):s.size ≤ 32:=by unfold aQ at h;rw [Bool.and_eq_true,decide_eq_true_eq] at h;exact h.2.2
theorem jR {t l:List Rf} (h:aR t l = true):(∀ r ∈ t ++ l,r.1.size ≤ 32) ∧ t.length ≤ 16 ∧ l.length ≤ 100:=by
 have h0:=h
 unfold aR at h
 rw [Bool.and_eq_true,decide_eq_true_eq] at h
 obtain ⟨U,hU⟩:=Option.isSome_iff_exists.1 h.1
 have hk:=BX 0 h0
 obtain ⟨V,hV⟩:=hk
 rw [List.take_zero] at hV
 unfold dx at hU hV
 cases ht:tabV [] t with
 | none => rw [ht] at hU;cases hU
 | some T =>
  rw [ht] at hU hV
  have hl:logV T l = some U:=hU
  have e1:=(wU (V:=[]) (by simp) ht).1
  rw [List.nil_append] at e1
  have hT:dx t [] = some T:=by unfold dx;rw [ht];rfl
  have:=(GD hT).len
  refine ⟨fun r hr => ?_,by rw [← e1];exact this,h.2⟩
  rcases List.mem_append.1 hr with hr | hr
  ·exact CG (yJ ht r hr)
  exact CG (zC hl r hr)
def Dj (t l:List Rf) (w:World) (e:Ending) (w':World):Prop :=
 (if aR t l = true then e = .returned (.tuple #[.string (ofB (kT t l)),.int .i64 0]) else e = .returned (.tuple #[.string ⟨#[]⟩,.int .i64 1])) ∧ Below w.heap.size w w'
theorem I5 {t l:List Rf} {w w':World} (h:aR t l = false) (hb:Below w.heap.size w w'):Dj t l w (.returned (.tuple #[.string ⟨#[]⟩,.int .i64 1])) w':=⟨by rw [h];rfl,hb⟩
theorem FD {t l:List Rf} {w w':World} (h:aR t l = true) (hb:Below w.heap.size w w'):Dj t l w (.returned (.tuple #[.string (ofB (kT t l)),.int .i64 0])) w':=⟨by rw [h];rfl,hb⟩
theorem vH {t:List Rf} {j:Nat} (hj:j < t.length) (f:Rf → List UInt8):((t.take (j + 1)).map f).flatten = ((t.take j).map f).flatten ++ f t[j]:=by
 rw [List.take_succ_eq_append_getElem hj,List.map_append,List.flatten_append];simp
theorem uR (vt vl:Value) (t l:List Rf) (w:World) (h:fG w vt vl t l) (hcr:Crc w) (h5:5 ≤ w.heap.size) :
  Calls prog 72 #[.agg #[vt,vl]] w (Dj t l w):=by
 obtain ⟨W,hW⟩:∃ W,w.alloc (.cells #[vt,vl] 51) = W:=⟨_,rfl⟩
 have hbW:Below w.heap.size w W:=by rw [← hW];exact bal
 have hx0:BoxL W w.heap.size 51 [vt,vl]:=by rw [← hW];exact BoxL.new w 51 [vt,vl]
 have HBW:=ah hbW
 have HBK:=ah (h.below hbW)
 have HW:=ah hW
 have HOK:=ah h.ok
 have HCR:=ah hcr
 have H5:=ah h5
 have HR:=ah (dJ vt vl t l W HBK.out)
 have HX0:=ah hx0
 have h2k:(prog.info? 51).map (·.size) = some ([vt,vl]:List Value).length:=bQ
 have d0:=hx0.range
 clear h hbW hx0 hW hcr h5
 go_enter func72,ntmps72
 go_upto_region 1 with fail
 rw [HW.out]
 go_wp2_with (refine wpList_load_mid rfl 51 _ rfl w.heap.size 0 rfl _ _ d0 underlying51 rfl h2k ?_)
 refine HR.out.mono ?_
 rintro e w1 ⟨rfl,hb1⟩
 have HB1:=bth HBW hb1
 replace HX0:=ah (HX0.out.below hb1)
 replace HBK:=ah (HBK.out.below hb1)
 clear hb1 HR HW d0
 cases hbo:aR t l with
 | false =>
  have HANS:=ah (I5 (t:=t) (l:=l) (w:=w) hbo HB1.out)
  clear hbo
  go_wp2_with fail
  go_ret2
  exact HANS.out
 | true =>
  obtain ⟨hz,htl,hll⟩:=jR hbo
  have HYES:=ah (fun x hb => FD (t:=t) (l:=l) (w:=w) (w':=x) hbo hb)
  have HZ:=ah hz
  obtain ⟨ta,tc,e,_,_⟩:=HBK.out.tab.open
  subst e
  obtain ⟨la,lc,e,_,_⟩:=HBK.out.log.open
  subst e
  obtain ⟨wb,hwb⟩:∃ n,w1.heap.size = n:=⟨_,rfl⟩
  obtain ⟨W2,hW2⟩:∃ W,w1.alloc (.cells #[.pointer none,.slice none 0 0] 193) = W:=⟨_,rfl⟩
  have hb2:Below w1.heap.size w1 W2:=by rw [← hW2];exact bal
  have hs2:W2.heap.size = wb + 1:=by rw [← hW2,← hwb];simp
  have hwr:Wr wb wb [] W2:=by rw [← hwb,← hW2];exact Lib.fresh_isBuilder 193 5 w1
  obtain ⟨W3,hW3⟩:∃ W,W2.alloc (.cells #[.string ⟨#[72]⟩] 9) = W:=⟨_,rfl⟩
  have hb3:Below W2.heap.size W2 W3:=by rw [← hW3];exact bal
  have hc3:W3.cell? ⟨wb + 1,0,none⟩ = some (.string ⟨#[72]⟩):=by rw [← hs2,← hW3];exact (BoxL.new W2 9 [.string ⟨#[72]⟩]).range 0 _ rfl
  have HRW:=ah (jh wb wb [] (wb + 1) ⟨#[72]⟩ W3 (hwr.below hb3) hc3 (by decide) (by have:=hb3.size;omega))
  have HB3:Hid (Below wb w1 W3):=ah ((hb2.mono (by omega)).trans (hb3.mono (by omega)))
  have HBL:Hid (w1.heap.size = wb):=ah hwb
  have HXF:Hid (∀ x,Below wb w1 x → BoxL x w.heap.size 51 [.slice ta t.length tc,.slice la l.length lc] ∧ fG x (.slice ta t.length tc) (.slice la l.length lc) t l ∧ Below w.heap.size w x):=ah fun x hx => by
   rw [← hwb] at hx
   exact ⟨HX0.out.below hx,HBK.out.below hx,HB1.out.trans (hx.mono HB1.out.size)⟩
  have HWS:Hid (w.heap.size + 1 ≤ wb):=ah (by have:=HX0.out.lt;omega)
  have HS2:=ah hs2
  have HW2:=ah hW2
  have HW3:=ah hW3
  clear hb2 hs2 hwr hb3 hc3 hW2 hW3 hz hbo
  go_upto_region 4 with fail
  rw [HW2.out]
  clear hwb
  go_wp2_with fail
  rw [HS2.out,HW3.out]
  refine HRW.out.mono ?_
  rintro e w4 ⟨rfl,hw4,hb4⟩
  have HB4:Hid (Below wb w1 w4):=ah (HB3.out.trans hb4)
  obtain ⟨W5,hW5⟩:∃ W,w4.alloc (.cells #[.int .i64 (t.length:Int)] 3) = W:=⟨_,rfl⟩
  have hb5:Below w4.heap.size w4 W5:=by rw [← hW5];exact bal
  have hc5:W5.cell? ⟨w4.heap.size,0,none⟩ = some (.int .i64 (t.length:Int)):=by rw [← hW5];exact (BoxL.new w4 3 [.int .i64 (t.length:Int)]).range 0 _ rfl
  have hs4:=HB4.out.size
  have hwl:=hw4.lt
  have hr4:=(HXF.out w4 HB4.out).1.range
  have e4:w4.cell? ⟨w.heap.size,0,none⟩ = some (.slice ta t.length tc):=hr4 0 _ rfl
  have HNU:=ah (pJ wb wb _ w4.heap.size t.length W5 (hw4.below hb5) hc5 (by omega) (by simp) (by have:=hb5.size;omega))
  have HB5:Hid (Below wb w1 W5):=ah (HB4.out.trans (hb5.mono (by omega)))
  have HW5:=ah hW5
  clear hw4 hb4 hW5 hb5 hc5 HRW HW2 HW3 hr4 hs4 hwl
  go_wp2_with fail
  rw [HW5.out]
  refine HNU.out.mono ?_
  rintro e w6 ⟨rfl,hw6,hb6⟩
  have HB6:Hid (Below wb w1 w6):=ah (HB5.out.trans hb6)
  have HW6:Hid (Wr wb wb (72 :: (numB t.length ++ ((t.take 0).map refB).flatten)) w6):=ah (by simpa using hw6)
  have e6:w6.cell? ⟨w.heap.size,0,none⟩ = some (.slice ta t.length tc):=(HXF.out w6 HB6.out).1.range 0 _ rfl
  clear hw6 hb6 HNU HW5 e4
  go_upto_region 7 with fail
  clear e6
  have HTL:=ah htl
  go_loopw [6,23] (fun _ i wr => ∃ j:Nat,j ≤ t.length ∧ i = .int .i64 (j:Int) ∧ Hid (Wr wb wb (72 :: (numB t.length ++ ((t.take j).map refB).flatten)) wr) ∧ Hid (Below wb w1 wr)) (fun _ i _ => (t.length - intOf i).toNat)
  case atStart => exact ⟨0,by omega,rfl,HW6,HB6⟩
  obtain ⟨wo,rfl⟩:∃ wo:World,wo = wr:=⟨_,rfl⟩
  obtain ⟨j,hj,rfl,HWR,HB⟩:=hrel
  by_cases hlt:j < t.length
  ·obtain ⟨ta2,tc2,e2,htm,hv2⟩:=((HXF.out wo HB.out).2.1.tab).open
   have e2':ta = ta2:=by injection e2
   subst e2'
   clear e2
   obtain ⟨b,off,rfl,hbl,hcell⟩:=hv2 (by intro e;rw [e] at hlt;simp at hlt)
   have hro:=hcell j hlt
   have k0:(0:Int) ≤ j:=by omega
   have k1:(j:Int) < t.length:=by omega
   have wk:IntKind.i64.wrap ((j:Int) + 1) = (j:Int) + 1:=IntWalk.i64_in _ (by unfold maxLen at htm;omega)
   have HSN:=ah (vH hlt refB)
   have hzr1:=HZ.out t[j] (List.mem_append.2 (.inl (List.getElem_mem hlt)))
   have hzr2:=(HOK.out t[j] (List.mem_append.2 (.inl (List.getElem_mem hlt)))).2
   have HFL:Hid (((t.take j).map refB).flatten.length ≤ 1600):=ah (by
    have:=lK (f:=refB) (n:=70) (l:=t.take j) fun x hx => qL (HZ.out x (List.mem_append.2 (.inl (List.take_subset _ _ hx)))) (HOK.out x (List.mem_append.2 (.inl (List.take_subset _ _ hx)))).2
    have h2:(t.take j).length ≤ 16:=by rw [List.length_take];have:=HTL.out;omega
    have h3:(t.take j).length * 70 ≤ 16 * 70:=Nat.mul_le_mul_right _ h2
    omega)
   have HNB:Hid ((numB t.length).length ≤ 6):=ah (lC _ (by have:=HTL.out;omega))
   obtain ⟨L2,hL2⟩:∃ x,((t.take (j + 1)).map refB).flatten = x:=⟨_,rfl⟩
   rw [hL2] at HSN
   have HL2:=ah hL2
   clear hL2
   generalize ((t.take j).map refB).flatten = L1 at HSN HWR HFL
   generalize t[j] = r at hro hzr1 hzr2 HSN
   obtain ⟨zs,hzv,hzs⟩:=iF
   have h33:(rfC r).length = 33:=gJ hzr2
   have h33i:(prog.info? 93).map (·.size) = some (rfC r).length:=by rw [h33];exact gI
   have hth:(wo.alloc (.cells zs 93)).there wo.heap.size 0 33:=there_alloc wo zs 93 hzs
   obtain ⟨W7,hW7⟩:∃ W,(wo.alloc (.cells zs 93)).setCells wo.heap.size 0 (rfC r) = W:=⟨_,rfl⟩
   have hb7:Below wo.heap.size wo W7:=by rw [← hW7];exact below_setCells _ (Nat.le_refl _) _ _ _ bal
   have hx7:BoxL W7 wo.heap.size 93 (rfC r):=by rw [← hW7];exact BoxL.set (cs:=zs.toList) (by have:=BoxL.new wo 93 zs.toList;simpa using this) (by rw [h33];simpa using hzs.symm)
   have d0:W7.cell? ⟨wo.heap.size,0,none⟩ = some (.string r.1):=hx7.range 0 _ rfl
   obtain ⟨W8,hW8⟩:∃ W,W7.alloc (.cells #[.string r.1] 9) = W:=⟨_,rfl⟩
   have hb8:Below W7.heap.size W7 W8:=by rw [← hW8];exact bal
   have hc8:W8.cell? ⟨W7.heap.size,0,none⟩ = some (.string r.1):=by rw [← hW8];exact (BoxL.new W7 9 [.string r.1]).range 0 _ rfl
   have hswo:=HB.out.size
   have hwlo:=HWR.out.lt
   have hs7:=hb7.size
   have hs8:=hb8.size
   have HBT:Hid (wb < wo.heap.size ∧ wo.heap.size < W8.heap.size):=ah ⟨hwlo,by have:=hx7.lt;omega⟩
   have HT:=ah (FU wb wb _ W7.heap.size r.1 W8 ((HWR.out.below hb7).below hb8) hc8 (by omega) (by
    have h1:=HFL.out
    have h2:=HNB.out
    rw [List.length_cons,List.length_append];omega) (by omega))
   have HX8:=ah (hx7.below hb8)
   have HB8:Hid (Below wb w1 W8):=ah ((HB.out.trans (hb7.mono (by omega))).trans (hb8.mono (by omega)))
   have HW7:=ah hW7
   have HW8:=ah hW8
   have HTH:=ah hth
   have HON:=ah (jH r)
   have HIR:=ah gI
   have HI32:Hid ((idC r.2).length = 32):=ah (by rw [au,hzr2])
   have hh32:(prog.info? 42).map (·.size) = some (idC r.2).length:=by rw [HI32.out];exact bO
   have HSZ:Hid (∀ w,(sizeOf 42).run prog w = .ok (idC r.2).length w):=ah fun w => by rw [HI32.out];kernel_rfl
   obtain ⟨zi,i0,_,_,_,_,hziv,_⟩:=dH
   have HZI:=ah hziv
   have HRC:Hid (∀ j u,(idC r.2)[j]? = some u → (rfC r)[j + 1]? = some u):=ah fun j u hu => by unfold rfC;rw [List.getElem?_cons_succ];exact hu
   clear hW7 hb7 hx7 hW8 hb8 hc8 hth hzs hv2 hcell hs7 hs8 hswo hziv
   generalize hrc:rfC r = rc at HX8 HW7 HRC hro h33 h33i HON
   clear hrc
   generalize hci:idC r.2 = ci at hh32 HSZ HI32 HRC
   have HCI:=ah hci
   clear hci
   go_wp2_with (first
    | refine wpList_load_mid rfl 93 _ rfl b (off + j * 33) rfl rc _ hro underlying93 rfl h33i ?_
    | (refine aj rfl 93 _ _ rfl wo.heap.size 0 rc rfl rfl 33 h33 HTH.out HIR.out HON.out ?_;rw [HW7.out]))
   rw [HW8.out]
   refine HT.out.mono ?_
   rintro e w9 ⟨rfl,hw9,hb9⟩
   have hx9:BoxL w9 wo.heap.size 93 rc:=hb9.off _ _ HX8.out (by have:=HBT.out;omega) (fun cur e => by injection e with _ h2;exact absurd h2 (by decide))
   have d1:w9.rangeAt wo.heap.size 1 ci:=fun j u hu => by
    have:=hx9.range (j + 1) u (HRC.out j u hu)
    rw [Nat.zero_add] at this
    rw [Nat.add_comm 1 j];exact this
   have HB9:Hid (Below wb w1 w9):=ah (HB8.out.trans hb9.bel)
   obtain ⟨W10,hW10⟩:∃ W,w9.alloc (.cells ci.toArray 42) = W:=⟨_,rfl⟩
   have hb10:Below w9.heap.size w9 W10:=by rw [← hW10];exact bal
   have hx10:BoxL W10 w9.heap.size 42 ci:=by rw [← hW10];exact BoxL.new w9 42 ci
   have hwl9:=hw9.lt
   have HI:=ah (uZ wb wb _ w9.heap.size r.2 W10 (hw9.below hb10) (by rw [HCI.out];exact hx10.range) hzr2 (by
    have h1:=HFL.out
    have h2:=HNB.out
    have h3:=lC r.1.size (by omega)
    have h4:=kS r.1
    rw [List.length_append,List.length_cons,List.length_append,List.length_append]
    omega) (by have:=hb10.size;omega))
   have HB10:Hid (Below wb w1 W10):=ah (HB9.out.trans (hb10.mono (by omega)))
   have HW10:=ah hW10
   have HEQ:Hid (72 :: (numB t.length ++ L1) ++ (numB r.1.size ++ r.1.data.toList) ++ r.2 = 72 :: (numB t.length ++ L2)):=ah (by
    rw [HSN.out];unfold refB txtB;rw [kS];simp)
   clear hw9 hb9 hx9 hb10 hx10 hW10 hwl9 HT HX8 HW8 HW7
   go_wp2_with (first
    | refine wpList_load_mid rfl 42 _ rfl wo.heap.size 1 rfl ci _ d1 underlying42 rfl hh32 ?_
    | refine av rfl _ 44 42 rfl ci zi rfl underlying44 HSZ.out HZI.out (by rw [HI32.out];omega) (by rw [HI32.out];omega) ?_)
   rw [HW10.out]
   refine HI.out.mono ?_
   rintro e w11 ⟨rfl,hw11,hb11⟩
   rw [HEQ.out] at hw11
   have HE:Hid (Wr wb wb (72 :: (numB t.length ++ L2)) w11 ∧ Below wb w1 w11):=ah ⟨hw11,HB10.out.trans hb11⟩
   clear hw11 hb11 HI HW10
   rw [← HL2.out] at HE
   go_wp2_with fail
   go_roundw
   case rel => exact ⟨j + 1,by omega,by go_num,ah HE.out.1,ah HE.out.2⟩
   case measure => simp [intOf];omega
  obtain rfl:j = t.length:=by omega
  have k2:¬ ((t.length:Int) < t.length):=by omega
  rw [List.take_length] at HWR
  have hwlo:=HWR.out.lt
  have hswo:=HB.out.size
  have hw1w:=(HXF.out wo HB.out).2.2
  have HFL:Hid ((t.map refB).flatten.length ≤ 1600):=ah (by
   have:=lK (f:=refB) (n:=70) (l:=t) fun x hx => qL (HZ.out x (List.mem_append.2 (.inl hx))) (HOK.out x (List.mem_append.2 (.inl hx))).2
   have h3:t.length * 70 ≤ 16 * 70:=Nat.mul_le_mul_right _ HTL.out
   omega)
  have HNB:Hid ((numB t.length).length ≤ 6):=ah (lC _ (by have:=HTL.out;omega))
  have HRC:=ah (rX wb wb _ wo HWR.out (by simp) (by
   have h1:=HFL.out
   have h2:=HNB.out
   rw [List.length_cons,List.length_append];omega) (by omega) (by have:=HWS.out;have:=H5.out;omega) (HCR.out.gY hw1w H5.out))
  have HHL:Hid ((nR t).length ≤ 1700):=ah (by
   unfold nR
   have h1:=HFL.out
   have h2:=HNB.out
   have h3:=xk (s:=72 :: (numB t.length ++ (t.map refB).flatten)) (by rw [List.length_cons,List.length_append];omega)
   rw [List.length_cons,List.length_append] at h3
   omega)
  clear hwlo hswo hw1w HFL HNB HWR
  go_wp2_with fail
  refine HRC.out.mono ?_
  rintro e w7 ⟨rfl,hb7⟩
  have HB7:=ah (HB.out.trans hb7)
  have e7:w7.cell? ⟨w.heap.size,1,none⟩ = some (.slice la l.length lc):=(HXF.out w7 HB7.out).1.range 1 _ rfl
  have hhd:recB (72 :: (numB t.length ++ (t.map refB).flatten)) = nR t:=rfl
  rw [hhd]
  clear hb7 hhd HRC HB
  go_upto_region 14 with fail
  have HTK:Hid (nR t = nR t ++ ((l.take 0).map entB).flatten):=ah (by simp)
  obtain ⟨HD,hHD⟩:∃ x,nR t = x:=⟨_,rfl⟩
  rw [hHD] at HTK HHL ⊢
  have HHD:=ah hHD
  clear hHD e7
  have HLL:=ah hll
  go_loopw [7,9,40] (fun o _ i wr => ∃ j:Nat,j ≤ l.length ∧ i = .int .i64 (j:Int) ∧ (∃ X:ByteArray,o = .string X ∧ Hid (X = ofB (HD ++ ((l.take j).map entB).flatten))) ∧ Hid (Below wb w1 wr)) (fun _ _ i _ => (l.length - intOf i).toNat)
  case atStart => exact ⟨0,by omega,rfl,⟨_,rfl,ah (by rw [← HTK.out])⟩,HB7⟩
  obtain ⟨wo,rfl⟩:∃ wo:World,wo = wr:=⟨_,rfl⟩
  obtain ⟨j,hj,rfl,⟨X,rfl,HX⟩,HB⟩:=hrel
  by_cases hlt:j < l.length
  ·obtain ⟨la2,lc2,e2,hlm,hv2⟩:=((HXF.out wo HB.out).2.1.log).open
   have e2':la = la2:=by injection e2
   subst e2'
   clear e2
   obtain ⟨b,off,rfl,hbl,hcell⟩:=hv2 (by intro e;rw [e] at hlt;simp at hlt)
   have hro:=hcell j hlt
   have k0:(0:Int) ≤ j:=by omega
   have k1:(j:Int) < l.length:=by omega
   have wk:IntKind.i64.wrap ((j:Int) + 1) = (j:Int) + 1:=IntWalk.i64_in _ (by unfold maxLen at hlm;omega)
   have HSN:=ah (vH hlt entB)
   have hzr1:=HZ.out l[j] (List.mem_append.2 (.inr (List.getElem_mem hlt)))
   have hzr2:=(HOK.out l[j] (List.mem_append.2 (.inr (List.getElem_mem hlt)))).2
   have HXL:Hid (X.size ≤ 10000):=ah (by
    have:=lK (f:=entB) (n:=81) (l:=l.take j) fun x hx => qQ (HZ.out x (List.mem_append.2 (.inr (List.take_subset _ _ hx)))) (HOK.out x (List.mem_append.2 (.inr (List.take_subset _ _ hx)))).2
    have h2:(l.take j).length ≤ 100:=by rw [List.length_take];have:=HLL.out;omega
    have h3:(l.take j).length * 81 ≤ 100 * 81:=Nat.mul_le_mul_right _ h2
    have h4:=HHL.out
    rw [HX.out,bq,List.length_append]
    omega)
   have HEL:=ah (qQ hzr1 hzr2)
   have hw1w:=(HXF.out wo HB.out).2.2
   have HXE:Hid (X ++ ofB (entB l[j]) = ofB (HD ++ ((l.take (j + 1)).map entB).flatten)):=ah (by rw [HSN.out,HX.out,← mF,List.append_assoc])
   clear HSN HX
   generalize l[j] = r at hro hzr1 hzr2 HEL HXE
   obtain ⟨zs,hzv,hzs⟩:=iF
   have h33:(rfC r).length = 33:=gJ hzr2
   have h33i:(prog.info? 93).map (·.size) = some (rfC r).length:=by rw [h33];exact gI
   have hth:(wo.alloc (.cells zs 93)).there wo.heap.size 0 33:=there_alloc wo zs 93 hzs
   obtain ⟨W7,hW7⟩:∃ W,(wo.alloc (.cells zs 93)).setCells wo.heap.size 0 (rfC r) = W:=⟨_,rfl⟩
   have hb7:Below wo.heap.size wo W7:=by rw [← hW7];exact below_setCells _ (Nat.le_refl _) _ _ _ bal
   have hx7:BoxL W7 wo.heap.size 93 (rfC r):=by rw [← hW7];exact BoxL.set (cs:=zs.toList) (by have:=BoxL.new wo 93 zs.toList;simpa using this) (by rw [h33];simpa using hzs.symm)
   have hr7:=hx7.range
   have hswo:=HB.out.size
   have hs7:=hb7.size
   have hww:=HB.out.size
   have HBE:Hid (Below wb w1 W7):=ah (HB.out.trans (hb7.mono (by have:=HBL.out;omega)))
   have HER:=ah (nX r W7 (by omega) hzr2 (by have:=H5.out;have:=hw1w.size;omega) ((HCR.out.gY hw1w H5.out).below hb7))
   have HW7:=ah hW7
   have HTH:=ah hth
   have HON:=ah (jH r)
   have HIR:=ah gI
   have HW7S:Hid (wb ≤ W7.heap.size):=ah (by have:=HBL.out;omega)
   clear hW7 hb7 hx7 hth hzs hv2 hcell hs7 hswo hww hw1w
   obtain ⟨eb,heb⟩:∃ x,ofB (entB r) = x:=⟨_,rfl⟩
   rw [heb] at HER HXE
   have hes:eb.size ≤ 81:=by rw [← heb,bq];exact HEL.out
   have hxs:=HXL.out
   have hcat:∀ W,(Op.stringOp .add X eb).run prog W = .ok (.string (X ++ eb)) W:=fun W => run_string_add W _ _ (by omega) (by omega)
   clear heb HEL HXL
   generalize hrc:rfC r = rc at HW7 HER hro h33 h33i HON hr7
   clear hrc
   go_wp2_with (first
    | refine wpList_load_mid rfl 93 _ rfl b (off + j * 33) rfl rc _ hro underlying93 rfl h33i ?_
    | (refine aj rfl 93 _ _ rfl wo.heap.size 0 rc rfl rfl 33 h33 HTH.out HIR.out HON.out ?_;rw [HW7.out])
    | refine wpList_load_mid rfl 93 _ rfl wo.heap.size 0 rfl rc _ hr7 underlying93 rfl h33i ?_)
   refine HER.out.mono ?_
   rintro e w8 ⟨rfl,hb8⟩
   have HB8:Hid (Below wb w1 w8):=ah (HBE.out.trans (hb8.mono HW7S.out))
   clear hb8 HER
   go_wp2_with fail
   go_roundw
   case rel => exact ⟨j + 1,by omega,by go_num,⟨_,rfl,HXE⟩,HB8⟩
   case measure => simp [intOf];omega
  obtain rfl:j = l.length:=by omega
  have k2:¬ ((l.length:Int) < l.length):=by omega
  rw [List.take_length] at HX
  have HFIN:=ah (HYES.out wo (HXF.out wo HB.out).2.2)
  have HEQ:Hid (X = ofB (kT t l)):=ah (by rw [HX.out,← HHD.out];rfl)
  clear HX HYES
  go_wp2_with fail
  go_ret2
  rw [HEQ.out]
  exact HFIN.out
end
section
open Go.RowKit Go.Maps Go.Shelf
theorem JX (s:List UInt8) (c:UInt8):Lib.hasPrefix s [c] = decide (s.head? = some c) ∧ (s.head? = some c → Lib.trimPrefix s [c] = s.drop 1):=by
 cases s with
 | nil => exact ⟨by simp [Lib.hasPrefix],by simp⟩
 | cons a s =>
  by_cases h:a = c
  ·subst h;exact ⟨by simp [Lib.hasPrefix],fun _ => by simp [Lib.trimPrefix,Lib.hasPrefix]⟩
  exact ⟨by simp [Lib.hasPrefix,List.isPrefixOf,h,Ne.symm h],fun h2 => by simp at h2;exact absurd h2 h⟩
theorem Rd.vE (r:Rd) (most:Nat) (h:r.fine):(r.text most).2.size ≤ most:=by
 have h1:=(Rd.cu r most h).2
 have h2:=Rd.nH (r.num most).1 (r.num most).2
 unfold Rd.text
 split
 ·simp
 split
 ·simp
 omega
theorem Fw (s:ByteArray) (c:UInt8) (w:World):Calls prog 135 #[.string s,.string ⟨#[c]⟩] w fun e w' => e = .returned (.tuple #[.string ⟨(Lib.trimPrefix s.data.toList [c]).toArray⟩,.bool (Lib.hasPrefix s.data.toList [c])]) ∧ w' = w :=
 Any.strings_CutPrefix Tryz.lays103 s ⟨#[c]⟩ w
theorem Fx {w w':World} {b:Nat} (hc:Crc w) (hg:w.grownBy w' (some b)) (hb:4 < b):Crc w':=⟨gP hc.row hg (fun e => by have:=Option.some.inj e;omega),Nat.lt_of_lt_of_le hc.lt hg.size⟩
def qp (r:Rd) (c:UInt8) (b:Nat) (w:World) (e:Ending) (w':World):Prop :=
 (match dL r c with
 | none => e = .returned (.pointer none)
 | some x => ∃ n,e = .returned (.pointer (some ⟨n,0,none⟩)) ∧ w.heap.size ≤ n ∧ Arr w' n 3 x.c) ∧ Arr w' b 3 (r.text 65536).1.c ∧ Chg (fun k => k = b) w w'
theorem FZ {r:Rd} {c:UInt8} {b:Nat} {w w':World} (h:dL r c = none) (h1:Arr w' b 3 (r.text 65536).1.c) (h2:Chg (fun k => k = b) w w'):qp r c b w (.returned (.pointer none)) w':=⟨by rw [h],h1,h2⟩
theorem Dr {r x:Rd} {c:UInt8} {b n:Nat} {w w':World} (h:dL r c = some x) (hn:w.heap.size ≤ n) (h0:Arr w' n 3 x.c) (h1:Arr w' b 3 (r.text 65536).1.c) (h2:Chg (fun k => k = b) w w'):qp r c b w (.returned (.pointer (some ⟨n,0,none⟩))) w':=⟨by rw [h];exact ⟨n,rfl,hn,h0⟩,h1,h2⟩
theorem jq (b:Nat) (r:Rd) (c:UInt8) (w:World) (ha:Arr w b 3 r.c) (hf:r.fine) (hc:Crc w) (hb:4 < b):Calls prog 129 #[.pointer (some ⟨b,0,none⟩),.string ⟨#[c]⟩] w (qp r c b w):=by
 have HT:=ah (jk b r 65536 w ha hf (by decide))
 have HC:=ah hc
 have hts:(r.text 65536).2.size ≤ 65536:=Rd.vE _ _ hf
 have HN:=ah (fun w' h => FZ (r:=r) (c:=c) (b:=b) (w:=w) (w':=w') h)
 have HY:=ah (fun x n w' h => Dr (r:=r) (x:=x) (c:=c) (b:=b) (n:=n) (w:=w) (w':=w') h)
 have HD:Hid (dL r c = if unOk (r.text 65536).2 = true ∧ (unS (r.text 65536).2).data.toList.head? = some c ∧ (r.text 65536).1.err = 0 then some (rd0 (ofB ((unS (r.text 65536).2).data.toList.drop 1))) else none):=ah rfl
 clear ha hc hf
 obtain ⟨T,hT⟩:∃ T,r.text 65536 = T:=⟨_,rfl⟩
 rw [hT] at HT hts HN HY HD
 clear hT
 go_enter func129,ntmps129
 go_wp2_with fail
 refine HT.out.mono ?_
 rintro e w1 ⟨rfl,ha1,hg1⟩
 have HC1:=ah (Fx HC.out hg1 hb)
 have HU:=ah (rD T.2 w1 HC1.out (by omega))
 have HG1:Hid (Chg (fun k => k = b) w w1):=ah (Chg.eB hg1 (fun k e => (Option.some.inj e).symm))
 have HA1:=ah ha1
 clear ha1 hg1 HT
 go_wp2_with fail
 refine HU.out.mono ?_
 rintro e w2 ⟨rfl,hb2⟩
 have hbl:=HA1.out.lt (by omega)
 have HA2:=ah (HA1.out.below hb2 hbl)
 have HG2:Hid (Chg (fun k => k = b) w w2):=ah (HG1.out.trans (Chg.of_below hb2))
 have HCP:=ah (Fw (unS T.2) c w2)
 obtain ⟨hp1,hp2⟩:=JX (unS T.2).data.toList c
 have HP2:=ah hp2
 rw [hp1] at HCP
 have HE:=ah (ni b T.1 w2 HA2.out)
 clear hb2 hp1 hp2 hbl
 generalize hso:unOk T.2 = so at HD ⊢
 generalize hsu:unS T.2 = su at HD HCP HP2 ⊢
 obtain ⟨tp,htp⟩:∃ x,Lib.trimPrefix su.data.toList [c] = x:=⟨_,rfl⟩
 rw [htp] at HCP HP2
 have HSU:=ah hsu
 have HSO:=ah hso
 clear htp hsu hso
 by_cases h1:so = true
 ·by_cases h2:su.data.toList.head? = some c
  ·rw [decide_eq_true h2] at HCP
   have htp:=HP2.out h2
   by_cases h3:T.1.err = 0
   ·rw [if_pos ⟨h1,h2,h3⟩] at HD
    have htq:(⟨tp.toArray⟩:ByteArray) = ofB (su.data.toList.drop 1):=by rw [htp];rfl
    rw [htq] at HCP
    obtain ⟨X,hX⟩:∃ X,ofB (su.data.toList.drop 1) = X:=⟨_,rfl⟩
    rw [hX] at HCP HD
    have HNR:=ah (gL X w2)
    have hb3:Below w2.heap.size w2 (w2.alloc (.cells #[.string X,.int .i64 0,.int .i64 0] 276)):=bal
    have HF:=ah (HY.out _ w2.heap.size _ HD.out HG2.out.size (jU X w2 _) (HA2.out.below hb3 (HA2.out.lt (by omega))) (HG2.out.trans (Chg.of_below hb3)))
    rw [h3] at HE
    subst h1
    clear h2 h3 HN HY HD HP2 htp htq hX hb3
    go_wp2_with fail
    refine HCP.out.mono ?_
    rintro e w3 ⟨rfl,rfl⟩
    go_wp2_with fail
    refine HE.out.mono ?_
    rintro e w4 ⟨rfl,rfl⟩
    go_wp2_with fail
    refine HNR.out.mono ?_
    rintro e w5 ⟨rfl,rfl⟩
    go_wp2_with fail
    go_ret
    exact HF.out
   rw [if_neg (fun h => h3 h.2.2)] at HD
   have HF:=ah (HN.out w2 HD.out HA2.out HG2.out)
   have he:((T.1.err:Int) == 0) = false:=by simpa using h3
   subst h1
   clear h2 h3 HN HY HD HP2 htp
   go_wp2_with fail
   refine HCP.out.mono ?_
   rintro e w3 ⟨rfl,rfl⟩
   go_wp2_with fail
   refine HE.out.mono ?_
   rintro e w4 ⟨rfl,rfl⟩
   go_wp2_with fail
   go_ret
   exact HF.out
  rw [decide_eq_false h2] at HCP
  rw [if_neg (fun h => h2 h.2.1)] at HD
  have HF:=ah (HN.out w2 HD.out HA2.out HG2.out)
  subst h1
  clear h2 HN HY HD HE HP2
  go_wp2_with fail
  refine HCP.out.mono ?_
  rintro e w3 ⟨rfl,rfl⟩
  go_wp2_with fail
  go_ret
  exact HF.out
 obtain rfl:so = false:=by simpa using h1
 rw [if_neg (fun h => by cases h.1)] at HD
 have HF:=ah (HN.out w2 HD.out HA2.out HG2.out)
 clear h1 HN HY HD HE HP2
 generalize decide (su.data.toList.head? = some c) = hd at HCP
 go_wp2_with fail
 refine HCP.out.mono ?_
 rintro e w3 ⟨rfl,rfl⟩
 go_wp2_with fail
 go_ret
 exact HF.out
def Ci (x:Rd) (b:Nat) (w:World) (e:Ending) (w':World):Prop:=e = .returned (.agg (rfC (gT x).2).toArray) ∧ Arr w' b 3 (gT x).1.c ∧ Chg (fun k => k = b) w w'
theorem Jz (b:Nat) (x:Rd) (w:World) (ha:Arr w b 3 x.c) (hf:x.fine):Calls prog 131 #[.pointer (some ⟨b,0,none⟩)] w (Ci x b w):=by
 obtain ⟨zs,hzv,hzs⟩:=iF
 have hbl:=ha.lt (by omega)
 have hb1:Below w.heap.size w (w.alloc (.cells zs 93)):=bal
 have ha1:=ha.below hb1 hbl
 have HTH:=there_alloc (n:=33) w zs 93 hzs
 have HT:=ah (jk b x 32 _ ha1 hf (by decide))
 have HF2:=ah (Rd.bX x 32 hf)
 have HX0:Hid (BoxL (w.alloc (.cells zs 93)) w.heap.size 93 zs.toList):=ah (by have:=BoxL.new w 93 zs.toList;simpa using this)
 have HZS:=ah hzs
 have HBL:=ah hbl
 have HB1:=ah hb1
 have HDEF:Hid (gT x = ((x.text 32).1.id.1,((x.text 32).2,(x.text 32).1.id.2))):=ah rfl
 have HI32:Hid ((x.text 32).1.id.2.length = 32):=ah (gU _)
 clear ha hbl hb1 ha1 HTH hf
 generalize x.text 32 = T at HT HF2 HDEF HI32
 go_enter func131,ntmps131
 go_wp2_with fail
 refine HT.out.mono ?_
 rintro e w1 ⟨rfl,ha1,hg1⟩
 have HI:=ah (qJ b T.1 w1 ha1 HF2.out)
 have HX1:Hid (BoxL w1 w.heap.size 93 zs.toList):=ah (HX0.out.kept hg1 (fun e => by have:=HBL.out;have:=Option.some.inj e;omega))
 have HG1:Hid (Chg (fun k => k = b) w w1):=ah ((Chg.of_below HB1.out).trans (Chg.eB hg1 (fun k e => (Option.some.inj e).symm)))
 clear ha1 hg1 HT
 go_wp2_with fail
 refine HI.out.mono ?_
 rintro e w2 ⟨rfl,ha2,hg2⟩
 have HX2:Hid (BoxL w2 w.heap.size 93 zs.toList):=ah (HX1.out.kept hg2 (fun e => by have:=HBL.out;have:=Option.some.inj e;omega))
 have HG2:Hid (Chg (fun k => k = b) w w2):=ah (HG1.out.trans (Chg.eB hg2 (fun k e => (Option.some.inj e).symm)))
 have HA2:=ah ha2
 have HRB:Hid (∀ w,(Instr.build 93 #[(0,.string T.2),(1,.agg (idC T.1.id.2).toArray)]).run prog w = .ok (.agg (rfC (T.2,T.1.id.2)).toArray) w):=ah fun w => yY T.2 T.1.id.2 HI32.out w
 have hidv:idV T.1.id.2 = .agg (idC T.1.id.2).toArray:=rfl
 rw [hidv]
 have HRL:Hid ((rfC (T.2,T.1.id.2)).length = 33):=ah (gJ HI32.out)
 have HRO:=ah (jH (T.2,T.1.id.2))
 have HIR:=ah gI
 have hth:=HX2.out.there
 obtain ⟨WE,hWE⟩:∃ y,w2.setCells w.heap.size 0 (rfC (T.2,T.1.id.2)) = y:=⟨_,rfl⟩
 have hxe:BoxL WE w.heap.size 93 (rfC (T.2,T.1.id.2)):=by rw [← hWE];exact HX2.out.set (by rw [HRL.out];simpa using HZS.out.symm)
 have hre:=hxe.range
 have HFIN:Hid (Ci x b w (.returned (.agg (rfC (T.2,T.1.id.2)).toArray)) WE):=ah (by
  have hbl:=HBL.out
  have hgr:=aY (rfC (T.2,T.1.id.2)) 0 w2 (World.grownBy.refl w2 (some w.heap.size))
  rw [hWE] at hgr
  refine ⟨by rw [HDEF.out],by rw [HDEF.out];exact HA2.out.grown hgr (by omega),?_⟩
  refine ⟨hgr.os.trans HG2.out.os,hgr.tape.trans HG2.out.tape,hgr.output.trans HG2.out.output,Nat.le_trans HG2.out.size hgr.size,fun k hk hn => ?_⟩
  rw [hgr.block k (Nat.lt_of_lt_of_le hk HG2.out.size) (fun e => by have:=Option.some.inj e;omega)]
  exact HG2.out.block k hk hn)
 have HWE:=ah hWE
 have hzl:zs.toList.length = 33:=by simpa using HZS.out
 rw [hzl] at hth
 have HTH:=ah hth
 have h33i:(prog.info? 93).map (·.size) = some (rfC (T.2,T.1.id.2)).length:=by rw [HRL.out];exact gI
 obtain ⟨rc,hrc⟩:∃ y,rfC (T.2,T.1.id.2) = y:=⟨_,rfl⟩
 obtain ⟨ci,hci⟩:∃ y,idC T.1.id.2 = y:=⟨_,rfl⟩
 rw [hrc] at HRB HRL HRO HWE hre HFIN h33i
 rw [hci] at HRB ⊢
 clear hrc hci hxe hWE hzl hth
 generalize T.2 = t2 at HRB ⊢
 go_wp2_with (first
  | refine eu rfl 93 _ _ rfl (.string t2) (.agg ci.toArray) (.agg rc.toArray) rfl rfl (HRB.out _) ?_
  | (refine aj rfl 93 _ _ rfl w.heap.size 0 rc rfl rfl 33 HRL.out HTH.out HIR.out HRO.out ?_;rw [HWE.out]))
 refine dI rfl w.heap.size 0 rfl rc _ hre underlying93 rfl h33i rfl ?_
 exact HFIN.out
theorem uD:aR [] [] = true:=by decide +kernel
theorem kU (w:World):fG w (.slice none 0 0) (.slice none 0 0) [] []:=⟨⟨none,0,rfl,by simp,fun h => absurd rfl h⟩,⟨none,0,rfl,by simp,fun h => absurd rfl h⟩,fun _ _ _ e => by cases e;omega,fun _ _ _ e => by cases e;omega,fun r hr => by cases hr⟩
def mU (v:Value) (n:Nat) (w:World) (e:Ending) (w':World):Prop:=e = .returned (.tuple #[.agg #[.slice none 0 0,v],.int .i64 (n:Int),.int .i64 0]) ∧ Below w.heap.size w w'
structure RdSt (w0:World) (r:Rd) (l:List Rf) (v:Value) (w:World):Prop where
 res:BoxL w w0.heap.size 51 [.slice none 0 0,.slice none 0 0]
 rd:Arr w (w0.heap.size + 1) 3 r.c
 bx:BoxL w (w0.heap.size + 1 + 1) 51 [.slice none 0 0,v]
 cx:∃ us,us.length = 2 ∧ BoxL w (w0.heap.size + 1 + 1 + 1) 51 us
 row:fG w (.slice none 0 0) v [] l
 fr:FrB (w0.heap.size + 4) v
 bel:Below w0.heap.size w0 w
theorem aS.chgR {S:Nat → Prop} {w w':World} {v:Value} {sz:Nat} {rows:List (List Value)} (h:aS w v sz rows) (hc:Chg S w w') (hne:∀ b,v.ownBlock = some b → ¬ S b):aS w' v sz rows:=by
 obtain ⟨ao,cap,rfl,hm,h2⟩:=h
 refine ⟨ao,cap,rfl,hm,fun hn => ?_⟩
 obtain ⟨b,off,rfl,hb,hcell⟩:=h2 hn
 refine ⟨b,off,rfl,Nat.lt_of_lt_of_le hb hc.size,fun i hi j u hu => ?_⟩
 rw [World.cell?_of_block (hc.block b hb (hne b rfl))]
 exact hcell i hi j u hu
theorem Arr.chgA {w w':World} {b n:Nat} {c:Nat → Value} {S:Nat → Prop} (h:Arr w b n c) (hc:Chg S w w') (hb:¬ S b):Arr w' b n c:=by
 by_cases h0:0 < n
 ·have hl:=h.lt h0
  have he:=hc.block b hl hb
  exact ⟨fun k hk => by rw [World.cell?_of_block he];exact h.cell k hk,fun k hk => by rw [World.frozen?_of_block he];exact h.free k hk⟩
 exact ⟨fun k hk => absurd hk (by omega),fun k hk => absurd hk (by omega)⟩
theorem RdSt.size {w0 w:World} {r:Rd} {l:List Rf} {v:Value} (h:RdSt w0 r l v w):w0.heap.size + 4 ≤ w.heap.size:=by
 obtain ⟨us,_,hb⟩:=h.cx
 have:=hb.lt
 omega
theorem RdSt.next {w0 w w':World} {r r':Rd} {l:List Rf} {v:Value} {S:Nat → Prop} (h:RdSt w0 r l v w) (hc:Chg S w w') (hS:∀ k,S k → k = w0.heap.size + 1 ∨ (w0.heap.size + 4 ≤ k ∧ v.ownBlock ≠ some k)) (ha:Arr w' (w0.heap.size + 1) 3 r'.c):RdSt w0 r' l v w':=by
 have hne:∀ k,k ≠ w0.heap.size + 1 → k < w0.heap.size + 4 → ¬ S k:=fun k h1 h2 h3 => by rcases hS k h3 with h | h <;> omega
 obtain ⟨us,hu,hcx⟩:=h.cx
 have hv:∀ b,v.ownBlock = some b → ¬ S b:=fun b hb h3 => by
  have:=h.fr b hb
  rcases hS b h3 with h | h
  ·omega
  exact h.2 hb
 refine ⟨(hc.block _ h.res.lt (hne _ (by omega) (by omega))).trans h.res,ha,(hc.block _ h.bx.lt (hne _ (by omega) (by omega))).trans h.bx,⟨us,hu,(hc.block _ hcx.lt (hne _ (by omega) (by omega))).trans hcx⟩,⟨⟨none,0,rfl,by simp,fun h => absurd rfl h⟩,aS.chgR h.row.log hc hv,h.row.capt,h.row.capl,h.row.ok⟩,h.fr,Chg.below h.bel hc h.bel.size fun k hk => ?_⟩
 rcases hS k hk with h | h <;> omega
theorem RdSt.on {w0 w w':World} {r:Rd} {l:List Rf} {v:Value} (h:RdSt w0 r l v w) (hb:Below w.heap.size w w'):RdSt w0 r l v w' :=
 h.next (Chg.of_below hb:Chg (fun _ => False) w w') (fun k hk => hk.elim) (h.rd.below hb (by have:=h.size;omega))
theorem K3 (s:ByteArray) (x:Rd) (w:World) (hs:s.size ≤ 1000000) (hcr:Crc w) (h5:4 < w.heap.size) (h1:dL (rd0 s) 72 = some x) (h2:(x.num 16).2 = 0) (h3:(x.num 16).1.fin = 0) (hxf:x.fine)
  (h4:dL ((rd0 s).text 65536).1 69 = none):Calls prog 74 #[.string s] w (mU (.slice none 0 0) ((rd0 s).text 65536).1.pos w):=by
 obtain ⟨W1,hW1⟩:∃ W,w.alloc (.cells #[.slice none 0 0,.slice none 0 0] 51) = W:=⟨_,rfl⟩
 have hs1:W1.heap.size = w.heap.size + 1:=by rw [← hW1];simp
 have hb1:Below w.heap.size w W1:=by rw [← hW1];exact bal
 have hx1:BoxL W1 w.heap.size 51 [.slice none 0 0,.slice none 0 0]:=by rw [← hW1];exact BoxL.new w 51 [.slice none 0 0,.slice none 0 0]
 obtain ⟨W2,hW2⟩:∃ W,W1.alloc (.cells #[.string s,.int .i64 0,.int .i64 0] 276) = W:=⟨_,rfl⟩
 have hs2:W2.heap.size = w.heap.size + 1 + 1:=by rw [← hW2,← hs1];simp
 have hb2:Below W1.heap.size W1 W2:=by rw [← hW2];exact bal
 have ha2:Arr W2 (w.heap.size + 1) 3 (rd0 s).c:=by rw [← hs1,← hW2];exact jU s W1 _
 obtain ⟨W3,hW3⟩:∃ W,(W2.alloc (.cells #[.slice none 0 0,.slice none 0 0] 51)).alloc (.cells #[.slice none 0 0,.slice none 0 0] 51) = W:=⟨_,rfl⟩
 have hb3:Below W2.heap.size W2 W3:=by rw [← hW3];exact bal.alloc (by simp) _
 have hx3:BoxL W3 (w.heap.size + 1 + 1) 51 [.slice none 0 0,.slice none 0 0]:=by rw [← hs2,← hW3];exact (BoxL.new W2 51 [.slice none 0 0,.slice none 0 0]).below bal
 have hx4:BoxL W3 (w.heap.size + 1 + 1 + 1) 51 [.slice none 0 0,.slice none 0 0]:=by
  rw [← hs2,← hW3]
  have:=BoxL.new (W2.alloc (.cells #[.slice none 0 0,.slice none 0 0] 51)) 51 [.slice none 0 0,.slice none 0 0]
  rwa [World.size_alloc] at this
 have HST:Hid (RdSt w (rd0 s) [] (.slice none 0 0) W3):=ah ⟨(hx1.below hb2).below hb3,ha2.below hb3 (by omega),hx3,⟨_,rfl,hx4⟩,kU W3,fun g hg => (by cases hg),(hb1.trans (hb2.mono (by omega))).trans (hb3.mono (by omega))⟩
 have HNR:=ah (gL s W1)
 have HU:=ah (jq (w.heap.size + 1) (rd0 s) 72 W3 HST.out.rd (dO s hs) (hcr.below HST.out.bel) (by omega))
 have HCR:=ah hcr
 have H5:=ah h5
 have HW1:=ah hW1
 have HW2:=ah hW2
 have HW3:=ah hW3
 have HS1:=ah hs1
 have HS2:=ah hs2
 unfold qp at HU
 rw [h1] at HU
 dsimp only at HU
 clear hW1 hW2 hW3 hb1 hb2 hb3 hx1 ha2 hx3 hx4 hs1 hs2 hcr h5
 go_enter func74,ntmps74
 go_wp2_with fail
 rw [HW1.out]
 refine fH 2 ?_
 go_wp2_with fail
 refine HNR.out.mono ?_
 rintro e w2 ⟨rfl,rfl⟩
 rw [HW2.out,HS1.out]
 go_upto_region 4 with fail
 rw [HW3.out]
 go_wp2_with fail
 refine HU.out.mono ?_
 rintro e w4 ⟨⟨xb,rfl,hxb,hax⟩,ha4,hc4⟩
 have HS4:=ah (HST.out.next (r':=((rd0 s).text 65536).1) hc4 (fun k hk => .inl hk) ha4)
 have hz3:=HST.out.size
 have hz4:=HS4.out.size
 have HXB:Hid (w.heap.size + 4 ≤ xb):=ah (by omega)
 have HNU:=ah (kr xb x 16 w4 hax hxf (by decide))
 rw [h2] at HNU
 clear hc4 hax ha4 HU HST HW1 HW2 HW3 HNR hxb hz3 hz4
 rw [HS2.out]
 go_wp2_with fail
 refine HNU.out.mono ?_
 rintro e w5 ⟨rfl,ha5,hg5⟩
 have HS5:=ah (HS4.out.next (r':=((rd0 s).text 65536).1) (Chg.eB hg5 (fun k e => (Option.some.inj e).symm):Chg (fun k => k = xb) w4 w5) (fun k hk => .inr ⟨by rw [hk];exact HXB.out,by simp [Value.ownBlock]⟩) (HS4.out.rd.grown hg5 (by have:=HXB.out;omega)))
 have HA5:=ah ha5
 clear ha5 hg5 HNU HS4
 have HEN:=ah (iD xb (x.num 16).1 w5 HA5.out (Rd.cu x 16 hxf).1)
 rw [h3] at HEN
 clear HA5 HXB
 go_wp2_with fail
 refine wp_loop_rounds 1 ?_
 rw [rounds_succ]
 go_wp2_with fail
 refine HEN.out.mono ?_
 rintro e w6 ⟨rfl,hb6⟩
 have HS6:=ah (HS5.out.on hb6)
 have hr6:=HS6.out.bx.range
 have h2k:(prog.info? 51).map (·.size) = some ([.slice none 0 0,.slice none 0 0]:List Value).length:=bQ
 have HRI:=ah (dJ _ _ [] [] w6 HS6.out.row)
 rw [uD] at HRI
 clear hb6 HEN HS5
 go_wp2_with (refine bD rfl 51 _ rfl (w.heap.size + 1 + 1) 0 rfl _ _ hr6 underlying51 rfl h2k ?_)
 refine HRI.out.mono ?_
 rintro e w7 ⟨rfl,hb7⟩
 have HS7:=ah (HS6.out.on hb7)
 clear hb7 HRI HS6 hr6
 have HAT:=ah (qK (w.heap.size + 1) _ w7 HS7.out.rd)
 have HU2:=ah (jq (w.heap.size + 1) ((rd0 s).text 65536).1 69 w7 HS7.out.rd (Rd.bX _ _ (dO s hs)) (HCR.out.below HS7.out.bel) (by have:=H5.out;omega))
 unfold qp at HU2
 rw [h4] at HU2
 dsimp only at HU2
 go_wp2_with fail
 rename_i hK
 refine wp_label (hK _ _ ?_)
 go_wp2_with fail
 refine HAT.out.mono ?_
 rintro e w8 ⟨rfl,rfl⟩
 go_wp2_with fail
 refine HU2.out.mono ?_
 rintro e w9 ⟨rfl,ha9,hc9⟩
 have HS9:=ah (HS7.out.next (r':=(((rd0 s).text 65536).1.text 65536).1) hc9 (fun k hk => .inl hk) ha9)
 clear ha9 hc9 HU2 HS7 HAT
 go_wp2_with fail
 refine wp_goto ?_
 simp only [Exit.then,Exit.mG]
 refine qO rfl ?_
 obtain ⟨WE,hWE⟩:∃ y,w9.setCells w.heap.size 0 [.slice none 0 0,.slice none 0 0] = y:=⟨_,rfl⟩
 have hr9:=HS9.out.bx.range
 have hth:=HS9.out.res.there
 have hre:WE.rangeAt w.heap.size 0 [.slice none 0 0,.slice none 0 0]:=by rw [← hWE];exact (HS9.out.res.set (us:=[.slice none 0 0,.slice none 0 0]) rfl).range
 have HFIN:Hid (Below w.heap.size w WE):=ah (by rw [← hWE];exact below_setCells _ (Nat.le_refl _) _ _ _ HS9.out.bel)
 have HWE:=ah hWE
 have HIB:=ah bQ
 clear hWE HS9
 go_wp2_with (first
  | refine wpList_load_mid rfl 51 _ rfl (w.heap.size + 1 + 1) 0 rfl _ _ hr9 underlying51 rfl h2k ?_
  | (refine aj rfl 51 _ _ rfl w.heap.size 0 [.slice none 0 0,.slice none 0 0] rfl rfl 2 rfl hth HIB.out (by intro v hv;simp at hv;rw [hv];rfl) ?_;rw [HWE.out]))
 rw [Exit.jB]
 refine jv rfl w.heap.size 0 rfl [.slice none 0 0,.slice none 0 0] _ hre underlying51 rfl h2k rfl _ _ rfl rfl ?_
 exact ⟨rfl,HFIN.out⟩
theorem Gw {w w':World} {B n sz:Nat} {e:TypeId} {v:Value} {xs:List Value} {S:Nat → Prop} (h:w.ownsRow B e sz v n xs) (hc:Chg S w w') (hne:∀ g,v.ownBlock = some g → ¬ S g):w'.ownsRow B e sz v n xs:=by
 refine ⟨h.1,?_⟩
 rcases h.2 with h2 | ⟨g,cap,cur,hv,hb,hg,hr⟩
 ·exact .inl h2
 exact .inr ⟨g,cap,cur,hv,hb,(hc.block g (Array.getElem?_eq_some_iff.1 hg).1 (hne g (by rw [hv];rfl))).trans hg,hr⟩
theorem RdSt.setC {w0 w:World} {r:Rd} {l:List Rf} {v a b:Value} (h:RdSt w0 r l v w):RdSt w0 r l v (w.setCells (w0.heap.size + 1 + 1 + 1) 0 [a,b]) ∧ BoxL (w.setCells (w0.heap.size + 1 + 1 + 1) 0 [a,b]) (w0.heap.size + 1 + 1 + 1) 51 [a,b]:=by
 obtain ⟨us,hu,hcx⟩:=h.cx
 have hgr:=aY [a,b] 0 w (World.grownBy.refl w (some (w0.heap.size + 1 + 1 + 1)))
 have hn:=hcx.set (us:=[a,b]) (by rw [hu];rfl)
 refine ⟨⟨h.res.kept hgr (fun e => by have:=Option.some.inj e;omega),h.rd.grown hgr (by omega),h.bx.kept hgr (fun e => by have:=Option.some.inj e;omega),⟨_,rfl,hn⟩,⟨⟨none,0,rfl,by simp,fun h => absurd rfl h⟩,aS.offR h.row.log hgr fun k hk e => ?_,h.row.capt,h.row.capl,h.row.ok⟩,h.fr,below_setCells _ (by omega) _ _ _ h.bel⟩,hn⟩
 have:=h.fr k hk
 have:=Option.some.inj e
 omega
theorem RdSt.setB {w0 w:World} {r:Rd} {l l':List Rf} {v v':Value} (h:RdSt w0 r l v w) (hr:fG w (.slice none 0 0) v' [] l') (hf:FrB (w0.heap.size + 4) v'):RdSt w0 r l' v' (w.setCells (w0.heap.size + 1 + 1) 0 [.slice none 0 0,v']):=by
 obtain ⟨us,hu,hcx⟩:=h.cx
 have hgr:=aY [.slice none 0 0,v'] 0 w (World.grownBy.refl w (some (w0.heap.size + 1 + 1)))
 refine ⟨h.res.kept hgr (fun e => by have:=Option.some.inj e;omega),h.rd.grown hgr (by omega),h.bx.set rfl,⟨us,hu,hcx.kept hgr (fun e => by have:=Option.some.inj e;omega)⟩,⟨⟨none,0,rfl,by simp,fun h => absurd rfl h⟩,aS.offR hr.log hgr fun k hk e => ?_,hr.capt,hr.capl,hr.ok⟩,hf,below_setCells _ (by omega) _ _ _ h.bel⟩
 have:=hf k hk
 have:=Option.some.inj e
 omega
theorem KZ (s:ByteArray) (x y:Rd) (w:World) (hs:s.size ≤ 1000000) (hcr:Crc w) (h5:4 < w.heap.size) (h1:dL (rd0 s) 72 = some x) (h2:(x.num 16).2 = 0) (h3:(x.num 16).1.fin = 0) (hxf:x.fine)
  (h4:dL ((rd0 s).text 65536).1 69 = some y) (hyf:y.fine) (h6:(gT y).1.fin = 0) (hyf2:(gT y).1.fine) (hz:(gT y).2.1.size ≤ 1000000 ∧ (gT y).2.2.length = 32) (h7:aR [] [(gT y).2] = true) (h8:dL (((rd0 s).text 65536).1.text 65536).1 69 = none) :
  Calls prog 74 #[.string s] w fun e w' => ∃ v,mU v (((rd0 s).text 65536).1.text 65536).1.pos w e w' ∧ BkFr w w' (.slice none 0 0) v [] [(gT y).2]:=by
 obtain ⟨W1,hW1⟩:∃ W,w.alloc (.cells #[.slice none 0 0,.slice none 0 0] 51) = W:=⟨_,rfl⟩
 have hs1:W1.heap.size = w.heap.size + 1:=by rw [← hW1];simp
 have hb1:Below w.heap.size w W1:=by rw [← hW1];exact bal
 have hx1:BoxL W1 w.heap.size 51 [.slice none 0 0,.slice none 0 0]:=by rw [← hW1];exact BoxL.new w 51 [.slice none 0 0,.slice none 0 0]
 obtain ⟨W2,hW2⟩:∃ W,W1.alloc (.cells #[.string s,.int .i64 0,.int .i64 0] 276) = W:=⟨_,rfl⟩
 have hs2:W2.heap.size = w.heap.size + 1 + 1:=by rw [← hW2,← hs1];simp
 have hb2:Below W1.heap.size W1 W2:=by rw [← hW2];exact bal
 have ha2:Arr W2 (w.heap.size + 1) 3 (rd0 s).c:=by rw [← hs1,← hW2];exact jU s W1 _
 obtain ⟨W3,hW3⟩:∃ W,(W2.alloc (.cells #[.slice none 0 0,.slice none 0 0] 51)).alloc (.cells #[.slice none 0 0,.slice none 0 0] 51) = W:=⟨_,rfl⟩
 have hb3:Below W2.heap.size W2 W3:=by rw [← hW3];exact bal.alloc (by simp) _
 have hx3:BoxL W3 (w.heap.size + 1 + 1) 51 [.slice none 0 0,.slice none 0 0]:=by rw [← hs2,← hW3];exact (BoxL.new W2 51 [.slice none 0 0,.slice none 0 0]).below bal
 have hx4:BoxL W3 (w.heap.size + 1 + 1 + 1) 51 [.slice none 0 0,.slice none 0 0]:=by
  rw [← hs2,← hW3]
  have:=BoxL.new (W2.alloc (.cells #[.slice none 0 0,.slice none 0 0] 51)) 51 [.slice none 0 0,.slice none 0 0]
  rwa [World.size_alloc] at this
 have HST:Hid (RdSt w (rd0 s) [] (.slice none 0 0) W3):=ah ⟨(hx1.below hb2).below hb3,ha2.below hb3 (by omega),hx3,⟨_,rfl,hx4⟩,kU W3,fun g hg => (by cases hg),(hb1.trans (hb2.mono (by omega))).trans (hb3.mono (by omega))⟩
 have HNR:=ah (gL s W1)
 have HU:=ah (jq (w.heap.size + 1) (rd0 s) 72 W3 HST.out.rd (dO s hs) (hcr.below HST.out.bel) (by omega))
 have HCR:=ah hcr
 have H5:=ah h5
 have HW1:=ah hW1
 have HW2:=ah hW2
 have HW3:=ah hW3
 have HS1:=ah hs1
 have HS2:=ah hs2
 unfold qp at HU
 rw [h1] at HU
 dsimp only at HU
 clear hW1 hW2 hW3 hb1 hb2 hb3 hx1 ha2 hx3 hx4 hs1 hs2 hcr h5
 go_enter func74,ntmps74
 go_wp2_with fail
 rw [HW1.out]
 refine fH 2 ?_
 go_wp2_with fail
 refine HNR.out.mono ?_
 rintro e w2 ⟨rfl,rfl⟩
 rw [HW2.out,HS1.out]
 go_upto_region 4 with fail
 rw [HW3.out]
 go_wp2_with fail
 refine HU.out.mono ?_
 rintro e w4 ⟨⟨xb,rfl,hxb,hax⟩,ha4,hc4⟩
 have HS4:=ah (HST.out.next (r':=((rd0 s).text 65536).1) hc4 (fun k hk => .inl hk) ha4)
 have hz3:=HST.out.size
 have hz4:=HS4.out.size
 have HXB:Hid (w.heap.size + 4 ≤ xb):=ah (by omega)
 have HNU:=ah (kr xb x 16 w4 hax hxf (by decide))
 rw [h2] at HNU
 clear hc4 hax ha4 HU HST HW1 HW2 HW3 HNR hxb hz3 hz4
 rw [HS2.out]
 go_wp2_with fail
 refine HNU.out.mono ?_
 rintro e w5 ⟨rfl,ha5,hg5⟩
 have HS5:=ah (HS4.out.next (r':=((rd0 s).text 65536).1) (Chg.eB hg5 (fun k e => (Option.some.inj e).symm):Chg (fun k => k = xb) w4 w5) (fun k hk => .inr ⟨by rw [hk];exact HXB.out,by simp [Value.ownBlock]⟩) (HS4.out.rd.grown hg5 (by have:=HXB.out;omega)))
 have HA5:=ah ha5
 clear ha5 hg5 HNU HS4
 have HEN:=ah (iD xb (x.num 16).1 w5 HA5.out (Rd.cu x 16 hxf).1)
 rw [h3] at HEN
 clear HA5 HXB
 go_wp2_with fail
 refine wp_loop_rounds 1 ?_
 rw [rounds_succ]
 go_wp2_with fail
 refine HEN.out.mono ?_
 rintro e w6 ⟨rfl,hb6⟩
 have HS6:=ah (HS5.out.on hb6)
 have hr6:=HS6.out.bx.range
 have h2k:(prog.info? 51).map (·.size) = some ([.slice none 0 0,.slice none 0 0]:List Value).length:=bQ
 have HRI:=ah (dJ _ _ [] [] w6 HS6.out.row)
 rw [uD] at HRI
 clear hb6 HEN HS5
 go_wp2_with (refine bD rfl 51 _ rfl (w.heap.size + 1 + 1) 0 rfl _ _ hr6 underlying51 rfl h2k ?_)
 refine HRI.out.mono ?_
 rintro e w7 ⟨rfl,hb7⟩
 have HS7:=ah (HS6.out.on hb7)
 clear hb7 HRI HS6 hr6
 have HAT:=ah (qK (w.heap.size + 1) _ w7 HS7.out.rd)
 have HU2:=ah (jq (w.heap.size + 1) ((rd0 s).text 65536).1 69 w7 HS7.out.rd (Rd.bX _ _ (dO s hs)) (HCR.out.below HS7.out.bel) (by have:=H5.out;omega))
 unfold qp at HU2
 rw [h4] at HU2
 dsimp only at HU2
 go_wp2_with fail
 rename_i hK
 refine wp_label (hK _ _ ?_)
 go_wp2_with fail
 refine HAT.out.mono ?_
 rintro e w8 ⟨rfl,rfl⟩
 go_wp2_with fail
 refine HU2.out.mono ?_
 rintro e w9 ⟨⟨yb,rfl,hyb,hay⟩,ha9,hc9⟩
 have HYB:Hid (w.heap.size + 4 ≤ yb):=ah (by have:=HS7.out.size;omega)
 have HS9:=ah (HS7.out.next (r':=(((rd0 s).text 65536).1.text 65536).1) hc9 (fun k hk => .inl hk) ha9)
 have HAY:=ah hay
 clear ha9 hc9 HU2 HS7 HAT hyb hay
 go_wp2_with fail
 obtain ⟨q,hq⟩:∃ q,(gT y).2 = q:=⟨_,rfl⟩
 have HQ:=ah hq
 rw [hq] at hz h7
 have hr9:=HS9.out.bx.range
 have hS0:w9.drew.cell? ⟨w.heap.size + 1 + 1,0,none⟩ = some (.slice none 0 0) ∧ w9.drew.cell? ⟨w.heap.size + 1 + 1,1,none⟩ = some (.slice none 0 0):=⟨hr9 0 _ rfl,hr9 1 _ rfl⟩
 clear hq hr9
 refine wrL 10 (fun x => x.cell? ⟨w.heap.size + 1 + 1,0,none⟩ = some (.slice none 0 0) ∧ x.cell? ⟨w.heap.size + 1 + 1,1,none⟩ = some (.slice none 0 0)) ?_
 refine WL.tk 0 hS0 ?_
 refine WL.tk 1 hS0 ?_
 refine WL.tk 2 hS0 ?_
 refine WL.tk 3 hS0 ?_
 refine WL.tk 5 hS0 ?_
 refine WL.on 4 ?_
 obtain ⟨wd,hwd⟩:∃ z,w9.drew = z:=⟨_,rfl⟩
 have hbd:Below w9.heap.size w9 wd:=by rw [← hwd];exact (Below.refl _ _).drew
 simp only [hwd]
 have HSD:=ah (HS9.out.on hbd)
 have HAD:=ah (HAY.out.below hbd (HAY.out.lt (by omega)))
 have HCL:=ah (aT (.slice none 0 0) [] wd HSD.out.row.log (fun r hr => by cases hr) (by simp))
 clear hwd hbd HS9 HAY hS0
 go_wp2_with fail
 refine HCL.out.mono ?_
 rintro e w10 ⟨v2,rfl,ho10,hb10⟩
 have HLA:Hid (wd.heap.size ≤ w10.heap.size):=ah hb10.size
 have HSA:=ah (HSD.out.on hb10)
 have HAA:=ah (HAD.out.below hb10 (HAD.out.lt (by omega)))
 have HOA:Hid (w10.ownsRow wd.heap.size 93 33 v2 0 (rfV [])):=ah ho10
 have HYL:Hid (yb < wd.heap.size):=ah (HAD.out.lt (by omega))
 have HBS:Hid (w.heap.size + 4 ≤ wd.heap.size):=ah HSD.out.size
 obtain ⟨o2,c2,rfl⟩:=aG ho10
 have hS1:w10.cell? ⟨w.heap.size + 1 + 1,0,none⟩ = some (.slice none 0 0) ∧ w10.cell? ⟨w.heap.size + 1 + 1,1,none⟩ = some (.slice none 0 0):=⟨HSA.out.bx.range 0 _ rfl,HSA.out.bx.range 1 _ rfl⟩
 clear ho10 hb10 HSD HAD HCL
 go_wp2_with fail
 refine ⟨hS1,?_⟩
 refine WL.on 6 ?_
 have HON:=ah (Jz yb y w10 HAA.out hyf)
 unfold Ci at HON
 rw [HQ.out] at HON
 clear HAA hS1
 go_wp2_with fail
 refine HON.out.mono ?_
 rintro e w11 ⟨rfl,ha11,hc11⟩
 have HS11:=ah (HSA.out.next (r':=(((rd0 s).text 65536).1.text 65536).1) hc11 (fun k hk => .inr ⟨by rw [hk];exact HYB.out,by simp [Value.ownBlock]⟩) (HSA.out.rd.chgA hc11 (fun e => by have:=HYB.out;omega)))
 have HO11:=ah (Gw HOA.out hc11 (fun g hg e => by have:=(HOA.out.lt g hg).1;have:=HYL.out;omega))
 have HA11:=ah ha11
 replace HLA:Hid (wd.heap.size ≤ w11.heap.size):=ah (Nat.le_trans HLA.out hc11.size)
 have hS2:w11.cell? ⟨w.heap.size + 1 + 1,0,none⟩ = some (.slice none 0 0) ∧ w11.cell? ⟨w.heap.size + 1 + 1,1,none⟩ = some (.slice none 0 0):=⟨HS11.out.bx.range 0 _ rfl,HS11.out.bx.range 1 _ rfl⟩
 clear HSA HOA HON ha11 hc11
 go_wp2_with fail
 refine ⟨hS2,?_⟩
 clear hS2
 have hq32:=hz.2
 have HRL:Hid ((rfC q).length = 33):=ah (gJ hq32)
 have HSZ:Hid (∀ w,(sizeOf 93).run prog w = .ok (rfC q).length w):=ah fun w => by rw [HRL.out];kernel_rfl
 obtain ⟨zr,hzr,_⟩:=iF
 have HZR:=ah hzr
 have HRW:=ah (jc q w11)
 have hb12:Below w11.heap.size w11 (w11.alloc (.cells (rfC q).toArray 93)):=bal
 have HS12:=ah (HS11.out.on hb12)
 have HA12:=ah (HA11.out.below hb12 (HA11.out.lt (by omega)))
 have HO12:=ah (own_below HO11.out hb12)
 have H7:Hid (∀ r ∈ [q],r.2.length = 32):=ah fun r hr => by simp at hr;rw [hr];exact hq32
 obtain ⟨rc,hrc⟩:∃ z,rfC q = z:=⟨_,rfl⟩
 rw [hrc] at HRL HSZ HRW HS12 HA12 HO12 ⊢
 obtain ⟨w12,hw12⟩:∃ z,w11.alloc (.cells rc.toArray 93) = z:=⟨_,rfl⟩
 rw [hw12] at HRW HS12 HA12 HO12
 replace HLA:Hid (wd.heap.size ≤ w12.heap.size):=ah (by rw [← hw12,World.size_alloc];have:=HLA.out;omega)
 have HW12:=ah hw12
 have hS3:w12.cell? ⟨w.heap.size + 1 + 1,0,none⟩ = some (.slice none 0 0) ∧ w12.cell? ⟨w.heap.size + 1 + 1,1,none⟩ = some (.slice none 0 0):=⟨HS12.out.bx.range 0 _ rfl,HS12.out.bx.range 1 _ rfl⟩
 clear hrc hw12 hb12 HS11 HA11 HO11 hq32 hzr
 refine WL.on 7 ?_
 go_wp2_with (refine av rfl _ 49 93 rfl rc zr rfl underlying49 HSZ.out HZR.out (by rw [HRL.out];omega) (by rw [HRL.out];omega) ?_)
 rw [HW12.out]
 refine ⟨hS3,?_⟩
 clear hS3 HW12
 refine WL.on 8 ?_
 have hl12:wd.heap.size ≤ w12.heap.size:=HLA.out
 go_wp2_with (refine aH rfl _ _ rfl wd.heap.size (.slice o2 0 c2) 0 [] rfl HO12.out (some ⟨w11.heap.size,0,none⟩) 1 [q] rfl HRW.out H7.out (by simp) hl12 ?_)
 intro v13 w13 ho13 hg13
 obtain ⟨o3,c3,rfl⟩:=aG ho13
 have HO12B:Hid (∀ k,(Value.slice o2 0 c2).ownBlock = some k → wd.heap.size ≤ k):=ah fun k hk => (HO12.out.lt k hk).1
 have HS13:=ah (HS12.out.next (r':=(((rd0 s).text 65536).1.text 65536).1) (Chg.eB hg13 (fun k e => e):Chg (fun k => (Value.slice o2 0 c2).ownBlock = some k) w12 w13) (fun k hk => .inr ⟨by have:=HO12B.out k hk;have:=HBS.out;omega,by simp [Value.ownBlock]⟩) (HS12.out.rd.mJ hg13 (fun e => by have:=HO12B.out _ e;have:=HBS.out;omega)))
 have HA13:=ah (HA12.out.mJ hg13 (fun e => by have:=HO12B.out _ e;have:=HYL.out;omega))
 have ho13':w13.ownsRow wd.heap.size 93 33 (.slice o3 (0 + [q].length) c3) [q].length (rfV [q]):=by simpa using ho13
 have HR13:Hid (fG w13 (.slice none 0 0) (.slice o3 1 c3) [] [q] ∧ FrB (w.heap.size + 4) (.slice o3 1 c3)):=ah ⟨⟨⟨none,0,rfl,by simp,fun h => absurd rfl h⟩,Gq rfl ho13' H7.out,fun _ _ _ e => (by cases e;omega),zl ho13',fun r hr => (by simp at hr;rw [hr];exact hz)⟩,fun g hg => (by have:=(ho13'.lt g hg).1;have:=HBS.out;omega)⟩
 have hS4:w13.cell? ⟨w.heap.size + 1 + 1,0,none⟩ = some (.slice none 0 0) ∧ w13.cell? ⟨w.heap.size + 1 + 1,1,none⟩ = some (.slice none 0 0):=⟨HS13.out.bx.range 0 _ rfl,HS13.out.bx.range 1 _ rfl⟩
 have hone:(0 + [q].length:Nat) = 1:=rfl
 simp only [hone]
 clear ho13 ho13' hg13 HS12 HA12 HO12 HO12B hl12 hone HRW
 go_wp2_with fail
 refine ⟨hS4,?_⟩
 refine WL.take (i:=9) (v:=.agg #[.slice none 0 0,.slice o3 1 c3]) rfl (by kernel_rfl) (by decide) (by decide +kernel) (by decide +kernel) (fun _ _ _ h => h) rfl (by intro w' _;go_simp) hS4 ?_
 simp only [Act.put,nz]
 clear hS4
 refine WL.la 10 ?_
 obtain ⟨w14,hw14⟩:∃ z,w13.setCells (w.heap.size + 1 + 1 + 1) 0 [.slice none 0 0,.slice o3 1 c3] = z:=⟨_,rfl⟩
 have hset:=HS13.out.setC (a:=.slice none 0 0) (b:=.slice o3 1 c3)
 rw [hw14] at hset
 have HS14:=ah hset.1
 have HC14:=ah hset.2
 have hgr14:=aY [.slice none 0 0,.slice o3 1 c3] 0 w13 (World.grownBy.refl w13 (some (w.heap.size + 1 + 1 + 1)))
 rw [hw14] at hgr14
 have HA14:=ah (HA13.out.grown hgr14 (by have:=HYB.out;omega))
 have HR14:Hid (fG w14 (.slice none 0 0) (.slice o3 1 c3) [] [q]):=ah ⟨⟨none,0,rfl,by simp,fun h => absurd rfl h⟩,aS.offR HR13.out.1.log hgr14 fun b hb e => (by have:=HR13.out.2 b hb;have:=Option.some.inj e;omega),HR13.out.1.capt,HR13.out.1.capl,HR13.out.1.ok⟩
 have HF14:=ah HR13.out.2
 obtain ⟨us,hus,hcx⟩:=HS13.out.cx
 have hth14:=hcx.there
 rw [hus] at hth14
 have HW14:=ah hw14
 have HIB:=ah bQ
 have HEN2:=ah (iD yb (gT y).1 w14 HA14.out hyf2)
 rw [h6] at HEN2
 clear hw14 hset hgr14 HS13 HA13 HR13 hcx
 refine aj rfl 51 _ _ rfl (w.heap.size + 1 + 1 + 1) 0 [.slice none 0 0,.slice o3 1 c3] rfl rfl 2 rfl hth14 HIB.out (by intro v hv;simp at hv;rcases hv with rfl | rfl <;> rfl) ?_
 rw [HW14.out]
 simp only [Act.put,nz]
 go_wp2_with fail
 refine HEN2.out.mono ?_
 rintro e w15 ⟨rfl,hb15⟩
 have HS15:=ah (HS14.out.on hb15)
 have HR15:=ah (HR14.out.below hb15)
 have HC15:=ah (HC14.out.below hb15)
 have hr15:=HC15.out.range
 have h2n:(prog.info? 51).map (·.size) = some ([.slice none 0 0,.slice o3 1 c3]:List Value).length:=bQ
 have HRI2:=ah (dJ _ _ [] [q] w15 HR15.out)
 rw [h7] at HRI2
 clear hb15 HEN2 HS14 HR14 HC14 HA14 HW14 hth14
 go_wp2_with (refine bD rfl 51 _ rfl (w.heap.size + 1 + 1 + 1) 0 rfl _ _ hr15 underlying51 rfl h2n ?_)
 refine HRI2.out.mono ?_
 rintro e w16 ⟨rfl,hb16⟩
 have HS16:=ah (HS15.out.on hb16)
 have HR16:=ah (HR15.out.below hb16)
 have hr16:=(HC15.out.below hb16).range
 obtain ⟨w17,hw17⟩:∃ z,w16.setCells (w.heap.size + 1 + 1) 0 [.slice none 0 0,.slice o3 1 c3] = z:=⟨_,rfl⟩
 have hs17:=HS16.out.setB HR16.out HF14.out
 rw [hw17] at hs17
 have HS17:=ah hs17
 have hth16:=HS16.out.bx.there
 have HW17:=ah hw17
 clear hb16 HRI2 HS15 HR15 HC15 hr15 hw17 hs17 HS16 HR16
 go_wp2_with (first
  | refine wpList_load_mid rfl 51 _ rfl (w.heap.size + 1 + 1 + 1) 0 rfl _ _ hr16 underlying51 rfl h2n ?_
  | (refine aj rfl 51 _ _ rfl (w.heap.size + 1 + 1) 0 [.slice none 0 0,.slice o3 1 c3] rfl rfl 2 rfl hth16 HIB.out (by intro v hv;simp at hv;rcases hv with rfl | rfl <;> rfl) ?_;rw [HW17.out]))
 refine wp_goto ?_
 simp only [Exit.then,Exit.mG]
 refine qO rfl ?_
 simp only [Act.put,nz]
 have HFY:Hid (((rd0 s).text 65536).1.text 65536).1.fine:=ah (Rd.bX _ _ (Rd.bX _ _ (dO s hs)))
 have HAT2:=ah (qK (w.heap.size + 1) _ w17 HS17.out.rd)
 have HU3:=ah (jq (w.heap.size + 1) (((rd0 s).text 65536).1.text 65536).1 69 w17 HS17.out.rd HFY.out (HCR.out.below HS17.out.bel) (by have:=H5.out;omega))
 unfold qp at HU3
 rw [h8] at HU3
 dsimp only at HU3
 clear hr16 hth16 HW17
 go_wp2_with fail
 refine HAT2.out.mono ?_
 rintro e w18 ⟨rfl,rfl⟩
 go_wp2_with fail
 refine HU3.out.mono ?_
 rintro e w19 ⟨rfl,ha19,hc19⟩
 have HS19:=ah (HS17.out.next (r':=((((rd0 s).text 65536).1.text 65536).1.text 65536).1) hc19 (fun k hk => .inl hk) ha19)
 clear ha19 hc19 HU3 HS17 HAT2
 go_wp2_with fail
 refine wp_goto ?_
 simp only [Exit.then,Exit.mG]
 refine qO rfl ?_
 obtain ⟨WE,hWE⟩:∃ z,w19.setCells w.heap.size 0 [.slice none 0 0,.slice o3 1 c3] = z:=⟨_,rfl⟩
 have hr19:=HS19.out.bx.range
 have hth:=HS19.out.res.there
 have hre:WE.rangeAt w.heap.size 0 [.slice none 0 0,.slice o3 1 c3]:=by rw [← hWE];exact (HS19.out.res.set (us:=[.slice none 0 0,.slice o3 1 c3]) rfl).range
 have HFIN:Hid (Below w.heap.size w WE ∧ BkFr w WE (.slice none 0 0) (.slice o3 1 c3) [] [q]):=ah (by
  have hgr:=aY [.slice none 0 0,.slice o3 1 c3] 0 w19 (World.grownBy.refl w19 (some w.heap.size))
  rw [hWE] at hgr
  have hf:=HS19.out.fr
  refine ⟨by rw [← hWE];exact below_setCells _ (Nat.le_refl _) _ _ _ HS19.out.bel,⟨⟨none,0,rfl,by simp,fun h => absurd rfl h⟩,aS.offR HS19.out.row.log hgr fun b hb e => ?_,HS19.out.row.capt,HS19.out.row.capl,HS19.out.row.ok⟩,fun g hg => (by cases hg),fun g hg => ?_⟩
  ·have:=hf b hb;have:=Option.some.inj e;omega
  have:=hf g hg;omega)
 have HWE:=ah hWE
 clear hWE HS19
 go_wp2_with (first
  | refine wpList_load_mid rfl 51 _ rfl (w.heap.size + 1 + 1) 0 rfl _ _ hr19 underlying51 rfl h2n ?_
  | (refine aj rfl 51 _ _ rfl w.heap.size 0 [.slice none 0 0,.slice o3 1 c3] rfl rfl 2 rfl hth HIB.out (by intro v hv;simp at hv;rcases hv with rfl | rfl <;> rfl) ?_;rw [HWE.out]))
 rw [Exit.jB]
 refine jv rfl w.heap.size 0 rfl [.slice none 0 0,.slice o3 1 c3] _ hre underlying51 rfl h2n rfl _ _ rfl rfl ?_
 exact ⟨_,⟨rfl,HFIN.out.1⟩,by rw [HQ.out];exact HFIN.out.2⟩
structure OpB (w:World) (b:Nat) (d:Value) (vt vl:Value) (t l:List Rf) (n:Nat):Prop where
 box:BoxL w b 128 [d,vt,vl,.int .i64 (n:Int)]
 row:fG w vt vl t l
theorem OpB.below {w w':World} {b:Nat} {d vt vl:Value} {t l:List Rf} {n:Nat} (h:OpB w b d vt vl t l n) (hb:Below w.heap.size w w'):OpB w' b d vt vl t l n:=⟨h.box.below hb,h.row.below hb⟩
def KJ (t l:List Rf) (w:World) (e:Ending) (w':World):Prop:=∃ v1 v2,e = .returned (.agg #[v1,v2]) ∧ BkFr w w' v1 v2 t l ∧ Below w.heap.size w w'
theorem FK (w:World) (b:Nat) (d vt vl:Value) (t l:List Rf) (n:Nat) (h:OpB w b d vt vl t l n) (htl:t.length ≤ 1000) (hll:l.length ≤ 1000) :
  Calls prog 50 #[.pointer (some ⟨b,0,none⟩)] w (KJ t l w):=by
 obtain ⟨W,hW⟩:∃ W,w.alloc (.cells #[.slice none 0 0,.slice none 0 0] 51) = W:=⟨_,rfl⟩
 have hbW:Below w.heap.size w W:=by rw [← hW];exact bal
 have HX:Hid (BoxL W w.heap.size 51 [.slice none 0 0,.slice none 0 0]):=ah (by rw [← hW];exact BoxL.new w 51 [.slice none 0 0,.slice none 0 0])
 have HO:=ah (h.below hbW)
 have HBW:=ah hbW
 have HOK:=ah h.row.ok
 have HW:=ah hW
 have HIB:=ah bQ
 clear h hbW hW
 go_enter func50,ntmps50
 go_upto_region 3 with fail
 rw [HW.out]
 have hr0:=HO.out.box.range
 have hS0:W.drew.cell? ⟨b,1,none⟩ = some vt ∧ W.drew.cell? ⟨b,2,none⟩ = some vl:=⟨hr0 1 _ rfl,hr0 2 _ rfl⟩
 clear hr0
 refine wrL 13 (fun x => x.cell? ⟨b,1,none⟩ = some vt ∧ x.cell? ⟨b,2,none⟩ = some vl) ?_
 refine WL.tk 0 hS0 ?_
 refine WL.tk 1 hS0 ?_
 refine WL.tk 2 hS0 ?_
 refine WL.tk 3 hS0 ?_
 refine WL.tk 4 hS0 ?_
 refine WL.tk 6 hS0 ?_
 refine WL.tk 7 hS0 ?_
 refine WL.tk 8 hS0 ?_
 refine WL.tk 9 hS0 ?_
 refine WL.tk 10 hS0 ?_
 refine WL.on 5 ?_
 obtain ⟨wd,hwd⟩:∃ z,W.drew = z:=⟨_,rfl⟩
 have hbd:Below W.heap.size W wd:=by rw [← hwd];exact (Below.refl _ _).drew
 simp only [hwd]
 replace HO:=ah (HO.out.below hbd)
 replace HX:=ah (HX.out.below hbd)
 have HBD:=bth HBW hbd
 have HC1:=ah (aT vt t wd HO.out.row.tab (fun r hr => (HOK.out r (List.mem_append.2 (.inl hr))).2) (by omega))
 clear hwd hbd hS0
 go_wp2_with fail
 refine HC1.out.mono ?_
 rintro e w1 ⟨v1,rfl,ho1,hb1⟩
 have H1:=ah (Cl1.mk2 (w1:=w) rfl ho1 HBD.out.size (fun r hr => (HOK.out r (List.mem_append.2 (.inl hr))).2))
 obtain ⟨o1,c1,rfl⟩:=aG ho1
 replace HO:=ah (HO.out.below hb1)
 replace HX:=ah (HX.out.below hb1)
 replace HBD:=bth HBD hb1
 have hr0:=HO.out.box.range
 have hS1:w1.cell? ⟨b,1,none⟩ = some vt ∧ w1.cell? ⟨b,2,none⟩ = some vl:=⟨hr0 1 _ rfl,hr0 2 _ rfl⟩
 clear ho1 hb1 HC1 hr0
 go_wp2_with fail
 refine ⟨hS1,?_⟩
 refine WL.on 11 ?_
 have HC2:=ah (aT vl l w1 HO.out.row.log (fun r hr => (HOK.out r (List.mem_append.2 (.inr hr))).2) (by omega))
 clear hS1
 go_wp2_with fail
 refine HC2.out.mono ?_
 rintro e w2 ⟨v2,rfl,ho2,hb2⟩
 have H2:=ah (Cl1.mk2 (w1:=w) rfl ho2 HBD.out.size (fun r hr => (HOK.out r (List.mem_append.2 (.inr hr))).2))
 obtain ⟨o2,c2,rfl⟩:=aG ho2
 replace H1:=ah (H1.out.below hb2)
 replace HO:=ah (HO.out.below hb2)
 replace HX:=ah (HX.out.below hb2)
 replace HBD:=bth HBD hb2
 have hr0:=HO.out.box.range
 have hS2:w2.cell? ⟨b,1,none⟩ = some vt ∧ w2.cell? ⟨b,2,none⟩ = some vl:=⟨hr0 1 _ rfl,hr0 2 _ rfl⟩
 clear ho2 hb2 HC2 hr0
 go_wp2_with fail
 refine ⟨hS2,?_⟩
 refine WL.take (i:=12) (v:=.agg #[.slice o1 t.length c1,.slice o2 l.length c2]) rfl (by kernel_rfl) (by decide) (by decide +kernel) (by decide +kernel) (fun _ _ _ h => h) rfl (by intro w' _;go_simp) hS2 ?_
 simp only [Act.put,nz]
 clear hS2
 refine WL.la 13 ?_
 obtain ⟨WE,hWE⟩:∃ z,w2.setCells w.heap.size 0 [.slice o1 t.length c1,.slice o2 l.length c2] = z:=⟨_,rfl⟩
 have hth:=HX.out.there
 have hre:WE.rangeAt w.heap.size 0 [.slice o1 t.length c1,.slice o2 l.length c2]:=by rw [← hWE];exact (HX.out.set (us:=[.slice o1 t.length c1,.slice o2 l.length c2]) rfl).range
 have HFIN:Hid (BkFr w WE (.slice o1 t.length c1) (.slice o2 l.length c2) t l ∧ Below w.heap.size w WE):=ah (by
  rw [← hWE]
  exact ⟨⟨⟨H1.out.set HX.out,H2.out.set HX.out,H1.out.cap,H2.out.cap,HOK.out⟩,H1.out.fr,H2.out.fr⟩,below_setCells _ (Nat.le_refl _) _ _ _ HBD.out⟩)
 have HWE:=ah hWE
 have h2n:(prog.info? 51).map (·.size) = some ([.slice o1 t.length c1,.slice o2 l.length c2]:List Value).length:=bQ
 clear hWE H1 H2 HX HO
 refine aj rfl 51 _ _ rfl w.heap.size 0 [.slice o1 t.length c1,.slice o2 l.length c2] rfl rfl 2 rfl hth HIB.out (by intro v hv;simp at hv;rcases hv with rfl | rfl <;> rfl) ?_
 rw [HWE.out]
 simp only [Act.put,nz]
 go_wp2_with fail
 refine dI rfl w.heap.size 0 rfl [.slice o1 t.length c1,.slice o2 l.length c2] _ hre underlying51 rfl h2n rfl ?_
 exact ⟨_,_,rfl,HFIN.out⟩
theorem uw (w:World) (b:Nat) (d vt vl:Value) (t l:List Rf) (n:Nat) (x:ByteArray) (h:OpB w b d vt vl t l n) (htl:t.length ≤ 1000) (hll:l.length ≤ 1000) (hx:x.size ≤ maxLen) :
  Calls prog 63 #[.pointer (some ⟨b,0,none⟩),.string x] w (kX (valB t l x) w):=by
 obtain ⟨zi,hzi,hzl⟩:=Ky
 have hbW:Below w.heap.size w (w.alloc (.cells zi 42)):=bal
 have HX:Hid (BoxL (w.alloc (.cells zi 42)) w.heap.size 42 zi.toList):=ah (by have:=BoxL.new w 42 zi.toList;simpa using this)
 have HBW:=ah hbW
 have HBB:=ah (FK _ b d vt vl t l n (h.below hbW) htl hll)
 have HZL:=ah hzl
 have HV32:=ah (nk (t:=t) (l:=l) (x:=x) (fun r hr => (h.row.ok r hr).2))
 have HXS:=ah hx
 unfold KJ at HBB
 clear h hbW hzl hx
 go_enter func63,ntmps63
 go_wp2_with fail
 refine HBB.out.mono ?_
 rintro e w1 ⟨v1,v2,rfl,hbk,hb1⟩
 have HB1:=bth HBW hb1
 replace HX:=ah (HX.out.below hb1)
 have HVA:=ah (uQ v1 v2 t l x w1 hbk.1 HXS.out)
 unfold kX at HVA
 obtain ⟨ci,hci⟩:∃ c,idC (valB t l x) = c:=⟨_,rfl⟩
 rw [hci] at HVA
 have HCI:=ah hci
 have HCL:Hid (ci.length = 32):=ah (by rw [← hci,au,HV32.out])
 have HCO:Hid (∀ v ∈ ci,v.oneCell' = true):=ah (by rw [← hci];exact aM _)
 clear hb1 hbk HBB hci
 go_wp2_with fail
 refine HVA.out.mono ?_
 rintro e w2 ⟨rfl,hb2⟩
 replace HX:=ah (HX.out.below hb2)
 have hb02:=HB1.out.trans (hb2.mono HB1.out.size)
 obtain ⟨WE,hWE⟩:∃ z,w2.setCells w.heap.size 0 ci = z:=⟨_,rfl⟩
 have hth:w2.there w.heap.size 0 32:=by have:=HX.out.there;rwa [show zi.toList.length = 32 from by simpa using HZL.out] at this
 have hre:WE.rangeAt w.heap.size 0 ci:=by rw [← hWE];exact (HX.out.set (us:=ci) (by rw [HCL.out];simpa using HZL.out.symm)).range
 have HFIN:Hid (Below w.heap.size w WE):=ah (by rw [← hWE];exact below_setCells _ (Nat.le_refl _) _ _ _ hb02)
 have HWE:=ah hWE
 have HI32:=ah bO
 have h32:(prog.info? 42).map (·.size) = some ci.length:=by rw [HCL.out];exact bO
 clear hWE hb02 hb2 HX HVA
 go_wp2_with (refine aj rfl 42 _ _ rfl w.heap.size 0 ci rfl rfl 32 HCL.out hth HI32.out HCO.out ?_;rw [HWE.out])
 refine dI rfl w.heap.size 0 rfl ci _ hre underlying42 rfl h32 rfl ?_
 exact ⟨by rw [HCI.out],HFIN.out⟩
theorem yZ {P:Program} {fn:Func} {R:Ending → World → Prop} {a:Act} {w:World} {p:Tmp} {ty:TypeId} (h:fn.results = #[.cell p ty]) (b o:Nat)
  (hp:a.tmps.getD p undef = .pointer (some ⟨b,o,none⟩)) (cs:List Value) (d:TypeDesc) (hc:w.rangeAt b o cs)
  (hu:P.underlying ty = some d) (hd:d.isRow = true) (hi:(P.info? ty).map (·.size) = some cs.length) (hdef:a.defers = []) (hR:R (.returned (.agg cs.toArray)) w):bodyPost P fn R .ret a w:=dI h b o hp cs d hc hu hd hi hdef hR
theorem dP (n:Int) (w:World):Calls prog 14 #[.pointer none,.int .i64 n] w fun e w' => e = .returned (.slice none 0 0) ∧ w' = w:=by
 go_enter func14,ntmps14
 go_wp2_with fail
 go_ret
 exact ⟨rfl,rfl⟩
theorem fB (w:World):Calls prog 16 #[.pointer none] w fun e w' => e = .returned (.slice none 0 0) ∧ w' = w:=by
 go_enter func16,ntmps16
 go_wp2_with fail
 go_ret
 exact ⟨rfl,rfl⟩
theorem fq (n:Int) (w:World):Calls prog 24 #[.pointer none,.int .i64 n] w fun e w' => e = .returned (.int .i64 16) ∧ w' = w:=by
 go_enter func24,ntmps24
 go_wp2_with fail
 go_ret
 exact ⟨rfl,rfl⟩
theorem gF (w:World):Calls prog 28 #[.pointer none] w fun e w' => e = .returned (.int .i64 16) ∧ w' = w:=by
 go_enter func28,ntmps28
 go_wp2_with fail
 go_ret
 exact ⟨rfl,rfl⟩
theorem dD (w:World):Calls prog 29 #[.pointer none] w fun e w' => e = .returned (.int .i64 0) ∧ w' = w:=by
 go_enter func29,ntmps29
 go_wp2_with fail
 go_ret
 exact ⟨rfl,rfl⟩
theorem gD (n:Int) (w:World):Calls prog 30 #[.pointer none,.int .i64 n] w fun e w' => e = .returned (.int .i64 16) ∧ w' = w:=by
 go_enter func30,ntmps30
 go_wp2_with fail
 go_ret
 exact ⟨rfl,rfl⟩
theorem gG (w:World):Calls prog 31 #[.pointer none] w fun e w' => e = .returned (.pointer none) ∧ w' = w:=by
 go_enter func31,ntmps31
 go_wp2_with fail
 go_ret
 exact ⟨rfl,rfl⟩
theorem dQ (w:World):Calls prog 32 #[.pointer none] w fun e w' => e = .returned (.slice none 0 0) ∧ w' = w:=by
 go_enter func32,ntmps32
 go_wp2_with fail
 go_ret
 exact ⟨rfl,rfl⟩
theorem iJ (w:World):Calls prog 23 #[.pointer none] w fun e w' => e = .returned (.slice none 0 0) ∧ w' = w:=by
 go_enter func23,ntmps23
 go_wp2_with fail
 go_ret
 exact ⟨rfl,rfl⟩
theorem Ej (w:World):Calls prog 22 #[.pointer none] w fun e w' => e = .returned (.tuple #[]) ∧ w' = w:=by
 go_enter func22,ntmps22
 go_wp2_with fail
 go_end0
 exact ⟨rfl,rfl⟩
theorem gH (w:World):Calls prog 18 #[.pointer none] w fun e w' => e = .returned (.agg #[.slice none 0 0,.slice none 0 0]) ∧ Below w.heap.size w w':=by
 obtain ⟨W,hW⟩:∃ W,w.alloc (.cells #[.slice none 0 0,.slice none 0 0] 51) = W:=⟨_,rfl⟩
 have hx:BoxL W w.heap.size 51 [.slice none 0 0,.slice none 0 0]:=by rw [← hW];exact BoxL.new w 51 [.slice none 0 0,.slice none 0 0]
 have hbW:Below w.heap.size w W:=by rw [← hW];exact bal
 obtain ⟨WE,hWE⟩:∃ z,W.setCells w.heap.size 0 [.slice none 0 0,.slice none 0 0] = z:=⟨_,rfl⟩
 have hth:=hx.there
 have hre:WE.rangeAt w.heap.size 0 [.slice none 0 0,.slice none 0 0]:=by rw [← hWE];exact (hx.set (us:=[.slice none 0 0,.slice none 0 0]) rfl).range
 have HFIN:Hid (Below w.heap.size w WE):=ah (by rw [← hWE];exact below_setCells _ (Nat.le_refl _) _ _ _ hbW)
 have HW:=ah hW
 have HWE:=ah hWE
 have HIB:=ah bQ
 have h2n:(prog.info? 51).map (·.size) = some ([.slice none 0 0,.slice none 0 0]:List Value).length:=bQ
 clear hW hWE hx hbW
 go_enter func18,ntmps18
 go_upto_region 2 with fail
 rw [HW.out]
 go_wp2_with (refine aj rfl 51 _ _ rfl w.heap.size 0 [.slice none 0 0,.slice none 0 0] rfl rfl 2 rfl hth HIB.out (by intro v hv;simp at hv;rw [hv];rfl) ?_;rw [HWE.out])
 refine yZ rfl w.heap.size 0 rfl [.slice none 0 0,.slice none 0 0] _ hre underlying51 rfl h2n rfl ?_
 exact ⟨rfl,HFIN.out⟩
theorem oG:(idC zid).length = 32 ∧ (∀ v ∈ idC zid,v.oneCell' = true) ∧ (prog.info? 42).map (·.size) = some (idC zid).length ∧ (∀ w,(Instr.build 42 #[]).run prog w = .ok (.agg (idC zid).toArray) w):=⟨by rw [au,aV],aM zid,by rw [au,aV];exact bO,fun w => by kernel_rfl⟩
theorem Bb (x:ByteArray) (w:World):Calls prog 26 #[.pointer none,.string x] w fun e w' => e = .returned (.agg (idC zid).toArray) ∧ Below w.heap.size w w':=by
 obtain ⟨hzl,hzo,h32,_⟩:=oG
 obtain ⟨hziv,hbz⟩:=cK
 obtain ⟨cz,hcz⟩:∃ c,idC zid = c:=⟨_,rfl⟩
 rw [hcz] at hzl hzo h32 hbz hziv
 have hb0:Below w.heap.size w w:=Below.refl _ _
 obtain ⟨W,hW⟩:∃ W,w.alloc (.cells cz.toArray 42) = W:=⟨_,rfl⟩
 have hx:BoxL W w.heap.size 42 cz:=by rw [← hW];exact BoxL.new w 42 cz
 have hbW:Below w.heap.size w W:=by rw [← hW];exact hb0.trans (bal.mono hb0.size)
 obtain ⟨WE,hWE⟩:∃ z,W.setCells w.heap.size 0 cz = z:=⟨_,rfl⟩
 have hth:W.there w.heap.size 0 32:=by have:=hx.there;rwa [hzl] at this
 have hre:WE.rangeAt w.heap.size 0 cz:=by rw [← hWE];exact (hx.set (us:=cz) rfl).range
 have HFIN:Hid (Below w.heap.size w WE):=ah (by rw [← hWE];exact below_setCells _ hb0.size _ _ _ hbW)
 have HW:=ah hW
 have HWE:=ah hWE
 have HZL:=ah hzl
 have HZO:=ah hzo
 have HI:=ah bO
 have HCZ:=ah hcz
 clear hW hWE hx hbW hzl hzo hcz hb0
 go_enter func26,ntmps26
 go_upto_region 2 with fail
 rw [HW.out]
 go_wp2_with (refine aj rfl 42 _ _ rfl w.heap.size 0 cz rfl rfl 32 HZL.out hth HI.out HZO.out ?_;rw [HWE.out])
 refine yZ rfl w.heap.size 0 rfl cz _ hre underlying42 rfl h32 rfl ?_
 exact ⟨by rw [HCZ.out],HFIN.out⟩
theorem Em (x:ByteArray) (w:World):Calls prog 20 #[.pointer none,.string x] w fun e w' => e = .returned (.tuple #[.agg (idC zid).toArray,.int .i64 16]) ∧ Below w.heap.size w w':=by
 obtain ⟨hzl,hzo,h32,_⟩:=oG
 obtain ⟨hziv,hbz⟩:=cK
 obtain ⟨cz,hcz⟩:∃ c,idC zid = c:=⟨_,rfl⟩
 rw [hcz] at hzl hzo h32 hbz hziv
 have hb0:Below w.heap.size w w:=Below.refl _ _
 obtain ⟨W,hW⟩:∃ W,w.alloc (.cells cz.toArray 42) = W:=⟨_,rfl⟩
 have hx:BoxL W w.heap.size 42 cz:=by rw [← hW];exact BoxL.new w 42 cz
 have hbW:Below w.heap.size w W:=by rw [← hW];exact hb0.trans (bal.mono hb0.size)
 obtain ⟨WE,hWE⟩:∃ z,W.setCells w.heap.size 0 cz = z:=⟨_,rfl⟩
 have hth:W.there w.heap.size 0 32:=by have:=hx.there;rwa [hzl] at this
 have hre:WE.rangeAt w.heap.size 0 cz:=by rw [← hWE];exact (hx.set (us:=cz) rfl).range
 have HFIN:Hid (Below w.heap.size w WE):=ah (by rw [← hWE];exact below_setCells _ hb0.size _ _ _ hbW)
 have HW:=ah hW
 have HWE:=ah hWE
 have HZL:=ah hzl
 have HZO:=ah hzo
 have HI:=ah bO
 have HCZ:=ah hcz
 clear hW hWE hx hbW hzl hzo hcz hb0
 go_enter func20,ntmps20
 go_upto_region 2 with fail
 rw [HW.out]
 go_wp2_with (refine aj rfl 42 _ _ rfl w.heap.size 0 cz rfl rfl 32 HZL.out hth HI.out HZO.out ?_;rw [HWE.out])
 refine rV rfl w.heap.size 0 rfl cz _ hre underlying42 rfl h32 rfl _ rfl ?_
 exact ⟨by rw [HCZ.out];rfl,HFIN.out⟩
theorem GI (n:Int) (o:Ob) (w:World):Calls prog 19 #[.pointer none,.int .i64 n,.agg (obC o).toArray] w fun e w' => e = .returned (.tuple #[.agg (idC zid).toArray,.int .i64 16]) ∧ Below w.heap.size w w':=by
 obtain ⟨hzl,hzo,h32,_⟩:=oG
 obtain ⟨hziv,hbz⟩:=cK
 obtain ⟨cz,hcz⟩:∃ c,idC zid = c:=⟨_,rfl⟩
 rw [hcz] at hzl hzo h32 hbz hziv
 obtain ⟨w0,hw0⟩:∃ z,w.alloc (.cells (obC o).toArray 33) = z:=⟨_,rfl⟩
 have hb0:Below w.heap.size w w0:=by rw [← hw0];exact bal
 have HW0:=ah hw0
 have hs0:w0.heap.size = w.heap.size + 1:=by rw [← hw0];simp
 generalize obC o = oc at hw0 HW0 ⊢
 clear hw0
 obtain ⟨W,hW⟩:∃ W,w0.alloc (.cells cz.toArray 42) = W:=⟨_,rfl⟩
 have hx:BoxL W (w.heap.size + 1) 42 cz:=by rw [← hs0,← hW];exact BoxL.new w0 42 cz
 have hbW:Below w.heap.size w W:=by rw [← hW];exact hb0.trans (bal.mono hb0.size)
 obtain ⟨WE,hWE⟩:∃ z,W.setCells (w.heap.size + 1) 0 cz = z:=⟨_,rfl⟩
 have hth:W.there (w.heap.size + 1) 0 32:=by have:=hx.there;rwa [hzl] at this
 have hre:WE.rangeAt (w.heap.size + 1) 0 cz:=by rw [← hWE];exact (hx.set (us:=cz) rfl).range
 have HFIN:Hid (Below w.heap.size w WE):=ah (by rw [← hWE];exact below_setCells _ (Nat.le_succ _) _ _ _ hbW)
 have HW:=ah hW
 have HWE:=ah hWE
 have HZL:=ah hzl
 have HZO:=ah hzo
 have HI:=ah bO
 have HCZ:=ah hcz
 clear hW hWE hx hbW hzl hzo hcz hb0 hs0
 go_enter func19,ntmps19
 go_upto_region 2 with fail
 rw [HW0.out]
 rw [HW.out]
 go_wp2_with (refine aj rfl 42 _ _ rfl (w.heap.size + 1) 0 cz rfl rfl 32 HZL.out hth HI.out HZO.out ?_;rw [HWE.out])
 refine rV rfl (w.heap.size + 1) 0 rfl cz _ hre underlying42 rfl h32 rfl _ rfl ?_
 exact ⟨by rw [HCZ.out];rfl,HFIN.out⟩
theorem zq (x:ByteArray) (a b:Idl) (w:World):Calls prog 25 #[.pointer none,.string x,.agg (idC a).toArray,.agg (idC b).toArray] w fun e w' => e = .returned (.int .i64 16) ∧ Below w.heap.size w w':=by
 generalize idC a = ca
 generalize idC b = cb
 have HB:Hid (Below w.heap.size w ((w.alloc (.cells ca.toArray 42)).alloc (.cells cb.toArray 42))):=ah (bal.alloc (by simp) _)
 go_enter func25,ntmps25
 go_wp2_with fail
 go_ret
 exact ⟨rfl,HB.out⟩
theorem zu (a:Idl) (w:World):Calls prog 12 #[.pointer none,.agg (idC a).toArray] w fun e w' => e = .returned (.tuple #[.agg #[.int .i64 0,.string ⟨#[]⟩],.bool false]) ∧ Below w.heap.size w w':=by
 obtain ⟨w0,hw0⟩:∃ z,w.alloc (.cells (idC a).toArray 42) = z:=⟨_,rfl⟩
 have hb0:Below w.heap.size w w0:=by rw [← hw0];exact bal
 have HW0:=ah hw0
 have hs0:w0.heap.size = w.heap.size + 1:=by rw [← hw0];simp
 generalize idC a = ca at hw0 HW0 ⊢
 clear hw0
 obtain ⟨W,hW⟩:∃ W,w0.alloc (.cells #[.int .i64 0,.string ⟨#[]⟩] 33) = W:=⟨_,rfl⟩
 have hx:BoxL W (w.heap.size + 1) 33 [.int .i64 0,.string ⟨#[]⟩]:=by rw [← hs0,← hW];exact BoxL.new w0 33 [.int .i64 0,.string ⟨#[]⟩]
 have hbW:Below w.heap.size w W:=by rw [← hW];exact hb0.trans (bal.mono hb0.size)
 have HX:=ah hx
 have HB:=ah hbW
 have HW:=ah hW
 clear hW hb0 hx hbW hs0
 go_enter func12,ntmps12
 go_upto_region 1 with fail
 rw [HW0.out,HW.out]
 refine wbq ?_
 repeat (go_big_quiet_step (fail))
 refine wpQuiet_nil ?_
 intro wq hbq
 have hxq:=HX.out.below hbq
 obtain ⟨WE,hWE⟩:∃ z,wq.setCells (w.heap.size + 1) 0 [.int .i64 0,.string ⟨#[]⟩] = z:=⟨_,rfl⟩
 have hth:=hxq.there
 have hre:WE.rangeAt (w.heap.size + 1) 0 [.int .i64 0,.string ⟨#[]⟩]:=by rw [← hWE];exact (hxq.set (us:=[.int .i64 0,.string ⟨#[]⟩]) rfl).range
 have HFIN:Hid (Below w.heap.size w WE):=ah (by rw [← hWE];exact below_setCells _ (by omega) _ _ _ (HB.out.trans (hbq.mono HB.out.size)))
 have HWE:=ah hWE
 have h2o:(prog.info? 33).map (·.size) = some ([.int .i64 0,.string ⟨#[]⟩]:List Value).length:=by decide +kernel
 have HIO:Hid ((prog.info? 33).map (·.size) = some 2):=ah (by decide +kernel)
 clear hWE hxq hbq
 go_wp2_with (refine aj rfl 33 _ _ rfl (w.heap.size + 1) 0 [.int .i64 0,.string ⟨#[]⟩] rfl rfl 2 rfl hth HIO.out (by intro v hv;simp at hv;rcases hv with rfl | rfl <;> rfl) ?_;rw [HWE.out])
 refine rV rfl (w.heap.size + 1) 0 rfl [.int .i64 0,.string ⟨#[]⟩] _ hre underlying33 rfl h2o rfl _ rfl ?_
 exact ⟨rfl,HFIN.out⟩
theorem El (g:Nat) (x:Idl) (hx:x.length = 32) (w:World) (hr:w.rangeAt g 0 (idC x)):Calls prog 21 #[.pointer none,.slice (some ⟨g,0,none⟩) 1 1] w fun e w' => e = .returned (.tuple #[]) ∧ Below w.heap.size w w':=by
 obtain ⟨zi,hzi,hzil⟩:=Ky
 have HCI:Hid ((idC x).length = 32):=ah (by rw [au,hx])
 have HCO:=ah (aM x)
 have HIB:=ah bO
 obtain ⟨w4,hw4⟩:∃ z,(w.alloc (.cells zi 42)).setCells w.heap.size 0 (idC x) = z:=⟨_,rfl⟩
 have hb4:Below w.heap.size w w4:=by rw [← hw4];exact below_setCells _ (Nat.le_refl _) _ _ _ bal
 have hx4:BoxL w4 w.heap.size 42 (idC x):=by rw [← hw4];exact BoxL.set (cs:=zi.toList) (by have:=BoxL.new w 42 zi.toList;simpa using this) (by rw [HCI.out];simpa using hzil.symm)
 have HTH:=ah (there_alloc (n:=32) w zi 42 hzil)
 have HW4:=ah hw4
 have hr4:=hx4.range
 have h32i:(prog.info? 42).map (·.size) = some (idC x).length:=by rw [HCI.out];exact bO
 have HB4:=ah hb4
 have HG:=ah (zu x w4)
 obtain ⟨ci,hci⟩:∃ c,idC x = c:=⟨_,rfl⟩
 rw [hci] at hr HCI HCO HW4 hr4 h32i HG
 clear hw4 hb4 hx4 hzil hci
 go_enter func21,ntmps21
 go_wp2_with fail
 refine wp_loop_rounds 2 ?_
 rw [rounds_succ]
 go_wp2_with (first
  | refine wpList_load_mid rfl 42 _ rfl g 0 rfl ci _ hr underlying42 rfl h32i ?_
  | (refine aj rfl 42 _ _ rfl w.heap.size 0 ci rfl rfl 32 HCI.out HTH.out HIB.out HCO.out ?_;rw [HW4.out])
  | refine wpList_load_mid rfl 42 _ rfl w.heap.size 0 rfl ci _ hr4 underlying42 rfl h32i ?_)
 refine HG.out.mono ?_
 rintro e w5 ⟨rfl,hb5⟩
 obtain ⟨w6,hw6⟩:∃ z,(w5.alloc (.cells #[.int .i64 0,.string ⟨#[]⟩] 33)).setCells w5.heap.size 0 [.int .i64 0,.string ⟨#[]⟩] = z:=⟨_,rfl⟩
 have hb6:Below w5.heap.size w5 w6:=by rw [← hw6];exact below_setCells _ (Nat.le_refl _) _ _ _ bal
 have HW6:=ah hw6
 have HTO:=ah (there_alloc (n:=2) w5 #[.int .i64 0,.string ⟨#[]⟩] 33 rfl)
 have HIO:Hid ((prog.info? 33).map (·.size) = some 2):=ah (by decide +kernel)
 have h05:=HB4.out.trans (hb5.mono HB4.out.size)
 have HB6:=ah (h05.trans (hb6.mono h05.size))
 clear hb5 hb6 hw6 h05 HG
 go_wp2_with (refine aj rfl 33 _ _ rfl w5.heap.size 0 [.int .i64 0,.string ⟨#[]⟩] rfl rfl 2 rfl HTO.out HIO.out (by intro v hv;simp at hv;rcases hv with rfl | rfl <;> rfl) ?_;rw [HW6.out])
 rw [rounds_succ]
 go_wp2_with fail
 go_end0
 exact ⟨rfl,HB6.out⟩
end
end Go.Proofs.YtlhcoanbhnphgaaGreatDoor
