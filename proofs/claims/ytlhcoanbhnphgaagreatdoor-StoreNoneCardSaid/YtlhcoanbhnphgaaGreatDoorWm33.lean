/- A part of this claim. -/
import Derived.Test.YtlhcoanbhnphgaaGreatDoorWm32
namespace Go.Proofs.YtlhcoanbhnphgaaGreatDoor
open Tryz
set_option maxHeartbeats 64000000
set_option maxRecDepth 100000
set_option linter.all false
section
open Go.RowKit Go.Maps
def cntF (F:List Ob) (ms:List Idl):Nat:=((F.map idO).filter fun y => decide (y ∉ ms)).length
theorem Lm {l:List Idl} {ms:List Idl} {x:Idl}:(l.filter fun y => decide (y ∉ addI ms x)).length ≤ (l.filter fun y => decide (y ∉ ms)).length:=by
 induction l with
 | nil => simp
 | cons a l ih =>
  rw [List.filter_cons,List.filter_cons]
  by_cases h:a ∈ ms
  ·rw [if_neg (by simp;exact dW.2 (.inr h)),if_neg (by simp;exact h)];exact ih
  rw [if_pos (show decide (a ∉ ms) = true by simp;exact h)]
  split
  ·rw [List.length_cons,List.length_cons];omega
  rw [List.length_cons];omega
theorem cnt_lt {l:List Idl} {ms:List Idl} {x:Idl} (hx:x ∈ l) (hn:x ∉ ms):(l.filter fun y => decide (y ∉ addI ms x)).length < (l.filter fun y => decide (y ∉ ms)).length:=by
 induction l with
 | nil => cases hx
 | cons a l ih =>
  rw [List.filter_cons,List.filter_cons]
  by_cases e:a = x
  ·subst e
   rw [if_neg (by simp;exact dW.2 (.inl rfl)),if_pos (by simp;exact hn),List.length_cons]
   have:=Lm (l:=l) (ms:=ms) (x:=a)
   omega
  have hx':x ∈ l:=(List.mem_cons.1 hx).resolve_left (fun h => e h.symm)
  have:=ih hx'
  by_cases h:a ∈ ms
  ·rw [if_neg (by simp;exact dW.2 (.inr h)),if_neg (by simp;exact h)];exact this
  rw [if_pos (show decide (a ∉ ms) = true by simp;exact h)]
  split
  ·rw [List.length_cons,List.length_cons];omega
  rw [List.length_cons];omega
theorem Hr {F:List Ob} {c:Idl × Int} (h:kidF F c = true):c.1 ∈ F.map idO:=by
 unfold kidF at h
 cases e:fndF F c.1 with
 | none => rw [e] at h;cases h
 | some o =>
  have h1:=List.find?_some e
  have h2:=List.mem_of_find?_eq_some e
  simp at h1
  exact List.mem_map.2 ⟨o,h2,h1⟩
def CR (Bs:Nat) (w0:World) (wb sb vb mb:Nat) (F:List Ob) (Gd:Prop) (x0:Idl) (K m:Nat) (w:World):Prop :=
 ∃ qv lv Q n ms lk,WKs Bs w0 w wb sb vb mb qv lv Q n ms lk ∧ Q.length + 41 * cntF F ms = m ∧ lk.length + m ≤ K ∧ n + 2 * m ≤ 2 * K ∧ (Gd → (∀ c ∈ Q,c = (x0,0)) ∧ lk = []) ∧ ms.length + cntF F ms ≤ F.length
def lenM (wb:Nat) (w:World):Nat:=match w.cell? ⟨wb,1,none⟩ with
 | some (.slice _ n _) => n
 | _ => 0
theorem CS:prog.underlying 255 = some (.slice (prog.elem 255)):=by kernel_rfl
theorem yU (W:World) (g off n cap:Nat) (h:n + 1 ≤ cap + 1):(Instr.sliceAt 255 (.slice (some ⟨g,off,none⟩) (n + 1) (cap + 1)) (some (.int .i64 1)) none none).run prog W = .ok (.slice (some (if cap = 0 then (⟨g,off,none⟩:Addr) else ⟨g,off + 33,none⟩)) n cap) W:=by
 have hs:(sizeOf (prog.elem 255)).run prog W = .ok 33 W:=by kernel_rfl
 rw [run_sliceAt_slice _ _ _ _ _ _ CS,run_slice_l _ _ _ _ _ CS _ _ (by omega) (by omega),hs]
 show Result.ok _ W = _
 unfold sliced
 rw [show (1:Int).toNat = 1 from rfl]
 by_cases h0:cap = 0
 ·subst h0
  obtain rfl:n = 0:=by omega
  rfl
 rw [if_neg (by omega),if_neg h0]
 simp [Addr.add]
section
variable {Bs:Nat} {w0 w:World} {wb sb vb mb:Nat} {F:List Ob} {Gd:Prop} {x0:Idl} {K m:Nat}
theorem CR.done {Q:List (Idl × Int)} {n:Nat} {ms:List Idl} {lk:List (Idl × Int)} {c:Idl × Int} {w':World} {qv' lv':Value} {Q':List (Idl × Int)} {ms':List Idl} {lk':List (Idl × Int)}
  (hgd:Gd → ∃ o,fndF F x0 = some o ∧ o.kind = 1) (hm:(Q.length + 1) + 41 * cntF F ms = m) (hk:lk.length + m ≤ K) (hn:n + 2 * m ≤ 2 * K) (hg:Gd → (∀ d ∈ c :: Q,d = (x0,0)) ∧ lk = []) (hz:ms.length + cntF F ms ≤ F.length)
  (h:WKs Bs w0 w' wb sb vb mb qv' lv' Q' (n + 2) ms' lk') (hv:VisP F c Q ms lk Q' ms' lk'):∃ m',m' < m ∧ CR Bs w0 wb sb vb mb F Gd x0 K m' w':=by
 rcases hv with ⟨h1,rfl,rfl,rfl⟩ | ⟨h1,h2,rfl,rfl,rfl⟩ | ⟨h1,h2,rfl,rfl,cs,rfl,hcs,hcs1⟩
 ·refine ⟨Q'.length + 41 * cntF F ms',by omega,qv',lv',_,_,_,_,h,rfl,by rw [List.length_append];simp;omega,by omega,fun g => ?_,hz⟩
  obtain ⟨e1,e2⟩:=hg g
  obtain ⟨o,ho,_⟩:=hgd g
  have ec:=e1 c (List.mem_cons_self ..)
  unfold kidF at h1
  rw [ec,ho] at h1
  simp at h1
 ·exact ⟨Q'.length + 41 * cntF F ms',by omega,qv',lv',_,_,_,_,h,rfl,by omega,by omega,fun g => ⟨fun d hd => (hg g).1 d (List.mem_cons_of_mem _ hd),(hg g).2⟩,hz⟩
 have hc:=cnt_lt (Hr h1) h2
 refine ⟨(Q ++ cs).length + 41 * cntF F (addI ms c.1),?_,qv',lv',_,_,_,_,h,rfl,?_,?_,fun g => ?_,?_⟩
 ·rw [List.length_append];unfold cntF at hm ⊢;omega
 ·rw [List.length_append];unfold cntF at hm ⊢;omega
 ·rw [List.length_append];unfold cntF at hm ⊢;omega
 ·obtain ⟨e1,e2⟩:=hg g
  obtain ⟨o,ho,ho1⟩:=hgd g
  have ec:=e1 c (List.mem_cons_self ..)
  have:=hcs1 o (by rw [ec];exact ho) ho1
  rw [this,List.append_nil]
  exact ⟨fun d hd => e1 d (List.mem_cons_of_mem _ hd),e2⟩
 unfold addI
 rw [if_neg h2,List.length_cons]
 have e:cntF F (addI ms c.1) = cntF F (c.1 :: ms):=by unfold addI;rw [if_neg h2]
 unfold cntF at e hz ⊢
 omega
theorem En (h:CR Bs w0 wb sb vb mb F Gd x0 K m w) (hK:K ≤ 400000) (hgd:Gd → ∃ o,fndF F x0 = some o ∧ o.kind = 1)
  (HG:Hid (∀ (y:Idl),y.length = 32 → ∀ V,Below Bs w0 V → Calls prog 12 #[.pointer (some ⟨sb,0,none⟩),.agg (idC y).toArray] V (l7 (fndF F y) V))) :
  Calls prog 109 #[.pointer (some ⟨wb,0,none⟩)] w fun e w' => ∃ b m',e = .returned (.bool b) ∧ CR Bs w0 wb sb vb mb F Gd x0 K m' w' ∧ m' ≤ m ∧ (b = false → m' < m):=by
 obtain ⟨zc,hzc,hzcl⟩:=og
 have HI33:=ah tu
 have HGD:=ah hgd
 have HKK:=ah hK
 have HCR:=ah h
 clear h hgd hK
 go_enter func109,ntmps109
 go_wp2_with fail
 go_loopw [] (fun wr => ∃ m',m' ≤ m ∧ Hid (CR Bs w0 wb sb vb mb F Gd x0 K m' wr)) (fun wr => lenM wb wr)
 case atStart => exact ⟨m,Nat.le_refl _,HCR⟩
 obtain ⟨wo,rfl⟩:∃ wo:World,wo = wr:=⟨_,rfl⟩
 obtain ⟨m',hmm,HR⟩:=hrel
 obtain ⟨qv,lv,Q,n,ms,lk,hw,hm,hk,hn,hg,hz⟩:=HR.out
 cases Q with
 | nil =>
  obtain ⟨qa,qc,rfl⟩:=hw.q.iP
  have c1:wo.cell? ⟨wb,1,none⟩ = some (.slice qa 0 qc):=hw.cell rfl
  clear hw hm hk hn hg hz
  go_wp2_with fail
  go_ret
  exact ⟨true,m',rfl,HR.out,hmm,fun h => by cases h⟩
 | cons c Q =>
  obtain ⟨x,ck⟩:=c
  obtain ⟨hx,h0,h3⟩:=hw.q32 (x,ck) (List.mem_cons_self ..)
  dsimp only at hx h0 h3
  have hcl:(chC (x,ck)).length = 33:=iw hx
  have hchv:chV ((x,ck) :: Q) = chC (x,ck) ++ chV Q:=by simp [chV]
  have hq:=hw.q
  rw [hchv,List.length_cons] at hq
  obtain ⟨g,off,cap,rfl,hgB,hgl,hcm,hnc,hr0,hcut⟩:=hq.cut hcl
  obtain ⟨p,hp⟩:∃ p,(if cap = 0 then (⟨g,off,none⟩:Addr) else ⟨g,off + 33,none⟩) = p:=⟨_,rfl⟩
  have hq2:=hcut p hp.symm
  have hpb:(Value.slice (some p) Q.length cap).ownBlock = (Value.slice (some ⟨g,off,none⟩) (Q.length + 1) (cap + 1)).ownBlock:=by
   rw [← hp]
   split <;> rfl
  have hsl:∀ W,(Instr.sliceAt 255 (.slice (some ⟨g,off,none⟩) (Q.length + 1) (cap + 1)) (some (.int .i64 1)) none none).run prog W = .ok (.slice (some p) Q.length cap) W:=fun W => by rw [← hp];exact yU W g off Q.length cap (by omega)
  have HM:Hid ((Q.length + 1) + 41 * cntF F ms = m'):=ah (by rw [← hm,List.length_cons])
  have HLK:=ah hk
  have HNN:=ah hn
  have HGG:=ah hg
  have HZZ:=ah hz
  have HXL:=ah hx
  have HK0:=ah h0
  have HK3:=ah h3
  have HWO:=ah hw
  have HQ2:=ah hq2
  have HPB:=ah hpb
  obtain ⟨qn,hqn⟩:∃ z,Q.length + 1 = z:=⟨_,rfl⟩
  rw [hqn] at hsl
  have HSL:=ah hsl
  have c1:wo.cell? ⟨wb,1,none⟩ = some (.slice (some ⟨g,off,none⟩) qn (cap + 1)):=by rw [← hqn];exact hw.cell rfl
  have k1:(0:Int) < (qn:Int):=by omega
  have d1:decide ((0:Int) < (qn:Int)) = true:=decide_eq_true k1
  have k2:0 < qn:=by omega
  have hgn:g < wo.heap.size:=hgl
  have HQN:=ah hqn
  have HCL:=ah hcl
  have HCO:=ah (qU (x,ck))
  have h33:(prog.info? 259).map (·.size) = some (chC (x,ck)).length:=by rw [hcl];exact tu
  have hwl:=hw.box.lt
  have hvl:=hw.vis.lt
  obtain ⟨cc,hcc⟩:∃ z,chC (x,ck) = z:=⟨_,rfl⟩
  have HCC:=ah hcc
  rw [hcc] at hr0 HCL HCO h33
  clear hx h0 h3 hchv hq hcut hpb hsl hm hk hn hg hz hw hq2 hp hcc hcl hgB hgl hcm hnc
  go_upto_region 3 with (first | (refine wpList_load_mid rfl 259 _ rfl g off rfl cc _ hr0 underlying259 rfl h33 ?_) | (refine aC rfl 259 _ _ rfl zc cc rfl rfl 33 HCL.out hzcl HI33.out HCO.out ?_;intro wn hxn hbn hsn))
  have HWN:=ah (HWO.out.below hbn)
  have HXN:=ah hxn
  have HQ3:=ah (HQ2.out.below hbn)
  have c2:wn.cell? ⟨wb,1,none⟩ = some (.slice (some ⟨g,off,none⟩) qn (cap + 1)):=by rw [← HQN.out];exact HWN.out.cell rfl
  have f2:wn.frozen? ⟨wb,1,none⟩ = false:=by have:=(HWN.out.box.there 1 (by simp)).2;rwa [Nat.zero_add] at this
  have HW4:Hid (WKs Bs w0 (wn.setCell ⟨wb,1,none⟩ (.slice (some p) Q.length cap)) wb sb vb mb (.slice (some p) Q.length cap) lv Q n ms lk):=ah (HWN.out.setQ (Chg.refl _ _) HQ3.out (fun d hd => HWN.out.q32 d (List.mem_cons_of_mem _ hd)) (fun j hj => .inl (HPB.out ▸ hj)) (Below.refl _ _))
  have HX4:Hid (BoxL (wn.setCell ⟨wb,1,none⟩ (.slice (some p) Q.length cap)) wo.heap.size 259 cc):=ah (hxn.chg (bM (b:=wb)) (by omega))
  clear hbn hxn c1 hr0
  go_upto_region 4 with (refine oH rfl 255 _ _ rfl _ _ rfl rfl _ (HSL.out _) ?_)
  obtain ⟨w4,hw4⟩:∃ z,wn.setCell ⟨wb,1,none⟩ (.slice (some p) Q.length cap) = z:=⟨_,rfl⟩
  rw [hw4] at HW4 HX4 ⊢
  clear hw4 c2 f2
  have hbd:Below w4.heap.size w4 w4.drew:=(Below.refl _ _).drew
  obtain ⟨bb,hbb⟩:=(HW4.out.below hbd).vis.look underlying254 (mW w4.drew) HXL.out HK0.out (by have:=HK3.out;omega:ck ≤ 100)
  rw [HCC.out] at hbb
  have hS0:w4.drew.cell? ⟨wb,2,none⟩ = some (.map (some vb)) ∧ w4.drew.rangeAt wo.heap.size 0 cc ∧ (Instr.lookup 254 (.map (some vb)) (.agg cc.toArray) false).run prog w4.drew = .ok (.bool bb) w4.drew:=⟨HW4.out.cell rfl,HX4.out.range,hbb⟩
  clear hbb
  refine wrL 6 (fun y => y.cell? ⟨wb,2,none⟩ = some (.map (some vb)) ∧ y.rangeAt wo.heap.size 0 cc ∧ (Instr.lookup 254 (.map (some vb)) (.agg cc.toArray) false).run prog y = .ok (.bool bb) y) ?_
  refine WL.tk 0 hS0 ?_
  refine WL.tk 1 hS0 ?_
  refine WL.tk 2 hS0 ?_
  refine WL.tk 3 hS0 ?_
  refine WL.tk 4 hS0 ?_ (hy:=(fun w' hSw => aK 259 _ (hSw.2.1) underlying259 rfl h33 _ rfl rfl))
  refine WL.take (i:=5) (v:=.bool bb) rfl (by kernel_rfl) (by decide) (by decide +kernel) (by decide +kernel) (fun _ _ _ h => h) rfl (fun w' hSw => lN rfl rfl rfl hSw.2.2) hS0 ?_
  simp only [Act.put,nz]
  refine WL.la 6 ?_
  clear hS0
  obtain ⟨wd,hwd⟩:∃ z,w4.drew = z:=⟨_,rfl⟩
  rw [hwd] at hbd
  simp only [hwd]
  have HWD:=ah (HW4.out.below hbd)
  have HXD:=ah (HX4.out.below hbd)
  clear hwd hbd
  cases bb with
  | true =>
   have HFIN:Hid (CR Bs w0 wb sb vb mb F Gd x0 K (Q.length + 41 * cntF F ms) wd):=ah ⟨_,_,_,_,_,_,HWD.out,rfl,by have:=HM.out;have:=HLK.out;omega,by have:=HM.out;have:=HNN.out;omega,fun hgd => ⟨fun d hd => (HGG.out hgd).1 d (List.mem_cons_of_mem _ hd),(HGG.out hgd).2⟩,HZZ.out⟩
   have cD:wd.cell? ⟨wb,1,none⟩ = some (.slice (some p) Q.length cap):=HWD.out.cell rfl
   have cO:wo.cell? ⟨wb,1,none⟩ = some (.slice (some ⟨g,off,none⟩) (Q.length + 1) (cap + 1)):=HWO.out.cell rfl
   have hle:lenM wb wd < lenM wb wo:=by unfold lenM;rw [cD,cO];exact Nat.lt_succ_self _
   have HLE:=ah hle
   clear cD cO hle
   go_wp2_with fail
   go_roundw
   case rel => exact ⟨_,by have:=HM.out;omega,HFIN⟩
   case measure => exact HLE.out
  | false =>
   have hkb:=HKK.out
   have HVI:=ah (Bf HWD.out x ck HXL.out HK0.out HK3.out (by have:=HM.out;have:=HLK.out;omega) (by have:=HNN.out;omega) (by have:=HLK.out;omega) HG)
   rw [HCC.out] at HVI
   have e0:=HXD.out.range
   go_wp2_with (refine wpList_load_mid rfl 259 _ rfl wo.heap.size 0 rfl cc _ e0 underlying259 rfl h33 ?_)
   refine HVI.out.mono ?_
   rintro e w5 ⟨rfl,qv',lv',Q',ms',lk',hw5,hv5⟩
   obtain ⟨m2,hm2,hcr⟩:=CR.done HGD.out HM.out HLK.out HNN.out HGG.out HZZ.out hw5 hv5
   have HFIN:=ah hcr
   have HM2:=ah hm2
   clear hw5 hv5 hcr hm2
   go_wp2_with fail
   go_ret
   exact ⟨false,m2,rfl,HFIN.out,by have:=HM2.out;omega,fun _ => by have:=HM2.out;omega⟩
end
theorem J6 {l:List (Idl × Int)} (h32:∀ c ∈ l,c.1.length = 32) {i j:Nat} (hi:i < l.length) (hj:j < 33):(chC l[i])[j]? = (chV l)[i * 33 + j]?:=by
 induction l generalizing i with
 | nil => simp at hi
 | cons a l ih =>
  have hl:(chC a).length = 33:=iw (h32 a (List.mem_cons_self ..))
  have e:chV (a :: l) = chC a ++ chV l:=by simp [chV]
  cases i with
  | zero =>
   rw [e,Nat.zero_mul,Nat.zero_add,List.getElem?_append_left (by omega)]
   rfl
  | succ i =>
   rw [e,List.getElem?_append_right (by rw [hl,Nat.succ_mul];omega),hl,show (i + 1) * 33 + j - 33 = i * 33 + j from by omega,← ih (fun c hc => h32 c (List.mem_cons_of_mem _ hc)) (by simpa using hi)]
   rfl
section
variable {Bs:Nat} {w0 w:World} {wb sb vb mb:Nat} {qv lv:Value} {Q:List (Idl × Int)} {n:Nat} {ms:List Idl} {lk:List (Idl × Int)} {F:List Ob} {Gd:Prop} {x0:Idl} {K m:Nat}
theorem zw (h:WKs Bs w0 w wb sb vb mb qv lv Q n ms lk) (hl:ms.length ≤ 100000):Calls prog 110 #[.pointer (some ⟨wb,0,none⟩)] w (l8 ms w):=by
 have c3:w.cell? ⟨wb,3,none⟩ = some (.map (some mb)):=h.cell rfl
 have HR:=ah (p8 mb n ms w h.mks hl)
 clear h
 go_enter func110,ntmps110
 go_wp2_with fail
 refine HR.out.mono ?_
 rintro e w1 ⟨v,m,rfl,h1⟩
 have H1:=ah h1
 clear h1
 go_wp2_with fail
 go_ret
 exact ⟨_,m,rfl,H1.out⟩
def KF (lk:List (Idl × Int)) (w:World) (e:Ending) (w':World):Prop:=∃ v m,e = .returned v ∧ bB w' v m ∧ (lk = [] ↔ m = []) ∧ Below w.heap.size w w'
theorem xI (h:WKs Bs w0 w wb sb vb mb qv lv Q n ms lk) (hl:lk.length ≤ 100000):Calls prog 111 #[.pointer (some ⟨wb,0,none⟩)] w (KF lk w):=by
 obtain ⟨zc,hzc,hzcl⟩:=og
 have hmm:=@run_makeMap prog
 have HI33:=ah tu
 obtain ⟨la,lc,rfl⟩:=h.l.iP
 obtain ⟨W,hW⟩:∃ W,w.alloc (.map #[] 0) = W:=⟨_,rfl⟩
 have hbW:Below w.heap.size w W:=by rw [← hW];exact bal
 have hst:SetI W w.heap.size 0 []:=by rw [← hW];exact iy w
 have HBW:=ah hbW
 have HST:=ah hst
 have HW:=ah hW
 have hw1:=h.below hbW
 have c4:W.cell? ⟨wb,4,none⟩ = some (.slice la lk.length lc):=hw1.cell rfl
 have HLQ:=ah hw1.l
 have HLO:=ah h.l.olt
 have HL32:=ah h.l32
 have HLL:=ah hl
 have hmx:lk.length ≤ 9223372036854775807:=by omega
 have HRI:=ah (fun k S V (hs:SetI V w.heap.size k S) (hl:S.length ≤ 100000) => p8 w.heap.size k S V hs hl)
 clear h hw1 hW hbW hst
 go_enter func111,ntmps111
 go_upto_region 4 with fail
 rw [HW.out]
 clear HW
 go_wp2_with fail
 go_loopw [14] (fun s14 wr => ∃ (k:Nat) (S:List Idl),k ≤ lk.length ∧ S.length ≤ k ∧ s14 = .int .i64 k ∧ Hid (SetI wr w.heap.size k S) ∧ Hid (0 < k → S ≠ []) ∧ Hid (Below w.heap.size w wr) ∧ Hid (Chg (fun b => b = w.heap.size) W wr)) (fun s14 _ => (lk.length - intOf s14).toNat)
 case atStart => exact ⟨0,[],by omega,by simp,rfl,HST,ah (fun h => absurd h (by omega)),HBW,ah (Chg.refl _ _)⟩
 obtain ⟨wo,rfl⟩:∃ wo:World,wo = wr:=⟨_,rfl⟩
 obtain ⟨k,S,hk,hSk,rfl,HS,HN,HB,HC⟩:=hrel
 by_cases hlt:k < lk.length
 ·have hq:=HLQ.out.chg HC.out (fun g hg => by have:=HLO.out g hg;omega)
  rcases hq.2 with ⟨_,e⟩ | ⟨g,off,cap,e,hgB,hgl,hnc,hcm,hth,hr⟩
  ·omega
  injection e with e1 _ e2
  subst e1 e2
  obtain ⟨hx,h0,h3⟩:=HL32.out lk[k] (List.getElem_mem hlt)
  have hflat:(chV lk).length = lk.length * 33:=CY (fun c hc => (HL32.out c hc).1)
  have f1:wo.rangeAt g (off + k * 33) (chC lk[k]):=fun j u hu => by
   have hj:j < 33:=by have:=(List.getElem?_eq_some_iff.1 hu).1;rw [iw hx] at this;exact this
   have:=hr (k * 33 + j) u (by rw [← J6 (fun c hc => (HL32.out c hc).1) hlt hj];exact hu)
   rwa [← Nat.add_assoc] at this
  clear hr hth hq hflat
  generalize lk[k] = c at f1 hx h0 h3
  obtain ⟨x,ck⟩:=c
  dsimp only at hx h0 h3
  have h33:(prog.info? 259).map (·.size) = some (chC (x,ck)).length:=by rw [iw hx];exact tu
  have h32:(prog.info? 42).map (·.size) = some (idC x).length:=by rw [au,hx];exact bL
  have HCL:Hid ((chC (x,ck)).length = 33):=ah (iw hx)
  have HCO:=ah (qU (x,ck))
  have HRI':Hid (∀ V:World,V.rangeAt wo.heap.size 0 (chC (x,ck)) → V.rangeAt wo.heap.size 0 (idC x)):=ah fun V hr j u hu => hr j u (by unfold chC;rw [List.getElem?_append_left (List.getElem?_eq_some_iff.1 hu).1];exact hu)
  have k0:(0:Int) ≤ k:=by omega
  have k1:(k:Int) < lk.length:=by omega
  have d1:decide ((k:Int) < lk.length) = true:=decide_eq_true k1
  have HXL:=ah hx
  obtain ⟨cc,hcc⟩:∃ z,chC (x,ck) = z:=⟨_,rfl⟩
  rw [hcc] at f1 h33 HCL HCO HRI'
  clear hcc hx h0 h3
  go_upto_region 7 with (first | (refine wpList_load_mid rfl 259 _ rfl g (off + k * 33) rfl cc _ f1 underlying259 rfl h33 ?_) | (refine aC rfl 259 _ _ rfl zc cc rfl rfl 33 HCL.out hzcl HI33.out HCO.out ?_;intro wn hxn hbn hsn))
  have HBN:=ah hbn
  have HSN:=ah (HS.out.on hbn)
  have e0:=HRI'.out wn hxn.range
  clear hbn hxn f1
  refine wp_region_lit ?_
  refine aO rfl (.map (some w.heap.size)) (by first | rfl | (go_simp;done) | (go_simp;rfl)) ?_
  simp only [Act.put,nz]
  refine aO rfl (.pointer (some ⟨wo.heap.size,0,none⟩)) (by first | rfl | (go_simp;done) | (go_simp;rfl)) ?_
  simp only [Act.put,nz]
  refine wpList_load_mid rfl 42 _ rfl wo.heap.size 0 rfl (idC x) _ e0 underlying42 rfl h32 ?_
  simp only [Act.put,nz]
  refine bR rfl _ _ _ 69 4 rfl underlying69 w.heap.size k (setF S) rfl HSN.out.1 x HXL.out true rfl rfl (by have:=HLL.out;unfold maxLen;omega) ?_
  intro w5 g1 g2
  simp only [Act.put,nz]
  have HS5:=ah (HSN.out.add HXL.out g1)
  have hsw:=HB.out.size
  have HB5:=ah ((HB.out.trans (HBN.out.mono HB.out.size)).grown g2 (by have:=HBN.out.size;omega) (fun j hj => by cases hj;exact Nat.le_refl _))
  have HC5:Hid (Chg (fun b => b = w.heap.size) W w5):=ah (HC.out.trans ((Chg.of_below HBN.out).trans (dK g2)))
  have hal:(addI S x).length ≤ k + 1:=by
   unfold addI
   split
   ·omega
   rw [List.length_cons];omega
  clear g1 g2 hsw e0
  go_wp2_with fail
  go_roundw
  case rel => exact ⟨k + 1,addI S x,by omega,hal,by go_num,HS5,ah (fun _ => Da),HB5,HC5⟩
  case measure => simp [intOf];omega
 obtain rfl:k = lk.length:=by omega
 have d1:decide ((lk.length:Int) < lk.length) = false:=decide_eq_false (by omega)
 have HRX:=ah (HRI.out lk.length S wo HS.out (by have:=HLL.out;omega))
 have HE:Hid (lk = [] ↔ S = []):=ah ⟨fun e => by
  have:S.length ≤ 0:=by rw [e] at hSk;exact hSk
  exact List.eq_nil_of_length_eq_zero (by omega),fun e => by
  by_cases h:lk = []
  ·exact h
  exact absurd e (HN.out (by have:lk.length ≠ 0:=fun e => h (List.eq_nil_of_length_eq_zero e);omega))⟩
 clear HS HN
 go_wp2_with fail
 refine HRX.out.mono ?_
 rintro e w5 ⟨v5,m5,rfl,hr5,_,hl5,_,hb5⟩
 have HFIN:Hid (KF lk w (.returned v5) w5):=ah ⟨v5,m5,rfl,hr5,HE.out.trans ⟨fun e => List.eq_nil_of_length_eq_zero (by rw [hl5,e];rfl),fun e => List.eq_nil_of_length_eq_zero (by rw [← hl5,e];rfl)⟩,HB.out.trans (hb5.mono HB.out.size)⟩
 clear hr5 hl5 hb5
 go_wp2_with fail
 go_ret
 exact HFIN.out
end
theorem Hl {R:Nat → Prop} (h:∃ m,R m):∃ m,R m ∧ ∀ k,R k → m ≤ k:=by
 obtain ⟨m,hm⟩:=h
 induction m using Nat.strongRecOn with
 | _ m ih =>
  by_cases h:∃ k,k < m ∧ R k
  ·obtain ⟨k,hk,hr⟩:=h
   exact ih k hk hr
  exact ⟨m,hm,fun k hk => Nat.le_of_not_lt fun hlt => h ⟨k,hlt,hk⟩⟩
theorem sS {R:Nat → Prop} (h:∃ m,R m):R (Classical.epsilon fun m => R m ∧ ∀ k,R k → m ≤ k) ∧ ∀ k,R k → (Classical.epsilon fun m => R m ∧ ∀ k,R k → m ≤ k) ≤ k:=Classical.epsilon_spec (p:=fun m => R m ∧ ∀ k,R k → m ≤ k) (Hl h)
def Jf (F:List Ob) (x:Idl) (w:World) (e:Ending) (w':World):Prop:=∃ v1 v2 m2,e = .returned (.tuple #[v1,v2]) ∧ bB w' v2 m2 ∧ ((∃ o,fndF F x = some o ∧ o.kind = 1) → m2 = []) ∧ Below w.heap.size w w'
theorem Bg (F:List Ob) (sb:Nat) (x:Idl) (hx:x.length = 32) (rb ro cap:Nat) (w:World) (hr:w.rangeAt rb ro (idC x)) (hrl:rb < w.heap.size) (hF:F.length ≤ 900)
  (HG:Hid (∀ (y:Idl),y.length = 32 → ∀ V,Below w.heap.size w V → Calls prog 12 #[.pointer (some ⟨sb,0,none⟩),.agg (idC y).toArray] V (l7 (fndF F y) V))) :
  Calls prog 60 #[.iface 25 (.pointer (some ⟨sb,0,none⟩)),.slice (some ⟨rb,ro,none⟩) 1 cap] w (Jf F x w):=by
 have HN:=ah (Eo sb x hx rb ro cap w hr hrl)
 obtain ⟨Gd,hGd⟩:∃ Gd:Prop,(∃ o,fndF F x = some o ∧ o.kind = 1) = Gd:=⟨_,rfl⟩
 have HGD:Hid (Gd → ∃ o,fndF F x = some o ∧ o.kind = 1):=ah (by rw [← hGd];exact id)
 have hcn:cntF F [] ≤ 900:=by
  unfold cntF
  have:=List.length_filter_le (fun y => decide (y ∉ ([]:List Idl))) (F.map idO)
  rw [List.length_map] at this
  omega
 have hcf:cntF F [] ≤ F.length:=by
  unfold cntF
  have:=List.length_filter_le (fun y => decide (y ∉ ([]:List Idl))) (F.map idO)
  rwa [List.length_map] at this
 obtain ⟨K,hKe⟩:∃ K,1 + 41 * cntF F [] = K:=⟨_,rfl⟩
 have HK:Hid (K ≤ 40000):=ah (by omega)
 have HCR0:Hid (∀ W wb vb mb qv,WKs w.heap.size w W wb sb vb mb qv (.slice none 0 0) [(x,0)] 0 [] [] → CR w.heap.size w wb sb vb mb F Gd x K K W):=ah fun W wb vb mb qv h => ⟨_,_,_,_,_,_,h,hKe,by simp,by omega,fun _ => ⟨fun c hc => by simpa using hc,rfl⟩,by simpa using hcf⟩
 have HST:=ah (fun W wb vb mb m (h:CR w.heap.size w wb sb vb mb F Gd x K m W) => En h (by have:=HK.out;omega) HGD.out HG)
 have HFL:=ah hF
 have HFI:Hid (∀ v1 v2 m2 w',bB w' v2 m2 → (Gd → m2 = []) → Below w.heap.size w w' → Jf F x w (.returned (.tuple #[v1,v2])) w'):=ah fun v1 v2 m2 w' h1 h2 h3 => ⟨v1,v2,m2,rfl,h1,by rw [hGd];exact h2,h3⟩
 clear hx hr hrl hF HG hGd HGD hcn hcf hKe
 go_enter func60,ntmps60
 go_wp2_with fail
 refine HN.out.mono ?_
 rintro e w1 ⟨rfl,qv,h1⟩
 have HC1:=ah (HCR0.out _ _ _ _ _ h1)
 clear h1 HN HCR0
 obtain ⟨wb,hwb⟩:∃ z,w.heap.size + 1 + 1 = z:=⟨_,rfl⟩
 obtain ⟨mb,hmb⟩:∃ z,w.heap.size + 1 = z:=⟨_,rfl⟩
 rw [hwb,hmb] at HC1
 simp only [hwb]
 clear hwb hmb
 go_wp2_with fail
 go_loopw [] (fun wr => Hid (∃ m,CR w.heap.size w wb sb w.heap.size mb F Gd x K m wr)) (fun wr => Classical.epsilon fun m => CR w.heap.size w wb sb w.heap.size mb F Gd x K m wr ∧ ∀ k,CR w.heap.size w wb sb w.heap.size mb F Gd x K k wr → m ≤ k)
 case atStart => exact ah ⟨K,HC1.out⟩
 obtain ⟨wo,rfl⟩:∃ wo:World,wo = wr:=⟨_,rfl⟩
 have hsp:=sS hrel.out
 obtain ⟨m0,hm0⟩:∃ z,(Classical.epsilon fun m => CR w.heap.size w wb sb w.heap.size mb F Gd x K m wo ∧ ∀ k,CR w.heap.size w wb sb w.heap.size mb F Gd x K k wo → m ≤ k) = z:=⟨_,rfl⟩
 rw [hm0] at hsp
 have HM0:=ah hm0
 have HSP:=ah hsp.1
 clear hsp hm0 hrel
 refine ?_
 go_wp2_with fail
 refine (HST.out wo wb _ mb m0 HSP.out).mono ?_
 rintro e w2 ⟨b,m',rfl,hc2,hle,hlt⟩
 have HC2:=ah hc2
 have HLT:=ah hlt
 clear hc2 hlt hle
 cases b with
 | false =>
  go_wp2_with fail
  go_roundw
  case rel => exact ah ⟨m',HC2.out⟩
  rw [HM0.out]
  have h1:=(sS (R:=fun m => CR w.heap.size w wb sb w.heap.size mb F Gd x K m w2) ⟨m',HC2.out⟩).2 m' HC2.out
  have h2:=HLT.out (by trivial)
  exact Nat.lt_of_le_of_lt h1 h2
 | true =>
  obtain ⟨qv2,lv2,Q2,n2,ms2,lk2,hw2,hm2,hk2,hn2,hg2,hz2⟩:=HC2.out
  have HMK:=ah (zw hw2 (by have:=HFL.out;omega))
  have HMI:=ah (fun V (hb:Below w2.heap.size w2 V) => xI (hw2.below hb) (by have:=HK.out;omega))
  have HBL:=ah hw2.bel
  have HG2:=ah (fun g => (hg2 g).2)
  clear hw2 hm2 hk2 hn2 hg2 hz2
  go_wp2_with fail
  refine HMK.out.mono ?_
  rintro e w3 ⟨v3,m3,rfl,_,_,_,_,hb3⟩
  have HB3:=bth HBL hb3
  have HMI3:=ah (HMI.out w3 hb3)
  clear hb3 HMI HMK
  go_wp2_with fail
  refine HMI3.out.mono ?_
  rintro e w4 ⟨v4,m4,rfl,hr4,he4,hb4⟩
  have HFIN:=ah (HFI.out v3 v4 m4 w4 hr4 (fun g => he4.1 (HG2.out g)) (HB3.out.trans (hb4.mono HB3.out.size)))
  clear hr4 he4 hb4
  go_wp2_with fail
  go_ret2
  exact HFIN.out
theorem FE {x:ByteArray} (h:aQ x = true):aR [] [(x,zid)] = true:=by
 unfold aR dx
 simp [tabV,logV,logB,setR,putV,delV,h]
theorem SL.Co {L:LK} {sy:Nat → Bool} {t l:List Rf} {F:List Ob} {U:List Idl} {c:Nat} {d:ByteArray × Nat} {r:Rf} (h:SL L sy t l F U c) (hok:aR t (l ++ [r]) = true) (hd:L 2 bkN = some d):SL (L.put 2 bkN (some (d.1 ++ ofB (entB r),d.2))) sy t (l ++ [r]) F U (c + 1):=by
 obtain ⟨m,hm⟩:=h.bk
 have e0:∀ x,L.put 2 bkN (some (d.1 ++ ofB (entB r),d.2)) 0 x = L 0 x:=fun x => LK.aI (by omega)
 have hf:=h.fc
 have hl:=h.lc
 refine ⟨⟨fun o ho => ?_,fun nm d' hd' => h.lo.all nm d' (by rwa [e0] at hd')⟩,by omega,h.nd,fun y => by rw [LK.aI (by omega)];exact h.pk y,⟨d.2,?_⟩,by simp;omega,?_,hok,fun o ho hn d' hd' => h.uf o ho hn d' (by rwa [e0] at hd'),h.up,h.s0⟩
 ·obtain ⟨h1,n,h2⟩:=h.lo.on o ho
  exact ⟨h1,n,by rw [e0];exact h2⟩
 ·rw [LK.bF]
  rw [hm] at hd
  obtain rfl:=Option.some.inj hd
  dsimp only
  rw [← mF]
  unfold kT
  simp
 rw [LK.aI (fun e => absurd e.2 (by decide +kernel))];exact h.tm
theorem Glob.chg5 {S:Nat → Prop} {w w':World} (h:Glob w) (hc:Chg S w w') (hS:∀ b,b < 5 → ¬ S b):Glob w':=by
 have h5:=h.laid.lt
 have hb:Below 5 w w':=⟨hc.os,hc.tape,hc.output,hc.size,fun k hk => hc.block k (Nat.lt_of_lt_of_le hk h5) (hS k hk)⟩
 exact h.gY hb (Nat.le_refl _)
section
variable {O:Nat → Prop} {N R M:Nat} {w:World} {q:Int} {L:LK} {sy:Nat → Bool} {B:Sb} {t l:List Rf} {n:Nat} {P:Nat → List Idl} {U:List Idl} {c:Nat} {F:List Ob}
def UpA (O:Nat → Prop) (N R M:Nat) (q:Int) (L:LK) (B:Sb) (t:List Rf) (n:Nat) (P:Nat → List Idl) (c:Nat) (F:List Ob) (l':List Rf) (U':List Idl) (L':LK) (sy':Nat → Bool) (w w':World):Prop :=
 ∃ O' B',DV O' N R M w' B'.g q L' sy' ∧ SM O' w' B' t l' n P U' c ∧ SL L' sy' t l' F U' (c + 1) ∧ B'.sb = B.sb ∧ B'.g = B.g ∧ B'.bl = B.bl ∧ (∀ k x,k ≠ 0 → ¬ (k = 2 ∧ x = bkN) → L' k x = L k x) ∧ (∀ j,O j → O' j) ∧ (∀ j,O' j → O j ∨ w.heap.size ≤ j) ∧ Chg (fun j => ¬ O j ∨ j ∈ B.bl) w w'
def oz (O:Nat → Prop) (N R M:Nat) (q:Int) (L:LK) (sy:Nat → Bool) (B:Sb) (t l:List Rf) (n:Nat) (P:Nat → List Idl) (U:List Idl) (c:Nat) (F:List Ob) (r:Rf) (old:Idl) (w:World) (e:Ending) (w':World):Prop :=
 ∃ (code:Int) (l':List Rf) (U':List Idl) (L':LK) (sy':Nat → Bool),e = .returned (.int .i64 code) ∧ UpA O N R M q L B t n P c F l' U' L' sy' w w' ∧
  ((code = 0 ∧ l' = l ++ [r] ∧ U' = [] ∧ sy' = (if U = [] then sy else upN sy 0 true)) ∨ (code ≠ 0 ∧ l' = l ∧ ((U' = U ∧ sy' = sy) ∨ (U' = [] ∧ sy' = (if U = [] then sy else upN sy 0 true))))) ∧
  (aQ r.1 = true → valB t l r.1 = old → (r.2 = zid ∨ ∃ o,fndF F r.2 = some o ∧ o.kind = 1) → aR t (l ++ [r]) = true → code = 0)
theorem yK (hv:DV O N R M w B.g q L sy) (hG:Glob w) (h5:∀ b ∈ B.bl,5 ≤ b) (hm:SM O w B t l n P U c) (hl:SL L sy t l F U c) (hN:N + R ≤ 800000) (hU:U.length ≤ 100000) (hc:c ≤ 90) (hM:(ofB (kT t l)).size + 81 ≤ M) (hM2:M ≤ 1000000) (hq:3 * (N * M) + M ≤ q) (hq2:q ≤ 1000000000) (r:Rf) (old:Idl) (hr:r.1.size ≤ 1000) (hr2:r.2.length = 32) (hol:old.length = 32) :
  Calls prog 25 #[.pointer (some ⟨B.sb,0,none⟩),.string r.1,.agg (idC old).toArray,.agg (idC r.2).toArray] w (oz O N R M q L sy B t l n P U c F r old w):=by
 obtain ⟨hziv,hbz⟩:=cK
 obtain ⟨W,hW⟩:∃ W,(w.alloc (.cells (idC old).toArray 42)).alloc (.cells (idC r.2).toArray 42) = W:=⟨_,rfl⟩
 have hbW:Below w.heap.size w W:=by rw [← hW];exact bal.alloc (by simp) _
 have hx0:BoxL W w.heap.size 42 (idC old):=by rw [← hW];exact (BoxL.new w 42 (idC old)).below bal
 have hx1:BoxL W (w.heap.size + 1) 42 (idC r.2):=by
  rw [← hW]
  have:=BoxL.new (w.alloc (.cells (idC old).toArray 42)) 42 (idC r.2)
  rwa [World.size_alloc] at this
 obtain ⟨hb32,hbt,hbl⟩:=jR hl.ok
 have HSAME:Hid (∀ w' (code:Int),code ≠ 0 → Below w.heap.size w w' → (aQ r.1 = true → valB t l r.1 = old → (r.2 = zid ∨ ∃ o,fndF F r.2 = some o ∧ o.kind = 1) → aR t (l ++ [r]) = true → code = 0) → oz O N R M q L sy B t l n P U c F r old w (.returned (.int .i64 code)) w'):=ah fun w' code hc hb hgood =>
  ⟨code,l,U,L,sy,rfl,⟨O,B,hv.below hb,hm.below hb,hl.more (by omega),rfl,rfl,rfl,fun _ _ _ _ => rfl,fun _ h => h,fun _ h => .inl h,Chg.of_below hb⟩,.inr ⟨hc,rfl,.inl ⟨rfl,rfl⟩⟩,hgood⟩
 have HBW:=ah hbW
 have HX0:=ah hx0
 have HX1:=ah hx1
 have HAD:=ah (pU (.slice none 0 0) (.slice none 0 0) [] [] (r.1,zid) W (kU W) hr aV (by simp) (by simp) (hG.below hbW).crc (hG.below hbW).laid.lt)
 unfold wP at HAD
 have HVA:=ah (fun V (hb:Below w.heap.size w V) => rH (hm.below hb) (by omega) (by omega) r.1 (by unfold maxLen;omega))
 unfold kX at HVA
 have HV32:=ah (nk (t:=t) (l:=l) (x:=r.1) (fun r hr => (hm.bk.op.row.ok r hr).2))
 have h32o:(prog.info? 42).map (·.size) = some (idC old).length:=by rw [au,hol];exact bL
 have h32i:(prog.info? 42).map (·.size) = some (idC r.2).length:=by rw [au,hr2];exact bL
 have heq1:=ah (fun W => lI (valB t l r.1) old HV32.out hol W)
 have heq2:=ah (fun W => lI r.2 zid hr2 aV W)
 have HW:=ah hW
 have hnok:aR [] [] = true:=ok_0
 rw [hnok,Bool.true_and] at HAD
 clear hW hbW hx0 hx1
 cases hnm:aQ r.1 with
 | false =>
  rw [hnm] at HAD
  have HNM:=ah hnm
  have HEND:=ah (fun w' hb => HSAME.out w' 1 (by decide) hb (fun h => by rw [HNM.out] at h;cases h))
  clear hv hG hm hl hN hU hc hM hM2 hq hq2 hr hr2 hol hnm hnok hb32 hbt hbl h5 HSAME
  generalize idC old = co at HX0 h32o HW heq1 ⊢
  generalize idC r.2 = ci at HX1 h32i HW heq2 ⊢
  generalize idC zid = cz at hbz hziv HAD heq2
  go_enter func25,ntmps25
  go_upto_region 1 with fail
  rw [HW.out]
  clear HW
  go_wp2_with fail
  refine HAD.out.mono ?_
  rintro e w1 ⟨rfl,hb1⟩
  have HB1:=bth HBW hb1
  clear hb1
  go_upto_region 4 with fail
  have hb2:Below w1.heap.size w1 (w1.alloc (.cells #[.slice none 0 0,.slice none 0 0] 51)):=bal
  generalize w1.alloc (.cells #[.slice none 0 0,.slice none 0 0] 51) = w2 at hb2 ⊢
  have HB2:=bth HB1 hb2
  clear hb2
  go_wp2_with fail
  go_ret
  exact HEND.out w2 HB2.out
 | true =>
  rw [hnm] at HAD
  have hbz1:=FE hnm
  simp only [List.nil_append,hbz1,↓reduceIte] at HAD
  clear hbz1
  obtain ⟨dm,hdm⟩:=hl.bk
  have HDZ:=ah (I6 hl.ok (fun r hr => (hm.bk.op.row.ok r hr).2))
  have HNM:=ah hnm
  have HVO:Hid (¬ valB t l r.1 = old → ∀ w',Below w.heap.size w w' → oz O N R M q L sy B t l n P U c F r old w (.returned (.int .i64 12)) w'):=ah (fun hne w' hb => HSAME.out w' 12 (by decide) hb (fun _ h _ _ => absurd h hne))
  have HMI:Hid (∀ m2:List Idl,((∃ o,fndF F r.2 = some o ∧ o.kind = 1) → m2 = []) → m2 ≠ [] → r.2 ≠ zid → ∀ w',Below w.heap.size w w' → oz O N R M q L sy B t l n P U c F r old w (.returned (.int .i64 13)) w'):=ah (fun m2 h1 h2 h3 w' hb => HSAME.out w' 13 (by decide) hb (fun _ _ h _ => absurd (h1 (h.resolve_left h3)) h2))
  have HG:=ah (fun V (hb:Below w.heap.size w V) => rO (hv.below hb) (hG.below hb) (hm.below hb) hl (by omega) hM2)
  have HCLO:=ah (fun (rb ro cap:Nat) V (hb:Below w.heap.size w V) (hr:V.rangeAt rb ro (idC r.2)) (hrl:rb < V.heap.size) => Bg F B.sb r.2 hr2 rb ro cap V hr hrl (by have:=hl.fc;omega) (ah fun y hy V2 hb2 => HG.out V2 (hb.trans (hb2.mono hb.size)) y hy))
  unfold Jf at HCLO
  have HRO:Hid (∀ V,Below w.heap.size w V → ∃ OX:Nat → Prop,DV OX N R M V B.g q L sy ∧ SM OX V B t l n P U c ∧ (∀ j,O j → OX j) ∧ (∀ j,OX j → O j ∨ w.heap.size ≤ j) ∧ ∀ j,w.heap.size ≤ j → j < V.heap.size → OX j):=ah (fun V hb => ⟨Ou O w V,hv.on hb,(hm.below hb).sub fun j hj => .inl hj,fun j hj => .inl hj,fun j hj => hj.imp id (·.1),fun j h1 h2 => .inr ⟨h1,h2⟩⟩)
  have HBL:Hid (∀ j ∈ B.bl,O j ∧ j < w.heap.size):=ah (fun j hj => ⟨hm.own j hj,hv.olt j (hm.own j hj)⟩)
  have HUL:=ah hU
  have H5:=ah h5
  have HSLL:=ah hl
  have HGG:=ah hG
  have HGL:=ah hv.glob
  have HBD:Hid (N + R ≤ 800000 ∧ M ≤ 1000000 ∧ 3 * (N * M) + M ≤ q ∧ q ≤ 1000000000 ∧ (ofB (kT t l)).size + 81 ≤ M ∧ l.length ≤ c ∧ r.1.size ≤ 1000 ∧ r.2.length = 32 ∧ old.length = 32):=ah ⟨hN,hM2,hq,hq2,hM,hl.lc,hr,hr2,hol⟩
  have HDL:Hid (l.length ≤ c):=ah hl.lc
  clear hv hG hm hl hN hU hc hM hM2 hq hq2 hr hr2 hol hnok hdm hb32 hbt hbl h5 HSAME HG
  obtain ⟨co,hco⟩:∃ z,idC old = z:=⟨_,rfl⟩
  obtain ⟨ci,hci⟩:∃ z,idC r.2 = z:=⟨_,rfl⟩
  obtain ⟨cz,hcz⟩:∃ z,idC zid = z:=⟨_,rfl⟩
  obtain ⟨cv,hcv⟩:∃ z,idC (valB t l r.1) = z:=⟨_,rfl⟩
  have HCO:=ah hco
  have HCI:=ah hci
  have HCL:Hid (ci.length = 32):=ah (by rw [← hci,au];exact HBD.out.2.2.2.2.2.2.2.1)
  have HONE:Hid (∀ v ∈ ci,v.oneCell' = true):=ah (by rw [← hci];exact aM _)
  rw [hco] at HX0 h32o HW heq1 ⊢
  rw [hci] at HX1 h32i HW heq2 HCLO ⊢
  rw [hcz] at hbz hziv HAD heq2
  rw [hcv] at HVA heq1
  clear hco hci hcz hcv hnm
  go_enter func25,ntmps25
  go_upto_region 1 with fail
  rw [HW.out]
  clear HW
  go_wp2_with fail
  refine HAD.out.mono ?_
  rintro e w1 ⟨⟨v1,v2,rfl,hbk,_,_⟩,hb1⟩
  have HB1:=bth HBW hb1
  obtain ⟨a1,c1,ev1,_⟩:=hbk.tab.open
  obtain ⟨a2,c2,ev2,_⟩:=hbk.log.open
  subst ev1 ev2
  have X0:=ah (HX0.out.below hb1)
  have X1:=ah (HX1.out.below hb1)
  clear hb1 hbk
  go_upto_region 4 with fail
  obtain ⟨w2,hw2⟩:∃ W,w1.alloc (.cells #[.slice a1 0 c1,.slice a2 1 c2] 51) = W:=⟨_,rfl⟩
  rw [hw2]
  have hb2:Below w1.heap.size w1 w2:=by rw [← hw2];exact bal
  have HB2:=bth HB1 hb2
  replace X0:=ah (X0.out.below hb2)
  replace X1:=ah (X1.out.below hb2)
  clear hw2 hb2
  go_upto_region 6 with fail
  have hS0:w2.drew.rangeAt w.heap.size 0 co:=X0.out.range
  refine wrL 4 (fun x => x.rangeAt w.heap.size 0 co) ?_
  refine WL.tk 0 hS0 ?_
  refine WL.tk 1 hS0 ?_
  refine WL.tk 3 hS0 ?_ (hy:=(fun w' hSw => aK 42 _ (hSw) underlying42 rfl h32o _ rfl rfl))
  refine WL.on 2 ?_
  go_wp2_with fail
  refine (HVA.out w2.drew HB2.out.drew).mono ?_
  rintro e w3 ⟨rfl,hb3⟩
  have HB3:=ah (HB2.out.trans ((bA hb3).mono HB2.out.size))
  replace X0:=ah (X0.out.below (bA hb3))
  replace X1:=ah (X1.out.below (bA hb3))
  have hS1:w3.rangeAt w.heap.size 0 co:=X0.out.range
  have he1:=heq1.out
  clear hb3 hS0
  go_wp2_with fail
  refine ⟨hS1,?_⟩
  refine WL.la 4 ?_
  by_cases hvo:valB t l r.1 = old
  rotate_left
  ·have hbq:(valB t l r.1 == old) = false:=by simp [hvo]
   rw [hbq] at he1
   have HEND:=ah (HVO.out hvo _ HB3.out)
   clear hvo hbq
   go_wp2_with fail
   go_ret
   exact HEND.out
  have hbq:(valB t l r.1 == old) = true:=by simp [hvo]
  rw [hbq] at he1
  have HVEQ:=ah hvo
  clear hvo hbq hS1
  have he2:=heq2.out
  have x1r:=X1.out.range
  cases hz:(r.2 == zid) with
  | true =>
   rw [hz] at he2
   clear hz
   go_upto_region 8 with fail
   go_wp2_with (refine wpList_load_mid rfl 42 _ rfl (w.heap.size + 1) 0 rfl ci _ x1r underlying42 rfl h32i ?_)
   obtain ⟨OX,hdx,hmx,hox1,hox2,hox3⟩:=HRO.out w3 HB3.out
   have HST:=ah (kD hdx hmx HSLL.out (by have:=HBD.out.1;omega) HUL.out)
   have HOX:Hid ((∀ j,O j → OX j) ∧ (∀ j,OX j → O j ∨ w.heap.size ≤ j) ∧ OX w.heap.size ∧ OX (w.heap.size + 1)):=ah ⟨hox1,hox2,hox3 _ (by omega) (by have h1:=X1.out.lt;omega),hox3 _ (by omega) (by have h1:=X1.out.lt;omega)⟩
   clear hdx hmx hox1 hox2 hox3
   go_wp2_with fail
   refine HST.out.mono ?_
   rintro e w6 ⟨rfl,L',hd6,hm6,hl6,hk6,hc6⟩
   have HG6:Hid (Glob w6):=ah ((HGG.out.below HB3.out).chg5 hc6 fun b hb hx => hx.elim (fun h => h (HOX.out.1 b (HGL.out b hb))) fun h => by have:=H5.out b h;omega)
   have Y0:=ah (X0.out.chg hc6 (fun h => h.elim (fun h => h HOX.out.2.2.1) fun h => by have:=(HBL.out _ h).2;omega))
   have Y1:=ah (X1.out.chg hc6 (fun h => h.elim (fun h => h HOX.out.2.2.2) fun h => by have:=(HBL.out _ h).2;omega))
   have HC6:Hid (Chg (fun j => ¬ O j ∨ j ∈ B.bl) w w6):=ah ((Chg.of_below HB3.out).trans (hc6.mono fun j hl hj => hj.elim (fun hj => .inl fun ho => hj (HOX.out.1 j ho)) .inr))
   have HD6:=ah hd6
   have HM6:=ah hm6
   have HL6:=ah hl6
   have HK6:=ah hk6
   have hbd:=HBD.out
   obtain ⟨dn,hdn⟩:=hl6.bk
   have HBU:=ah (ql (hd6.below (Below.refl _ _).drew) (HG6.out.below (Below.refl _ _).drew) (hm6.below (Below.refl _ _).drew).bk r old hbd.2.2.2.2.2.2.1 hbd.2.2.2.2.2.2.2.1 HVEQ.out hbd.2.2.2.2.2.2.2.2 hl6.ok HNM.out hdn hbd.2.2.2.2.1 hbd.2.1 hbd.2.2.1 hbd.2.2.2.1)
   have c6:w6.cell? ⟨B.sb,0,none⟩ = some (.pointer (some ⟨B.ob,0,none⟩)):=hm6.cell rfl
   have HDN:=ah hdn
   rw [HCO.out,HCI.out] at HBU
   clear hd6 hm6 hl6 hk6 hc6 hbd hdn
   go_upto_region 15 with fail
   have hS0:w6.drew.cell? ⟨B.sb,0,none⟩ = some (.pointer (some ⟨B.ob,0,none⟩)) ∧ w6.drew.rangeAt w.heap.size 0 co ∧ w6.drew.rangeAt (w.heap.size + 1) 0 ci:=⟨c6,Y0.out.range,Y1.out.range⟩
   refine wrL 8 (fun x => x.cell? ⟨B.sb,0,none⟩ = some (.pointer (some ⟨B.ob,0,none⟩)) ∧ x.rangeAt w.heap.size 0 co ∧ x.rangeAt (w.heap.size + 1) 0 ci) ?_
   refine WL.tk 0 hS0 ?_
   refine WL.tk 1 hS0 ?_
   refine WL.tk 2 hS0 ?_
   refine WL.tk 3 hS0 ?_
   refine WL.tk 4 hS0 ?_
   refine WL.tk 5 hS0 ?_ (hy:=(fun w' hSw => aK 42 _ (hSw.2.1) underlying42 rfl h32o _ rfl rfl))
   refine WL.tk 6 hS0 ?_ (hy:=(fun w' hSw => aK 42 _ (hSw.2.2) underlying42 rfl h32i _ rfl rfl))
   refine WL.on 7 ?_
   go_wp2_with fail
   refine HBU.out.mono ?_
   rintro e w7 hbu
   have hc7:=hbu.2
   have hsb:B.sb ≠ B.ob:=by
    have:=HM6.out.nd
    simp only [Sb.bl,List.nodup_cons,List.mem_cons,not_or] at this
    exact this.1.1
   have hob:B.ob ∈ B.bl:=by simp [Sb.bl]
   have hS7:w7.cell? ⟨B.sb,0,none⟩ = some (.pointer (some ⟨B.ob,0,none⟩)) ∧ w7.rangeAt w.heap.size 0 co ∧ w7.rangeAt (w.heap.size + 1) 0 ci:=by
    have hol:=(HBL.out _ hob).2
    have hbx:=(HM6.out.below (Below.refl _ _).drew).box.chg hc7 (fun h => h.elim (fun h => h (HM6.out.own _ (by simp [Sb.bl]))) hsb)
    have h0:=(BoxL.below Y0.out (Below.refl _ _).drew).chg hc7 (fun h => h.elim (fun h => h HOX.out.2.2.1) (fun h => by omega))
    have h1:=(BoxL.below Y1.out (Below.refl _ _).drew).chg hc7 (fun h => h.elim (fun h => h HOX.out.2.2.2) (fun h => by omega))
    exact ⟨hbx.range 0 _ rfl,h0.range,h1.range⟩
   have hob6:=HM6.out.bk.ob
   have hCW:Chg (fun j => ¬ O j ∨ j ∈ B.bl) w w7:=(HC6.out.trans (Chg.of_below (Below.refl _ _).drew)).trans (hc7.mono fun j hl hj => hj.elim (fun hj => .inl fun ho => hj (HOX.out.1 j ho)) fun h => .inr (h ▸ hob))
   have hlw:w.heap.size ≤ w6.heap.size:=HC6.out.size
   cases hok:aR t (l ++ [r]) with
   | true =>
    obtain ⟨⟨rfl,O7,v1,v2,hd7,ho7,hs7,ht7,hf1,hf2⟩,_⟩:=(by simpa only [l9,hok,↓reduceIte] using hbu)
    have HEND:Hid (oz O N R M q L sy B t l n P U c F r old w (.returned (.int .i64 0)) w7):=ah (by
     refine ⟨0,l ++ [r],[],_,_,rfl,⟨O7,{ B with vt:=v1,vl:=v2 },hd7,(SM.yR ((HM6.out.below (Below.refl _ _).drew).sub hs7) (hc7.mono fun j hl hj => hj.imp (fun hj ho => (ht7 j ho).elim hj (fun h => absurd h (by omega))) id) ho7 (fun hn k hk hin => ?_) fun hn k hk hin => ?_),HL6.out.Co hok HDN.out,rfl,rfl,rfl,fun k x h0 h2 => (LK.aI h2).trans (HK6.out k x h0),fun j hj => hs7 j (HOX.out.1 j hj),fun j hj => ?_,hCW⟩,.inl ⟨rfl,rfl,rfl,rfl⟩,fun _ _ _ _ => rfl⟩
     ·have h1:=hf1 hn k hk
      have h2:=(HBL.out k hin).2
      have h3:w6.heap.size ≤ k:=h1
      omega
     ·have h1:=hf2 k hk
      have h2:=(HBL.out k hin).2
      have h3:w6.heap.size ≤ k:=h1
      omega
     rcases ht7 j hj with h | h
     ·exact HOX.out.2.1 j h
     exact .inr (Nat.le_trans hlw h))
    clear hbu hc7 hd7 ho7 hs7 ht7 hf1 hf2 hok hCW hS0 hob6
    go_wp2_with fail
    refine ⟨hS7,?_⟩
    refine WL.la 8 ?_
    go_wp2_with fail
    go_ret
    exact HEND.out
   | false =>
    obtain ⟨⟨rfl,hd7,ho7⟩,_⟩:=(by simpa only [l9,hok,Bool.false_eq_true,↓reduceIte] using hbu)
    have HEND:Hid (oz O N R M q L sy B t l n P U c F r old w (.returned (.int .i64 18)) w7):=ah (by
     refine ⟨18,l,[],_,_,rfl,⟨OX,B,hd7,(SM.yR (HM6.out.below (Below.refl _ _).drew) hc7 ho7 HM6.out.vt HM6.out.vl),HL6.out.more (by omega),rfl,rfl,rfl,fun k x h0 _ => HK6.out k x h0,HOX.out.1,HOX.out.2.1,hCW⟩,.inr ⟨by decide,rfl,.inr ⟨rfl,rfl⟩⟩,fun _ _ _ h => by rw [hok] at h;cases h⟩)
    clear hbu hc7 hd7 ho7 hok hCW hS0 hob6
    go_wp2_with fail
    refine ⟨hS7,?_⟩
    refine WL.la 8 ?_
    go_wp2_with fail
    go_ret
    exact HEND.out
  | false =>
   rw [hz] at he2
   have HNZ:Hid (r.2 ≠ zid):=ah (by intro e;rw [e] at hz;simp at hz)
   clear hz
   have hisz:∀ w,(sizeOf 42).run prog w = .ok ci.length w:=by
    rw [HCL.out];intro w;kernel_rfl
   obtain ⟨zcc,_,_,_,_,_,hzcc,_⟩:=dH
   have hcp:0 < ci.length:=by rw [HCL.out];omega
   have hcl:ci.length ≤ 1000:=by rw [HCL.out];omega
   go_upto_region 8 with fail
   go_wp2_with (first | (refine wpList_load_mid rfl 42 _ rfl (w.heap.size + 1) 0 rfl ci _ x1r underlying42 rfl h32i ?_) | (refine av rfl _ 44 42 rfl ci zcc rfl underlying44 hisz hzcc hcp hcl ?_))
   have hb4:Below w3.heap.size w3 (w3.alloc (.cells ci.toArray 42)):=bal
   have hr4:=(BoxL.new w3 42 ci).range
   have hl4:w3.heap.size < (w3.alloc (.cells ci.toArray 42)).heap.size:=by simp
   generalize w3.alloc (.cells ci.toArray 42) = w4 at hb4 hr4 hl4 ⊢
   have HB4:=bth HB3 hb4
   replace X0:=ah (X0.out.below hb4)
   replace X1:=ah (X1.out.below hb4)
   have HCL4:=ah (HCLO.out w3.heap.size 0 1 w4 HB4.out hr4 hl4)
   clear hb4 hr4 hl4 hisz hzcc hcp hcl x1r
   go_wp2_with fail
   refine HCL4.out.mono ?_
   rintro e w5 ⟨y1,y2,m2,rfl,hrow,hm2,hb5⟩
   have HB5:=bth HB4 hb5
   replace X0:=ah (X0.out.below hb5)
   replace X1:=ah (X1.out.below hb5)
   obtain ⟨ya,yc,eyv,hyl,_⟩:=hrow.open
   subst eyv
   unfold maxLen at hyl
   have HM2:=ah hm2
   clear hb5 hrow hm2 HCL4
   by_cases hme:m2 = []
   ·have hz0:m2.length = 0:=by rw [hme];rfl
    rw [hz0] at hyl ⊢
    clear hme
    obtain ⟨OX,hdx,hmx,hox1,hox2,hox3⟩:=HRO.out w5 HB5.out
    have HST:=ah (kD hdx hmx HSLL.out (by have:=HBD.out.1;omega) HUL.out)
    have HOX:Hid ((∀ j,O j → OX j) ∧ (∀ j,OX j → O j ∨ w.heap.size ≤ j) ∧ OX w.heap.size ∧ OX (w.heap.size + 1)):=ah ⟨hox1,hox2,hox3 _ (by omega) (by have h1:=X1.out.lt;omega),hox3 _ (by omega) (by have h1:=X1.out.lt;omega)⟩
    clear hdx hmx hox1 hox2 hox3
    go_wp2_with fail
    refine HST.out.mono ?_
    rintro e w6 ⟨rfl,L',hd6,hm6,hl6,hk6,hc6⟩
    have HG6:Hid (Glob w6):=ah ((HGG.out.below HB5.out).chg5 hc6 fun b hb hx => hx.elim (fun h => h (HOX.out.1 b (HGL.out b hb))) fun h => by have:=H5.out b h;omega)
    have Y0:=ah (X0.out.chg hc6 (fun h => h.elim (fun h => h HOX.out.2.2.1) fun h => by have:=(HBL.out _ h).2;omega))
    have Y1:=ah (X1.out.chg hc6 (fun h => h.elim (fun h => h HOX.out.2.2.2) fun h => by have:=(HBL.out _ h).2;omega))
    have HC6:Hid (Chg (fun j => ¬ O j ∨ j ∈ B.bl) w w6):=ah ((Chg.of_below HB5.out).trans (hc6.mono fun j hl hj => hj.elim (fun hj => .inl fun ho => hj (HOX.out.1 j ho)) .inr))
    have HD6:=ah hd6
    have HM6:=ah hm6
    have HL6:=ah hl6
    have HK6:=ah hk6
    have hbd:=HBD.out
    obtain ⟨dn,hdn⟩:=hl6.bk
    have HBU:=ah (ql (hd6.below (Below.refl _ _).drew) (HG6.out.below (Below.refl _ _).drew) (hm6.below (Below.refl _ _).drew).bk r old hbd.2.2.2.2.2.2.1 hbd.2.2.2.2.2.2.2.1 HVEQ.out hbd.2.2.2.2.2.2.2.2 hl6.ok HNM.out hdn hbd.2.2.2.2.1 hbd.2.1 hbd.2.2.1 hbd.2.2.2.1)
    have c6:w6.cell? ⟨B.sb,0,none⟩ = some (.pointer (some ⟨B.ob,0,none⟩)):=hm6.cell rfl
    have HDN:=ah hdn
    rw [HCO.out,HCI.out] at HBU
    clear hd6 hm6 hl6 hk6 hc6 hbd hdn
    go_upto_region 15 with fail
    have hS0:w6.drew.cell? ⟨B.sb,0,none⟩ = some (.pointer (some ⟨B.ob,0,none⟩)) ∧ w6.drew.rangeAt w.heap.size 0 co ∧ w6.drew.rangeAt (w.heap.size + 1) 0 ci:=⟨c6,Y0.out.range,Y1.out.range⟩
    refine wrL 8 (fun x => x.cell? ⟨B.sb,0,none⟩ = some (.pointer (some ⟨B.ob,0,none⟩)) ∧ x.rangeAt w.heap.size 0 co ∧ x.rangeAt (w.heap.size + 1) 0 ci) ?_
    refine WL.tk 0 hS0 ?_
    refine WL.tk 1 hS0 ?_
    refine WL.tk 2 hS0 ?_
    refine WL.tk 3 hS0 ?_
    refine WL.tk 4 hS0 ?_
    refine WL.tk 5 hS0 ?_ (hy:=(fun w' hSw => aK 42 _ (hSw.2.1) underlying42 rfl h32o _ rfl rfl))
    refine WL.tk 6 hS0 ?_ (hy:=(fun w' hSw => aK 42 _ (hSw.2.2) underlying42 rfl h32i _ rfl rfl))
    refine WL.on 7 ?_
    go_wp2_with fail
    refine HBU.out.mono ?_
    rintro e w7 hbu
    have hc7:=hbu.2
    have hsb:B.sb ≠ B.ob:=by
     have:=HM6.out.nd
     simp only [Sb.bl,List.nodup_cons,List.mem_cons,not_or] at this
     exact this.1.1
    have hob:B.ob ∈ B.bl:=by simp [Sb.bl]
    have hS7:w7.cell? ⟨B.sb,0,none⟩ = some (.pointer (some ⟨B.ob,0,none⟩)) ∧ w7.rangeAt w.heap.size 0 co ∧ w7.rangeAt (w.heap.size + 1) 0 ci:=by
     have hol:=(HBL.out _ hob).2
     have hbx:=(HM6.out.below (Below.refl _ _).drew).box.chg hc7 (fun h => h.elim (fun h => h (HM6.out.own _ (by simp [Sb.bl]))) hsb)
     have h0:=(BoxL.below Y0.out (Below.refl _ _).drew).chg hc7 (fun h => h.elim (fun h => h HOX.out.2.2.1) (fun h => by omega))
     have h1:=(BoxL.below Y1.out (Below.refl _ _).drew).chg hc7 (fun h => h.elim (fun h => h HOX.out.2.2.2) (fun h => by omega))
     exact ⟨hbx.range 0 _ rfl,h0.range,h1.range⟩
    have hob6:=HM6.out.bk.ob
    have hCW:Chg (fun j => ¬ O j ∨ j ∈ B.bl) w w7:=(HC6.out.trans (Chg.of_below (Below.refl _ _).drew)).trans (hc7.mono fun j hl hj => hj.elim (fun hj => .inl fun ho => hj (HOX.out.1 j ho)) fun h => .inr (h ▸ hob))
    have hlw:w.heap.size ≤ w6.heap.size:=HC6.out.size
    cases hok:aR t (l ++ [r]) with
    | true =>
     obtain ⟨⟨rfl,O7,v1,v2,hd7,ho7,hs7,ht7,hf1,hf2⟩,_⟩:=(by simpa only [l9,hok,↓reduceIte] using hbu)
     have HEND:Hid (oz O N R M q L sy B t l n P U c F r old w (.returned (.int .i64 0)) w7):=ah (by
      refine ⟨0,l ++ [r],[],_,_,rfl,⟨O7,{ B with vt:=v1,vl:=v2 },hd7,(SM.yR ((HM6.out.below (Below.refl _ _).drew).sub hs7) (hc7.mono fun j hl hj => hj.imp (fun hj ho => (ht7 j ho).elim hj (fun h => absurd h (by omega))) id) ho7 (fun hn k hk hin => ?_) fun hn k hk hin => ?_),HL6.out.Co hok HDN.out,rfl,rfl,rfl,fun k x h0 h2 => (LK.aI h2).trans (HK6.out k x h0),fun j hj => hs7 j (HOX.out.1 j hj),fun j hj => ?_,hCW⟩,.inl ⟨rfl,rfl,rfl,rfl⟩,fun _ _ _ _ => rfl⟩
      ·have h1:=hf1 hn k hk
       have h2:=(HBL.out k hin).2
       have h3:w6.heap.size ≤ k:=h1
       omega
      ·have h1:=hf2 k hk
       have h2:=(HBL.out k hin).2
       have h3:w6.heap.size ≤ k:=h1
       omega
      rcases ht7 j hj with h | h
      ·exact HOX.out.2.1 j h
      exact .inr (Nat.le_trans hlw h))
     clear hbu hc7 hd7 ho7 hs7 ht7 hf1 hf2 hok hCW hS0 hob6
     go_wp2_with fail
     refine ⟨hS7,?_⟩
     refine WL.la 8 ?_
     go_wp2_with fail
     go_ret
     exact HEND.out
    | false =>
     obtain ⟨⟨rfl,hd7,ho7⟩,_⟩:=(by simpa only [l9,hok,Bool.false_eq_true,↓reduceIte] using hbu)
     have HEND:Hid (oz O N R M q L sy B t l n P U c F r old w (.returned (.int .i64 18)) w7):=ah (by
      refine ⟨18,l,[],_,_,rfl,⟨OX,B,hd7,(SM.yR (HM6.out.below (Below.refl _ _).drew) hc7 ho7 HM6.out.vt HM6.out.vl),HL6.out.more (by omega),rfl,rfl,rfl,fun k x h0 _ => HK6.out k x h0,HOX.out.1,HOX.out.2.1,hCW⟩,.inr ⟨by decide,rfl,.inr ⟨rfl,rfl⟩⟩,fun _ _ _ h => by rw [hok] at h;cases h⟩)
     clear hbu hc7 hd7 ho7 hok hCW hS0 hob6
     go_wp2_with fail
     refine ⟨hS7,?_⟩
     refine WL.la 8 ?_
     go_wp2_with fail
     go_ret
     exact HEND.out
   have HEND:=ah (HMI.out m2 HM2.out hme HNZ.out _ HB5.out)
   have hlp:(0:Int) < m2.length:=by
    have:m2.length ≠ 0:=fun h => hme (List.eq_nil_of_length_eq_zero h)
    omega
   have hlp2:0 < m2.length:=by omega
   clear hme
   go_wp2_with fail
   go_ret
   exact HEND.out
end
theorem iB {S:Nat → Prop} {w0 w w':World} (hb:Below w0.heap.size w0 w) (hc:Chg S w w') (hS:∀ j,j < w0.heap.size → ¬ S j):Below w0.heap.size w0 w' :=
 hb.trans ⟨hc.os,hc.tape,hc.output,hc.size,fun j hj => hc.block j (Nat.lt_of_lt_of_le hj hb.size) (hS j hj)⟩
theorem JD {L:LK} {k:Nat} {x:ByteArray} {v:ByteArray × Nat} (h:L k x = some v):L.put k x (some v) = L:=by
 funext j y
 by_cases e:j = k ∧ y = x
 ·obtain ⟨rfl,rfl⟩:=e
  rw [LK.bF,h]
 rw [LK.aI e]
theorem KS (sy:Nat → Bool) (hs:sy 0 = true):SL (lkN.put 2 bkN (some (bk0,bk0.size))) sy [] [] [] [] 0 where
 lo:=⟨fun o ho => (by cases ho),fun nm d hd => by rw [LK.aI (by omega)] at hd;cases hd⟩
 fc:=by simp
 nd:=by simp
 pk:=fun y => by rw [LK.aI (by omega)];rfl
 bk:=⟨_,LK.bF _ _ _ _⟩
 lc:=by simp
 tm:=by rw [LK.aI (fun e => absurd e.2 (by decide +kernel))];rfl
 ok:=ok_0
 uf:=fun o ho => (by cases ho)
 up:=fun x hx => (by cases hx)
 s0:=fun _ => hs
theorem LC:valB [] [] mnN = zid:=by decide +kernel
theorem LB:valB [] [rA] mnN = xA:=by decide +kernel
theorem Kz:fndF [oA] xA = some oA:=by
 unfold fndF
 rw [List.find?_cons_of_pos (by rw [idA];simp)]
theorem rd_1 (W:World) (hG:Glob W):Calls prog 74 #[.string bk1] W fun e w' => ∃ v,mU v bk1.size W e w' ∧ BkFr W w' (.slice none 0 0) v [] [rA]:=by
 have h:=KZ bk1 _ _ W (by have:=sz_1;omega) hG.crc (Nat.lt_of_lt_of_le (by decide) hG.laid.lt) un_1 wS.1 wS.2 (dO _ (by decide)) LG (dO _ sz_r) on_1.1 ⟨GA.1,GA.2.1,GA.2.2⟩ (by rw [on_1.2];decide +kernel) (by rw [on_1.2];exact ok_1) LD
 rw [on_1.2,sz_1.2] at h
 exact h
theorem Ag (w:World) (hG:Glob w):Calls prog 6 #[] w fun e w' => e = .returned (.bool true) ∧ Below w.heap.size w w':=by
 have h5:=hG.laid.lt
 have HNW:=ah (IE 10000 w hG)
 have HGG:=ah hG
 have H5:=ah h5
 clear hG h5
 go_enter func6,ntmps6
 go_wp2_with fail
 refine HNW.out.mono ?_
 rintro e w1 ⟨rfl,hnw,hdb⟩
 have hv1:=Ll (M:=1000) hnw hdb H5.out
 have HB1:=ah hnw.bel
 obtain ⟨g,hg⟩:∃ g,w.heap.size + 1 = g:=⟨_,rfl⟩
 rw [hg] at hv1
 rw [hg]
 have h51:5 ≤ w1.heap.size:=Nat.le_trans H5.out HB1.out.size
 have hbn:=Lv hv1 (HGG.out.below HB1.out) (by omega) rfl rfl (by omega) (by omega) (by decide) (by omega)
 have HOP:=ah (vG hbn hv1.olt (by omega) (fun y => by rw [LK.aI (by omega)];rfl))
 have H51:=ah h51
 have HV1:=ah hv1
 clear hnw hdb hv1 hg hbn h51 HNW
 go_wp2_with fail
 refine HOP.out.mono ?_
 rintro e w2 ⟨O2,B,rfl,rfl,hv2,hm2,hk2,ho2,ho2',hbl2⟩
 have HB2:=ah (iB HB1.out hk2 (fun j hj hn => hn hj))
 have h52:∀ b ∈ B.bl,5 ≤ b:=fun b hb => Nat.le_trans H51.out (hbl2 b hb)
 have HBL:Hid (∀ b ∈ B.bl,w.heap.size ≤ b ∧ b < w2.heap.size):=ah fun b hb => ⟨Nat.le_trans HB1.out.size (hbl2 b hb),hv2.olt b (hm2.own b hb)⟩
 have hs2:=KS (upN (fun _ => true) 2 true) rfl
 have HSP:=ah (Gf hv2 (HGG.out.below HB2.out) hm2 hs2 (by omega) (by omega) 1 1 ⟨#[97,98]⟩ (fun _ => by decide) (by omega) (by decide) (by omega) (by omega))
 have HO2:Hid ((∀ j,j < w.heap.size → O2 j) ∧ ∀ j,O2 j → j < w2.heap.size):=ah ⟨ho2,hv2.olt⟩
 have H52:=ah h52
 unfold pG at HSP
 have hst:(hasS 1 && aB (⟨1,⟨#[97,98]⟩⟩:Ob)) = true:=by decide +kernel
 simp only [hst,↓reduceIte] at HSP
 have hia:idO (⟨1,⟨#[97,98]⟩⟩:Ob) = xA:=idA
 have hz32:=dH
 have HZV:=ah (And.intro cK.1 cK.2)
 have HZL:Hid ((idC zid).toArray.size = 32):=ah (by simp [au,aV])
 have HXL:Hid ((idC xA).length = 32):=ah (by rw [au];exact Ak)
 have HXO:=ah (aM xA)
 have hbz:=cK.2
 have hziv:=cK.1
 have hx32:(prog.info? 42).map (·.size) = some (idC xA).length:=by rw [HXL.out];exact bL
 have hbo:∀ W,(Instr.build 33 #[(0,.int .i64 1),(1,.string ⟨#[97,98]⟩)]).run prog W = .ok (.agg #[.int .i64 1,.string ⟨#[97,98]⟩]) W:=fun W => run_build W 33 _ _ (by kernel_rfl)
 obtain ⟨cx,hcx⟩:∃ z,idC xA = z:=⟨_,rfl⟩
 obtain ⟨cz,hcz⟩:∃ z,idC zid = z:=⟨_,rfl⟩
 have HCX:=ah hcx
 have HCZ:=ah hcz
 rw [hia,hcx] at HSP
 rw [hcx] at HXL HXO hx32
 rw [hcz] at hbz hziv HZL
 clear hv2 hm2 hs2 hk2 ho2 ho2' hbl2 h52 hst hcx hcz HZV hz32
 go_upto_region 5 with fail
 go_wp2_with fail
 refine HSP.out.mono ?_
 rintro e w3 ⟨rfl,hpo⟩
 have HPO:=ah hpo
 clear hpo HSP
 go_upto_region 6 with (refine aC rfl 42 _ _ rfl cz.toArray cx rfl rfl 32 HXL.out HZL.out bL HXO.out ?_;intro w4 hx4 hb4 hs4)
 obtain ⟨N3,R3,L3,sy3,F3,U3,hn3,hr3,hv3,hm3,hl3,hor,hc3⟩:=HPO.out
 obtain ⟨rfl,rfl,_,rfl,rfl⟩:F3 = [oA] ∧ U3 = [xA] ∧ True ∧ L3 = (lkN.put 2 bkN (some (bk0,bk0.size))).put 0 (hexN xA) (some (looB oA,0)) ∧ sy3 = upN (upN (fun _ => true) 2 true) 0 false:=by
  rcases hor with ⟨_,_,h,_⟩ | ⟨h1,h2,_,h4,h5⟩
  ·cases h
  rw [hia] at h2 h4
  exact ⟨h1,h2,trivial,h4,h5⟩
 rw [hia] at hm3
 have hv4:=((hv3.mono (N':=2) (R':=4) hn3 hr3 (Nat.le_refl _)).on hb4)
 have hm4:SM (Ou O2 w3 w4) w4 B [] [] 0 (upN (fun _ => []) 1 [xA]) [xA] 3:=(hm3.below hb4).sub (fun b hb => (.inl hb:Ou O2 w3 w4 b))
 have HB3:=ah (iB HB2.out hc3 (fun j hj hn => hn.elim (fun h => h (HO2.out.1 j hj)) (fun h => absurd (HBL.out j h).1 (by omega))))
 have HB4:=bth HB3 hb4
 have h23:=hc3.size
 have HO4:Hid ((∀ j,j < w.heap.size → Ou O2 w3 w4 j) ∧ Ou O2 w3 w4 w3.heap.size ∧ w3.heap.size ∉ B.bl):=ah ⟨fun j hj => .inl (HO2.out.1 j hj),.inr ⟨Nat.le_refl _,hx4.lt⟩,fun h => absurd (HBL.out _ h).2 (by omega)⟩
 obtain ⟨ib,hib⟩:∃ b,w3.heap.size = b:=⟨_,rfl⟩
 generalize Ou O2 w3 w4 = O4 at hv4 hm4 HO4
 rw [hib] at hx4 HO4
 rw [hib]
 have HX4:=ah hx4
 have hl4:SL ((lkN.put 2 bkN (some (bk0,bk0.size))).put 0 (hexN xA) (some (looB oA,0))) (upN (upN (fun _ => true) 2 true) 0 false) [] [] [oA] [xA] 3:=hl3
 have HSU:=ah (yK hv4 (HGG.out.below HB4.out) H52.out hm4 hl4 (by omega) (by simp) (by omega) (by have:=sz_0.1;unfold bk0 at this;omega) (by omega) (by decide) (by omega) rA zid (by decide) (by decide) aV)
 unfold oz at HSU
 simp only [show rA.2 = xA from rfl,show rA.1 = mnN from rfl] at HSU
 rw [HCX.out,HCZ.out] at HSU
 have HRX4:=hx4.range
 clear hor hv3 hm3 hl3 hc3 hb4 hs4 hv4 hm4 hl4 h23 hib hx4 HPO hn3 hr3
 go_wp2_with (refine wpList_load_mid rfl 42 _ rfl ib 0 rfl cx _ HRX4 underlying42 rfl hx32 ?_)
 refine HSU.out.mono ?_
 rintro e w5 ⟨code,l5,U5,L5,sy5,rfl,⟨O5,B5,hv5,hm5,hl5,hsb5,hg5,hbl5,hk5,ho5,ho5',hc5⟩,hor,hgood⟩
 obtain rfl:=hgood nm_A LC (.inr ⟨oA,Kz,rfl⟩) ok_1
 obtain ⟨rfl,rfl,rfl⟩:l5 = [rA] ∧ U5 = [] ∧ sy5 = upN (upN (upN (fun _ => true) 2 true) 0 false) 0 true:=by
  rcases hor with ⟨_,h1,h2,h3⟩ | ⟨h,_⟩
  ·exact ⟨h1,h2,by rw [h3,if_neg (by simp)]⟩
  exact absurd rfl h
 have HB5:=ah (iB HB4.out hc5 (fun j hj hn => hn.elim (fun h => h (HO4.out.1 j hj)) (fun h => absurd (HBL.out j h).1 (by omega))))
 have HX5:=ah (HX4.out.chg hc5 (fun h => h.elim (fun h => h HO4.out.2.1) HO4.out.2.2))
 have HO5:Hid ((∀ j,j < w.heap.size → O5 j) ∧ O5 ib ∧ ib ∉ B5.bl):=ah ⟨fun j hj => ho5 j (HO4.out.1 j hj),ho5 ib HO4.out.2.1,by rw [hbl5];exact HO4.out.2.2⟩
 have HBL5:Hid (∀ b ∈ B5.bl,w.heap.size ≤ b):=ah (fun b hb => (HBL.out b (hbl5 ▸ hb)).1)
 rw [← hsb5]
 rw [← hg5]
 have HSY:=ah (DC hv5 (hm5.more (c':=4) (by omega)) hl5 (by omega) (by simp))
 have HL5:Hid (∀ y,¬ (2 = 2 ∧ y = bkN) → L5 2 y = none):=ah fun y hy => by
  rw [hk5 2 y (by omega) hy,LK.aI (by omega),LK.aI hy];rfl
 clear hor hgood hv5 hm5 hl5 hsb5 hg5 hbl5 hk5 ho5 ho5' hc5 HSU
 go_wp2_with fail
 refine HSY.out.mono ?_
 rintro e w6 ⟨rfl,L6,hv6,hm6,hl6,hf6,hk6,hc6⟩
 rw [if_pos rfl] at hv6 hl6
 have HB6:=ah (iB HB5.out hc6 (fun j hj hn => hn.elim (fun h => h (HO5.out.1 j hj)) (fun h => absurd (HBL5.out j h) (by omega))))
 have HX6:=ah (HX5.out.chg hc6 (fun h => h.elim (fun h => h HO5.out.2.1) HO5.out.2.2))
 have HCR:=ah (BP hv6 (fun k hk => by
   obtain rfl | rfl | rfl:k = 0 ∨ k = 1 ∨ k = 2:=by omega
   all_goals rfl) (fun k x d hk hd => by
   obtain rfl | rfl | rfl:k = 0 ∨ k = 1 ∨ k = 2:=by omega
   ·obtain ⟨o,ho,rfl⟩:=hl6.lo.all x d hd
    exact hl6.uf o ho (by simp) d hd
   ·rw [hl6.pk x] at hd;cases hd
   by_cases e:x = bkN
   ·subst e;exact hf6 d hd
   rw [hk6 2 x (by omega) (fun h => e h.2),HL5.out x (fun h => e h.2)] at hd;cases hd) (HGG.out.below HB6.out) (by omega) (by omega))
 have HM6:=ah hm6
 have HL6:=ah hl6
 have HF6:=ah hf6
 clear hv6 hm6 hl6 hf6 hk6 hc6 HSY
 go_wp2_with fail
 refine HCR.out.mono ?_
 rintro e w7 ⟨rfl,hv7,hk7⟩
 have HB7:=ah (iB HB6.out hk7 (fun j hj hn => hn (HO5.out.1 j hj)))
 have HX7:=ah (HX6.out.chg hk7 (fun h => h HO5.out.2.1))
 have HM7:=ah (HM6.out.kp hk7)
 obtain ⟨n7,hn7⟩:=HL6.out.bk
 obtain rfl:n7 = bk1.size:=HF6.out _ hn7
 replace hn7:L6 2 bkN = some (bk1,bk1.size):=hn7
 have hbn:=Lu hv7 (by omega) (s:=bk1) (l:=[rA]) hn7 (HGG.out.below HB7.out) rd_1
 rw [JD hn7] at hbn
 have HOP7:=ah (vG hbn hv7.olt (by omega) HL6.out.pk)
 clear hv7 hk7 hbn hn7 HCR
 go_wp2_with fail
 refine HOP7.out.mono ?_
 rintro e w8 ⟨O8,B8,rfl,hg8,hv8,hm8,hk8,ho8,ho8',hbl8⟩
 have HB8:=ah (iB HB7.out hk8 (fun j hj hn => hn (HO5.out.1 j hj)))
 have HX8:=ah (HX7.out.chg hk8 (fun h => h HO5.out.2.1))
 have HM8:=ah (HM7.out.kp hk8)
 have HMB:=ah hm8
 rw [← hg8] at hv8
 have HGT:=ah (rO hv8 (HGG.out.below HB8.out) (hm8.more (c':=4) (by omega)) HL6.out (by omega) (by omega) xA Ak)
 unfold l7 at HGT
 rw [Kz] at HGT
 dsimp only at HGT
 rw [HCX.out] at HGT
 have HRX8:=HX8.out.range
 have h33:(prog.info? 33).map (·.size) = some 2:=by kernel_rfl
 have hob1:=lu oA
 clear hg8 hv8 hm8 hk8 ho8 ho8' hbl8 HOP7
 go_wp2_with (refine wpList_load_mid rfl 42 _ rfl ib 0 rfl cx _ HRX8 underlying42 rfl hx32 ?_)
 refine HGT.out.mono ?_
 rintro e w9 ⟨rfl,hb9⟩
 have HB9:=ah hb9
 clear hb9 HGT HRX8
 go_upto_region 10 with (refine aC rfl 33 _ _ rfl #[.int .i64 0,.string ⟨#[]⟩] (obC oA) rfl rfl 2 rfl rfl h33 hob1 ?_;intro w10 hx10 hb10 hs10)
 obtain ⟨gb,hgb⟩:∃ b,w9.heap.size = b:=⟨_,rfl⟩
 rw [hgb] at hx10 ⊢
 have hb8:Below w8.heap.size w8 w10:=HB9.out.trans (hb10.mono HB9.out.size)
 have HB10:=bth HB8 hb8
 have hx8:=HX8.out.below hb8
 have HVA:=ah (fun V (hb:Below w10.heap.size w10 V) => rH ((HMB.out.below hb8).below hb) (by simp) (by simp) mnN (by decide))
 unfold kX at HVA
 rw [LB,HCX.out] at HVA
 have HPN:=ah (fun V (hb:Below w10.heap.size w10 V) => yM ((HM8.out.below hb8).below hb) 1 (by omega) (by decide))
 have HXG:=ah hx10
 have HXI:=ah hx8
 have he:=iO Ak (rfl:xA = xA)
 rw [HCX.out] at he
 have hS0:w10.drew.rangeAt ib 0 cx ∧ w10.drew.cell? ⟨gb,1,none⟩ = some (.string ⟨#[97,98]⟩):=⟨hx8.range,by have:=hx10.range 1 (.string ⟨#[97,98]⟩) rfl;exact this⟩
 clear hb8 hx8 hx10 hb10 hs10 hgb HMB HM8 HM7 HM6 HL6 HF6 HX4 HX5 HX6 HX7 hob1 hbz hziv hbo
 refine wrL 34 (fun x => x.rangeAt ib 0 cx ∧ x.cell? ⟨gb,1,none⟩ = some (.string ⟨#[97,98]⟩)) ?_
 refine WL.tk 0 hS0 ?_
 refine WL.tk 1 hS0 ?_
 refine WL.tk 2 hS0 ?_
 refine WL.tk 3 hS0 ?_
 refine WL.tk 4 hS0 ?_
 refine WL.tk 5 hS0 ?_
 refine WL.tk 6 hS0 ?_
 refine WL.tk 7 hS0 ?_
 refine WL.tk 8 hS0 ?_
 refine WL.tk 9 hS0 ?_
 refine WL.tk 10 hS0 ?_
 refine WL.tk 11 hS0 ?_
 refine WL.tk 12 hS0 ?_
 refine WL.tk 13 hS0 ?_
 refine WL.tk 14 hS0 ?_
 refine WL.tk 15 hS0 ?_
 refine WL.tk 16 hS0 ?_
 refine WL.tk 17 hS0 ?_
 refine WL.tk 18 hS0 ?_
 refine WL.tk 19 hS0 ?_
 refine WL.tk 20 hS0 ?_
 refine WL.tk 21 hS0 ?_
 refine WL.tk 22 hS0 ?_
 refine WL.tk 23 hS0 ?_
 refine WL.tk 25 hS0 ?_ (hy:=(fun w' hSw => aK 42 _ (hSw.1) underlying42 rfl hx32 _ rfl rfl))
 refine WL.on 24 ?_
 go_wp2_with fail
 refine (HVA.out w10.drew (Below.refl _ _).drew).mono ?_
 rintro e w11 ⟨rfl,hb11⟩
 have hbb:=bA hb11
 have hS1:w11.rangeAt ib 0 cx ∧ w11.cell? ⟨gb,1,none⟩ = some (.string ⟨#[97,98]⟩):=⟨(HXI.out.below hbb).range,by have:=(HXG.out.below hbb).range 1 (.string ⟨#[97,98]⟩) rfl;exact this⟩
 have HB11:=ah hbb
 clear hb11 hbb hS0
 go_wp2_with fail
 refine ⟨hS1,?_⟩
 refine WL.tk 26 hS1 ?_
 refine WL.tk 27 hS1 ?_
 refine WL.tk 28 hS1 ?_
 refine WL.tk 29 hS1 ?_
 refine WL.on 30 ?_
 go_wp2_with fail
 refine (HPN.out w11 HB11.out).mono ?_
 rintro e w12 ⟨v,m,rfl,hrow,_,hml,_,hb12⟩
 obtain ⟨ya,yc,eyv,_⟩:=hrow.open
 subst eyv
 have hml1:m.length = 1:=hml
 have hS2:w12.rangeAt ib 0 cx ∧ w12.cell? ⟨gb,1,none⟩ = some (.string ⟨#[97,98]⟩):=⟨(HXI.out.below (HB11.out.trans (hb12.mono HB11.out.size))).range,by have:=(HXG.out.below (HB11.out.trans (hb12.mono HB11.out.size))).range 1 (.string ⟨#[97,98]⟩) rfl;exact this⟩
 have HBE:=ah (HB10.out.trans ((HB11.out.trans (hb12.mono HB11.out.size)).mono HB10.out.size))
 rw [hml1]
 clear hS1 hb12 hml hml1 hrow
 go_wp2_with fail
 refine ⟨hS2,?_⟩
 refine WL.tk 31 hS2 ?_
 refine WL.tk 32 hS2 ?_
 refine WL.tk 33 hS2 ?_
 refine WL.la 34 ?_
 go_wp2_with fail
 go_ret
 exact ⟨rfl,HBE.out⟩
theorem vF (w:World):Calls prog 64 #[.slice none 0 0,.slice none 0 0] w fun e w' => e = .returned (.bool true) ∧ w' = w:=by
 go_enter func64,ntmps64
 go_wp2_with fail
 refine wp_loop_rounds 1 ?_
 rw [rounds_succ]
 go_wp2_with fail
 go_ret
 exact ⟨rfl,rfl⟩
theorem eZ (w:World):Calls prog 27 #[.agg #[.slice none 0 0,.slice none 0 0],.agg #[.slice none 0 0,.slice none 0 0]] w fun e w' => e = .returned (.bool true) ∧ Below w.heap.size w w':=by
 obtain ⟨W,hW⟩:∃ W,(w.alloc (.cells #[.slice none 0 0,.slice none 0 0] 51)).alloc (.cells #[.slice none 0 0,.slice none 0 0] 51) = W:=⟨_,rfl⟩
 have HBW:Hid (Below w.heap.size w W):=ah (by rw [← hW];exact bal.alloc (by simp) _)
 have hx0:BoxL W w.heap.size 51 [.slice none 0 0,.slice none 0 0]:=by rw [← hW];exact (BoxL.new w 51 [.slice none 0 0,.slice none 0 0]).below bal
 have hx1:BoxL W (w.heap.size + 1) 51 [.slice none 0 0,.slice none 0 0]:=by
  rw [← hW]
  have:=BoxL.new (w.alloc (.cells #[.slice none 0 0,.slice none 0 0] 51)) 51 [.slice none 0 0,.slice none 0 0]
  rwa [World.size_alloc] at this
 have c0:W.cell? ⟨w.heap.size,0,none⟩ = some (.slice none 0 0):=hx0.range 0 _ rfl
 have c1:W.cell? ⟨w.heap.size,1,none⟩ = some (.slice none 0 0):=hx0.range 1 _ rfl
 have d0:W.cell? ⟨w.heap.size + 1,0,none⟩ = some (.slice none 0 0):=hx1.range 0 _ rfl
 have d1:W.cell? ⟨w.heap.size + 1,1,none⟩ = some (.slice none 0 0):=hx1.range 1 _ rfl
 have HW:=ah hW
 clear hx0 hx1 hW
 go_enter func27,ntmps27
 go_upto_region 1 with fail
 rw [HW.out]
 go_wp2_with fail
 refine (vF W).mono ?_
 rintro e w1 ⟨rfl,rfl⟩
 go_wp2_with fail
 refine (vF _).mono ?_
 rintro e w2 ⟨rfl,rfl⟩
 go_wp2_with fail
 go_ret
 exact ⟨rfl,HBW.out⟩
def acC (k s n:Int) (nm:ByteArray) (ok:Int) (ob:ByteArray) (wr:Bool) (pk:Value):List Value:=[.int .i64 k,.int .i64 s,.int .i64 n,.string nm,.int .i64 ok,.string ob,.bool wr,pk]
def Lx (w:World) (e:Ending) (w':World):Prop:=∃ b:Bool,e = .returned (.bool b) ∧ Below w.heap.size w w'
theorem zN (k s n:Int) (nm:ByteArray) (ok:Int) (ob:ByteArray) (wr:Bool) (pa:Option Addr) (pn pc:Nat) (w:World):Calls prog 10 #[.agg (acC k s n nm ok ob wr (.slice pa pn pc)).toArray] w (Lx w):=by
 obtain ⟨W,hW⟩:∃ W,w.alloc (.cells #[.int .i64 k,.int .i64 s,.int .i64 n,.string nm,.int .i64 ok,.string ob,.bool wr,.slice pa pn pc] 36) = W:=⟨_,rfl⟩
 have HBW:Hid (Below w.heap.size w W):=ah (by rw [← hW];exact bal)
 have hx0:BoxL W w.heap.size 36 (acC k s n nm ok ob wr (.slice pa pn pc)):=by rw [← hW];exact BoxL.new w 36 _
 have c3:W.cell? ⟨w.heap.size,3,none⟩ = some (.string nm):=hx0.range 3 _ rfl
 have c5:W.cell? ⟨w.heap.size,5,none⟩ = some (.string ob):=hx0.range 5 _ rfl
 have c7:W.cell? ⟨w.heap.size,7,none⟩ = some (.slice pa pn pc):=hx0.range 7 _ rfl
 have HW:=ah hW
 clear hx0 hW
 unfold acC
 go_enter func10,ntmps10
 go_upto_region 1 with fail
 rw [HW.out]
 by_cases h1:(100:Int) < nm.size
 ·have d1:decide ((100:Int) < nm.size) = true:=decide_eq_true h1
  go_wp2_with fail
  go_ret
  exact ⟨_,rfl,HBW.out⟩
 have d1:decide ((100:Int) < nm.size) = false:=decide_eq_false h1
 by_cases h2:(100:Int) < pn
 ·have d2:decide ((100:Int) < pn) = true:=decide_eq_true h2
  go_wp2_with fail
  go_ret
  exact ⟨_,rfl,HBW.out⟩
 have d2:decide ((100:Int) < pn) = false:=decide_eq_false h2
 go_wp2_with fail
 go_ret
 exact ⟨_,rfl,HBW.out⟩
end
section
open Go.RowKit
noncomputable def jO (i:Nat):Code → Option (Array Oper)
 | .region k ops _ => if k = i then some ops else none
 | .seq a b => match jO i a with
  | some x => some x
  | none => jO i b
 | .cond _ a b => match jO i a with
  | some x => some x
  | none => jO i b
 | .block _ a => jO i a
 | .loop a => jO i a
 | _ => none
def bT (ops:Array Oper):Nat → Nat → Array Bool → Bool
 | 0,_,_ => true
 | n + 1,k,ls => (Region.ready .any ops ls).contains k && Region.free .any ops ls k && bT ops n (k + 1) (ls.setIfInBounds k true)
def gZ:Nat → Nat → Array Bool → Array Bool
 | 0,_,ls => ls
 | n + 1,k,ls => gZ n (k + 1) (ls.setIfInBounds k true)
theorem dG {ops:Array Oper} {f:Nat}:∀ (n k:Nat) (ls:Array Bool),bT ops n k ls = true → Region.lexFrom .any ops f (k + n) (gZ n k ls) = true → Region.lexFrom .any ops (f + n) k ls = true
 | 0,_,_,_,h => h
 | n + 1,k,ls,h1,h2 => by
  simp only [bT,Bool.and_eq_true] at h1
  have h3:=dG n (k + 1) (ls.setIfInBounds k true) h1.2 (by rw [show k + 1 + n = k + (n + 1) from by omega];exact h2)
  show Region.lexFrom .any ops (f + n + 1) k ls = true
  simp only [Region.lexFrom,Bool.and_eq_true]
  exact ⟨h1.1,h3⟩
noncomputable def bN:Array Oper:=(Tryz.f5.body.bind (jO 11)).getD #[]
def aP (m:Nat):Array Bool:=(List.replicate m true ++ List.replicate (107 - m) false).toArray
theorem lx_0:bT bN 8 0 (aP 0) = true ∧ gZ 8 0 (aP 0) = aP 8:=⟨by kernel_rfl,by kernel_rfl⟩
theorem lx_8:bT bN 8 8 (aP 8) = true ∧ gZ 8 8 (aP 8) = aP 16:=⟨by kernel_rfl,by kernel_rfl⟩
theorem Kw:bT bN 8 16 (aP 16) = true ∧ gZ 8 16 (aP 16) = aP 24:=⟨by kernel_rfl,by kernel_rfl⟩
theorem Kv:bT bN 8 24 (aP 24) = true ∧ gZ 8 24 (aP 24) = aP 32:=⟨by kernel_rfl,by kernel_rfl⟩
theorem Ku:bT bN 8 32 (aP 32) = true ∧ gZ 8 32 (aP 32) = aP 40:=⟨by kernel_rfl,by kernel_rfl⟩
theorem Kt:bT bN 8 40 (aP 40) = true ∧ gZ 8 40 (aP 40) = aP 48:=⟨by kernel_rfl,by kernel_rfl⟩
theorem Kr:bT bN 8 48 (aP 48) = true ∧ gZ 8 48 (aP 48) = aP 56:=⟨by kernel_rfl,by kernel_rfl⟩
theorem Kq:bT bN 8 56 (aP 56) = true ∧ gZ 8 56 (aP 56) = aP 64:=⟨by kernel_rfl,by kernel_rfl⟩
theorem Ko:bT bN 8 64 (aP 64) = true ∧ gZ 8 64 (aP 64) = aP 72:=⟨by kernel_rfl,by kernel_rfl⟩
theorem Kn:bT bN 8 72 (aP 72) = true ∧ gZ 8 72 (aP 72) = aP 80:=⟨by kernel_rfl,by kernel_rfl⟩
theorem Km:bT bN 8 80 (aP 80) = true ∧ gZ 8 80 (aP 80) = aP 88:=⟨by kernel_rfl,by kernel_rfl⟩
theorem Kl:bT bN 8 88 (aP 88) = true ∧ gZ 8 88 (aP 88) = aP 96:=⟨by kernel_rfl,by kernel_rfl⟩
theorem Kk:bT bN 8 96 (aP 96) = true ∧ gZ 8 96 (aP 96) = aP 104:=⟨by kernel_rfl,by kernel_rfl⟩
theorem GQ:bT bN 3 104 (aP 104) = true ∧ gZ 3 104 (aP 104) = aP 107:=⟨by kernel_rfl,by kernel_rfl⟩
theorem Bh:Region.noSelect bN = true ∧ bN.size = 107 ∧ Region.lexFrom .any bN 0 107 (aP 107) = true:=⟨by kernel_rfl,by kernel_rfl,by kernel_rfl⟩
theorem LW:Region.lexB .any bN = true:=by
 have h107:=Bh.2.2
 have h104:Region.lexFrom .any bN 3 104 (aP 104) = true:=dG (f:=0) 3 104 _ GQ.1 (by rw [GQ.2];exact h107)
 have h96:Region.lexFrom .any bN 11 96 (aP 96) = true:=dG (f:=3) 8 96 _ Kk.1 (by rw [Kk.2];exact h104)
 have h88:Region.lexFrom .any bN 19 88 (aP 88) = true:=dG (f:=11) 8 88 _ Kl.1 (by rw [Kl.2];exact h96)
 have h80:Region.lexFrom .any bN 27 80 (aP 80) = true:=dG (f:=19) 8 80 _ Km.1 (by rw [Km.2];exact h88)
 have h72:Region.lexFrom .any bN 35 72 (aP 72) = true:=dG (f:=27) 8 72 _ Kn.1 (by rw [Kn.2];exact h80)
 have h64:Region.lexFrom .any bN 43 64 (aP 64) = true:=dG (f:=35) 8 64 _ Ko.1 (by rw [Ko.2];exact h72)
 have h56:Region.lexFrom .any bN 51 56 (aP 56) = true:=dG (f:=43) 8 56 _ Kq.1 (by rw [Kq.2];exact h64)
 have h48:Region.lexFrom .any bN 59 48 (aP 48) = true:=dG (f:=51) 8 48 _ Kr.1 (by rw [Kr.2];exact h56)
 have h40:Region.lexFrom .any bN 67 40 (aP 40) = true:=dG (f:=59) 8 40 _ Kt.1 (by rw [Kt.2];exact h48)
 have h32:Region.lexFrom .any bN 75 32 (aP 32) = true:=dG (f:=67) 8 32 _ Ku.1 (by rw [Ku.2];exact h40)
 have h24:Region.lexFrom .any bN 83 24 (aP 24) = true:=dG (f:=75) 8 24 _ Kv.1 (by rw [Kv.2];exact h32)
 have h16:Region.lexFrom .any bN 91 16 (aP 16) = true:=dG (f:=83) 8 16 _ Kw.1 (by rw [Kw.2];exact h24)
 have h8:Region.lexFrom .any bN 99 8 (aP 8) = true:=dG (f:=91) 8 8 _ lx_8.1 (by rw [lx_8.2];exact h16)
 have h0:Region.lexFrom .any bN 107 0 (aP 0) = true:=dG (f:=99) 8 0 _ lx_0.1 (by rw [lx_0.2];exact h8)
 unfold Region.lexB
 rw [Bh.1,Bh.2.1,Bool.true_and]
 have e:Array.replicate 107 false = aP 0:=by kernel_rfl
 rw [e]
 exact h0
end
section
open Go.RowKit Go.Maps
theorem K6 (W:World):(Op.equalIn 10000 33 (.agg #[.int .i64 0,.string ⟨#[]⟩]) (.agg #[.int .i64 0,.string ⟨#[]⟩])).run prog W = .ok true W:=by kernel_rfl
theorem rJ (k s n:Int) (nm:ByteArray) (ok:Int) (ob:ByteArray) (wr:Bool) (pa:Option Addr) (pn pc:Nat) (w:World) (hG:Glob w):Calls prog 5 #[.agg (acC k s n nm ok ob wr (.slice pa pn pc)).toArray] w fun e w' => e = .returned (.bool true) ∧ Below w.heap.size w w':=by
 obtain ⟨hziv,hbz⟩:=cK
 have hbo:=xG
 have hbk:∀ W,(Instr.build 51 #[]).run prog W = .ok (.agg #[.slice none 0 0,.slice none 0 0]) W:=fun W => run_build W 51 _ _ (by kernel_rfl)
 obtain ⟨W,hW⟩:∃ W,w.alloc (.cells (acC k s n nm ok ob wr (.slice pa pn pc)).toArray 36) = W:=⟨_,rfl⟩
 have HBW:Hid (Below w.heap.size w W):=ah (by rw [← hW];exact bal)
 have HX0:Hid (BoxL W w.heap.size 36 (acC k s n nm ok ob wr (.slice pa pn pc))):=ah (by rw [← hW];exact BoxL.new w 36 _)
 have HAL:=ah (fun V (hb:Below w.heap.size w V) => Ag V (hG.below hb))
 have HGR:=ah (fun V => zN k s n nm ok ob wr pa pn pc V)
 have h8:(prog.info? 36).map (·.size) = some (acC k s n nm ok ob wr (.slice pa pn pc)).length:=by
  show _ = some 8
  kernel_rfl
 have HCE:Hid ((acC k s n nm ok ob wr (.slice pa pn pc))[1]? = some (.int .i64 s) ∧ (acC k s n nm ok ob wr (.slice pa pn pc))[2]? = some (.int .i64 n) ∧ (acC k s n nm ok ob wr (.slice pa pn pc))[3]? = some (.string nm) ∧ (acC k s n nm ok ob wr (.slice pa pn pc))[4]? = some (.int .i64 ok) ∧ (acC k s n nm ok ob wr (.slice pa pn pc))[5]? = some (.string ob)):=ah ⟨rfl,rfl,rfl,rfl,rfl⟩
 have HW:=ah hW
 have HPU:=ah (fun V => GI s ⟨ok,ob⟩ V)
 have HGT:=ah (fun V => zu zid V)
 have HFI:=ah (fun V => Em nm V)
 have HHI:=ah (fun (g:Nat) V => El g zid aV V)
 have HUP:=ah (fun V => zq nm zid zid V)
 have HVA:=ah (fun V => Bb nm V)
 have HZL:Hid ((idC zid).length = 32):=ah (by rw [au];exact aV)
 have HZO:=ah (aM zid)
 have he:=fun w => iO aV (rfl:zid = zid) w
 have hzlit:(idC zid).toArray = #[.int .u8 0,.int .u8 0,.int .u8 0,.int .u8 0,.int .u8 0,.int .u8 0,.int .u8 0,.int .u8 0,.int .u8 0,.int .u8 0,.int .u8 0,.int .u8 0,.int .u8 0,.int .u8 0,.int .u8 0,.int .u8 0,.int .u8 0,.int .u8 0,.int .u8 0,.int .u8 0,.int .u8 0,.int .u8 0,.int .u8 0,.int .u8 0,.int .u8 0,.int .u8 0,.int .u8 0,.int .u8 0,.int .u8 0,.int .u8 0,.int .u8 0,.int .u8 0]:=by kernel_rfl
 have he2:∀ w,(Op.equalIn 10000 42 (.agg (idC zid).toArray) (.agg #[.int .u8 0,.int .u8 0,.int .u8 0,.int .u8 0,.int .u8 0,.int .u8 0,.int .u8 0,.int .u8 0,.int .u8 0,.int .u8 0,.int .u8 0,.int .u8 0,.int .u8 0,.int .u8 0,.int .u8 0,.int .u8 0,.int .u8 0,.int .u8 0,.int .u8 0,.int .u8 0,.int .u8 0,.int .u8 0,.int .u8 0,.int .u8 0,.int .u8 0,.int .u8 0,.int .u8 0,.int .u8 0,.int .u8 0,.int .u8 0,.int .u8 0,.int .u8 0])).run prog w = .ok true w:=fun w => by
  have:=he w
  rwa [show (Value.agg #[.int .u8 0,.int .u8 0,.int .u8 0,.int .u8 0,.int .u8 0,.int .u8 0,.int .u8 0,.int .u8 0,.int .u8 0,.int .u8 0,.int .u8 0,.int .u8 0,.int .u8 0,.int .u8 0,.int .u8 0,.int .u8 0,.int .u8 0,.int .u8 0,.int .u8 0,.int .u8 0,.int .u8 0,.int .u8 0,.int .u8 0,.int .u8 0,.int .u8 0,.int .u8 0,.int .u8 0,.int .u8 0,.int .u8 0,.int .u8 0,.int .u8 0,.int .u8 0]) = .agg (idC zid).toArray from by rw [hzlit]]
 clear hzlit
 obtain ⟨zcc,_,_,_,_,_,hzcc,hzsz⟩:=dH
 have HZS:=ah hzsz
 clear hzsz
 generalize idC zid = cz at hziv hbz HPU HGT HFI HHI HUP HVA HZL HZO he he2
 have h32:(prog.info? 42).map (·.size) = some cz.length:=by rw [HZL.out];exact bL
 have hcp:0 < cz.length:=by rw [HZL.out];omega
 have hcl:cz.length ≤ 1000:=by rw [HZL.out];omega
 have hisz:∀ w,(sizeOf 42).run prog w = .ok cz.length w:=by rw [HZL.out];intro w;kernel_rfl
 have h33:(prog.info? 33).map (·.size) = some 2:=by kernel_rfl
 generalize acC k s n nm ok ob wr (.slice pa pn pc) = ca at HX0 HGR h8 HCE HW ⊢
 clear hW hG hziv
 go_enter func5,ntmps5
 go_upto_region 1 with fail
 rw [HW.out]
 go_wp2_with fail
 refine (HAL.out W HBW.out).mono ?_
 rintro e w1 ⟨rfl,hb1⟩
 have HB1:=bth HBW hb1
 have HX1:=ah (HX0.out.below hb1)
 have hr1:=HX1.out.range
 clear hb1
 go_upto_region 3 with fail
 go_wp2_with (refine wpList_load_mid rfl 36 _ rfl w.heap.size 0 rfl ca _ hr1 underlying36 rfl h8 ?_)
 refine (HGR.out w1).mono ?_
 rintro e w2 ⟨b,rfl,hb2⟩
 have HB2:=bth HB1 hb2
 have HX2:=ah (HX1.out.below hb2)
 clear hb2 hr1
 cases b with
 | true =>
  go_wp2_with fail
  refine (HAL.out w2 HB2.out).mono ?_
  rintro e w3 ⟨rfl,hb3⟩
  have HB3:=bth HB2 hb3
  clear hb3
  go_wp2_with fail
  go_ret
  exact ⟨rfl,HB3.out⟩
 | false =>
  have c1:w2.cell? ⟨w.heap.size,1,none⟩ = some (.int .i64 s):=HX2.out.range 1 _ HCE.out.1
  have c4:w2.cell? ⟨w.heap.size,4,none⟩ = some (.int .i64 ok):=HX2.out.range 4 _ HCE.out.2.2.2.1
  have c5:w2.cell? ⟨w.heap.size,5,none⟩ = some (.string ob):=HX2.out.range 5 _ HCE.out.2.2.2.2
  go_upto_region 6 with fail
  go_wp2_with fail
  refine (HPU.out w2).mono ?_
  rintro e w3 ⟨rfl,hb3⟩
  have HB3:=bth HB2 hb3
  have HX3:=ah (HX2.out.below hb3)
  clear hb3 c1 c4 c5
  go_upto_region 7 with (refine aC rfl 42 _ _ rfl zcc cz rfl rfl 32 HZL.out HZS.out bL HZO.out ?_;intro w4 hx4 hb4 hs4)
  have HB4:=bth HB3 hb4
  have HX4:=ah (HX3.out.below hb4)
  obtain ⟨xb,hxb⟩:∃ b,w3.heap.size = b:=⟨_,rfl⟩
  rw [hxb] at hx4 ⊢
  have HI4:=ah hx4
  have hr4:=hx4.range
  clear hx4 hb4 hs4 hxb
  go_wp2_with (refine wpList_load_mid rfl 42 _ rfl xb 0 rfl cz _ hr4 underlying42 rfl h32 ?_)
  refine (HGT.out w4).mono ?_
  rintro e w5 ⟨rfl,hb5⟩
  have HB5:=bth HB4 hb5
  have HX5:=ah (HX4.out.below hb5)
  have HI5:=ah (HI4.out.below hb5)
  clear hb5 hr4
  go_upto_region 8 with (refine aC rfl 33 _ _ rfl #[.int .i64 0,.string ⟨#[]⟩] [.int .i64 0,.string ⟨#[]⟩] rfl rfl 2 rfl rfl h33 (by intro v hv;simp at hv;rcases hv with rfl | rfl <;> rfl) ?_;intro w6 hx6 hb6 hs6)
  have HB6:=bth HB5 hb6
  have HX6:=ah (HX5.out.below hb6)
  have HI6:=ah (HI5.out.below hb6)
  obtain ⟨gb,hgb⟩:∃ b,w5.heap.size = b:=⟨_,rfl⟩
  rw [hgb] at hx6 ⊢
  have HO6:=ah hx6
  have c3:w6.cell? ⟨w.heap.size,3,none⟩ = some (.string nm):=HX6.out.range 3 _ HCE.out.2.2.1
  clear hx6 hb6 hs6 hgb
  go_wp2_with fail
  refine (HFI.out w6).mono ?_
  rintro e w7 ⟨rfl,hb7⟩
  have HB7:=bth HB6 hb7
  have HX7:=ah (HX6.out.below hb7)
  have HI7:=ah (HI6.out.below hb7)
  have HO7:=ah (HO6.out.below hb7)
  clear hb7 c3
  go_upto_region 9 with (refine aC rfl 42 _ _ rfl zcc cz rfl rfl 32 HZL.out HZS.out bL HZO.out ?_;intro w8 hx8 hb8 hs8)
  have HB8:=bth HB7 hb8
  have HX8:=ah (HX7.out.below hb8)
  have HI8:=ah (HI7.out.below hb8)
  have HO8:=ah (HO7.out.below hb8)
  obtain ⟨yb,hyb⟩:∃ b,w7.heap.size = b:=⟨_,rfl⟩
  rw [hyb] at hx8 ⊢
  have HY8:=ah hx8
  have hr8:=HI8.out.range
  clear hx8 hb8 hs8 hyb
  go_wp2_with (first | (refine wpList_load_mid rfl 42 _ rfl xb 0 rfl cz _ hr8 underlying42 rfl h32 ?_) | (refine av rfl _ 44 42 rfl cz zcc rfl underlying44 hisz hzcc hcp hcl ?_))
  have hb9:Below w8.heap.size w8 (w8.alloc (.cells cz.toArray 42)):=bal
  have hr9:=(BoxL.new w8 42 cz).range
  generalize w8.alloc (.cells cz.toArray 42) = w9 at hb9 hr9 ⊢
  refine (HHI.out w8.heap.size w9 hr9).mono ?_
  rintro e wa ⟨rfl,hba⟩
  have hb8a:=hb9.trans (hba.mono hb9.size)
  have HBA:=bth HB8 hb8a
  have HXA:=ah (HX8.out.below hb8a)
  have HIA:=ah (HI8.out.below hb8a)
  have HOA:=ah (HO8.out.below hb8a)
  have HYA:=ah (HY8.out.below hb8a)
  clear hb9 hr9 hba hb8a hr8
  go_wp2_with fail
  refine (Ej wa).mono ?_
  rintro e wb ⟨rfl,rfl⟩
  go_upto_region 11 with fail
  have c1:wb.cell? ⟨w.heap.size,1,none⟩ = some (.int .i64 s):=HXA.out.range 1 _ HCE.out.1
  have c2:wb.cell? ⟨w.heap.size,2,none⟩ = some (.int .i64 n):=HXA.out.range 2 _ HCE.out.2.1
  have c3:wb.cell? ⟨w.heap.size,3,none⟩ = some (.string nm):=HXA.out.range 3 _ HCE.out.2.2.1
  have fi:=HIA.out.range
  have fo:=HOA.out.range
  have fy:=HYA.out.range
  have h33o:(prog.info? 33).map (·.size) = some ([.int .i64 0,.string ⟨#[]⟩]:List Value).length:=by kernel_rfl
  have hal:=fun X:BW (World.heap wb).size wb => HAL.out X.out (HBA.out.trans (X.hb.mono HBA.out.size))
  have hxl:=HXA.out.lt
  have hil:=HIA.out.lt
  have hol:=HOA.out.lt
  have hyl:=HYA.out.lt
  have heo:=K6
  clear HB1 HB2 HB3 HB4 HB5 HB6 HB7 HB8 HX0 HX1 HX2 HX3 HX4 HX5 HX6 HX7 HX8 HI4 HI5 HI6 HI7 HI8 HO6 HO7 HO8 HY8 HXA HIA HOA HYA hisz hzcc hcp hcl HHI HGR h8
  simp only [List.append_eq,List.cons_append,List.nil_append]
  refine jF (by kernel_rfl) ((congrArg (Region.lexB .any) (?_:_ = bN)).trans LW) ?_
  ·kernel_rfl
  have LQ0:=blq c1
  have LQ1:=blq c2
  have LQ2:=blq c3
  repeat (go_big_quiet_step ((first | (go_at_call 6;with_reducible exact ay (hal _)) | (go_at_call 23;with_reducible exact ak (iJ _)) | (go_at_call 24;with_reducible exact ak (fq s _)) | (go_at_call 14;with_reducible exact ak (dP s _)) | (go_at_call 25;with_reducible exact ay (HUP.out _)) | (go_at_call 26;with_reducible exact ay (HVA.out _)) | (go_at_call 18;with_reducible exact ay (gH _)) | (go_at_call 27;with_reducible exact ay (eZ _)) | (go_at_call 28;with_reducible exact ak (gF _)) | (go_at_call 29;with_reducible exact ak (dD _)) | (go_at_call 30;with_reducible exact ak (gD n _)) | (go_at_call 16;with_reducible exact ak (fB _)) | (go_at_call 31;with_reducible exact ak (gG _)) | (go_at_call 32;with_reducible exact ak (dQ _)))))
  refine dZ 42 _ _ rfl rfl rfl fi (by omega) underlying42 rfl h32 ?_
  simp only [Act.put,nz]
  repeat (go_big_quiet_step ((first | (go_at_call 6;with_reducible exact ay (hal _)) | (go_at_call 23;with_reducible exact ak (iJ _)) | (go_at_call 24;with_reducible exact ak (fq s _)) | (go_at_call 14;with_reducible exact ak (dP s _)) | (go_at_call 25;with_reducible exact ay (HUP.out _)) | (go_at_call 26;with_reducible exact ay (HVA.out _)) | (go_at_call 18;with_reducible exact ay (gH _)) | (go_at_call 27;with_reducible exact ay (eZ _)) | (go_at_call 28;with_reducible exact ak (gF _)) | (go_at_call 29;with_reducible exact ak (dD _)) | (go_at_call 30;with_reducible exact ak (gD n _)) | (go_at_call 16;with_reducible exact ak (fB _)) | (go_at_call 31;with_reducible exact ak (gG _)) | (go_at_call 32;with_reducible exact ak (dQ _)))))
  refine dZ 33 _ _ rfl rfl rfl fo (by omega) underlying33 rfl h33o ?_
  simp only [Act.put,nz]
  repeat (go_big_quiet_step ((first | (go_at_call 6;with_reducible exact ay (hal _)) | (go_at_call 23;with_reducible exact ak (iJ _)) | (go_at_call 24;with_reducible exact ak (fq s _)) | (go_at_call 14;with_reducible exact ak (dP s _)) | (go_at_call 25;with_reducible exact ay (HUP.out _)) | (go_at_call 26;with_reducible exact ay (HVA.out _)) | (go_at_call 18;with_reducible exact ay (gH _)) | (go_at_call 27;with_reducible exact ay (eZ _)) | (go_at_call 28;with_reducible exact ak (gF _)) | (go_at_call 29;with_reducible exact ak (dD _)) | (go_at_call 30;with_reducible exact ak (gD n _)) | (go_at_call 16;with_reducible exact ak (fB _)) | (go_at_call 31;with_reducible exact ak (gG _)) | (go_at_call 32;with_reducible exact ak (dQ _)))))
  refine dZ 42 _ _ rfl rfl rfl fy (by omega) underlying42 rfl h32 ?_
  simp only [Act.put,nz]
  repeat (go_big_quiet_step ((first | (go_at_call 6;with_reducible exact ay (hal _)) | (go_at_call 23;with_reducible exact ak (iJ _)) | (go_at_call 24;with_reducible exact ak (fq s _)) | (go_at_call 14;with_reducible exact ak (dP s _)) | (go_at_call 25;with_reducible exact ay (HUP.out _)) | (go_at_call 26;with_reducible exact ay (HVA.out _)) | (go_at_call 18;with_reducible exact ay (gH _)) | (go_at_call 27;with_reducible exact ay (eZ _)) | (go_at_call 28;with_reducible exact ak (gF _)) | (go_at_call 29;with_reducible exact ak (dD _)) | (go_at_call 30;with_reducible exact ak (gD n _)) | (go_at_call 16;with_reducible exact ak (fB _)) | (go_at_call 31;with_reducible exact ak (gG _)) | (go_at_call 32;with_reducible exact ak (dQ _)))))
  refine dZ 42 _ _ rfl rfl rfl fi (by omega) underlying42 rfl h32 ?_
  simp only [Act.put,nz]
  repeat (go_big_quiet_step ((first | (go_at_call 6;with_reducible exact ay (hal _)) | (go_at_call 23;with_reducible exact ak (iJ _)) | (go_at_call 24;with_reducible exact ak (fq s _)) | (go_at_call 14;with_reducible exact ak (dP s _)) | (go_at_call 25;with_reducible exact ay (HUP.out _)) | (go_at_call 26;with_reducible exact ay (HVA.out _)) | (go_at_call 18;with_reducible exact ay (gH _)) | (go_at_call 27;with_reducible exact ay (eZ _)) | (go_at_call 28;with_reducible exact ak (gF _)) | (go_at_call 29;with_reducible exact ak (dD _)) | (go_at_call 30;with_reducible exact ak (gD n _)) | (go_at_call 16;with_reducible exact ak (fB _)) | (go_at_call 31;with_reducible exact ak (gG _)) | (go_at_call 32;with_reducible exact ak (dQ _)))))
  refine dZ 42 _ _ rfl rfl rfl fi (by omega) underlying42 rfl h32 ?_
  simp only [Act.put,nz]
  repeat (go_big_quiet_step ((first | (go_at_call 6;with_reducible exact ay (hal _)) | (go_at_call 23;with_reducible exact ak (iJ _)) | (go_at_call 24;with_reducible exact ak (fq s _)) | (go_at_call 14;with_reducible exact ak (dP s _)) | (go_at_call 25;with_reducible exact ay (HUP.out _)) | (go_at_call 26;with_reducible exact ay (HVA.out _)) | (go_at_call 18;with_reducible exact ay (gH _)) | (go_at_call 27;with_reducible exact ay (eZ _)) | (go_at_call 28;with_reducible exact ak (gF _)) | (go_at_call 29;with_reducible exact ak (dD _)) | (go_at_call 30;with_reducible exact ak (gD n _)) | (go_at_call 16;with_reducible exact ak (fB _)) | (go_at_call 31;with_reducible exact ak (gG _)) | (go_at_call 32;with_reducible exact ak (dQ _)))))
  refine dZ 42 _ _ rfl rfl rfl fi (by omega) underlying42 rfl h32 ?_
  simp only [Act.put,nz]
  repeat (go_big_quiet_step ((first | (go_at_call 6;with_reducible exact ay (hal _)) | (go_at_call 23;with_reducible exact ak (iJ _)) | (go_at_call 24;with_reducible exact ak (fq s _)) | (go_at_call 14;with_reducible exact ak (dP s _)) | (go_at_call 25;with_reducible exact ay (HUP.out _)) | (go_at_call 26;with_reducible exact ay (HVA.out _)) | (go_at_call 18;with_reducible exact ay (gH _)) | (go_at_call 27;with_reducible exact ay (eZ _)) | (go_at_call 28;with_reducible exact ak (gF _)) | (go_at_call 29;with_reducible exact ak (dD _)) | (go_at_call 30;with_reducible exact ak (gD n _)) | (go_at_call 16;with_reducible exact ak (fB _)) | (go_at_call 31;with_reducible exact ak (gG _)) | (go_at_call 32;with_reducible exact ak (dQ _)))))
  refine wpQuiet_nil ?_
  intro wq hbq
  clear LQ0 LQ1 LQ2
  go_wp2_with fail
  go_ret
  exact ⟨rfl,HBA.out.trans (hbq.mono HBA.out.size)⟩
end
end Go.Proofs.YtlhcoanbhnphgaaGreatDoor
