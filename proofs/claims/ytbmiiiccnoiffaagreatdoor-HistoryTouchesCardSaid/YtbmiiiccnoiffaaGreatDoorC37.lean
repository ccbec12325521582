/- YtbmiiiccnoiffaaGreatDoorC37: texts HO, K4, N6, N4 of this claim, in one. -/
import Derived.Deep.LoopGhost
import Derived.Test.YtbmiiiccnoiffaaGreatDoorC24
import Derived.Test.YtbmiiiccnoiffaaGreatDoorC26
import Derived.Test.YtbmiiiccnoiffaaGreatDoorC27
import Derived.Test.YtbmiiiccnoiffaaGreatDoorC29
import Derived.Test.YtbmiiiccnoiffaaGreatDoorC31
import Derived.Test.YtbmiiiccnoiffaaGreatDoorC34
namespace Go.Proofs.YtbmiiiccnoiffaaGreatDoor
open Go.RowKit Go.Maps
def OfAns (cm:Idl → Option Cmt) (x:Idl) (w:World) (e:Ending) (w':World):Prop :=
 Below w.heap.size w w' ∧ ((∃ S b n,lineL cm x = some S ∧ e = .returned (.tuple #[.map (some b),.int .i64 0]) ∧ n ≤ 1000 ∧ w.heap.size ≤ b ∧ LineM cm w' b n S none) ∨ (lineL cm x = none ∧ e = .returned (.tuple #[.map none,.int .i64 13])))
theorem ofAns_yes {cm:Idl → Option Cmt} {x:Idl} {w w':World} {S:List Idl} {b n:Nat} (h:lineL cm x = some S) (hn:n ≤ 1000) (hb:w.heap.size ≤ b) (hl:LineM cm w' b n S none) (hB:Below w.heap.size w w'):OfAns cm x w (.returned (.tuple #[.map (some b),.int .i64 0])) w':=⟨hB,.inl ⟨S,b,n,h,rfl,hn,hb,hl⟩⟩
theorem ofAns_no {cm:Idl → Option Cmt} {x:Idl} {w w':World} (h:lineL cm x = none) (hB:Below w.heap.size w w'):OfAns cm x w (.returned (.tuple #[.map none,.int .i64 13])) w':=⟨hB,.inr ⟨h,rfl⟩⟩
def OfSt (cm:Idl → Option Cmt) (U:List Idl) (x:Idl) (w:World) (B:Nat) (gk:Nat) (q:Value) (wr:World):Prop :=
 ∃ V Q n,Bfs cm x (fun y => y ∈ V) Q ∧ V.Nodup ∧ n ≤ V.length ∧ potB U V Q ≤ gk ∧ gk ≤ 5001 ∧ OwnQ wr (B + 1) 32 q Q.length (idsF Q) ∧ LineM cm wr B n V q.ownBlock ∧ Below w.heap.size w wr
theorem Bfs.few {cm:Idl → Option Cmt} {U:List Idl} (hU:CmOk cm U) {x:Idl} {V Q:List Idl} (h:Bfs cm x (fun y => y ∈ V) Q) (hn:V.Nodup):V.length ≤ 1000 :=
 Nat.le_trans (nodup_sub_len V U hn fun y hy => by
  have:=(h.vis y hy).1
  cases e:cm y with
  | none => rw [e] at this;cases this
  | some c => exact hU.mem y c e) hU.few
set_option maxRecDepth 100000 in
set_option maxHeartbeats 4000000 in
theorem hof_any (v:Value) (f:Idl → Option Ob) (hf:∀ x o,f x = some o → rightOb o = true) (U:List Idl) (hU:CmOk (cmG f) U) (x:Idl) (w:World) (hs:SrcP w v f) (hx:x.length = 32) :
  Calls Tryz.prog 61 #[v,.agg (idC x).toArray] w (OfAns (cmG f) x w):=by
 obtain ⟨lb,mb,nm,rfl,hc,hm⟩:=hs
 have hlb:=World.block_lt_of_cell? w _ hc
 have hlm:=hm.lt
 have hxl:(idC x).length = 32:=by rw [idC_len,hx]
 have h32x:=h32_of hxl
 have HG:=Lib.hid (fun y (hy:y.length = 32) W (h:Below w.heap.size w W) => oget_any lb mb nm f y W (below_load hc h hlb) (hm.below h hlm) hy)
 have HX:=Lib.hid hx
 have HU:=Lib.hid hU
 have HF:=Lib.hid hf
 have hmm:=@run_makeMap Tryz.prog
 have hmg:=method_get
 obtain ⟨zi,i0,hi,hz0,hz1,hz2,hzi,hzil⟩:=id_zero
 obtain ⟨zc,hzc,_,hzce⟩:=cm_zero
 have HZI:=Lib.hid hzil
 have HZC:=Lib.hid (show zc.size = 34 by rw [hzce];exact cmC_len _ _ _ zid_len)
 have HSZ:Hid (∀ w,(sizeOf 24).run Tryz.prog w = .ok (idC x).length w):=Lib.hid (fun w => by rw [hxl];kernel_rfl)
 have hr0:=rangeAt_below (range_new w (idC x) 24 rfl) ((Below.refl _ _).alloc (Nat.le_refl _) (.map #[] 0)) (by simp)
 have HR0:=Lib.hid hr0
 have HQ0:Hid (OwnQ (((w.alloc (.cells (idC x).toArray 24)).alloc (.map #[] 0)).alloc (.cells (idC x).toArray 24)) (w.heap.size + 1 + 1) 32 (.slice (some ⟨w.heap.size + 1 + 1,0,none⟩) 1 1) 1 (idC x)):=by
  have h:=ownQ_new ((w.alloc (.cells (idC x).toArray 24)).alloc (.map #[] 0)) (idC x) 24 hxl (B:=w.heap.size + 1 + 1) (by simp)
  rw [World.size_alloc,World.size_alloc] at h
  exact Lib.hid h
 have HM0:Hid (LineM (cmG f) (((w.alloc (.cells (idC x).toArray 24)).alloc (.map #[] 0)).alloc (.cells (idC x).toArray 24)) (w.heap.size + 1) 0 [] (some (w.heap.size + 1 + 1))):=by
  have h:=(lineM_made (cm:=cmG f) (w.alloc (.cells (idC x).toArray 24)) (some (w.heap.size + 1 + 1))).on ((Below.refl _ _).alloc (Nat.le_refl _) (.cells (idC x).toArray 24))
  rw [World.size_alloc] at h
  exact Lib.hid h
 have HB0:Hid (Below w.heap.size w (((w.alloc (.cells (idC x).toArray 24)).alloc (.map #[] 0)).alloc (.cells (idC x).toArray 24))):=Lib.hid ((((Below.refl _ _).alloc (Nat.le_refl _) _).alloc (by simp) _).alloc (by simp;omega) _)
 have HIX:Hid (idsF [x] = idC x):=Lib.hid (by simp [idsF])
 clear hc hm hx hU hf hzil hr0 hzce
 generalize idC x = ux at hxl h32x HSZ HR0 HQ0 HM0 HB0 HIX
 have HUL:=Lib.hid hxl
 clear hxl
 go_enter Tryz.func61,Tryz.ntmps61
 go_wp2_with (first
  | (refine wpList_load_mid rfl 24 _ rfl w.heap.size 0 rfl ux _ HR0.out Tryz.underlying24 rfl h32x ?_)
  | (refine wpList_buildSlice_one rfl (.tmp 16) 28 24 rfl ux zi rfl Tryz.underlying28 HSZ.out hzi (by rw [HUL.out];omega) (by rw [HUL.out];omega) ?_))
 go_loopg [7] (5 * U.length + 1) (fun gk q wr => OfSt (cmG f) U x w (w.heap.size + 1) gk q wr)
 case atStart =>
  exact ⟨[],[x],0,Bfs.start x (cm:=cmG f) |>.congr (fun _ => by simp),List.nodup_nil,by simp,by have:=potB_le U [] [x];simp at this ⊢;omega,by have:=HU.out.few;omega,by rw [HIX.out];exact HQ0.out,HM0.out,HB0.out⟩
 case round =>
  obtain ⟨wo,rfl⟩:∃ wo:World,wo = wr:=⟨_,rfl⟩
  unfold OfSt at hrel
  obtain ⟨V,Q,n,hbf,hnd,hnV,hpot,hgk,hq,hl,hb⟩:=hrel
  have hVle:=hbf.few HU.out hnd
  clear HR0 HQ0 HM0 HB0 HIX HSZ
  cases Q with
  | nil =>
   have HLN:Hid (lineL (cmG f) x = some (sortL V)):=Lib.hid (lineL_sort (hbf.line hnd (fun _ => Iff.rfl)))
   have HLM:Hid (LineM (cmG f) wo (w.heap.size + 1) n (sortL V) none):=Lib.hid (hl.none.mem (fun y _ => (sortL_mem V y).symm))
   have HB:=Lib.hid hb
   have hq2:=hq.2
   clear hbf hnd hpot hq hl hb
   rcases hq2 with ⟨rfl,_⟩ | ⟨g,off,cap,rfl,_⟩
   all_goals
    go_wp2
    go_ret2
    exact ofAns_yes HLN.out (by omega) (by omega) HLM.out HB.out
  | cons y Q =>
   have hyl:y.length = 32:=HU.out.reach (hbf.que y (by simp)) HX.out
   rw [idsF_cons,List.length_cons] at hq
   obtain ⟨g,off,cap,rfl,hBg,hgl,hcm,hnc,hr0,hcut⟩:=hq.cut (by rw [idC_len,hyl])
   have HQ1:Hid (∀ W,Below wo.heap.size wo W → ∀ p,p = (if cap = 0 then (⟨g,off,none⟩:Addr) else ⟨g,off + 32,none⟩) → OwnQ W (w.heap.size + 1 + 1) 32 (.slice (some p) Q.length cap) Q.length (idsF Q)):=Lib.hid (fun W hW p hp => (hcut p hp).below hW)
   obtain ⟨p,hp⟩:∃ p,p = (if cap = 0 then (⟨g,off,none⟩:Addr) else ⟨g,off + 32,none⟩):=⟨_,rfl⟩
   have HSL:Hid (∀ W,(Instr.sliceAt 28 (.slice (some ⟨g,off,none⟩) (Q.length + 1) (cap + 1)) (some (.int .i64 1)) none none).run Tryz.prog W = .ok (.slice (some p) Q.length cap) W):=Lib.hid (fun W => by rw [hp];exact run_cut_ids W g off Q.length cap (by omega))
   have HPB:Hid ((Value.slice (some p) Q.length cap).ownBlock = some g):=Lib.hid (by rw [hp];show some (Addr.block (if cap = 0 then _ else _)) = some g;split <;> rfl)
   have HP:=Lib.hid hp
   obtain ⟨cs,hcs1,hcs2,hcs3,_,hcs5⟩:=hl.look (t:=110) Tryz.underlying110 hyl (fun c hc => HU.out.tree y c hc)
   have HLM:=Lib.hid hl
   have HBF:=Lib.hid hbf
   have hyc:(idC y).length = 32:=by rw [idC_len,hyl]
   have h32y:=h32_of hyc
   have hyo:=idC_one y
   obtain ⟨W1,hW1⟩:∃ W1,(wo.alloc (.cells zi 24)).setCells wo.heap.size 0 (idC y) = W1:=⟨_,rfl⟩
   have wr1:=wrote (by rw [hyc,HZI.out]) (by rw [HZI.out];omega) hW1
   obtain ⟨W2,hW2⟩:∃ W2,(W1.alloc (.cells zc 97)).setCells W1.heap.size 0 cs = W2:=⟨_,rfl⟩
   have wr2:=wrote (by rw [hcs1,HZC.out]) (by rw [HZC.out];omega) hW2
   have HTH1:=Lib.hid (there_alloc wo zi 24 HZI.out)
   have HTH2:=Lib.hid (there_alloc W1 zc 97 HZC.out)
   have HR1:=Lib.hid wr1.row
   have HR12:=Lib.hid (rangeAt_below wr1.row wr2.bel wr1.lt)
   have hbo1:Below wo.heap.size wo W2:=wr1.bel.trans (wr2.bel.mono wr1.bel.size)
   have HBO:=Lib.hid hbo1
   have HB2:=Lib.hid (hb.trans (hbo1.mono hb.size))
   have HLK:=Lib.hid (hcs3 W1 wr1.bel)
   have h34:(Tryz.prog.info? 97).map (·.size) = some 34:=by kernel_rfl
   have h32:(Tryz.prog.info? 24).map (·.size) = some 32:=by kernel_rfl
   have HR0:=Lib.hid hr0
   have HYC:=Lib.hid hyc
   have HYO:=Lib.hid hyo
   have HCS1:=Lib.hid hcs1
   have HCS2:=Lib.hid hcs2
   have HCS5:=Lib.hid hcs5
   have HYL:=Lib.hid hyl
   have HW1:=Lib.hid hW1
   have HW2:=Lib.hid hW2
   have HND:=Lib.hid hnd
   have HGK:=Lib.hid hpot
   clear hbf hnd hpot hq hl hb hcut hp hcs1 hcs2 hcs3 hcs5 hyc hyo hW1 hW2 wr1 wr2 hbo1 hr0 hyl
   generalize hiy:idC y = uy at h32y HR0 HYC HYO HLK HR1 HR12 HW1
   have HIY:=Lib.hid hiy
   clear hiy
   by_cases hv:y ∈ V
   ·rw [decide_eq_true hv] at HLK
    go_wp2_with (first
     | (refine wpList_load_mid rfl 24 _ rfl g off rfl uy _ HR0.out Tryz.underlying24 rfl h32y ?_)
     | (refine wpList_store_list rfl 24 _ _ rfl wo.heap.size 0 uy rfl rfl 32 HYC.out HTH1.out h32 HYO.out ?_)
     | (refine wpList_slice_run rfl 28 _ _ rfl _ _ rfl rfl _ (HSL.out _) ?_)
     | (rw [HW1.out];refine wpList_load_mid rfl 24 _ rfl wo.heap.size 0 rfl uy _ HR1.out Tryz.underlying24 rfl h32y ?_)
     | (refine wpList_lookup_run rfl 110 _ _ true rfl _ _ rfl rfl _ HLK.out ?_)
     | (refine wpList_store_list rfl 97 _ _ rfl W1.heap.size 0 cs rfl rfl 34 HCS1.out HTH2.out h34 HCS2.out ?_))
    rw [HW2.out]
    go_roundg (potB U V Q)
    case measure => have:=potB_skip U V Q y;have:=HGK.out;omega
    case rel => exact ⟨V,Q,n,HBF.out.skip hv,HND.out,hnV,Nat.le_refl _,by have:=potB_skip U V Q y;have:=HGK.out;omega,HQ1.out _ HBO.out p HP.out,by rw [HPB.out];exact HLM.out.on HBO.out,HB2.out⟩
   ·rw [decide_eq_false hv] at HLK
    have hgy:=HG.out y HYL.out W2 HB2.out
    rw [HIY.out] at hgy
    have HCM:Hid (cmG f y = match f y with | some o => if o.kind = 3 then (match commitOf o.body with | some c => some ⟨c.1,c.2.1,c.2.2⟩ | none => none) else none | none => none):=Lib.hid rfl
    have HRO:Hid (∀ o,f y = some o → rightOb o = true):=Lib.hid (HF.out y)
    generalize f y = r at hgy HCM HRO
    obtain ⟨o,ho⟩:∃ o,r.getD ob0 = o:=⟨_,rfl⟩
    rw [ho] at hgy
    have HGY:=Lib.hid hgy
    have HO:=Lib.hid ho
    clear hgy ho
    have HNV:=Lib.hid hv
    clear hv
    go_wp2_with (first
     | (refine wpList_load_mid rfl 24 _ rfl g off rfl uy _ HR0.out Tryz.underlying24 rfl h32y ?_)
     | (refine wpList_store_list rfl 24 _ _ rfl wo.heap.size 0 uy rfl rfl 32 HYC.out HTH1.out h32 HYO.out ?_)
     | (refine wpList_slice_run rfl 28 _ _ rfl _ _ rfl rfl _ (HSL.out _) ?_)
     | (rw [HW1.out];refine wpList_load_mid rfl 24 _ rfl wo.heap.size 0 rfl uy _ HR1.out Tryz.underlying24 rfl h32y ?_)
     | (refine wpList_lookup_run rfl 110 _ _ true rfl _ _ rfl rfl _ HLK.out ?_)
     | (refine wpList_store_list rfl 97 _ _ rfl W1.heap.size 0 cs rfl rfl 34 HCS1.out HTH2.out h34 HCS2.out ?_)
     | (rw [HW2.out];refine wpList_load_mid rfl 24 _ rfl wo.heap.size 0 rfl uy _ HR12.out Tryz.underlying24 rfl h32y ?_))
    refine HGY.out.mono ?_
    rintro e w3 ⟨rfl,hb3⟩
    obtain ⟨W4,hW4⟩:∃ W4,w3.alloc (.cells #[.int .i64 o.kind,.string o.body] 93) = W4:=⟨_,rfl⟩
    have hb4:Below w3.heap.size w3 W4:=by rw [← hW4];exact (Below.refl _ _).alloc (Nat.le_refl _) _
    have hbo4:Below W2.heap.size W2 W4:=hb3.trans (hb4.mono hb3.size)
    have HBO4:=Lib.hid (HBO.out.trans (hbo4.mono HBO.out.size))
    have HR4:=Lib.hid (rangeAt_below HR12.out hbo4 (World.block_lt_of_cell? W2 ⟨wo.heap.size,0,none⟩ (HR12.out 0 (uy[0]'(by rw [HYC.out];omega)) (by simp))))
    have HC4:Hid (W4.rangeAt w3.heap.size 0 (obC o)):=Lib.hid (by rw [← hW4];exact range_new w3 _ _ rfl)
    have HW4:=Lib.hid hW4
    have h2:(Tryz.prog.info? 93).map (·.size) = some (obC o).length:=by kernel_rfl
    have HOC:=Lib.hid (ocm_any o.kind o.body W4)
    have hbo4':=hbo4
    clear hb3 hW4 hb4 hbo4 HGY HLK HW1 HW2 HR0 HR1 HR12 HTH1 HTH2
    unfold obC at HC4 h2
    go_wp2_with (rw [HW4.out];refine wpList_load_mid rfl 93 _ rfl w3.heap.size 0 rfl [.int .i64 o.kind,.string o.body] _ HC4.out Tryz.underlying93 rfl h2 ?_)
    refine HOC.out.mono ?_
    intro e w5 h
    obtain ⟨t,v,l,xs,rfl,hcm,hfr,hids,htl,hb5⟩:=h
    have HB5:=Lib.hid (hb5.mono (Nat.le_refl _))
    have hcl:(cmC t v xs).length = 34:=cmC_len _ _ _ htl
    obtain ⟨ao,lcap,rfl,hflat⟩:=hids.flat0
    have hco:=cmC_one t ao l.length lcap xs
    obtain ⟨W6,hW6⟩:∃ W6,(w5.alloc (.cells zc 97)).setCells w5.heap.size 0 (cmC t (.slice ao l.length lcap) xs) = W6:=⟨_,rfl⟩
    have wr6:=wrote (by rw [hcl,HZC.out]) (by rw [HZC.out];omega) hW6
    have HTH5:=Lib.hid (there_alloc w5 zc 97 HZC.out)
    have hbo6:Below W4.heap.size W4 W6:=hb5.trans (wr6.bel.mono hb5.size)
    have HBO6:=Lib.hid (HBO4.out.trans (hbo6.mono HBO4.out.size))
    have HIDS:=Lib.hid (hids.below wr6.bel)
    have HFR:=Lib.hid hfr
    have HCC:=Lib.hid hcm
    have HCL:=Lib.hid hcl
    have HCO:=Lib.hid hco
    have HROW6:=Lib.hid wr6.row
    have HLT6:=Lib.hid wr6.lt
    have HR6:=Lib.hid (rangeAt_below HR4.out hbo6 (World.block_lt_of_cell? W4 ⟨wo.heap.size,0,none⟩ (HR4.out 0 (uy[0]'(by rw [HYC.out];omega)) (by simp))))
    have HTL:=Lib.hid htl
    have HB6:=Lib.hid (HB2.out.trans ((hbo4'.trans (hbo6.mono hbo4'.size)).mono HB2.out.size))
    clear hb5 hcl hco wr6 hbo6 hids hfr hcm htl HOC hflat hbo4'
    have HBH:Hid (w.heap.size + 1 < wo.heap.size ∧ g < wo.heap.size ∧ wo.heap.size ≤ W4.heap.size ∧ W4.heap.size ≤ w5.heap.size):=Lib.hid ⟨by have:=HLM.out.lt;omega,hgl,HBO4.out.size,HB5.out.size⟩
    obtain ⟨ct,hct⟩:∃ ct,cmC t (.slice ao l.length lcap) xs = ct:=⟨_,rfl⟩
    have HLM6:Hid (LineM (cmG f) W6 (w.heap.size + 1) n V (some g)):=Lib.hid (HLM.out.on HBO6.out)
    have HQ6:=Lib.hid (HQ1.out _ HBO6.out p HP.out)
    have hc32:(cmC t (.slice ao l.length lcap) xs)[32]? = some (.slice ao l.length lcap):=by
     unfold cmC
     rw [List.getElem?_append_right (by rw [idC_len,HTL.out];exact Nat.le_refl _),idC_len,HTL.out];rfl
    have HC32:Hid (W6.cell? ⟨w5.heap.size,32,none⟩ = some (.slice ao l.length lcap)):=Lib.hid (by have:=HROW6.out 32 _ hc32;rwa [Nat.zero_add] at this)
    rw [hct] at HCL HCO HROW6 hW6 ⊢
    have HCT:=Lib.hid hct
    have HW6:=Lib.hid hW6
    have h34c:(Tryz.prog.info? 97).map (·.size) = some ct.length:=by rw [HCL.out];exact h34
    clear hct hW6 hc32
    by_cases hok:r.isSome = true ∧ isC o.kind o.body = true
    ·obtain ⟨o',ho'⟩:=Option.isSome_iff_exists.1 hok.1
     have HCY:Hid (cmG f y = some ⟨t,l,xs⟩):=Lib.hid (by
      rw [HCM.out,ho']
      have e:o' = o:=by have:=HO.out;rw [ho'] at this;exact this
      have h2:=hok.2
      unfold isC at h2
      simp only [Bool.and_eq_true,decide_eq_true_eq] at h2
      dsimp only
      rw [e,if_pos h2.2,HCC.out hok.2])
     have h4:=HU.out.four _ _ HCY.out
     have HLL:=Lib.hid (HU.out.pars _ _ HCY.out)
     have HPL:=Lib.hid HU.out.pars
     have hQ:Q.length ≤ 5001:=by have:=HGK.out;unfold potB at this;simp at this;omega
     have HOFF:Hid (∀ k,(Value.slice ao l.length lcap).ownBlock = some k → (some g:Option Nat) ≠ some k):=Lib.hid (fun k hk e => by
      have h1:=HFR.out k hk
      have h2:=HBH.out
      have h3:=Option.some.inj e
      omega)
     dsimp only at h4 HLL
     rw [hok.1,hok.2,show okI true = 0 from rfl]
     clear hok ho' HCM HRO HO HCC
     go_wp2_with (first
      | (refine wpList_store_list rfl 97 _ _ rfl w5.heap.size 0 ct rfl rfl 34 HCL.out HTH5.out h34 HCO.out ?_)
      | (rw [HW6.out];refine wpList_load_mid rfl 24 _ rfl wo.heap.size 0 rfl uy _ HR6.out Tryz.underlying24 rfl h32y ?_)
      | (refine wpList_load_mid rfl 97 _ rfl w5.heap.size 0 rfl ct _ HROW6.out Tryz.underlying97 rfl h34c ?_)
      | (refine wpList_update_L rfl (.tmp 50) (.tmp 51) (.tmp 52) 110 rfl Tryz.underlying110 (w.heap.size + 1) n V (some g) rfl HLM6.out y HYL.out ⟨t,l,xs⟩ (.slice ao l.length lcap) HCY.out HPL.out (by rw [HIY.out];rfl) (by rw [HCT.out];rfl) HIDS.out (.inr HOFF.out) (by unfold maxLen;omega) ?_))
     intro w7 hl7 hg7
     have hg7s:=hg7.size
     have c7:=cell_grown HC32.out hg7 (fun e => by have:=Option.some.inj e;have:=HBH.out;omega)
     have HQ7:=Lib.hid (HQ6.out.grown hg7 (fun k hk e => by
      rw [HPB.out] at hk
      have h1:=Option.some.inj hk
      have h2:=Option.some.inj e
      omega))
     have hids7:=HIDS.out.grown hg7 (.inr fun k hk e => by
      have h1:=HFR.out k hk
      have h2:=HBH.out
      have h3:=Option.some.inj e
      omega)
     obtain ⟨ao',lcap',he,hnew⟩:=hids7.flat HLL.out
     obtain ⟨rfl,rfl⟩:ao' = ao ∧ lcap' = lcap:=by injection he with e1 _ e3;exact ⟨e1.symm,e3.symm⟩
     have HNW:=Lib.hid hnew
     have HLN:=Lib.hid (idsF_len l HLL.out)
     have HL7:=Lib.hid hl7
     have HB7:=Lib.hid (HB6.out.grown hg7 HB6.out.size (fun k hk => by cases hk;omega))
     have hB7:w.heap.size + 1 + 1 ≤ w7.heap.size:=by have:=HB7.out.size;have:=hl7.lt;omega
     clear hids7 he hnew hl7 hg7 hg7s
     go_wp2_with (refine wpList_append_q rfl (.tmp 53) (.tmp 55) 28 rfl (w.heap.size + 1 + 1) 24 i0 (.agg zi) 32 32 Tryz.underlying28 hi hz0 hz1 hz2 HZI.out (by decide) _ Q.length (idsF Q) rfl HQ7.out ao' l.length lcap' (idsF l) rfl HLN.out HNW.out (idsF_one l) (by unfold maxLen;omega) (by omega) hB7 ?_)
     intro v8 w8 hq8 hg8 hf8
     go_wp2
     go_roundg (potB U (y :: V) (Q ++ l))
     case measure =>
      have:=potB_take (U:=U) (V:=V) (W:=y :: V) (Q:=Q) (ps:=l) (HU.out.mem _ _ HCY.out) HNV.out h4 (fun z => by rw [List.mem_cons];exact or_comm)
      have:=HGK.out;omega
     case rel =>
      refine ⟨y :: V,Q ++ l,n + 1,HBF.out.take HCY.out (fun z => by rw [List.mem_cons];exact or_comm),List.nodup_cons.2 ⟨HNV.out,HND.out⟩,by rw [List.length_cons];omega,Nat.le_refl _,?_,?_,?_,?_⟩
      ·have:=potB_take (U:=U) (V:=V) (W:=y :: V) (Q:=Q) (ps:=l) (HU.out.mem _ _ HCY.out) HNV.out h4 (fun z => by rw [List.mem_cons];exact or_comm)
       have:=HGK.out;omega
      ·rw [List.length_append,idsF_append];exact hq8
      ·refine HL7.out.grown (by rw [HPB.out] at hg8;exact hg8) (fun e => by have:=Option.some.inj e;omega) ?_
       rcases hf8 with h | h
       ·exact .inl (by rw [h,HPB.out])
       ·exact .inr h
      ·exact HB7.out.grown hg8 (by have:=HB7.out.size;omega) (fun k hk => by rw [HPB.out] at hk;have:=Option.some.inj hk;omega)
    ·have HCY:Hid (cmG f y = none):=Lib.hid (by
      rw [HCM.out]
      cases hr:r with
      | none => rfl
      | some o' =>
       have e:o' = o:=by have:=HO.out;rw [hr] at this;exact this
       dsimp only
       rw [e]
       by_cases h3:o.kind = 3
       ·exfalso
        refine hok ⟨by rw [hr];rfl,?_⟩
        have:=HRO.out o' hr
        rw [e] at this
        unfold isC
        rw [decide_eq_true h3,Bool.and_true]
        exact this
       ·rw [if_neg h3])
     have HEND:Hid (OfAns (cmG f) x w (.returned (.tuple #[.map none,.int .i64 13])) W6):=Lib.hid (ofAns_no (lineL_none (HBF.out.stop HCY.out)) HB6.out)
     clear HCM HRO HO HCC
     by_cases h1:r.isSome = true
     ·have h2:isC o.kind o.body = false:=by
       cases e:isC o.kind o.body with
       | false => rfl
       | true => exact absurd ⟨h1,e⟩ hok
      rw [h1,h2,show okI false = 1 from rfl]
      clear hok h1 h2
      go_wp2_with (refine wpList_store_list rfl 97 _ _ rfl w5.heap.size 0 ct rfl rfl 34 HCL.out HTH5.out h34 HCO.out ?_)
      rw [HW6.out]
      go_ret2
      exact HEND.out
     ·have h2:r.isSome = false:=by simpa using h1
      rw [h2]
      clear hok h1 h2
      generalize okI (isC o.kind o.body) = okv
      go_wp2_with (refine wpList_store_list rfl 97 _ _ rfl w5.heap.size 0 ct rfl rfl 34 HCL.out HTH5.out h34 HCO.out ?_)
      rw [HW6.out]
      go_ret2
      exact HEND.out
end Go.Proofs.YtbmiiiccnoiffaaGreatDoor
namespace Go.Proofs.YtbmiiiccnoiffaaGreatDoor
open Go.RowKit
def RlAns (cm:Idl → Option Cmt) (x:Idl) (w:World) (e:Ending) (w':World):Prop :=
 ∃ v,e = .returned (.tuple #[v,.bool (lineL cm x).isSome]) ∧ IdRow w' v ((lineL cm x).getD []) ∧ Below w.heap.size w w'
theorem rlAns_no {cm:Idl → Option Cmt} {x:Idl} {w w':World} (h:lineL cm x = none) (hb:Below w.heap.size w w'):RlAns cm x w (.returned (.tuple #[.slice none 0 0,.bool false])) w' :=
 ⟨_,by rw [h];rfl,by rw [h];exact ids_nil _,hb⟩
theorem rlAns_yes {cm:Idl → Option Cmt} {x:Idl} {w w':World} {v:Value} {S:List Idl} (h:lineL cm x = some S) (hr:IdRow w' v S) (hb:Below w.heap.size w w'):RlAns cm x w (.returned (.tuple #[v,.bool true])) w' :=
 ⟨_,by rw [h];rfl,by rw [h];exact hr,hb⟩
def RlSt (cm:Idl → Option Cmt) (U:List Idl) (x:Idl) (W:World) (B:Nat) (gk:Nat) (q o:Value) (wr:World):Prop :=
 ∃ V Q,Bfs cm x (fun y => y ∈ V) Q ∧ AscL V ∧ potB U V Q ≤ gk ∧ gk ≤ 5001 ∧ OwnQ wr B 32 q Q.length (idsF Q) ∧ IdRow wr o V ∧ CapI o ∧ (V = [] ∨ ∀ k,o.ownBlock = some k → q.ownBlock ≠ some k) ∧ Below B W wr ∧ W.heap.size ≤ wr.heap.size
set_option maxRecDepth 100000 in
set_option maxHeartbeats 4000000 in
theorem rline_any (vl vi:Value) (l:List Ob) (U:List Idl) (hU:CmOk (cmG (getS l)) U) (x:Idl) (w:World) (hs:SrcRow w (.agg #[vl,vi]) l) (hx:x.length = 32) :
  Calls Tryz.prog 24 #[.agg #[vl,vi],.agg (idC x).toArray] w (RlAns (cmG (getS l)) x w):=by
 have hxl:(idC x).length = 32:=by rw [idC_len,hx]
 have h32x:=h32_of hxl
 have HCM:=Lib.hid (fun y (hy:y.length = 32) W (h:Below w.heap.size w W) => rcmt_any vl vi l y W (hs.below h) hy)
 have HX:=Lib.hid hx
 have HU:=Lib.hid hU
 obtain ⟨zi,i0,hi,hz0,hz1,hz2,hzi,hzil⟩:=id_zero
 obtain ⟨zc,hzc,_,hzce⟩:=cm_zero
 have HZI:=Lib.hid hzil
 have HZC:=Lib.hid (show zc.size = 34 by rw [hzce];exact cmC_len _ _ _ zid_len)
 have HSZ:Hid (∀ w,(sizeOf 24).run Tryz.prog w = .ok (idC x).length w):=Lib.hid (fun w => by rw [hxl];kernel_rfl)
 have hr1:((w.alloc (.cells #[vl,vi] 30)).alloc (.cells (idC x).toArray 24)).rangeAt (w.heap.size + 1) 0 (idC x):=range_new _ _ _ (by simp)
 have HR1:=Lib.hid hr1
 obtain ⟨W,hW⟩:∃ W,((w.alloc (.cells #[vl,vi] 30)).alloc (.cells (idC x).toArray 24)).alloc (.cells (idC x).toArray 24) = W:=⟨_,rfl⟩
 have hbW:Below w.heap.size w W:=by rw [← hW];exact (((Below.refl _ _).alloc (Nat.le_refl _) _).alloc (by simp) _).alloc (by simp;omega) _
 have hq0:=ownQ_new ((w.alloc (.cells #[vl,vi] 30)).alloc (.cells (idC x).toArray 24)) (idC x) 24 hxl (B:=w.heap.size + 1 + 1) (by simp)
 rw [World.size_alloc,World.size_alloc,hW] at hq0
 have hA:=((Arr.ofList w [vl,vi] 30).alloc (by simp) (.cells (idC x).toArray 24)).alloc (by simp) (.cells (idC x).toArray 24)
 have hc0:W.cell? ⟨w.heap.size,0,none⟩ = some vl:=by rw [← hW];exact hA.cell 0 (by simp)
 have hc1:W.cell? ⟨w.heap.size,1,none⟩ = some vi:=by rw [← hW];exact hA.cell 1 (by simp)
 have hsW:W.heap.size = w.heap.size + 1 + 1 + 1:=by rw [← hW];simp
 have HQ0:=Lib.hid hq0
 have HBW:=Lib.hid hbW
 have HC01:=Lib.hid (And.intro hc0 hc1)
 have HIX:Hid (idsF [x] = idC x):=Lib.hid (by simp [idsF])
 have HSW:=Lib.hid hsW
 have HW:=Lib.hid hW
 clear hs hx hU hzil hr1 hzce hq0 hbW hW hA hc0 hc1 hsW
 generalize idC x = ux at hxl h32x HSZ HR1 HQ0 HIX HW
 have HUL:=Lib.hid hxl
 clear hxl
 go_enter Tryz.func24,Tryz.ntmps24
 go_wp2_with (first
  | (refine wpList_load_mid rfl 24 _ rfl (w.heap.size + 1) 0 rfl ux _ HR1.out Tryz.underlying24 rfl h32x ?_)
  | (refine wpList_buildSlice_one rfl (.tmp 11) 28 24 rfl ux zi rfl Tryz.underlying28 HSZ.out hzi (by rw [HUL.out];omega) (by rw [HUL.out];omega) ?_))
 rw [HW.out]
 go_loopg [6,7] (5 * U.length + 1) (fun gk q o wr => RlSt (cmG (getS l)) U x W (w.heap.size + 1 + 1) gk q o wr)
 case atStart =>
  exact ⟨[],[x],(Bfs.start x (cm:=cmG (getS l))).congr (fun _ => by simp),List.Pairwise.nil,by have:=potB_le U [] [x];simp at this ⊢;omega,by have:=HU.out.few;omega,by rw [HIX.out];exact HQ0.out,ids_nil _,fun _ _ _ e => by cases e;exact Nat.le_refl _,.inl rfl,Below.refl _ _,Nat.le_refl _⟩
 case round =>
  obtain ⟨wo,rfl⟩:∃ wo:World,wo = wr:=⟨_,rfl⟩
  unfold RlSt at hrel
  obtain ⟨V,Q,hbf,hasc,hpot,hgk,hq,ho,hco,hne,hb,hsz⟩:=hrel
  have hVle:=hbf.few HU.out hasc.nodup
  have hbw:Below w.heap.size w wo:=HBW.out.trans (hb.mono (by omega))
  have HBO:=Lib.hid hbw
  clear hbw
  cases Q with
  | nil =>
   have HLN:Hid (lineL (cmG (getS l)) x = some V):=Lib.hid (lineL_eq (hbf.line hasc.nodup (fun _ => Iff.rfl)) hasc)
   have HO:=Lib.hid ho
   have hq2:=hq.2
   clear hbf hasc hpot hq ho hco hne hb
   rcases hq2 with ⟨rfl,_⟩ | ⟨g,off,cap,rfl,_⟩
   all_goals
    go_wp2
    go_ret2
    exact rlAns_yes HLN.out HO.out HBO.out
  | cons y Q =>
   have hyl:y.length = 32:=HU.out.reach (hbf.que y (by simp)) HX.out
   have hV32:∀ z ∈ V,z.length = 32:=fun z hz => by
    have:=(hbf.vis z hz).1
    cases e:cmG (getS l) z with
    | none => rw [e] at this;cases this
    | some c => exact HU.out.len z c e
   rw [idsF_cons,List.length_cons] at hq
   obtain ⟨g,off,cap,rfl,hBg,hgl,hcm,hnc,hr0,hcut⟩:=hq.cut (by rw [idC_len,hyl])
   have HQ1:Hid (∀ W,Below wo.heap.size wo W → ∀ p,p = (if cap = 0 then (⟨g,off,none⟩:Addr) else ⟨g,off + 32,none⟩) → OwnQ W (w.heap.size + 1 + 1) 32 (.slice (some p) Q.length cap) Q.length (idsF Q)):=Lib.hid (fun W hW p hp => (hcut p hp).below hW)
   obtain ⟨p,hp⟩:∃ p,p = (if cap = 0 then (⟨g,off,none⟩:Addr) else ⟨g,off + 32,none⟩):=⟨_,rfl⟩
   have HSL:Hid (∀ W,(Instr.sliceAt 28 (.slice (some ⟨g,off,none⟩) (Q.length + 1) (cap + 1)) (some (.int .i64 1)) none none).run Tryz.prog W = .ok (.slice (some p) Q.length cap) W):=Lib.hid (fun W => by rw [hp];exact run_cut_ids W g off Q.length cap (by omega))
   have HPB:Hid ((Value.slice (some p) Q.length cap).ownBlock = some g):=Lib.hid (by rw [hp];show some (Addr.block (if cap = 0 then _ else _)) = some g;split <;> rfl)
   have HP:=Lib.hid hp
   have hyc:(idC y).length = 32:=by rw [idC_len,hyl]
   have h32y:=h32_of hyc
   have h32:(Tryz.prog.info? 24).map (·.size) = some 32:=by kernel_rfl
   have h34:(Tryz.prog.info? 97).map (·.size) = some 34:=by kernel_rfl
   obtain ⟨W1,hW1⟩:∃ W1,(wo.alloc (.cells zi 24)).setCells wo.heap.size 0 (idC y) = W1:=⟨_,rfl⟩
   have wr1:=wrote (by rw [hyc,HZI.out]) (by rw [HZI.out];omega) hW1
   have HIN:=Lib.hid (rin_any u7 V y W1 (ho.below wr1.bel) hV32 hyl)
   have hb1:=hb.trans (wr1.bel.mono (show w.heap.size + 1 + 1 ≤ wo.heap.size by omega))
   have HB1:=Lib.hid hb1
   have HR0:=Lib.hid hr0
   have HR1X:=Lib.hid wr1.row
   have HTH1:=Lib.hid (there_alloc wo zi 24 HZI.out)
   have HYC:=Lib.hid hyc
   have HYO:=Lib.hid (idC_one y)
   have HW1:=Lib.hid hW1
   have HYL:=Lib.hid hyl
   have HBF:=Lib.hid hbf
   have HAS:=Lib.hid hasc
   have HV32:=Lib.hid hV32
   have HO1:=Lib.hid (ho.below wr1.bel)
   have HCO:=Lib.hid hco
   have HNE:=Lib.hid hne
   have HGK:=Lib.hid hpot
   have HBO1:=Lib.hid wr1.bel
   have HLT1:=Lib.hid wr1.lt
   have HBG:=Lib.hid (show w.heap.size + 1 + 1 ≤ g ∧ g < wo.heap.size ∧ w.heap.size + 1 + 1 + 1 ≤ wo.heap.size from ⟨hBg,hgl,by omega⟩)
   have HCMY:=Lib.hid (fun W (h:Below w.heap.size w W) => HCM.out y hyl W h)
   clear hb1 hr0 hyc hW1 hyl hbf hasc hV32 ho hco hne hpot hq hcut hp wr1 hb HQ0 HIX HR1 HSZ HUL HW h32x
   obtain ⟨c0,c1⟩:W1.cell? ⟨w.heap.size,0,none⟩ = some vl ∧ W1.cell? ⟨w.heap.size,1,none⟩ = some vi:=⟨below_load HC01.out.1 HB1.out (by omega),below_load HC01.out.2 HB1.out (by omega)⟩
   clear HC01
   generalize hiy:idC y = uy at h32y HR0 HR1X HYC HYO HW1 HIN HCMY
   have HIY:=Lib.hid hiy
   clear hiy
   by_cases hv:y ∈ V
   ·rw [show V.contains y = true from by simpa using hv] at HIN
    go_wp2_with (first
     | (refine wpList_load_mid rfl 24 _ rfl g off rfl uy _ HR0.out Tryz.underlying24 rfl h32y ?_)
     | (refine wpList_store_list rfl 24 _ _ rfl wo.heap.size 0 uy rfl rfl 32 HYC.out HTH1.out h32 HYO.out ?_;rw [HW1.out])
     | (refine wpList_slice_run rfl 28 _ _ rfl _ _ rfl rfl _ (HSL.out _) ?_)
     | (refine wpList_load_mid rfl 24 _ rfl wo.heap.size 0 rfl uy _ HR1X.out Tryz.underlying24 rfl h32y ?_))
    refine HIN.out.mono ?_
    rintro e w2 ⟨rfl,hb2⟩
    have HB2:=Lib.hid (HB1.out.trans (hb2.mono (show w.heap.size + 1 + 1 ≤ W1.heap.size by have:=HBG.out;have:=HLT1.out;omega)))
    have HQ2:=Lib.hid (HQ1.out w2 (HBO1.out.trans (hb2.mono HBO1.out.size)) p HP.out)
    have HO2:=Lib.hid (HO1.out.below hb2)
    have hs2:W.heap.size ≤ w2.heap.size:=by have:=HBO1.out.size;have:=hb2.size;omega
    have HNE2:Hid (V = [] ∨ ∀ k,u7.ownBlock = some k → (Value.slice (some p) Q.length cap).ownBlock ≠ some k):=Lib.hid (by rw [HPB.out];exact HNE.out)
    clear hb2
    go_wp2
    go_roundg (potB U V Q)
    case measure => have:=potB_skip U V Q y;have:=HGK.out;omega
    case rel => exact ⟨V,Q,HBF.out.skip hv,HAS.out,Nat.le_refl _,by have:=potB_skip U V Q y;have:=HGK.out;omega,HQ2.out,HO2.out,HCO.out,HNE2.out,HB2.out,hs2⟩
   ·rw [show V.contains y = false from by simpa using hv] at HIN
    have HNV:=Lib.hid hv
    have HNV:=Lib.hid hv
    clear hv
    go_wp2_with (first
     | (refine wpList_load_mid rfl 24 _ rfl g off rfl uy _ HR0.out Tryz.underlying24 rfl h32y ?_)
     | (refine wpList_store_list rfl 24 _ _ rfl wo.heap.size 0 uy rfl rfl 32 HYC.out HTH1.out h32 HYO.out ?_;rw [HW1.out])
     | (refine wpList_slice_run rfl 28 _ _ rfl _ _ rfl rfl _ (HSL.out _) ?_)
     | (refine wpList_load_mid rfl 24 _ rfl wo.heap.size 0 rfl uy _ HR1X.out Tryz.underlying24 rfl h32y ?_))
    refine HIN.out.mono ?_
    rintro e w2 ⟨rfl,hb2⟩
    have hlw1:w.heap.size < W1.heap.size:=by have:=HBG.out;have:=HLT1.out;omega
    have e0:=below_load c0 hb2 hlw1
    have e1:=below_load c1 hb2 hlw1
    have HBO2:=Lib.hid (HBO1.out.trans (hb2.mono HBO1.out.size))
    have HR2:=Lib.hid (rangeAt_below HR1X.out hb2 HLT1.out)
    have HC2:=Lib.hid (HCMY.out w2 (HBO.out.trans (HBO2.out.mono HBO.out.size)))
    have hwo2:wo.heap.size < w2.heap.size:=by have:=HLT1.out;have:=hb2.size;omega
    have HO2:=Lib.hid (HO1.out.below hb2)
    have HBQ2:=Lib.hid (HB1.out.trans (hb2.mono (show w.heap.size + 1 + 1 ≤ W1.heap.size by have:=HBG.out;have:=HLT1.out;omega)))
    clear hb2 c0 c1 HIN HW1 HTH1 HR0 HR1X
    go_wp2_with (refine wpList_load_mid rfl 24 _ rfl wo.heap.size 0 rfl uy _ HR2.out Tryz.underlying24 rfl h32y ?_)
    refine HC2.out.mono ?_
    intro e w3 h
    obtain ⟨v,rfl,hrow,hb3⟩:=h
    have HCMA:Hid (∀ c,cmG (getS l) y = some c → c.tree.length = 32 ∧ c.pars.length ≤ 4 ∧ (∀ q ∈ c.pars,q.length = 32) ∧ y ∈ U):=Lib.hid (fun c hc => ⟨HU.out.tree y c hc,HU.out.four y c hc,HU.out.pars y c hc,HU.out.mem y c hc⟩)
    obtain ⟨r,hr⟩:∃ r,cmG (getS l) y = r:=⟨_,rfl⟩
    rw [hr] at hrow HCMA ⊢
    have htl:(r.getD cmt0).tree.length = 32:=by
     cases r with
     | none => exact zid_len
     | some c => exact (HCMA.out c rfl).1
    obtain ⟨ao,lcap,rfl,_⟩:=hrow.flat0
    have hcl:(cmC (r.getD cmt0).tree (.slice ao (r.getD cmt0).pars.length lcap) (r.getD cmt0).text).length = 34:=cmC_len _ _ _ htl
    have hco:=cmC_one (r.getD cmt0).tree ao (r.getD cmt0).pars.length lcap (r.getD cmt0).text
    have hc32:(cmC (r.getD cmt0).tree (.slice ao (r.getD cmt0).pars.length lcap) (r.getD cmt0).text)[32]? = some (.slice ao (r.getD cmt0).pars.length lcap):=by
     unfold cmC
     rw [List.getElem?_append_right (by rw [idC_len,htl];exact Nat.le_refl _),idC_len,htl];rfl
    obtain ⟨ct,hct⟩:∃ ct,cmC (r.getD cmt0).tree (.slice ao (r.getD cmt0).pars.length lcap) (r.getD cmt0).text = ct:=⟨_,rfl⟩
    rw [hct] at hcl hco hc32 ⊢
    obtain ⟨W4,hW4⟩:∃ W4,(w3.alloc (.cells zc 97)).setCells w3.heap.size 0 ct = W4:=⟨_,rfl⟩
    have wr4:=wrote (by rw [hcl,HZC.out]) (by rw [HZC.out];omega) hW4
    have c32:W4.cell? ⟨w3.heap.size,32,none⟩ = some (.slice ao (r.getD cmt0).pars.length lcap):=by have:=wr4.row 32 _ hc32;rwa [Nat.zero_add] at this
    have HC32:=Lib.hid c32
    have hbb:Below w2.heap.size w2 W4:=hb3.trans (wr4.bel.mono hb3.size)
    have HBO4:=Lib.hid (HBO2.out.trans (hbb.mono HBO2.out.size))
    have HROW4:=Lib.hid (hrow.below wr4.bel)
    have HO4:=Lib.hid (HO2.out.below hbb)
    have HBQ4:=Lib.hid (HBQ2.out.trans (hbb.mono (show w.heap.size + 1 + 1 ≤ w2.heap.size by have:=HBG.out;omega)))
    have HR4:=Lib.hid (rangeAt_below HR2.out hbb hwo2)
    have HTH4:=Lib.hid (there_alloc w3 zc 97 HZC.out)
    have HCL:=Lib.hid hcl
    have HCOT:=Lib.hid hco
    have HW4:=Lib.hid hW4
    have HLT4:=Lib.hid wr4.lt
    have HRR:=Lib.hid hr
    clear hrow hb3 htl hcl hco hc32 hct hW4 wr4 hbb c32 hr HC2 e0 e1
    cases r with
    | none =>
     have HEND:Hid (RlAns (cmG (getS l)) x w (.returned (.tuple #[.slice none 0 0,.bool false])) W4):=Lib.hid (rlAns_no (lineL_none (HBF.out.stop HRR.out)) (HBO.out.trans (HBO4.out.mono HBO.out.size)))
     dsimp only [Option.isSome_none]
     go_wp2_with (refine wpList_store_list rfl 97 _ _ rfl w3.heap.size 0 ct rfl rfl 34 HCL.out HTH4.out h34 HCOT.out ?_;rw [HW4.out])
     go_ret2
     exact HEND.out
    | some c =>
     have HPI:=Lib.hid (rputid_any u7 V y W4 HO4.out HCO.out HV32.out HYL.out (by have:=HU.out.few;omega))
     rw [HIY.out] at HPI
     dsimp only [Option.isSome_some]
     go_wp2_with (first
      | (refine wpList_store_list rfl 97 _ _ rfl w3.heap.size 0 ct rfl rfl 34 HCL.out HTH4.out h34 HCOT.out ?_;rw [HW4.out])
      | (refine wpList_load_mid rfl 24 _ rfl wo.heap.size 0 rfl uy _ HR4.out Tryz.underlying24 rfl h32y ?_))
     refine HPI.out.mono ?_
     rintro e w5 ⟨v',rfl,ho5,hco5,hfr5,hb5⟩
     have c5:=below_load HC32.out hb5 (by have:=HLT4.out;omega)
     obtain ⟨hct,hc4,hcp,hcu⟩:=HCMA.out c rfl
     have HB5:=Lib.hid (HBO4.out.trans (hb5.mono HBO4.out.size))
     have HBQ5:=Lib.hid (HBQ4.out.trans (hb5.mono (show w.heap.size + 1 + 1 ≤ W4.heap.size by have:=HBG.out;have:=HBO4.out.size;omega)))
     have HQ5:=Lib.hid (HQ1.out w5 HB5.out p HP.out)
     obtain ⟨ao',lcap',he,hnew⟩:=(HROW4.out.below hb5).flat hcp
     obtain ⟨rfl,rfl⟩:ao' = ao ∧ lcap' = lcap:=by injection he with e1 _ e3;exact ⟨e1.symm,e3.symm⟩
     have HNW:=Lib.hid hnew
     have HLN:=Lib.hid (idsF_len c.pars hcp)
     have HO5:=Lib.hid ho5
     have HCO5:=Lib.hid hco5
     have HFR5:=Lib.hid hfr5
     have hsz5:w.heap.size + 1 + 1 ≤ w5.heap.size:=by have:=HB5.out.size;have:=HBG.out;omega
     have HLT5:Hid (wo.heap.size ≤ w5.heap.size):=Lib.hid HB5.out.size
     clear he hnew ho5 hco5 hfr5 hb5
     have hQn:Q.length ≤ 5001:=by
      have h1:=HGK.out
      unfold potB at h1
      rw [List.length_cons] at h1
      omega
     have HNE5:Hid (putL V y = [] ∨ ∀ k,v'.ownBlock = some k → (some g:Option Nat) ≠ some k):=Lib.hid (by
      rcases HFR5.out with h | h
      ·rcases HNE.out with h0 | h0
       ·obtain ⟨a1,c1,e1,_⟩:=HO5.out.flat0
        obtain ⟨a2,c2,e2,_⟩:=HO1.out.flat0
        rw [h,e2] at e1
        injection e1 with _ e3 _
        exact .inl (List.eq_nil_of_length_eq_zero (by rw [← e3,h0];rfl))
       ·exact .inr fun k hk e => h0 k (by rw [← h];exact hk) e
      ·exact .inr fun k hk e => by
        have h1:=h k hk
        have h2:=Option.some.inj e
        have h3:=HBO4.out.size
        have h4:=HBG.out
        omega)
     go_wp2_with (refine wpList_append_q rfl (.tmp 35) (.tmp 37) 28 rfl (w.heap.size + 1 + 1) 24 i0 (.agg zi) 32 32 Tryz.underlying28 hi hz0 hz1 hz2 HZI.out (by decide) _ Q.length (idsF Q) rfl HQ5.out _ c.pars.length lcap' (idsF c.pars) rfl HLN.out HNW.out (idsF_one c.pars) (by unfold maxLen;omega) (by omega) hsz5 ?_)
     intro v8 w8 hq8 hg8 hf8
     go_wp2
     go_roundg (potB U (putL V y) (Q ++ c.pars))
     case measure =>
      have:=potB_take (U:=U) (V:=V) (W:=putL V y) (Q:=Q) (ps:=c.pars) hcu HNV.out hc4 (fun z => putL_mem V y z)
      have:=HGK.out;omega
     case rel =>
      rw [HPB.out] at hg8
      refine ⟨putL V y,Q ++ c.pars,HBF.out.take HRR.out (fun z => putL_mem V y z),putL_asc HAS.out y,Nat.le_refl _,?_,?_,HO5.out.grown hg8 HNE5.out,HCO5.out,?_,?_,?_⟩
      ·have:=potB_take (U:=U) (V:=V) (W:=putL V y) (Q:=Q) (ps:=c.pars) hcu HNV.out hc4 (fun z => putL_mem V y z)
       have:=HGK.out;omega
      ·rw [List.length_append,idsF_append];exact hq8
      ·rcases HO5.out.lt with h | h
       ·exact .inl h
       ·rcases HNE5.out with h0 | h0
        ·exact .inl h0
        ·refine .inr fun k hk e => ?_
         rcases hf8 with h1 | h1
         ·rw [h1,HPB.out] at e;exact h0 k hk e
         ·have:=h1 k e;have:=h k hk;omega
      ·exact HBQ5.out.grown hg8 hsz5 (fun k hk => by have:=HBG.out;have:=Option.some.inj hk;omega)
      ·have:=hg8.size;have:=HLT5.out;omega
end Go.Proofs.YtbmiiiccnoiffaaGreatDoor
namespace Go.Proofs.YtbmiiiccnoiffaaGreatDoor
open Go.RowKit
def treeAt (f:Idl → Option Ob) (x:Idl):Option (List Ent):=match f x with
 | some o => if o.kind = 2 then some ((treeOf o.body).getD []) else none
 | none => none
def PtAns (f:Idl → Option Ob) (x:Idl) (w:World) (e:Ending) (w':World):Prop:=∃ u,e = .returned (.tuple #[u,.bool (treeAt f x).isSome]) ∧ (∀ es,treeAt f x = some es → EntRow w' u es) ∧ Below w.heap.size w w'
set_option maxRecDepth 100000 in
set_option maxHeartbeats 2000000 in
theorem pathtree_any (v:Value) (f:Idl → Option Ob) (hf:∀ x o,f x = some o → rightOb o = true) (x:Idl) (w:World) (hs:SrcP w v f) (hx:x.length = 32) :
  Calls Tryz.prog 83 #[v,.agg (idC x).toArray] w (PtAns f x w):=by
 obtain ⟨lb,mb,nm,rfl,hc,hm⟩:=hs
 have hlb:=World.block_lt_of_cell? w _ hc
 have hlm:=hm.lt
 have h32x:=h32_of (us:=idC x) (by rw [idC_len,hx])
 have hmg:=method_get
 obtain ⟨W,hW⟩:∃ W,w.alloc (.cells (idC x).toArray 24) = W:=⟨_,rfl⟩
 have hbW:Below w.heap.size w W:=by rw [← hW];exact (Below.refl _ _).alloc (Nat.le_refl _) _
 have HR:=Lib.hid (show W.rangeAt w.heap.size 0 (idC x) from by rw [← hW];exact range_new _ _ _ rfl)
 have hgy:=oget_any lb mb nm f x W (below_load hc hbW hlb) (hm.below hbW hlm) hx
 have HTA:Hid (treeAt f x = match f x with | some o => if o.kind = 2 then some ((treeOf o.body).getD []) else none | none => none):=Lib.hid rfl
 have HRO:Hid (∀ o,f x = some o → rightOb o = true):=Lib.hid (hf x)
 have HANS:Hid (∀ u b w',b = (treeAt f x).isSome → (∀ es,treeAt f x = some es → EntRow w' u es) → Below w.heap.size w w' → PtAns f x w (.returned (.tuple #[u,.bool b])) w'):=Lib.hid (fun u b w' h1 h2 h3 => ⟨u,by rw [h1],h2,h3⟩)
 generalize treeAt f x = ta at HTA HANS
 generalize f x = r at hgy HTA HRO
 obtain ⟨o,ho⟩:∃ o,r.getD ob0 = o:=⟨_,rfl⟩
 rw [ho] at hgy
 have HGY:=Lib.hid hgy
 have HO:=Lib.hid ho
 have HBW:=Lib.hid hbW
 have HW:=Lib.hid hW
 clear hc hm hf hx hbW hW hgy ho
 generalize idC x = ux at h32x HR HW HGY
 go_enter Tryz.func83,Tryz.ntmps83
 go_wp2_with (rw [HW.out];refine wpList_load_mid rfl 24 _ rfl w.heap.size 0 rfl ux _ HR.out Tryz.underlying24 rfl h32x ?_)
 refine HGY.out.mono ?_
 rintro e w3 ⟨rfl,hb3⟩
 obtain ⟨W4,hW4⟩:∃ W4,w3.alloc (.cells #[.int .i64 o.kind,.string o.body] 93) = W4:=⟨_,rfl⟩
 have hb4:Below w3.heap.size w3 W4:=by rw [← hW4];exact (Below.refl _ _).alloc (Nat.le_refl _) _
 have HB4:=Lib.hid (HBW.out.trans ((hb3.trans (hb4.mono hb3.size)).mono HBW.out.size))
 have HC4:Hid (W4.rangeAt w3.heap.size 0 [.int .i64 o.kind,.string o.body]):=Lib.hid (by rw [← hW4];exact range_new w3 [.int .i64 o.kind,.string o.body] _ rfl)
 have HW4:=Lib.hid hW4
 have h2:(Tryz.prog.info? 93).map (·.size) = some 2:=by kernel_rfl
 have HEN:=Lib.hid (oents_any o.kind o.body W4)
 clear hb3 hW4 hb4 HGY HW HR
 go_wp2_with (rw [HW4.out];refine wpList_load_mid rfl 93 _ rfl w3.heap.size 0 rfl [.int .i64 o.kind,.string o.body] _ HC4.out Tryz.underlying93 rfl h2 ?_)
 refine HEN.out.mono ?_
 rintro e w5 ⟨u,rfl,_,hrow,hb5⟩
 have HB5:=Lib.hid (HB4.out.trans (hb5.mono HB4.out.size))
 clear hb5 HEN
 cases r with
 | none =>
  have HEND:=Lib.hid (HANS.out u false w5 (by rw [HTA.out];rfl) (by rw [HTA.out];intro es h;cases h) HB5.out)
  clear hrow
  go_wp2
  go_ret2
  exact HEND.out
 | some o' =>
  obtain rfl:o' = o:=HO.out
  have hro:=HRO.out o' rfl
  by_cases h2k:o'.kind = 2
  ·have hit:isT o'.kind o'.body = true:=by unfold isT;rw [show (⟨o'.kind,o'.body⟩:Ob) = o' from rfl,hro,decide_eq_true h2k];rfl
   rw [hit] at hrow ⊢
   have HEND:=Lib.hid (HANS.out u true w5 (by rw [HTA.out.trans (if_pos h2k)];rfl) (by rw [HTA.out.trans (if_pos h2k)];intro es h;obtain rfl:=Option.some.inj h;exact hrow) HB5.out)
   clear hrow h2k hit hro
   go_wp2
   go_ret2
   exact HEND.out
  ·have hit:isT o'.kind o'.body = false:=by unfold isT;rw [decide_eq_false h2k,Bool.and_false]
   rw [hit] at hrow ⊢
   have HEND:=Lib.hid (HANS.out u false w5 (by rw [HTA.out.trans (if_neg h2k)];rfl) (by rw [HTA.out.trans (if_neg h2k)];intro es h;cases h) HB5.out)
   clear hrow h2k hit hro
   go_wp2
   go_ret2
   exact HEND.out
end Go.Proofs.YtbmiiiccnoiffaaGreatDoor
namespace Go.Proofs.YtbmiiiccnoiffaaGreatDoor
open Go.RowKit
def chC (c:Idl × Nat):List Value:=idC c.1 ++ [.int .i64 (c.2:Int)]
theorem chC_len {c:Idl × Nat} (h:c.1.length = 32):(chC c).length = 33:=by unfold chC;rw [List.length_append,idC_len,h];rfl
theorem chC_one (c:Idl × Nat):∀ v ∈ chC c,v.oneCell' = true:=fun v hv => by
 rcases List.mem_append.1 hv with h | h
 ·exact idC_one c.1 v h
 ·rw [List.mem_singleton.1 h];rfl
theorem ch_zero:(∀ w,(zeroValue 75).run Tryz.prog w = .ok (.agg (chC (zid,0)).toArray) w) ∧ ∀ w,(Instr.build 75 #[]).run Tryz.prog w = .ok (.agg (chC (zid,0)).toArray) w :=
 ⟨fun w => by kernel_rfl,fun w => run_build w 75 #[] _ (by kernel_rfl)⟩
set_option maxRecDepth 100000 in
theorem ch_built (x:Idl) (hx:x.length = 32) (k:Nat) (w:World):(Instr.build 75 #[(0,.agg (idC x).toArray),(1,.int .i64 (k:Int))]).run Tryz.prog w = .ok (.agg (chC (x,k)).toArray) w:=by
 rcases x with _ | ⟨a0,x⟩
 ·simp at hx
 rcases x with _ | ⟨a1,x⟩
 ·simp at hx
 rcases x with _ | ⟨a2,x⟩
 ·simp at hx
 rcases x with _ | ⟨a3,x⟩
 ·simp at hx
 rcases x with _ | ⟨a4,x⟩
 ·simp at hx
 rcases x with _ | ⟨a5,x⟩
 ·simp at hx
 rcases x with _ | ⟨a6,x⟩
 ·simp at hx
 rcases x with _ | ⟨a7,x⟩
 ·simp at hx
 rcases x with _ | ⟨a8,x⟩
 ·simp at hx
 rcases x with _ | ⟨a9,x⟩
 ·simp at hx
 rcases x with _ | ⟨a10,x⟩
 ·simp at hx
 rcases x with _ | ⟨a11,x⟩
 ·simp at hx
 rcases x with _ | ⟨a12,x⟩
 ·simp at hx
 rcases x with _ | ⟨a13,x⟩
 ·simp at hx
 rcases x with _ | ⟨a14,x⟩
 ·simp at hx
 rcases x with _ | ⟨a15,x⟩
 ·simp at hx
 rcases x with _ | ⟨a16,x⟩
 ·simp at hx
 rcases x with _ | ⟨a17,x⟩
 ·simp at hx
 rcases x with _ | ⟨a18,x⟩
 ·simp at hx
 rcases x with _ | ⟨a19,x⟩
 ·simp at hx
 rcases x with _ | ⟨a20,x⟩
 ·simp at hx
 rcases x with _ | ⟨a21,x⟩
 ·simp at hx
 rcases x with _ | ⟨a22,x⟩
 ·simp at hx
 rcases x with _ | ⟨a23,x⟩
 ·simp at hx
 rcases x with _ | ⟨a24,x⟩
 ·simp at hx
 rcases x with _ | ⟨a25,x⟩
 ·simp at hx
 rcases x with _ | ⟨a26,x⟩
 ·simp at hx
 rcases x with _ | ⟨a27,x⟩
 ·simp at hx
 rcases x with _ | ⟨a28,x⟩
 ·simp at hx
 rcases x with _ | ⟨a29,x⟩
 ·simp at hx
 rcases x with _ | ⟨a30,x⟩
 ·simp at hx
 rcases x with _ | ⟨a31,x⟩
 ·simp at hx
 rcases x with _ | ⟨b,x⟩
 ·exact run_build w 75 _ _ (by kernel_rfl)
 ·simp at hx
end Go.Proofs.YtbmiiiccnoiffaaGreatDoor
