/- YtbmiiiccnoiffaaGreatDoorC40: texts KA, Q0 of this claim, in one. -/
import Derived.Deep.CutRange
import Derived.Laws.MakeOwn
import Derived.Test.YtbmiiiccnoiffaaGreatDoorC15
import Derived.Test.YtbmiiiccnoiffaaGreatDoorC29
import Derived.Test.YtbmiiiccnoiffaaGreatDoorC39
namespace Go.Proofs.YtbmiiiccnoiffaaGreatDoor
open Go.RowKit
theorem parsO_getD (o:Ob):((commitOf o.body).getD (zid,[],⟨#[]⟩)).2.1 = parsO o:=by unfold parsO;cases commitOf o.body <;> rfl
theorem cmO_facts {s:ByteArray} {ao:Option Addr} {cap n:Nat} {ct:List Value} (hct:cmC ((commitOf s).getD (zid,[],⟨#[]⟩)).1 (.slice ao n cap) ((commitOf s).getD (zid,[],⟨#[]⟩)).2.2 = ct) :
  Hid (ct.length = 34) ∧ Hid (∀ v ∈ ct,v.oneCell' = true) ∧ Hid (ct[32]? = some (.slice ao n cap)):=by
 have htl:((commitOf s).getD (zid,[],⟨#[]⟩)).1.length = 32:=by
  cases e:commitOf s with
  | none => exact zid_len
  | some c => exact (commitOf_len e).1
 refine ⟨Lib.hid (by rw [← hct];exact cmC_len _ _ _ htl),Lib.hid (by rw [← hct];exact cmC_one _ _ _ _ _),Lib.hid ?_⟩
 rw [← hct]
 unfold cmC
 rw [List.getElem?_append_right (by rw [idC_len,htl];exact Nat.le_refl _),idC_len,htl];rfl
theorem cmG_parts (l:List Ob) (x:Idl):(((cmG (getS l)) x).getD cmt0).tree.length = 32 ∧ (par (cmG (getS l)) x).length ≤ 4:=by
 cases e:cmG (getS l) x with
 | none => exact ⟨zid_len,by unfold par;rw [e];simp⟩
 | some c =>
  obtain ⟨o,_,_,h3⟩:=cmG_some e
  rw [par_of e]
  exact ⟨(commitOf_len h3).1,(commitOf_len h3).2.2.1⟩
theorem cmG_tree (l:List Ob) (x:Idl):(((cmG (getS l)) x).getD cmt0).tree.length = 32:=(cmG_parts l x).1
theorem cmG_four (l:List Ob) (x:Idl):(par (cmG (getS l)) x).length ≤ 4:=(cmG_parts l x).2
def RdAns (cm:Idl → Option Cmt) (w:World) (e:Ending) (w':World):Prop:=∃ b,e = .returned (.bool b) ∧ (b = false → Acyc cm) ∧ Below w.heap.size w w'
def RdOut (l:List Ob) (W:World) (i:Value) (wr:World):Prop:=∃ k:Nat,i = .int .i64 (k:Int) ∧ k ≤ (rights l).length ∧ (∀ j (h:j < (rights l).length),j < k → NoRnd l (rights l)[j]) ∧ Below W.heap.size W wr
def RdIn (cm:Idl → Option Cmt) (un:List Idl) (x0:Idl) (P:List Idl) (W:World) (gk:Nat) (q v:Value) (wr:World):Prop :=
 ∃ V Q,Rnd cm x0 P V Q ∧ V.Nodup ∧ (∀ y ∈ V,y ∈ un) ∧ (∀ y ∈ Q,y ∈ un) ∧ potB un V Q ≤ gk ∧ gk ≤ 20004 ∧ IdRow wr q Q ∧ CapI q ∧ OwnQ wr W.heap.size 32 v V.length (idsF V) ∧ (∀ k,v.ownBlock = some k → q.ownBlock ≠ some k) ∧ Below W.heap.size W wr
set_option maxRecDepth 100000 in
set_option maxHeartbeats 4000000 in
theorem rround_any (vl vi:Value) (l:List Ob) (hl:l.length ≤ 1000) (w:World) (hs:SrcRow w (.agg #[vl,vi]) l) :
  Calls Tryz.prog 18 #[.agg #[vl,vi]] w (RdAns (cmG (getS l)) w):=by
 obtain ⟨zi,i0,hi,hz0,hz1,hz2,hzi,hzil⟩:=id_zero
 have HZI:=Lib.hid hzil
 obtain ⟨zc,hzc,_,hzce⟩:=cm_zero
 have HZC:=Lib.hid (show zc.size = 34 by rw [hzce];exact cmC_len _ _ _ zid_len)
 have HCM0:=Lib.hid (fun y (hy:y.length = 32) W' (h:Below w.heap.size w W') => rcmt_any vl vi l y W' (hs.below h) hy)
 have HRT:Hid (∀ o ∈ rights l,rightOb o = true):=Lib.hid (fun o ho => (List.mem_filter.1 ho).2)
 have HUN:Hid (∀ o ∈ rights l,∀ p ∈ parsO o,p ∈ allP l):=Lib.hid (fun o ho => allP_of ho)
 have HUP:=Lib.hid (allP_par l)
 have HUL:Hid ((allP l).length ≤ 4000):=Lib.hid (by have:=allP_len l;omega)
 have HU32:=Lib.hid (allP_32 l)
 have HTREE:=Lib.hid (cmG_tree l)
 have HFOUR:=Lib.hid (cmG_four l)
 have HAC:=Lib.hid (fun h => acyc_of (l:=l) h)
 obtain ⟨vl',vi',hve,hvl,hvi⟩:=hs
 obtain ⟨rfl,rfl⟩:vl = vl' ∧ vi = vi':=by injection hve with h;injection h with h;injection h with h1 h2;injection h2 with h2 _;exact ⟨h1,h2⟩
 obtain ⟨lo,lc,rfl,hml,hL⟩:=hvl.open
 obtain ⟨io,ic,rfl,hmi,hI⟩:=hvi.open
 unfold maxLen at hml
 rw [List.length_map] at hmi HCM0
 have hI':rights l ≠ [] → ∃ b off,io = some ⟨b,off,none⟩ ∧ b < w.heap.size ∧ ∀ k (hk:k < (rights l).length),w.rangeAt b (off + k * 32) (idC (idO (rights l)[k])):=fun hne => by
  obtain ⟨b,off,e,hl,hc⟩:=hI (by simpa using hne)
  refine ⟨b,off,e,hl,fun k hk => ?_⟩
  have:=hc k (by simpa using hk)
  rwa [List.getElem_map] at this
 rw [List.length_map]
 have HNR:Hid (∀ o,NoRnd l o ↔ (o.kind = 3 → ∀ p ∈ parsO o,∀ z,Reach (cmG (getS l)) p z → z ≠ idO o)):=Lib.hid (fun o => Iff.rfl)
 obtain ⟨W,hW⟩:∃ W,w.alloc (.cells #[.slice lo (rights l).length lc,.slice io (rights l).length ic] 30) = W:=⟨_,rfl⟩
 have hbW:Below w.heap.size w W:=by rw [← hW];exact (Below.refl _ _).alloc (Nat.le_refl _) _
 have hA:=Arr.ofList w [.slice lo (rights l).length lc,.slice io (rights l).length ic] 30
 have c0:W.cell? ⟨w.heap.size,0,none⟩ = some (.slice lo (rights l).length lc):=by rw [← hW];exact hA.cell 0 (by simp)
 have c1:W.cell? ⟨w.heap.size,1,none⟩ = some (.slice io (rights l).length ic):=by rw [← hW];exact hA.cell 1 (by simp)
 have hsW:W.heap.size = w.heap.size + 1:=by rw [← hW];simp
 have HCM:=Lib.hid (fun y (hy:y.length = 32) W' (h:Below W.heap.size W W') => HCM0.out y hy W' (hbW.trans (h.mono hbW.size)))
 have HBW:=Lib.hid hbW
 have HC01:=Lib.hid (And.intro c0 c1)
 have HSW:=Lib.hid hsW
 have HW:=Lib.hid hW
 have HL:=Lib.hid hL
 have HI:=Lib.hid hI'
 clear hvl hvi hI hL hI' hve hbW hA c0 c1 hsW hW HCM0 hzil hzce
 unfold RdAns
 generalize hcm:cmG (getS l) = cm at HCM HUP HNR HAC HTREE HFOUR
 clear hcm
 have HNRD:Hid (∀ i wr,RdOut l W i wr ↔ ∃ k:Nat,i = .int .i64 (k:Int) ∧ k ≤ (rights l).length ∧ (∀ j (h:j < (rights l).length),j < k → NoRnd l (rights l)[j]) ∧ Below W.heap.size W wr):=Lib.hid (fun _ _ => Iff.rfl)
 generalize hro:RdOut l W = RO at HNRD
 clear hro
 generalize hnr:NoRnd l = NR at HNR HAC HNRD
 clear hnr
 generalize allP l = un at HUN HUP HUL HU32
 generalize rights l = rs at HRT HUN HL HI hml HC01 HW HAC HNRD HCM
 go_enter Tryz.func18,Tryz.ntmps18
 go_wp2_with fail
 rw [HW.out]
 go_loopw [3] (fun i wr => RO i wr) (fun i _ => (rs.length - intOf i).toNat)
 case atStart => exact (HNRD.out _ _).2 ⟨0,rfl,by omega,fun j _ h => absurd h (by omega),Below.refl _ _⟩
 case round =>
  obtain ⟨wo,rfl⟩:∃ wo:World,wo = wr:=⟨_,rfl⟩
  obtain ⟨k,rfl,hk,hno,hb⟩:=(HNRD.out _ _).1 hrel
  have HNO:=Lib.hid hno
  have HB:=Lib.hid hb
  have hwo:W.heap.size ≤ wo.heap.size:=hb.size
  have e0:wo.cell? ⟨w.heap.size,0,none⟩ = some (.slice lo rs.length lc):=below_load HC01.out.1 hb (by have:=HSW.out;omega)
  have e1:wo.cell? ⟨w.heap.size,1,none⟩ = some (.slice io rs.length ic):=below_load HC01.out.2 hb (by have:=HSW.out;omega)
  clear hno hrel
  by_cases hlt:k < rs.length
  ·have hne:rs ≠ []:=by intro e;rw [e] at hlt;simp at hlt
   obtain ⟨bi,oi,rfl,hbi,hci⟩:=HI.out hne
   obtain ⟨bl,ol,rfl,hbl,hcl⟩:=HL.out hne
   have hbw:Below w.heap.size w wo:=HBW.out.trans (hb.mono HBW.out.size)
   have fi:=rangeAt_below (hci k hlt) hbw hbi
   have fl:=rangeAt_below (hcl k hlt) hbw hbl
   obtain ⟨o,ho⟩:∃ o,rs[k] = o:=⟨_,rfl⟩
   rw [ho] at fi fl
   have HOK:=Lib.hid ho
   have hom:o ∈ rs:=by rw [← ho];exact List.getElem_mem hlt
   have HOM:=Lib.hid hom
   have g0:wo.cell? ⟨bl,ol + k * 2,none⟩ = some (.int .i64 o.kind):=by have:=fl 0 _ rfl;rwa [Nat.add_zero] at this
   have g1:wo.cell? ⟨bl,ol + k * 2 + 1,none⟩ = some (.string o.body):=fl 1 _ rfl
   have k0:(0:Int) ≤ k:=by omega
   have k1:(k:Int) < rs.length:=by omega
   have d1:decide ((k:Int) < rs.length) = true:=decide_eq_true k1
   have HNEXT:Hid (NR o → ∀ wr,Below W.heap.size W wr → RO (.int .i64 ((k:Int) + 1)) wr):=Lib.hid (fun h wr hbr => (HNRD.out _ _).2 ⟨k + 1,by rw [Int.natCast_add];rfl,by omega,fun j hj hjk => by
    by_cases e:j = k
    ·subst e;rw [HOK.out];exact h
    ·exact HNO.out j hj (by omega),hbr⟩)
   clear hcl hci ho hom hne fl hb
   by_cases h3:o.kind = 3
   ·have d3:(o.kind != 3) = false:=by rw [h3];rfl
    have hsz:o.body.size ≤ 100000:=by have:=right_small (HRT.out o HOM.out);omega
    have HRC:=Lib.hid (rcommit_fc o.body wo hsz)
    have HDONE:Hid ((∀ p ∈ parsO o,∀ z,Reach cm p z → z ≠ idO o) → NR o):=Lib.hid (fun h => (HNR.out o).2 (fun _ => h))
    have HPU:=Lib.hid (HUN.out o HOM.out)
    have HP4:=Lib.hid (parsO_len o)
    have h34:(Tryz.prog.info? 97).map (·.size) = some 34:=by kernel_rfl
    have h32:(Tryz.prog.info? 24).map (·.size) = some 32:=by kernel_rfl
    clear h3 hsz
    go_wp2_with fail
    refine HRC.out.mono ?_
    rintro e w2 ⟨v,rfl,hrow,hfr,hcap,hb2⟩
    rw [parsO_getD] at hrow
    obtain ⟨ao2,lcap,rfl,_⟩:=hrow.flat0
    obtain ⟨ct,hct⟩:∃ ct,cmC ((commitOf o.body).getD (zid,[],⟨#[]⟩)).1 (.slice ao2 (parsO o).length lcap) ((commitOf o.body).getD (zid,[],⟨#[]⟩)).2.2 = ct:=⟨_,rfl⟩
    obtain ⟨HCL,HCO,HC32⟩:=cmO_facts hct
    rw [hct]
    obtain ⟨W3,hW3⟩:∃ W3,(w2.alloc (.cells zc 97)).setCells w2.heap.size 0 ct = W3:=⟨_,rfl⟩
    have wr3:=wrote (by rw [HCL.out,HZC.out]) (by rw [HZC.out];omega) hW3
    have c32:W3.cell? ⟨w2.heap.size,32,none⟩ = some (.slice ao2 (parsO o).length lcap):=by have:=wr3.row 32 _ HC32.out;rwa [Nat.zero_add] at this
    have HTH:=Lib.hid (there_alloc w2 zc 97 HZC.out)
    have HROW:=Lib.hid (hrow.below wr3.bel)
    have HCAP:Hid (CapI (.slice ao2 (parsO o).length lcap)):=Lib.hid hcap
    have hb3:Below wo.heap.size wo W3:=hb2.trans (wr3.bel.mono hb2.size)
    have HB3:=Lib.hid hb3
    have hb30:Below W.heap.size W W3:=HB.out.trans (hb3.mono hwo)
    have HB30:=Lib.hid hb30
    have E0:=Lib.hid (below_load e0 hb3 (by have:=HSW.out;omega))
    have E1:=Lib.hid (below_load e1 hb3 (by have:=HSW.out;omega))
    have hblw:bi < wo.heap.size:=by have:=HBW.out.size;omega
    have FI:=Lib.hid (rangeAt_below fi hb3 hblw)
    have hs3:wo.heap.size ≤ W3.heap.size:=hb3.size
    have HW3:=Lib.hid hW3
    clear hct hrow hfr hcap hb2 wr3 hb3 hb30 hW3 HRC e0 e1 g0 g1 fi
    go_wp2_with (refine wpList_store_list rfl 97 _ _ rfl w2.heap.size 0 ct rfl rfl 34 HCL.out HTH.out h34 HCO.out ?_;rw [HW3.out])
    go_loopg [6,7] (5 * un.length + 4) (fun gk q v wr => RdIn cm un (idO o) (parsO o) W3 gk q v wr)
    case atStart =>
     exact ⟨[],parsO o,Rnd.init _ _,List.nodup_nil,(by intro y hy;cases hy),HPU.out,by have:=potB_le un [] (parsO o);have:=HP4.out.1;omega,by have:=HUL.out;omega,HROW.out,HCAP.out,ownQ_nil _ _ _,(by intro j hj;cases hj),Below.refl _ _⟩
    case round =>
     obtain ⟨wi,rfl⟩:∃ wi:World,wi = wr:=⟨_,rfl⟩
     unfold RdIn at hrel
     obtain ⟨V,Q,hrnd,hnd,hVu,hQu,hpot,hgk,hq,hqc,hv,hne,hb⟩:=hrel
     have hVl:V.length ≤ 4000:=Nat.le_trans (nodup_sub_len V un hnd hVu) HUL.out
     have hV32:∀ y ∈ V,y.length = 32:=fun y hy => HU32.out y (hVu y hy)
     have hbo:Below W.heap.size W wi:=HB30.out.trans (hb.mono HB30.out.size)
     have hswi:W3.heap.size ≤ wi.heap.size:=hb.size
     have HBO:=Lib.hid hbo
     clear HC32 HTH HW3
     cases Q with
     | nil =>
      have HNR2:Hid (NR o):=Lib.hid (HDONE.out (fun p hp z hz => hrnd.done hp hz))
      have HEND:=Lib.hid (HNEXT.out HNR2.out wi hbo)
      obtain ⟨aq,cq,rfl,_⟩:=hq.flat0
      clear hrnd hnd hVu hQu hpot hq hqc hv hne hb hV32 hbo c32
      go_wp2
      go_roundw
      case rel => exact HEND.out
      case measure => simp [intOf];omega
     | cons x Q =>
      have hxl:x.length = 32:=HU32.out x (hQu x (by simp))
      have hQu2:∀ y ∈ Q,y ∈ un:=fun y hy => hQu y (List.mem_cons_of_mem _ hy)
      obtain ⟨g,off,cap,rfl,hgl,hnc,hmx,hr0,hcut⟩:=hq.cut hqc
      obtain ⟨p,hp⟩:∃ p,p = (if cap = 0 then (⟨g,off,none⟩:Addr) else ⟨g,off + 32,none⟩):=⟨_,rfl⟩
      obtain ⟨hq2,hqc2⟩:=hcut p hp
      have HSL:Hid (∀ W,(Instr.sliceAt 28 (.slice (some ⟨g,off,none⟩) (Q.length + 1) (cap + 1)) (some (.int .i64 1)) none none).run Tryz.prog W = .ok (.slice (some p) Q.length cap) W):=Lib.hid (fun W => by rw [hp];exact run_cut_ids W g off Q.length cap (by omega))
      have HPB:Hid ((Value.slice (some p) Q.length cap).ownBlock = some g):=Lib.hid (by rw [hp];show some (Addr.block (if cap = 0 then _ else _)) = some g;split <;> rfl)
      have hxc:(idC x).length = 32:=by rw [idC_len,hxl]
      have h32x:=h32_of hxc
      have hol:=idO_len o
      have h32o:=h32_of (us:=idC (idO o)) (by rw [idC_len,hol])
      obtain ⟨W4,hW4⟩:∃ W4,(wi.alloc (.cells zi 24)).setCells wi.heap.size 0 (idC x) = W4:=⟨_,rfl⟩
      have wr4:=wrote (by rw [hxc,HZI.out]) (by rw [HZI.out];omega) hW4
      have hb4:Below W3.heap.size W3 W4:=hb.trans (wr4.bel.mono hswi)
      have e14:=below_load E1.out hb4 (by have:=HSW.out;omega)
      have fx4:=wr4.row
      have fi4:=rangeAt_below FI.out hb4 (by omega)
      have hsW4:=wr4.bel.size
      have hlt4:=wr4.lt
      have HB4:=Lib.hid hb4
      have HBI4:=Lib.hid wr4.bel
      have HV4:=Lib.hid (hv.below wr4.bel)
      have HQ4:=Lib.hid (hq2.below wr4.bel)
      have HQC:=Lib.hid hqc2
      have HVB:Hid (∀ k,u7.ownBlock = some k → W3.heap.size ≤ k ∧ k < wi.heap.size ∧ k ≠ g):=Lib.hid (fun k hk => ⟨(hv.lt k hk).1,(hv.lt k hk).2,fun e => hne k hk (by rw [e];rfl)⟩)
      have HR0:=Lib.hid hr0
      have HTH4:=Lib.hid (there_alloc wi zi 24 HZI.out)
      have HXC:=Lib.hid hxc
      have HXO:=Lib.hid (idC_one x)
      have HXL:=Lib.hid hxl
      have HW4:=Lib.hid hW4
      have HRND:=Lib.hid hrnd
      have HND:=Lib.hid hnd
      have HVU:=Lib.hid hVu
      have HQU:=Lib.hid hQu2
      have HV32:=Lib.hid hV32
      have HXU:=Lib.hid (hQu x (by simp))
      have HGK:=Lib.hid hpot
      have heq:=id_eqIn x (idO o) hxl hol
      have HXY:Hid ((x == idO o) = decide (x = idO o)):=Lib.hid (by by_cases h:x = idO o <;> simp [h])
      have HCX:=Lib.hid (fun X (h:Below W.heap.size W X) => HCM.out x hxl X h)
      have hbiW:bi < W4.heap.size:=by omega
      have hwsW:w.heap.size < W4.heap.size:=by have:=HSW.out;omega
      clear hrnd hnd hVu hQu hQu2 hpot hq hqc hv hne hb hV32 hcut hp hq2 hqc2 hr0 hxc hol wr4 hb4 hW4 c32 hbo
      generalize hiy:idC x = ux at h32x fx4 HTH4 HXC HXO HW4 HR0 heq HCX
      have HIY:=Lib.hid hiy
      clear hiy
      generalize idC (idO o) = uo at h32o fi4 heq FI
      generalize (x == idO o) = exo at heq HXY
      go_wp2_with (first
       | (refine wpList_load_mid rfl 24 _ rfl g off rfl ux _ HR0.out Tryz.underlying24 rfl h32x ?_)
       | (refine wpList_store_list rfl 24 _ _ rfl wi.heap.size 0 ux rfl rfl 32 HXC.out HTH4.out h32 HXO.out ?_;rw [HW4.out])
       | (refine wpList_slice_run rfl 28 _ _ rfl _ _ rfl rfl _ (HSL.out _) ?_))
      refine wp_region_bq (by kernel_rfl) (by kernel_rfl) ?_
      have LQ0:=fun x:BW (World.heap W4).size W4 => below_load e14 x.hb (by omega)
      repeat (go_big_quiet_step (fail))
      refine bq_row 24 _ _ rfl rfl rfl fx4 (by omega) Tryz.underlying24 rfl h32x ?_
      simp only [Act.put,List.setIfInBounds_toArray,List.set_cons_zero,List.set_cons_succ]
      repeat (go_big_quiet_step (fail))
      refine bq_row 24 _ _ rfl rfl rfl fi4 (by omega) Tryz.underlying24 rfl h32o ?_
      simp only [Act.put,List.setIfInBounds_toArray,List.set_cons_zero,List.set_cons_succ]
      repeat (go_big_quiet_step (fail))
      refine wpQuiet_nil ?_
      intro wq hbq
      clear LQ0
      have HBQ:=Lib.hid (HB4.out.trans (hbq.mono (by omega)))
      have HBO4:=Lib.hid (HBO.out.trans ((HBI4.out.trans (hbq.mono hsW4)).mono HBO.out.size))
      have FX:=Lib.hid (rangeAt_below fx4 hbq hlt4)
      have hsq:=hbq.size
      have HVQ:=Lib.hid (HV4.out.below hbq)
      have HQQ:=Lib.hid (HQ4.out.below hbq)
      have hVr:IdRow wq u7 V:=HVQ.out.row HV32.out
      have hin:=rin_any u7 V x wq hVr HV32.out HXL.out
      rw [HIY.out] at hin
      have HIN:=Lib.hid hin
      clear hbq fx4 fi4 e14 hVr hin heq HR0 HTH4 HW4 HB4 HV4 HQ4 HSL
      cases exo with
      | true =>
       have HEND:=Lib.hid (HBW.out.trans (HBO4.out.mono HBW.out.size))
       go_wp2_with fail
       go_ret
       exact ⟨true,rfl,(by intro h;cases h),HEND.out⟩
      | false =>
       have hxo:x ≠ idO o:=of_decide_eq_false HXY.out.symm
       have HXN:=Lib.hid hxo
       clear hxo
       have f1:=FX.out
       go_wp2_with (refine wpList_load_mid rfl 24 _ rfl wi.heap.size 0 rfl ux _ f1 Tryz.underlying24 rfl h32x ?_)
       refine HIN.out.mono ?_
       rintro e w5 ⟨rfl,hb5⟩
       have FX5:=Lib.hid (rangeAt_below FX.out hb5 (by omega))
       have HV5:=Lib.hid (HVQ.out.below hb5)
       have HQ5:=Lib.hid (HQQ.out.below hb5)
       have HB5:=Lib.hid (HBQ.out.trans (hb5.mono (by omega)))
       have HBO5:=Lib.hid (HBO4.out.trans (hb5.mono (by omega)))
       have hs5:wi.heap.size < w5.heap.size:=by have:=hb5.size;omega
       clear hb5 f1 FX HVQ HQQ HBQ HBO4 HIN
       cases hvx:V.contains x with
       | true =>
        have hxV:x ∈ V:=by rw [List.contains_eq_mem,decide_eq_true_iff] at hvx;exact hvx
        have HEND:Hid (RdIn cm un (idO o) (parsO o) W3 (potB un V Q) (.slice (some p) Q.length cap) u7 w5):=Lib.hid ⟨V,Q,HRND.out.skip hxV,HND.out,HVU.out,HQU.out,Nat.le_refl _,by have:=potB_skip un V Q x;have:=HGK.out;omega,HQ5.out,HQC.out,HV5.out,fun k hk e => by
         rw [HPB.out] at e
         exact (HVB.out k hk).2.2 (Option.some.inj e).symm,HB5.out⟩
        clear hvx hxV
        go_wp2_with fail
        go_roundg (potB un V Q)
        case measure => have:=potB_skip un V Q x;have:=HGK.out;omega
        case rel => exact HEND.out
       | false =>
        have hxV:x ∉ V:=by rw [List.contains_eq_mem,decide_eq_false_iff_not] at hvx;exact hvx
        have HNV:=Lib.hid hxV
        clear hvx hxV
        have hb6:Below w5.heap.size w5 (w5.alloc (.cells ux.toArray 24)):=(Below.refl _ _).alloc (Nat.le_refl _) _
        have HV6:=Lib.hid (HV5.out.below hb6)
        have HQ6:=Lib.hid (HQ5.out.below hb6)
        have HBO6:=Lib.hid (HBO5.out.trans (hb6.mono (by have:=HBO5.out.size;omega)))
        have HB6:=Lib.hid (HB5.out.trans (hb6.mono (by omega)))
        have FX6:=Lib.hid (rangeAt_below FX5.out hb6 hs5)
        have HNEW:Hid (∀ j u,ux[j]? = some u → (w5.alloc (.cells ux.toArray 24)).cell? ((⟨w5.heap.size,0,none⟩:Addr).add j) = some u):=Lib.hid (fun j u hj => cells_newL _ ux _ j u hj)
        have HSZ:Hid (∀ w,(sizeOf 24).run Tryz.prog w = .ok ux.length w):=Lib.hid (fun w => by rw [HXC.out];kernel_rfl)
        have HTS:Hid (idsF (V ++ [x]) = idsF V ++ ux):=Lib.hid (by rw [← HIY.out];exact idsF_snoc _ _)
        have hb36:W3.heap.size ≤ (w5.alloc (.cells ux.toArray 24)).heap.size:=HB6.out.size |> fun h => h
        have f1:=FX5.out
        clear hb6
        go_wp2_with (first
         | (refine wpList_load_mid rfl 24 _ rfl wi.heap.size 0 rfl ux _ f1 Tryz.underlying24 rfl h32x ?_)
         | (refine wpList_buildSlice_one rfl (.tmp 57) 28 24 rfl ux zi rfl Tryz.underlying28 HSZ.out hzi (by rw [HXC.out];omega) (by rw [HXC.out];omega) ?_)
         | (refine wpList_append_q rfl (.tmp 56) (.tmp 58) 28 rfl W3.heap.size 24 i0 (.agg zi) 32 32 Tryz.underlying28 hi hz0 hz1 hz2 HZI.out (by decide) _ V.length (idsF V) rfl HV6.out (some ⟨w5.heap.size,0,none⟩) 1 1 ux rfl (by rw [HXC.out]) (fun _ => ⟨_,rfl,HNEW.out⟩) HXO.out (by unfold maxLen;omega) (by omega) hb36 ?_))
        intro v7 w7 hv7 hg7 hf7
        rw [World.size_alloc] at hb36
        have HV7:Hid (OwnQ w7 W3.heap.size 32 v7 (V ++ [x]).length (idsF (V ++ [x]))):=Lib.hid (by rw [HTS.out,List.length_append,List.length_singleton];exact hv7)
        have hs7:w5.heap.size + 1 ≤ w7.heap.size:=by have:=hg7.size;rwa [World.size_alloc] at this
        have HB7:=Lib.hid (HB6.out.grown hg7 HB6.out.size (fun j hj => (HVB.out j hj).1))
        have HBO7:=Lib.hid (HBW.out.trans ((HB30.out.trans (HB7.out.mono HB30.out.size)).mono HBW.out.size))
        have HQ7:=Lib.hid (HQ6.out.grown hg7 (.inr fun j hj e => by rw [HPB.out] at hj;exact (HVB.out j e).2.2 (Option.some.inj hj).symm))
        have HV7B:Hid (∀ j,v7.ownBlock = some j → j ≠ g ∧ j < w7.heap.size ∧ W3.heap.size ≤ j):=Lib.hid (fun j hj => by
         refine ⟨fun e => ?_,(hv7.lt j hj).2,(hv7.lt j hj).1⟩
         rcases hf7 with h | h
         ·rw [h] at hj;exact (HVB.out j hj).2.2 e
         ·have:=h j hj
          rw [World.size_alloc] at this
          omega)
        have f7:=range_grown FX6.out hg7 (fun e => by have:=(HVB.out _ e).2.1;omega)
        have e07:w7.cell? ⟨w.heap.size,0,none⟩ = some (.slice (some ⟨bl,ol,none⟩) rs.length lc):=below_load E0.out HB7.out (by have:=HSW.out;omega)
        have e17:w7.cell? ⟨w.heap.size,1,none⟩ = some (.slice (some ⟨bi,oi,none⟩) rs.length ic):=below_load E1.out HB7.out (by have:=HSW.out;omega)
        have HC7:=Lib.hid (HCX.out w7 (HB30.out.trans (HB7.out.mono HB30.out.size)))
        clear hv7 hg7 hf7 HV6 HQ6 HB6 HBO6 FX6 FX5 HV5 HQ5 HB5 HBO5 f1 HNEW
        go_wp2_with (refine wpList_load_mid rfl 24 _ rfl wi.heap.size 0 rfl ux _ f7 Tryz.underlying24 rfl h32x ?_)
        refine HC7.out.mono ?_
        intro e w8 h
        obtain ⟨pv,rfl,hrow,hb8⟩:=h
        clear f7 e07 e17 HC7
        have HPAR:Hid (∀ q ∈ par cm x,q ∈ un):=Lib.hid (HUP.out x)
        have hps:((cm x).getD cmt0).pars = par cm x:=par_getD cm x
        have htl:((cm x).getD cmt0).tree.length = 32:=HTREE.out x
        have hp4:(par cm x).length ≤ 4:=HFOUR.out x
        rw [hps] at hrow
        obtain ⟨ap,pcap,rfl,_⟩:=hrow.flat0
        obtain ⟨ct2,hct2⟩:∃ ct2,cmC ((cm x).getD cmt0).tree (.slice ap (par cm x).length pcap) ((cm x).getD cmt0).text = ct2:=⟨_,rfl⟩
        have hcl2:ct2.length = 34:=by rw [← hct2];exact cmC_len _ _ _ htl
        have hco2:∀ v ∈ ct2,v.oneCell' = true:=by rw [← hct2];exact cmC_one _ _ _ _ _
        have hc32:ct2[32]? = some (.slice ap (par cm x).length pcap):=by
         rw [← hct2];unfold cmC
         rw [List.getElem?_append_right (by rw [idC_len,htl];exact Nat.le_refl _),idC_len,htl];rfl
        rw [hct2]
        obtain ⟨W9,hW9⟩:∃ W9,(w8.alloc (.cells zc 97)).setCells w8.heap.size 0 ct2 = W9:=⟨_,rfl⟩
        have wr9:=wrote (by rw [hcl2,HZC.out]) (by rw [HZC.out];omega) hW9
        have c329:W9.cell? ⟨w8.heap.size,32,none⟩ = some (.slice ap (par cm x).length pcap):=by have:=wr9.row 32 _ hc32;rwa [Nat.zero_add] at this
        have hb79:Below w7.heap.size w7 W9:=hb8.trans (wr9.bel.mono hb8.size)
        have HROW9:=Lib.hid (hrow.below wr9.bel)
        have HV9:=Lib.hid (HV7.out.below hb79)
        have HQ9:=Lib.hid (HQ7.out.below hb79)
        have HB9:=Lib.hid (HB7.out.trans (hb79.mono (by omega)))
        have hs9:w7.heap.size ≤ W9.heap.size:=hb79.size
        have hs89:w8.heap.size < W9.heap.size:=wr9.lt
        have HTH9:=Lib.hid (there_alloc w8 zc 97 HZC.out)
        have HCL2:=Lib.hid hcl2
        have HCO2:=Lib.hid hco2
        have HW9:=Lib.hid hW9
        have HC329:=Lib.hid c329
        have hRND2:=HRND.out.take (by intro e;exact HXN.out e)
        have HRND2:=Lib.hid hRND2
        have hpot2:potB un (V ++ [x]) (Q ++ par cm x) < potB un V (x :: Q):=potB_take HXU.out HNV.out hp4 (fun y => by rw [List.mem_append,List.mem_singleton])
        have HPOT2:=Lib.hid hpot2
        have hnd2:(V ++ [x]).Nodup:=by
         rw [List.nodup_append]
         exact ⟨HND.out,by simp,fun a ha b hb e => HNV.out (by rw [List.mem_singleton.1 hb] at e;rw [← e];exact ha)⟩
        have hvu2:∀ y ∈ V ++ [x],y ∈ un:=fun y hy => by
         rcases List.mem_append.1 hy with h1 | h1
         ·exact HVU.out y h1
         ·rw [List.mem_singleton.1 h1];exact HXU.out
        have hqu2:∀ y ∈ Q ++ par cm x,y ∈ un:=fun y hy => by
         rcases List.mem_append.1 hy with h1 | h1
         ·exact HQU.out y h1
         ·exact HPAR.out y h1
        have HMK:Hid (∀ q w',IdRow w' q (Q ++ par cm x) → CapI q → OwnQ w' W3.heap.size 32 v7 (V ++ [x]).length (idsF (V ++ [x])) → (∀ j,v7.ownBlock = some j → q.ownBlock ≠ some j) → Below W3.heap.size W3 w' → RdIn cm un (idO o) (parsO o) W3 (potB un (V ++ [x]) (Q ++ par cm x)) q v7 w'):=Lib.hid (fun q w' h1 h2 h3 h4 h5 => ⟨V ++ [x],Q ++ par cm x,HRND2.out,hnd2,hvu2,hqu2,Nat.le_refl _,by have:=HPOT2.out;have:=HGK.out;omega,h1,h2,h3,h4,h5⟩)
        have hqlen:Q.length ≤ 20004:=by have:=HGK.out;unfold potB at this;simp at this;omega
        have HQ32:Hid (∀ y ∈ Q,y.length = 32):=Lib.hid (fun y hy => HU32.out y (HQU.out y hy))
        have HP32:Hid (∀ y ∈ par cm x,y.length = 32):=Lib.hid (fun y hy => HU32.out y (HPAR.out y hy))
        clear hrow hb8 hct2 hcl2 hco2 hc32 htl hps wr9 c329 hb79 hRND2 hpot2 hnd2 hvu2 hqu2 hW9 HV7 HQ7 HB7
        cases hcx:cm x with
        | none =>
         have hp0:par cm x = []:=by unfold par;rw [hcx]
         have HEND:Hid (RdIn cm un (idO o) (parsO o) W3 (potB un (V ++ [x]) (Q ++ par cm x)) (.slice (some p) Q.length cap) v7 W9):=Lib.hid (HMK.out _ _ (by rw [hp0,List.append_nil];exact HQ9.out) HQC.out HV9.out (fun j hj e => by rw [HPB.out] at e;exact (HV7B.out j hj).1 (Option.some.inj e).symm) HB9.out)
         clear hp0
         dsimp only [Option.isSome_none]
         go_wp2_with (refine wpList_store_list rfl 97 _ _ rfl w8.heap.size 0 ct2 rfl rfl 34 HCL2.out HTH9.out h34 HCO2.out ?_;rw [HW9.out])
         go_roundg (potB un (V ++ [x]) (Q ++ par cm x))
         case measure => have:=HPOT2.out;have:=HGK.out;omega
         case rel => exact HEND.out
        | some c =>
         obtain ⟨aq,cq,heq,hnew⟩:=HQ9.out.flat HQ32.out
         obtain ⟨rfl,rfl⟩:some p = aq ∧ cap = cq:=by injection heq with e1 _ e3;exact ⟨e1,e3⟩
         have HNW:=Lib.hid hnew
         have HQLN:=Lib.hid (idsF_len Q HQ32.out)
         clear heq hnew hcx
         dsimp only [Option.isSome_some]
         go_wp2_with (first
          | (refine wpList_store_list rfl 97 _ _ rfl w8.heap.size 0 ct2 rfl rfl 34 HCL2.out HTH9.out h34 HCO2.out ?_;rw [HW9.out])
          | (refine wpList_append_q rfl (.tmp 67) (.tmp 68) 28 rfl W9.heap.size 24 i0 (.agg zi) 32 32 Tryz.underlying28 hi hz0 hz1 hz2 HZI.out (by decide) _ 0 [] rfl (ownQ_nil _ _ _) (some p) Q.length cap (idsF Q) rfl HQLN.out HNW.out (idsF_one Q) (by unfold maxLen;omega) (by omega) (Nat.le_refl _) ?_))
         intro m1 wa hm1 hga _
         have hca:=cell_grown HC329.out hga (fun e => by cases e)
         have hrowa:=HROW9.out.grown hga (.inr fun _ _ e => by cases e)
         obtain ⟨ap',pcap',heq,hnew⟩:=hrowa.flat HP32.out
         obtain ⟨rfl,rfl⟩:ap = ap' ∧ pcap = pcap':=by injection heq with e1 _ e3;exact ⟨e1,e3⟩
         have HNWA:=Lib.hid hnew
         have HPLN:=Lib.hid (idsF_len (par cm x) HP32.out)
         have HM1:=Lib.hid hm1
         have HVA:=Lib.hid (HV9.out.grown hga (fun _ _ e => by cases e))
         have HBA:=Lib.hid (HB9.out.grown hga HB9.out.size (fun _ e => by cases e))
         have hsa:W9.heap.size ≤ wa.heap.size:=hga.size
         have HM1B:=Lib.hid (fun j hj => (hm1.lt j hj).1:∀ j,m1.ownBlock = some j → W9.heap.size ≤ j)
         clear heq hnew hrowa hga hm1
         go_wp2_with (refine wpList_append_q rfl (.tmp 70) (.tmp 72) 28 rfl W9.heap.size 24 i0 (.agg zi) 32 32 Tryz.underlying28 hi hz0 hz1 hz2 HZI.out (by decide) _ Q.length (idsF Q) rfl HM1.out ap (par cm x).length pcap (idsF (par cm x)) rfl HPLN.out HNWA.out (idsF_one _) (by unfold maxLen;omega) (by omega) hsa ?_)
         intro m2 wb hm2 hgb _
         rw [← idsF_append,← List.length_append] at hm2
         obtain ⟨hir,hic⟩:=idRow_own hm2 (fun y hy => by
          rcases List.mem_append.1 hy with h1 | h1
          ·exact HQ32.out y h1
          ·exact HP32.out y h1)
         have HEND:Hid (RdIn cm un (idO o) (parsO o) W3 (potB un (V ++ [x]) (Q ++ par cm x)) m2 v7 wb):=Lib.hid (HMK.out _ _ hir hic (HVA.out.grown hgb (fun j hj e => by have:=HM1B.out _ e.symm;have:=(HV7B.out j hj).2.1;omega)) (fun j hj e => by have:=(hm2.lt j e).1;have:=(HV7B.out j hj).2.1;omega) (HBA.out.grown hgb HBA.out.size (fun j hj => by have:=HM1B.out j hj;omega)))
         clear hm2 hgb hir hic
         go_wp2
         go_roundg (potB un (V ++ [x]) (Q ++ par cm x))
         case measure => have:=HPOT2.out;have:=HGK.out;omega
         case rel => exact HEND.out
   ·have d3:(o.kind != 3) = true:=by rw [bne_iff_ne];exact h3
    have hnr:NR o:=(HNR.out o).2 (fun h => absurd h h3)
    have HEND:=Lib.hid (HNEXT.out hnr wo HB.out)
    clear h3
    go_wp2
    go_roundw
    case rel => exact HEND.out
    case measure => simp [intOf];omega
  ·have HALL:Hid (Acyc cm):=Lib.hid (HAC.out (fun o ho => by
    obtain ⟨j,hj,rfl⟩:=List.getElem_of_mem ho
    exact HNO.out j hj (by omega)))
   have d1:decide ((k:Int) < rs.length) = false:=decide_eq_false (by omega)
   go_wp2
   go_ret
   exact ⟨false,rfl,fun _ => HALL.out,HBW.out.trans (HB.out.mono HBW.out.size)⟩
end Go.Proofs.YtbmiiiccnoiffaaGreatDoor
namespace Go.Proofs.YtbmiiiccnoiffaaGreatDoor
open Go.RowKit
structure StH (w0:World) (v:Value) (l:List Ob) (w:World):Prop where
 row:ObRow w v l
 ld:Laid w
 bel:Below w0.heap.size w0 w
theorem StH.step {w0 w w':World} {v:Value} {l:List Ob} (h:StH w0 v l w) (hb:Below w.heap.size w w'):StH w0 v l w' :=
 ⟨h.row.below hb,h.ld.below hb,h.bel.trans (hb.mono h.bel.size)⟩
theorem obGreat_40 {l:List Ob} (h:obGreat l = false):l.length ≤ 40:=by
 unfold obGreat at h
 simp only [Bool.or_eq_false_iff,decide_eq_false_iff_not] at h
 omega
structure HSt (w0:World) (v:Value) (l:List Ob) (r vl vi:Value) (B:Nat) (rows:List (Nat × List Value)) (W:World):Prop where
 st:StH w0 v l W
 sr:SrcP W r (getS l)
 sw:SrcRow W (.agg #[vl,vi]) l
 ar:W.rangeAt B 0 [vl,vi] ∧ B < W.heap.size
 rw:∀ p ∈ rows,W.rangeAt p.1 0 p.2 ∧ p.1 < W.heap.size
theorem HSt.step {w0:World} {v:Value} {l:List Ob} {r vl vi:Value} {B:Nat} {rows:List (Nat × List Value)} {W W':World} (h:HSt w0 v l r vl vi B rows W) (hb:Below W.heap.size W W'):HSt w0 v l r vl vi B rows W' :=
 ⟨h.st.step hb,h.sr.below hb,h.sw.below hb,⟨rangeAt_below h.ar.1 hb h.ar.2,Nat.lt_of_lt_of_le h.ar.2 hb.size⟩,fun p hp => ⟨rangeAt_below (h.rw p hp).1 hb (h.rw p hp).2,Nat.lt_of_lt_of_le (h.rw p hp).2 hb.size⟩⟩
theorem HSt.c0 {w0:World} {v:Value} {l:List Ob} {r vl vi:Value} {B:Nat} {rows:List (Nat × List Value)} {W:World} (h:HSt w0 v l r vl vi B rows W):W.cell? ⟨B,0,none⟩ = some vl:=h.ar.1 0 _ rfl
theorem HSt.c1 {w0:World} {v:Value} {l:List Ob} {r vl vi:Value} {B:Nat} {rows:List (Nat × List Value)} {W:World} (h:HSt w0 v l r vl vi B rows W):W.cell? ⟨B,1,none⟩ = some vi:=h.ar.1 1 _ rfl
theorem HSt.row0 {w0:World} {v:Value} {l:List Ob} {r vl vi:Value} {B:Nat} {p:Nat × List Value} {rows:List (Nat × List Value)} {W:World} (h:HSt w0 v l r vl vi B (p :: rows) W):W.rangeAt p.1 0 p.2:=(h.rw p (by simp)).1
structure HSp (w0:World) (v:Value) (l:List Ob) (r:Value) (rows:List (Nat × List Value)) (W:World):Prop where
 st:StH w0 v l W
 sr:SrcP W r (getS l)
 rw:∀ p ∈ rows,W.rangeAt p.1 0 p.2 ∧ p.1 < W.heap.size
theorem HSp.step {w0:World} {v:Value} {l:List Ob} {r:Value} {rows:List (Nat × List Value)} {W W':World} (h:HSp w0 v l r rows W) (hb:Below W.heap.size W W'):HSp w0 v l r rows W' :=
 ⟨h.st.step hb,h.sr.below hb,fun p hp => ⟨rangeAt_below (h.rw p hp).1 hb (h.rw p hp).2,Nat.lt_of_lt_of_le (h.rw p hp).2 hb.size⟩⟩
theorem HSp.row0 {w0:World} {v:Value} {l:List Ob} {r:Value} {p:Nat × List Value} {rows:List (Nat × List Value)} {W:World} (h:HSp w0 v l r (p :: rows) W):W.rangeAt p.1 0 p.2:=(h.rw p (by simp)).1
section
variable {l:List Ob} {U:List Idl} (HU:CmOk (cmG (getS l)) U) {id:Idl} (hid:id.length = 32)
include HU hid
end
theorem log32 {l:List Ob} {U:List Idl} (HU:CmOk (cmG (getS l)) U) {id:Idl} {S:List Idl} (hl:lineL (cmG (getS l)) id = some S):∀ y ∈ logOf (cmG (getS l)) S,y.length = 32:=fun y hy => (lineL_32 HU hl).1 y ((logOf_telling S).sub y hy)
end Go.Proofs.YtbmiiiccnoiffaaGreatDoor
