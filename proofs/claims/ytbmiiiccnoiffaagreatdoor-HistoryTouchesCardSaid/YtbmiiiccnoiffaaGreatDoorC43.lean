/- YtbmiiiccnoiffaaGreatDoorC43: texts PT, DT of this claim, in one. -/
import Derived.Test.YtbmiiiccnoiffaaGreatDoorC29
import Derived.Test.YtbmiiiccnoiffaaGreatDoorC39
import Derived.Test.YtbmiiiccnoiffaaGreatDoorC42
namespace Go.Proofs.YtbmiiiccnoiffaaGreatDoor
open Go.RowKit
set_option maxRecDepth 100000
theorem wpList_build1 {P:Program} {ops:Array Oper} {Q:Exit → Act → World → Prop} {rest:List Oper} {o:Oper} {a:Act} {w:World} (hg:o.guard = none) (t:TypeId) (i:Nat) (y:Operand) (hop:o.op = .build t #[(i,y)]) (vy v:Value) (hy:a.eval y = vy)
  (hrun:(Instr.build t #[(i,vy)]).run P w = .ok v w) (hK:wpList P ops Q rest (a.put o.dst v) w):wpList P ops Q (o :: rest) a w:=by
 refine wpList_exec hg v ?_ hK
 simp [execOp,hop,hy,hrun,Result.andThen]
theorem findN_err (f:Idl → Option Ob):∀ (l:List ByteArray) (c:Idl × Nat),(findN f l c).2 ≠ 1
 | [],c => by show (0:Nat) ≠ 1;omega
 | n :: l,c => by
  rw [findN_step]
  split
  ·show (6:Nat) ≠ 1;omega
  ·split
   ·show (13:Nat) ≠ 1;omega
   ·split
    ·show (6:Nat) ≠ 1;omega
    ·exact findN_err f l _
theorem findP_err (f:Idl → Option Ob) (root:Idl) (s:ByteArray):((findP f root s).2 = 1) ↔ pathOk s = false:=by
 unfold findP
 cases h:pathOk s with
 | true => simp [findN_err]
 | false => simp
def cmOf (f:Idl → Option Ob) (x:Idl):Cmt:=(cmG f x).getD cmt0
def touchB (f:Idl → Option Ob) (s:ByteArray) (x:Idl):Bool:=match (cmOf f x).pars with
 | [] => decide ((findP f (cmOf f x).tree s).2 = 0)
 | p :: _ => decide (findP f (cmOf f x).tree s ≠ findP f (cmOf f p).tree s)
theorem filter_snoc {α:Type} (p:α → Bool) (l:List α) (k:Nat) (h:k < l.length):(l.take (k + 1)).filter p = (l.take k).filter p ++ if p l[k] = true then [l[k]] else []:=by
 rw [List.take_succ_eq_append_getElem h,List.filter_append]
 congr 1
 cases hp:p l[k] with
 | true => simp [hp]
 | false => simp [hp]
theorem td_field (r:(Idl × Nat) × Nat) (h:r.1.1.length = 32) (W:World):(Instr.field 158 (.agg (tdC r).toArray) 1).run Tryz.prog W = .ok (.int .i64 (r.2:Int)) W:=by
 have e:(tdC r)[33]? = some (.int .i64 (r.2:Int)):=by unfold tdC;rw [List.getElem?_append_right (by rw [chC_len h];omega),chC_len h];rfl
 unfold Instr.field
 simp [run_underlying Tryz.underlying158,asAgg,part,e,Tryz.isAgg35]
theorem run_field_tree (W:World) (t:Idl) (v:Value) (x:ByteArray) (ht:t.length = 32):(Instr.field 97 (.agg (cmC t v x).toArray) 0).run Tryz.prog W = .ok (.agg (idC t).toArray) W:=by
 unfold Instr.field
 have hp:=part_cut (cmC t v x) (idC t) [v,.string x] 24 32 W rfl (by rw [idC_len,ht]) (by kernel_rfl) (by kernel_rfl)
 simp only [Sem.run_bind,run_underlying Tryz.underlying97,Result.andThen_ok]
 simpa [asAgg] using hp
def TchAns (f:Idl → Option Ob) (x:Idl) (s:ByteArray) (w:World) (e:Ending) (w':World):Prop :=
 Below w.heap.size w w' ∧ ((pathOk s = false ∧ e = .returned (.tuple #[.slice none 0 0,.int .i64 1])) ∨ (pathOk s = true ∧ lineL (cmG f) x = none ∧ e = .returned (.tuple #[.slice none 0 0,.int .i64 13])) ∨
  (pathOk s = true ∧ ∃ S v,lineL (cmG f) x = some S ∧ e = .returned (.tuple #[v,.int .i64 0]) ∧ IdRow w' v ((logOf (cmG f) S).filter (touchB f s))))
def TcSt (f:Idl → Option Ob) (s:ByteArray) (lo:List Idl) (W:World) (o i:Value) (wr:World):Prop :=
 ∃ n:Nat,i = .int .i64 (n:Int) ∧ n ≤ lo.length ∧ OwnQ wr W.heap.size 32 o ((lo.take n).filter (touchB f s)).length (idsF ((lo.take n).filter (touchB f s))) ∧ Below W.heap.size W wr
set_option maxHeartbeats 4000000 in
theorem htouched_any (v:Value) (f:Idl → Option Ob) (hf:∀ x o,f x = some o → rightOb o = true) (U:List Idl) (hU:CmOk (cmG f) U) (ha:Acyc (cmG f)) (x:Idl) (s:ByteArray) (w:World) (hs:SrcP w v f) (hx:x.length = 32) (hz:s.size ≤ 1000) (hm:MaxAt w) :
  Calls Tryz.prog 49 #[v,.agg (idC x).toArray,.string s] w (TchAns f x s w):=by
 obtain ⟨hizz,hizb⟩:=id_zeroC
 have hs2:=hs
 obtain ⟨lb,mb,nm,rfl,_,_⟩:=hs2
 have h32x:=h32_of (us:=idC x) (by rw [idC_len,hx])
 obtain ⟨W0,hW0⟩:∃ W0,w.alloc (.cells (idC x).toArray 24) = W0:=⟨_,rfl⟩
 have hb0:Below w.heap.size w W0:=by rw [← hW0];exact (Below.refl _ _).alloc (Nat.le_refl _) _
 have hr0:W0.rangeAt w.heap.size 0 (idC x):=by rw [← hW0];exact range_new _ _ _ rfl
 have hs0:w.heap.size < W0.heap.size:=by rw [← hW0];simp
 have HFD:=Lib.hid (fun X (hX:Below w.heap.size w X) t (ht:t.length = 32) => hfind_any _ f hf t s X (hs.below hX) ht hz (hm.below hX hm.lt))
 have HPL:=Lib.hid (fun t (ht:List.length t = 32) => findP_len hf t ht s)
 have HZ:=Lib.hid (HFD.out W0 hb0 zid zid_len)
 have HOF:=Lib.hid (fun X (hX:Below w.heap.size w X) => hof_any _ f hf U hU x X (hs.below hX) hx)
 have hfe:=findP_err f zid s
 have htf:=td_field (findP f zid s) (HPL.out zid zid_len)
 generalize findP f zid s = rz at hfe htf HZ
 have HB0:=Lib.hid hb0
 have HW0:=Lib.hid hW0
 clear hW0 hb0 hs
 generalize hux:idC x = ux at h32x hr0 HW0 HOF
 generalize huz:idC zid = uz at HZ hizz hizb
 generalize htz:tdC rz = tz at htf HZ
 go_enter Tryz.func49,Tryz.ntmps49
 go_upto_region 1 with fail
 rw [HW0.out]
 go_wp2_with fail
 refine HZ.out.mono ?_
 rintro e W1 ⟨rfl,hb1⟩
 have HB1:=Lib.hid (HB0.out.trans (hb1.mono HB0.out.size))
 have hr1:=rangeAt_below hr0 hb1 hs0
 have hs1:w.heap.size < W1.heap.size:=by have:=hb1.size;omega
 clear hb1 hr0
 cases hp:pathOk s with
 | false =>
  have h1:rz.2 = 1:=hfe.2 hp
  have hne:(((rz.2:Nat):Int) == 1) = true:=by rw [h1];rfl
  have HP:=Lib.hid hp
  clear hp hfe h1
  go_wp2_with (refine wpList_field_run rfl 158 _ 1 rfl _ rfl _ (htf _) ?_)
  go_ret2
  exact ⟨HB1.out,.inl ⟨HP.out,rfl⟩⟩
 | true =>
  have h1:rz.2 ≠ 1:=fun e => by rw [hfe.1 e] at hp;cases hp
  have hne:(((rz.2:Nat):Int) == 1) = false:=by rw [beq_eq_false_iff_ne];omega
  have HP:=Lib.hid hp
  clear hp hfe h1
  go_wp2_with (first
   | (refine wpList_field_run rfl 158 _ 1 rfl _ rfl _ (htf _) ?_)
   | (refine wpList_load_mid rfl 24 _ rfl w.heap.size 0 rfl ux _ hr1 Tryz.underlying24 rfl h32x ?_))
  refine (HOF.out W1 HB1.out).mono ?_
  rintro e W2 ⟨hb2,⟨S,b,nn,hl,rfl,hnn,hbb,hlm⟩ | ⟨hl,rfl⟩⟩
  ·have HB2:=Lib.hid (HB1.out.trans (hb2.mono HB1.out.size))
   have hon:=logOn_of hU ha hl
   have HLG:=Lib.hid (hlog_any S hon b nn W2 hlm)
   have HL:=Lib.hid hl
   have h32s:∀ y ∈ logOf (cmG f) S,y.length = 32:=fun y hy => hon.l32 y ((logOf_telling S).sub y hy)
   have hlen:(logOf (cmG f) S).length ≤ 1000:=by rw [logOf_len ha hon.asc.nodup];exact hon.len
   have hsub:∀ y ∈ logOf (cmG f) S,y ∈ S:=(logOf_telling S).sub
   have hll:(logOf (cmG f) S).length = S.length:=logOf_len ha hon.asc.nodup
   obtain ⟨lo,hlo⟩:∃ lo,logOf (cmG f) S = lo:=⟨_,rfl⟩
   unfold LogAns at HLG
   rw [hlo] at HLG h32s hlen hsub hll
   have HLL:=Lib.hid hll
   have HLO:=Lib.hid hlo
   have HON:=Lib.hid hon
   have HLM:=Lib.hid hlm
   have H32:=Lib.hid h32s
   have HSUB:=Lib.hid hsub
   clear hl hlo hon hlm hb2 h32s hsub hll
   go_wp2_with fail
   refine HLG.out.mono ?_
   rintro e W3 ⟨lv,rfl,hq,hb3⟩
   have HB3:=Lib.hid (HB2.out.trans (hb3.mono HB2.out.size))
   have HLM3:=Lib.hid (HLM.out.on hb3)
   rw [← HLL.out] at hq
   have hrow:=hq.row H32.out
   obtain ⟨ao,cap,rfl,_,hcells⟩:=hrow.open
   have HV:=Lib.hid hcells
   clear hb3 hq hrow hcells HLG HLM
   obtain ⟨zi,i0,hi,hi0,hi1,hi2,hzi,hzil⟩:=id_zero
   have HZI:=Lib.hid hzil
   have HZZ:=Lib.hid hzi
   clear hzi hzil
   go_upto_region 8 with fail
   go_loopw [10,34] (fun o i wr => TcSt f s lo W3 o i wr) (fun _ i _ => (lo.length - intOf i).toNat)
   case atStart => exact ⟨0,rfl,by omega,ownQ_nil _ _ _,Below.refl _ _⟩
   case round =>
    obtain ⟨wo,rfl⟩:∃ wo:World,wo = wr:=⟨_,rfl⟩
    obtain ⟨n,rfl,hn,ho,hb⟩:=hrel
    have HO:=Lib.hid ho
    have HB:=Lib.hid hb
    have hsz:=hb.size
    clear ho hb
    by_cases hlt:n < lo.length
    ·obtain ⟨cb,coff,rfl,hcbl,hcell⟩:=HV.out (by intro e;rw [e] at hlt;simp at hlt)
     obtain ⟨y,hy⟩:∃ y,lo[n] = y:=⟨_,rfl⟩
     have f1:wo.rangeAt cb (coff + n * 32) (idC y):=by rw [← hy];exact rangeAt_below (hcell n hlt) HB.out hcbl
     have hym:y ∈ lo:=by rw [← hy];exact List.getElem_mem hlt
     have hyl:=H32.out y hym
     have hyS:=HSUB.out y hym
     have HFS:=Lib.hid (filter_snoc (touchB f s) lo n hlt)
     rw [hy] at HFS
     have HLMo:=Lib.hid (HLM3.out.on HB.out)
     have HBWo:=Lib.hid (HB3.out.trans (HB.out.mono HB3.out.size))
     obtain ⟨ct,hct1,hct2,_,hct4,hct5⟩:=HLMo.out.look (t:=110) Tryz.underlying110 hyl (fun c hc => HON.out.tree y c hc)
     obtain ⟨cc,pv,hcmy,hcte,hrowp,_⟩:=hct5 hyS
     have hctl:=HON.out.tree y cc hcmy
     obtain ⟨ap,capp,rfl,_,hcellp⟩:=hrowp.open
     have HCMO:Hid (cmOf f y = cc):=Lib.hid (by unfold cmOf;rw [hcmy];rfl)
     have HPAR:Hid (∀ p ∈ cc.pars,p ∈ S):=Lib.hid (fun p hp => HON.out.pars y hyS p (by rw [par_of hcmy];exact hp))
     obtain ⟨zcm,hzcm,_,hzcme⟩:=cm_zero
     have hzcl:zcm.size = 34:=by rw [hzcme];exact cmC_len _ _ _ zid_len
     have hyc:(idC y).length = 32:=by rw [idC_len,hyl]
     have h32y:=h32_of hyc
     -- the id,the commit in boxes
     have huzl:uz.length = 32:=by rw [← huz,idC_len];exact zid_len
     obtain ⟨W4,hW4⟩:∃ W4,(wo.alloc (.cells uz.toArray 24)).setCells wo.heap.size 0 (idC y) = W4:=⟨_,rfl⟩
     have b4:BoxL W4 wo.heap.size 24 (idC y):=by rw [← hW4];exact (BoxL.new wo 24 uz).set (by rw [hyc,huzl])
     have hb4:Below wo.heap.size wo W4:=by rw [← hW4];exact below_setCells _ (Nat.le_refl _) _ _ _ ((Below.refl _ _).alloc (Nat.le_refl _) _)
     obtain ⟨W5,hW5⟩:∃ W5,(W4.alloc (.cells zcm 97)).setCells W4.heap.size 0 ct = W5:=⟨_,rfl⟩
     have c5:BoxL W5 W4.heap.size 97 ct:=by rw [← hW5];exact (BoxL.new W4 97 zcm.toList).set (by rw [hct1];simp [hzcl])
     have hb45:Below W4.heap.size W4 W5:=by rw [← hW5];exact below_setCells _ (Nat.le_refl _) _ _ _ ((Below.refl _ _).alloc (Nat.le_refl _) _)
     have hb5:Below wo.heap.size wo W5:=hb4.trans (hb45.mono hb4.size)
     have HLK4:=Lib.hid (hct4 W4 hb4)
     have HTR:W5.rangeAt W4.heap.size 0 (idC cc.tree):=fun j u hu => c5.range j u (by rw [hcte];unfold cmC;rw [List.getElem?_append_left (List.getElem?_eq_some_iff.1 hu).1];exact hu)
     have HFN:=Lib.hid (HFD.out W5 (HBWo.out.trans (hb5.mono HBWo.out.size)) cc.tree hctl)
     have h32t:=h32_of (us:=idC cc.tree) (by rw [idC_len,hctl])
     have HRN:=Lib.hid (HPL.out cc.tree hctl)
     have H34:Hid (∀ X,BoxL X W4.heap.size 97 ct → X.cell? ⟨W4.heap.size,32,none⟩ = some (.slice ap cc.pars.length capp)):=Lib.hid (fun X hX => by
      have:=hX.range 32 (.slice ap cc.pars.length capp) (by
       rw [hcte];unfold cmC
       rw [List.getElem?_append_right (by rw [idC_len,hctl];exact Nat.le_refl _),idC_len,hctl];rfl)
      rwa [Nat.zero_add] at this)
     have HTH4:=Lib.hid (there_alloc wo uz.toArray 24 (by simpa using huzl))
     have HTH5:=Lib.hid (there_alloc W4 zcm 97 hzcl)
     have HYC:=Lib.hid hyc
     have HYO:=Lib.hid (idC_one y)
     have HCT1:=Lib.hid hct1
     have HCT2:=Lib.hid hct2
     have HW4:=Lib.hid hW4
     have HW5:=Lib.hid hW5
     have hr4:=b4.range
     have HB4:=Lib.hid b4
     have HC5:=Lib.hid c5
     have HB45:=Lib.hid hb45
     have HB5:=Lib.hid hb5
     have HCP:=Lib.hid hcellp
     have h34c:(Tryz.prog.info? 97).map (·.size) = some 34:=by kernel_rfl
     have d1:decide ((n:Int) < lo.length) = true:=decide_eq_true (by omega)
     have k0:(0:Int) ≤ n:=by omega
     have k1:(n:Int) < lo.length:=by omega
     clear hcell hy hct1 hct2 hct4 hct5 hcte hrowp hcellp hW4 hW5 b4 c5 hb4 hb45 hb5 hzcme hyc huzl hcmy
     generalize hiy:idC y = uy at f1 h32y HLK4 HYC HYO HW4 hr4 HB4
     generalize idC cc.tree = ut at HTR HFN h32t
     go_wp2_with (first
      | (refine wpList_load_mid rfl 24 _ rfl cb (coff + n * 32) rfl uy _ f1 Tryz.underlying24 rfl h32y ?_)
      | (refine wpList_store_list rfl 24 _ _ rfl wo.heap.size 0 uy rfl rfl 32 HYC.out HTH4.out (by kernel_rfl) HYO.out ?_;rw [HW4.out])
      | (refine wpList_load_mid rfl 24 _ rfl wo.heap.size 0 rfl uy _ hr4 Tryz.underlying24 rfl h32y ?_)
      | (refine wpList_lookup_run rfl 110 _ _ false rfl _ _ rfl rfl _ HLK4.out ?_)
      | (refine wpList_store_list rfl 97 _ _ rfl W4.heap.size 0 ct rfl rfl 34 HCT1.out HTH5.out h34c HCT2.out ?_;rw [HW5.out])
      | (refine wpList_load_mid rfl 24 _ rfl W4.heap.size 0 rfl ut _ HTR Tryz.underlying24 rfl h32t ?_))
     refine HFN.out.mono ?_
     rintro e W6 ⟨rfl,hb6⟩
     have htz0:=td_zero
     have ztl:=tdC_len (r:=((zid,0),0)) zid_len
     have htel:=tdC_len (r:=((zid,0),6)) zid_len
     have hter:=td_err 6
     have h34:(Tryz.prog.info? 158).map (·.size) = some 34:=by kernel_rfl
     obtain ⟨r1,hr1e⟩:∃ r1,findP f cc.tree s = r1:=⟨_,rfl⟩
     rw [hr1e] at HRN ⊢
     have t1l:=tdC_len HRN.out
     have HT1O:=Lib.hid (tdC_one r1)
     have HTEO:=Lib.hid (tdC_one ((zid,0),6))
     have HR1:=Lib.hid hr1e
     obtain ⟨t1,ht1⟩:∃ t1,tdC r1 = t1:=⟨_,rfl⟩
     obtain ⟨te,hte⟩:∃ te,tdC ((zid,0),6) = te:=⟨_,rfl⟩
     obtain ⟨zt,hzt⟩:∃ zt,tdC ((zid,0),0) = zt:=⟨_,rfl⟩
     rw [hzt] at htz0 ztl
     rw [ht1] at t1l HT1O ⊢
     rw [hte] at htel hter HTEO
     have HT1:=Lib.hid ht1
     have HTE:=Lib.hid hte
     have hb46:Below wo.heap.size wo W6:=HB5.out.trans (hb6.mono HB5.out.size)
     have c6:=HC5.out.below hb6
     have b6:=(HB4.out.below HB45.out).below hb6
     obtain ⟨W7,hW7⟩:∃ W7,(W6.alloc (.cells zt.toArray 158)).alloc (.cells zt.toArray 158) = W7:=⟨_,rfl⟩
     have hb7:Below W6.heap.size W6 W7:=by rw [← hW7];exact ((Below.refl _ _).alloc (Nat.le_refl _) _).alloc (by simp) _
     have n7:BoxL W7 W6.heap.size 158 zt:=by rw [← hW7];exact (BoxL.new W6 158 zt).below ((Below.refl _ _).alloc (Nat.le_refl _) _)
     have m7:BoxL W7 (W6.heap.size + 1) 158 zt:=by
      rw [← hW7]
      have:=BoxL.new (W6.alloc (.cells zt.toArray 158)) 158 zt
      rwa [World.size_alloc] at this
     obtain ⟨W8,hW8⟩:∃ W8,W7.setCells W6.heap.size 0 t1 = W8:=⟨_,rfl⟩
     have n8:BoxL W8 W6.heap.size 158 t1:=by rw [← hW8];exact n7.set (by rw [t1l,ztl])
     have m8:BoxL W8 (W6.heap.size + 1) 158 zt:=by rw [← hW8];exact m7.other (by omega)
     have g8:W7.grownBy W8 (some W6.heap.size):=by rw [← hW8];exact grownBy_setCells _ _ _ _
     obtain ⟨W9,hW9⟩:∃ W9,W8.setCells (W6.heap.size + 1) 0 te = W9:=⟨_,rfl⟩
     have n9:BoxL W9 W6.heap.size 158 t1:=by rw [← hW9];exact n8.other (by omega)
     have m9:BoxL W9 (W6.heap.size + 1) 158 te:=by rw [← hW9];exact m8.set (by rw [htel,ztl])
     have g9:W8.grownBy W9 (some (W6.heap.size + 1)):=by rw [← hW9];exact grownBy_setCells _ _ _ _
     have hb69:Below W6.heap.size W6 W9:=(hb7.grown g8 hb7.size (fun k e => by have:=Option.some.inj e;omega)).grown g9 (Nat.le_trans hb7.size g8.size) (fun k e => by have:=Option.some.inj e;omega)
     have HB49:Hid (Below wo.heap.size wo W9):=Lib.hid (hb46.trans (hb69.mono hb46.size))
     have c9:=c6.below hb69
     have b9:=b6.below hb69
     have HTN:=Lib.hid n7.there
     have HTM:=Lib.hid m8.there
     have HW7:=Lib.hid hW7
     have HW8:=Lib.hid hW8
     have HW9:=Lib.hid hW9
     have HN9:=Lib.hid n9
     have HM9:=Lib.hid m9
     have HC9:=Lib.hid c9
     have HB9:=Lib.hid b9
     have c32:=H34.out W9 c9
     have HSW6:Hid (W4.heap.size < W6.heap.size):=Lib.hid c6.lt
     have HSX6:Hid (wo.heap.size < W6.heap.size):=Lib.hid b6.lt
     rw [ztl] at HTN HTM
     clear hb6 ht1 hte hzt hr1e hb46 c6 b6 hW7 hb7 n7 m7 hW8 n8 m8 g8 hW9 n9 m9 g9 hb69 c9 b9 HFN HTR f1 hr4 HB4 HC5
     go_upto_region 12 with (first
      | (refine wpList_build1 rfl 158 1 (.const (.int .i64 6)) rfl (.int .i64 6) _ rfl (hter _) ?_)
      | (rw [HW7.out];refine wpList_store_list rfl 158 _ _ rfl W6.heap.size 0 t1 rfl rfl 34 t1l HTN.out h34 HT1O.out ?_;rw [HW8.out])
      | (refine wpList_store_list rfl 158 _ _ rfl (W6.heap.size + 1) 0 te rfl rfl 34 htel HTM.out h34 HTEO.out ?_;rw [HW9.out]))
     simp only [Act.put]
     obtain ⟨np,hnp⟩:∃ np,cc.pars.length = np:=⟨_,rfl⟩
     have hnp2:=hnp
     rw [hnp] at c32
     have HNP:=Lib.hid hnp
     have tel:=htel
     clear hnp
     cases hpp:cc.pars with
     | nil =>
      rw [hpp] at hnp2
      obtain rfl:np = 0:=hnp2.symm
      have HTB0:Hid (touchB f s y = decide (r1.2 = 0)):=Lib.hid (by unfold touchB;rw [HCMO.out,hpp];show decide ((findP f cc.tree s).2 = 0) = _;rw [HR1.out])
      have e33:W9.cell? ⟨W6.heap.size,33,none⟩ = some (.int .i64 (r1.2:Int)):=by
       have:=HN9.out.range 33 (.int .i64 (r1.2:Int)) (by rw [← HT1.out];unfold tdC;rw [List.getElem?_append_right (by rw [chC_len HRN.out];omega),chC_len HRN.out];rfl)
       simpa using this
      clear hpp hnp2
      by_cases h0:r1.2 = 0
      ·have d2:((r1.2:Int) != 0) = false:=by rw [bne_eq_false_iff_eq];omega
       have HEQ:Hid (∀ w,(Op.equalIn 10000 158 (.agg t1.toArray) (.agg te.toArray)).run Tryz.prog w = .ok (decide (r1 = ((zid,0),6))) w):=Lib.hid (fun w => by rw [← HT1.out,← HTE.out];exact td_eqIn r1 _ HRN.out zid_len w)
       have HH0:=Lib.hid h0
       clear h0
       have hn9:=HN9.out.range
       have hm9:=HM9.out.range
       have hx9:=HB9.out.range
       have h34a:(Tryz.prog.info? 158).map (·.size) = some t1.length:=by rw [t1l];exact h34
       have h34b:(Tryz.prog.info? 158).map (·.size) = some te.length:=by rw [tel];exact h34
       by_cases hbe:r1 = ((zid,0),6)
       ·have heq:=fun w => HEQ.out w
        rw [decide_eq_true hbe] at heq
        have HTB:Hid (touchB f s y = false):=(by exfalso;rw [hbe] at HH0;exact absurd HH0.out (by decide))
        have HEND:Hid (TcSt f s lo W3 u10 (.int .i64 ((n:Int) + 1)) W9):=Lib.hid ⟨n + 1,by rw [Int.natCast_add];rfl,by omega,by rw [HFS.out,HTB.out,if_neg (by simp),List.append_nil];exact HO.out.below HB49.out,HB.out.trans (HB49.out.mono hsz)⟩
        clear hbe
        go_wp2_with (first
         | (refine wpList_load_mid rfl 158 _ rfl W6.heap.size 0 rfl t1 _ hn9 Tryz.underlying158 rfl h34a ?_)
         | (refine wpList_load_mid rfl 158 _ rfl (W6.heap.size + 1) 0 rfl te _ hm9 Tryz.underlying158 rfl h34b ?_))
        go_roundw
        case rel => exact HEND.out
        case measure => simp [intOf];omega
       ·have heq:=fun w => HEQ.out w
        rw [decide_eq_false hbe] at heq
        have HTB:Hid (touchB f s y = true):=Lib.hid (by rw [HTB0.out,decide_eq_true HH0.out])
        have HTS:Hid (idsF ((lo.take n).filter (touchB f s) ++ [y]) = idsF ((lo.take n).filter (touchB f s)) ++ uy):=Lib.hid (by rw [idsF_snoc,hiy])
        have hb3:Below W9.heap.size W9 (W9.alloc (.cells uy.toArray 24)):=(Below.refl _ _).alloc (Nat.le_refl _) _
        have HO3:=Lib.hid ((HO.out.below HB49.out).below hb3)
        have HNEW:Hid (∀ j u,uy[j]? = some u → (W9.alloc (.cells uy.toArray 24)).cell? ((⟨W9.heap.size,0,none⟩:Addr).add j) = some u):=Lib.hid (fun j u hj => cells_newL _ uy _ j u hj)
        have HBZ:=Lib.hid (HB.out.trans ((HB49.out.trans (hb3.mono HB49.out.size)).mono hsz))
        have hs3:W3.heap.size ≤ (W9.alloc (.cells uy.toArray 24)).heap.size:=by rw [World.size_alloc];have:=HB49.out.size;omega
        have HSZ:Hid (∀ w,(sizeOf 24).run Tryz.prog w = .ok uy.length w):=Lib.hid (fun w => by rw [HYC.out];kernel_rfl)
        have hfl:((lo.take n).filter (touchB f s)).length ≤ 1000:=Nat.le_trans (List.length_filter_le _ _) (Nat.le_trans (by rw [List.length_take];omega) hlen)
        clear hbe hb3
        go_wp2_with (first
         | (refine wpList_load_mid rfl 158 _ rfl W6.heap.size 0 rfl t1 _ hn9 Tryz.underlying158 rfl h34a ?_)
         | (refine wpList_load_mid rfl 158 _ rfl (W6.heap.size + 1) 0 rfl te _ hm9 Tryz.underlying158 rfl h34b ?_)
         | (refine wpList_load_mid rfl 24 _ rfl wo.heap.size 0 rfl uy _ hx9 Tryz.underlying24 rfl h32y ?_)
         | (refine wpList_buildSlice_one rfl (.tmp 68) 28 24 rfl uy zi rfl Tryz.underlying28 HSZ.out HZZ.out (by rw [HYC.out];omega) (by rw [HYC.out];omega) ?_)
         | (refine wpList_append_q rfl (.tmp 67) (.tmp 69) 28 rfl W3.heap.size 24 i0 (.agg zi) 32 32 Tryz.underlying28 hi hi0 hi1 hi2 HZI.out (by decide) _ ((lo.take n).filter (touchB f s)).length (idsF ((lo.take n).filter (touchB f s))) rfl HO3.out (some ⟨W9.heap.size,0,none⟩) 1 1 uy rfl (by rw [HYC.out]) (fun _ => ⟨_,rfl,HNEW.out⟩) HYO.out (by unfold maxLen;omega) (by omega) hs3 ?_))
        intro o9 w9 hq9 hg9 _
        have HEND:Hid (TcSt f s lo W3 o9 (.int .i64 ((n:Int) + 1)) w9):=Lib.hid ⟨n + 1,by rw [Int.natCast_add];rfl,by omega,by rw [HFS.out,HTB.out,if_pos rfl,HTS.out,List.length_append,List.length_singleton];exact hq9,HBZ.out.grown hg9 HBZ.out.size (fun j hj => (HO3.out.lt j hj).1)⟩
        clear hq9 hg9
        go_wp2
        go_roundw
        case rel => exact HEND.out
        case measure => simp [intOf];omega
      ·have d2:((r1.2:Int) != 0) = true:=by rw [bne_iff_ne];omega
       have HTB:Hid (touchB f s y = false):=Lib.hid (by rw [HTB0.out,decide_eq_false h0])
       have HEND:Hid (TcSt f s lo W3 u10 (.int .i64 ((n:Int) + 1)) W9):=Lib.hid ⟨n + 1,by rw [Int.natCast_add];rfl,by omega,by rw [HFS.out,HTB.out,if_neg (by simp),List.append_nil];exact HO.out.below HB49.out,HB.out.trans (HB49.out.mono hsz)⟩
       clear h0
       go_wp2
       go_roundw
       case rel => exact HEND.out
       case measure => simp [intOf];omega
     | cons p ps =>
      rw [hpp] at hnp2
      have hd1:0 < np:=by rw [← hnp2];simp
      have hpS:p ∈ S:=HPAR.out p (by rw [hpp];simp)
      have hpl:=HON.out.l32 p hpS
      obtain ⟨pb,poff,rfl,hpbl,hpc⟩:=HCP.out (by rw [hpp];simp)
      have g1:wo.rangeAt pb poff (idC p):=by
       have:=hpc 0 (by rw [hpp];simp)
       rw [Nat.zero_mul,Nat.add_zero] at this
       have e:cc.pars[0]'(by rw [hpp];simp) = p:=by simp [hpp]
       rwa [e] at this
      have g2:=rangeAt_below g1 HB49.out hpbl
      obtain ⟨ct2,hq1,hq2,_,hq4,hq5⟩:=(HLMo.out.on HB49.out).look (t:=110) Tryz.underlying110 hpl (fun c hc => HON.out.tree p c hc)
      obtain ⟨dd,pv2,hcmp,hcte2,_,_⟩:=hq5 hpS
      have hdl:=HON.out.tree p dd hcmp
      have HLK2:=Lib.hid (hq4 W9 (Below.refl _ _))
      have HFT:=Lib.hid (fun X => run_field_tree X dd.tree pv2 dd.text hdl)
      rw [← hcte2] at HFT
      have HF2:=Lib.hid (HFD.out W9 (HBWo.out.trans (HB49.out.mono HBWo.out.size)) dd.tree hdl)
      have HRN2:=Lib.hid (HPL.out dd.tree hdl)
      have h32p:=h32_of (us:=idC p) (by rw [idC_len,hpl])
      have HCMP:Hid (cmOf f p = dd):=Lib.hid (by unfold cmOf;rw [hcmp];rfl)
      have HTB1:Hid (touchB f s y = decide (r1 ≠ findP f dd.tree s)):=Lib.hid (by unfold touchB;rw [HCMO.out,hpp];show decide (findP f cc.tree s ≠ findP f (cmOf f p).tree s) = _;rw [HR1.out,HCMP.out])
      obtain ⟨r2,hr2e⟩:∃ r2,findP f dd.tree s = r2:=⟨_,rfl⟩
      rw [hr2e] at HF2 HRN2 HTB1
      have t2l:=tdC_len HRN2.out
      have HT2O:=Lib.hid (tdC_one r2)
      have HEQ:Hid (∀ w,(Op.equalIn 10000 158 (.agg (tdC r1).toArray) (.agg (tdC r2).toArray)).run Tryz.prog w = .ok (decide (r1 = r2)) w):=Lib.hid (fun w => td_eqIn r1 r2 HRN.out HRN2.out w)
      rw [HT1.out] at HEQ
      obtain ⟨t2,ht2⟩:∃ t2,tdC r2 = t2:=⟨_,rfl⟩
      rw [ht2] at HF2 t2l HT2O HEQ
      clear hq1 hq2 hq4 hq5 hpc g1 hcte2 hcmp hr2e ht2 hnp2 hpp
      generalize idC p = up at g2 h32p HLK2
      generalize idC dd.tree = ud at HFT HF2
      have hft:=HFT.out
      go_wp2_with (first
       | (refine wpList_load_mid rfl 24 _ rfl pb poff rfl up _ g2 Tryz.underlying24 rfl h32p ?_)
       | (refine wpList_lookup_run rfl 110 _ _ false rfl _ _ rfl rfl _ HLK2.out ?_)
       | (refine wpList_field_run rfl 97 _ 0 rfl _ rfl _ (hft _) ?_))
      refine HF2.out.mono ?_
      rintro e Z1 ⟨rfl,hbz⟩
      have n1:=HN9.out.below hbz
      have m1:=HM9.out.below hbz
      have x1:=HB9.out.below hbz
      have HTZ:=Lib.hid m1.there
      rw [tel] at HTZ
      obtain ⟨Z2,hZ2⟩:∃ Z2,Z1.setCells (W6.heap.size + 1) 0 t2 = Z2:=⟨_,rfl⟩
      have HN2:Hid (BoxL Z2 W6.heap.size 158 t1):=Lib.hid (by rw [← hZ2];exact n1.other (by omega))
      have HM2:Hid (BoxL Z2 (W6.heap.size + 1) 158 t2):=Lib.hid (by rw [← hZ2];exact m1.set (by rw [t2l,tel]))
      have HX2:Hid (BoxL Z2 wo.heap.size 24 uy):=Lib.hid (by rw [← hZ2];exact x1.other (by have:=HSX6.out;omega))
      have HBZ2:Hid (Below wo.heap.size wo Z2):=Lib.hid (by
       rw [← hZ2]
       exact below_setCells _ (by have:=HSX6.out;omega) _ _ _ (HB49.out.trans (hbz.mono HB49.out.size)))
      have HZ2:=Lib.hid hZ2
      clear n1 m1 x1 hZ2 hbz g2 hft
      go_upto_region 15 with (refine wpList_store_list rfl 158 _ _ rfl (W6.heap.size + 1) 0 t2 rfl rfl 34 t2l HTZ.out h34 HT2O.out ?_;rw [HZ2.out])
      try simp only [Act.put]
      have hn9:=HN2.out.range
      have hm9:=HM2.out.range
      have hx9:=HX2.out.range
      have h34a:(Tryz.prog.info? 158).map (·.size) = some t1.length:=by rw [t1l];exact h34
      have h34b:(Tryz.prog.info? 158).map (·.size) = some t2.length:=by rw [t2l];exact h34
      by_cases hbe:r1 = r2
      ·have heq:=fun w => HEQ.out w
       rw [decide_eq_true hbe] at heq
       have HTB:Hid (touchB f s y = false):=Lib.hid (by rw [HTB1.out,decide_eq_false (by rw [hbe];simp)])
       have HEND:Hid (TcSt f s lo W3 u10 (.int .i64 ((n:Int) + 1)) Z2):=Lib.hid ⟨n + 1,by rw [Int.natCast_add];rfl,by omega,by rw [HFS.out,HTB.out,if_neg (by simp),List.append_nil];exact HO.out.below HBZ2.out,HB.out.trans (HBZ2.out.mono hsz)⟩
       clear hbe
       go_wp2_with (first
        | (refine wpList_load_mid rfl 158 _ rfl W6.heap.size 0 rfl t1 _ hn9 Tryz.underlying158 rfl h34a ?_)
        | (refine wpList_load_mid rfl 158 _ rfl (W6.heap.size + 1) 0 rfl t2 _ hm9 Tryz.underlying158 rfl h34b ?_))
       go_roundw
       case rel => exact HEND.out
       case measure => simp [intOf];omega
      ·have heq:=fun w => HEQ.out w
       rw [decide_eq_false hbe] at heq
       have HTB:Hid (touchB f s y = true):=Lib.hid (by rw [HTB1.out,decide_eq_true hbe])
       have HTS:Hid (idsF ((lo.take n).filter (touchB f s) ++ [y]) = idsF ((lo.take n).filter (touchB f s)) ++ uy):=Lib.hid (by rw [idsF_snoc,hiy])
       have hb3:Below Z2.heap.size Z2 (Z2.alloc (.cells uy.toArray 24)):=(Below.refl _ _).alloc (Nat.le_refl _) _
       have HO3:=Lib.hid ((HO.out.below HBZ2.out).below hb3)
       have HNEW:Hid (∀ j u,uy[j]? = some u → (Z2.alloc (.cells uy.toArray 24)).cell? ((⟨Z2.heap.size,0,none⟩:Addr).add j) = some u):=Lib.hid (fun j u hj => cells_newL _ uy _ j u hj)
       have HBZ:=Lib.hid (HB.out.trans ((HBZ2.out.trans (hb3.mono HBZ2.out.size)).mono hsz))
       have hs3:W3.heap.size ≤ (Z2.alloc (.cells uy.toArray 24)).heap.size:=by rw [World.size_alloc];have:=HBZ2.out.size;omega
       have HSZ:Hid (∀ w,(sizeOf 24).run Tryz.prog w = .ok uy.length w):=Lib.hid (fun w => by rw [HYC.out];kernel_rfl)
       have hfl:((lo.take n).filter (touchB f s)).length ≤ 1000:=Nat.le_trans (List.length_filter_le _ _) (Nat.le_trans (by rw [List.length_take];omega) hlen)
       clear hbe hb3
       go_wp2_with (first
        | (refine wpList_load_mid rfl 158 _ rfl W6.heap.size 0 rfl t1 _ hn9 Tryz.underlying158 rfl h34a ?_)
        | (refine wpList_load_mid rfl 158 _ rfl (W6.heap.size + 1) 0 rfl t2 _ hm9 Tryz.underlying158 rfl h34b ?_)
        | (refine wpList_load_mid rfl 24 _ rfl wo.heap.size 0 rfl uy _ hx9 Tryz.underlying24 rfl h32y ?_)
        | (refine wpList_buildSlice_one rfl (.tmp 68) 28 24 rfl uy zi rfl Tryz.underlying28 HSZ.out HZZ.out (by rw [HYC.out];omega) (by rw [HYC.out];omega) ?_)
        | (refine wpList_append_q rfl (.tmp 67) (.tmp 69) 28 rfl W3.heap.size 24 i0 (.agg zi) 32 32 Tryz.underlying28 hi hi0 hi1 hi2 HZI.out (by decide) _ ((lo.take n).filter (touchB f s)).length (idsF ((lo.take n).filter (touchB f s))) rfl HO3.out (some ⟨Z2.heap.size,0,none⟩) 1 1 uy rfl (by rw [HYC.out]) (fun _ => ⟨_,rfl,HNEW.out⟩) HYO.out (by unfold maxLen;omega) (by omega) hs3 ?_))
       intro o9 w9 hq9 hg9 _
       have HEND:Hid (TcSt f s lo W3 o9 (.int .i64 ((n:Int) + 1)) w9):=Lib.hid ⟨n + 1,by rw [Int.natCast_add];rfl,by omega,by rw [HFS.out,HTB.out,if_pos rfl,HTS.out,List.length_append,List.length_singleton];exact hq9,HBZ.out.grown hg9 HBZ.out.size (fun j hj => (HO3.out.lt j hj).1)⟩
       clear hq9 hg9
       go_wp2
       go_roundw
       case rel => exact HEND.out
       case measure => simp [intOf];omega
    ·obtain rfl:n = lo.length:=by omega
     have d1:decide ((lo.length:Int) < lo.length) = false:=decide_eq_false (by omega)
     have htk:lo.take lo.length = lo:=List.take_length
     rw [htk] at HO
     have HR:=Lib.hid (HO.out.row (fun y hy => H32.out y (List.mem_filter.1 hy).1))
     have HEND:=Lib.hid (HB3.out.trans (HB.out.mono HB3.out.size))
     clear htk
     go_wp2
     go_ret2
     exact ⟨HEND.out,.inr (.inr ⟨HP.out,S,u10,HL.out,rfl,by rw [HLO.out];exact HR.out⟩)⟩
  ·have HB2:=Lib.hid (HB1.out.trans (hb2.mono HB1.out.size))
   have HL:=Lib.hid hl
   clear hl hb2
   go_wp2
   go_ret2
   exact ⟨HB2.out,.inr (.inl ⟨HP.out,HL.out,rfl⟩)⟩
end Go.Proofs.YtbmiiiccnoiffaaGreatDoor
namespace Go.Proofs.YtbmiiiccnoiffaaGreatDoor
open Go.RowKit
set_option maxRecDepth 100000
theorem ch_eqIn0 (a b:Idl × Nat) (ha:a.1.length = 32) (hb:b.1.length = 32) (w:World):(Op.equalIn 10000 75 (.agg (chC a).toArray) (.agg (chC b).toArray)).run Tryz.prog w = .ok (decide (a = b)) w:=by
 have hid:(Op.equalIn 9999 24 (.agg (idC a.1).toArray) (.agg (idC b.1).toArray)).run Tryz.prog w = .ok (a.1 == b.1) w:=run_equalIn_bytes (P:=Tryz.prog) w 9997 24 5 32 Tryz.underlying24 Tryz.underlying5 sizeB a.1 b.1 ha hb
 have hin:(Op.equalIn 9999 3 (.int .i64 (a.2:Int)) (.int .i64 (b.2:Int))).run Tryz.prog w = .ok ((a.2:Int) == b.2) w:=run_equalIn_int w 9998 3 .i64 .i64 _ _ Tryz.underlying3
 have p1:∀ c:Idl × Nat,c.1.length = 32 → (part 24 (chC c).toArray 0).run Tryz.prog w = .ok (.agg (idC c.1).toArray) w:=fun c hc => part_cut _ (idC c.1) [.int .i64 (c.2:Int)] _ 32 w rfl (by rw [idC_len,hc]) (by kernel_rfl) (by kernel_rfl)
 have p2:∀ c:Idl × Nat,c.1.length = 32 → (part 3 (chC c).toArray 32).run Tryz.prog w = .ok (.int .i64 (c.2:Int)) w:=fun c hc => part_one _ (idC c.1) _ _ 32 w rfl (by rw [idC_len,hc]) (by kernel_rfl)
 rw [run_equalIn_struct w 9999 75 _ _ (by kernel_rfl) (by kernel_rfl)]
 simp only [Program.fieldsOf,Tryz.underlying75]
 simp only [Op.eqFields,Sem.run_bind,Sem.run_ite]
 rw [if_pos (by decide),p1 a ha,Result.andThen_ok,p1 b hb,Result.andThen_ok,hid,Result.andThen_ok]
 by_cases h1:a.1 = b.1
 ·rw [if_neg (by simp [h1]),if_pos (by decide),p2 a ha,Result.andThen_ok,p2 b hb,Result.andThen_ok,hin,Result.andThen_ok]
  by_cases h2:a.2 = b.2
  ·rw [if_neg (by simp [h2]),decide_eq_true (Prod.ext h1 h2)];rfl
  ·rw [if_pos (by simp;omega),decide_eq_false (fun e => h2 (by rw [e]))];rfl
 ·rw [if_pos (by simp [h1]),decide_eq_false (fun e => h1 (by rw [e]))];rfl
def DtSt (f:Idl → Option Ob) (s:ByteArray) (lo:List Idl) (W:World) (o i:Value) (wr:World):Prop :=
 ∃ n:Nat,i = .int .i64 (n:Int) ∧ n ≤ lo.length ∧ OwnQ wr W.heap.size 32 o ((lo.take n).filter (touchB f s)).length (idsF ((lo.take n).filter (touchB f s))) ∧ Below W.heap.size W wr
def DtAns (f:Idl → Option Ob) (s:ByteArray) (lo:List Idl) (w:World) (e:Ending) (w':World):Prop:=∃ v,e = .returned v ∧ IdRow w' v (lo.filter (touchB f s)) ∧ Below w.heap.size w w'
set_option maxHeartbeats 8000000 in
theorem rtouched_any (vl vi:Value) (l:List Ob) (U:List Idl) (hU:CmOk (cmG (getS l)) U) (v1:Value) (L:List Idl) (s:ByteArray) (w:World) (hs:SrcRow w (.agg #[vl,vi]) l) (h1:IdRow w v1 L) (hL:∀ y ∈ L,y.length = 32) (hlen:L.length ≤ 1000) (hz:s.size ≤ 1000000) :
  Calls Tryz.prog 51 #[.agg #[vl,vi],v1,.string s] w (DtAns (getS l) s L w):=by
 obtain ⟨zc,hzc,_,hzce⟩:=cm_zero
 have HZC:=Lib.hid (show zc.size = 34 by rw [hzce];exact cmC_len _ _ _ zid_len)
 obtain ⟨zi,i0,hi,hi0,hi1,hi2,hzi,hzil⟩:=id_zero
 have HZI:=Lib.hid hzil
 obtain ⟨hcz,hcb⟩:=ch_zero
 have hcl:=chC_len (c:=(zid,0)) zid_len
 obtain ⟨zh,hzh⟩:∃ zh,chC (zid,0) = zh:=⟨_,rfl⟩
 rw [hzh] at hcz hcl
 obtain ⟨W,hW⟩:∃ W,w.alloc (.cells #[vl,vi] 30) = W:=⟨_,rfl⟩
 have hbW:Below w.heap.size w W:=by rw [← hW];exact (Below.refl _ _).alloc (Nat.le_refl _) _
 have hA:=Arr.ofList w [vl,vi] 30
 have c0:W.cell? ⟨w.heap.size,0,none⟩ = some vl:=by rw [← hW];exact hA.cell 0 (by simp)
 have c1:W.cell? ⟨w.heap.size,1,none⟩ = some vi:=by rw [← hW];exact hA.cell 1 (by simp)
 have hsW:W.heap.size = w.heap.size + 1:=by rw [← hW];simp
 have HCM:=Lib.hid (fun y (hy:y.length = 32) W' (h:Below W.heap.size W W') => rcmt_fr vl vi l y W' ((hs.below hbW).below h) hy)
 have HFD:=Lib.hid (fun t (ht:List.length t = 32) W' (h:Below W.heap.size W W') => rfind_any (.agg #[vl,vi]) l t s W' ((hs.below hbW).below h) ht hz)
 have HPL:=Lib.hid (fun t (ht:List.length t = 32) => findP_len (getS_right l) t ht s)
 obtain ⟨ao,cap,rfl,hmax,hcells⟩:=h1.open
 unfold maxLen at hmax
 have HV:Hid (L ≠ [] → ∃ b off,ao = some ⟨b,off,none⟩ ∧ b < W.heap.size ∧ ∀ k (hk:k < L.length),W.rangeAt b (off + k * 32) (idC L[k])):=Lib.hid (fun hne => by
  obtain ⟨b,off,e,hb,hc⟩:=hcells hne
  exact ⟨b,off,e,Nat.lt_of_lt_of_le hb hbW.size,fun k hk => rangeAt_below (hc k hk) hbW hb⟩)
 have HBW:=Lib.hid hbW
 have HC01:=Lib.hid (And.intro c0 c1)
 have HSW:=Lib.hid hsW
 have HW:=Lib.hid hW
 have HL:=Lib.hid hL
 have HTL:Hid (∀ c,∀ y,cmG (getS l) y = some c → c.tree.length = 32 ∧ ∀ q ∈ c.pars,q.length = 32):=Lib.hid (fun c y h => ⟨hU.tree y c h,hU.pars y c h⟩)
 have HZH:=Lib.hid hzh
 clear hs hU hbW hsW hW hA c0 c1 h1 hL hcells hzce hzil hzh
 have h34:(Tryz.prog.info? 97).map (·.size) = some 34:=by kernel_rfl
 have h33:(Tryz.prog.info? 75).map (·.size) = some 33:=by kernel_rfl
 go_enter Tryz.func51,Tryz.ntmps51
 go_upto_region 1 with fail
 rw [HW.out]
 go_upto_region 3 with fail
 go_loopw [7,8] (fun o i wr => DtSt (getS l) s L W o i wr) (fun _ i _ => (L.length - intOf i).toNat)
 case atStart => exact ⟨0,rfl,by omega,ownQ_nil _ _ _,Below.refl _ _⟩
 case round =>
  obtain ⟨wo,rfl⟩:∃ wo:World,wo = wr:=⟨_,rfl⟩
  obtain ⟨k,rfl,hk,ho,hb⟩:=hrel
  have HO:=Lib.hid ho
  have HB:=Lib.hid hb
  have hsz:=hb.size
  clear ho hb
  by_cases hlt:k < L.length
  ·obtain ⟨b,off,rfl,hbl,hcell⟩:=HV.out (by intro e;rw [e] at hlt;simp at hlt)
   have f1:=rangeAt_below (hcell k hlt) HB.out hbl
   obtain ⟨y,hy⟩:∃ y,L[k] = y:=⟨_,rfl⟩
   rw [hy] at f1
   have hyl:y.length = 32:=by rw [← hy];exact HL.out _ (List.getElem_mem hlt)
   have HFS:=Lib.hid (filter_snoc (touchB (getS l) s) L k hlt)
   rw [hy] at HFS
   have hyc:(idC y).length = 32:=by rw [idC_len,hyl]
   have h32y:=h32_of hyc
   have hso:=HB.out.size
   have hsw:=HSW.out
   have hSX:∀ X,Below wo.heap.size wo X → X.cell? ⟨w.heap.size,0,none⟩ = some vl ∧ X.cell? ⟨w.heap.size,1,none⟩ = some vi ∧ X.rangeAt b (off + k * 32) (idC y):=fun X hX => by
    have hWX:=HB.out.trans (hX.mono hso)
    exact ⟨below_load HC01.out.1 hWX (by omega),below_load HC01.out.2 hWX (by omega),rangeAt_below f1 hX (by omega)⟩
   have HSX:=Lib.hid hSX
   have HCY:=Lib.hid (fun X (h:Below wo.heap.size wo X) => HCM.out y hyl X (HB.out.trans (h.mono hso)))
   have HFX:=Lib.hid (fun t (ht:List.length t = 32) X (h:Below wo.heap.size wo X) => HFD.out t ht X (HB.out.trans (h.mono hso)))
   have HCX:=Lib.hid (fun z (hz:List.length z = 32) X (h:Below wo.heap.size wo X) => HCM.out z hz X (HB.out.trans (h.mono hso)))
   have HYC:=Lib.hid hyc
   have HYO:=Lib.hid (idC_one y)
   have k0:(0:Int) ≤ k:=by omega
   have k1:(k:Int) < L.length:=by omega
   have d1:decide ((k:Int) < L.length) = true:=decide_eq_true k1
   have hS01:=hSX wo.drew (Below.refl _ _).drew
   have hcyl:((cmG (getS l) y).getD cmt0).tree.length = 32 ∧ ∀ q ∈ ((cmG (getS l) y).getD cmt0).pars,q.length = 32:=by
    cases e:cmG (getS l) y with
    | none => exact ⟨zid_len,fun q hq => by cases hq⟩
    | some c => exact HTL.out c y e
   have HCYL:=Lib.hid hcyl
   clear hcell hy f1 hSX hyl hso hsw hyc hcyl
   generalize hiy:idC y = uy at h32y HSX HCY hS01 HYC HYO
   go_wp2
   refine wp_region_L 11 (fun w' => w'.cell? ⟨w.heap.size,0,none⟩ = some vl ∧ w'.cell? ⟨w.heap.size,1,none⟩ = some vi ∧ w'.rangeAt b (off + k * 32) uy) (by kernel_rfl) (by kernel_rfl) ?_
   refine WL.take (i:=0) (v:=?_) rfl (by kernel_rfl) (by decide) (by decide +kernel) (by decide +kernel) (fun _ _ _ h => h) rfl ?_ hS01 ?_
   rotate_left
   ·(intro w' hSw;(try dsimp only at hSw);go_simp;(try with_reducible rfl))
   simp only [Act.put];(try simp only [List.getElem_toArray]);(try simp only [List.getElem_cons_succ]);(try simp only [List.getElem_cons_zero]);(try simp only [List.setIfInBounds_toArray]);(try simp only [List.set_cons_succ]);(try simp only [List.set_cons_zero])
   refine WL.take (i:=1) (v:=?_) rfl (by kernel_rfl) (by decide) (by decide +kernel) (by decide +kernel) (fun _ _ _ h => h) rfl ?_ hS01 ?_
   rotate_left
   ·(intro w' hSw;(try dsimp only at hSw);go_simp;(try with_reducible rfl))
   simp only [Act.put];(try simp only [List.getElem_toArray]);(try simp only [List.getElem_cons_succ]);(try simp only [List.getElem_cons_zero]);(try simp only [List.setIfInBounds_toArray]);(try simp only [List.set_cons_succ]);(try simp only [List.set_cons_zero])
   refine WL.take (i:=2) (v:=?_) rfl (by kernel_rfl) (by decide) (by decide +kernel) (by decide +kernel) (fun _ _ _ h => h) rfl ?_ hS01 ?_
   rotate_left
   ·(intro w' hSw;(try dsimp only at hSw);go_simp;(try with_reducible rfl))
   simp only [Act.put];(try simp only [List.getElem_toArray]);(try simp only [List.getElem_cons_succ]);(try simp only [List.getElem_cons_zero]);(try simp only [List.setIfInBounds_toArray]);(try simp only [List.set_cons_succ]);(try simp only [List.set_cons_zero])
   refine WL.take (i:=3) (v:=?_) rfl (by kernel_rfl) (by decide) (by decide +kernel) (by decide +kernel) (fun _ _ _ h => h) rfl ?_ hS01 ?_
   rotate_left
   ·(intro w' hSw;(try dsimp only at hSw);go_simp;(try with_reducible rfl))
   simp only [Act.put];(try simp only [List.getElem_toArray]);(try simp only [List.getElem_cons_succ]);(try simp only [List.getElem_cons_zero]);(try simp only [List.setIfInBounds_toArray]);(try simp only [List.set_cons_succ]);(try simp only [List.set_cons_zero])
   refine WL.take (i:=4) (v:=_) rfl (by kernel_rfl) (by decide) (by decide +kernel) (by decide +kernel) (fun _ _ _ h => h) rfl (fun w' hSw => exec_row 24 _ (hSw.2.2) Tryz.underlying24 rfl h32y _ rfl rfl) hS01 ?_
   simp only [Act.put];(try simp only [List.getElem_toArray]);(try simp only [List.getElem_cons_succ]);(try simp only [List.getElem_cons_zero]);(try simp only [List.setIfInBounds_toArray]);(try simp only [List.set_cons_succ]);(try simp only [List.set_cons_zero])
   refine WL.two (i:=5) (k:=9) rfl rfl (by decide) (by decide) (by decide +kernel) ?_ ?_
   focus
    go_wp2_with fail
    refine (HCY.out _ (Below.refl _ _).drew).mono ?_
    rintro e w4 ⟨v1,rfl,hrow,hb4,hfr⟩
    have hb4:=drew_below hb4
    have hS4:=HSX.out _ hb4
    have HB4:=Lib.hid hb4
    obtain ⟨ao1,lcap1,rfl,_⟩:=hrow.flat0
    have HROW:=Lib.hid hrow
    have HFRS:=Lib.hid hfr
    clear hb4 hrow hfr HCY
    obtain ⟨ct1,hct⟩:∃ ct,cmC ((cmG (getS l) y).getD cmt0).tree (.slice ao1 ((cmG (getS l) y).getD cmt0).pars.length lcap1) ((cmG (getS l) y).getD cmt0).text = ct:=⟨_,rfl⟩
    obtain ⟨HCL1,HCO1,HC321⟩:=cmt_facts HTL.out hct
    have HCT1:=Lib.hid hct
    rw [hct]
    clear hct
    go_wp2
    refine ⟨hS4,?_⟩
    refine WL.take (i:=6) (v:=?_) rfl (by kernel_rfl) (by decide) (by decide +kernel) (by decide +kernel) (fun _ _ _ h => h) rfl ?_ hS4 ?_
    rotate_left
    ·(intro w' hSw;(try dsimp only at hSw);go_simp;(try with_reducible rfl))
    simp only [Act.put];(try simp only [List.getElem_toArray]);(try simp only [List.getElem_cons_succ]);(try simp only [List.getElem_cons_zero]);(try simp only [List.setIfInBounds_toArray]);(try simp only [List.set_cons_succ]);(try simp only [List.set_cons_zero])
    refine WL.take (i:=7) (v:=?_) rfl (by kernel_rfl) (by decide) (by decide +kernel) (by decide +kernel) (fun _ _ _ h => h) rfl ?_ hS4 ?_
    rotate_left
    ·(intro w' hSw;(try dsimp only at hSw);go_simp;(try with_reducible rfl))
    simp only [Act.put];(try simp only [List.getElem_toArray]);(try simp only [List.getElem_cons_succ]);(try simp only [List.getElem_cons_zero]);(try simp only [List.setIfInBounds_toArray]);(try simp only [List.set_cons_succ]);(try simp only [List.set_cons_zero])
    refine WL.take (i:=8) (v:=?_) rfl (by kernel_rfl) (by decide) (by decide +kernel) (by decide +kernel) (fun _ _ _ h => h) rfl ?_ hS4 ?_
    rotate_left
    ·(intro w' hSw;(try dsimp only at hSw);go_simp;(try with_reducible rfl))
    simp only [Act.put];(try simp only [List.getElem_toArray]);(try simp only [List.getElem_cons_succ]);(try simp only [List.getElem_cons_zero]);(try simp only [List.setIfInBounds_toArray]);(try simp only [List.set_cons_succ]);(try simp only [List.set_cons_zero])
    refine WL.one (i:=9) rfl (by decide) (by decide +kernel) ?_
    have hb5:Hid (Below wo.heap.size wo (w4.alloc (.cells zc 97))):=Lib.hid (HB4.out.alloc HB4.out.size _)
    have hth:=Lib.hid (there_alloc w4 zc 97 HZC.out)
    go_wp2
    have hS5:=HSX.out _ hb5.out
    refine ⟨hS5,?_⟩
    refine WL.one (i:=10) rfl (by decide) (by decide +kernel) ?_
    refine wpList_store_list rfl 97 _ _ rfl w4.heap.size 0 ct1 rfl rfl 34 HCL1.out hth.out h34 HCO1.out ?_
    obtain ⟨p1,hp⟩:∃ p,p = w4.heap.size:=⟨_,rfl⟩
    have HP1:=World.rangeAt_setCells_same (w4.alloc (.cells zc 97)) w4.heap.size 0 ct1 (by rw [HCL1.out];exact hth.out)
    have HBX1:=Lib.hid (below_setCells w4.heap.size HB4.out.size ct1 0 _ hb5.out)
    have HR1:Hid (IdRow ((w4.alloc (.cells zc 97)).setCells w4.heap.size 0 ct1) (.slice ao1 ((cmG (getS l) y).getD cmt0).pars.length lcap1) ((cmG (getS l) y).getD cmt0).pars):=Lib.hid (HROW.out.below (below_setCells w4.heap.size (Nat.le_refl _) ct1 0 _ ((Below.refl _ _).alloc (Nat.le_refl _) _)))
    have HPL1:w4.heap.size < ((w4.alloc (.cells zc 97)).setCells w4.heap.size 0 ct1).heap.size:=by simp
    generalize (w4.alloc (.cells zc 97)).setCells w4.heap.size 0 ct1 = X1 at HP1 HBX1 HR1 HPL1
    rw [← hp] at HP1 HPL1 ⊢
    clear hp hth hb5 HB4 HROW HFRS hS4 hS5
   rotate_left
   focus
    go_wp2_with fail
    have hb3:Hid (Below wo.heap.size wo (wo.drew.alloc (.cells zc 97))):=Lib.hid ((Below.refl _ _).drew.alloc (Nat.le_refl _) _)
    have hth3:=Lib.hid (there_alloc wo.drew zc 97 HZC.out)
    have hS4:=HSX.out _ hb3.out
    refine ⟨hS4,?_⟩
    refine WL.one (i:=5) rfl (by decide) (by decide +kernel) ?_
    go_wp2_with fail
    refine (HCY.out _ hb3.out).mono ?_
    rintro e w4 ⟨v1,rfl,hrow,hb4,hfr⟩
    have hth:=Lib.hid (there_below hth3.out hb4 (by simp))
    have hb4':=Lib.hid (hb3.out.trans (hb4.mono hb3.out.size))
    have hS5:=HSX.out _ hb4'.out
    have hs4:wo.heap.size < w4.heap.size:=by have:=hb4.size;simp at this;omega
    obtain ⟨ao1,lcap1,rfl,_⟩:=hrow.flat0
    have HROW:=Lib.hid hrow
    have HFRS:=Lib.hid hfr
    clear hb4 hrow hfr HCY
    obtain ⟨ct1,hct⟩:∃ ct,cmC ((cmG (getS l) y).getD cmt0).tree (.slice ao1 ((cmG (getS l) y).getD cmt0).pars.length lcap1) ((cmG (getS l) y).getD cmt0).text = ct:=⟨_,rfl⟩
    obtain ⟨HCL1,HCO1,HC321⟩:=cmt_facts HTL.out hct
    have HCT1:=Lib.hid hct
    rw [hct]
    clear hct
    go_wp2
    refine ⟨hS5,?_⟩
    refine WL.take (i:=6) (v:=?_) rfl (by kernel_rfl) (by decide) (by decide +kernel) (by decide +kernel) (fun _ _ _ h => h) rfl ?_ hS5 ?_
    rotate_left
    ·(intro w' hSw;(try dsimp only at hSw);go_simp;(try with_reducible rfl))
    simp only [Act.put];(try simp only [List.getElem_toArray]);(try simp only [List.getElem_cons_succ]);(try simp only [List.getElem_cons_zero]);(try simp only [List.setIfInBounds_toArray]);(try simp only [List.set_cons_succ]);(try simp only [List.set_cons_zero])
    refine WL.take (i:=7) (v:=?_) rfl (by kernel_rfl) (by decide) (by decide +kernel) (by decide +kernel) (fun _ _ _ h => h) rfl ?_ hS5 ?_
    rotate_left
    ·(intro w' hSw;(try dsimp only at hSw);go_simp;(try with_reducible rfl))
    simp only [Act.put];(try simp only [List.getElem_toArray]);(try simp only [List.getElem_cons_succ]);(try simp only [List.getElem_cons_zero]);(try simp only [List.setIfInBounds_toArray]);(try simp only [List.set_cons_succ]);(try simp only [List.set_cons_zero])
    refine WL.take (i:=8) (v:=?_) rfl (by kernel_rfl) (by decide) (by decide +kernel) (by decide +kernel) (fun _ _ _ h => h) rfl ?_ hS5 ?_
    rotate_left
    ·(intro w' hSw;(try dsimp only at hSw);go_simp;(try with_reducible rfl))
    simp only [Act.put];(try simp only [List.getElem_toArray]);(try simp only [List.getElem_cons_succ]);(try simp only [List.getElem_cons_zero]);(try simp only [List.setIfInBounds_toArray]);(try simp only [List.set_cons_succ]);(try simp only [List.set_cons_zero])
    refine WL.one (i:=10) rfl (by decide) (by decide +kernel) ?_
    refine wpList_store_list rfl 97 _ _ rfl wo.heap.size 0 ct1 rfl rfl 34 HCL1.out hth.out h34 HCO1.out ?_
    obtain ⟨p1,hp⟩:∃ p,p = wo.heap.size:=⟨_,rfl⟩
    have HP1:=World.rangeAt_setCells_same w4 wo.heap.size 0 ct1 (by rw [HCL1.out];exact hth.out)
    have HBX1:=Lib.hid (below_setCells wo.heap.size (Nat.le_refl _) ct1 0 _ hb4'.out)
    have HR1:Hid (IdRow (w4.setCells wo.heap.size 0 ct1) (.slice ao1 ((cmG (getS l) y).getD cmt0).pars.length lcap1) ((cmG (getS l) y).getD cmt0).pars):=Lib.hid (HROW.out.grown (grownBy_setCells w4 wo.heap.size 0 ct1) (.inr fun g hg e => by
     have h1:=HFRS.out g hg
     have h2:=Option.some.inj e
     simp at h1;omega))
    have HPL1:wo.heap.size < (w4.setCells wo.heap.size 0 ct1).heap.size:=Nat.lt_of_lt_of_le hs4 (grownBy_setCells w4 _ 0 _).size
    generalize w4.setCells wo.heap.size 0 ct1 = X1 at HP1 HBX1 HR1 HPL1
    rw [← hp] at HP1 HPL1 ⊢
    clear hp hth hth3 hb3 hb4' HROW HFRS hS4 hS5 hs4
   all_goals
    refine ⟨HSX.out _ HBX1.out,?_⟩
    refine WL.last (n:=11) rfl rfl (by decide +kernel) (by decide +kernel) ?_
    obtain ⟨cc,hcc⟩:∃ cc,(cmG (getS l) y).getD cmt0 = cc:=⟨_,rfl⟩
    have HCC:Hid (cmOf (getS l) y = cc):=Lib.hid hcc
    rw [hcc] at HCT1 HR1 HCYL HC321
    have hctl:=HCYL.out.1
    have htr:X1.rangeAt p1 0 (idC cc.tree):=fun j u hu => HP1 j u (by rw [← HCT1.out];unfold cmC;rw [List.getElem?_append_left (List.getElem?_eq_some_iff.1 hu).1];exact hu)
    have q0:=(HSX.out X1 HBX1.out).1
    have q1:=(HSX.out X1 HBX1.out).2.1
    have h32t:=h32_of (us:=idC cc.tree) (by rw [idC_len,hctl])
    have HFN:=Lib.hid (HFX.out cc.tree hctl X1 HBX1.out)
    have HRN:=Lib.hid (HPL.out cc.tree hctl)
    obtain ⟨r1,hr1e⟩:∃ r1,findP (getS l) cc.tree s = r1:=⟨_,rfl⟩
    unfold FiAns at HFN
    rw [hr1e] at HFN HRN
    have HR1E:=Lib.hid hr1e
    have h2s:(Tryz.prog.info? 30).map (·.size) = some 2:=by kernel_rfl
    clear hcc hr1e
    generalize idC cc.tree = ut at htr h32t HFN
    go_wp2_with (refine wpList_load_mid rfl 24 _ rfl p1 0 rfl ut _ htr Tryz.underlying24 rfl h32t ?_)
    refine HFN.out.mono ?_
    rintro e Y1 ⟨rfl,hby⟩
    have t1l:=chC_len HRN.out
    have HT1O:=Lib.hid (chC_one r1.1)
    have HBY1:=Lib.hid (HBX1.out.trans (hby.mono HBX1.out.size))
    obtain ⟨V1,hV1⟩:∃ V1,(Y1.alloc (.cells zh.toArray 75)).setCells Y1.heap.size 0 (chC r1.1) = V1:=⟨_,rfl⟩
    have n1:BoxL V1 Y1.heap.size 75 (chC r1.1):=by rw [← hV1];exact (BoxL.new Y1 75 zh).set (by rw [t1l,hcl])
    have hbv:Below Y1.heap.size Y1 V1:=by rw [← hV1];exact below_setCells _ (Nat.le_refl _) _ _ _ ((Below.refl _ _).alloc (Nat.le_refl _) _)
    have hbxv:Below X1.heap.size X1 V1:=hby.trans (hbv.mono hby.size)
    have HBV1:=Lib.hid (HBY1.out.trans (hbv.mono HBY1.out.size))
    have c32:V1.cell? ⟨p1,32,none⟩ = some (.slice ao1 cc.pars.length lcap1):=by
     have:=HP1 32 _ HC321.out
     rw [Nat.zero_add] at this
     exact below_load this hbxv HPL1
    have HRV:=Lib.hid (HR1.out.below hbxv)
    have HTN:=Lib.hid (there_alloc Y1 zh.toArray 75 (by simpa using hcl))
    have HV1:=Lib.hid hV1
    have HN1:=Lib.hid n1
    have HPV:Hid (p1 < V1.heap.size):=Lib.hid (Nat.lt_of_lt_of_le HPL1 hbxv.size)
    have s0:=HSX.out V1 HBV1.out
    have HS0:=Lib.hid s0
    have HXR:=Lib.hid (fun X (h:Below wo.heap.size wo X) => (HSX.out X h).2.2)
    obtain ⟨u1,hu1⟩:∃ u1,chC r1.1 = u1:=⟨_,rfl⟩
    rw [hu1] at t1l HT1O HV1 HN1
    rw [hu1]
    have HU1:=Lib.hid hu1
    clear hby hV1 n1 hbv hbxv s0 hu1 htr q0 q1 HFN HR1 HP1
    go_upto_region 7 with (refine wpList_store_list rfl 75 _ _ rfl Y1.heap.size 0 u1 rfl rfl 33 t1l HTN.out h33 HT1O.out ?_;rw [HV1.out])
    try simp only [Act.put]
    obtain ⟨np,hnp⟩:∃ np,cc.pars.length = np:=⟨_,rfl⟩
    have hnp2:=hnp
    rw [hnp] at c32
    have HNP:=Lib.hid hnp
    clear hnp
    have hfl:((L.take k).filter (touchB (getS l) s)).length ≤ 1000:=Nat.le_trans (List.length_filter_le _ _) (Nat.le_trans (by rw [List.length_take];omega) hlen)
    have HSZ:Hid (∀ w,(sizeOf 24).run Tryz.prog w = .ok uy.length w):=Lib.hid (fun w => by rw [HYC.out];kernel_rfl)
    have HTS:Hid (idsF ((L.take k).filter (touchB (getS l) s) ++ [y]) = idsF ((L.take k).filter (touchB (getS l) s)) ++ uy):=Lib.hid (by rw [idsF_snoc,hiy])
    cases hpp:cc.pars with
    | nil =>
     rw [hpp] at hnp2
     obtain rfl:np = 0:=hnp2.symm
     have HTB0:Hid (touchB (getS l) s y = decide (r1.2 = 0)):=Lib.hid (by unfold touchB;rw [HCC.out,hpp];show decide ((findP (getS l) cc.tree s).2 = 0) = _;rw [HR1E.out])
     clear hpp hnp2
     by_cases h0:r1.2 = 0
     ·have d2:((r1.2:Int) == 0) = true:=by rw [beq_iff_eq];omega
      have HTB:Hid (touchB (getS l) s y = true):=Lib.hid (by rw [HTB0.out,decide_eq_true h0])
      clear h0
      have hb3:Below V1.heap.size V1 (V1.alloc (.cells uy.toArray 24)):=(Below.refl _ _).alloc (Nat.le_refl _) _
      have HO3:=Lib.hid ((HO.out.below HBV1.out).below hb3)
      have HNEW:Hid (∀ j u,uy[j]? = some u → (V1.alloc (.cells uy.toArray 24)).cell? ((⟨V1.heap.size,0,none⟩:Addr).add j) = some u):=Lib.hid (fun j u hj => cells_newL _ uy _ j u hj)
      have HBZ:=Lib.hid (HB.out.trans ((HBV1.out.trans (hb3.mono HBV1.out.size)).mono hsz))
      have hs3:W.heap.size ≤ (V1.alloc (.cells uy.toArray 24)).heap.size:=by rw [World.size_alloc];have:=HBV1.out.size;omega
      have fx:=HXR.out V1 HBV1.out
      clear hb3
      go_wp2_with (first
       | (refine wpList_load_mid rfl 24 _ rfl b (off + k * 32) rfl uy _ fx Tryz.underlying24 rfl h32y ?_)
       | (refine wpList_buildSlice_one rfl (.tmp 50) 28 24 rfl uy zi rfl Tryz.underlying28 HSZ.out hzi (by rw [HYC.out];omega) (by rw [HYC.out];omega) ?_)
       | (refine wpList_append_q rfl (.tmp 46) (.tmp 51) 28 rfl W.heap.size 24 i0 (.agg zi) 32 32 Tryz.underlying28 hi hi0 hi1 hi2 HZI.out (by decide) _ ((L.take k).filter (touchB (getS l) s)).length (idsF ((L.take k).filter (touchB (getS l) s))) rfl HO3.out (some ⟨V1.heap.size,0,none⟩) 1 1 uy rfl (by rw [HYC.out]) (fun _ => ⟨_,rfl,HNEW.out⟩) HYO.out (by unfold maxLen;omega) (by omega) hs3 ?_))
      intro o9 w9 hq9 hg9 _
      have HEND:Hid (DtSt (getS l) s L W o9 (.int .i64 ((k:Int) + 1)) w9):=Lib.hid ⟨k + 1,by rw [Int.natCast_add];rfl,by omega,by rw [HFS.out,HTB.out,if_pos rfl,HTS.out,List.length_append,List.length_singleton];exact hq9,HBZ.out.grown hg9 HBZ.out.size (fun j hj => (HO3.out.lt j hj).1)⟩
      clear hq9 hg9
      go_wp2
      go_roundw
      case rel => exact HEND.out
      case measure => simp [intOf];omega
     ·have d2:((r1.2:Int) == 0) = false:=by rw [beq_eq_false_iff_ne];omega
      have HTB:Hid (touchB (getS l) s y = false):=Lib.hid (by rw [HTB0.out,decide_eq_false h0])
      have HEND:Hid (DtSt (getS l) s L W u7 (.int .i64 ((k:Int) + 1)) V1):=Lib.hid ⟨k + 1,by rw [Int.natCast_add];rfl,by omega,by rw [HFS.out,HTB.out,if_neg (by simp),List.append_nil];exact HO.out.below HBV1.out,HB.out.trans (HBV1.out.mono hsz)⟩
      clear h0
      go_wp2
      go_roundw
      case rel => exact HEND.out
      case measure => simp [intOf];omega
    | cons q qs =>
     rw [hpp] at hnp2
     have hd1:0 < np:=by rw [← hnp2];simp
     have hql:=HCYL.out.2 q (by rw [hpp];simp)
     have hrv:=HRV.out
     obtain ⟨ao2,cap2,e2,_,hpc0⟩:=hrv.open
     have ea:=(Value.slice.inj e2).1
     subst ea
     obtain ⟨pb,poff,rfl,hpbl,hpc⟩:=hpc0 (by rw [hpp];simp)
     have g1:V1.rangeAt pb poff (idC q):=by
      have:=hpc 0 (by rw [hpp];simp)
      rw [Nat.zero_mul,Nat.add_zero] at this
      have e:cc.pars[0]'(by rw [hpp];simp) = q:=by simp [hpp]
      rwa [e] at this
     have HTB1:Hid (touchB (getS l) s y = decide (r1 ≠ findP (getS l) (cmOf (getS l) q).tree s)):=Lib.hid (by unfold touchB;rw [HCC.out,hpp];show decide (findP (getS l) cc.tree s ≠ findP (getS l) (cmOf (getS l) q).tree s) = _;rw [HR1E.out])
     have h32q:=h32_of (us:=idC q) (by rw [idC_len,hql])
     have hvz:V1.heap.size ≤ V1.heap.size:=Nat.le_refl _
     have hpv:=HPV.out
     have hSZ:∀ X,Below V1.heap.size V1 X → X.cell? ⟨w.heap.size,0,none⟩ = some vl ∧ X.cell? ⟨w.heap.size,1,none⟩ = some vi ∧ X.cell? ⟨p1,32,none⟩ = some (.slice (some ⟨pb,poff,none⟩) np lcap1) ∧ X.rangeAt pb poff (idC q):=fun X hX => by
      have h3:=HSX.out X (HBV1.out.trans (hX.mono HBV1.out.size))
      exact ⟨h3.1,h3.2.1,below_load c32 hX hpv,rangeAt_below g1 hX hpbl⟩
     have HSZ2:=Lib.hid hSZ
     have HCQ:=Lib.hid (fun X (h:Below V1.heap.size V1 X) => HCX.out q hql X (HBV1.out.trans (h.mono HBV1.out.size)))
     have hS02:=hSZ V1.drew (Below.refl _ _).drew
     have hcql:((cmG (getS l) q).getD cmt0).tree.length = 32:=by
      cases e:cmG (getS l) q with
      | none => exact zid_len
      | some c => exact (HTL.out c q e).1
     have HCQL:=Lib.hid hcql
     clear hpc hpc0 g1 e2 hrv hnp2 hpp hSZ hql hvz hcql
     generalize idC q = uq at h32q HSZ2 HCQ hS02
     go_wp2
     clear c32
     refine wp_region_L 11 (fun w' => w'.cell? ⟨w.heap.size,0,none⟩ = some vl ∧ w'.cell? ⟨w.heap.size,1,none⟩ = some vi ∧ w'.cell? ⟨p1,32,none⟩ = some (.slice (some ⟨pb,poff,none⟩) np lcap1) ∧ w'.rangeAt pb poff uq) (by kernel_rfl) (by kernel_rfl) ?_
     refine WL.take (i:=0) (v:=?_) rfl (by kernel_rfl) (by decide) (by decide +kernel) (by decide +kernel) (fun _ _ _ h => h) rfl ?_ hS02 ?_
     rotate_left
     ·(intro w' hSw;(try dsimp only at hSw);go_simp;(try with_reducible rfl))
     simp only [Act.put];(try simp only [List.getElem_toArray]);(try simp only [List.getElem_cons_succ]);(try simp only [List.getElem_cons_zero]);(try simp only [List.setIfInBounds_toArray]);(try simp only [List.set_cons_succ]);(try simp only [List.set_cons_zero])
     refine WL.take (i:=1) (v:=?_) rfl (by kernel_rfl) (by decide) (by decide +kernel) (by decide +kernel) (fun _ _ _ h => h) rfl ?_ hS02 ?_
     rotate_left
     ·(intro w' hSw;(try dsimp only at hSw);go_simp;(try with_reducible rfl))
     simp only [Act.put];(try simp only [List.getElem_toArray]);(try simp only [List.getElem_cons_succ]);(try simp only [List.getElem_cons_zero]);(try simp only [List.setIfInBounds_toArray]);(try simp only [List.set_cons_succ]);(try simp only [List.set_cons_zero])
     refine WL.take (i:=2) (v:=?_) rfl (by kernel_rfl) (by decide) (by decide +kernel) (by decide +kernel) (fun _ _ _ h => h) rfl ?_ hS02 ?_
     rotate_left
     ·(intro w' hSw;(try dsimp only at hSw);go_simp;(try with_reducible rfl))
     simp only [Act.put];(try simp only [List.getElem_toArray]);(try simp only [List.getElem_cons_succ]);(try simp only [List.getElem_cons_zero]);(try simp only [List.setIfInBounds_toArray]);(try simp only [List.set_cons_succ]);(try simp only [List.set_cons_zero])
     refine WL.take (i:=3) (v:=?_) rfl (by kernel_rfl) (by decide) (by decide +kernel) (by decide +kernel) (fun _ _ _ h => h) rfl ?_ hS02 ?_
     rotate_left
     ·(intro w' hSw;(try dsimp only at hSw);go_simp;(try with_reducible rfl))
     simp only [Act.put];(try simp only [List.getElem_toArray]);(try simp only [List.getElem_cons_succ]);(try simp only [List.getElem_cons_zero]);(try simp only [List.setIfInBounds_toArray]);(try simp only [List.set_cons_succ]);(try simp only [List.set_cons_zero])
     refine WL.take (i:=4) (v:=_) rfl (by kernel_rfl) (by decide) (by decide +kernel) (by decide +kernel) (fun _ _ _ h => h) rfl (fun w' hSw => exec_row 24 _ (hSw.2.2.2) Tryz.underlying24 rfl h32q _ rfl rfl) hS02 ?_
     simp only [Act.put];(try simp only [List.getElem_toArray]);(try simp only [List.getElem_cons_succ]);(try simp only [List.getElem_cons_zero]);(try simp only [List.setIfInBounds_toArray]);(try simp only [List.set_cons_succ]);(try simp only [List.set_cons_zero])
     refine WL.two (i:=5) (k:=9) rfl rfl (by decide) (by decide) (by decide +kernel) ?_ ?_
     focus
      go_wp2_with fail
      refine (HCQ.out _ (Below.refl _ _).drew).mono ?_
      rintro e w4 ⟨v2,rfl,hrow,hb4,hfr⟩
      have hb4:=drew_below hb4
      have hS4:=HSZ2.out _ hb4
      have HB4:=Lib.hid hb4
      obtain ⟨ao2,lcap2,rfl,_⟩:=hrow.flat0
      have HROW:=Lib.hid hrow
      have HFRS:=Lib.hid hfr
      clear hb4 hrow hfr HCQ
      obtain ⟨ct2,hct⟩:∃ ct,cmC ((cmG (getS l) q).getD cmt0).tree (.slice ao2 ((cmG (getS l) q).getD cmt0).pars.length lcap2) ((cmG (getS l) q).getD cmt0).text = ct:=⟨_,rfl⟩
      obtain ⟨HCL2,HCO2,HC322⟩:=cmt_facts HTL.out hct
      have HCT2:=Lib.hid hct
      rw [hct]
      clear hct
      go_wp2
      refine ⟨hS4,?_⟩
      refine WL.take (i:=6) (v:=?_) rfl (by kernel_rfl) (by decide) (by decide +kernel) (by decide +kernel) (fun _ _ _ h => h) rfl ?_ hS4 ?_
      rotate_left
      ·(intro w' hSw;(try dsimp only at hSw);go_simp;(try with_reducible rfl))
      simp only [Act.put];(try simp only [List.getElem_toArray]);(try simp only [List.getElem_cons_succ]);(try simp only [List.getElem_cons_zero]);(try simp only [List.setIfInBounds_toArray]);(try simp only [List.set_cons_succ]);(try simp only [List.set_cons_zero])
      refine WL.take (i:=7) (v:=?_) rfl (by kernel_rfl) (by decide) (by decide +kernel) (by decide +kernel) (fun _ _ _ h => h) rfl ?_ hS4 ?_
      rotate_left
      ·(intro w' hSw;(try dsimp only at hSw);go_simp;(try with_reducible rfl))
      simp only [Act.put];(try simp only [List.getElem_toArray]);(try simp only [List.getElem_cons_succ]);(try simp only [List.getElem_cons_zero]);(try simp only [List.setIfInBounds_toArray]);(try simp only [List.set_cons_succ]);(try simp only [List.set_cons_zero])
      refine WL.take (i:=8) (v:=?_) rfl (by kernel_rfl) (by decide) (by decide +kernel) (by decide +kernel) (fun _ _ _ h => h) rfl ?_ hS4 ?_
      rotate_left
      ·(intro w' hSw;(try dsimp only at hSw);go_simp;(try with_reducible rfl))
      simp only [Act.put];(try simp only [List.getElem_toArray]);(try simp only [List.getElem_cons_succ]);(try simp only [List.getElem_cons_zero]);(try simp only [List.setIfInBounds_toArray]);(try simp only [List.set_cons_succ]);(try simp only [List.set_cons_zero])
      refine WL.one (i:=9) rfl (by decide) (by decide +kernel) ?_
      have hb5:Hid (Below V1.heap.size V1 (w4.alloc (.cells zc 97))):=Lib.hid (HB4.out.alloc HB4.out.size _)
      have hth:=Lib.hid (there_alloc w4 zc 97 HZC.out)
      go_wp2
      have hS5:=HSZ2.out _ hb5.out
      refine ⟨hS5,?_⟩
      refine WL.one (i:=10) rfl (by decide) (by decide +kernel) ?_
      refine wpList_store_list rfl 97 _ _ rfl w4.heap.size 0 ct2 rfl rfl 34 HCL2.out hth.out h34 HCO2.out ?_
      obtain ⟨p2,hp⟩:∃ p,p = w4.heap.size:=⟨_,rfl⟩
      have HP2:=World.rangeAt_setCells_same (w4.alloc (.cells zc 97)) w4.heap.size 0 ct2 (by rw [HCL2.out];exact hth.out)
      have HBX2:=Lib.hid (below_setCells w4.heap.size HB4.out.size ct2 0 _ hb5.out)
      have HR2:Hid (IdRow ((w4.alloc (.cells zc 97)).setCells w4.heap.size 0 ct2) (.slice ao2 ((cmG (getS l) q).getD cmt0).pars.length lcap2) ((cmG (getS l) q).getD cmt0).pars):=Lib.hid (HROW.out.below (below_setCells w4.heap.size (Nat.le_refl _) ct2 0 _ ((Below.refl _ _).alloc (Nat.le_refl _) _)))
      have HPL2:w4.heap.size < ((w4.alloc (.cells zc 97)).setCells w4.heap.size 0 ct2).heap.size:=by simp
      generalize (w4.alloc (.cells zc 97)).setCells w4.heap.size 0 ct2 = X2 at HP2 HBX2 HR2 HPL2
      rw [← hp] at HP2 HPL2 ⊢
      clear hp hth hb5 HB4 HROW HFRS hS4 hS5
     rotate_left
     focus
      go_wp2_with fail
      have hb3:Hid (Below V1.heap.size V1 (V1.drew.alloc (.cells zc 97))):=Lib.hid ((Below.refl _ _).drew.alloc (Nat.le_refl _) _)
      have hth3:=Lib.hid (there_alloc V1.drew zc 97 HZC.out)
      have hS4:=HSZ2.out _ hb3.out
      refine ⟨hS4,?_⟩
      refine WL.one (i:=5) rfl (by decide) (by decide +kernel) ?_
      go_wp2_with fail
      refine (HCQ.out _ hb3.out).mono ?_
      rintro e w4 ⟨v2,rfl,hrow,hb4,hfr⟩
      have hth:=Lib.hid (there_below hth3.out hb4 (by simp))
      have hb4':=Lib.hid (hb3.out.trans (hb4.mono hb3.out.size))
      have hS5:=HSZ2.out _ hb4'.out
      have hs4:V1.heap.size < w4.heap.size:=by have:=hb4.size;simp at this;omega
      obtain ⟨ao2,lcap2,rfl,_⟩:=hrow.flat0
      have HROW:=Lib.hid hrow
      have HFRS:=Lib.hid hfr
      clear hb4 hrow hfr HCQ
      obtain ⟨ct2,hct⟩:∃ ct,cmC ((cmG (getS l) q).getD cmt0).tree (.slice ao2 ((cmG (getS l) q).getD cmt0).pars.length lcap2) ((cmG (getS l) q).getD cmt0).text = ct:=⟨_,rfl⟩
      obtain ⟨HCL2,HCO2,HC322⟩:=cmt_facts HTL.out hct
      have HCT2:=Lib.hid hct
      rw [hct]
      clear hct
      go_wp2
      refine ⟨hS5,?_⟩
      refine WL.take (i:=6) (v:=?_) rfl (by kernel_rfl) (by decide) (by decide +kernel) (by decide +kernel) (fun _ _ _ h => h) rfl ?_ hS5 ?_
      rotate_left
      ·(intro w' hSw;(try dsimp only at hSw);go_simp;(try with_reducible rfl))
      simp only [Act.put];(try simp only [List.getElem_toArray]);(try simp only [List.getElem_cons_succ]);(try simp only [List.getElem_cons_zero]);(try simp only [List.setIfInBounds_toArray]);(try simp only [List.set_cons_succ]);(try simp only [List.set_cons_zero])
      refine WL.take (i:=7) (v:=?_) rfl (by kernel_rfl) (by decide) (by decide +kernel) (by decide +kernel) (fun _ _ _ h => h) rfl ?_ hS5 ?_
      rotate_left
      ·(intro w' hSw;(try dsimp only at hSw);go_simp;(try with_reducible rfl))
      simp only [Act.put];(try simp only [List.getElem_toArray]);(try simp only [List.getElem_cons_succ]);(try simp only [List.getElem_cons_zero]);(try simp only [List.setIfInBounds_toArray]);(try simp only [List.set_cons_succ]);(try simp only [List.set_cons_zero])
      refine WL.take (i:=8) (v:=?_) rfl (by kernel_rfl) (by decide) (by decide +kernel) (by decide +kernel) (fun _ _ _ h => h) rfl ?_ hS5 ?_
      rotate_left
      ·(intro w' hSw;(try dsimp only at hSw);go_simp;(try with_reducible rfl))
      simp only [Act.put];(try simp only [List.getElem_toArray]);(try simp only [List.getElem_cons_succ]);(try simp only [List.getElem_cons_zero]);(try simp only [List.setIfInBounds_toArray]);(try simp only [List.set_cons_succ]);(try simp only [List.set_cons_zero])
      refine WL.one (i:=10) rfl (by decide) (by decide +kernel) ?_
      refine wpList_store_list rfl 97 _ _ rfl V1.heap.size 0 ct2 rfl rfl 34 HCL2.out hth.out h34 HCO2.out ?_
      obtain ⟨p2,hp⟩:∃ p,p = V1.heap.size:=⟨_,rfl⟩
      have HP2:=World.rangeAt_setCells_same w4 V1.heap.size 0 ct2 (by rw [HCL2.out];exact hth.out)
      have HBX2:=Lib.hid (below_setCells V1.heap.size (Nat.le_refl _) ct2 0 _ hb4'.out)
      have HR2:Hid (IdRow (w4.setCells V1.heap.size 0 ct2) (.slice ao2 ((cmG (getS l) q).getD cmt0).pars.length lcap2) ((cmG (getS l) q).getD cmt0).pars):=Lib.hid (HROW.out.grown (grownBy_setCells w4 V1.heap.size 0 ct2) (.inr fun g hg e => by
       have h1:=HFRS.out g hg
       have h2:=Option.some.inj e
       simp at h1;omega))
      have HPL2:V1.heap.size < (w4.setCells V1.heap.size 0 ct2).heap.size:=Nat.lt_of_lt_of_le hs4 (grownBy_setCells w4 _ 0 _).size
      generalize w4.setCells V1.heap.size 0 ct2 = X2 at HP2 HBX2 HR2 HPL2
      rw [← hp] at HP2 HPL2 ⊢
      clear hp hth hth3 hb3 hb4' HROW HFRS hS4 hS5 hs4
     all_goals
      refine ⟨HSZ2.out _ HBX2.out,?_⟩
      refine WL.last (n:=11) rfl rfl (by decide +kernel) (by decide +kernel) ?_
      obtain ⟨dd,hdd⟩:∃ dd,(cmG (getS l) q).getD cmt0 = dd:=⟨_,rfl⟩
      have HDD:Hid (cmOf (getS l) q = dd):=Lib.hid hdd
      rw [hdd] at HCT2 HCQL
      have hdtl:=HCQL.out
      have htr2:X2.rangeAt p2 0 (idC dd.tree):=fun j u hu => HP2 j u (by rw [← HCT2.out];unfold cmC;rw [List.getElem?_append_left (List.getElem?_eq_some_iff.1 hu).1];exact hu)
      have q0:=(HSZ2.out X2 HBX2.out).1
      have q1:=(HSZ2.out X2 HBX2.out).2.1
      have h32t2:=h32_of (us:=idC dd.tree) (by rw [idC_len,hdtl])
      have HBXW:=Lib.hid (HBV1.out.trans (HBX2.out.mono HBV1.out.size))
      have HFN2:=Lib.hid (HFX.out dd.tree hdtl X2 HBXW.out)
      have HRN2:=Lib.hid (HPL.out dd.tree hdtl)
      rw [HDD.out] at HTB1
      obtain ⟨r2,hr2e⟩:∃ r2,findP (getS l) dd.tree s = r2:=⟨_,rfl⟩
      unfold FiAns at HFN2
      rw [hr2e] at HFN2 HRN2 HTB1
      clear hdd hr2e
      generalize idC dd.tree = ut2 at htr2 h32t2 HFN2
      go_wp2_with (refine wpList_load_mid rfl 24 _ rfl p2 0 rfl ut2 _ htr2 Tryz.underlying24 rfl h32t2 ?_)
      refine HFN2.out.mono ?_
      rintro e Y2 ⟨rfl,hby⟩
      have t2l:=chC_len HRN2.out
      have HT2O:=Lib.hid (chC_one r2.1)
      obtain ⟨V2,hV2⟩:∃ V2,(Y2.alloc (.cells zh.toArray 75)).setCells Y2.heap.size 0 (chC r2.1) = V2:=⟨_,rfl⟩
      have m2:BoxL V2 Y2.heap.size 75 (chC r2.1):=by rw [← hV2];exact (BoxL.new Y2 75 zh).set (by rw [t2l,hcl])
      have hbv:Below Y2.heap.size Y2 V2:=by rw [← hV2];exact below_setCells _ (Nat.le_refl _) _ _ _ ((Below.refl _ _).alloc (Nat.le_refl _) _)
      have hbxv:Below X2.heap.size X2 V2:=hby.trans (hbv.mono hby.size)
      have hbvv:Below V1.heap.size V1 V2:=HBX2.out.trans (hbxv.mono HBX2.out.size)
      have HBV2:=Lib.hid (HBV1.out.trans (hbvv.mono HBV1.out.size))
      have hn2:=(HN1.out.below hbvv).range
      have hm2:=m2.range
      have HTN2:=Lib.hid (there_alloc Y2 zh.toArray 75 (by simpa using hcl))
      have HEQ:Hid (∀ w,(Op.equalIn 10000 75 (.agg (chC r1.1).toArray) (.agg (chC r2.1).toArray)).run Tryz.prog w = .ok (decide (r1.1 = r2.1)) w):=Lib.hid (fun w => ch_eqIn0 r1.1 r2.1 HRN.out HRN2.out w)
      rw [HU1.out] at HEQ
      obtain ⟨u2,hu2⟩:∃ u2,chC r2.1 = u2:=⟨_,rfl⟩
      rw [hu2] at t2l HT2O hV2 m2 hm2 HEQ
      rw [hu2]
      have HV2:=Lib.hid hV2
      have h33a:(Tryz.prog.info? 75).map (·.size) = some u1.length:=by rw [t1l];exact h33
      have h33b:(Tryz.prog.info? 75).map (·.size) = some u2.length:=by rw [t2l];exact h33
      clear hby hV2 m2 hbv hbxv hbvv hu2 htr2 q0 q1 HFN2 HP2
      go_upto_region 12 with (refine wpList_store_list rfl 75 _ _ rfl Y2.heap.size 0 u2 rfl rfl 33 t2l HTN2.out h33 HT2O.out ?_;rw [HV2.out])
      try simp only [Act.put]
      by_cases hc1:r1.1 = r2.1
      ·have heq:=fun w => HEQ.out w
       rw [decide_eq_true hc1] at heq
       by_cases hc2:r1.2 = r2.2
       ·have d3:((r1.2:Int) != (r2.2:Int)) = false:=by rw [bne_eq_false_iff_eq];omega
        have HTB:Hid (touchB (getS l) s y = false):=Lib.hid (by rw [HTB1.out,decide_eq_false (by simp [Prod.ext hc1 hc2])])
        have HEND:Hid (DtSt (getS l) s L W u7 (.int .i64 ((k:Int) + 1)) V2):=Lib.hid ⟨k + 1,by rw [Int.natCast_add];rfl,by omega,by rw [HFS.out,HTB.out,if_neg (by simp),List.append_nil];exact HO.out.below HBV2.out,HB.out.trans (HBV2.out.mono hsz)⟩
        clear hc1 hc2
        go_wp2_with (first
         | (refine wpList_load_mid rfl 75 _ rfl Y1.heap.size 0 rfl u1 _ hn2 Tryz.underlying75 rfl h33a ?_)
         | (refine wpList_load_mid rfl 75 _ rfl Y2.heap.size 0 rfl u2 _ hm2 Tryz.underlying75 rfl h33b ?_))
        go_roundw
        case rel => exact HEND.out
        case measure => simp [intOf];omega
       ·have d3:((r1.2:Int) != (r2.2:Int)) = true:=by rw [bne_iff_ne];omega
        have HTB:Hid (touchB (getS l) s y = true):=Lib.hid (by rw [HTB1.out];exact decide_eq_true (show r1 ≠ r2 from fun e => hc2 (by rw [e])))
        clear hc1 hc2
        have hb3:Below V2.heap.size V2 (V2.alloc (.cells uy.toArray 24)):=(Below.refl _ _).alloc (Nat.le_refl _) _
        have HO3:=Lib.hid ((HO.out.below HBV2.out).below hb3)
        have HNEW:Hid (∀ j u,uy[j]? = some u → (V2.alloc (.cells uy.toArray 24)).cell? ((⟨V2.heap.size,0,none⟩:Addr).add j) = some u):=Lib.hid (fun j u hj => cells_newL _ uy _ j u hj)
        have HBZ:=Lib.hid (HB.out.trans ((HBV2.out.trans (hb3.mono HBV2.out.size)).mono hsz))
        have hs3:W.heap.size ≤ (V2.alloc (.cells uy.toArray 24)).heap.size:=by rw [World.size_alloc];have:=HBV2.out.size;omega
        have fx:=HXR.out V2 HBV2.out
        clear hb3
        go_wp2_with (first
         | (refine wpList_load_mid rfl 75 _ rfl Y1.heap.size 0 rfl u1 _ hn2 Tryz.underlying75 rfl h33a ?_)
         | (refine wpList_load_mid rfl 75 _ rfl Y2.heap.size 0 rfl u2 _ hm2 Tryz.underlying75 rfl h33b ?_)
         | (refine wpList_load_mid rfl 24 _ rfl b (off + k * 32) rfl uy _ fx Tryz.underlying24 rfl h32y ?_)
         | (refine wpList_buildSlice_one rfl (.tmp 82) 28 24 rfl uy zi rfl Tryz.underlying28 HSZ.out hzi (by rw [HYC.out];omega) (by rw [HYC.out];omega) ?_)
         | (refine wpList_append_q rfl (.tmp 78) (.tmp 83) 28 rfl W.heap.size 24 i0 (.agg zi) 32 32 Tryz.underlying28 hi hi0 hi1 hi2 HZI.out (by decide) _ ((L.take k).filter (touchB (getS l) s)).length (idsF ((L.take k).filter (touchB (getS l) s))) rfl HO3.out (some ⟨V2.heap.size,0,none⟩) 1 1 uy rfl (by rw [HYC.out]) (fun _ => ⟨_,rfl,HNEW.out⟩) HYO.out (by unfold maxLen;omega) (by omega) hs3 ?_))
        intro o9 w9 hq9 hg9 _
        have HEND:Hid (DtSt (getS l) s L W o9 (.int .i64 ((k:Int) + 1)) w9):=Lib.hid ⟨k + 1,by rw [Int.natCast_add];rfl,by omega,by rw [HFS.out,HTB.out,if_pos rfl,HTS.out,List.length_append,List.length_singleton];exact hq9,HBZ.out.grown hg9 HBZ.out.size (fun j hj => (HO3.out.lt j hj).1)⟩
        clear hq9 hg9
        go_wp2
        go_roundw
        case rel => exact HEND.out
        case measure => simp [intOf];omega
      ·have heq:=fun w => HEQ.out w
       rw [decide_eq_false hc1] at heq
       have HTB:Hid (touchB (getS l) s y = true):=Lib.hid (by rw [HTB1.out];exact decide_eq_true (show r1 ≠ r2 from fun e => hc1 (by rw [e])))
       clear hc1
       have hb3:Below V2.heap.size V2 (V2.alloc (.cells uy.toArray 24)):=(Below.refl _ _).alloc (Nat.le_refl _) _
       have HO3:=Lib.hid ((HO.out.below HBV2.out).below hb3)
       have HNEW:Hid (∀ j u,uy[j]? = some u → (V2.alloc (.cells uy.toArray 24)).cell? ((⟨V2.heap.size,0,none⟩:Addr).add j) = some u):=Lib.hid (fun j u hj => cells_newL _ uy _ j u hj)
       have HBZ:=Lib.hid (HB.out.trans ((HBV2.out.trans (hb3.mono HBV2.out.size)).mono hsz))
       have hs3:W.heap.size ≤ (V2.alloc (.cells uy.toArray 24)).heap.size:=by rw [World.size_alloc];have:=HBV2.out.size;omega
       have fx:=HXR.out V2 HBV2.out
       clear hb3
       go_wp2_with (first
        | (refine wpList_load_mid rfl 75 _ rfl Y1.heap.size 0 rfl u1 _ hn2 Tryz.underlying75 rfl h33a ?_)
        | (refine wpList_load_mid rfl 75 _ rfl Y2.heap.size 0 rfl u2 _ hm2 Tryz.underlying75 rfl h33b ?_)
        | (refine wpList_load_mid rfl 24 _ rfl b (off + k * 32) rfl uy _ fx Tryz.underlying24 rfl h32y ?_)
        | (refine wpList_buildSlice_one rfl (.tmp 82) 28 24 rfl uy zi rfl Tryz.underlying28 HSZ.out hzi (by rw [HYC.out];omega) (by rw [HYC.out];omega) ?_)
        | (refine wpList_append_q rfl (.tmp 78) (.tmp 83) 28 rfl W.heap.size 24 i0 (.agg zi) 32 32 Tryz.underlying28 hi hi0 hi1 hi2 HZI.out (by decide) _ ((L.take k).filter (touchB (getS l) s)).length (idsF ((L.take k).filter (touchB (getS l) s))) rfl HO3.out (some ⟨V2.heap.size,0,none⟩) 1 1 uy rfl (by rw [HYC.out]) (fun _ => ⟨_,rfl,HNEW.out⟩) HYO.out (by unfold maxLen;omega) (by omega) hs3 ?_))
       intro o9 w9 hq9 hg9 _
       have HEND:Hid (DtSt (getS l) s L W o9 (.int .i64 ((k:Int) + 1)) w9):=Lib.hid ⟨k + 1,by rw [Int.natCast_add];rfl,by omega,by rw [HFS.out,HTB.out,if_pos rfl,HTS.out,List.length_append,List.length_singleton];exact hq9,HBZ.out.grown hg9 HBZ.out.size (fun j hj => (HO3.out.lt j hj).1)⟩
       clear hq9 hg9
       go_wp2
       go_roundw
       case rel => exact HEND.out
       case measure => simp [intOf];omega
  ·obtain rfl:k = L.length:=by omega
   have d1:decide ((L.length:Int) < L.length) = false:=decide_eq_false (by omega)
   have htk:L.take L.length = L:=List.take_length
   rw [htk] at HO
   have HR:=Lib.hid (HO.out.row (fun y hy => HL.out y (List.mem_filter.1 hy).1))
   have HEND:=Lib.hid (HBW.out.trans (HB.out.mono HBW.out.size))
   clear htk
   go_wp2
   go_ret
   exact ⟨u7,rfl,HR.out,HEND.out⟩
end Go.Proofs.YtbmiiiccnoiffaaGreatDoor
