/- YtbmiiiccnoiffaaGreatDoorC39: texts KR, LG, HN, AG, AH, AL, K6, K7 of this claim, in one. -/
import Derived.Test.YtbmiiiccnoiffaaGreatDoorC14
import Derived.Test.YtbmiiiccnoiffaaGreatDoorC15
import Derived.Test.YtbmiiiccnoiffaaGreatDoorC26
import Derived.Test.YtbmiiiccnoiffaaGreatDoorC29
import Derived.Test.YtbmiiiccnoiffaaGreatDoorC30
import Derived.Test.YtbmiiiccnoiffaaGreatDoorC31
import Derived.Test.YtbmiiiccnoiffaaGreatDoorC33
import Derived.Test.YtbmiiiccnoiffaaGreatDoorC36
import Derived.Test.YtbmiiiccnoiffaaGreatDoorC37
namespace Go.Proofs.YtbmiiiccnoiffaaGreatDoor
open Go.RowKit Go.Maps Go.Sort Go.Shelf
set_option maxRecDepth 100000
theorem lineL_32 {cm:Idl → Option Cmt} {U:List Idl} (hU:CmOk cm U) {x:Idl} {S:List Idl} (h:lineL cm x = some S):(∀ y ∈ S,y.length = 32) ∧ S.length ≤ 1000 ∧ S.Nodup:=by
 obtain ⟨h1,h2⟩:=lineL_some h
 exact ⟨fun y hy => by
  have:=h1.there y hy
  cases e:cm y with
  | none => rw [e] at this;cases this
  | some c => exact hU.len y c e,Nat.le_trans (h1.few hU) hU.few,h2.nodup⟩
end Go.Proofs.YtbmiiiccnoiffaaGreatDoor
namespace Go.Proofs.YtbmiiiccnoiffaaGreatDoor
open Go.RowKit Go.Maps
variable {cm:Idl → Option Cmt}
def kidsI (cm:Idl → Option Cmt) (G:List Idl) (x:Idl) (k:Nat) (p:Idl):Nat:=kids cm G p + if p ∈ (par cm x).take k then 1 else 0
theorem kidsI_0 (G:List Idl) (x:Idl):kidsI cm G x 0 = kids cm G:=by funext p;simp [kidsI]
theorem kidsI_end (G:List Idl) (x:Idl) {k:Nat} (h:(par cm x).length ≤ k):kidsI cm G x k = kids cm (G ++ [x]):=by
 funext p
 unfold kidsI
 rw [List.take_of_length_le h,kids_snoc]
theorem kidsI_next (G:List Idl) (x:Idl) {k:Nat} (h:k < (par cm x).length) (hn:(par cm x).Nodup) (p:Idl):kidsI cm G x (k + 1) p = if p = (par cm x)[k] then kidsI cm G x k (par cm x)[k] + 1 else kidsI cm G x k p:=by
 have hnd:(par cm x)[k] ∉ (par cm x).take k:=by
  have:=hn
  rw [← List.take_append_drop k (par cm x),List.nodup_append] at this
  intro hm
  exact this.2.2 _ hm _ (by rw [List.drop_eq_getElem_cons h];exact List.mem_cons_self) rfl
 unfold kidsI
 rw [List.take_succ_eq_append_getElem h]
 by_cases e:p = (par cm x)[k]
 ·subst e
  rw [if_pos rfl,if_neg hnd,if_pos (List.mem_append_right _ (List.mem_singleton.2 rfl))]
 ·rw [if_neg e]
  congr 1
  by_cases h2:p ∈ (par cm x).take k
  ·rw [if_pos h2,if_pos (List.mem_append_left _ h2)]
  ·rw [if_neg h2,if_neg (fun h3 => by rcases List.mem_append.1 h3 with h4 | h4;exact h2 h4;exact e (List.mem_singleton.1 h4))]
theorem kidsI_le (G:List Idl) (x:Idl) (k:Nat) (p:Idl):kidsI cm G x k p ≤ G.length + 1:=by
 unfold kidsI
 have:=kids_le (cm:=cm) G p
 split <;> omega
structure LogOn (cm:Idl → Option Cmt) (L:List Idl):Prop where
 asc:AscL L
 len:L.length ≤ 1000
 l32:∀ x ∈ L,x.length = 32
 pars:∀ x ∈ L,∀ p ∈ par cm x,p ∈ L
 nod:∀ x,(par cm x).Nodup
 four:∀ x,(par cm x).length ≤ 4
 acyc:Acyc cm
 tree:∀ x c,cm x = some c → c.tree.length = 32
theorem grownBy_trans' {w w1 w2:World} {r:Option Nat} (h1:w.grownBy w1 r) (h2:w1.grownBy w2 r):w.grownBy w2 r :=
 ⟨h2.os.trans h1.os,h2.tape.trans h1.tape,h2.output.trans h1.output,Nat.le_trans h1.size h2.size,fun k hk hne => (h2.block k (Nat.lt_of_lt_of_le hk h1.size) hne).trans (h1.block k hk hne)⟩
theorem run_field_pars (W:World) (ct:List Value) (v:Value) (h:ct[32]? = some v):(Instr.field 97 (.agg ct.toArray) 1).run Tryz.prog W = .ok v W:=by
 unfold Instr.field
 simp [run_underlying Tryz.underlying97,asAgg,part,h,Tryz.isAgg28]
theorem wpList_field_run {P:Program} {w:World} {ops:Array Oper} {rest:List Oper} {o:Oper} {a:Act} {Q:Exit → Act → World → Prop} (hg:o.guard = none) (t:TypeId) (x:Operand) (i:Nat) (hop:o.op = .field t x i) (xv:Value) (hx:a.eval x = xv) (v:Value) (h:(Instr.field t xv i).run P w = .ok v w) (hK:wpList P ops Q rest (a.put o.dst v) w):wpList P ops Q (o :: rest) a w:=by
 refine wpList_exec hg v ?_ hK
 unfold execOp
 simp only [hop,hx,Sem.run_bind,h,Result.andThen_ok]
 rfl
theorem OwnQ.lt {w:World} {B sz n:Nat} {v:Value} {xs:List Value} (h:OwnQ w B sz v n xs):∀ k,v.ownBlock = some k → B ≤ k ∧ k < w.heap.size:=fun k hk => by
 rcases h.2 with ⟨rfl,_⟩ | ⟨g,off,cap,rfl,hB,hg,_⟩
 ·cases hk
 ·cases hk;exact ⟨hB,hg⟩
theorem OwnQ.mono {w:World} {B B' sz n:Nat} {v:Value} {xs:List Value} (h:OwnQ w B sz v n xs) (hB:B' ≤ B):OwnQ w B' sz v n xs:=by
 refine ⟨h.1,?_⟩
 rcases h.2 with h2 | ⟨g,off,cap,hv,hb,r⟩
 ·exact .inl h2
 ·exact .inr ⟨g,off,cap,hv,Nat.le_trans hB hb,r⟩
theorem exec_lookupF {P:Program} {w:World} {o:Oper} {a:Act} {v:Value} (t:TypeId) (m x:Operand) (mv xv:Value) (hop:o.op = .lookup t m x false) (hm:a.eval m = mv) (hx:a.eval x = xv) (h:(Instr.lookup t mv xv false).run P w = .ok v w):(execOp a.eval o).run P w = .ok (.value v) w:=by
 unfold execOp
 simp only [hop,hm,hx,Sem.run_bind,h,Result.andThen_ok]
 rfl
def Lp1 (cm:Idl → Option Cmt) (g:Idl → Option Value) (L:List Idl) (w:World) (b n:Nat) (wr:World):Prop :=
 ∃ (G Lr:List Idl) (nn:Nat),RangeG vlV wr b (w.heap.size + 1) n g Lr ∧ (G ++ Lr).Perm L ∧ CntM wr w.heap.size nn (kids cm G) ∧ nn ≤ 4 * G.length ∧ Below w.heap.size w wr
def Lp2 (cm:Idl → Option Cmt) (g:Idl → Option Value) (Lr:List Idl) (w W:World) (b n:Nat) (G:List Idl) (x:Idl) (l:Nat) (i:Value) (wr:World):Prop :=
 ∃ (k nn:Nat),i = .int .i64 (k:Int) ∧ k ≤ l ∧ RangeG vlV wr b (w.heap.size + 1) n g Lr ∧ CntM wr w.heap.size nn (kidsI cm G x k) ∧ nn ≤ 4 * G.length + k ∧ W.grownBy wr (some w.heap.size)
def Lp3 (cm:Idl → Option Cmt) (g:Idl → Option Value) (L:List Idl) (w:World) (b n r2 nn:Nat) (q:Value) (wr:World):Prop :=
 ∃ (G Lr:List Idl),RangeG vlV wr b r2 n g Lr ∧ (G ++ Lr).Perm L ∧ OwnQ wr (r2 + 1) 32 q (G.filter fun x => decide (kids cm L x = 0)).length (idsF (G.filter fun x => decide (kids cm L x = 0))) ∧ CntM wr w.heap.size nn (kids cm L) ∧ Below w.heap.size w wr
def Lp4 (cm:Idl → Option Cmt) (L:List Idl) (w:World) (B:Nat) (gk:Nat) (o q:Value) (wr:World):Prop :=
 ∃ (T G R:List Idl) (nn:Nat),Tells cm L T G R ∧ gk + T.length = L.length ∧ OwnQ wr B 32 o T.length (idsF T) ∧ OwnQ wr B 32 q R.length (idsF R) ∧ (∀ k,o.ownBlock = some k → q.ownBlock ≠ some k) ∧ CntM wr w.heap.size nn (kids cm G) ∧ nn ≤ 4000 + 4 * T.length ∧ Below w.heap.size w wr
def Lp5 (cm:Idl → Option Cmt) (w:World) (B:Nat) (G:List Idl) (x:Idl) (T M:List Idl) (o:Value) (l nm:Nat) (i q:Value) (wr:World):Prop :=
 ∃ (k nn:Nat),i = .int .i64 (k:Int) ∧ k ≤ l ∧ OwnQ wr B 32 q (M ++ ((par cm x).take k).filter fun p => decide (kids cm (G.erase x) p = 0)).length (idsF (M ++ ((par cm x).take k).filter fun p => decide (kids cm (G.erase x) p = 0))) ∧
  OwnQ wr B 32 o T.length (idsF T) ∧ (∀ k,o.ownBlock = some k → q.ownBlock ≠ some k) ∧ CntM wr w.heap.size nn (kidsJ cm G x k) ∧ nn ≤ nm + k ∧ B ≤ wr.heap.size ∧ Below w.heap.size w wr
def LogAns (cm:Idl → Option Cmt) (L:List Idl) (w:World) (e:Ending) (w':World):Prop:=∃ v,e = .returned v ∧ OwnQ w' w.heap.size 32 v L.length (idsF (logOf cm L)) ∧ Below w.heap.size w w'
set_option maxRecDepth 100000 in
set_option maxHeartbeats 4000000 in
theorem hlog_any (L:List Idl) (hL:LogOn cm L) (b n:Nat) (w:World) (hm:LineM cm w b n L none) :
  Calls Tryz.prog 63 #[.map (some b)] w (LogAns cm L w):=by
 have hmm:=@run_makeMap Tryz.prog
 obtain ⟨zi,i0,hi,hz0,hz1,hz2,hzi,hzil⟩:=id_zero
 obtain ⟨zc,hzc,_,hzce⟩:=cm_zero
 have HZI:=Lib.hid hzil
 have HZC:=Lib.hid (show zc.size = 34 by rw [hzce];exact cmC_len _ _ _ zid_len)
 obtain ⟨g,hg,hdom,hval⟩:=hm
 have hbl:=hg.lt
 have HLM:Hid (LineM cm w b n L none):=Lib.hid ⟨g,hg,hdom,hval⟩
 have HLO:=Lib.hid hL
 have HDOM:=Lib.hid hdom
 have HVAL:=Lib.hid hval
 have HG:=Lib.hid hg
 have HM0:=Lib.hid (cntM_made w)
 have hg1:Below w.heap.size w (w.alloc (.map #[] 0)):=(Below.refl _ _).alloc (Nat.le_refl _) _
 have HB1:=Lib.hid hg1
 have HGM:=Lib.hid (hg.on hg1)
 clear hL hdom hval hg hzil hzce hg1
 go_enter Tryz.func63,Tryz.ntmps63
 go_wp2_with (refine wpList_range_G (enc:=vlV) rfl _ 110 97 rfl Tryz.underlying110 b n g L rfl HGM.out HLO.out.asc.nodup HLO.out.l32 HDOM.out ?_)
 intro w1 hr1 hgr1 hs1
 have HR1:=Lib.hid hr1
 have HM1:=Lib.hid (HM0.out.grown hgr1 (fun e => by cases e))
 have HBW1:=Lib.hid (HB1.out.grown hgr1 HB1.out.size (fun j hj => by cases hj))
 clear hr1 hgr1 hs1 HGM HM0 HB1
 go_wp2
 go_loopw [5] (fun _ wr => Lp1 cm g L w b n wr) (fun _ wr => wr.rangeLeft b (w.heap.size + 1))
 case atStart => exact ⟨[],L,0,HR1.out,List.Perm.refl _,HM1.out.ext (fun _ _ => rfl),by simp,HBW1.out⟩
 case round =>
  obtain ⟨wo,rfl⟩:∃ wo:World,wo = wr:=⟨_,rfl⟩
  obtain ⟨G,Lr,nn,hrg,hp,hc,hnn,hb⟩:=hrel
  have HP:=Lib.hid hp
  have HC:=Lib.hid hc
  have HB:=Lib.hid hb
  have hGl:G.length ≤ 1000:=by
   have:=hp.length_eq
   rw [List.length_append] at this
   have:=HLO.out.len
   omega
  clear hp hc hb
  go_wp2_with (refine wpList_next_G (enc:=vlV) rfl _ rfl b (w.heap.size + 1) n g Lr rfl hrg ?_ ?_)
  ·intro hL0
   have HPG:Hid (G.Perm L):=Lib.hid (by have:=HP.out;rw [hL0,List.append_nil] at this;exact this)
   have HC2:Hid (CntM wo w.heap.size nn (kids cm L)):=Lib.hid (HC.out.ext (fun p _ => kids_perm HPG.out p))
   have HMW:=Lib.hid hrg.map
   have hws:w.heap.size < wo.heap.size:=HC.out.lt
   clear hrg hL0
   go_wp2_with (refine wpList_range_G (enc:=vlV) rfl _ 110 97 rfl Tryz.underlying110 b n g L rfl HMW.out HLO.out.asc.nodup HLO.out.l32 HDOM.out ?_)
   intro w2 hr2 hgr2 hs2
   have HR2:=Lib.hid hr2
   have HC3:=Lib.hid (HC2.out.grown hgr2 (fun e => by cases e))
   have HB3:=Lib.hid (HB.out.grown hgr2 HB.out.size (fun j hj => by cases hj))
   obtain ⟨r2,hr2e⟩:∃ r2,r2 = wo.heap.size:=⟨_,rfl⟩
   have hs2':w2.heap.size = r2 + 1:=by rw [hr2e];exact hs2
   have hwr2:w.heap.size < r2:=by rw [hr2e];exact hws
   rw [← hr2e] at HR2 ⊢
   have hbr2:b < r2:=by omega
   clear hr2 hgr2 hs2 hr2e HC2 HMW HC HB HP
   go_wp2
   go_loopw [9,10] (fun q _ wr => Lp3 cm g L w b n r2 nn q wr) (fun _ _ wr => wr.rangeLeft b r2)
   case atStart => exact ⟨[],L,HR2.out,List.Perm.refl _,ownQ_nil _ _ _,HC3.out,HB3.out⟩
   case round =>
    obtain ⟨wp,rfl⟩:∃ wp:World,wp = wr:=⟨_,rfl⟩
    obtain ⟨G2,Lr2,hrg,hp,hq,hc,hb⟩:=hrel
    have HP:=Lib.hid hp
    have HQ:=Lib.hid hq
    have HC:=Lib.hid hc
    have HB:=Lib.hid hb
    clear hp hq hc hb HR2 HC3 HB3
    go_wp2_with (refine wpList_next_G (enc:=vlV) rfl _ rfl b r2 n g Lr2 rfl hrg ?_ ?_)
    ·intro hL0
     have HPG:Hid (G2.Perm L):=Lib.hid (by have:=HP.out;rw [hL0,List.append_nil] at this;exact this)
     have hr2l:=hrg.lt
     have hgl:=HPG.out.length_eq
     have HT0:Hid (Tells cm L [] G2 (G2.filter fun x => decide (kids cm L x = 0))):=Lib.hid (Tells.start HPG.out HLO.out.asc.nodup (by
      rw [show (fun x => decide (kids cm G2 x = 0)) = fun x => decide (kids cm L x = 0) from by funext p;rw [kids_perm HPG.out p]]))
     have HC2:Hid (CntM wp w.heap.size nn (kids cm G2)):=Lib.hid (HC.out.ext (fun p _ => (kids_perm HPG.out p).symm))
     clear hrg hL0 HC HP
     go_wp2
     go_loopg [8,9] L.length (fun gk o q wr => Lp4 cm L w (r2 + 1) gk o q wr)
     case atStart => exact ⟨[],G2,_,nn,HT0.out,rfl,ownQ_nil _ _ _,HQ.out,(fun k hk => by cases hk),HC2.out,by omega,HB.out⟩
     case round =>
      obtain ⟨wm,rfl⟩:∃ wm:World,wm = wr:=⟨_,rfl⟩
      clear HT0 HC2 HQ HB
      obtain ⟨T,G,R,nm,ht,hgk,ho,hq,hne,hc,hnm,hb⟩:=hrel
      obtain ⟨hTl,hGl2,hRl⟩:=ht.len
      have hL1:=HLO.out.len
      cases R with
      | nil =>
       have HTD:=Lib.hid (ht.done HLO.out.asc HLO.out.acyc)
       have HO:=Lib.hid ho
       have HB:=Lib.hid hb
       have hq2:=hq.2
       clear ht ho hq hne hc hb
       rcases hq2 with ⟨rfl,_⟩ | ⟨gg,off,cap,rfl,_⟩
       all_goals
        go_wp2
        go_ret
        exact ⟨_,rfl,by have h:=HO.out;rw [HTD.out,logOf_len HLO.out.acyc HLO.out.asc.nodup] at h;exact h.mono (by omega),HB.out⟩
      | cons y R =>
       have hG32:∀ z ∈ y :: R,z.length = 32:=fun z hz => HLO.out.l32 z ((ht.mem z).1 hz).1
       have hnR:(y :: R).Nodup:=ht.ready.nodup_iff.2 (List.Pairwise.filter _ ht.nodup)
       have HSRT:=Lib.hid (isort_any (r2 + 1) _ (y :: R) wm hq hG32 hnR (by omega))
       have HT:=Lib.hid ht
       have HO:=Lib.hid ho
       have HQ:=Lib.hid hq
       have HNE:=Lib.hid hne
       have HC:=Lib.hid hc
       have HB:=Lib.hid hb
       have H32:=Lib.hid hG32
       have hcbl:=hc.lt
       obtain ⟨ao,cap,hqe⟩:∃ ao cap,u9 = .slice ao (R.length + 1) cap:=by
        rcases hq.2 with ⟨_,h0⟩ | ⟨gg,off,cap,h,_⟩
        ·cases h0
        ·exact ⟨_,_,h⟩
       subst hqe
       rw [List.length_cons] at HQ
       clear ht ho hq hne hc hb hG32 hnR
       go_wp2_with fail
       refine HSRT.out.mono ?_
       rintro e w2 ⟨rfl,m,hpm,hasc,hq2,hg2⟩
       obtain ⟨x,M,rfl⟩:∃ x M,m = x :: M:=by
        cases m with
        | nil => have:=hpm.length_eq;simp at this
        | cons x M => exact ⟨x,M,rfl⟩
       have hml:M.length = R.length:=by have:=hpm.length_eq;simpa using this
       have hx:x.length = 32:=H32.out x (hpm.mem_iff.1 (by simp))
       have ht2:=HT.out.sorted hpm
       obtain ⟨hxG,ht3⟩:=ht2.step HLO.out.asc hasc HLO.out.pars HLO.out.acyc (HLO.out.nod x)
       have hxL:x ∈ L:=((ht2.mem x).1 (by simp)).1
       rw [idsF_cons] at hq2
       have hxl:(idC x).length = 32:=by rw [idC_len,hx]
       rw [show (y :: R).length = M.length + 1 from by rw [List.length_cons,hml]] at hq2
       obtain ⟨gq,oq,cq,hqe,hBq,hgq,hcm,hnc,hr0,hcut⟩:=hq2.cut hxl
       obtain ⟨rfl,hlen,rfl⟩:ao = some ⟨gq,oq,none⟩ ∧ R.length = M.length ∧ cap = cq + 1:=by
        injection hqe with e1 e2 e3
        exact ⟨e1,by omega,e3⟩
       have how:(Value.slice (some ⟨gq,oq,none⟩) (R.length + 1) (cq + 1)).ownBlock = some gq:=rfl
       rw [hlen]
       rw [how] at hg2 HNE
       obtain ⟨p,hp⟩:∃ p,p = (if cq = 0 then (⟨gq,oq,none⟩:Addr) else ⟨gq,oq + 32,none⟩):=⟨_,rfl⟩
       have hpb:(Value.slice (some p) M.length cq).ownBlock = some gq:=by rw [hp];show some (Addr.block (if cq = 0 then _ else _)) = some gq;split <;> rfl
       have HSL:Hid (∀ W,(Instr.sliceAt 28 (.slice (some ⟨gq,oq,none⟩) (M.length + 1) (cq + 1)) (some (.int .i64 1)) none none).run Tryz.prog W = .ok (.slice (some p) M.length cq) W):=Lib.hid (fun W => by rw [hp];exact run_cut_ids W gq oq M.length cq (by omega))
       have ho2:=HO.out.grown hg2 (fun k hk e => HNE.out k hk e.symm)
       have hc2:=HC.out.grown hg2 (fun e => by have:=Option.some.inj e;omega)
       have hb2:=HB.out.grown hg2 HB.out.size (fun k hk => by cases hk;omega)
       obtain ⟨W3,hW3⟩:∃ W3,(w2.alloc (.cells zi 24)).setCells w2.heap.size 0 (idC x) = W3:=⟨_,rfl⟩
       have wr3:=wrote (by rw [hxl,HZI.out]) (by rw [HZI.out];omega) hW3
       have hb4:Below W3.heap.size W3 (W3.alloc (.cells (idC x).toArray 24)):=(Below.refl _ _).alloc (Nat.le_refl _) _
       have hbb:Below w2.heap.size w2 (W3.alloc (.cells (idC x).toArray 24)):=wr3.bel.trans (hb4.mono wr3.bel.size)
       have HO4:=Lib.hid (ho2.below hbb)
       have HQ4:=Lib.hid ((hcut p hp).below hbb)
       have HC4:=Lib.hid (hc2.on hbb)
       have HB4:=Lib.hid (hb2.trans (hbb.mono hb2.size))
       have HR4:=Lib.hid (rangeAt_below wr3.row hb4 wr3.lt)
       have HR3:=Lib.hid wr3.row
       have HR0:=Lib.hid hr0
       have hB4:r2 + 1 ≤ (W3.alloc (.cells (idC x).toArray 24)).heap.size:=by rw [World.size_alloc];have:=wr3.bel.size;omega
       have HGB:Hid (gq < w2.heap.size ∧ w2.heap.size < W3.heap.size ∧ w.heap.size < w2.heap.size ∧ r2 + 1 ≤ gq):=Lib.hid ⟨hgq,wr3.lt,by have:=hc2.lt;omega,hBq⟩
       have hTl2:T.length ≤ 1000:=by omega
       have h32x:=h32_of hxl
       have h32:(Tryz.prog.info? 24).map (·.size) = some 32:=by kernel_rfl
       have HTH:=Lib.hid (there_alloc w2 zi 24 HZI.out)
       have HON:=Lib.hid (idC_one x)
       have HXL:=Lib.hid hxl
       have HW3:=Lib.hid hW3
       have HSZ:Hid (∀ w,(sizeOf 24).run Tryz.prog w = .ok (idC x).length w):=Lib.hid (fun w => by rw [hxl];kernel_rfl)
       have HNEW:Hid (∀ j u,(idC x)[j]? = some u → (W3.alloc (.cells (idC x).toArray 24)).cell? ((⟨W3.heap.size,0,none⟩:Addr).add j) = some u):=Lib.hid (fun j u hj => cells_newL _ (idC x) _ j u hj)
       have hRM:M.length ≤ 1000:=by have:=hRl;rw [List.length_cons] at this;omega
       have HOB:Hid (∀ k,u8.ownBlock = some k → r2 + 1 ≤ k ∧ k < w2.heap.size):=Lib.hid (fun k hk => by have:=HO.out.lt k hk;have:=hg2.size;omega)
       have HTS:Hid (idsF (T ++ [x]) = idsF T ++ idC x):=Lib.hid (idsF_snoc _ _)
       obtain ⟨ct,hct1,hct2,_,hct4,hct5⟩:=HLM.out.look (t:=110) Tryz.underlying110 hx (fun c hc => HLO.out.tree x c hc)
       obtain ⟨cc,pv,hcmx,hcte,hrowp,_⟩:=hct5 hxL
       obtain ⟨ap,capp,rfl,hmaxp,hcellp⟩:=hrowp.open
       have hc32:ct[32]? = some (.slice ap cc.pars.length capp):=by
        rw [hcte];unfold cmC
        rw [List.getElem?_append_right (by rw [idC_len,HLO.out.tree x cc hcmx];exact Nat.le_refl _),idC_len,HLO.out.tree x cc hcmx];rfl
       have HFLD:=Lib.hid (fun W => run_field_pars W ct _ hc32)
       have HLKC:=Lib.hid hct4
       have HPA:=Lib.hid (par_of hcmx)
       have HCE:=Lib.hid hcellp
       have HT3:=Lib.hid ht3
       have HXG:=Lib.hid hxG
       have HXIL:=Lib.hid hxL
       have HPB:=Lib.hid hpb
       have HNE2:=Lib.hid HNE.out
       clear hpm hasc hq2 hg2 hml ht2 hxG ht3 hxL hxl hqe hcut hp hpb ho2 hc2 hb2 wr3 hb4 hbb hr0 hW3 hct1 hct2 hct4 hct5 hcte hrowp hcellp hc32 hcmx hBq hgq hcm HSRT HQ HT HO HC HB H32 how HNE hlen hRl
       generalize hux:idC x = ux at h32x HTH HON HXL HW3 HSZ HNEW HTS HO4 HQ4 HC4 HB4 HR4 HR3 HR0 HLKC hB4
       go_wp2_with (first
        | (refine wpList_load_mid rfl 24 _ rfl gq oq rfl ux _ HR0.out Tryz.underlying24 rfl h32x ?_)
        | (refine wpList_store_list rfl 24 _ _ rfl w2.heap.size 0 ux rfl rfl 32 HXL.out HTH.out h32 HON.out ?_;rw [HW3.out])
        | (refine wpList_slice_run rfl 28 _ _ rfl _ _ rfl rfl _ (HSL.out _) ?_)
        | (refine wpList_load_mid rfl 24 _ rfl w2.heap.size 0 rfl ux _ HR3.out Tryz.underlying24 rfl h32x ?_)
        | (refine wpList_buildSlice_one rfl (.tmp 60) 28 24 rfl ux zi rfl Tryz.underlying28 HSZ.out hzi (by rw [HXL.out];omega) (by rw [HXL.out];omega) ?_)
        | (refine wpList_append_q rfl (.tmp 59) (.tmp 61) 28 rfl (r2 + 1) 24 i0 (.agg zi) 32 32 Tryz.underlying28 hi hz0 hz1 hz2 HZI.out (by decide) _ T.length (idsF T) rfl HO4.out (some ⟨W3.heap.size,0,none⟩) 1 1 ux rfl (by rw [HXL.out]) (fun _ => ⟨_,rfl,HNEW.out⟩) HON.out (by unfold maxLen;omega) (by omega) hB4 ?_))
       intro o5 w5 ho5 hg5 hf5
       have HO5:Hid (OwnQ w5 (r2 + 1) 32 o5 (T ++ [x]).length (idsF (T ++ [x]))):=Lib.hid (by rw [HTS.out,List.length_append,List.length_singleton];exact ho5)
       have HQ5:=Lib.hid (HQ4.out.grown hg5 (fun k hk e => by rw [HPB.out] at hk;exact HNE2.out k e.symm hk))
       have HC5:=Lib.hid (HC4.out.grown hg5 (fun e => by have:=(HOB.out _ e.symm).1;omega))
       have HB5:=Lib.hid (HB4.out.grown hg5 HB4.out.size (fun k hk => by have:=(HOB.out k hk).1;omega))
       have HR5:=Lib.hid (range_grown HR4.out hg5 (fun e => by have:=(HOB.out _ e).2;omega))
       have HOFF:Hid (∀ k,o5.ownBlock = some k → (Value.slice (some p) M.length cq).ownBlock ≠ some k):=Lib.hid (fun k hk e => by
        rw [HPB.out] at e
        rcases hf5 with h | h
        ·rw [h] at hk;exact HNE2.out k hk e
        ·have h1:=h k hk
         rw [World.size_alloc] at h1
         have h2:=HGB.out
         have h3:=Option.some.inj e
         omega)
       have HLK5:=Lib.hid (HLKC.out w5 HB5.out)
       have hB5:r2 + 1 ≤ w5.heap.size:=Nat.le_trans hB4 hg5.size
       clear ho5 hg5 hf5 HO4 HQ4 HC4 HB4 HR4 HR3 HR0 HW3 HTH HLKC
       go_wp2_with (first
        | (refine wpList_load_mid rfl 24 _ rfl w2.heap.size 0 rfl ux _ HR5.out Tryz.underlying24 rfl h32x ?_)
        | (refine wpList_lookup_run rfl 110 _ _ false rfl _ _ rfl rfl _ HLK5.out ?_)
        | (refine wpList_field_run rfl 97 _ 1 rfl _ rfl _ (HFLD.out _) ?_))
       go_loopw [68,9] (fun i q wr => Lp5 cm w (r2 + 1) G x (T ++ [x]) M o5 cc.pars.length nm i q wr) (fun i _ _ => (cc.pars.length - intOf i).toNat)
       case atStart => exact ⟨0,nm,rfl,by omega,by simpa using HQ5.out,HO5.out,HOFF.out,by rw [kidsJ_start HXG.out];exact HC5.out,by omega,hB5,HB5.out⟩
       case round =>
        obtain ⟨wi,rfl⟩:∃ wi:World,wi = wr:=⟨_,rfl⟩
        clear HO5 HQ5 HC5 HB5 HOFF HLK5 HR5 HNE2 HPB HFLD
        obtain ⟨k,ni,rfl,hk,hq,ho,hne,hc,hni,hBi,hb⟩:=hrel
        have HQI:=Lib.hid hq
        have HOI:=Lib.hid ho
        have HNI:=Lib.hid hne
        have HCI:=Lib.hid hc
        have HBI:=Lib.hid hb
        clear hq ho hne hc hb
        by_cases hlt:k < cc.pars.length
        ·obtain ⟨br,off,rfl,hbl2,hcell⟩:=HCE.out (by intro e;rw [e] at hlt;simp at hlt)
         have f1:=rangeAt_below (hcell k hlt) HBI.out hbl2
         have hkp:k < (par cm x).length:=by rw [HPA.out];exact hlt
         have h4:cc.pars.length ≤ 4:=by have:=HLO.out.four x;rw [HPA.out] at this;exact this
         have hpe:(par cm x)[k] = cc.pars[k]:=by simp only [HPA.out]
         obtain ⟨z,hz⟩:∃ z,cc.pars[k] = z:=⟨_,rfl⟩
         rw [hz] at hpe f1
         have hzl:z.length = 32:=HLO.out.l32 _ (HLO.out.pars x HXIL.out _ (by rw [← hpe];exact List.getElem_mem hkp))
         obtain ⟨c,hcv⟩:∃ c,kids cm (G.erase x) z = c:=⟨_,rfl⟩
         have hcle:c ≤ 1000:=by
          have h1:=kids_le (cm:=cm) (G.erase x) z
          rw [hcv] at h1
          have h2:=(HT3.out.len).2.1
          omega
         have hat:kidsJ cm G x k z = c + 1:=by
          have:=kidsJ_at (G:=G) hkp
          rw [hpe,hcv] at this
          exact this
         have HNX:Hid (∀ q,kidsJ cm G x (k + 1) q = if q = z then c else kidsJ cm G x k q):=Lib.hid (fun q => by
          rw [kidsJ_next hkp (HLO.out.nod x),hpe]
          by_cases e:q = z
          ·rw [if_pos e,if_pos e,e,hat];rfl
          ·rw [if_neg e,if_neg e])
         have HFI:Hid (((par cm x).take (k + 1)).filter (fun p => decide (kids cm (G.erase x) p = 0)) = ((par cm x).take k).filter (fun p => decide (kids cm (G.erase x) p = 0)) ++ if c = 0 then [z] else []):=Lib.hid (by
          rw [List.take_succ_eq_append_getElem hkp,hpe,List.filter_append]
          by_cases h0:c = 0
          ·rw [if_pos h0];simp [hcv,h0]
          ·rw [if_neg h0];simp [hcv,h0])
         have hRk:(((par cm x).take k).filter (fun p => decide (kids cm (G.erase x) p = 0))).length ≤ 4:=Nat.le_trans (List.length_filter_le _ _) (by rw [List.length_take,HPA.out];omega)
         obtain ⟨F,hF⟩:∃ F,((par cm x).take k).filter (fun p => decide (kids cm (G.erase x) p = 0)) = F:=⟨_,rfl⟩
         rw [hF] at HFI hRk HQI
         have hzc:(idC z).length = 32:=by rw [idC_len,hzl]
         have h32z:=h32_of hzc
         obtain ⟨W5,hW5⟩:∃ W5,(wi.alloc (.cells zi 24)).setCells wi.heap.size 0 (idC z) = W5:=⟨_,rfl⟩
         have wr5:=wrote (by rw [hzc,HZI.out]) (by rw [HZI.out];omega) hW5
         have hc5:CntM W5.drew w.heap.size ni (kidsJ cm G x k):=(HCI.out.on wr5.bel).on (Below.refl _ _).drew
         have hni:ni < maxLen:=by unfold maxLen;omega
         obtain ⟨v0,st,w6,he1,he2,he3,he4⟩:=hc5.entry Tryz.underlying114 hni hzl
         have hlk:=hc5.look Tryz.underlying114 hzl W5.drew (Below.refl _ _)
         obtain ⟨w7,hs1,hs2,hs3⟩:=he4 w6 c rfl
         rw [hat] at hlk he3
         have hlk7:=hs3.look Tryz.underlying114 hzl w7 (Below.refl _ _)
         rw [if_pos rfl] at hlk7
         obtain ⟨cI,hcI⟩:∃ cI:Int,((c + 1:Nat):Int) = cI:=⟨_,rfl⟩
         have hcc:(c:Int) = cI - 1:=by omega
         rw [hcI] at hlk he3
         rw [hcc] at hs1
         have hwr:IntKind.i64.wrap (cI - 1) = cI - 1:=IntWalk.i64_in _ (by omega)
         have HTH5:=Lib.hid (there_alloc wi zi 24 HZI.out)
         have hcbw:w.heap.size < wi.heap.size:=HCI.out.lt
         have HS0:Hid (W5.drew.rangeAt wi.heap.size 0 (idC z) ∧ (Instr.lookup 114 (.map (some w.heap.size)) (.agg (idC z).toArray) false).run Tryz.prog W5.drew = .ok (.int .i64 cI) W5.drew):=Lib.hid ⟨wr5.row,hlk⟩
         have HS6:Hid (w6.rangeAt wi.heap.size 0 (idC z) ∧ (Instr.lookup 114 (.map (some w.heap.size)) (.agg (idC z).toArray) false).run Tryz.prog w6 = .ok (.int .i64 cI) w6):=Lib.hid ⟨range_grown (w:=W5.drew) wr5.row he2 (fun e => by have:=Option.some.inj e;omega),he3 w6 rfl⟩
         have hgb:wi.grownBy w7 (some w.heap.size):=grownBy_trans' (grownBy_trans' (grown_none (below_grownBy (wr5.bel.drew)) _) he2) hs2
         have hg57:W5.drew.grownBy w7 (some w.heap.size):=grownBy_trans' he2 hs2
         have HR7:=Lib.hid (range_grown (w:=W5.drew) wr5.row hg57 (fun e => by have:=Option.some.inj e;omega))
         have HC7:=Lib.hid (hs3.ext (fun q _ => (HNX.out q).symm))
         have HQ7:=Lib.hid (HQI.out.grown hgb (fun k hk e => by have:=(HQI.out.lt k hk).1;have:=Option.some.inj e;omega))
         have HO7:=Lib.hid (HOI.out.grown hgb (fun k hk e => by have:=(HOI.out.lt k hk).1;have:=Option.some.inj e;omega))
         have HB7:=Lib.hid (HBI.out.grown hgb HBI.out.size (fun j hj => by cases hj;exact Nat.le_refl _))
         have hB7:r2 + 1 ≤ w7.heap.size:=Nat.le_trans hBi hgb.size
         have HE1:=Lib.hid he1
         have HE5:=Lib.hid hs1
         have HLK7:=Lib.hid hlk7
         have HZC2:=Lib.hid hzc
         have HZO:=Lib.hid (idC_one z)
         have HW5:=Lib.hid hW5
         have F1:=Lib.hid f1
         have HSZ5:Hid (∀ w,(sizeOf 24).run Tryz.prog w = .ok (idC z).length w):=Lib.hid (fun w => by rw [hzc];kernel_rfl)
         have HF1:Hid (idsF (M ++ (F ++ [z])) = idsF (M ++ F) ++ idC z):=Lib.hid (by rw [← List.append_assoc];exact idsF_snoc _ _)
         have k0:(0:Int) ≤ k:=by omega
         have k1:(k:Int) < cc.pars.length:=by omega
         have d1:decide ((k:Int) < cc.pars.length) = true:=decide_eq_true k1
         clear hcell hkp hpe hzc hW5 wr5 hc5 hni he1 he2 he3 he4 hlk hs1 hs2 hs3 hgb hg57 f1 HNX hat hF hz hlk7 hcI HQI HOI HCI HBI
         generalize hux2:idC z = uz at h32z HS0 HS6 HE1 HZC2 HZO HW5 F1 HR7 HLK7 HSZ5 HF1
         clear hux2
         go_wp2_with (first
          | (refine wpList_load_mid rfl 24 _ rfl br (off + k * 32) rfl uz _ F1.out Tryz.underlying24 rfl h32z ?_)
          | (refine wpList_store_list rfl 24 _ _ rfl wi.heap.size 0 uz rfl rfl 32 HZC2.out HTH5.out h32 HZO.out ?_;rw [HW5.out]))
         have hS0:=HS0.out
         refine wp_region_L 6 (fun w' => w'.rangeAt wi.heap.size 0 uz ∧ (Instr.lookup 114 (.map (some w.heap.size)) (.agg uz.toArray) false).run Tryz.prog w' = .ok (.int .i64 cI) w') (by kernel_rfl) (by kernel_rfl) ?_
         refine WL.take (i:=0) (v:=?_) rfl (by kernel_rfl) (by decide) (by decide +kernel) (by decide +kernel) (fun _ _ _ h => h) rfl ?_ hS0 ?_
         rotate_left
         ·(intro w' hSw;(try dsimp only at hSw);go_simp;(try with_reducible rfl))
         simp only [Act.put];(try simp only [List.getElem_toArray]);(try simp only [List.getElem_cons_succ]);(try simp only [List.getElem_cons_zero]);(try simp only [List.setIfInBounds_toArray]);(try simp only [List.set_cons_succ]);(try simp only [List.set_cons_zero])
         refine WL.take (i:=1) (v:=_) rfl (by kernel_rfl) (by decide) (by decide +kernel) (by decide +kernel) (fun _ _ _ h => h) rfl (fun w' hSw => exec_row 24 _ (hSw.1) Tryz.underlying24 rfl h32z _ rfl rfl) hS0 ?_
         simp only [Act.put];(try simp only [List.getElem_toArray]);(try simp only [List.getElem_cons_succ]);(try simp only [List.getElem_cons_zero]);(try simp only [List.setIfInBounds_toArray]);(try simp only [List.set_cons_succ]);(try simp only [List.set_cons_zero])
         refine WL.take (i:=2) (v:=.int .i64 cI) rfl (by kernel_rfl) (by decide) (by decide +kernel) (by decide +kernel) (fun _ _ _ h => h) rfl (fun w' hSw => exec_lookupF 114 _ _ _ _ rfl rfl rfl hSw.2) hS0 ?_
         simp only [Act.put];(try simp only [List.getElem_toArray]);(try simp only [List.getElem_cons_succ]);(try simp only [List.getElem_cons_zero]);(try simp only [List.setIfInBounds_toArray]);(try simp only [List.set_cons_succ]);(try simp only [List.set_cons_zero])
         refine WL.take (i:=3) (v:=?_) rfl (by kernel_rfl) (by decide) (by decide +kernel) (by decide +kernel) (fun _ _ _ h => h) rfl ?_ hS0 ?_
         rotate_left
         ·(intro w' hSw;(try dsimp only at hSw);go_simp;(try with_reducible rfl))
         simp only [Act.put];(try simp only [List.getElem_toArray]);(try simp only [List.getElem_cons_succ]);(try simp only [List.getElem_cons_zero]);(try simp only [List.setIfInBounds_toArray]);(try simp only [List.set_cons_succ]);(try simp only [List.set_cons_zero])
         refine WL.one (i:=4) rfl (by decide) (by decide +kernel) ?_
         refine wpList_entry_run rfl 114 (.tmp 72) (.tmp 73) rfl _ _ rfl rfl _ HE1.out ?_
         simp only [Act.put];(try simp only [List.getElem_toArray]);(try simp only [List.getElem_cons_succ]);(try simp only [List.getElem_cons_zero]);(try simp only [List.setIfInBounds_toArray]);(try simp only [List.set_cons_succ]);(try simp only [List.set_cons_zero])
         have hS6:=HS6.out
         refine ⟨hS6,?_⟩
         refine WL.take (i:=5) (v:=?_) rfl (by kernel_rfl) (by decide) (by decide +kernel) (by decide +kernel) (fun _ _ _ h => h) rfl ?_ hS6 ?_
         rotate_left
         ·(intro w' hSw;(try dsimp only at hSw);go_simp;(try with_reducible rfl))
         simp only [Act.put];(try simp only [List.getElem_toArray]);(try simp only [List.getElem_cons_succ]);(try simp only [List.getElem_cons_zero]);(try simp only [List.setIfInBounds_toArray]);(try simp only [List.set_cons_succ]);(try simp only [List.set_cons_zero])
         refine WL.last (n:=6) rfl rfl (by decide +kernel) (by decide +kernel) ?_
         refine wpList_estore_run rfl 114 (.tmp 72) (.tmp 77) (.tmp 75) rfl _ _ _ rfl rfl rfl HE5.out ?_
         clear hS0 hS6 HS0 HS6 HE1 HE5 hwr
         have hFl:(M ++ F).length ≤ 1004:=by rw [List.length_append];omega
         have HLF:Hid ((M ++ (F ++ [z])).length = (M ++ F).length + 1):=Lib.hid (by simp;omega)
         have HME:Hid (M ++ F = M ++ F):=Lib.hid rfl
         obtain ⟨MF,hMF⟩:∃ MF,M ++ F = MF:=⟨_,rfl⟩
         rw [hMF] at hFl HQ7 HF1 HLF
         have HMF:=Lib.hid hMF
         clear hMF HME
         by_cases h0:c = 0
         ·rw [if_pos h0] at HFI
          rw [h0] at HLK7
          have HCZ:=Lib.hid hcc
          have HCA:=Lib.hid hcv
          clear hcc hcv h0
          have hb8:Below w7.heap.size w7 (w7.alloc (.cells uz.toArray 24)):=(Below.refl _ _).alloc (Nat.le_refl _) _
          have HQ8:=Lib.hid (HQ7.out.below hb8)
          have HO8:=Lib.hid (HO7.out.below hb8)
          have HC8:=Lib.hid (HC7.out.on hb8)
          have HB8:=Lib.hid (HB7.out.trans (hb8.mono HB7.out.size))
          have HNEW:Hid (∀ j u,uz[j]? = some u → (w7.alloc (.cells uz.toArray 24)).cell? ((⟨w7.heap.size,0,none⟩:Addr).add j) = some u):=Lib.hid (fun j u hj => cells_newL _ uz _ j u hj)
          have hcb7:=HC7.out.lt
          have hcw:w.heap.size < r2 + 1:=by have:=hwr2;omega
          have HLK8:Hid ((Instr.lookup 114 (.map (some w.heap.size)) (.agg uz.toArray) false).run Tryz.prog w7 = .ok (.int .i64 0) w7):=Lib.hid HLK7.out
          clear hb8 HLK7
          go_wp2_with (first
           | (refine wpList_load_mid rfl 24 _ rfl wi.heap.size 0 rfl uz _ HR7.out Tryz.underlying24 rfl h32z ?_)
           | (refine wpList_lookup_run rfl 114 _ _ false rfl _ _ rfl rfl _ HLK8.out ?_)
           | (refine wpList_buildSlice_one rfl (.tmp 83) 28 24 rfl uz zi rfl Tryz.underlying28 HSZ5.out hzi (by rw [HZC2.out];omega) (by rw [HZC2.out];omega) ?_)
           | (refine wpList_append_q rfl (.tmp 82) (.tmp 84) 28 rfl (r2 + 1) 24 i0 (.agg zi) 32 32 Tryz.underlying28 hi hz0 hz1 hz2 HZI.out (by decide) _ MF.length (idsF MF) rfl HQ8.out (some ⟨w7.heap.size,0,none⟩) 1 1 uz rfl (by rw [HZC2.out]) (fun _ => ⟨_,rfl,HNEW.out⟩) HZO.out (by unfold maxLen;omega) (by omega) (by rw [World.size_alloc];omega) ?_))
          intro q9 w9 hq9 hg9 hf9
          have HEND:Hid (Lp5 cm w (r2 + 1) G x (T ++ [x]) M o5 cc.pars.length nm (.int .i64 ((k + 1:Nat):Int)) q9 w9):=Lib.hid ⟨k + 1,ni + 1,rfl,by omega,by
           rw [HFI.out,HF1.out,HLF.out]
           exact hq9,HO8.out.grown hg9 (fun k' hk' e => HNI.out k' hk' e.symm),fun k' hk' e => by
           rcases hf9 with h | h
           ·rw [h] at e;exact HNI.out k' hk' e
           ·have h1:=h k' e
            have h2:=(HO7.out.lt k' hk').2
            rw [World.size_alloc] at h1
            omega,HC8.out.grown hg9 (fun e => by have:=(HQ8.out.lt _ e.symm).1;omega),by omega,by
           have:=hg9.size
           rw [World.size_alloc] at this
           omega,HB8.out.grown hg9 HB8.out.size (fun k' hk' => by have:=(HQ8.out.lt k' hk').1;omega)⟩
          clear hq9 hg9 hf9
          go_wp2
          go_roundw
          case rel => exact HEND.out
          case measure => simp [intOf];omega
         ·rw [if_neg h0,List.append_nil] at HFI
          have d0:((c:Int) == 0) = false:=by rw [beq_eq_false_iff_ne];omega
          have HEND:Hid (∀ q,OwnQ w7 (r2 + 1) 32 q MF.length (idsF MF) → (∀ k,o5.ownBlock = some k → q.ownBlock ≠ some k) → Lp5 cm w (r2 + 1) G x (T ++ [x]) M o5 cc.pars.length nm (.int .i64 ((k + 1:Nat):Int)) q w7):=Lib.hid (fun q hq hne => ⟨k + 1,ni + 1,rfl,by omega,by rw [HFI.out,HMF.out];exact hq,HO7.out,hne,HC7.out,by omega,hB7,HB7.out⟩)
          clear hcc hcv h0
          go_wp2_with (first
           | (refine wpList_load_mid rfl 24 _ rfl wi.heap.size 0 rfl uz _ HR7.out Tryz.underlying24 rfl h32z ?_)
           | (refine wpList_lookup_run rfl 114 _ _ false rfl _ _ rfl rfl _ HLK7.out ?_))
          go_roundw
          case rel => exact HEND.out _ HQ7.out HNI.out
          case measure => simp [intOf];omega
        ·have hke:k = cc.pars.length:=by omega
         have d1:decide ((k:Int) < cc.pars.length) = false:=decide_eq_false (by omega)
         have hTk:((par cm x).take k) = par cm x:=List.take_of_length_le (by rw [HPA.out];omega)
         have hq2:=HQI.out
         rw [hTk] at hq2
         have hc2:=HCI.out
         rw [kidsJ_end G x (by rw [HPA.out];omega)] at hc2
         have h4:=HLO.out.four x
         rw [HPA.out] at h4
         have HEND:Hid (∀ q,OwnQ wi (r2 + 1) 32 q (M ++ (par cm x).filter fun p => decide (kids cm (G.erase x) p = 0)).length (idsF (M ++ (par cm x).filter fun p => decide (kids cm (G.erase x) p = 0))) → (∀ k,o5.ownBlock = some k → q.ownBlock ≠ some k) → Lp4 cm L w (r2 + 1) (gk - 1) o5 q wi):=Lib.hid (fun q hq hne => ⟨T ++ [x],G.erase x,_,ni,HT3.out,by
          rw [List.length_append,List.length_singleton]
          have:=(HT3.out.len).1
          rw [List.length_append,List.length_singleton] at this
          omega,HOI.out,hq,hne,hc2,by rw [List.length_append,List.length_singleton];omega,HBI.out⟩)
         have HQ2:=Lib.hid hq2
         have HGK:Hid (gk - 1 < gk):=Lib.hid (by
          have:=(HT3.out.len).1
          rw [List.length_append,List.length_singleton] at this
          omega)
         clear hke hTk hq2 hc2
         go_wp2
         go_roundg (gk - 1)
         case measure => exact HGK.out
         case rel => exact HEND.out _ HQ2.out HNI.out
    ·intro x c w3 hxL hx hfx hrg2 hlt hg2 hs3 hen
     have hxl:(idC x).length = 32:=by rw [idC_len,hx]
     have h32x:=h32_of hxl
     have h32:(Tryz.prog.info? 24).map (·.size) = some 32:=by kernel_rfl
     have hG2:G2.length ≤ 1000:=by
      have:=HP.out.length_eq
      rw [List.length_append] at this
      have:=HLO.out.len
      omega
     obtain ⟨W4,hW4⟩:∃ W4,(w3.alloc (.cells zi 24)).setCells w3.heap.size 0 (idC x) = W4:=⟨_,rfl⟩
     have wr4:=wrote (by rw [hxl,HZI.out]) (by rw [HZI.out];omega) hW4
     have HRG4:=Lib.hid (hrg2.on wr4.bel)
     have HLT4:=Lib.hid (show W4.rangeLeft b r2 < wp.rangeLeft b r2 by rw [rangeLeft_heap (wr4.bel.block b hrg2.map.lt) (wr4.bel.block _ hrg2.lt)];exact hlt)
     have hc3:=HC.out.grown hg2 (fun e => by have:=Option.some.inj e;omega)
     have hc4:=hc3.on wr4.bel
     have HC4:=Lib.hid hc4
     have hlk:=hc4.look Tryz.underlying114 hx W4 (Below.refl _ _)
     have hb3:=HB.out.grown hg2 HB.out.size (fun j hj => by cases hj;omega)
     have HB4:=Lib.hid (hb3.trans (wr4.bel.mono hb3.size))
     have hq3:=HQ.out.grown hg2 (fun k hk e => by have:=(HQ.out.lt k hk).1;have:=Option.some.inj e;omega)
     have HQ4:=Lib.hid (hq3.below wr4.bel)
     have hr2l:r2 + 1 ≤ W4.heap.size:=by have:=HRG4.out.lt;omega
     have HPE:Hid (((G2 ++ [x]) ++ Lr2.erase x).Perm L):=Lib.hid (by
      rw [List.append_assoc]
      exact ((List.perm_cons_erase hxL).symm.append_left G2).trans HP.out)
     have HFI:Hid ((G2 ++ [x]).filter (fun x => decide (kids cm L x = 0)) = G2.filter (fun x => decide (kids cm L x = 0)) ++ if kids cm L x = 0 then [x] else []):=Lib.hid (by
      rw [List.filter_append]
      by_cases h0:kids cm L x = 0
      ·rw [if_pos h0];simp [h0]
      ·rw [if_neg h0];simp [h0])
     have hRl:(G2.filter fun x => decide (kids cm L x = 0)).length ≤ 1000:=Nat.le_trans (List.length_filter_le _ _) hG2
     have HTH:=Lib.hid (there_alloc w3 zi 24 HZI.out)
     have HON:=Lib.hid (idC_one x)
     have HXL:=Lib.hid hxl
     have HROW:=Lib.hid wr4.row
     have HW4:=Lib.hid hW4
     have HSZ:Hid (∀ w,(sizeOf 24).run Tryz.prog w = .ok (idC x).length w):=Lib.hid (fun w => by rw [hxl];kernel_rfl)
     have HF1:Hid (idsF ((G2.filter fun x => decide (kids cm L x = 0)) ++ [x]) = idsF (G2.filter fun x => decide (kids cm L x = 0)) ++ idC x):=Lib.hid (idsF_snoc _ _)
     obtain ⟨R,hR⟩:∃ R,(G2.filter fun x => decide (kids cm L x = 0)) = R:=⟨_,rfl⟩
     rw [hR] at HQ4 HFI hRl HF1
     clear hxl hrg hrg2 hlt hg2 hs3 hc3 hc4 hb3 hq3 wr4 hW4 hR HQ HP HC HB hfx hxL
     generalize hux:idC x = ux at hen h32x HTH HON HXL HROW HW4 HSZ HF1 hlk ⊢
     clear hux
     by_cases h0:kids cm L x = 0
     ·rw [if_pos h0] at HFI
      rw [h0] at hlk
      have HLK:=Lib.hid hlk
      clear h0 hlk
      have hb5:Below W4.heap.size W4 (W4.alloc (.cells ux.toArray 24)):=(Below.refl _ _).alloc (Nat.le_refl _) _
      have HQ5:=Lib.hid (HQ4.out.below hb5)
      have HNEW:Hid (∀ j u,ux[j]? = some u → (W4.alloc (.cells ux.toArray 24)).cell? ((⟨W4.heap.size,0,none⟩:Addr).add j) = some u):=Lib.hid (fun j u hj => cells_newL _ ux _ j u hj)
      have HB5:=Lib.hid hb5
      have e0:((0:Nat):Int) = 0:=rfl
      rw [e0] at HLK
      clear hb5 e0
      go_wp2_with (first
       | (refine wpList_store_list rfl 24 _ _ rfl w3.heap.size 0 ux rfl rfl 32 HXL.out HTH.out h32 HON.out ?_;rw [HW4.out])
       | (refine wpList_load_mid rfl 24 _ rfl w3.heap.size 0 rfl ux _ HROW.out Tryz.underlying24 rfl h32x ?_)
       | (refine wpList_lookup_run rfl 114 _ _ false rfl _ _ rfl rfl _ HLK.out ?_)
       | (refine wpList_buildSlice_one rfl (.tmp 46) 28 24 rfl ux zi rfl Tryz.underlying28 HSZ.out hzi (by rw [HXL.out];omega) (by rw [HXL.out];omega) ?_)
       | (refine wpList_append_q rfl (.tmp 45) (.tmp 47) 28 rfl (r2 + 1) 24 i0 (.agg zi) 32 32 Tryz.underlying28 hi hz0 hz1 hz2 HZI.out (by decide) _ R.length (idsF R) rfl HQ5.out (some ⟨W4.heap.size,0,none⟩) 1 1 ux rfl (by rw [HXL.out]) (fun _ => ⟨_,rfl,HNEW.out⟩) HON.out (by unfold maxLen;omega) (by omega) (by rw [World.size_alloc];omega) ?_))
      intro v' w6 hq6 hg6 _
      have hoff:∀ k,k ≤ r2 → (some k:Option Nat) ≠ u9.ownBlock:=fun k hk e => by have:=(HQ5.out.lt k e.symm).1;omega
      have hg7:W4.grownBy w6 u9.ownBlock:=below_grown' HB5.out hg6
      have HEND:Hid (Lp3 cm g L w b n r2 nn v' w6):=Lib.hid ⟨G2 ++ [x],Lr2.erase x,HRG4.out.grown hg7 (hoff b (by omega)) (hoff r2 (Nat.le_refl _)),HPE.out,by
       rw [HFI.out,List.length_append,List.length_singleton,HF1.out];exact hq6,HC4.out.grown hg7 (hoff _ (by omega)),HB4.out.grown hg7 HB4.out.size (fun k hk => by have:=(HQ5.out.lt k hk).1;omega)⟩
      have HLT6:Hid (w6.rangeLeft b r2 < wp.rangeLeft b r2):=Lib.hid (by
       rw [rangeLeft_heap (hg7.block b HRG4.out.map.lt (hoff b (by omega))) (hg7.block r2 HRG4.out.lt (hoff r2 (Nat.le_refl _)))]
       exact HLT4.out)
      clear hoff hg7 hq6 hg6
      go_wp2
      go_roundw
      case rel => exact HEND.out
      case measure => exact HLT6.out
     ·rw [if_neg h0,List.append_nil] at HFI
      have d0:((kids cm L x:Int) == 0) = false:=by rw [beq_eq_false_iff_ne];omega
      have HEND:Hid (∀ q,OwnQ W4 (r2 + 1) 32 q R.length (idsF R) → Lp3 cm g L w b n r2 nn q W4):=Lib.hid (fun q hq => ⟨G2 ++ [x],Lr2.erase x,HRG4.out,HPE.out,by rw [HFI.out];exact hq,HC4.out,HB4.out⟩)
      have HLK:=Lib.hid hlk
      clear hlk
      generalize kids cm L x = c0 at h0 d0 HLK
      clear h0
      go_wp2_with (first
       | (refine wpList_store_list rfl 24 _ _ rfl w3.heap.size 0 ux rfl rfl 32 HXL.out HTH.out h32 HON.out ?_;rw [HW4.out])
       | (refine wpList_load_mid rfl 24 _ rfl w3.heap.size 0 rfl ux _ HROW.out Tryz.underlying24 rfl h32x ?_)
       | (refine wpList_lookup_run rfl 114 _ _ false rfl _ _ rfl rfl _ HLK.out ?_))
      go_roundw
      case rel => exact HEND.out _ HQ4.out
      case measure => exact HLT4.out
  ·intro x c w2 hxL hx hfx hrg2 hlt hg2 hs2 hen
   obtain ⟨cc,pv,hcm,rfl,hrow,_⟩:=HVAL.out x c hfx
   obtain ⟨ao,cap,rfl,hmax,hcells⟩:=hrow.open
   unfold vlV at hen ⊢
   have hcl:(cmC cc.tree (.slice ao cc.pars.length cap) cc.text).length = 34:=cmC_len _ _ _ (HLO.out.tree x cc hcm)
   have hco:=cmC_one cc.tree ao cc.pars.length cap cc.text
   have hc32:(cmC cc.tree (.slice ao cc.pars.length cap) cc.text)[32]? = some (.slice ao cc.pars.length cap):=by
    unfold cmC
    rw [List.getElem?_append_right (by rw [idC_len,HLO.out.tree x cc hcm];exact Nat.le_refl _),idC_len,HLO.out.tree x cc hcm];rfl
   obtain ⟨W3,hW3⟩:∃ W3,(w2.alloc (.cells zc 97)).setCells w2.heap.size 0 (cmC cc.tree (.slice ao cc.pars.length cap) cc.text) = W3:=⟨_,rfl⟩
   have wr3:=wrote (by rw [hcl,HZC.out]) (by rw [HZC.out];omega) hW3
   have c32:W3.cell? ⟨w2.heap.size,32,none⟩ = some (.slice ao cc.pars.length cap):=by have:=wr3.row 32 _ hc32;rwa [Nat.zero_add] at this
   have HTH:=Lib.hid (there_alloc w2 zc 97 HZC.out)
   have HRG3:=Lib.hid (hrg2.on wr3.bel)
   have HC2:=Lib.hid (HC.out.grown hg2 (fun e => by have:=Option.some.inj e;omega))
   have HC3:=Lib.hid (HC2.out.on wr3.bel)
   have HB2:=Lib.hid (HB.out.grown hg2 HB.out.size (fun j hj => by cases hj;omega))
   have HB3:=Lib.hid (HB2.out.trans (wr3.bel.mono HB2.out.size))
   have HLT:=Lib.hid (show W3.rangeLeft b (w.heap.size + 1) < wo.rangeLeft b (w.heap.size + 1) by rw [rangeLeft_heap (wr3.bel.block b hrg2.map.lt) (wr3.bel.block _ hrg2.lt)];exact hlt)
   have h34:(Tryz.prog.info? 97).map (·.size) = some 34:=by kernel_rfl
   have HCL:=Lib.hid hcl
   have HCO:=Lib.hid hco
   have HCE:=Lib.hid hcells
   have HPA:=Lib.hid (par_of hcm)
   have h4:cc.pars.length ≤ 4:=by have:=HLO.out.four x;rw [HPA.out] at this;exact this
   have HW3:=Lib.hid hW3
   have HXL:=Lib.hid hxL
   clear hcl hco hc32 hW3 wr3 hrg hrg2 hlt hg2 hs2 hrow hcells hfx hxL hcm HC2
   generalize hct:cmC cc.tree (.slice ao cc.pars.length cap) cc.text = ct at hen HCL HCO HW3 ⊢
   clear hct
   go_wp2_with (refine wpList_store_list rfl 97 _ _ rfl w2.heap.size 0 ct rfl rfl 34 HCL.out HTH.out h34 HCO.out ?_;rw [HW3.out])
   go_loopw [24] (fun i wr => Lp2 cm g (Lr.erase x) w W3 b n G x cc.pars.length i wr) (fun i _ => (cc.pars.length - intOf i).toNat)
   case atStart => exact ⟨0,nn,rfl,by omega,HRG3.out,by rw [kidsI_0];exact HC3.out,by omega,World.grownBy.refl _ _⟩
   case round =>
    obtain ⟨wi,rfl⟩:∃ wi:World,wi = wr:=⟨_,rfl⟩
    obtain ⟨k,ni,rfl,hk,hrgi,hci,hni,hgi⟩:=hrel
    have HRGI:=Lib.hid hrgi
    have HCI:=Lib.hid hci
    have HGI:=Lib.hid hgi
    have HBI:=Lib.hid (HB3.out.grown hgi HB3.out.size (fun j hj => by cases hj;exact Nat.le_refl _))
    clear hrgi hci hgi
    by_cases hlt:k < cc.pars.length
    ·obtain ⟨br,off,rfl,hbl,hcell⟩:=HCE.out (by intro e;rw [e] at hlt;simp at hlt)
     have f1:=rangeAt_below (hcell k hlt) HBI.out hbl
     have hkp:k < (par cm x).length:=by rw [HPA.out];exact hlt
     have hyl:cc.pars[k].length = 32:=HLO.out.l32 _ (HLO.out.pars x (HP.out.mem_iff.1 (List.mem_append_right _ HXL.out)) _ (by rw [HPA.out];exact List.getElem_mem hlt))
     have hpe:(par cm x)[k] = cc.pars[k]:=by simp only [HPA.out]
     have HNX:=Lib.hid (kidsI_next G x hkp (HLO.out.nod x))
     rw [hpe] at HNX
     have hyc:(idC cc.pars[k]).length = 32:=by rw [idC_len,hyl]
     have h32y:=h32_of hyc
     obtain ⟨W5,hW5⟩:∃ W5,(wi.alloc (.cells zi 24)).setCells wi.heap.size 0 (idC cc.pars[k]) = W5:=⟨_,rfl⟩
     have wr5:=wrote (by rw [hyc,HZI.out]) (by rw [HZI.out];omega) hW5
     have hc5:CntM W5.drew w.heap.size ni (kidsI cm G x k):=(HCI.out.on wr5.bel).on (Below.refl _ _).drew
     have hni:ni < maxLen:=by unfold maxLen;omega
     obtain ⟨v0,st,w6,he1,he2,he3,he4⟩:=hc5.entry Tryz.underlying114 hni hyl
     have hlk:=hc5.look Tryz.underlying114 hyl W5.drew (Below.refl _ _)
     have hle:=kidsI_le (cm:=cm) G x k cc.pars[k]
     obtain ⟨c,hcv⟩:∃ c,kidsI cm G x k cc.pars[k] = c:=⟨_,rfl⟩
     obtain ⟨w7,hs1,hs2,hs3⟩:=he4 w6 (c + 1) rfl
     rw [hcv] at hlk he3 hle HNX
     rw [show ((c + 1:Nat):Int) = (c:Int) + 1 from by omega] at hs1
     have hwr:IntKind.i64.wrap ((c:Int) + 1) = (c:Int) + 1:=IntWalk.i64_in _ (by omega)
     have HTH5:=Lib.hid (there_alloc wi zi 24 HZI.out)
     have h32:(Tryz.prog.info? 24).map (·.size) = some 32:=by kernel_rfl
     have hcbw:w.heap.size < wi.heap.size:=HCI.out.lt
     have HS0:Hid (W5.drew.rangeAt wi.heap.size 0 (idC cc.pars[k]) ∧ (Instr.lookup 114 (.map (some w.heap.size)) (.agg (idC cc.pars[k]).toArray) false).run Tryz.prog W5.drew = .ok (.int .i64 (c:Int)) W5.drew):=Lib.hid ⟨wr5.row,hlk⟩
     have HS6:Hid (w6.rangeAt wi.heap.size 0 (idC cc.pars[k]) ∧ (Instr.lookup 114 (.map (some w.heap.size)) (.agg (idC cc.pars[k]).toArray) false).run Tryz.prog w6 = .ok (.int .i64 (c:Int)) w6):=Lib.hid ⟨range_grown (w:=W5.drew) wr5.row he2 (fun e => by have:=Option.some.inj e;omega),he3 w6 rfl⟩
     have hgb:wi.grownBy w7 (some w.heap.size):=grownBy_trans' (grownBy_trans' (grown_none (below_grownBy (wr5.bel.drew)) _) he2) hs2
     have hrw:b ≠ w.heap.size ∧ w.heap.size + 1 ≠ w.heap.size:=⟨by omega,by omega⟩
     have HRG7:=Lib.hid (HRGI.out.grown hgb (fun e => hrw.1 (Option.some.inj e)) (fun e => hrw.2 (Option.some.inj e)))
     have HC7:=Lib.hid (hs3.ext (fun q _ => (HNX.out q).symm))
     have HG7:=Lib.hid (grownBy_trans' HGI.out hgb)
     have HE1:=Lib.hid he1
     have HE5:=Lib.hid hs1
     have HYC:=Lib.hid hyc
     have HYO:=Lib.hid (idC_one cc.pars[k])
     have HW5:=Lib.hid hW5
     have F1:=Lib.hid f1
     have k0:(0:Int) ≤ k:=by omega
     have k1:(k:Int) < cc.pars.length:=by omega
     have d1:decide ((k:Int) < cc.pars.length) = true:=decide_eq_true k1
     clear hcell hkp hyl hpe hyc hW5 wr5 hc5 hni he1 he2 he3 he4 hlk hle hs1 hs2 hs3 hgb hrw f1 hcv HNX
     generalize hux:idC cc.pars[k] = uy at h32y HS0 HS6 HE1 HYC HYO HW5 F1
     clear hux
     go_wp2_with (first
      | (refine wpList_load_mid rfl 24 _ rfl br (off + k * 32) rfl uy _ F1.out Tryz.underlying24 rfl h32y ?_)
      | (refine wpList_store_list rfl 24 _ _ rfl wi.heap.size 0 uy rfl rfl 32 HYC.out HTH5.out h32 HYO.out ?_;rw [HW5.out]))
     have hS0:=HS0.out
     refine wp_region_L 6 (fun w' => w'.rangeAt wi.heap.size 0 uy ∧ (Instr.lookup 114 (.map (some w.heap.size)) (.agg uy.toArray) false).run Tryz.prog w' = .ok (.int .i64 (c:Int)) w') (by kernel_rfl) (by kernel_rfl) ?_
     refine WL.take (i:=0) (v:=?_) rfl (by kernel_rfl) (by decide) (by decide +kernel) (by decide +kernel) (fun _ _ _ h => h) rfl ?_ hS0 ?_
     rotate_left
     ·(intro w' hSw;(try dsimp only at hSw);go_simp;(try with_reducible rfl))
     simp only [Act.put];(try simp only [List.getElem_toArray]);(try simp only [List.getElem_cons_succ]);(try simp only [List.getElem_cons_zero]);(try simp only [List.setIfInBounds_toArray]);(try simp only [List.set_cons_succ]);(try simp only [List.set_cons_zero])
     refine WL.take (i:=1) (v:=_) rfl (by kernel_rfl) (by decide) (by decide +kernel) (by decide +kernel) (fun _ _ _ h => h) rfl (fun w' hSw => exec_row 24 _ (hSw.1) Tryz.underlying24 rfl h32y _ rfl rfl) hS0 ?_
     simp only [Act.put];(try simp only [List.getElem_toArray]);(try simp only [List.getElem_cons_succ]);(try simp only [List.getElem_cons_zero]);(try simp only [List.setIfInBounds_toArray]);(try simp only [List.set_cons_succ]);(try simp only [List.set_cons_zero])
     refine WL.take (i:=2) (v:=.int .i64 (c:Int)) rfl (by kernel_rfl) (by decide) (by decide +kernel) (by decide +kernel) (fun _ _ _ h => h) rfl (fun w' hSw => exec_lookupF 114 _ _ _ _ rfl rfl rfl hSw.2) hS0 ?_
     simp only [Act.put];(try simp only [List.getElem_toArray]);(try simp only [List.getElem_cons_succ]);(try simp only [List.getElem_cons_zero]);(try simp only [List.setIfInBounds_toArray]);(try simp only [List.set_cons_succ]);(try simp only [List.set_cons_zero])
     refine WL.take (i:=3) (v:=?_) rfl (by kernel_rfl) (by decide) (by decide +kernel) (by decide +kernel) (fun _ _ _ h => h) rfl ?_ hS0 ?_
     rotate_left
     ·(intro w' hSw;(try dsimp only at hSw);go_simp;(try with_reducible rfl))
     simp only [Act.put];(try simp only [List.getElem_toArray]);(try simp only [List.getElem_cons_succ]);(try simp only [List.getElem_cons_zero]);(try simp only [List.setIfInBounds_toArray]);(try simp only [List.set_cons_succ]);(try simp only [List.set_cons_zero])
     refine WL.one (i:=4) rfl (by decide) (by decide +kernel) ?_
     refine wpList_entry_run rfl 114 (.tmp 28) (.tmp 29) rfl _ _ rfl rfl _ HE1.out ?_
     simp only [Act.put];(try simp only [List.getElem_toArray]);(try simp only [List.getElem_cons_succ]);(try simp only [List.getElem_cons_zero]);(try simp only [List.setIfInBounds_toArray]);(try simp only [List.set_cons_succ]);(try simp only [List.set_cons_zero])
     have hS6:=HS6.out
     refine ⟨hS6,?_⟩
     refine WL.take (i:=5) (v:=?_) rfl (by kernel_rfl) (by decide) (by decide +kernel) (by decide +kernel) (fun _ _ _ h => h) rfl ?_ hS6 ?_
     rotate_left
     ·(intro w' hSw;(try dsimp only at hSw);go_simp;(try with_reducible rfl))
     simp only [Act.put];(try simp only [List.getElem_toArray]);(try simp only [List.getElem_cons_succ]);(try simp only [List.getElem_cons_zero]);(try simp only [List.setIfInBounds_toArray]);(try simp only [List.set_cons_succ]);(try simp only [List.set_cons_zero])
     refine WL.last (n:=6) rfl rfl (by decide +kernel) (by decide +kernel) ?_
     refine wpList_estore_run rfl 114 (.tmp 28) (.tmp 33) (.tmp 31) rfl _ _ _ rfl rfl rfl HE5.out ?_
     clear hS0 hS6
     go_wp2
     go_roundw
     case rel => exact ⟨k + 1,ni + 1,by go_num,by omega,HRG7.out,HC7.out,by omega,HG7.out⟩
     case measure => simp [intOf];omega
    ·have hke:k = cc.pars.length:=by omega
     have d1:decide ((k:Int) < cc.pars.length) = false:=decide_eq_false (by omega)
     have HEND:Hid (Lp1 cm g L w b n wi):=Lib.hid ⟨G ++ [x],Lr.erase x,ni,HRGI.out,by
      rw [List.append_assoc]
      exact ((List.perm_cons_erase HXL.out).symm.append_left G).trans HP.out,by
      have:=HCI.out
      rw [kidsI_end G x (by rw [HPA.out];omega)] at this
      exact this,by rw [List.length_append,List.length_singleton];omega,HBI.out⟩
     have HLT2:Hid (wi.rangeLeft b (w.heap.size + 1) < wo.rangeLeft b (w.heap.size + 1)):=Lib.hid (by
      have h1:=HGI.out
      have h2:=HRG3.out.map.lt
      rw [rangeLeft_heap (h1.block b HRG3.out.map.lt (fun e => by have:=Option.some.inj e;omega)) (h1.block _ HRG3.out.lt (fun e => by have:=Option.some.inj e;omega))]
      exact HLT.out)
     clear hke
     go_wp2
     go_roundw
     case rel => exact HEND.out
     case measure => exact HLT2.out
end Go.Proofs.YtbmiiiccnoiffaaGreatDoor
namespace Go.Proofs.YtbmiiiccnoiffaaGreatDoor
open Go.RowKit Go.Maps
theorem logOn_of {cm:Idl → Option Cmt} {U:List Idl} (hU:CmOk cm U) (ha:Acyc cm) {x:Idl} {S:List Idl} (h:lineL cm x = some S):LogOn cm S:=by
 obtain ⟨k1,k2,k3⟩:=lineL_32 hU h
 obtain ⟨h1,h2⟩:=lineL_some h
 exact ⟨h2,k2,k1,h1.closed,hU.parNodup,fun y => by
  cases e:cm y with
  | none => unfold par;rw [e];simp
  | some c => rw [par_of e];exact hU.four y c e,ha,hU.tree⟩
def firstN (n:Int) (l:List Idl):List Idl:=l.take (min n l.length).toNat
def LgnAns (cm:Idl → Option Cmt) (x:Idl) (n:Int) (w:World) (e:Ending) (w':World):Prop :=
 Below w.heap.size w w' ∧ ((∃ S v,lineL cm x = some S ∧ e = .returned (.tuple #[v,.int .i64 0]) ∧ IdRow w' v (firstN n (logOf cm S))) ∨ (lineL cm x = none ∧ e = .returned (.tuple #[.slice none 0 0,.int .i64 13])))
theorem lgnAns_yes {cm:Idl → Option Cmt} {x:Idl} {n:Int} {w w':World} {S:List Idl} {v:Value} (h:lineL cm x = some S) (hr:IdRow w' v (firstN n (logOf cm S))) (hb:Below w.heap.size w w'):LgnAns cm x n w (.returned (.tuple #[v,.int .i64 0])) w':=⟨hb,.inl ⟨S,v,h,rfl,hr⟩⟩
theorem lgnAns_no {cm:Idl → Option Cmt} {x:Idl} {n:Int} {w w':World} (h:lineL cm x = none) (hb:Below w.heap.size w w'):LgnAns cm x n w (.returned (.tuple #[.slice none 0 0,.int .i64 13])) w':=⟨hb,.inr ⟨h,rfl⟩⟩
theorem IdRow.take {w:World} {ao:Option Addr} {cap:Nat} {l:List Idl} (h:IdRow w (.slice ao l.length cap) l) (k:Nat) (hk:k ≤ l.length):IdRow w (.slice ao k cap) (l.take k):=by
 obtain ⟨ao',cap',e,hm,h2⟩:=h.open
 injection e with e1 e2 e3
 subst e1;subst e3
 refine ⟨ao,cap,by rw [List.length_map,List.length_take,Nat.min_eq_left hk],by rw [List.length_map,List.length_take];omega,fun hne => ?_⟩
 have hl:l ≠ []:=fun e => hne (by rw [e];simp)
 obtain ⟨b,off,rfl,hb,hc⟩:=h2 hl
 refine ⟨b,off,rfl,hb,fun i hi => ?_⟩
 rw [List.length_map,List.length_take] at hi
 have:=hc i (by omega)
 rw [List.getElem_map,List.getElem_take]
 exact this
set_option maxRecDepth 100000 in
set_option maxHeartbeats 1000000 in
theorem hlogn_any (v:Value) (f:Idl → Option Ob) (hf:∀ x o,f x = some o → rightOb o = true) (U:List Idl) (hU:CmOk (cmG f) U) (ha:Acyc (cmG f)) (x:Idl) (n:Int) (w:World) (hs:SrcP w v f) (hx:x.length = 32) :
  Calls Tryz.prog 22 #[v,.agg (idC x).toArray,.int .i64 n] w (LgnAns (cmG f) x n w):=by
 have hxl:(idC x).length = 32:=by rw [idC_len,hx]
 have h32x:=h32_of hxl
 have hb0:Below w.heap.size w (w.alloc (.cells (idC x).toArray 24)):=(Below.refl _ _).alloc (Nat.le_refl _) _
 have HO:=Lib.hid (hof_any v f hf U hU x (w.alloc (.cells (idC x).toArray 24)) (hs.below hb0) hx)
 have HR0:=Lib.hid (range_new w (idC x) 24 rfl)
 have HB0:=Lib.hid hb0
 have HU:=Lib.hid hU
 have HA:=Lib.hid ha
 clear hs hx hf hU hxl hb0 ha
 generalize idC x = ux at h32x HO HR0 HB0
 go_enter Tryz.func22,Tryz.ntmps22
 go_wp2_with (refine wpList_load_mid rfl 24 _ rfl w.heap.size 0 rfl ux _ HR0.out Tryz.underlying24 rfl h32x ?_)
 refine HO.out.mono ?_
 intro e w1 h
 obtain ⟨hb1,⟨S,b,k,hl,rfl,hn,hb,hm⟩ | ⟨hl,rfl⟩⟩:=h
 ·have hon:=logOn_of HU.out HA.out hl
  have HLG:=Lib.hid (hlog_any S hon b k w1 hm)
  have HB1:=Lib.hid (HB0.out.trans (hb1.mono HB0.out.size))
  have HL:=Lib.hid hl
  have HLEN:=Lib.hid (logOf_len (cm:=cmG f) HA.out hon.asc.nodup)
  have HON:=Lib.hid hon
  clear hb1 hm hl hon HO HR0
  go_wp2_with fail
  refine HLG.out.mono ?_
  rintro e w2 ⟨u,rfl,hq,hb2⟩
  have hq2:OwnQ w2 w1.heap.size 32 u (logOf (cmG f) S).length (idsF (logOf (cmG f) S)):=by rw [HLEN.out];exact hq
  have h32:∀ y ∈ logOf (cmG f) S,y.length = 32:=fun y hy => HON.out.l32 y ((logOf_mem HA.out HON.out.asc.nodup y).1 hy)
  have HROW:=Lib.hid (hq2.row h32)
  have HB2:=Lib.hid (HB1.out.trans (hb2.mono HB1.out.size))
  have hl1:(logOf (cmG f) S).length ≤ 1000:=by rw [HLEN.out];exact HON.out.len
  obtain ⟨ao,cap,rfl,hcap⟩:∃ ao cap,u = .slice ao (logOf (cmG f) S).length cap ∧ (logOf (cmG f) S).length ≤ cap:=by
   rcases hq2.2 with ⟨rfl,h0⟩ | ⟨g,off,cap,rfl,_,_,hn,_⟩
   ·exact ⟨none,0,by rw [h0],by omega⟩
   ·exact ⟨_,_,rfl,hn⟩
  have HF:Hid (firstN n (logOf (cmG f) S) = (logOf (cmG f) S).take (min n (logOf (cmG f) S).length).toNat):=Lib.hid rfl
  generalize hlo:logOf (cmG f) S = l at HROW hl1 hcap HF ⊢
  have HLO:=Lib.hid hlo
  clear hlo
  clear hq hq2 hb2 h32 HLEN HON HLG
  go_wp2_with fail
  go_ret2
  refine lgnAns_yes HL.out ?_ HB2.out
  show IdRow w2 (.slice ao (max 0 (min n (l.length:Int))).toNat cap) _
  rw [HLO.out,HF.out,show (max 0 (min n (l.length:Int))).toNat = (min n (l.length:Int)).toNat from by omega]
  exact HROW.out.take _ (by omega)
 ·have HB1:=Lib.hid (HB0.out.trans (hb1.mono HB0.out.size))
  have HL:=Lib.hid hl
  clear hb1 hl HO HR0
  go_wp2
  go_ret2
  exact lgnAns_no HL.out HB1.out
def OldAns (cm:Idl → Option Cmt) (a b:Idl) (w:World) (e:Ending) (w':World):Prop :=
 Below w.heap.size w w' ∧ ((∃ A B,lineL cm a = some A ∧ lineL cm b = some B ∧ e = .returned (.tuple #[.bool (decide (a ∈ B) && decide (a ≠ b)),.int .i64 0])) ∨ ((lineL cm a = none ∨ lineL cm b = none) ∧ e = .returned (.tuple #[.bool false,.int .i64 13])))
theorem oldAns_yes {cm:Idl → Option Cmt} {a b:Idl} {w w':World} {A B:List Idl} {r:Bool} (ha:lineL cm a = some A) (hb:lineL cm b = some B) (hr:r = (decide (a ∈ B) && decide (a ≠ b))) (h:Below w.heap.size w w'):OldAns cm a b w (.returned (.tuple #[.bool r,.int .i64 0])) w':=⟨h,.inl ⟨A,B,ha,hb,by rw [hr]⟩⟩
theorem oldAns_no {cm:Idl → Option Cmt} {a b:Idl} {w w':World} (h:lineL cm a = none ∨ lineL cm b = none) (hb:Below w.heap.size w w'):OldAns cm a b w (.returned (.tuple #[.bool false,.int .i64 13])) w':=⟨hb,.inr ⟨h,rfl⟩⟩
set_option maxRecDepth 100000 in
set_option maxHeartbeats 2000000 in
theorem holder_any (v:Value) (f:Idl → Option Ob) (hf:∀ x o,f x = some o → rightOb o = true) (U:List Idl) (hU:CmOk (cmG f) U) (x y:Idl) (w:World) (hs:SrcP w v f) (hx:x.length = 32) (hy:y.length = 32) :
  Calls Tryz.prog 29 #[v,.agg (idC x).toArray,.agg (idC y).toArray] w (OldAns (cmG f) x y w):=by
 have h32x:=h32_of (us:=idC x) (by rw [idC_len,hx])
 have h32y:=h32_of (us:=idC y) (by rw [idC_len,hy])
 obtain ⟨W,hW⟩:∃ W,(w.alloc (.cells (idC x).toArray 24)).alloc (.cells (idC y).toArray 24) = W:=⟨_,rfl⟩
 have hbW:Below w.heap.size w W:=by rw [← hW];exact ((Below.refl _ _).alloc (Nat.le_refl _) _).alloc (by simp) _
 have hrx:W.rangeAt w.heap.size 0 (idC x):=by
  rw [← hW];exact rangeAt_below (range_new w (idC x) 24 rfl) ((Below.refl _ _).alloc (Nat.le_refl _) _) (by simp)
 have hry:W.rangeAt (w.heap.size + 1) 0 (idC y):=by rw [← hW];exact range_new _ _ _ (by simp)
 have hsW:W.heap.size = w.heap.size + 1 + 1:=by rw [← hW];simp
 have HOX:=Lib.hid (hof_any v f hf U hU x W (hs.below hbW) hx)
 have HOY:=Lib.hid (fun w1 (h:Below W.heap.size W w1) => hof_any v f hf U hU y w1 ((hs.below hbW).below h) hy)
 have heq:=id_eqIn x y hx hy
 have HXX:=Lib.hid hx
 have HUT:=Lib.hid hU.tree
 obtain ⟨zc,hzc,_,hzce⟩:=cm_zero
 have HZC:=Lib.hid (show zc.size = 34 by rw [hzce];exact cmC_len _ _ _ zid_len)
 have HBW:=Lib.hid hbW
 have HRX:=Lib.hid hrx
 have HRY:=Lib.hid hry
 have HSW:=Lib.hid hsW
 have HW:=Lib.hid hW
 have hXY:(x == y) = decide (x = y):=by by_cases h:x = y <;> simp [h]
 have HXY:=Lib.hid hXY
 have HLKX:=Lib.hid (fun (w1:World) (b n:Nat) (S:List Idl) (q:Option Nat) (hm:LineM (cmG f) w1 b n S q) => hm.look (t:=110) Tryz.underlying110 hx (fun c hc => HUT.out x c hc))
 have h34:(Tryz.prog.info? 97).map (·.size) = some 34:=by kernel_rfl
 clear hs hx hy hf hU hbW hrx hry hsW hW hzce hXY
 generalize idC x = ux at h32x HOX HRX HW heq HLKX
 generalize idC y = uy at h32y HOY HRY HW heq
 generalize (x == y) = exy at heq HXY
 go_enter Tryz.func29,Tryz.ntmps29
 go_wp2_with (rw [HW.out];refine wpList_load_mid rfl 24 _ rfl w.heap.size 0 rfl ux _ HRX.out Tryz.underlying24 rfl h32x ?_)
 refine HOX.out.mono ?_
 intro e w1 h
 clear HOX HW
 obtain ⟨hb1,⟨A,ba,na,hla,rfl,hna,hba,hma⟩ | ⟨hla,rfl⟩⟩:=h
 ·have HLA:=Lib.hid hla
  have HRX1:=Lib.hid (rangeAt_below HRX.out hb1 (by rw [HSW.out];omega))
  have HRY1:=Lib.hid (rangeAt_below HRY.out hb1 (by rw [HSW.out];omega))
  have HB1:=Lib.hid (HBW.out.trans (hb1.mono HBW.out.size))
  have HO2:=Lib.hid (HOY.out w1 hb1)
  have hs1:w.heap.size + 1 + 1 ≤ w1.heap.size:=by rw [← HSW.out];exact hb1.size
  clear hb1 hla hma HOY HRX HRY
  go_wp2_with (refine wpList_load_mid rfl 24 _ rfl (w.heap.size + 1) 0 rfl uy _ HRY1.out Tryz.underlying24 rfl h32y ?_)
  refine HO2.out.mono ?_
  intro e w2 h
  obtain ⟨hb2,⟨B,bb,nb,hlb,rfl,hnb,hbb,hmb⟩ | ⟨hlb,rfl⟩⟩:=h
  ·have HLB:=Lib.hid hlb
   have HRX2:=Lib.hid (rangeAt_below HRX1.out hb2 (by omega))
   have HRY2:=Lib.hid (rangeAt_below HRY1.out hb2 (by omega))
   have HB2:=Lib.hid (HB1.out.trans (hb2.mono HB1.out.size))
   obtain ⟨cs,hcs1,hcs2,hcs3,_,_⟩:=HLKX.out w2 bb nb B none hmb
   have HLK:=Lib.hid (hcs3 w2 (Below.refl _ _))
   obtain ⟨W3,hW3⟩:∃ W3,(w2.alloc (.cells zc 97)).setCells w2.heap.size 0 cs = W3:=⟨_,rfl⟩
   have wr3:=wrote (by rw [hcs1,HZC.out]) (by rw [HZC.out];omega) hW3
   have HB3:=Lib.hid (HB2.out.trans (wr3.bel.mono HB2.out.size))
   have hs2:w.heap.size + 1 + 1 ≤ w2.heap.size:=by have:=hb2.size;omega
   have HRX3:=Lib.hid (rangeAt_below HRX2.out wr3.bel (by omega))
   have HRY3:=Lib.hid (rangeAt_below HRY2.out wr3.bel (by omega))
   have HTH:=Lib.hid (there_alloc w2 zc 97 HZC.out)
   have HCS1:=Lib.hid hcs1
   have HCS2:=Lib.hid hcs2
   have HW3:=Lib.hid hW3
   clear hb2 hlb hmb hcs1 hcs2 hcs3 hW3 wr3 HRX1 HRY1 HRY2 HLKX HO2
   cases hd:decide (x ∈ B) with
   | false =>
    rw [hd] at HLK
    have HR:Hid (false = (decide (x ∈ B) && decide (x ≠ y))):=Lib.hid (by rw [hd];rfl)
    clear hd
    go_wp2_with (first
     | (refine wpList_load_mid rfl 24 _ rfl w.heap.size 0 rfl ux _ HRX2.out Tryz.underlying24 rfl h32x ?_)
     | (refine wpList_lookup_run rfl 110 _ _ true rfl _ _ rfl rfl _ HLK.out ?_)
     | (refine wpList_store_list rfl 97 _ _ rfl w2.heap.size 0 cs rfl rfl 34 HCS1.out HTH.out h34 HCS2.out ?_;rw [HW3.out]))
    go_ret2
    exact oldAns_yes HLA.out HLB.out HR.out HB3.out
   | true =>
    rw [hd] at HLK
    have HR:Hid ((!exy) = (decide (x ∈ B) && decide (x ≠ y))):=Lib.hid (by rw [hd,HXY.out];by_cases h:x = y <;> simp [h])
    clear hd
    cases exy with
    | false =>
     go_wp2_with (first
      | (refine wpList_load_mid rfl 24 _ rfl w.heap.size 0 rfl ux _ HRX2.out Tryz.underlying24 rfl h32x ?_)
      | (refine wpList_lookup_run rfl 110 _ _ true rfl _ _ rfl rfl _ HLK.out ?_)
      | (refine wpList_store_list rfl 97 _ _ rfl w2.heap.size 0 cs rfl rfl 34 HCS1.out HTH.out h34 HCS2.out ?_;rw [HW3.out])
      | (refine wpList_load_mid_g rfl 24 _ rfl w.heap.size 0 rfl ux _ HRX3.out Tryz.underlying24 rfl h32x ?_)
      | (refine wpList_load_mid_g rfl 24 _ rfl (w.heap.size + 1) 0 rfl uy _ HRY3.out Tryz.underlying24 rfl h32y ?_))
     go_ret2
     exact oldAns_yes HLA.out HLB.out HR.out HB3.out
    | true =>
     go_wp2_with (first
      | (refine wpList_load_mid rfl 24 _ rfl w.heap.size 0 rfl ux _ HRX2.out Tryz.underlying24 rfl h32x ?_)
      | (refine wpList_lookup_run rfl 110 _ _ true rfl _ _ rfl rfl _ HLK.out ?_)
      | (refine wpList_store_list rfl 97 _ _ rfl w2.heap.size 0 cs rfl rfl 34 HCS1.out HTH.out h34 HCS2.out ?_;rw [HW3.out])
      | (refine wpList_load_mid_g rfl 24 _ rfl w.heap.size 0 rfl ux _ HRX3.out Tryz.underlying24 rfl h32x ?_)
      | (refine wpList_load_mid_g rfl 24 _ rfl (w.heap.size + 1) 0 rfl uy _ HRY3.out Tryz.underlying24 rfl h32y ?_))
     go_ret2
     exact oldAns_yes HLA.out HLB.out HR.out HB3.out
  ·have HB2:=Lib.hid (HB1.out.trans (hb2.mono HB1.out.size))
   have HL:=Lib.hid hlb
   clear hb2 hlb HO2
   go_wp2
   go_ret2
   exact oldAns_no (.inr HL.out) HB2.out
 ·have HB1:=Lib.hid (HBW.out.trans (hb1.mono HBW.out.size))
  have HL:=Lib.hid hla
  clear hb1 hla HOY
  go_wp2
  go_ret2
  exact oldAns_no (.inl HL.out) HB1.out
end Go.Proofs.YtbmiiiccnoiffaaGreatDoor
namespace Go.Proofs.YtbmiiiccnoiffaaGreatDoor
open Go.RowKit Go.Maps
variable {cm:Idl → Option Cmt}
theorem wpList_update_C {w:World} {ops:Array Oper} {rest:List Oper} {o:Oper} {a:Act} {Q:Exit → Act → World → Prop} (hg:o.guard = none) (m x v:Operand) (t:TypeId) (hop:o.op = Op.mapUpdate t m x v)
  (ht:Tryz.prog.underlying t = some (.map 24 3)) (b n:Nat) (h:Idl → Nat) (hm:a.eval m = .map (some b)) (hc:CntM w b n h) (p:Idl) (hp:p.length = 32) (k:Nat) (hx:a.eval x = .agg (idC p).toArray) (hv:a.eval v = .int .i64 (k:Int)) (hn:n < maxLen)
  (hK:∀ w',CntM w' b (n + 1) (fun q => if q = p then k else h q) → w.grownBy w' (some b) → wpList Tryz.prog ops Q rest (a.put o.dst undef) w'):wpList Tryz.prog ops Q (o :: rest) a w:=by
 obtain ⟨f,h1,h2⟩:=hc
 refine wpList_update_G (enc:=natV) hg m x v t 3 hop ht b n f hm h1 p hp k hx hv hn fun w' k1 k2 => hK w' ⟨_,k1,fun q hq => ?_⟩ k2
 show (if q = p then some k else f q).getD 0 = if q = p then k else h q
 split
 ·rfl
 ·exact h2 q hq
structure AgH (cm:Idl → Option Cmt) (S:List Idl) (n:Nat) (h:Idl → Nat):Prop where
 is:∀ y,y.length = 32 → h y = 0 ∨ (y ∈ S ∧ h y = ageOf cm y)
 few:n ≤ (S.filter fun y => decide (h y ≠ 0)).length
theorem AgH.start (S:List Idl):AgH cm S 0 fun _ => 0:=⟨fun _ _ => .inl rfl,Nat.zero_le _⟩
theorem AgH.put {S:List Idl} {n:Nat} {h:Idl → Nat} {x:Idl} (hh:AgH cm S n h) (hx:x ∈ S) (h0:h x = 0) (hp:1 ≤ ageOf cm x):AgH cm S (n + 1) fun q => if q = x then ageOf cm x else h q:=by
 refine ⟨fun y hy => ?_,?_⟩
 ·show (if y = x then ageOf cm x else h y) = 0 ∨ (y ∈ S ∧ (if y = x then ageOf cm x else h y) = ageOf cm y)
  by_cases e:y = x
  ·subst e;rw [if_pos rfl];exact .inr ⟨hx,rfl⟩
  ·rw [if_neg e];exact hh.is y hy
 ·have:=filter_lt (fun y => decide (h y ≠ 0)) (fun y => decide ((if y = x then ageOf cm x else h y) ≠ 0)) S x hx (by simp;omega) (by simp [h0]) (fun y hy => by
   have h1:=of_decide_eq_true hy
   by_cases e:y = x
   ·subst e;exact absurd h0 h1
   ·rw [if_neg e];exact hy)
  exact Nat.lt_of_le_of_lt hh.few this
theorem AgH.le {S:List Idl} {n:Nat} {h:Idl → Nat} (hh:AgH cm S n h):n ≤ S.length:=Nat.le_trans hh.few (List.length_filter_le _ _)
structure AgSt (cm:Idl → Option Cmt) (S:List Idl) (kc lc ac kb lb nl n:Nat) (h:Idl → Nat) (w:World):Prop where
 ck:w.cell? ⟨kc,0,none⟩ = some (.map (some kb))
 cl:w.cell? ⟨lc,0,none⟩ = some (.map (some lb))
 ca:w.cell? ⟨ac,0,none⟩ = some (.func (.func 64) #[] #[.pointer (some ⟨kc,0,none⟩),.pointer (some ⟨lc,0,none⟩),.pointer (some ⟨ac,0,none⟩)])
 line:LineM cm w lb nl S (some kb)
 cnt:CntM w kb n h
 ag:AgH cm S n h
 ne:kc ≠ kb ∧ lc ≠ kb ∧ ac ≠ kb ∧ lb ≠ kb
section
variable {S:List Idl} {kc lc ac kb lb nl n n':Nat} {h h':Idl → Nat} {w w':World}
theorem AgSt.below (s:AgSt cm S kc lc ac kb lb nl n h w) (hb:Below w.heap.size w w'):AgSt cm S kc lc ac kb lb nl n h w' :=
 ⟨below_load s.ck hb (World.block_lt_of_cell? w _ s.ck),below_load s.cl hb (World.block_lt_of_cell? w _ s.cl),below_load s.ca hb (World.block_lt_of_cell? w _ s.ca),s.line.on hb,s.cnt.on hb,s.ag,s.ne⟩
theorem AgSt.grown (s:AgSt cm S kc lc ac kb lb nl n h w) (hg:w.grownBy w' (some kb)) (hc:CntM w' kb n' h') (ha:AgH cm S n' h'):AgSt cm S kc lc ac kb lb nl n' h' w' :=
 ⟨hg.cell (a:=⟨kc,0,none⟩) s.ck (fun e => s.ne.1 (Option.some.inj e)),hg.cell (a:=⟨lc,0,none⟩) s.cl (fun e => s.ne.2.1 (Option.some.inj e)),hg.cell (a:=⟨ac,0,none⟩) s.ca (fun e => s.ne.2.2.1 (Option.some.inj e)),s.line.grown hg (fun e => s.ne.2.2.2 (Option.some.inj e)) (.inl rfl),hc,ha,s.ne⟩
end
def AgPost (cm:Idl → Option Cmt) (S:List Idl) (kc lc ac kb lb nl:Nat) (x:Idl) (h:Idl → Nat) (w:World) (e:Ending) (w':World):Prop :=
 e = .returned (.int .i64 (ageOf cm x:Int)) ∧ w.grownBy w' (some kb) ∧ ∃ n' h',AgSt cm S kc lc ac kb lb nl n' h' w' ∧ ∀ y,y.length = 32 → h' y = h y ∨ Reach cm x y
def foldA (cm:Idl → Option Cmt) (l:List Idl):Nat:=(l.map (ageOf cm)).foldl max 0
theorem foldA_snoc (l:List Idl) (p:Idl):foldA cm (l ++ [p]) = max (foldA cm l) (ageOf cm p):=by unfold foldA;rw [List.map_append,List.foldl_append];rfl
def AgLp (cm:Idl → Option Cmt) (S:List Idl) (kc lc ac kb lb nl:Nat) (x:Idl) (h:Idl → Nat) (W:World) (l:Nat) (u i:Value) (wr:World):Prop :=
 ∃ (k n':Nat) (h':Idl → Nat),i = .int .i64 (k:Int) ∧ k ≤ l ∧ u = .int .i64 ((foldA cm ((par cm x).take k):Nat):Int) ∧ AgSt cm S kc lc ac kb lb nl n' h' wr ∧ (∀ y,y.length = 32 → h' y = h y ∨ ∃ p ∈ par cm x,Reach cm p y) ∧ W.grownBy wr (some kb)
set_option maxRecDepth 100000 in
set_option maxHeartbeats 4000000 in
theorem age1_any (S:List Idl) (hL:LogOn cm S) (kc lc ac kb lb nl:Nat):∀ H x n h w,x ∈ S → height cm S x ≤ H → AgSt cm S kc lc ac kb lb nl n h w →
  Calls Tryz.prog 64 #[.agg (idC x).toArray,.pointer (some ⟨kc,0,none⟩),.pointer (some ⟨lc,0,none⟩),.pointer (some ⟨ac,0,none⟩)] w (AgPost cm S kc lc ac kb lb nl x h w):=by
 intro H
 induction H with
 | zero => intro x n h w hx hH _;have:=height_pos (cm:=cm) hx;omega
 | succ H ih =>
  intro x n h w hx hH hs
  have HIH:=Lib.hid ih
  clear ih
  obtain ⟨zi,i0,hi,hz0,hz1,hz2,hzi,hzil⟩:=id_zero
  have HZI:=Lib.hid hzil
  have hxl:x.length = 32:=hL.l32 x hx
  have hxc:(idC x).length = 32:=by rw [idC_len,hxl]
  have h32x:=h32_of hxc
  have h32:(Tryz.prog.info? 24).map (·.size) = some 32:=by kernel_rfl
  have hb0:Below w.heap.size w (w.alloc (.cells (idC x).toArray 24)):=(Below.refl _ _).alloc (Nat.le_refl _) _
  have HR0:=Lib.hid (range_new w (idC x) 24 rfl)
  have hs0:=hs.below hb0
  have hlk:=hs0.cnt.look Tryz.underlying114 hxl _ (Below.refl _ _)
  have hkbl:kb < w.heap.size:=hs.cnt.lt
  have ck0:=hs0.ck
  have HG0:Hid (w.grownBy (w.alloc (.cells (idC x).toArray 24)) (some kb)):=Lib.hid (grown_none (below_grownBy hb0) _)
  have HXL:=Lib.hid hxl
  have HXS:=Lib.hid hx
  have HLO:=Lib.hid hL
  have HH:=Lib.hid hH
  have HS0:=Lib.hid hs0
  obtain ⟨ct,hct1,hct2,_,hct4,hct5⟩:=hs0.line.look (t:=110) Tryz.underlying110 hxl (fun c hc => hL.tree x c hc)
  obtain ⟨cc,pv,hcmx,hcte,hrowp,hoff⟩:=hct5 hx
  obtain ⟨ap,capp,rfl,hmaxp,hcellp⟩:=hrowp.open
  have hc32:ct[32]? = some (.slice ap cc.pars.length capp):=by
   rw [hcte];unfold cmC
   rw [List.getElem?_append_right (by rw [idC_len,hL.tree x cc hcmx];exact Nat.le_refl _),idC_len,hL.tree x cc hcmx];rfl
  have HFLD:=Lib.hid (fun W => run_field_pars W ct _ hc32)
  have HLKC:=Lib.hid (hct4 _ (Below.refl _ _))
  have HPA:=Lib.hid (par_of hcmx)
  have HCE:=Lib.hid hcellp
  have HOF:=Lib.hid hoff
  have cl0:=hs0.cl
  have HAGE:Hid (foldA cm (par cm x) + 1 = ageOf cm x):=Lib.hid (ageOf_eq hL.acyc hL.pars hL.len hx).symm
  have HLE:Hid (ageOf cm x ≤ 1000):=Lib.hid (Nat.le_trans (age_le hL.acyc hL.pars hL.len hx) hL.len)
  have HPOS:=Lib.hid (age_pos hL.acyc hL.pars hL.len hx)
  have hlen4:cc.pars.length ≤ 4:=by have:=hL.four x;rw [HPA.out] at this;exact this
  clear hs hs0 hxl hL hxc hb0 hx hH hct1 hct2 hct4 hct5 hcte hrowp hcellp hc32 hcmx hoff hzil
  generalize hiy:idC x = ux at h32x HR0 HG0 HS0 hlk ck0 cl0 HLKC HCE
  have HIY:=Lib.hid hiy
  clear hiy
  cases hh:h x with
  | succ c =>
   rw [hh] at hlk
   have HA:Hid (ageOf cm x = c + 1):=Lib.hid (by rcases HS0.out.ag.is x HXL.out with h0 | ⟨_,h1⟩ <;> omega)
   have d0:(((c + 1:Nat):Int) == 0) = false:=by rw [beq_eq_false_iff_ne];omega
   have HLK:=Lib.hid hlk
   clear hlk hh
   generalize hci:((c + 1:Nat):Int) = ci at d0 HLK
   have HCI:=Lib.hid hci
   clear hci
   go_enter Tryz.func64,Tryz.ntmps64
   go_wp2_with (first
    | (refine wpList_load_mid rfl 24 _ rfl w.heap.size 0 rfl ux _ HR0.out Tryz.underlying24 rfl h32x ?_)
    | (refine wpList_lookup_run rfl 114 _ _ false rfl _ _ rfl rfl _ HLK.out ?_))
   go_ret
   exact ⟨by rw [HA.out,HCI.out];rfl,HG0.out,n,h,HS0.out,fun y _ => .inl rfl⟩
  | zero =>
   rw [hh] at hlk
   have e0:((0:Nat):Int) = 0:=rfl
   rw [e0] at hlk
   have HLK:=Lib.hid hlk
   have H0:=Lib.hid hh
   clear hlk hh e0
   go_enter Tryz.func64,Tryz.ntmps64
   go_wp2_with (first
    | (refine wpList_load_mid rfl 24 _ rfl w.heap.size 0 rfl ux _ HR0.out Tryz.underlying24 rfl h32x ?_)
    | (refine wpList_lookup_run rfl 114 _ _ false rfl _ _ rfl rfl _ HLK.out ?_)
    | (refine wpList_lookup_run rfl 110 _ _ false rfl _ _ rfl rfl _ HLKC.out ?_)
    | (refine wpList_field_run rfl 97 _ 1 rfl _ rfl _ (HFLD.out _) ?_))
   go_loopw [6,18] (fun u i wr => AgLp cm S kc lc ac kb lb nl x h (w.alloc (.cells ux.toArray 24)) cc.pars.length u i wr) (fun _ i _ => (cc.pars.length - intOf i).toNat)
   case atStart => exact ⟨0,n,h,rfl,by omega,rfl,HS0.out,fun _ _ => .inl rfl,World.grownBy.refl _ _⟩
   case round =>
    obtain ⟨wi,rfl⟩:∃ wi:World,wi = wr:=⟨_,rfl⟩
    obtain ⟨k,ni,hi',rfl,hk,rfl,hsi,hri,hgi⟩:=hrel
    have HSI:=Lib.hid hsi
    have HRI:=Lib.hid hri
    have HGI:=Lib.hid hgi
    have HRX:=Lib.hid (range_grown HR0.out hgi (fun e => by have:=Option.some.inj e;omega))
    have cki:=hsi.ck
    clear hsi hri hgi
    by_cases hlt:k < cc.pars.length
    ·obtain ⟨br,off,rfl,hbl,hcell⟩:=HCE.out (by intro e;rw [e] at hlt;simp at hlt)
     have f1:=range_grown (hcell k hlt) HGI.out (fun e => by
      rcases HOF.out with h0 | h0
      ·rw [h0] at hlt;simp at hlt
      ·exact h0 br rfl e)
     have hkp:k < (par cm x).length:=by rw [HPA.out];exact hlt
     have hpe:(par cm x)[k] = cc.pars[k]:=by simp only [HPA.out]
     obtain ⟨p,hp⟩:∃ p,cc.pars[k] = p:=⟨_,rfl⟩
     rw [hp] at hpe f1
     have hpm:p ∈ par cm x:=by rw [← hpe];exact List.getElem_mem hkp
     have hpS:p ∈ S:=HLO.out.pars x HXS.out p hpm
     have hpl:p.length = 32:=HLO.out.l32 _ hpS
     have hpc:(idC p).length = 32:=by rw [idC_len,hpl]
     have h32p:=h32_of hpc
     have hpH:height cm S p ≤ H:=by have:=height_par HLO.out.acyc HXS.out hpm;have:=HH.out;omega
     obtain ⟨W1,hW1⟩:∃ W1,(wi.alloc (.cells zi 24)).setCells wi.heap.size 0 (idC p) = W1:=⟨_,rfl⟩
     have wr1:=wrote (by rw [hpc,HZI.out]) (by rw [HZI.out];omega) hW1
     have hs1:=HSI.out.below wr1.bel
     have HC1:=Lib.hid (HIH.out p ni hi' W1 hpS hpH hs1)
     have ca1:=hs1.ca
     have HG1:Hid ((w.alloc (.cells ux.toArray 24)).grownBy W1 (some kb)):=Lib.hid (grownBy_trans' HGI.out (grown_none (below_grownBy wr1.bel) _))
     have HTH:=Lib.hid (there_alloc wi zi 24 HZI.out)
     have HON:=Lib.hid (idC_one p)
     have HPC:=Lib.hid hpc
     have HR1:=Lib.hid wr1.row
     have HW1:=Lib.hid hW1
     have F1:=Lib.hid f1
     have HPM:=Lib.hid hpm
     have k0:(0:Int) ≤ k:=by omega
     have k1:(k:Int) < cc.pars.length:=by omega
     have d1:decide ((k:Int) < cc.pars.length) = true:=decide_eq_true k1
     have HFN:Hid (foldA cm ((par cm x).take (k + 1)) = max (foldA cm ((par cm x).take k)) (ageOf cm p)):=Lib.hid (by rw [List.take_succ_eq_append_getElem hkp,hpe,foldA_snoc])
     clear hcell hkp hpe hp hpm hpS hpl hpc hpH wr1 hs1 hW1 f1 cki
     generalize idC p = up at h32p HC1 HTH HON HPC HR1 HW1 F1
     generalize foldA cm ((par cm x).take k) = fa at HFN
     go_wp2_with (first
      | (refine wpList_load_mid rfl 24 _ rfl br (off + k * 32) rfl up _ F1.out Tryz.underlying24 rfl h32p ?_)
      | (refine wpList_store_list rfl 24 _ _ rfl wi.heap.size 0 up rfl rfl 32 HPC.out HTH.out h32 HON.out ?_;rw [HW1.out])
      | (refine wpList_load_mid rfl 24 _ rfl wi.heap.size 0 rfl up _ HR1.out Tryz.underlying24 rfl h32p ?_))
     refine HC1.out.mono ?_
     rintro e w2 ⟨rfl,hg2,n2,h2,hs2,hr2⟩
     have HEND:Hid (AgLp cm S kc lc ac kb lb nl x h (w.alloc (.cells ux.toArray 24)) cc.pars.length (.int .i64 (max (fa:Int) (ageOf cm p:Int))) (.int .i64 ((k:Int) + 1)) w2):=Lib.hid ⟨k + 1,n2,h2,by simp,by omega,by rw [HFN.out];congr 1;omega,hs2,fun y hy => by
      rcases hr2 y hy with h3 | h3
      ·rw [h3];exact HRI.out y hy
      ·exact .inr ⟨p,HPM.out,h3⟩,grownBy_trans' HG1.out hg2⟩
     clear hg2 hs2 hr2
     generalize (ageOf cm p:Int) = ap at HEND
     go_wp2
     go_roundw
     case rel => exact HEND.out
     case measure => simp [intOf];omega
    ·have hke:k = cc.pars.length:=by omega
     have d1:decide ((k:Int) < cc.pars.length) = false:=decide_eq_false (by omega)
     have hfa:foldA cm ((par cm x).take k) + 1 = ageOf cm x:=by rw [List.take_of_length_le (by rw [HPA.out];omega)];exact HAGE.out
     obtain ⟨fa,hfe⟩:∃ fa,foldA cm ((par cm x).take k) = fa:=⟨_,rfl⟩
     rw [hfe] at hfa ⊢
     have hwr:IntKind.i64.wrap ((fa:Int) + 1) = (fa:Int) + 1:=IntWalk.i64_in _ (by have:=HLE.out;omega)
     have hX0:hi' x = 0:=by
      rcases HRI.out x HXL.out with h1 | ⟨p,hp,hr⟩
      ·rw [h1];exact H0.out
      ·exact absurd hr (HLO.out.acyc x p hp)
     have HX0:=Lib.hid hX0
     have HFA:=Lib.hid hfa
     have HAP:=Lib.hid (HSI.out.ag.put HXS.out hX0 HPOS.out)
     have hni:ni < maxLen:=by have:=HSI.out.ag.le;have:=HLO.out.len;unfold maxLen;omega
     clear hke hfa hfe hX0
     go_wp2_with (first
      | (refine wpList_load_mid rfl 24 _ rfl w.heap.size 0 rfl ux _ HRX.out Tryz.underlying24 rfl h32x ?_)
      | (refine wpList_update_C rfl (.tmp 28) (.tmp 29) (.tmp 31) 114 rfl Tryz.underlying114 kb ni hi' rfl HSI.out.cnt x HXL.out (fa + 1) (by rw [HIY.out];rfl) (by rw [show ((fa + 1:Nat):Int) = (fa:Int) + 1 from by omega];rfl) hni ?_))
     intro w2 hc2 hg2
     have hs2:=HSI.out.grown hg2 (hc2.ext (h':=fun q => if q = x then ageOf cm x else hi' q) (fun q _ => by rw [HFA.out])) HAP.out
     have hlk2:=hc2.look Tryz.underlying114 HXL.out w2 (Below.refl _ _)
     rw [if_pos rfl,HIY.out] at hlk2
     have HLK2:=Lib.hid hlk2
     have ck2:=hs2.ck
     have HR2:=Lib.hid (range_grown HRX.out hg2 (fun e => by have:=Option.some.inj e;omega))
     have HEND:Hid (AgPost cm S kc lc ac kb lb nl x h w (.returned (.int .i64 ((fa + 1:Nat):Int))) w2):=Lib.hid ⟨by rw [HFA.out],grownBy_trans' HG0.out (grownBy_trans' HGI.out hg2),_,_,hs2,fun y hy => by
      show (if y = x then ageOf cm x else hi' y) = h y ∨ Reach cm x y
      by_cases e:y = x
      ·exact .inr (e ▸ .refl _)
      ·rw [if_neg e]
       rcases HRI.out y hy with h3 | ⟨p,hp,h3⟩
       ·exact .inl h3
       ·exact .inr (Reach.head hp h3)⟩
     clear hc2 hg2 hs2 hlk2 cki
     go_wp2_with (first
      | (refine wpList_load_mid rfl 24 _ rfl w.heap.size 0 rfl ux _ HR2.out Tryz.underlying24 rfl h32x ?_)
      | (refine wpList_lookup_run rfl 114 _ _ false rfl _ _ rfl rfl _ HLK2.out ?_))
     go_ret
     exact HEND.out
end Go.Proofs.YtbmiiiccnoiffaaGreatDoor
namespace Go.Proofs.YtbmiiiccnoiffaaGreatDoor
open Go.RowKit Go.Maps
def AgeAns (cm:Idl → Option Cmt) (x:Idl) (w:World) (e:Ending) (w':World):Prop :=
 Below w.heap.size w w' ∧ (((lineL cm x).isSome = true ∧ e = .returned (.tuple #[.int .i64 (ageOf cm x:Int),.int .i64 0])) ∨ (lineL cm x = none ∧ e = .returned (.tuple #[.int .i64 0,.int .i64 13])))
theorem ageAns_yes {cm:Idl → Option Cmt} {x:Idl} {w w':World} {S:List Idl} (h:lineL cm x = some S) (hb:Below w.heap.size w w'):AgeAns cm x w (.returned (.tuple #[.int .i64 (ageOf cm x:Int),.int .i64 0])) w':=⟨hb,.inl ⟨by rw [h];rfl,rfl⟩⟩
theorem ageAns_no {cm:Idl → Option Cmt} {x:Idl} {w w':World} (h:lineL cm x = none) (hb:Below w.heap.size w w'):AgeAns cm x w (.returned (.tuple #[.int .i64 0,.int .i64 13])) w':=⟨hb,.inr ⟨h,rfl⟩⟩
set_option maxRecDepth 100000 in
set_option maxHeartbeats 2000000 in
theorem hage_any (v:Value) (f:Idl → Option Ob) (hf:∀ x o,f x = some o → rightOb o = true) (U:List Idl) (hU:CmOk (cmG f) U) (ha:Acyc (cmG f)) (x:Idl) (w:World) (hs:SrcP w v f) (hx:x.length = 32) :
  Calls Tryz.prog 23 #[v,.agg (idC x).toArray] w (AgeAns (cmG f) x w):=by
 have hmm:=@run_makeMap Tryz.prog
 have hxl:(idC x).length = 32:=by rw [idC_len,hx]
 have h32x:=h32_of hxl
 have hb0:Below w.heap.size w (w.alloc (.cells (idC x).toArray 24)):=(Below.refl _ _).alloc (Nat.le_refl _) _
 have HO:=Lib.hid (hof_any v f hf U hU x (w.alloc (.cells (idC x).toArray 24)) (hs.below hb0) hx)
 have HR0:=Lib.hid (range_new w (idC x) 24 rfl)
 have HB0:=Lib.hid hb0
 have HU:=Lib.hid hU
 have HA:=Lib.hid ha
 clear hs hx hf hU hxl hb0 ha
 generalize hiy:idC x = ux at h32x HO HR0 HB0
 have HIY:=Lib.hid hiy
 clear hiy
 go_enter Tryz.func23,Tryz.ntmps23
 go_wp2_with (refine wpList_load_mid rfl 24 _ rfl w.heap.size 0 rfl ux _ HR0.out Tryz.underlying24 rfl h32x ?_)
 refine HO.out.mono ?_
 intro e w1 h
 obtain ⟨hb1,⟨S,b,k,hl,rfl,hn,hb,hm⟩ | ⟨hl,rfl⟩⟩:=h
 ·have hon:=logOn_of HU.out HA.out hl
  have HB1:=Lib.hid (HB0.out.trans (hb1.mono HB0.out.size))
  have HR1:=Lib.hid (rangeAt_below HR0.out hb1 (by simp))
  have HL:=Lib.hid hl
  have HON:=Lib.hid hon
  have HM:=Lib.hid hm
  obtain ⟨W2,hW2⟩:∃ W2,(((w1.alloc (.cells #[.map (some b)] 110)).alloc (.map #[] 0)).alloc (.cells #[.map (some (w1.heap.size + 1))] 114)).alloc (.cells #[.func (.func 64) #[] #[.pointer (some ⟨w1.heap.size + 1 + 1,0,none⟩),.pointer (some ⟨w1.heap.size,0,none⟩),.pointer (some ⟨w1.heap.size + 1 + 1 + 1,0,none⟩)]] 115) = W2:=⟨_,rfl⟩
  have HW2:=Lib.hid hW2
  have b1:Below w1.heap.size w1 (w1.alloc (.cells #[.map (some b)] 110)):=(Below.refl _ _).alloc (Nat.le_refl _) _
  have b2:Below w1.heap.size w1 ((w1.alloc (.cells #[.map (some b)] 110)).alloc (.map #[] 0)):=b1.alloc b1.size _
  have b4:Below w1.heap.size w1 W2:=by rw [← hW2];exact (b2.alloc b2.size _).alloc (by simp;omega) _
  have b24:Below ((w1.alloc (.cells #[.map (some b)] 110)).alloc (.map #[] 0)).heap.size ((w1.alloc (.cells #[.map (some b)] 110)).alloc (.map #[] 0)) W2:=by rw [← hW2];exact ((Below.refl _ _).alloc (Nat.le_refl _) _).alloc (by simp) _
  have hcnt:CntM W2 (w1.heap.size + 1) 0 fun _ => 0:=by
   have:=(cntM_made (w1.alloc (.cells #[.map (some b)] 110))).on b24
   rw [World.size_alloc] at this
   exact this
  have hline:LineM (cmG f) W2 b k S (some (w1.heap.size + 1)):=hm.grown (below_grownBy b4) (fun e => by cases e) (.inr fun j hj => by cases hj;omega)
  have ck:W2.cell? ⟨w1.heap.size + 1 + 1,0,none⟩ = some (.map (some (w1.heap.size + 1))):=by
   have:=range_new ((w1.alloc (.cells #[.map (some b)] 110)).alloc (.map #[] 0)) [.map (some (w1.heap.size + 1))] 114 (n:=w1.heap.size + 1 + 1) (by simp)
   rw [← hW2]
   exact below_load (this 0 _ rfl) ((Below.refl _ _).alloc (Nat.le_refl _) _) (by simp)
  have cl:W2.cell? ⟨w1.heap.size,0,none⟩ = some (.map (some b)):=by
   have:=range_new w1 [.map (some b)] 110 (n:=w1.heap.size) rfl
   rw [← hW2]
   exact below_load (this 0 _ rfl) ((((Below.refl _ _).alloc (Nat.le_refl _) _).alloc (by simp) _).alloc (by simp) _) (by simp)
  have ca:W2.cell? ⟨w1.heap.size + 1 + 1 + 1,0,none⟩ = some (.func (.func 64) #[] #[.pointer (some ⟨w1.heap.size + 1 + 1,0,none⟩),.pointer (some ⟨w1.heap.size,0,none⟩),.pointer (some ⟨w1.heap.size + 1 + 1 + 1,0,none⟩)]):=by
   rw [← hW2]
   exact (range_new _ _ _ (by simp)) 0 _ rfl
  have hbl:=hm.lt
  have hst:AgSt (cmG f) S (w1.heap.size + 1 + 1) w1.heap.size (w1.heap.size + 1 + 1 + 1) (w1.heap.size + 1) b k 0 (fun _ => 0) W2:=⟨ck,cl,ca,hline,hcnt,AgH.start S,by omega,by omega,by omega,by omega⟩
  have hx1:x ∈ S:=((lineL_some hl).1.mem x).2 (.refl x)
  have HC:=Lib.hid (age1_any S hon _ _ _ _ _ _ _ x 0 _ W2 hx1 (Nat.le_refl _) hst)
  rw [HIY.out] at HC
  have HR2:=Lib.hid (rangeAt_below HR1.out b4 (by have:=hb1.size;simp at this;omega))
  have HB2:=Lib.hid (HB1.out.trans (b4.mono HB1.out.size))
  have HSZ:Hid (w.heap.size ≤ w1.heap.size):=Lib.hid HB1.out.size
  clear hb1 hm hl hon HO HR0 hst hx1 b1 b2 b4 b24 hcnt hline ck cl ca hW2
  go_wp2_with (rw [HW2.out];refine wpList_load_mid rfl 24 _ rfl w.heap.size 0 rfl ux _ HR2.out Tryz.underlying24 rfl h32x ?_)
  refine HC.out.mono ?_
  rintro e w3 ⟨rfl,hg3,_⟩
  have HB3:=Lib.hid (HB2.out.grown hg3 HB2.out.size (fun j hj => by cases hj;have:=HSZ.out;omega))
  clear hg3
  go_wp2
  go_ret2
  exact ageAns_yes HL.out HB3.out
 ·have HB1:=Lib.hid (HB0.out.trans (hb1.mono HB0.out.size))
  have HL:=Lib.hid hl
  clear hb1 hl HO HR0
  go_wp2
  go_ret2
  exact ageAns_no HL.out (HB1.out.alloc HB1.out.size _)
end Go.Proofs.YtbmiiiccnoiffaaGreatDoor
namespace Go.Proofs.YtbmiiiccnoiffaaGreatDoor
open Go.RowKit
def txA:ByteArray:=⟨#[97]⟩
def txB:ByteArray:=⟨#[98]⟩
def oA:Ob:=⟨3,ofB (commitB (zid,[],txA))⟩
def xA:Idl:=shaL (frameL oA)
def oB:Ob:=⟨3,ofB (commitB (zid,[xA],txB))⟩
def xB:Idl:=shaL (frameL oB)
theorem idO_shaL (o:Ob):idO o = shaL (frameL o):=by
 unfold idO
 rw [← shaL_eq,ofB_data]
theorem idO_A:idO oA = xA:=idO_shaL oA
theorem idO_B:idO oB = xB:=idO_shaL oB
set_option maxRecDepth 100000 in
theorem okA:commitOk (zid,[],txA) = true ∧ rightOb oA = true:=by decide +kernel
set_option maxRecDepth 100000 in
theorem okB:commitOk (zid,[xA],txB) = true ∧ rightOb oB = true:=by decide +kernel
set_option maxRecDepth 100000 in
theorem neAB:xA ≠ xB:=by decide +kernel
set_option maxRecDepth 100000 in
theorem comA:commitOf oA.body = some (zid,[],txA):=by kernel_rfl
set_option maxRecDepth 100000 in
theorem comB:commitOf oB.body = some (zid,[xA],txB):=by kernel_rfl
def lAB:List Ob:=[oA,oB]
theorem xA_len:xA.length = 32:=by rw [← idO_A];exact idO_len _
theorem xB_len:xB.length = 32:=by rw [← idO_B];exact idO_len _
theorem clashAB:clashB lAB = false:=by
 have h:idO oB ≠ idO oA:=by rw [idO_A,idO_B];exact fun e => neAB e.symm
 unfold clashB lAB
 simp [List.range_succ,h]
theorem rightsAB:rights lAB = [oA,oB]:=by unfold rights lAB;simp [okA.2,okB.2]
theorem getAB (x:Idl):getS lAB x = if x = xA then some oA else if x = xB then some oB else none:=by
 unfold getS
 rw [rightsAB]
 by_cases h1:x = xA
 ·rw [if_pos h1,List.find?_cons_of_pos (by rw [idO_A,h1];simp)]
 ·rw [if_neg h1,List.find?_cons_of_neg (by rw [idO_A];simpa using fun e => h1 e.symm)]
  by_cases h2:x = xB
  ·rw [if_pos h2,List.find?_cons_of_pos (by rw [idO_B,h2];simp)]
  ·rw [if_neg h2,List.find?_cons_of_neg (by rw [idO_B];simpa using fun e => h2 e.symm)];rfl
abbrev cmAB:Idl → Option Cmt:=cmG (getS lAB)
theorem cmA:cmAB xA = some ⟨zid,[],txA⟩:=cmG_of (o:=oA) (by rw [getAB,if_pos rfl]) rfl comA
theorem cmB':cmAB xB = some ⟨zid,[xA],txB⟩:=cmG_of (o:=oB) (by rw [getAB,if_neg (fun e => neAB e.symm),if_pos rfl]) rfl comB
theorem cmN {x:Idl} (h1:x ≠ xA) (h2:x ≠ xB):cmAB x = none:=cmG_none (by rw [getAB,if_neg h1,if_neg h2])
theorem parA:par cmAB xA = []:=par_of cmA
theorem parB:par cmAB xB = [xA]:=par_of cmB'
theorem reachA {z:Idl} (h:Reach cmAB xA z):z = xA:=by
 rcases h.cases_head with e | ⟨y,hy,_⟩
 ·exact e.symm
 ·rw [parA] at hy;cases hy
theorem reachB {z:Idl} (h:Reach cmAB xB z):z = xB ∨ z = xA:=by
 rcases h.cases_head with e | ⟨y,hy,hr⟩
 ·exact .inl e.symm
 ·rw [parB] at hy
  rw [List.mem_singleton.1 hy] at hr
  exact .inr (reachA hr)
theorem acycAB:Acyc cmAB:=fun x y hy hr => by
 by_cases h1:x = xA
 ·rw [h1,parA] at hy;cases hy
 ·by_cases h2:x = xB
  ·rw [h2,parB] at hy
   rw [List.mem_singleton.1 hy] at hr
   exact h1 (reachA hr)
  ·unfold par at hy
   rw [cmN h1 h2] at hy
   cases hy
theorem isLineA:IsLine cmAB xA [xA]:=⟨by simp,fun x => ⟨fun h => by rw [List.mem_singleton.1 h];exact .refl _,fun h => by rw [reachA h];simp⟩,fun x h => by rw [List.mem_singleton.1 h,cmA];rfl⟩
theorem isLineB:IsLine cmAB xB [xB,xA]:=by
 refine ⟨by simpa using fun e => neAB e.symm,fun x => ⟨fun h => ?_,fun h => ?_⟩,fun x h => ?_⟩
 ·rcases List.mem_cons.1 h with rfl | h
  ·exact .refl _
  ·rw [List.mem_singleton.1 h]
   exact Reach.one (by rw [parB];simp)
 ·rcases reachB h with rfl | rfl <;> simp
 ·rcases List.mem_cons.1 h with rfl | h
  ·rw [cmB'];rfl
  ·rw [List.mem_singleton.1 h,cmA];rfl
theorem lineA:lineL cmAB xA = some (sortL [xA]):=lineL_sort isLineA
theorem lineB:lineL cmAB xB = some (sortL [xB,xA]):=lineL_sort isLineB
theorem cmOkAB:CmOk cmAB ((rights lAB).map idO):=cmOk (by unfold lAB;simp)
theorem logB:∃ z,firstN 9 (logOf cmAB (sortL [xB,xA])) = [xB,z]:=by
 obtain ⟨h1,h2⟩:=lineL_some lineB
 obtain ⟨T,hT⟩:=log_head acycAB h1
 have hl:=logOf_len acycAB h1.nodup
 have hl2:(sortL [xB,xA]).length = 2:=by
  have a:=nodup_sub_len _ [xB,xA] h1.nodup (fun x hx => (sortL_mem _ x).1 hx)
  have b:=nodup_sub_len [xB,xA] _ isLineB.nodup (fun x hx => (sortL_mem _ x).2 hx)
  simp at a b;omega
 rw [hT,hl2] at hl
 obtain ⟨z,rfl⟩:∃ z,T = [z]:=by
  cases T with
  | nil => simp at hl
  | cons z T => cases T with
   | nil => exact ⟨z,rfl⟩
   | cons _ _ => simp at hl
 exact ⟨z,by rw [hT];rfl⟩
theorem ageB':ageOf cmAB xB = 2:=by
 obtain ⟨h1,h2⟩:=lineL_some lineB
 have hs:(sortL [xB,xA]).length ≤ 1000:=Nat.le_trans (h1.few cmOkAB) cmOkAB.few
 have ha:ageOf cmAB xA = 1:=by rw [ageOf_eq acycAB h1.closed hs ((sortL_mem _ _).2 (by simp)),parA];rfl
 rw [ageOf_eq acycAB h1.closed hs ((sortL_mem _ _).2 (by simp)),parB]
 simp [ha]
theorem olderAB:(decide (xA ∈ sortL [xB,xA]) && decide (xA ≠ xB)) = true:=by
 rw [Bool.and_eq_true,decide_eq_true_iff,decide_eq_true_iff]
 exact ⟨(sortL_mem _ _).2 (by simp),neAB⟩
theorem lastAB:lastS lAB = getS lAB:=funext fun x => last_get clashAB x
theorem idAB (o:Ob) (x:Idl) (W:World) (hr:rightOb o = true) (hx:idO o = x) (hL:Laid W):Calls Tryz.prog 56 #[.agg #[.int .i64 o.kind,.string o.body]] W fun e w' => e = .returned (.tuple #[.agg (idC x).toArray,.bool true]) ∧ Below W.heap.size W w':=by
 refine (oid_any o.kind o.body W hL).mono ?_
 rintro e w' ⟨rfl,hb⟩
 refine ⟨?_,hb⟩
 show Ending.returned (.tuple #[.agg (idC (if rightOb o = true then idO o else zid)).toArray,.bool (rightOb o)]) = _
 rw [if_pos hr,hr,hx]
theorem comABb (W:World) (g:Nat) (h:W.rangeAt g 0 (idC xA)) (hg:g < W.heap.size):Calls Tryz.prog 55 #[.agg (cmC zid (.slice (some ⟨g,0,none⟩) 1 1) txB).toArray] W fun e w' => e = .returned (.tuple #[.agg #[.int .i64 3,.string oB.body],.int .i64 0]) ∧ Below W.heap.size W w':=by
 have hrow:IdRow W (.slice (some ⟨g,0,none⟩) 1 1) [xA]:=⟨some ⟨g,0,none⟩,1,rfl,by unfold maxLen;simp,fun _ => ⟨g,0,rfl,hg,fun i hi => by
  have hi0:i = 0:=by simpa using hi
  subst hi0
  show W.rangeAt g (0 + 0 * 32) (idC xA)
  rw [Nat.zero_mul]
  exact h⟩⟩
 refine (ocmk_any zid _ [xA] txB W hrow zid_len (fun y hy => by rw [List.mem_singleton.1 hy];exact xA_len) (by simp) (fun _ _ _ e => by cases e;exact Nat.le_refl _) (by decide)).mono ?_
 rintro e w' ⟨rfl,hb⟩
 refine ⟨?_,hb⟩
 have h:(commitOk (zid,[xA],txB) && rightOb ⟨3,ofB (commitB (zid,[xA],txB))⟩) = true:=by rw [okB.1,show rightOb ⟨3,ofB (commitB (zid,[xA],txB))⟩ = true from okB.2];rfl
 unfold mkOb mkE
 rw [if_pos h,if_pos h];rfl
theorem obRowAB (W:World) (b:Nat) (h:W.rangeAt b 0 [.int .i64 3,.string oA.body,.int .i64 3,.string oB.body]) (hb:b < W.heap.size):ObRow W (.slice (some ⟨b,0,none⟩) 2 2) lAB:=by
 refine ⟨some ⟨b,0,none⟩,2,rfl,by unfold maxLen lAB;simp,fun _ => ⟨b,0,rfl,hb,fun i hi j u hu => ?_⟩⟩
 have hi2:i = 0 ∨ i = 1:=by unfold lAB at hi;simp at hi;omega
 rcases hi2 with rfl | rfl
 ·have hu':[Value.int .i64 3,.string oA.body][j]? = some u:=hu
  rcases j with _ | _ | j
  ·simp at hu';rw [← hu'];exact h 0 _ rfl
  ·simp at hu';rw [← hu'];exact h 1 _ rfl
  ·simp at hu'
 ·have hu':[Value.int .i64 3,.string oB.body][j]? = some u:=hu
  rcases j with _ | _ | j
  ·simp at hu';rw [← hu'];exact h 2 _ rfl
  ·simp at hu';rw [← hu'];exact h 3 _ rfl
  ·simp at hu'
theorem logAB (r:Value) (W:World) (h:SrcP W r (getS lAB)):Calls Tryz.prog 22 #[r,.agg (idC xB).toArray,.int .i64 9] W fun e w' => ∃ v z,e = .returned (.tuple #[v,.int .i64 0]) ∧ IdRow w' v [xB,z] ∧ Below W.heap.size W w':=by
 refine (hlogn_any r (getS lAB) (fun x o h => (getS_some h).2.1) _ cmOkAB acycAB xB 9 W h xB_len).mono ?_
 rintro e w' ⟨hb,⟨S,v,hl,rfl,hr⟩ | ⟨hl,_⟩⟩
 ·obtain rfl:sortL [xB,xA] = S:=Option.some.inj (lineB.symm.trans hl)
  obtain ⟨z,hz⟩:=logB
  rw [hz] at hr
  exact ⟨v,z,rfl,hr,hb⟩
 ·exact absurd (lineB.symm.trans hl) (by simp)
theorem ageAB (r:Value) (W:World) (h:SrcP W r (getS lAB)):Calls Tryz.prog 23 #[r,.agg (idC xB).toArray] W fun e w' => e = .returned (.tuple #[.int .i64 2,.int .i64 0]) ∧ Below W.heap.size W w':=by
 refine (hage_any r (getS lAB) (fun x o h => (getS_some h).2.1) _ cmOkAB acycAB xB W h xB_len).mono ?_
 rintro e w' ⟨hb,⟨_,rfl⟩ | ⟨hl,_⟩⟩
 ·exact ⟨by rw [ageB'];rfl,hb⟩
 ·exact absurd (lineB.symm.trans hl) (by simp)
theorem oldAB (r:Value) (W:World) (h:SrcP W r (getS lAB)):Calls Tryz.prog 29 #[r,.agg (idC xA).toArray,.agg (idC xB).toArray] W fun e w' => e = .returned (.tuple #[.bool true,.int .i64 0]) ∧ Below W.heap.size W w':=by
 refine (holder_any r (getS lAB) (fun x o h => (getS_some h).2.1) _ cmOkAB xA xB W h xA_len xB_len).mono ?_
 rintro e w' ⟨hb,⟨A,B,hla,hlb,rfl⟩ | ⟨hl,_⟩⟩
 ·obtain rfl:sortL [xB,xA] = B:=Option.some.inj (lineB.symm.trans hlb)
  exact ⟨by rw [olderAB],hb⟩
 ·rcases hl with hl | hl
  ·exact absurd (lineA.symm.trans hl) (by simp)
  ·exact absurd (lineB.symm.trans hl) (by simp)
set_option maxRecDepth 100000 in
set_option maxHeartbeats 4000000 in
theorem alive28_any (w:World) (hL:Laid w):Calls Tryz.prog 15 #[] w fun e w' => e = .returned (.bool true) ∧ Below w.heap.size w w':=by
 obtain ⟨zi,i0,hi,hz0,hz1,hz2,hzi,hzil⟩:=id_zero
 have HZI:=Lib.hid hzil
 have HLD:=Lib.hid hL
 have hcA:Calls Tryz.prog 55 #[.agg (cmC zid (.slice none 0 0) txA).toArray] w fun e w' => e = .returned (.tuple #[.agg #[.int .i64 3,.string oA.body],.int .i64 0]) ∧ Below w.heap.size w w':=by
  refine (ocmk_any zid (.slice none 0 0) [] txA w (ids_nil w) zid_len (fun y hy => by cases hy) (by simp) (fun _ _ _ e => by cases e;exact Nat.le_refl _) (by decide)).mono ?_
  rintro e w' ⟨rfl,hb⟩
  refine ⟨?_,hb⟩
  have h:(commitOk (zid,[],txA) && rightOb ⟨3,ofB (commitB (zid,[],txA))⟩) = true:=by rw [okA.1,show rightOb ⟨3,ofB (commitB (zid,[],txA))⟩ = true from okA.2];rfl
  unfold mkOb mkE
  rw [if_pos h,if_pos h];rfl
 have HCA:=Lib.hid hcA
 clear hcA hzil
 go_enter Tryz.func15,Tryz.ntmps15
 go_wp2_with fail
 refine HCA.out.mono ?_
 rintro e w1 ⟨rfl,hb1⟩
 have HB1:=Lib.hid hb1
 have h2:∀ (a:Int) (s:ByteArray),(Tryz.prog.info? 93).map (·.size) = some [Value.int .i64 a,Value.string s].length:=fun a s => by kernel_rfl
 have HIA:=Lib.hid (fun W (h:Laid W) => idAB oA xA W okA.2 idO_A h)
 have HIB:=Lib.hid (fun W (h:Laid W) => idAB oB xB W okB.2 idO_B h)
 have HCB:=Lib.hid (fun W g (h:W.rangeAt g 0 (idC xA)) (hg:g < W.heap.size) => comABb W g h hg)
 have HOB:Hid (∀ W v,ObRow W v lAB → Laid W → Calls Tryz.prog 20 #[v] W fun e w' => ∃ r,e = .returned r ∧ SrcP w' r (getS lAB) ∧ Below W.heap.size W w'):=Lib.hid (fun W v h hl => by rw [← lastAB];exact oof_any v lAB W h (by unfold lAB;simp) hl)
 have HRO:Hid (∀ W b,W.rangeAt b 0 [.int .i64 3,.string oA.body,.int .i64 3,.string oB.body] → b < W.heap.size → ObRow W (.slice (some ⟨b,0,none⟩) 2 2) lAB):=Lib.hid (fun W b h hb => obRowAB W b h hb)
 have hk:oA.kind = 3 ∧ oB.kind = 3:=⟨rfl,rfl⟩
 generalize oA.body = sa at HIA HRO ⊢
 generalize oB.body = sb at HIB HCB HRO
 have HFR:Hid (∀ x o,getS lAB x = some o → rightOb o = true):=Lib.hid (fun x o h => (getS_some h).2.1)
 clear hb1 HCA hk
 go_wp2_with fail
 have hb2:Below w1.heap.size w1 (w1.alloc (.cells #[.int .i64 3,.string sa] 93)):=(Below.refl _ _).alloc (Nat.le_refl _) _
 have HB2:=Lib.hid (HB1.out.trans (hb2.mono HB1.out.size))
 refine (HIA.out _ (HLD.out.below HB2.out)).mono ?_
 rintro e w3 ⟨rfl,hb3⟩
 have hs3:=hb3.size
 rw [World.size_alloc] at hs3
 have HB3:=Lib.hid (HB2.out.trans (hb3.mono HB2.out.size))
 have HOA3:=Lib.hid (rangeAt_below (range_new w1 [.int .i64 3,.string sa] 93 rfl) hb3 (by simp))
 have hxa:(idC xA).length = 32:=by rw [idC_len,xA_len]
 have hxb:(idC xB).length = 32:=by rw [idC_len,xB_len]
 have h32a:=h32_of hxa
 have h32b:=h32_of hxb
 have h32:(Tryz.prog.info? 24).map (·.size) = some 32:=by kernel_rfl
 have HXA:=Lib.hid hxa
 have HXB:=Lib.hid hxb
 have HAO:=Lib.hid (idC_one xA)
 have HBO:=Lib.hid (idC_one xB)
 have HSZ:Hid (∀ w,(sizeOf 24).run Tryz.prog w = .ok (idC xA).length w):=Lib.hid (fun w => by rw [hxa];kernel_rfl)
 have heq:=id_eqIn xB xB xB_len xB_len
 rw [show (xB == xB) = true from by simp] at heq
 have HEQ:=Lib.hid heq
 have HLOG:=Lib.hid (fun r W (h:SrcP W r (getS lAB)) => logAB r W h)
 have HAGE:=Lib.hid (fun r W (h:SrcP W r (getS lAB)) => ageAB r W h)
 have HOLD:=Lib.hid (fun r W (h:SrcP W r (getS lAB)) => oldAB r W h)
 clear hb2 hb3 hxa hxb heq
 generalize idC xA = ua at h32a HIA HCB HXA HAO HSZ HOLD ⊢
 generalize hub:idC xB = ub at h32b HIB HXB HBO HEQ HLOG HAGE HOLD
 have HUB:=Lib.hid hub
 clear hub
 obtain ⟨W4,hW4⟩:∃ W4,(w3.alloc (.cells zi 24)).setCells w3.heap.size 0 ua = W4:=⟨_,rfl⟩
 have wr4:=wrote (by rw [HXA.out,HZI.out]) (by rw [HZI.out];omega) hW4
 have HTH4:=Lib.hid (there_alloc w3 zi 24 HZI.out)
 have HB4:=Lib.hid (HB3.out.trans (wr4.bel.mono HB3.out.size))
 have HRA4:=Lib.hid wr4.row
 have hl4:=wr4.lt
 have HOA4:=Lib.hid (rangeAt_below HOA3.out wr4.bel (by omega))
 have HW4:=Lib.hid hW4
 have hsz3:=HB3.out.size
 clear wr4 hW4 HOA3
 go_wp2_with (first
  | (refine wpList_store_list rfl 24 _ _ rfl w3.heap.size 0 ua rfl rfl 32 HXA.out HTH4.out h32 HAO.out ?_;rw [HW4.out])
  | (refine wpList_load_mid rfl 24 _ rfl w3.heap.size 0 rfl ua _ HRA4.out Tryz.underlying24 rfl h32a ?_)
  | (refine wpList_buildSlice_one rfl (.tmp 27) 28 24 rfl ua zi rfl Tryz.underlying28 HSZ.out hzi (by rw [HXA.out];omega) (by rw [HXA.out];omega) ?_))
 have hb5:Below W4.heap.size W4 (W4.alloc (.cells ua.toArray 24)):=(Below.refl _ _).alloc (Nat.le_refl _) _
 have HB5:=Lib.hid (HB4.out.trans (hb5.mono HB4.out.size))
 have HRA5:=Lib.hid (rangeAt_below HRA4.out hb5 hl4)
 have HOA5:=Lib.hid (rangeAt_below HOA4.out hb5 (by omega))
 refine (HCB.out (W4.alloc (.cells ua.toArray 24)) W4.heap.size (range_new _ _ _ rfl) (by simp)).mono ?_
 rintro e w6 ⟨rfl,hb6⟩
 have hs6:W4.heap.size + 1 ≤ w6.heap.size:=by have:=hb6.size;rwa [World.size_alloc] at this
 have HB6:=Lib.hid (HB5.out.trans (hb6.mono HB5.out.size))
 have HRA6:=Lib.hid (rangeAt_below HRA5.out hb6 (by simp;omega))
 have HOA6:=Lib.hid (rangeAt_below HOA5.out hb6 (by simp;omega))
 clear hb5 hb6 HRA4 HOA4 HRA5 HOA5 HTH4 HW4 HCB
 go_wp2_with fail
 have hb7:Below w6.heap.size w6 (w6.alloc (.cells #[.int .i64 3,.string sb] 93)):=(Below.refl _ _).alloc (Nat.le_refl _) _
 have HB7:=Lib.hid (HB6.out.trans (hb7.mono HB6.out.size))
 refine (HIB.out _ (HLD.out.below HB7.out)).mono ?_
 rintro e w8 ⟨rfl,hb8⟩
 have hs8:w6.heap.size + 1 ≤ w8.heap.size:=by have:=hb8.size;rwa [World.size_alloc] at this
 have HB8:=Lib.hid (HB7.out.trans (hb8.mono HB7.out.size))
 have HOB8:=Lib.hid (rangeAt_below (range_new w6 [.int .i64 3,.string sb] 93 rfl) hb8 (by simp))
 have hb68:Below w6.heap.size w6 w8:=hb7.trans (hb8.mono (by simp))
 have HRA8:=Lib.hid (rangeAt_below HRA6.out hb68 (by omega))
 have HOA8:=Lib.hid (rangeAt_below HOA6.out hb68 (by omega))
 obtain ⟨W9,hW9⟩:∃ W9,(w8.alloc (.cells zi 24)).setCells w8.heap.size 0 ub = W9:=⟨_,rfl⟩
 have wr9:=wrote (by rw [HXB.out,HZI.out]) (by rw [HZI.out];omega) hW9
 have HTH9:=Lib.hid (there_alloc w8 zi 24 HZI.out)
 have HB9:=Lib.hid (HB8.out.trans (wr9.bel.mono HB8.out.size))
 have HRB9:=Lib.hid wr9.row
 have hl9:=wr9.lt
 have HRA9:=Lib.hid (rangeAt_below HRA8.out wr9.bel (by omega))
 have HOA9:=Lib.hid (rangeAt_below HOA8.out wr9.bel (by omega))
 have HOB9:=Lib.hid (rangeAt_below HOB8.out wr9.bel (by omega))
 have HW9:=Lib.hid hW9
 have s2a:(Tryz.prog.info? 93).map (·.size) = some [Value.int .i64 3,Value.string sa].length:=h2 3 sa
 have s2b:(Tryz.prog.info? 93).map (·.size) = some [Value.int .i64 3,Value.string sb].length:=h2 3 sb
 have hs9:w8.heap.size ≤ W9.heap.size:=by omega
 clear hb7 hb8 hb68 HOB8 HRA6 HOA6 HRA8 HOA8 wr9 hW9 h2
 go_wp2_with (first
  | (refine wpList_store_list rfl 24 _ _ rfl w8.heap.size 0 ub rfl rfl 32 HXB.out HTH9.out h32 HBO.out ?_;rw [HW9.out])
  | (refine wpList_load_mid rfl 93 _ rfl w1.heap.size 0 rfl _ _ HOA9.out Tryz.underlying93 rfl s2a ?_)
  | (refine wpList_load_mid rfl 93 _ rfl w6.heap.size 0 rfl _ _ HOB9.out Tryz.underlying93 rfl s2b ?_))
 have hbX:Below W9.heap.size W9 (W9.alloc (.cells #[.int .i64 3,.string sa,.int .i64 3,.string sb] 93)):=(Below.refl _ _).alloc (Nat.le_refl _) _
 have HBX:=Lib.hid (HB9.out.trans (hbX.mono HB9.out.size))
 refine (HOB.out (W9.alloc (.cells #[.int .i64 3,.string sa,.int .i64 3,.string sb] 93)) (.slice (some ⟨W9.heap.size,0,none⟩) 2 2) (HRO.out _ _ (range_new _ _ _ rfl) (by simp)) (HLD.out.below HBX.out)).mono ?_
 intro e wa h
 obtain ⟨r,rfl,hsr,hba⟩:=h
 have hb9a:Below W9.heap.size W9 wa:=hbX.trans (hba.mono (by simp))
 have HBA:=Lib.hid (HBX.out.trans (hba.mono HBX.out.size))
 have HSR:=Lib.hid hsr
 have HRAA:=Lib.hid (rangeAt_below HRA9.out hb9a (by omega))
 have HRBA:=Lib.hid (rangeAt_below HRB9.out hb9a hl9)
 have hsa2:=hb9a.size
 clear hbX hba hb9a hsr HRA9 HRB9 HOA9 HOB9 HTH9 HW9 HOB HRO
 go_wp2_with (refine wpList_load_mid rfl 24 _ rfl w8.heap.size 0 rfl ub _ HRBA.out Tryz.underlying24 rfl h32b ?_)
 refine (HLOG.out r wa HSR.out).mono ?_
 rintro e wb ⟨v,z,rfl,hrow,hbb⟩
 have HBB:=Lib.hid (HBA.out.trans (hbb.mono HBA.out.size))
 have HSRB:=Lib.hid (HSR.out.below hbb)
 have HRAB:=Lib.hid (rangeAt_below HRAA.out hbb (by omega))
 have HRBB:=Lib.hid (rangeAt_below HRBA.out hbb (by omega))
 have HROW:=Lib.hid hrow
 have hsb2:=hbb.size
 clear hbb hrow HSR HRAA HRBA
 go_wp2_with (refine wpList_load_mid rfl 24 _ rfl w8.heap.size 0 rfl ub _ HRBB.out Tryz.underlying24 rfl h32b ?_)
 refine (HAGE.out r wb HSRB.out).mono ?_
 rintro e wc ⟨rfl,hbc⟩
 have HBC:=Lib.hid (HBB.out.trans (hbc.mono HBB.out.size))
 have HSRC:=Lib.hid (HSRB.out.below hbc)
 have HRAC:=Lib.hid (rangeAt_below HRAB.out hbc (by omega))
 have HRBC:=Lib.hid (rangeAt_below HRBB.out hbc (by omega))
 have HROWC:=Lib.hid (HROW.out.below hbc)
 have hsc2:=hbc.size
 clear hbc HSRB HRAB HRBB HROW
 go_wp2_with (first
  | (refine wpList_load_mid rfl 24 _ rfl w3.heap.size 0 rfl ua _ HRAC.out Tryz.underlying24 rfl h32a ?_)
  | (refine wpList_load_mid rfl 24 _ rfl w8.heap.size 0 rfl ub _ HRBC.out Tryz.underlying24 rfl h32b ?_))
 refine (HOLD.out r wc HSRC.out).mono ?_
 rintro e wd ⟨rfl,hbd⟩
 have HBD:=Lib.hid (HBC.out.trans (hbd.mono HBC.out.size))
 have frb:=rangeAt_below HRBC.out hbd (by omega)
 have hrd:=HROWC.out.below hbd
 obtain ⟨ar,cr,rfl,hmr,hcr⟩:=hrd.open
 obtain ⟨br,offr,rfl,hbr,hcell⟩:=hcr (by simp)
 have frx:=hcell 0 (by simp)
 have frx':wd.rangeAt br offr ub:=by
  rw [Nat.zero_mul,Nat.add_zero] at frx
  rw [← HUB.out];exact frx
 have heq:=HEQ.out
 have hwd:w8.heap.size < wd.heap.size:=by have:=hbd.size;omega
 clear hbd HRAC HRBC HROWC HSRC hrd hcr frx hcell
 go_wp2_with fail
 refine wp_region_bq (by kernel_rfl) (by kernel_rfl) ?_
 repeat (go_big_quiet_step (fail))
 refine bq_row 24 _ _ rfl rfl rfl frx' (by omega) Tryz.underlying24 rfl h32b ?_
 simp only [Act.put,List.setIfInBounds_toArray,List.set_cons_zero,List.set_cons_succ]
 repeat (go_big_quiet_step (fail))
 refine bq_row 24 _ _ rfl rfl rfl frb (by omega) Tryz.underlying24 rfl h32b ?_
 simp only [Act.put,List.setIfInBounds_toArray,List.set_cons_zero,List.set_cons_succ]
 repeat (go_big_quiet_step (fail))
 refine wpQuiet_nil ?_
 intro wq hbq
 have HBQ:=Lib.hid (HBD.out.trans (hbq.mono HBD.out.size))
 clear hbq frx' frb heq
 go_wp2
 go_ret
 exact ⟨rfl,HBQ.out⟩
end Go.Proofs.YtbmiiiccnoiffaaGreatDoor
namespace Go.Proofs.YtbmiiiccnoiffaaGreatDoor
open Go.RowKit
theorem par_getD (cm:Idl → Option Cmt) (x:Idl):((cm x).getD cmt0).pars = par cm x:=by unfold par;cases cm x <;> rfl
theorem cmt_facts {cm:Idl → Option Cmt} {y:Idl} {ao:Option Addr} {cap n:Nat} {ct:List Value} (h:∀ c y,cm y = some c → c.tree.length = 32 ∧ ∀ q ∈ c.pars,q.length = 32) (hct:cmC ((cm y).getD cmt0).tree (.slice ao n cap) ((cm y).getD cmt0).text = ct) :
  Hid (ct.length = 34) ∧ Hid (∀ v ∈ ct,v.oneCell' = true) ∧ Hid (ct[32]? = some (.slice ao n cap)):=by
 have htl:((cm y).getD cmt0).tree.length = 32:=by
  cases e:cm y with
  | none => exact zid_len
  | some c => exact (h c y e).1
 refine ⟨Lib.hid (by rw [← hct];exact cmC_len _ _ _ htl),Lib.hid (by rw [← hct];exact cmC_one _ _ _ _ _),Lib.hid ?_⟩
 rw [← hct]
 unfold cmC
 rw [List.getElem?_append_right (by rw [idC_len,htl];exact Nat.le_refl _),idC_len,htl];rfl
set_option maxRecDepth 100000 in
set_option maxHeartbeats 4000000 in
theorem rready_any (vl vi:Value) (l:List Ob) (U:List Idl) (hU:CmOk (cmG (getS l)) U) (v1 v2:Value) (L T:List Idl) (x:Idl) (w:World) (hs:SrcRow w (.agg #[vl,vi]) l) (h1:IdRow w v1 L) (h2:IdRow w v2 T) (hL:∀ y ∈ L,y.length = 32) (hT:∀ y ∈ T,y.length = 32) (hx:x.length = 32) :
  Calls Tryz.prog 66 #[.agg #[vl,vi],v1,v2,.agg (idC x).toArray] w fun e w' => e = .returned (.bool (readyB (cmG (getS l)) L T x)) ∧ Below w.heap.size w w':=by
 have h32x:=h32_of (us:=idC x) (by rw [idC_len,hx])
 obtain ⟨zc,hzc,_,hzce⟩:=cm_zero
 have HZC:=Lib.hid (show zc.size = 34 by rw [hzce];exact cmC_len _ _ _ zid_len)
 obtain ⟨W,hW⟩:∃ W,(w.alloc (.cells #[vl,vi] 30)).alloc (.cells (idC x).toArray 24) = W:=⟨_,rfl⟩
 have hbW:Below w.heap.size w W:=by rw [← hW];exact ((Below.refl _ _).alloc (Nat.le_refl _) _).alloc (by simp) _
 have hA:=(Arr.ofList w [vl,vi] 30).alloc (by simp) (.cells (idC x).toArray 24)
 have c0:W.cell? ⟨w.heap.size,0,none⟩ = some vl:=by rw [← hW];exact hA.cell 0 (by simp)
 have c1:W.cell? ⟨w.heap.size,1,none⟩ = some vi:=by rw [← hW];exact hA.cell 1 (by simp)
 have hrx:W.rangeAt (w.heap.size + 1) 0 (idC x):=by rw [← hW];exact range_new _ _ _ (by simp)
 have hsW:W.heap.size = w.heap.size + 1 + 1:=by rw [← hW];simp
 have HCM:=Lib.hid (fun y (hy:y.length = 32) W' (h:Below W.heap.size W W') => rcmt_fr vl vi l y W' ((hs.below hbW).below h) hy)
 have HT1:=Lib.hid (fun W' (h:Below W.heap.size W W') y (hy:y.length = 32) => rin_any v2 T y W' ((h2.below hbW).below h) hT hy)
 have HX:=Lib.hid hx
 obtain ⟨ao,cap,rfl,hmax,hcells⟩:=h1.open
 unfold maxLen at hmax
 have HV:Hid (L ≠ [] → ∃ b off,ao = some ⟨b,off,none⟩ ∧ b < W.heap.size ∧ ∀ k (hk:k < L.length),W.rangeAt b (off + k * 32) (idC L[k])):=Lib.hid (fun hne => by
  obtain ⟨b,off,e,hb,hc⟩:=hcells hne
  exact ⟨b,off,e,Nat.lt_of_lt_of_le hb hbW.size,fun k hk => rangeAt_below (hc k hk) hbW hb⟩)
 have HBW:=Lib.hid hbW
 have HC01:=Lib.hid (And.intro c0 c1)
 have HRX:=Lib.hid hrx
 have HSW:=Lib.hid hsW
 have HW:=Lib.hid hW
 have HL:=Lib.hid hL
 have HTL:Hid (∀ c,∀ y,cmG (getS l) y = some c → c.tree.length = 32 ∧ ∀ q ∈ c.pars,q.length = 32):=Lib.hid (fun c y h => ⟨hU.tree y c h,hU.pars y c h⟩)
 clear hs hx hU hbW hrx hsW hW hA c0 c1 h1 h2 hL hT hcells hzce
 generalize hiy:idC x = ux at h32x HRX HW
 have HIX:=Lib.hid hiy
 clear hiy
 go_enter Tryz.func66,Tryz.ntmps66
 go_wp2
 rw [HW.out]
 go_loopw [9] (fun i wr => ∃ k:Nat,k ≤ L.length ∧ i = .int .i64 k ∧ ReadyTo (cmG (getS l)) L T x k ∧ Below W.heap.size W wr) (fun i _ => (L.length - intOf i).toNat)
 case atStart => exact ⟨0,by omega,rfl,(fun j _ hj => absurd hj (by omega)),Below.refl _ _⟩
 case round =>
  obtain ⟨wo,rfl⟩:∃ wo:World,wo = wr:=⟨_,rfl⟩
  obtain ⟨k,hk,rfl,hrt,hb⟩:=hrel
  have HRT:=Lib.hid hrt
  have HB:=Lib.hid hb
  have HRXO:=Lib.hid (rangeAt_below HRX.out hb (by rw [HSW.out];omega))
  clear hrt hb
  by_cases hlt:k < L.length
  ·obtain ⟨b,off,rfl,hbl,hcell⟩:=HV.out (by intro e;rw [e] at hlt;simp at hlt)
   have f1:=rangeAt_below (hcell k hlt) HB.out hbl
   obtain ⟨y,hy⟩:∃ y,L[k] = y:=⟨_,rfl⟩
   have HYK:=Lib.hid hy
   rw [hy] at f1
   have hyl:y.length = 32:=by rw [← hy];exact HL.out _ (List.getElem_mem hlt)
   have h32y:=h32_of (us:=idC y) (by rw [idC_len,hyl])
   have hso:=HB.out.size
   have hsw:=HSW.out
   have hSX:∀ X,Below wo.heap.size wo X → X.cell? ⟨w.heap.size,0,none⟩ = some vl ∧ X.cell? ⟨w.heap.size,1,none⟩ = some vi ∧ X.rangeAt b (off + k * 32) (idC y):=fun X hX => by
    have hWX:=HB.out.trans (hX.mono hso)
    exact ⟨below_load HC01.out.1 hWX (by omega),below_load HC01.out.2 hWX (by omega),rangeAt_below f1 hX (by omega)⟩
   have HSX:=Lib.hid hSX
   have HRXX:=Lib.hid (fun X (h:Below wo.heap.size wo X) => rangeAt_below HRXO.out h (by omega))
   have HCY:=Lib.hid (fun X (h:Below wo.heap.size wo X) => HCM.out y hyl X (HB.out.trans (h.mono hso)))
   have HTY:=Lib.hid (fun X (h:Below wo.heap.size wo X) => HT1.out X (HB.out.trans (h.mono hso)) y hyl)
   have k0:(0:Int) ≤ k:=by omega
   have k1:(k:Int) < L.length:=by omega
   have d1:decide ((k:Int) < L.length) = true:=decide_eq_true k1
   have hS0:=hSX wo.drew (Below.refl _ _).drew
   have h34:(Tryz.prog.info? 97).map (·.size) = some 34:=by kernel_rfl
   clear hcell hy f1 hSX hyl hso hsw
   generalize hiy:idC y = uy at h32y HSX HCY HTY hS0
   clear hiy
   go_wp2
   refine wp_region_L 11 (fun w' => w'.cell? ⟨w.heap.size,0,none⟩ = some vl ∧ w'.cell? ⟨w.heap.size,1,none⟩ = some vi ∧ w'.rangeAt b (off + k * 32) uy) (by kernel_rfl) (by kernel_rfl) ?_
   refine WL.take (i:=0) (v:=?_) rfl (by kernel_rfl) (by decide) (by decide +kernel) (by decide +kernel) (fun _ _ _ h => h) rfl ?_ hS0 ?_
   rotate_left
   ·(intro w' hSw;(try dsimp only at hSw);go_simp;(try with_reducible rfl))
   simp only [Act.put];(try simp only [List.getElem_toArray]);(try simp only [List.getElem_cons_succ]);(try simp only [List.getElem_cons_zero]);(try simp only [List.setIfInBounds_toArray]);(try simp only [List.set_cons_succ]);(try simp only [List.set_cons_zero])
   refine WL.take (i:=1) (v:=?_) rfl (by kernel_rfl) (by decide) (by decide +kernel) (by decide +kernel) (fun _ _ _ h => h) rfl ?_ hS0 ?_
   rotate_left
   ·(intro w' hSw;(try dsimp only at hSw);go_simp;(try with_reducible rfl))
   simp only [Act.put];(try simp only [List.getElem_toArray]);(try simp only [List.getElem_cons_succ]);(try simp only [List.getElem_cons_zero]);(try simp only [List.setIfInBounds_toArray]);(try simp only [List.set_cons_succ]);(try simp only [List.set_cons_zero])
   refine WL.take (i:=2) (v:=?_) rfl (by kernel_rfl) (by decide) (by decide +kernel) (by decide +kernel) (fun _ _ _ h => h) rfl ?_ hS0 ?_
   rotate_left
   ·(intro w' hSw;(try dsimp only at hSw);go_simp;(try with_reducible rfl))
   simp only [Act.put];(try simp only [List.getElem_toArray]);(try simp only [List.getElem_cons_succ]);(try simp only [List.getElem_cons_zero]);(try simp only [List.setIfInBounds_toArray]);(try simp only [List.set_cons_succ]);(try simp only [List.set_cons_zero])
   refine WL.take (i:=3) (v:=?_) rfl (by kernel_rfl) (by decide) (by decide +kernel) (by decide +kernel) (fun _ _ _ h => h) rfl ?_ hS0 ?_
   rotate_left
   ·(intro w' hSw;(try dsimp only at hSw);go_simp;(try with_reducible rfl))
   simp only [Act.put];(try simp only [List.getElem_toArray]);(try simp only [List.getElem_cons_succ]);(try simp only [List.getElem_cons_zero]);(try simp only [List.setIfInBounds_toArray]);(try simp only [List.set_cons_succ]);(try simp only [List.set_cons_zero])
   refine WL.take (i:=4) (v:=_) rfl (by kernel_rfl) (by decide) (by decide +kernel) (by decide +kernel) (fun _ _ _ h => h) rfl (fun w' hSw => exec_row 24 _ (hSw.2.2) Tryz.underlying24 rfl h32y _ rfl rfl) hS0 ?_
   simp only [Act.put];(try simp only [List.getElem_toArray]);(try simp only [List.getElem_cons_succ]);(try simp only [List.getElem_cons_zero]);(try simp only [List.setIfInBounds_toArray]);(try simp only [List.set_cons_succ]);(try simp only [List.set_cons_zero])
   refine WL.two (i:=5) (k:=9) rfl rfl (by decide) (by decide) (by decide +kernel) ?_ ?_
   focus
    go_wp2_with fail
    refine (HCY.out _ (Below.refl _ _).drew).mono ?_
    rintro e w4 ⟨v,rfl,hrow,hb4,hfr⟩
    have hb4:=drew_below hb4
    have hS4:=HSX.out _ hb4
    have HB4:=Lib.hid hb4
    obtain ⟨ao2,lcap,rfl,_⟩:=hrow.flat0
    have HROW:=Lib.hid hrow
    have HFRS:=Lib.hid hfr
    clear hb4 hrow hfr HCY
    obtain ⟨ct,hct⟩:∃ ct,cmC ((cmG (getS l) y).getD cmt0).tree (.slice ao2 ((cmG (getS l) y).getD cmt0).pars.length lcap) ((cmG (getS l) y).getD cmt0).text = ct:=⟨_,rfl⟩
    obtain ⟨HCL,HCO,HC32⟩:=cmt_facts HTL.out hct
    rw [hct]
    clear hct
    go_wp2
    refine ⟨hS4,?_⟩
    refine WL.take (i:=6) (v:=?_) rfl (by kernel_rfl) (by decide) (by decide +kernel) (by decide +kernel) (fun _ _ _ h => h) rfl ?_ hS4 ?_
    rotate_left
    ·(intro w' hSw;(try dsimp only at hSw);go_simp;(try with_reducible rfl))
    simp only [Act.put];(try simp only [List.getElem_toArray]);(try simp only [List.getElem_cons_succ]);(try simp only [List.getElem_cons_zero]);(try simp only [List.setIfInBounds_toArray]);(try simp only [List.set_cons_succ]);(try simp only [List.set_cons_zero])
    refine WL.take (i:=7) (v:=?_) rfl (by kernel_rfl) (by decide) (by decide +kernel) (by decide +kernel) (fun _ _ _ h => h) rfl ?_ hS4 ?_
    rotate_left
    ·(intro w' hSw;(try dsimp only at hSw);go_simp;(try with_reducible rfl))
    simp only [Act.put];(try simp only [List.getElem_toArray]);(try simp only [List.getElem_cons_succ]);(try simp only [List.getElem_cons_zero]);(try simp only [List.setIfInBounds_toArray]);(try simp only [List.set_cons_succ]);(try simp only [List.set_cons_zero])
    refine WL.take (i:=8) (v:=?_) rfl (by kernel_rfl) (by decide) (by decide +kernel) (by decide +kernel) (fun _ _ _ h => h) rfl ?_ hS4 ?_
    rotate_left
    ·(intro w' hSw;(try dsimp only at hSw);go_simp;(try with_reducible rfl))
    simp only [Act.put];(try simp only [List.getElem_toArray]);(try simp only [List.getElem_cons_succ]);(try simp only [List.getElem_cons_zero]);(try simp only [List.setIfInBounds_toArray]);(try simp only [List.set_cons_succ]);(try simp only [List.set_cons_zero])
    refine WL.one (i:=9) rfl (by decide) (by decide +kernel) ?_
    have hb5:Hid (Below wo.heap.size wo (w4.alloc (.cells zc 97))):=Lib.hid (HB4.out.alloc HB4.out.size _)
    have hth:=Lib.hid (there_alloc w4 zc 97 HZC.out)
    go_wp2
    have hS5:=HSX.out _ hb5.out
    refine ⟨hS5,?_⟩
    refine WL.one (i:=10) rfl (by decide) (by decide +kernel) ?_
    refine wpList_store_list rfl 97 _ _ rfl w4.heap.size 0 ct rfl rfl 34 HCL.out hth.out h34 HCO.out ?_
    obtain ⟨p,hp⟩:∃ p,p = w4.heap.size:=⟨_,rfl⟩
    have HP:=World.rangeAt_setCells_same (w4.alloc (.cells zc 97)) w4.heap.size 0 ct (by rw [HCL.out];exact hth.out)
    have HB5:=Lib.hid (below_setCells w4.heap.size HB4.out.size ct 0 _ hb5.out)
    have HR5:Hid (IdRow ((w4.alloc (.cells zc 97)).setCells w4.heap.size 0 ct) (.slice ao2 ((cmG (getS l) y).getD cmt0).pars.length lcap) ((cmG (getS l) y).getD cmt0).pars):=Lib.hid (HROW.out.below (below_setCells w4.heap.size (Nat.le_refl _) ct 0 _ ((Below.refl _ _).alloc (Nat.le_refl _) _)))
    generalize (w4.alloc (.cells zc 97)).setCells w4.heap.size 0 ct = W5 at HP HB5 HR5
    rw [← hp] at HP ⊢
    clear hp hth hb5 HB4 HROW HFRS hS4 hS5
   rotate_left
   focus
    go_wp2_with fail
    have hb3:Hid (Below wo.heap.size wo (wo.drew.alloc (.cells zc 97))):=Lib.hid ((Below.refl _ _).drew.alloc (Nat.le_refl _) _)
    have hth3:=Lib.hid (there_alloc wo.drew zc 97 HZC.out)
    have hS4:=HSX.out _ hb3.out
    refine ⟨hS4,?_⟩
    refine WL.one (i:=5) rfl (by decide) (by decide +kernel) ?_
    go_wp2_with fail
    refine (HCY.out _ hb3.out).mono ?_
    rintro e w4 ⟨v,rfl,hrow,hb4,hfr⟩
    have hth:=Lib.hid (there_below hth3.out hb4 (by simp))
    have hb4':=Lib.hid (hb3.out.trans (hb4.mono hb3.out.size))
    have hS5:=HSX.out _ hb4'.out
    obtain ⟨ao2,lcap,rfl,_⟩:=hrow.flat0
    have HROW:=Lib.hid hrow
    have HFRS:=Lib.hid hfr
    clear hb4 hrow hfr HCY
    obtain ⟨ct,hct⟩:∃ ct,cmC ((cmG (getS l) y).getD cmt0).tree (.slice ao2 ((cmG (getS l) y).getD cmt0).pars.length lcap) ((cmG (getS l) y).getD cmt0).text = ct:=⟨_,rfl⟩
    obtain ⟨HCL,HCO,HC32⟩:=cmt_facts HTL.out hct
    rw [hct]
    clear hct
    go_wp2
    refine ⟨hS5,?_⟩
    refine WL.take (i:=6) (v:=?_) rfl (by kernel_rfl) (by decide) (by decide +kernel) (by decide +kernel) (fun _ _ _ h => h) rfl ?_ hS5 ?_
    rotate_left
    ·(intro w' hSw;(try dsimp only at hSw);go_simp;(try with_reducible rfl))
    simp only [Act.put];(try simp only [List.getElem_toArray]);(try simp only [List.getElem_cons_succ]);(try simp only [List.getElem_cons_zero]);(try simp only [List.setIfInBounds_toArray]);(try simp only [List.set_cons_succ]);(try simp only [List.set_cons_zero])
    refine WL.take (i:=7) (v:=?_) rfl (by kernel_rfl) (by decide) (by decide +kernel) (by decide +kernel) (fun _ _ _ h => h) rfl ?_ hS5 ?_
    rotate_left
    ·(intro w' hSw;(try dsimp only at hSw);go_simp;(try with_reducible rfl))
    simp only [Act.put];(try simp only [List.getElem_toArray]);(try simp only [List.getElem_cons_succ]);(try simp only [List.getElem_cons_zero]);(try simp only [List.setIfInBounds_toArray]);(try simp only [List.set_cons_succ]);(try simp only [List.set_cons_zero])
    refine WL.take (i:=8) (v:=?_) rfl (by kernel_rfl) (by decide) (by decide +kernel) (by decide +kernel) (fun _ _ _ h => h) rfl ?_ hS5 ?_
    rotate_left
    ·(intro w' hSw;(try dsimp only at hSw);go_simp;(try with_reducible rfl))
    simp only [Act.put];(try simp only [List.getElem_toArray]);(try simp only [List.getElem_cons_succ]);(try simp only [List.getElem_cons_zero]);(try simp only [List.setIfInBounds_toArray]);(try simp only [List.set_cons_succ]);(try simp only [List.set_cons_zero])
    refine WL.one (i:=10) rfl (by decide) (by decide +kernel) ?_
    refine wpList_store_list rfl 97 _ _ rfl wo.heap.size 0 ct rfl rfl 34 HCL.out hth.out h34 HCO.out ?_
    obtain ⟨p,hp⟩:∃ p,p = wo.heap.size:=⟨_,rfl⟩
    have HP:=World.rangeAt_setCells_same w4 wo.heap.size 0 ct (by rw [HCL.out];exact hth.out)
    have HB5:=Lib.hid (below_setCells wo.heap.size (Nat.le_refl _) ct 0 _ hb4'.out)
    have HR5:Hid (IdRow (w4.setCells wo.heap.size 0 ct) (.slice ao2 ((cmG (getS l) y).getD cmt0).pars.length lcap) ((cmG (getS l) y).getD cmt0).pars):=Lib.hid (HROW.out.grown (grownBy_setCells w4 wo.heap.size 0 ct) (.inr fun g hg e => by
     have h1:=HFRS.out g hg
     have h2:=Option.some.inj e
     simp at h1;omega))
    generalize w4.setCells wo.heap.size 0 ct = W5 at HP HB5 HR5
    rw [← hp] at HP ⊢
    clear hp hth hth3 hb3 hb4' HROW HFRS hS4 hS5
   all_goals
    have hSF:=HSX.out _ HB5.out
    refine ⟨hSF,?_⟩
    refine WL.last (n:=11) rfl rfl (by decide +kernel) (by decide +kernel) ?_
    have c32:W5.cell? ⟨p,32,none⟩ = some (.slice ao2 ((cmG (getS l) y).getD cmt0).pars.length lcap):=by have:=HP 32 _ HC32.out;rwa [Nat.zero_add] at this
    have hrx5:=HRXX.out _ HB5.out
    have HF5:=Lib.hid hSF.2.2
    have hbw:Below W.heap.size W W5:=HB.out.trans (HB5.out.mono HB.out.size)
    have HBW5:=Lib.hid (HBW.out.trans (hbw.mono HBW.out.size))
    have HBX5:=Lib.hid hbw
    have hxin:=rin_any _ _ x W5 HR5.out (by
     cases e:cmG (getS l) y with
     | none => intro z hz;cases hz
     | some c => exact (HTL.out c y e).2) HX.out
    rw [HIX.out] at hxin
    have HXIN:=Lib.hid hxin
    have HT5:=Lib.hid (HTY.out)
    have hlt5:=hSF.1
    have HPA:=Lib.hid (par_getD (cmG (getS l)) y)
    clear hSF hS0 HP HR5 hbw hxin hlt5 HSX
    generalize ((cmG (getS l) y).getD cmt0).pars = ps at c32 HXIN HPA
    go_wp2_with (refine wpList_load_mid rfl 24 _ rfl (w.heap.size + 1) 0 rfl ux _ hrx5 Tryz.underlying24 rfl h32x ?_)
    refine HXIN.out.mono ?_
    rintro e w6 ⟨rfl,hb6⟩
    have hbo6:=HB5.out.trans (hb6.mono HB5.out.size)
    have HB6:=Lib.hid hbo6
    have f6:=rangeAt_below HF5.out hb6 (by have:=HB5.out.size;have:=HB.out.size;omega)
    have HT6:=Lib.hid (HT5.out w6 hbo6)
    clear hb6 hbo6 HXIN hrx5 c32 HT5 HF5
    cases hpc:ps.contains x with
    | false =>
     have HNX:Hid (x ∈ par (cmG (getS l)) L[k] → L[k] ∈ T):=Lib.hid (fun h => by
      rw [HYK.out,← HPA.out] at h
      rw [List.contains_eq_mem,decide_eq_false_iff_not] at hpc
      exact absurd h hpc)
     clear hpc HPA
     go_wp2
     go_roundw
     case rel => exact ⟨k + 1,by omega,by go_num,HRT.out.next hlt HNX.out,HB.out.trans (HB6.out.mono HB.out.size)⟩
     case measure => simp [intOf];omega
    | true =>
     have HPX:Hid (x ∈ par (cmG (getS l)) L[k]):=Lib.hid (by
      rw [HYK.out,← HPA.out]
      rw [List.contains_eq_mem,decide_eq_true_iff] at hpc
      exact hpc)
     clear hpc HPA
     go_wp2_with (first
      | (refine wpList_load_mid_g rfl 24 _ rfl b (off + k * 32) rfl uy _ f6 Tryz.underlying24 rfl h32y ?_)
      | (refine wpList_load_mid rfl 24 _ rfl b (off + k * 32) rfl uy _ f6 Tryz.underlying24 rfl h32y ?_))
     refine HT6.out.mono ?_
     rintro e w7 ⟨rfl,hb7⟩
     have HB7:=Lib.hid (HB6.out.trans (hb7.mono HB6.out.size))
     clear hb7 f6
     cases htc:T.contains y with
     | true =>
      have HNX:Hid (x ∈ par (cmG (getS l)) L[k] → L[k] ∈ T):=Lib.hid (fun _ => by
       rw [HYK.out]
       rw [List.contains_eq_mem,decide_eq_true_iff] at htc
       exact htc)
      clear htc
      go_wp2
      go_roundw
      case rel => exact ⟨k + 1,by omega,by go_num,HRT.out.next hlt HNX.out,HB.out.trans (HB7.out.mono HB.out.size)⟩
      case measure => simp [intOf];omega
     | false =>
      have HEND:Hid (readyB (cmG (getS l)) L T x = false):=Lib.hid (ready_stop hlt HPX.out (by
       rw [HYK.out]
       rw [List.contains_eq_mem,decide_eq_false_iff_not] at htc
       exact htc))
      clear htc
      go_wp2
      go_ret
      exact ⟨by rw [HEND.out];rfl,HBW.out.trans ((HB.out.trans (HB7.out.mono HB.out.size)).mono HBW.out.size)⟩
  ·have d1:decide ((k:Int) < L.length) = false:=decide_eq_false (by omega)
   have HRE:Hid (readyB (cmG (getS l)) L T x = !T.contains x):=Lib.hid (ready_end HRT.out (by omega))
   have hti:=HT1.out wo HB.out x HX.out
   rw [HIX.out] at hti
   have HTI:=Lib.hid hti
   clear hti
   go_wp2_with (refine wpList_load_mid rfl 24 _ rfl (w.heap.size + 1) 0 rfl ux _ HRXO.out Tryz.underlying24 rfl h32x ?_)
   refine HTI.out.mono ?_
   rintro e w6 ⟨rfl,hb6⟩
   have HB6:=Lib.hid (HB.out.trans (hb6.mono HB.out.size))
   clear hb6
   go_wp2
   go_ret
   exact ⟨by rw [HRE.out,List.contains_eq_mem];rfl,HBW.out.trans (HB6.out.mono HBW.out.size)⟩
end Go.Proofs.YtbmiiiccnoiffaaGreatDoor
namespace Go.Proofs.YtbmiiiccnoiffaaGreatDoor
open Go.RowKit
variable {cm:Idl → Option Cmt}
theorem logN_len_le (L:List Idl) (n:Nat):(logN cm L n).length ≤ L.length:=nodup_sub_len _ L (logN_telling L n).nodup (logN_telling L n).sub
def DlAns (cm:Idl → Option Cmt) (L:List Idl) (w:World) (e:Ending) (w':World):Prop:=∃ v,e = .returned v ∧ OwnQ w' w.heap.size 32 v (logOf cm L).length (idsF (logOf cm L)) ∧ Below w.heap.size w w'
def DlSt (cm:Idl → Option Cmt) (L:List Idl) (W:World) (o i:Value) (wr:World):Prop :=
 ∃ n,i = .int .i64 ((n:Nat):Int) ∧ n ≤ L.length ∧ OwnQ wr W.heap.size 32 o (logN cm L n).length (idsF (logN cm L n)) ∧ Below W.heap.size W wr
set_option maxRecDepth 100000 in
set_option maxHeartbeats 4000000 in
theorem rlogd_any (vl vi:Value) (l:List Ob) (U:List Idl) (hU:CmOk (cmG (getS l)) U) (v1:Value) (L:List Idl) (w:World) (hs:SrcRow w (.agg #[vl,vi]) l) (h1:IdRow w v1 L) (hL:∀ y ∈ L,y.length = 32) (hlen:L.length ≤ 1000) :
  Calls Tryz.prog 25 #[.agg #[vl,vi],v1] w (DlAns (cmG (getS l)) L w):=by
 obtain ⟨zi,i0,hi,hz0,hz1,hz2,hzi,hzil⟩:=id_zero
 have HZI:=Lib.hid hzil
 obtain ⟨W,hW⟩:∃ W,w.alloc (.cells #[vl,vi] 30) = W:=⟨_,rfl⟩
 have hbW:Below w.heap.size w W:=by rw [← hW];exact (Below.refl _ _).alloc (Nat.le_refl _) _
 have hA:=Arr.ofList w [vl,vi] 30
 have c0:W.cell? ⟨w.heap.size,0,none⟩ = some vl:=by rw [← hW];exact hA.cell 0 (by simp)
 have c1:W.cell? ⟨w.heap.size,1,none⟩ = some vi:=by rw [← hW];exact hA.cell 1 (by simp)
 have hsW:W.heap.size = w.heap.size + 1:=by rw [← hW];simp
 obtain ⟨ao,cap,rfl,hmax,hcells⟩:=h1.open
 unfold maxLen at hmax
 have HRD:=Lib.hid (fun W' (h:Below W.heap.size W W') (o:Value) (T:List Idl) (ho:IdRow W' o T) (hT:∀ y ∈ T,y.length = 32) (x:Idl) (hx:x.length = 32) => rready_any vl vi l U hU (.slice ao L.length cap) o L T x W' ((hs.below hbW).below h) ((h1.below hbW).below h) ho hL hT hx)
 have HV:Hid (L ≠ [] → ∃ b off,ao = some ⟨b,off,none⟩ ∧ b < W.heap.size ∧ ∀ k (hk:k < L.length),W.rangeAt b (off + k * 32) (idC L[k])):=Lib.hid (fun hne => by
  obtain ⟨b,off,e,hb,hc⟩:=hcells hne
  exact ⟨b,off,e,Nat.lt_of_lt_of_le hb hbW.size,fun k hk => rangeAt_below (hc k hk) hbW hb⟩)
 have HBW:=Lib.hid hbW
 have HC01:=Lib.hid (And.intro c0 c1)
 have HSW:=Lib.hid hsW
 have HW:=Lib.hid hW
 have HL:=Lib.hid hL
 clear hs hU hbW hsW hW hA c0 c1 h1 hL hcells hzil
 generalize hcm:cmG (getS l) = cm at HRD
 clear hcm
 have HT32:Hid (∀ n,∀ y ∈ logN cm L n,y.length = 32):=Lib.hid (fun n y hy => HL.out y ((logN_telling L n).sub y hy))
 have HTL:Hid (∀ n,(logN cm L n).length ≤ 1000):=Lib.hid (fun n => Nat.le_trans (logN_len_le L n) hlen)
 go_enter Tryz.func25,Tryz.ntmps25
 go_wp2
 rw [HW.out]
 go_loopw [5,6] (fun o i wr => DlSt cm L W o i wr) (fun _ i _ => (L.length - intOf i).toNat)
 case atStart => exact ⟨0,rfl,by omega,ownQ_nil _ _ _,Below.refl _ _⟩
 case round =>
  obtain ⟨wo,rfl⟩:∃ wo:World,wo = wr:=⟨_,rfl⟩
  obtain ⟨n,rfl,hn,ho,hb⟩:=hrel
  have HO:=Lib.hid ho
  have HB:=Lib.hid hb
  clear ho hb
  by_cases hlt:n < L.length
  ·have d1:decide ((n:Int) < L.length) = true:=decide_eq_true (by omega)
   go_wp2
   go_loopw [5,7] (fun o i wr => ∃ k:Nat,o = u5 ∧ k ≤ L.length ∧ i = .int .i64 k ∧ (∀ j (h:j < L.length),j < k → readyB cm L (logN cm L n) L[j] = false) ∧ Below wo.heap.size wo wr) (fun _ i _ => (L.length - intOf i).toNat)
   case atStart => exact ⟨0,rfl,by omega,rfl,(fun j _ hj => absurd hj (by omega)),Below.refl _ _⟩
   case round =>
    obtain ⟨wi,rfl⟩:∃ wi:World,wi = wr:=⟨_,rfl⟩
    obtain ⟨k,rfl,hk,rfl,hno,hbi⟩:=hrel
    have HNO:=Lib.hid hno
    have hbw:Below W.heap.size W wi:=HB.out.trans (hbi.mono HB.out.size)
    have HBI:=Lib.hid hbw
    have HOI:=Lib.hid (HO.out.below hbi)
    have HBO:=Lib.hid hbi
    have hsz:W.heap.size ≤ wi.heap.size:=hbw.size
    clear hno hbi
    by_cases hkl:k < L.length
    ·obtain ⟨b,off,rfl,hbl,hcell⟩:=HV.out (by intro e;rw [e] at hkl;simp at hkl)
     have f1:=rangeAt_below (hcell k hkl) hbw hbl
     obtain ⟨y,hy⟩:∃ y,L[k] = y:=⟨_,rfl⟩
     have HYK:=Lib.hid hy
     rw [hy] at f1
     have hyl:y.length = 32:=by rw [← hy];exact HL.out _ (List.getElem_mem hkl)
     have hyc:(idC y).length = 32:=by rw [idC_len,hyl]
     have h32y:=h32_of hyc
     have HSX:=Lib.hid (fun X (hX:Below wi.heap.size wi X) => (⟨below_load HC01.out.1 (hbw.trans (hX.mono hsz)) (by have:=HSW.out;omega),below_load HC01.out.2 (hbw.trans (hX.mono hsz)) (by have:=HSW.out;omega),rangeAt_below f1 hX (by omega)⟩:X.cell? ⟨w.heap.size,0,none⟩ = some vl ∧ X.cell? ⟨w.heap.size,1,none⟩ = some vi ∧ X.rangeAt b (off + k * 32) (idC y)))
     have hS0:=HSX.out wi.drew (Below.refl _ _).drew
     have HRDY:=Lib.hid (HRD.out wi.drew hbw.drew _ (logN cm L n) ((HOI.out.row (HT32.out n)).below (Below.refl _ _).drew) (HT32.out n) y hyl)
     have HTLN:=HTL.out n
     have HYC:=Lib.hid hyc
     have HYO:=Lib.hid (idC_one y)
     have HSZ:Hid (∀ w,(sizeOf 24).run Tryz.prog w = .ok (idC y).length w):=Lib.hid (fun w => by rw [hyc];kernel_rfl)
     have HTS:Hid (idsF (logN cm L n ++ [y]) = idsF (logN cm L n) ++ idC y):=Lib.hid (idsF_snoc _ _)
     have k0:(0:Int) ≤ k:=by omega
     have k1:(k:Int) < L.length:=by omega
     have d2:decide ((k:Int) < L.length) = true:=decide_eq_true k1
     clear hcell hy f1 hyl hbw hyc
     generalize hiy:idC y = uy at h32y HSX HRDY hS0 HYC HYO HSZ HTS
     clear hiy
     go_wp2
     refine wp_region_L 7 (fun w' => w'.cell? ⟨w.heap.size,0,none⟩ = some vl ∧ w'.cell? ⟨w.heap.size,1,none⟩ = some vi ∧ w'.rangeAt b (off + k * 32) uy) (by kernel_rfl) (by kernel_rfl) ?_
     refine WL.take (i:=0) (v:=?_) rfl (by kernel_rfl) (by decide) (by decide +kernel) (by decide +kernel) (fun _ _ _ h => h) rfl ?_ hS0 ?_
     rotate_left
     ·(intro w' hSw;(try dsimp only at hSw);go_simp;(try with_reducible rfl))
     simp only [Act.put];(try simp only [List.getElem_toArray]);(try simp only [List.getElem_cons_succ]);(try simp only [List.getElem_cons_zero]);(try simp only [List.setIfInBounds_toArray]);(try simp only [List.set_cons_succ]);(try simp only [List.set_cons_zero])
     refine WL.take (i:=1) (v:=?_) rfl (by kernel_rfl) (by decide) (by decide +kernel) (by decide +kernel) (fun _ _ _ h => h) rfl ?_ hS0 ?_
     rotate_left
     ·(intro w' hSw;(try dsimp only at hSw);go_simp;(try with_reducible rfl))
     simp only [Act.put];(try simp only [List.getElem_toArray]);(try simp only [List.getElem_cons_succ]);(try simp only [List.getElem_cons_zero]);(try simp only [List.setIfInBounds_toArray]);(try simp only [List.set_cons_succ]);(try simp only [List.set_cons_zero])
     refine WL.take (i:=2) (v:=?_) rfl (by kernel_rfl) (by decide) (by decide +kernel) (by decide +kernel) (fun _ _ _ h => h) rfl ?_ hS0 ?_
     rotate_left
     ·(intro w' hSw;(try dsimp only at hSw);go_simp;(try with_reducible rfl))
     simp only [Act.put];(try simp only [List.getElem_toArray]);(try simp only [List.getElem_cons_succ]);(try simp only [List.getElem_cons_zero]);(try simp only [List.setIfInBounds_toArray]);(try simp only [List.set_cons_succ]);(try simp only [List.set_cons_zero])
     refine WL.take (i:=3) (v:=?_) rfl (by kernel_rfl) (by decide) (by decide +kernel) (by decide +kernel) (fun _ _ _ h => h) rfl ?_ hS0 ?_
     rotate_left
     ·(intro w' hSw;(try dsimp only at hSw);go_simp;(try with_reducible rfl))
     simp only [Act.put];(try simp only [List.getElem_toArray]);(try simp only [List.getElem_cons_succ]);(try simp only [List.getElem_cons_zero]);(try simp only [List.setIfInBounds_toArray]);(try simp only [List.set_cons_succ]);(try simp only [List.set_cons_zero])
     refine WL.take (i:=4) (v:=?_) rfl (by kernel_rfl) (by decide) (by decide +kernel) (by decide +kernel) (fun _ _ _ h => h) rfl ?_ hS0 ?_
     rotate_left
     ·(intro w' hSw;(try dsimp only at hSw);go_simp;(try with_reducible rfl))
     simp only [Act.put];(try simp only [List.getElem_toArray]);(try simp only [List.getElem_cons_succ]);(try simp only [List.getElem_cons_zero]);(try simp only [List.setIfInBounds_toArray]);(try simp only [List.set_cons_succ]);(try simp only [List.set_cons_zero])
     refine WL.take (i:=5) (v:=?_) rfl (by kernel_rfl) (by decide) (by decide +kernel) (by decide +kernel) (fun _ _ _ h => h) rfl ?_ hS0 ?_
     rotate_left
     ·(intro w' hSw;(try dsimp only at hSw);go_simp;(try with_reducible rfl))
     simp only [Act.put];(try simp only [List.getElem_toArray]);(try simp only [List.getElem_cons_succ]);(try simp only [List.getElem_cons_zero]);(try simp only [List.setIfInBounds_toArray]);(try simp only [List.set_cons_succ]);(try simp only [List.set_cons_zero])
     refine WL.take (i:=6) (v:=_) rfl (by kernel_rfl) (by decide) (by decide +kernel) (by decide +kernel) (fun _ _ _ h => h) rfl (fun w' hSw => exec_row 24 _ (hSw.2.2) Tryz.underlying24 rfl h32y _ rfl rfl) hS0 ?_
     simp only [Act.put];(try simp only [List.getElem_toArray]);(try simp only [List.getElem_cons_succ]);(try simp only [List.getElem_cons_zero]);(try simp only [List.setIfInBounds_toArray]);(try simp only [List.set_cons_succ]);(try simp only [List.set_cons_zero])
     refine WL.last (n:=7) rfl rfl (by decide +kernel) (by decide +kernel) ?_
     go_wp2_with fail
     refine HRDY.out.mono ?_
     rintro e w2 ⟨rfl,hb2⟩
     have hb2:=drew_below hb2
     have HB2:=Lib.hid hb2
     have HF2:=Lib.hid (HSX.out w2 hb2).2.2
     have HO2:=Lib.hid (HOI.out.below hb2)
     have hs2:W.heap.size ≤ w2.heap.size:=by have:=hb2.size;omega
     clear hb2 hS0 HSX HRDY
     cases hrb:readyB cm L (logN cm L n) y with
     | true =>
      have HST:Hid (logN cm L (n + 1) = logN cm L n ++ [y]):=Lib.hid (by
       have:=logStep_at hkl (fun j hj => HNO.out j (by omega) hj) (by rw [HYK.out];exact hrb)
       rw [HYK.out] at this
       exact this)
      clear hrb
      have f2:=HF2.out
      have hb3:Below w2.heap.size w2 (w2.alloc (.cells uy.toArray 24)):=(Below.refl _ _).alloc (Nat.le_refl _) _
      have HO3:=Lib.hid (HO2.out.below hb3)
      have HNEW:Hid (∀ j u,uy[j]? = some u → (w2.alloc (.cells uy.toArray 24)).cell? ((⟨w2.heap.size,0,none⟩:Addr).add j) = some u):=Lib.hid (fun j u hj => cells_newL _ uy _ j u hj)
      have HB3:=Lib.hid (HBI.out.trans ((HB2.out.trans (hb3.mono HB2.out.size)).mono hsz))
      have hs3:W.heap.size ≤ (w2.alloc (.cells uy.toArray 24)).heap.size:=by rw [World.size_alloc];omega
      clear hb3
      go_wp2_with (first
       | (refine wpList_load_mid rfl 24 _ rfl b (off + k * 32) rfl uy _ f2 Tryz.underlying24 rfl h32y ?_)
       | (refine wpList_buildSlice_one rfl (.tmp 32) 28 24 rfl uy zi rfl Tryz.underlying28 HSZ.out hzi (by rw [HYC.out];omega) (by rw [HYC.out];omega) ?_)
       | (refine wpList_append_q rfl (.tmp 28) (.tmp 33) 28 rfl W.heap.size 24 i0 (.agg zi) 32 32 Tryz.underlying28 hi hz0 hz1 hz2 HZI.out (by decide) _ (logN cm L n).length (idsF (logN cm L n)) rfl HO3.out (some ⟨w2.heap.size,0,none⟩) 1 1 uy rfl (by rw [HYC.out]) (fun _ => ⟨_,rfl,HNEW.out⟩) HYO.out (by unfold maxLen;omega) (by omega) hs3 ?_))
      intro o9 w9 hq9 hg9 _
      have HEND:Hid (DlSt cm L W o9 (.int .i64 ((n:Int) + 1)) w9):=Lib.hid ⟨n + 1,by rw [Int.natCast_add];rfl,by omega,by rw [HST.out,HTS.out,List.length_append,List.length_singleton];exact hq9,HB3.out.grown hg9 HB3.out.size (fun j hj => (HO3.out.lt j hj).1)⟩
      clear hq9 hg9
      go_wp2
      go_roundw
      case rel => exact HEND.out
      case measure => simp [intOf];omega
     | false =>
      have HNX:Hid (∀ j (h:j < L.length),j < k + 1 → readyB cm L (logN cm L n) L[j] = false):=Lib.hid (fun j h hj => by
       by_cases e:j = k
       ·subst e;rw [HYK.out];exact hrb
       ·exact HNO.out j h (by omega))
      clear hrb
      go_wp2
      go_roundw
      case rel => exact ⟨k + 1,rfl,by omega,by go_num,HNX.out,HBO.out.trans (HB2.out.mono HBO.out.size)⟩
      case measure => simp [intOf];omega
    ·have d2:decide ((k:Int) < L.length) = false:=decide_eq_false (by omega)
     have HEND:Hid (DlSt cm L W u5 (.int .i64 ((n:Int) + 1)) wi):=Lib.hid ⟨n + 1,by rw [Int.natCast_add];rfl,by omega,by
      show OwnQ wi W.heap.size 32 u5 (logStep cm L (logN cm L n)).length (idsF (logStep cm L (logN cm L n)))
      rw [logStep_not (fun j hj => HNO.out j hj (by omega))]
      exact HOI.out,HBI.out⟩
     go_wp2
     go_roundw
     case rel => exact HEND.out
     case measure => simp [intOf];omega
  ·have hne:n = L.length:=by omega
   have d1:decide ((n:Int) < L.length) = false:=decide_eq_false (by omega)
   have HEND:Hid (∃ v,v = u5 ∧ OwnQ wo W.heap.size 32 v (logOf cm L).length (idsF (logOf cm L))):=Lib.hid ⟨_,rfl,by unfold logOf;rw [← hne];exact HO.out⟩
   go_wp2
   go_ret
   obtain ⟨v,rfl,hq⟩:=HEND.out
   exact ⟨_,rfl,hq.mono (by have:=HSW.out;omega),HBW.out.trans (HB.out.mono (by have:=HSW.out;omega))⟩
end Go.Proofs.YtbmiiiccnoiffaaGreatDoor
