/- YtbmiiiccnoiffaaGreatDoorC15: texts H2, CW28 of this claim, in one. -/
import Derived.Test.YtbmiiiccnoiffaaGreatDoorC14
namespace Go.Proofs.YtbmiiiccnoiffaaGreatDoor
variable {cm:Idl → Option Cmt}
theorem find_here {p:Idl → Bool}:∀ {L:List Idl} {i:Nat} (hi:i < L.length),(∀ j (h:j < i),p (L[j]'(by omega)) = false) → p L[i] = true → L.find? p = some L[i]
 | [],i,hi,_,_ => by simp at hi
 | a :: L,0,_,_,hp => by rw [List.find?_cons_of_pos (by simpa using hp)];rfl
 | a :: L,i + 1,hi,hl,hp => by
  have h0:p a = false:=hl 0 (by omega)
  rw [List.find?_cons_of_neg (by rw [h0];decide)]
  have:=find_here (p:=p) (L:=L) (i:=i) (by simpa using hi) (fun j hj => by simpa using hl (j + 1) (by omega)) (by simpa using hp)
  simpa using this
theorem find_none_here {p:Idl → Bool} {L:List Idl} (h:∀ j (hj:j < L.length),p L[j] = false):L.find? p = none:=by
 rw [List.find?_eq_none]
 intro x hx
 obtain ⟨j,hj,rfl⟩:=List.getElem_of_mem hx
 rw [h j hj];decide
theorem logStep_at {L T:List Idl} {i:Nat} (hi:i < L.length) (hlow:∀ j (h:j < i),readyB cm L T (L[j]'(by omega)) = false) (hp:readyB cm L T L[i] = true):logStep cm L T = T ++ [L[i]]:=by
 unfold logStep;rw [find_here hi hlow hp]
theorem logStep_not {L T:List Idl} (h:∀ j (hj:j < L.length),readyB cm L T L[j] = false):logStep cm L T = T:=by
 unfold logStep;rw [find_none_here h]
def ReadyTo (cm:Idl → Option Cmt) (L T:List Idl) (x:Idl) (k:Nat):Prop:=∀ j (h:j < L.length),j < k → x ∈ par cm L[j] → L[j] ∈ T
theorem ready_end {L T:List Idl} {x:Idl} {k:Nat} (h:ReadyTo cm L T x k) (hk:L.length ≤ k):readyB cm L T x = !T.contains x:=by
 have h1:L.all (fun y => !(par cm y).contains x || T.contains y) = true:=by
  rw [List.all_eq_true]
  intro y hy
  obtain ⟨j,hj,rfl⟩:=List.getElem_of_mem hy
  by_cases hx:x ∈ par cm L[j]
  ·have:=h j hj (by omega) hx
   simp [this]
  ·simp [hx]
 unfold readyB
 rw [h1];rfl
theorem ready_stop {L T:List Idl} {x:Idl} {j:Nat} (hj:j < L.length) (hx:x ∈ par cm L[j]) (hT:L[j] ∉ T):readyB cm L T x = false:=by
 cases e:readyB cm L T x with
 | false => rfl
 | true => exact absurd ((readyB_iff.1 e).1 _ (List.getElem_mem hj) hx) hT
theorem ReadyTo.next {L T:List Idl} {x:Idl} {k:Nat} (h:ReadyTo cm L T x k) (hk:k < L.length) (hx:x ∈ par cm L[k] → L[k] ∈ T):ReadyTo cm L T x (k + 1):=fun j hj hjk hp => by
 by_cases e:j = k
 ·subst e;exact hx hp
 ·exact h j hj (by omega) hp
structure Rnd (cm:Idl → Option Cmt) (x0:Idl) (P V Q:List Idl):Prop where
 start:∀ p ∈ P,p ∈ V ∨ p ∈ Q
 shut:∀ v ∈ V,∀ p ∈ par cm v,p ∈ V ∨ p ∈ Q
 off:x0 ∉ V
theorem Rnd.init (x0:Idl) (P:List Idl):Rnd cm x0 P [] P:=⟨fun _ h => .inr h,fun _ h => (List.not_mem_nil h).elim,List.not_mem_nil⟩
theorem Rnd.skip {x0 x:Idl} {P V Q:List Idl} (h:Rnd cm x0 P V (x :: Q)) (hx:x ∈ V):Rnd cm x0 P V Q:=by
 have key:∀ p,p ∈ V ∨ p ∈ x :: Q → p ∈ V ∨ p ∈ Q:=fun p hp => by
  rcases hp with h1 | h1
  ·exact .inl h1
  ·rcases List.mem_cons.1 h1 with rfl | h2
   ·exact .inl hx
   ·exact .inr h2
 exact ⟨fun p hp => key p (h.start p hp),fun v hv p hp => key p (h.shut v hv p hp),h.off⟩
theorem Rnd.take {x0 x:Idl} {P V Q:List Idl} (h:Rnd cm x0 P V (x :: Q)) (hx:x ≠ x0):Rnd cm x0 P (V ++ [x]) (Q ++ par cm x):=by
 have key:∀ p,p ∈ V ∨ p ∈ x :: Q → p ∈ V ++ [x] ∨ p ∈ Q ++ par cm x:=fun p hp => by
  rcases hp with h1 | h1
  ·exact .inl (List.mem_append_left _ h1)
  ·rcases List.mem_cons.1 h1 with rfl | h2
   ·exact .inl (List.mem_append_right _ (by simp))
   ·exact .inr (List.mem_append_left _ h2)
 refine ⟨fun p hp => key p (h.start p hp),fun v hv p hp => ?_,fun hm => ?_⟩
 ·rcases List.mem_append.1 hv with h1 | h1
  ·exact key p (h.shut v h1 p hp)
  ·rw [List.mem_singleton.1 h1] at hp
   exact .inr (List.mem_append_right _ hp)
 ·rcases List.mem_append.1 hm with h1 | h1
  ·exact h.off h1
  ·exact hx (List.mem_singleton.1 h1).symm
theorem Rnd.done {x0:Idl} {P V:List Idl} (h:Rnd cm x0 P V []) {p z:Idl} (hp:p ∈ P) (hr:Reach cm p z):z ≠ x0:=by
 have:z ∈ V:=by
  induction hr with
  | refl => exact (h.start _ hp).resolve_right (by simp)
  | tail _ hz ih => exact (h.shut _ ih _ hz).resolve_right (by simp)
 exact fun e => h.off (e ▸ this)
def parsO (o:Ob):List Idl:=match commitOf o.body with
 | some c => c.2.1
 | none => []
def allP (l:List Ob):List Idl:=(rights l).flatMap parsO
theorem parsO_len (o:Ob):(parsO o).length ≤ 4 ∧ ∀ p ∈ parsO o,p.length = 32:=by
 unfold parsO
 cases e:commitOf o.body with
 | none => exact ⟨by simp,fun p hp => by cases hp⟩
 | some c =>
  obtain ⟨t,p,s⟩:=c
  have:=commitOf_len e
  exact ⟨this.2.2.1,this.2.1⟩
theorem flatMap_len (l:List Ob):(l.flatMap parsO).length ≤ 4 * l.length:=by
 induction l with
 | nil => exact Nat.le_refl _
 | cons a l ih =>
  rw [List.flatMap_cons,List.length_append,List.length_cons]
  have:=(parsO_len a).1
  omega
theorem allP_len (l:List Ob):(allP l).length ≤ 4 * l.length:=by
 have h1:=flatMap_len (rights l)
 have h2:(rights l).length ≤ l.length:=List.length_filter_le _ _
 unfold allP
 omega
theorem allP_of {l:List Ob} {o:Ob} (h:o ∈ rights l):∀ p ∈ parsO o,p ∈ allP l:=fun _ hp => List.mem_flatMap.2 ⟨o,h,hp⟩
theorem allP_par (l:List Ob) (x:Idl):∀ p ∈ par (cmG (getS l)) x,p ∈ allP l:=fun p hp => by
 cases e:cmG (getS l) x with
 | none => unfold par at hp;rw [e] at hp;cases hp
 | some c =>
  rw [par_of e] at hp
  obtain ⟨o,h1,_,h3⟩:=cmG_some e
  obtain ⟨g1,g2,_⟩:=getS_some h1
  exact allP_of (List.mem_filter.2 ⟨g1,g2⟩) p (by unfold parsO;rw [h3];exact hp)
theorem allP_32 (l:List Ob):∀ p ∈ allP l,p.length = 32:=fun p hp => by
 obtain ⟨o,_,h⟩:=List.mem_flatMap.1 hp
 exact (parsO_len o).2 p h
def NoRnd (l:List Ob) (o:Ob):Prop:=o.kind = 3 → ∀ p ∈ parsO o,∀ z,Reach (cmG (getS l)) p z → z ≠ idO o
theorem acyc_of {l:List Ob} (h:∀ o ∈ rights l,NoRnd l o):Acyc (cmG (getS l)):=fun x y hy hr => by
 cases e:cmG (getS l) x with
 | none => unfold par at hy;rw [e] at hy;cases hy
 | some c =>
  rw [par_of e] at hy
  obtain ⟨o,h1,h2,h3⟩:=cmG_some e
  obtain ⟨g1,g2,g3⟩:=getS_some h1
  exact h o (List.mem_filter.2 ⟨g1,g2⟩) h2 y (by unfold parsO;rw [h3];exact hy) x hr g3.symm
theorem log_head (ha:Acyc cm) {id:Idl} {S:List Idl} (h:IsLine cm id S):∃ T,logOf cm S = id :: T:=by
 have hid:id ∈ S:=(h.mem id).2 (.refl _)
 have hpos:0 < S.length:=List.length_pos_of_mem hid
 have hlen:=logOf_len ha h.nodup
 have hT:=logOf_telling (cm:=cm) S
 cases e:logOf cm S with
 | nil => rw [e] at hlen;simp at hlen;omega
 | cons x T =>
  rw [e] at hT
  have hx:x ∈ S:=hT.sub x (by simp)
  have hr:=(h.mem x).1 hx
  have:x = id:=by
   cases hr with
   | refl => rfl
   | tail h1 hz =>
    rename_i y
    have hy:y ∈ S:=(h.mem y).2 h1
    have:=hT.ahead 0 (by simp) y hy (by simpa using hz)
    simp at this
  exact ⟨T,by rw [this]⟩
end Go.Proofs.YtbmiiiccnoiffaaGreatDoor
namespace Go.Proofs.YtbmiiiccnoiffaaGreatDoor
open Go.RowKit
set_option maxRecDepth 100000 in
set_option maxHeartbeats 4000000 in
theorem clash28_any (v:Value) (l:List Ob) (w:World) (hv:ObRow w v l) :
  Calls Tryz.prog 17 #[v] w fun e w' => e = .returned (.bool (clashB l)) ∧ Below w.heap.size w w':=by
 obtain ⟨ao,cap,rfl,hmax,hv⟩:=hv.open
 unfold maxLen at hmax
 have HV:=Lib.hid hv
 have h2:∀ (a:Int) (s:ByteArray),(Tryz.prog.info? 93).map (·.size) = some [Value.int .i64 a,Value.string s].length:=fun a s => by kernel_rfl
 have H2:=Lib.hid h2
 clear hv h2
 go_enter Tryz.func17,Tryz.ntmps17
 go_wp2
 go_loopw [3,4] (fun i _ wr => ∃ k:Nat,k ≤ l.length ∧ i = .int .i64 k ∧ Hid (∀ i,i < k → ∀ j,j < i → clashAt l i j = false) ∧ Below w.heap.size w wr) (fun i _ _ => (l.length - intOf i).toNat)
 case atStart => exact ⟨0,by omega,rfl,(fun i hi => absurd hi (by omega)),Below.refl _ _⟩
 case round =>
  obtain ⟨wo,rfl⟩:∃ wo:World,wo = wr:=⟨_,rfl⟩
  obtain ⟨k,hk,rfl,hno,hb⟩:=hrel
  by_cases hlt:k < l.length
  ·have HNO:=Lib.hid hno.out
   have HBO:=Lib.hid hb
   obtain ⟨b,off,rfl,hbl,hcell⟩:=HV.out (by intro e;rw [e] at hlt;simp at hlt)
   have HC:=Lib.hid (fun j (hj:j < l.length) (w':World) (hb':Below w.heap.size w w') => rangeAt_below (hcell j hj) hb' hbl)
   clear hno hb hcell
   go_wp2
   go_loopw [4] (fun j wr => ∃ m:Nat,m ≤ k ∧ j = .int .i64 m ∧ Hid (∀ j,j < m → clashAt l k j = false) ∧ Below wo.heap.size wo wr) (fun j _ => (k - intOf j).toNat)
   case atStart => exact ⟨0,by omega,rfl,(fun j hj => absurd hj (by omega)),Below.refl _ _⟩
   case round =>
    obtain ⟨wi,rfl⟩:∃ wi:World,wi = wr:=⟨_,rfl⟩
    obtain ⟨m,hm,rfl,hnm,hbi⟩:=hrel
    by_cases hmk:m < k
    ·have hbw:Below w.heap.size w wi:=HBO.out.trans (hbi.mono HBO.out.size)
     have f1:wi.rangeAt b (off + k * 2) [.int .i64 l[k].kind,.string l[k].body]:=HC.out k hlt wi hbw
     have f2:wi.rangeAt b (off + m * 2) [.int .i64 l[m].kind,.string l[m].body]:=HC.out m (by omega) wi hbw
     have hbli:b < wi.heap.size:=by have:=hbw.size;omega
     have k0:(0:Int) ≤ k:=by omega
     have k1:(k:Int) < l.length:=by omega
     have m0:(0:Int) ≤ m:=by omega
     have m1:(m:Int) < l.length:=by omega
     have hma:m < l.length:=by omega
     have HA:=Lib.hid (clashAt_eq l hlt hma)
     have HF:=Lib.hid (clash_found (l:=l) hlt hmk)
     have HRA:=Lib.hid (fun w => rright_any l[k].kind l[k].body w)
     have HRB:=Lib.hid (fun w => rright_any l[m].kind l[m].body w)
     have HIA:=Lib.hid (fun w (h:rightOb ⟨l[k].kind,l[k].body⟩ = true) => rido_any l[k].kind l[k].body w (by have:=right_small h;omega))
     have HIB:=Lib.hid (fun w (h:rightOb ⟨l[m].kind,l[m].body⟩ = true) => rido_any l[m].kind l[m].body w (by have:=right_small h;omega))
     have HNM:=Lib.hid hnm.out
     have HNX:Hid (clashAt l k m = false → ∀ j,j < m + 1 → clashAt l k j = false):=Lib.hid (fun h j hj => by
      rcases Nat.lt_or_ge j m with h1 | h1
      ·exact hnm.out j h1
      ·obtain rfl:j = m:=by omega
       exact h)
     have s1:=H2.out l[k].kind l[k].body
     have s2:=H2.out l[m].kind l[m].body
     have HYES:=Lib.hid (fun hh w => ob_eq_yes (a:=l[k]'hlt) (b:=l[m]'hma) hh w)
     have HNOT:=Lib.hid (fun hh w => ob_eq_no (a:=l[k]'hlt) (b:=l[m]'hma) hh w)
     have HLA:=idO_len l[k]
     have HLB:=idO_len l[m]
     clear hnm hbw
     generalize l[k] = A at f1 HA HRA HIA s1 HYES HNOT HLA
     generalize l[m] = B at f2 HA HRB HIB s2 HYES HNOT HLB
     obtain ⟨ka,sa⟩:=A
     obtain ⟨kb,sb⟩:=B
     dsimp only at f1 f2 HRA HRB HIA HIB s1 s2 HYES HNOT
     cases hne:obNe ⟨ka,sa⟩ ⟨kb,sb⟩ with
     | false =>
      have heq:=HYES.out hne
      have HCA:Hid (clashAt l k m = false):=by unfold Hid;rw [HA.out,hne];rfl
      clear hne
      go_wp2
      refine wp_region_bq (by kernel_rfl) (by kernel_rfl) ?_
      repeat (go_big_quiet_step ((go_at_call 57;with_reducible exact calls_bw (HRA.out _))))
      refine bq_row 93 _ _ rfl rfl rfl f1 (by omega) Tryz.underlying93 rfl s1 ?_
      simp only [Act.put,List.setIfInBounds_toArray,List.set_cons_zero,List.set_cons_succ]
      repeat (go_big_quiet_step ((go_at_call 57;with_reducible exact calls_bw (HRA.out _))))
      refine bq_row 93 _ _ rfl rfl rfl f2 (by omega) Tryz.underlying93 rfl s2 ?_
      simp only [Act.put,List.setIfInBounds_toArray,List.set_cons_zero,List.set_cons_succ]
      repeat (go_big_quiet_step ((go_at_call 57;with_reducible exact calls_bw (HRA.out _))))
      refine wpQuiet_nil ?_
      intro wq hbq
      have HBI:=Lib.hid (hbi.trans (hbq.mono hbi.size))
      clear hbi hbq f1 f2
      go_wp2
      go_roundw
      case rel => exact ⟨m + 1,by omega,by go_num,HNX.out HCA.out,HBI.out⟩
      case measure => simp [intOf];omega
     | true =>
      have heq:=HNOT.out hne
      cases hra:rightOb ⟨ka,sa⟩ with
      | false =>
       have HCA:Hid (clashAt l k m = false):=by unfold Hid;rw [HA.out,hne,hra];rfl
       rw [hra] at HRA
       clear hne hra
       go_wp2
       refine wp_region_bq (by kernel_rfl) (by kernel_rfl) ?_
       repeat (go_big_quiet_step ((go_at_call 57;with_reducible exact calls_bw (HRA.out _))))
       refine bq_row 93 _ _ rfl rfl rfl f1 (by omega) Tryz.underlying93 rfl s1 ?_
       simp only [Act.put,List.setIfInBounds_toArray,List.set_cons_zero,List.set_cons_succ]
       repeat (go_big_quiet_step ((go_at_call 57;with_reducible exact calls_bw (HRA.out _))))
       refine bq_row 93 _ _ rfl rfl rfl f2 (by omega) Tryz.underlying93 rfl s2 ?_
       simp only [Act.put,List.setIfInBounds_toArray,List.set_cons_zero,List.set_cons_succ]
       repeat (go_big_quiet_step ((go_at_call 57;with_reducible exact calls_bw (HRA.out _))))
       refine bq_row 93 _ _ rfl rfl rfl f1 (by omega) Tryz.underlying93 rfl s1 ?_
       simp only [Act.put,List.setIfInBounds_toArray,List.set_cons_zero,List.set_cons_succ]
       repeat (go_big_quiet_step ((go_at_call 57;with_reducible exact calls_bw (HRA.out _))))
       refine wpQuiet_nil ?_
       intro wq hbq
       have HBI:=Lib.hid (hbi.trans (hbq.mono hbi.size))
       clear hbi hbq f1 f2
       go_wp2
       go_roundw
       case rel => exact ⟨m + 1,by omega,by go_num,HNX.out HCA.out,HBI.out⟩
       case measure => simp [intOf];omega
      | true =>
       cases hrb:rightOb ⟨kb,sb⟩ with
       | false =>
        have HCA:Hid (clashAt l k m = false):=by unfold Hid;rw [HA.out,hne,hra,hrb];rfl
        rw [hra] at HRA
        rw [hrb] at HRB
        clear hne hra hrb
        go_wp2
        refine wp_region_bq (by kernel_rfl) (by kernel_rfl) ?_
        repeat (go_big_quiet_step ((first | (go_at_call 57;with_reducible exact calls_bw (HRA.out _)) | (go_at_call 57;with_reducible exact calls_bw (HRB.out _)))))
        refine bq_row 93 _ _ rfl rfl rfl f1 (by omega) Tryz.underlying93 rfl s1 ?_
        simp only [Act.put,List.setIfInBounds_toArray,List.set_cons_zero,List.set_cons_succ]
        repeat (go_big_quiet_step ((first | (go_at_call 57;with_reducible exact calls_bw (HRA.out _)) | (go_at_call 57;with_reducible exact calls_bw (HRB.out _)))))
        refine bq_row 93 _ _ rfl rfl rfl f2 (by omega) Tryz.underlying93 rfl s2 ?_
        simp only [Act.put,List.setIfInBounds_toArray,List.set_cons_zero,List.set_cons_succ]
        repeat (go_big_quiet_step ((first | (go_at_call 57;with_reducible exact calls_bw (HRA.out _)) | (go_at_call 57;with_reducible exact calls_bw (HRB.out _)))))
        refine bq_row 93 _ _ rfl rfl rfl f1 (by omega) Tryz.underlying93 rfl s1 ?_
        simp only [Act.put,List.setIfInBounds_toArray,List.set_cons_zero,List.set_cons_succ]
        repeat (go_big_quiet_step ((first | (go_at_call 57;with_reducible exact calls_bw (HRA.out _)) | (go_at_call 57;with_reducible exact calls_bw (HRB.out _)))))
        refine bq_row 93 _ _ rfl rfl rfl f2 (by omega) Tryz.underlying93 rfl s2 ?_
        simp only [Act.put,List.setIfInBounds_toArray,List.set_cons_zero,List.set_cons_succ]
        repeat (go_big_quiet_step ((first | (go_at_call 57;with_reducible exact calls_bw (HRA.out _)) | (go_at_call 57;with_reducible exact calls_bw (HRB.out _)))))
        refine wpQuiet_nil ?_
        intro wq hbq
        have HBI:=Lib.hid (hbi.trans (hbq.mono hbi.size))
        clear hbi hbq f1 f2
        go_wp2
        go_roundw
        case rel => exact ⟨m + 1,by omega,by go_num,HNX.out HCA.out,HBI.out⟩
        case measure => simp [intOf];omega
       | true =>
        have HIA2:=Lib.hid (fun w => HIA.out w hra)
        have HIB2:=Lib.hid (fun w => HIB.out w hrb)
        by_cases he:idO ⟨ka,sa⟩ = idO ⟨kb,sb⟩
        ·have HCA:Hid (clashAt l k m = true):=by unfold Hid;rw [HA.out,hne,hra,hrb,decide_eq_true he];rfl
         have hid:=fun w => id_eqIn_yes HLA he w
         rw [hra] at HRA
         rw [hrb] at HRB
         clear hne hra hrb he
         generalize idC (idO ⟨ka,sa⟩) = ua at HIA2 hid
         generalize idC (idO ⟨kb,sb⟩) = ub at HIB2 hid
         go_wp2
         refine wp_region_bq (by kernel_rfl) (by kernel_rfl) ?_
         repeat (go_big_quiet_step ((first | (go_at_call 57;with_reducible exact calls_bw (HRA.out _)) | (go_at_call 57;with_reducible exact calls_bw (HRB.out _)) | (go_at_call 58;with_reducible exact calls_bw (HIA2.out _)) | (go_at_call 58;with_reducible exact calls_bw (HIB2.out _)))))
         refine bq_row 93 _ _ rfl rfl rfl f1 (by omega) Tryz.underlying93 rfl s1 ?_
         simp only [Act.put,List.setIfInBounds_toArray,List.set_cons_zero,List.set_cons_succ]
         repeat (go_big_quiet_step ((first | (go_at_call 57;with_reducible exact calls_bw (HRA.out _)) | (go_at_call 57;with_reducible exact calls_bw (HRB.out _)) | (go_at_call 58;with_reducible exact calls_bw (HIA2.out _)) | (go_at_call 58;with_reducible exact calls_bw (HIB2.out _)))))
         refine bq_row 93 _ _ rfl rfl rfl f2 (by omega) Tryz.underlying93 rfl s2 ?_
         simp only [Act.put,List.setIfInBounds_toArray,List.set_cons_zero,List.set_cons_succ]
         repeat (go_big_quiet_step ((first | (go_at_call 57;with_reducible exact calls_bw (HRA.out _)) | (go_at_call 57;with_reducible exact calls_bw (HRB.out _)) | (go_at_call 58;with_reducible exact calls_bw (HIA2.out _)) | (go_at_call 58;with_reducible exact calls_bw (HIB2.out _)))))
         refine bq_row 93 _ _ rfl rfl rfl f1 (by omega) Tryz.underlying93 rfl s1 ?_
         simp only [Act.put,List.setIfInBounds_toArray,List.set_cons_zero,List.set_cons_succ]
         repeat (go_big_quiet_step ((first | (go_at_call 57;with_reducible exact calls_bw (HRA.out _)) | (go_at_call 57;with_reducible exact calls_bw (HRB.out _)) | (go_at_call 58;with_reducible exact calls_bw (HIA2.out _)) | (go_at_call 58;with_reducible exact calls_bw (HIB2.out _)))))
         refine bq_row 93 _ _ rfl rfl rfl f2 (by omega) Tryz.underlying93 rfl s2 ?_
         simp only [Act.put,List.setIfInBounds_toArray,List.set_cons_zero,List.set_cons_succ]
         repeat (go_big_quiet_step ((first | (go_at_call 57;with_reducible exact calls_bw (HRA.out _)) | (go_at_call 57;with_reducible exact calls_bw (HRB.out _)) | (go_at_call 58;with_reducible exact calls_bw (HIA2.out _)) | (go_at_call 58;with_reducible exact calls_bw (HIB2.out _)))))
         refine bq_row 93 _ _ rfl rfl rfl f1 (by omega) Tryz.underlying93 rfl s1 ?_
         simp only [Act.put,List.setIfInBounds_toArray,List.set_cons_zero,List.set_cons_succ]
         repeat (go_big_quiet_step ((first | (go_at_call 57;with_reducible exact calls_bw (HRA.out _)) | (go_at_call 57;with_reducible exact calls_bw (HRB.out _)) | (go_at_call 58;with_reducible exact calls_bw (HIA2.out _)) | (go_at_call 58;with_reducible exact calls_bw (HIB2.out _)))))
         refine bq_row 93 _ _ rfl rfl rfl f2 (by omega) Tryz.underlying93 rfl s2 ?_
         simp only [Act.put,List.setIfInBounds_toArray,List.set_cons_zero,List.set_cons_succ]
         repeat (go_big_quiet_step ((first | (go_at_call 57;with_reducible exact calls_bw (HRA.out _)) | (go_at_call 57;with_reducible exact calls_bw (HRB.out _)) | (go_at_call 58;with_reducible exact calls_bw (HIA2.out _)) | (go_at_call 58;with_reducible exact calls_bw (HIB2.out _)))))
         refine wpQuiet_nil ?_
         intro wq hbq
         go_wp2
         go_ret
         exact ⟨ret_bool (HF.out HCA.out).symm,HBO.out.trans ((hbi.trans (hbq.mono hbi.size)).mono HBO.out.size)⟩
        ·have HCA:Hid (clashAt l k m = false):=by unfold Hid;rw [HA.out,decide_eq_false he,Bool.and_false]
         have hid:=fun w => id_eqIn_no HLA HLB he w
         rw [hra] at HRA
         rw [hrb] at HRB
         clear hne hra hrb he
         generalize idC (idO ⟨ka,sa⟩) = ua at HIA2 hid
         generalize idC (idO ⟨kb,sb⟩) = ub at HIB2 hid
         go_wp2
         refine wp_region_bq (by kernel_rfl) (by kernel_rfl) ?_
         repeat (go_big_quiet_step ((first | (go_at_call 57;with_reducible exact calls_bw (HRA.out _)) | (go_at_call 57;with_reducible exact calls_bw (HRB.out _)) | (go_at_call 58;with_reducible exact calls_bw (HIA2.out _)) | (go_at_call 58;with_reducible exact calls_bw (HIB2.out _)))))
         refine bq_row 93 _ _ rfl rfl rfl f1 (by omega) Tryz.underlying93 rfl s1 ?_
         simp only [Act.put,List.setIfInBounds_toArray,List.set_cons_zero,List.set_cons_succ]
         repeat (go_big_quiet_step ((first | (go_at_call 57;with_reducible exact calls_bw (HRA.out _)) | (go_at_call 57;with_reducible exact calls_bw (HRB.out _)) | (go_at_call 58;with_reducible exact calls_bw (HIA2.out _)) | (go_at_call 58;with_reducible exact calls_bw (HIB2.out _)))))
         refine bq_row 93 _ _ rfl rfl rfl f2 (by omega) Tryz.underlying93 rfl s2 ?_
         simp only [Act.put,List.setIfInBounds_toArray,List.set_cons_zero,List.set_cons_succ]
         repeat (go_big_quiet_step ((first | (go_at_call 57;with_reducible exact calls_bw (HRA.out _)) | (go_at_call 57;with_reducible exact calls_bw (HRB.out _)) | (go_at_call 58;with_reducible exact calls_bw (HIA2.out _)) | (go_at_call 58;with_reducible exact calls_bw (HIB2.out _)))))
         refine bq_row 93 _ _ rfl rfl rfl f1 (by omega) Tryz.underlying93 rfl s1 ?_
         simp only [Act.put,List.setIfInBounds_toArray,List.set_cons_zero,List.set_cons_succ]
         repeat (go_big_quiet_step ((first | (go_at_call 57;with_reducible exact calls_bw (HRA.out _)) | (go_at_call 57;with_reducible exact calls_bw (HRB.out _)) | (go_at_call 58;with_reducible exact calls_bw (HIA2.out _)) | (go_at_call 58;with_reducible exact calls_bw (HIB2.out _)))))
         refine bq_row 93 _ _ rfl rfl rfl f2 (by omega) Tryz.underlying93 rfl s2 ?_
         simp only [Act.put,List.setIfInBounds_toArray,List.set_cons_zero,List.set_cons_succ]
         repeat (go_big_quiet_step ((first | (go_at_call 57;with_reducible exact calls_bw (HRA.out _)) | (go_at_call 57;with_reducible exact calls_bw (HRB.out _)) | (go_at_call 58;with_reducible exact calls_bw (HIA2.out _)) | (go_at_call 58;with_reducible exact calls_bw (HIB2.out _)))))
         refine bq_row 93 _ _ rfl rfl rfl f1 (by omega) Tryz.underlying93 rfl s1 ?_
         simp only [Act.put,List.setIfInBounds_toArray,List.set_cons_zero,List.set_cons_succ]
         repeat (go_big_quiet_step ((first | (go_at_call 57;with_reducible exact calls_bw (HRA.out _)) | (go_at_call 57;with_reducible exact calls_bw (HRB.out _)) | (go_at_call 58;with_reducible exact calls_bw (HIA2.out _)) | (go_at_call 58;with_reducible exact calls_bw (HIB2.out _)))))
         refine bq_row 93 _ _ rfl rfl rfl f2 (by omega) Tryz.underlying93 rfl s2 ?_
         simp only [Act.put,List.setIfInBounds_toArray,List.set_cons_zero,List.set_cons_succ]
         repeat (go_big_quiet_step ((first | (go_at_call 57;with_reducible exact calls_bw (HRA.out _)) | (go_at_call 57;with_reducible exact calls_bw (HRB.out _)) | (go_at_call 58;with_reducible exact calls_bw (HIA2.out _)) | (go_at_call 58;with_reducible exact calls_bw (HIB2.out _)))))
         refine wpQuiet_nil ?_
         intro wq hbq
         have HBI:=Lib.hid (hbi.trans (hbq.mono hbi.size))
         clear hbi hbq f1 f2
         go_wp2
         go_roundw
         case rel => exact ⟨m + 1,by omega,by go_num,HNX.out HCA.out,HBI.out⟩
         case measure => simp [intOf];omega
    ·obtain rfl:m = k:=by omega
     have HN2:Hid (∀ i,i < m + 1 → ∀ j,j < i → clashAt l i j = false):=Lib.hid (fun i hi => by
      rcases Nat.lt_or_ge i m with h | h
      ·exact HNO.out i h
      ·obtain rfl:i = m:=by omega
       exact hnm.out)
     have HBI:=Lib.hid (HBO.out.trans (hbi.mono HBO.out.size))
     clear hnm hbi
     go_wp2
     go_roundw
     case rel => exact ⟨m + 1,by omega,by go_num,HN2.out,HBI.out⟩
     case measure => simp [intOf];omega
  ·obtain rfl:k = l.length:=by omega
   have HR:Hid (clashB l = false):=Lib.hid (clash_none hno.out)
   clear hno
   go_wp2
   go_ret
   exact ⟨ret_bool HR.out.symm,hb⟩
end Go.Proofs.YtbmiiiccnoiffaaGreatDoor
