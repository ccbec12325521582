/- YtmhjpmenngjmeaaGreatDoorR46: texts BJ, AP, AV, QP, Q9 of this claim, in one. -/
import Derived.Test.YtmhjpmenngjmeaaGreatDoorR14
import Derived.Test.YtmhjpmenngjmeaaGreatDoorR16
import Derived.Test.YtmhjpmenngjmeaaGreatDoorR20
import Derived.Test.YtmhjpmenngjmeaaGreatDoorR30
import Derived.Test.YtmhjpmenngjmeaaGreatDoorR36
import Derived.Test.YtmhjpmenngjmeaaGreatDoorR38
import Derived.Test.YtmhjpmenngjmeaaGreatDoorR40
import Derived.Test.YtmhjpmenngjmeaaGreatDoorR42
import Derived.Test.YtmhjpmenngjmeaaGreatDoorR45
import Derived.Test.YtmhjpmenngjmeaaGreatDoorR7
import Derived.Test.YtmhjpmenngjmeaaGreatDoorR8
namespace Go.Proofs.YtmhjpmenngjmeaaGreatDoor
open Go.RowKit
set_option maxRecDepth 100000
theorem sum_one {D:List ByteArray} (a:ByteArray) (n:Nat):D.Nodup → (D.map fun d => if a = d then n else 0).sum ≤ n:=by
 induction D with
 | nil => intro _;exact Nat.zero_le _
 | cons d D ih =>
  intro h
  rw [List.nodup_cons] at h
  rw [List.map_cons,List.sum_cons]
  by_cases e:a = d
  ·subst e
   rw [if_pos rfl]
   have:(D.map fun d => if a = d then n else 0).sum = 0:=by
    have h0:(D.map fun d => if a = d then n else 0) = D.map fun _ => 0:=List.map_congr_left fun x hx => by
     show (if a = x then n else 0) = 0
     rw [if_neg]
     rintro rfl
     exact h.1 hx
    rw [h0]
    clear ih h h0
    induction D with
    | nil => rfl
    | cons x D ih => simpa using ih
   omega
  ·rw [if_neg e]
   have:=ih h.2
   omega
theorem sum_add {α:Type} (f g:α → Nat):∀ D:List α,(D.map fun d => f d + g d).sum = (D.map f).sum + (D.map g).sum
 | [] => rfl
 | d :: D => by simp only [List.map_cons,List.sum_cons,sum_add f g D];omega
theorem under_sum (D:List ByteArray) (hD:D.Nodup):∀ L:List Lf,(D.map fun d => (underOf d L).length).sum + (blobsOf L).length ≤ L.length
 | [] => by
  have:(D.map fun d => (underOf d []).length).sum = 0:=by
   induction D with
   | nil => rfl
   | cons x D ih => rw [List.map_cons,List.sum_cons,ih (List.nodup_cons.1 hD).2];rfl
  rw [this];simp [blobsOf]
 | f :: L => by
  have ih:=under_sum D hD L
  cases hc:cutS f.1 with
  | none =>
   have e1:∀ d,underOf d (f :: L) = underOf d L:=fun d => by unfold underOf;rw [List.filterMap_cons];unfold underGo;rw [hc]
   have e2:blobsOf (f :: L) = f :: blobsOf L:=by unfold blobsOf;rw [List.filter_cons_of_pos (by rw [hc];rfl)]
   simp only [e1,e2,List.length_cons]
   omega
  | some ar =>
   obtain ⟨a,r⟩:=ar
   have e1:∀ d,(underOf d (f :: L)).length = (if a = d then 1 else 0) + (underOf d L).length:=fun d => by
    unfold underOf
    rw [List.filterMap_cons]
    by_cases e:a = d
    ·have:underGo d f = some (r,f.2):=by unfold underGo;rw [hc];exact if_pos e
     rw [this,if_pos e]
     dsimp only
     rw [List.length_cons];omega
    ·have:underGo d f = none:=by unfold underGo;rw [hc];exact if_neg e
     rw [this,if_neg e]
     dsimp only
     omega
   have e2:blobsOf (f :: L) = blobsOf L:=by unfold blobsOf;rw [List.filter_cons_of_neg (by rw [hc];simp)]
   simp only [e1,e2,List.length_cons,sum_add]
   have:=sum_one (D:=D) a 1 hD
   omega
theorem sum_le {α:Type} {f g:α → Nat}:∀ {D:List α},(∀ d ∈ D,f d ≤ g d) → (D.map f).sum ≤ (D.map g).sum
 | [],_ => Nat.le_refl _
 | d :: D,h => by
  rw [List.map_cons,List.map_cons,List.sum_cons,List.sum_cons]
  have:=h d (List.mem_cons_self ..)
  have:=sum_le fun x hx => h x (List.mem_cons_of_mem _ hx)
  omega
theorem sum_mul (n:Nat) {α:Type} (f:α → Nat):∀ D:List α,(D.map fun d => n * f d).sum = n * (D.map f).sum
 | [] => rfl
 | d :: D => by rw [List.map_cons,List.map_cons,List.sum_cons,List.sum_cons,sum_mul n f D,Nat.mul_add]
theorem putsN_le:∀ (k:Nat) (L:List Lf),putsN k L ≤ (k + 1) * L.length + 1
 | 0,_ => Nat.zero_le _
 | k + 1,L => by
  have h1:((dirsOf L).map fun d => putsN k (underOf d L)).sum ≤ ((dirsOf L).map fun d => (k + 2) * (underOf d L).length).sum:=sum_le fun d hd => by
   have:=putsN_le k (underOf d L)
   have h2:0 < (underOf d L).length:=List.length_pos_iff.2 ((dirsOf_mem L d).1 hd)
   have h3:(k + 2) * (underOf d L).length = (k + 1) * (underOf d L).length + (underOf d L).length:=by rw [show k + 2 = (k + 1) + 1 from rfl,Nat.add_mul,Nat.one_mul]
   omega
  rw [sum_mul] at h1
  have h2:=under_sum (dirsOf L) (dirsOf_nodup L) L
  generalize ((dirsOf L).map fun d => (underOf d L).length).sum = S at h1 h2
  show (blobsOf L).length + ((dirsOf L).map fun d => putsN k (underOf d L)).sum + 1 ≤ (k + 2) * L.length + 1
  have h3:(k + 2) * (S + (blobsOf L).length) ≤ (k + 2) * L.length:=Nat.mul_le_mul_left _ h2
  rw [Nat.mul_add] at h3
  have h4:(blobsOf L).length ≤ (k + 2) * (blobsOf L).length:=by
   have:=Nat.mul_le_mul_right (blobsOf L).length (show 1 ≤ k + 2 by omega)
   omega
  omega
theorem dtrees_any:∀ (k:Nat) (v vo:Value) (L:List Lf) (out:List Ob) (w:World),LeafRow w v L → ObRow w vo out → CapI vo → (∀ g,vo.ownBlock = some g → g < w.heap.size) → (∀ o ∈ out,o.body.size ≤ 100000) → out.length + putsN (k + 1) L ≤ 100000 →
  (∀ f ∈ L,f.1.size ≤ 1000 ∧ f.2.size ≤ 100000 ∧ (nms f.1).length ≤ k + 1) → L.length ≤ 400 →
  Calls Tryz.prog 19 #[v,vo] w (DtrAns (k + 1) L out vo w)
 | k,v,vo,L,out,w,hv,ho,hcap,hvl,hob,hol,hsz,hlen => by
  refine dtrees_step k v vo L out w hv ho hcap hvl hob hol (fun f hf => ⟨(hsz f hf).1,(hsz f hf).2.1⟩) hlen ?_
  intro d hd v' vo' out' W hv' ho' hcap' hvl' hob' hol'
  cases k with
  | zero =>
   exfalso
   obtain ⟨f,hf,r,hc⟩:=dirs_from hd
   have h1:=(hsz f hf).2.2
   rw [(cutS_some hc).2.2,List.length_cons] at h1
   have:=nms_pos r
   omega
  | succ k =>
   have hul:=under_le d L
   refine dtrees_any k v' vo' (underOf d L) out' W hv' ho' hcap' hvl' hob' hol' (fun x hx => ?_) (by omega)
   obtain ⟨f,hf,hc,he⟩:=under_from hx
   obtain ⟨h1,h2,h3⟩:=cutS_some hc
   have h4:=hsz f hf
   rw [h3,List.length_cons] at h4
   exact ⟨by omega,by rw [he];exact h4.2.1,by omega⟩
def RbAns (L:List Lf) (w:World) (e:Ending) (w':World):Prop:=Below w.heap.size w w' ∧
 ((300 < L.length ∧ e = bad 4) ∨ (L.length ≤ 300 ∧ ((∃ f ∈ L,pathOk f.1 = false) ∨ docT 8 L [] = none) ∧ e = bad 1) ∨
  (L.length ≤ 300 ∧ (∀ f ∈ L,pathOk f.1 = true) ∧ ∃ out x v,docT 8 L [] = some (out,x) ∧ x.length = 32 ∧ e = .returned (.tuple #[v,.agg (idC x).toArray,.int .i64 0]) ∧ ObRow w' v out ∧ out.length ≤ 3000 ∧ ∀ o ∈ out,o.body.size ≤ 100000))
set_option maxHeartbeats 8000000 in
theorem rbuild_any (v:Value) (L:List Lf) (w:World) (hv:LeafRow w v L) (hsz:∀ f ∈ L,f.1.size ≤ 1000 ∧ f.2.size ≤ 100000) :
  Calls Tryz.prog 7 #[v] w (RbAns L w):=by
 obtain ⟨hizz,hizb⟩:=id_zeroC
 obtain ⟨W,hW⟩:∃ W,w.alloc (.cells (idC zid).toArray 27) = W:=⟨_,rfl⟩
 have hbW:Below w.heap.size w W:=by rw [← hW];exact (Below.refl _ _).alloc (Nat.le_refl _) _
 have hbx:BoxL W w.heap.size 27 (idC zid):=by rw [← hW];exact BoxL.new w 27 (idC zid)
 have hzl:(idC zid).length = 32:=by rw [idC_len,zid_len]
 have HROW:=Lib.hid hv
 obtain ⟨ao,cap,rfl,hmax,hcells⟩:=hv.open
 have HV:=Lib.hid hcells
 have HW:=Lib.hid hW
 have HBW:=Lib.hid hbW
 have HBX:=Lib.hid hbx
 have HWB:Hid (∀ X,Below W.heap.size W X → Below w.heap.size w X):=Lib.hid (fun X h => hbW.trans (h.mono hbW.size))
 have HZO:=Lib.hid (idC_one zid)
 have h32i:(Tryz.prog.info? 27).map (·.size) = some 32:=by kernel_rfl
 have HSZ:=Lib.hid hsz
 clear hW hbW hbx hsz hcells hv
 unfold maxLen at hmax
 generalize huz:idC zid = uz at hizz hizb HW hzl HBX HZO
 have HUZ:=Lib.hid huz
 have h32z:(Tryz.prog.info? 27).map (·.size) = some uz.length:=by rw [hzl];exact h32i
 have HBAD:Hid (∀ (X:World) (n:Nat),Below W.heap.size W X → ((300 < L.length ∧ n = 4) ∨ (L.length ≤ 300 ∧ ((∃ f ∈ L,pathOk f.1 = false) ∨ docT 8 L [] = none) ∧ n = 1)) →
   RbAns L w (.returned (.tuple #[.slice none 0 0,.agg uz.toArray,.int .i64 (n:Int)])) (X.setCells w.heap.size 0 uz)):=Lib.hid (fun X n hX hc =>
  ⟨below_setCells (B:=w.heap.size) w.heap.size (Nat.le_refl _) uz 0 _ (HWB.out _ hX),by
   rcases hc with ⟨h1,rfl⟩ | ⟨h1,h2,rfl⟩
   ·exact .inl ⟨h1,by rw [← huz];rfl⟩
   ·exact .inr (.inl ⟨h1,h2,by rw [← huz];rfl⟩)⟩)
 clear huz
 go_enter Tryz.func7,Tryz.ntmps7
 go_upto_region 1 with fail
 rw [HW.out]
 by_cases h3:300 < L.length
 ·have d0:decide ((300:Int) < (L.length:Int)) = true:=decide_eq_true (by omega)
  have hT:=HBX.out.there
  rw [hzl] at hT
  have HT:=Lib.hid hT
  have hr:=(HBX.out.set (us:=uz) rfl).range
  have HE:=Lib.hid (HBAD.out W 4 (Below.refl _ _) (.inl ⟨h3,rfl⟩))
  clear hT
  go_wp2_with (refine wpList_store_list rfl 27 _ _ rfl w.heap.size 0 uz rfl rfl 32 hzl HT.out h32i HZO.out ?_)
  exact ret_tct rfl w.heap.size 0 rfl uz _ hr Tryz.underlying27 rfl h32z rfl _ _ rfl rfl HE.out
 ·have d0:decide ((300:Int) < (L.length:Int)) = false:=decide_eq_false (by omega)
  go_upto_region 3 with fail
  go_wp2_with fail
  go_loopw [5,6,7] (fun i _ _ wr => ∃ j:Nat,i = .int .i64 (j:Int) ∧ j ≤ L.length ∧ Hid (Below W.heap.size W wr) ∧ Hid (∀ f ∈ L.take j,pathOk f.1 = true)) (fun i _ _ _ => (L.length - intOf i).toNat)
  case atStart => exact ⟨0,rfl,by omega,Lib.hid (Below.refl _ _),Lib.hid (by simp)⟩
  case round =>
   obtain ⟨wo,rfl⟩:∃ wo:World,wo = wr:=⟨_,rfl⟩
   obtain ⟨i,rfl,hi,HB,HA⟩:=hrel
   have hszo:=HB.out.size
   by_cases hlt:i < L.length
   ·obtain ⟨g,off,rfl,hgl,hcell⟩:=HV.out (by intro e;rw [e] at hlt;simp at hlt)
    obtain ⟨f,hf⟩:∃ f,L[i] = f:=⟨_,rfl⟩
    have f1:=below_load (hcell i hlt).1 (HWB.out _ HB.out) hgl
    rw [hf] at f1
    have HFL:Hid (f ∈ L):=Lib.hid (by rw [← hf];exact List.getElem_mem hlt)
    have k0:(0:Int) ≤ i:=by omega
    have k1:(i:Int) < L.length:=by omega
    have d1:decide ((i:Int) < L.length) = true:=decide_eq_true k1
    have HNM:=Lib.hid (names26_any f.1 wo (by have:=(HSZ.out f HFL.out).1;omega))
    have HTK:Hid (∀ x ∈ L.take (i + 1),x ∈ L.take i ∨ x = f):=Lib.hid (fun x hx => by
     rw [take_snoc L i hlt,hf] at hx
     rcases List.mem_append.1 hx with h | h
     ·exact .inl h
     ·exact .inr (List.mem_singleton.1 h))
    have HLT:=Lib.hid hlt
    clear hf hcell hi hlt
    go_upto_region 6 with fail
    go_wp2_with fail
    refine HNM.out.mono ?_
    rintro e w2 ⟨nv,rfl,_,hb2⟩
    have HB2:=Lib.hid (HB.out.trans (hb2.mono HB.out.size))
    clear hb2
    cases hp:pathOk f.1 with
    | false =>
     have hx2:=HBX.out.below HB2.out
     have hT:=hx2.there
     rw [hzl] at hT
     have HT:=Lib.hid hT
     have hr:=(hx2.set (us:=uz) rfl).range
     have HE:=Lib.hid (HBAD.out w2 1 HB2.out (.inr ⟨by omega,.inl ⟨f,HFL.out,hp⟩,rfl⟩))
     clear hT hx2 hp
     go_wp2_with (refine wpList_store_list rfl 27 _ _ rfl w.heap.size 0 uz rfl rfl 32 hzl HT.out h32i HZO.out ?_)
     exact ret_tct rfl w.heap.size 0 rfl uz _ hr Tryz.underlying27 rfl h32z rfl _ _ rfl rfl HE.out
    | true =>
     have HA2:Hid (∀ x ∈ L.take (i + 1),pathOk x.1 = true):=Lib.hid (fun x hx => by
      rcases HTK.out x hx with h | rfl
      ·exact HA.out x h
      ·exact hp)
     clear hp
     go_wp2_with fail
     go_roundw
     case rel => exact ⟨i + 1,by go_num,by have:=HLT.out;omega,HB2,HA2⟩
     case measure => have:=HLT.out;simp [intOf];omega
   ·obtain rfl:i = L.length:=by omega
    have d1:decide ((L.length:Int) < L.length) = false:=decide_eq_false (by omega)
    rw [List.take_length] at HA
    have hok:∀ f ∈ L,(nms f.1).length ≤ 8:=fun f hf => by
     have:=HA.out f hf
     unfold pathOk at this
     simp only [Bool.and_eq_true,decide_eq_true_eq] at this
     exact this.2
    have hpl:=putsN_le 8 L
    have HPL:Hid (putsN 8 L ≤ 2800):=Lib.hid (by omega)
    have HT:=Lib.hid (dtrees_any 7 (.slice ao L.length cap) (.slice none 0 0) L [] wo (HROW.out.below (HWB.out _ HB.out)) (show ObRow _ _ [] from ⟨none,0,rfl,by simp,fun h => absurd rfl h⟩) (fun _ _ _ h => by cases h;exact Nat.le_refl _) (fun g h => by cases h) (by simp) (by have:=HPL.out;simp;omega) (fun f hf => ⟨(HSZ.out f hf).1,(HSZ.out f hf).2,hok f hf⟩) (by omega))
    clear hok hi hlt hpl
    go_upto_region 9 with fail
    go_wp2_with fail
    refine HT.out.mono ?_
    rintro e w6 ⟨hb6,⟨hdn,rfl⟩ | ⟨O,x,v',hds,hxl0,rfl,hor6,hcp6,hfr6,hlt6,hob6,hol6⟩⟩
    ·rw [HUZ.out]
     obtain ⟨W9,hW9⟩:∃ W9,(w6.alloc (.cells uz.toArray 27)).setCells w6.heap.size 0 uz = W9:=⟨_,rfl⟩
     have hb9:Below w6.heap.size w6 W9:=by rw [← hW9];exact below_setCells _ (Nat.le_refl _) _ _ _ ((Below.refl _ _).alloc (Nat.le_refl _) _)
     have HB9:=Lib.hid ((HB.out.trans (hb6.mono HB.out.size)).trans (hb9.mono (Nat.le_trans HB.out.size hb6.size)))
     have hx9:=HBX.out.below HB9.out
     have HTH9:=Lib.hid (there_alloc w6 uz.toArray 27 (by simpa using hzl))
     have HT:=Lib.hid hx9.there
     rw [hzl] at HT
     have hr9:=(hx9.set (us:=uz) rfl).range
     have HE:=Lib.hid (HBAD.out W9 1 HB9.out (.inr ⟨by omega,.inr hdn,rfl⟩))
     have HW9:=Lib.hid hW9
     clear hb6 hdn hW9 hb9 hx9
     go_wp2_with (first
      | (refine wpList_store_list rfl 27 _ _ rfl w6.heap.size 0 uz rfl rfl 32 hzl HTH9.out h32i HZO.out ?_;rw [HW9.out])
      | (refine wpList_store_list rfl 27 _ _ rfl w.heap.size 0 uz rfl rfl 32 hzl HT.out h32i HZO.out ?_))
     exact ret_tct rfl w.heap.size 0 rfl uz _ hr9 Tryz.underlying27 rfl h32z rfl _ _ rfl rfl HE.out
    ·obtain ⟨ux,hux⟩:∃ ux,idC x = ux:=⟨_,rfl⟩
     have hxl:ux.length = 32:=by rw [← hux,idC_len,hxl0]
     have HXO:Hid (∀ v ∈ ux,v.oneCell' = true):=Lib.hid (by rw [← hux];exact idC_one _)
     rw [hux]
     have HUX:=Lib.hid hux
     have h32x:(Tryz.prog.info? 27).map (·.size) = some ux.length:=by rw [hxl];exact h32i
     obtain ⟨W9,hW9⟩:∃ W9,(w6.alloc (.cells uz.toArray 27)).setCells w6.heap.size 0 ux = W9:=⟨_,rfl⟩
     have hb9:Below w6.heap.size w6 W9:=by rw [← hW9];exact below_setCells _ (Nat.le_refl _) _ _ _ ((Below.refl _ _).alloc (Nat.le_refl _) _)
     have hxx:BoxL W9 w6.heap.size 27 ux:=by rw [← hW9];exact (BoxL.new w6 27 uz).set (by rw [hxl,hzl])
     have HTH9:=Lib.hid (there_alloc w6 uz.toArray 27 (by simpa using hzl))
     have hb69:=hb6.trans (hb9.mono hb6.size)
     have hbd:Below W9.heap.size W9 W9.drew:=(Below.refl _ _).drew
     have HB9:=Lib.hid ((HB.out.trans (hb69.mono HB.out.size)).trans (hbd.mono (Nat.le_trans HB.out.size hb69.size)))
     have HXX:=Lib.hid (hxx.below hbd)
     have hbx9:=HBX.out.below HB9.out
     have HOR9:=Lib.hid ((hor6.below hb9).below hbd)
     have hne:w.heap.size ≠ w6.heap.size:=by
      have h1:=hb6.size
      have h2:W.heap.size = w.heap.size + 1:=by rw [← HW.out];simp
      omega
     have hv8:∀ g,v'.ownBlock = some g → some w.heap.size ≠ some g:=fun g e e2 => by
      have h2:W.heap.size = w.heap.size + 1:=by rw [← HW.out];simp
      have h3:=Option.some.inj e2
      rcases hfr6 with h | h
      ·rw [e] at h;cases h
      ·have h4:=h g e
       omega
     obtain ⟨WE,hWE⟩:∃ WE,(W9.drew).setCells w.heap.size 0 ux = WE:=⟨_,rfl⟩
     have hS0:W9.drew.rangeAt w6.heap.size 0 ux:=HXX.out.range
     have hTd:=hbx9.there
     rw [hzl] at hTd
     have hrE:WE.rangeAt w.heap.size 0 ux:=by rw [← hWE];exact (hbx9.set (us:=ux) (by rw [hxl,hzl])).range
     have hS1:WE.rangeAt w6.heap.size 0 ux:=by rw [← hWE];exact range_grown hS0 (grownBy_setCells _ _ _ _) (fun e => hne (Option.some.inj e))
     have hBE:Below w.heap.size w WE:=by
      rw [← hWE]
      exact below_setCells (B:=w.heap.size) w.heap.size (Nat.le_refl _) ux 0 _ (HWB.out _ HB9.out)
     have hgE:W9.drew.grownBy WE (some w.heap.size):=by rw [← hWE];exact grownBy_setCells _ _ _ _
     have HORE:=Lib.hid (HOR9.out.grown hgE hv8)
     have HE:Hid (RbAns L w (.returned (.tuple #[v',.agg ux.toArray,.int .i64 0])) WE):=Lib.hid ⟨hBE,.inr (.inr ⟨by omega,HA.out,O,x,v',hds,hxl0,by rw [hux],HORE.out,by have:=HPL.out;simp at hol6;omega,hob6⟩)⟩
     have HW9:=Lib.hid hW9
     have HWE:=Lib.hid hWE
     have HRE:=Lib.hid hrE
     have HTD:=Lib.hid hTd
     clear hux hxl0 hb6 hds hor6 hcp6 hfr6 hlt6 hob6 hol6 hW9 hb9 hxx hb69 hbd hbx9 hne hv8 hWE hTd hrE hBE hgE
     go_upto_region 12 with (refine wpList_store_list rfl 27 _ _ rfl w6.heap.size 0 ux rfl rfl 32 hxl HTH9.out h32i HXO.out ?_;rw [HW9.out])
     refine wp_region_L 4 (fun w' => w'.rangeAt w6.heap.size 0 ux) (by kernel_rfl) (by kernel_rfl) ?_
     refine WL.take (i:=0) (v:=?_) rfl (by kernel_rfl) (by decide) (by decide +kernel) (by decide +kernel) (fun _ _ _ h => h) rfl ?_ hS0 ?_
     rotate_left
     ·(intro w' hSw;(try dsimp only at hSw);go_simp;(try with_reducible rfl))
     simp only [Act.put];(try simp only [List.getElem_toArray]);(try simp only [List.getElem_cons_succ]);(try simp only [List.getElem_cons_zero]);(try simp only [List.setIfInBounds_toArray]);(try simp only [List.set_cons_succ]);(try simp only [List.set_cons_zero])
     refine WL.take (i:=1) (v:=_) rfl (by kernel_rfl) (by decide) (by decide +kernel) (by decide +kernel) (fun _ _ _ h => h) rfl (fun w' hSw => exec_row 27 _ (hSw) Tryz.underlying27 rfl h32x _ rfl rfl) hS0 ?_
     simp only [Act.put];(try simp only [List.getElem_toArray]);(try simp only [List.getElem_cons_succ]);(try simp only [List.getElem_cons_zero]);(try simp only [List.setIfInBounds_toArray]);(try simp only [List.set_cons_succ]);(try simp only [List.set_cons_zero])
     refine WL.take (i:=2) (v:=?_) rfl (by kernel_rfl) (by decide) (by decide +kernel) (by decide +kernel) (fun _ _ _ h => h) rfl ?_ hS0 ?_
     rotate_left
     ·(intro w' hSw;(try dsimp only at hSw);go_simp;(try with_reducible rfl))
     simp only [Act.put];(try simp only [List.getElem_toArray]);(try simp only [List.getElem_cons_succ]);(try simp only [List.getElem_cons_zero]);(try simp only [List.setIfInBounds_toArray]);(try simp only [List.set_cons_succ]);(try simp only [List.set_cons_zero])
     refine WL.one (i:=3) rfl (by decide) (by decide +kernel) ?_
     go_wp2_with (refine wpList_store_list rfl 27 _ _ rfl w.heap.size 0 ux rfl rfl 32 hxl HTD.out h32i HXO.out ?_;rw [HWE.out])
     refine ⟨hS1,?_⟩
     refine WL.last (n:=4) rfl rfl (by decide +kernel) (by decide +kernel) ?_
     go_wp2
     exact ret_tct rfl w.heap.size 0 rfl ux _ HRE.out Tryz.underlying27 rfl h32x rfl _ _ rfl rfl HE.out
end Go.Proofs.YtmhjpmenngjmeaaGreatDoor
namespace Go.Proofs.YtmhjpmenngjmeaaGreatDoor
open Go.RowKit
theorem idO_sha (o:Ob):idO o = shaL (frameL o):=by
 unfold idO
 rw [← shaL_eq,ofB_data]
def nmA:ByteArray:=⟨#[97]⟩
def nmB:ByteArray:=⟨#[98]⟩
def nmX:ByteArray:=⟨#[120]⟩
def fl0:List Lf:=[(⟨#[98]⟩,⟨#[50]⟩),(⟨#[97,47,120]⟩,⟨#[49]⟩)]
def bA:Ob:=⟨1,⟨#[50]⟩⟩
def bB:Ob:=⟨1,⟨#[49]⟩⟩
def yA:Idl:=shaL (frameL bA)
def yB:Idl:=shaL (frameL bB)
def tX:Ob:=treeOb [⟨nmX,1,yB⟩]
def yX:Idl:=shaL (frameL tX)
def tR:Ob:=treeOb [⟨nmA,2,yX⟩,⟨nmB,1,yA⟩]
def yR:Idl:=shaL (frameL tR)
theorem idYA:idO bA = yA:=idO_sha _
theorem idYB:idO bB = yB:=idO_sha _
theorem idYX:idO tX = yX:=idO_sha _
theorem idYR:idO tR = yR:=idO_sha _
set_option maxRecDepth 100000 in
theorem tr0':trS 8 fl0 = some ([bA,bB,treeOb [⟨nmX,1,idO bB⟩],treeOb [⟨nmA,2,idO (treeOb [⟨nmX,1,idO bB⟩])⟩,⟨nmB,1,idO bA⟩]],idO (treeOb [⟨nmA,2,idO (treeOb [⟨nmX,1,idO bB⟩])⟩,⟨nmB,1,idO bA⟩])):=by kernel_rfl
theorem tr0:trS 8 fl0 = some ([bA,bB,tX,tR],yR):=by
 rw [tr0',idYB,idYA]
 rw [show treeOb [⟨nmX,1,yB⟩] = tX from rfl,idYX]
 rw [show treeOb [⟨nmA,2,yX⟩,⟨nmB,1,yA⟩] = tR from rfl,idYR]
set_option maxRecDepth 100000 in
theorem right0:rightOb bA = true ∧ rightOb bB = true ∧ rightOb tX = true ∧ rightOb tR = true:=by decide +kernel
set_option maxRecDepth 100000 in
theorem nodup0':[yA,yB,yX,yR].Nodup:=by decide +kernel
theorem nodup0:([bA,bB,tX,tR].map idO).Nodup:=by
 simp only [List.map_cons,List.map_nil,idYA,idYB,idYX,idYR]
 exact nodup0'
theorem len0:yA.length = 32 ∧ yB.length = 32 ∧ yX.length = 32 ∧ yR.length = 32:=⟨by rw [← idYA];exact idO_len _,by rw [← idYB];exact idO_len _,by rw [← idYX];exact idO_len _,by rw [← idYR];exact idO_len _⟩
theorem inj_nodup:∀ {os:List Ob},(os.map idO).Nodup → ∀ a ∈ os,∀ b ∈ os,idO a = idO b → a = b
 | [],_,a,ha,_,_,_ => by cases ha
 | x :: l,hn,a,ha,b,hb,e => by
  rw [List.map_cons,List.nodup_cons] at hn
  rcases List.mem_cons.1 ha with h1 | h1
  ·rcases List.mem_cons.1 hb with h2 | h2
   ·rw [h1,h2]
   ·exact (hn.1 (List.mem_map.2 ⟨b,h2,by rw [← e,h1]⟩)).elim
  ·rcases List.mem_cons.1 hb with h2 | h2
   ·exact (hn.1 (List.mem_map.2 ⟨a,h1,by rw [e,h2]⟩)).elim
   ·exact inj_nodup hn.2 a h1 b h2 e
theorem put_get {os:List Ob} {M:Idl → Option Ob} (hp:PutAll os (fun _ => none) M) (hn:(os.map idO).Nodup) {o:Ob} (ho:o ∈ os):M (idO o) = some o:=by
 have hinj:=inj_nodup hn
 rcases hp (idO o) with ⟨o',ho',h1,h2⟩ | ⟨h1,_⟩
 ·rw [h2,hinj o' ho' o ho h1]
 ·exact absurd rfl (h1 o ho)
theorem list_facts {os:List Ob} {M:Idl → Option Ob} {ids:List Idl} (hp:PutAll os (fun _ => none) M) (hn:(os.map idO).Nodup) (ha:AscL ids) (hi:∀ q,q ∈ ids ↔ q ∈ os.map idO) (hr:∀ o ∈ os,rightOb o = true) :
  (ids.map fun q => (M q).getD ob0).length = os.length ∧ ∀ o ∈ os,lastS (ids.map fun q => (M q).getD ob0) (idO o) = some o:=by
 have hmem:∀ m ∈ ids.map (fun q => (M q).getD ob0),m ∈ os:=fun m hm => by
  obtain ⟨q,hq,rfl⟩:=List.mem_map.1 hm
  obtain ⟨o,ho,rfl⟩:=List.mem_map.1 ((hi q).1 hq)
  rw [put_get hp hn ho];exact ho
 refine ⟨?_,fun o ho => ?_⟩
 ·rw [List.length_map,((List.perm_ext_iff_of_nodup ha.nodup hn).2 hi).length_eq,List.length_map]
 ·unfold lastS rights
  cases h:((ids.map fun q => (M q).getD ob0).filter rightOb).reverse.find? (fun x => decide (idO x = idO o)) with
  | none =>
   exfalso
   have:=List.find?_eq_none.1 h o (by
    rw [List.mem_reverse,List.mem_filter]
    exact ⟨List.mem_map.2 ⟨idO o,(hi _).2 (List.mem_map.2 ⟨o,ho,rfl⟩),by rw [put_get hp hn ho];rfl⟩,hr o ho⟩)
   simp at this
  | some x =>
   have h1:=List.mem_of_find?_eq_some h
   rw [List.mem_reverse,List.mem_filter] at h1
   have h2:idO x = idO o:=by simpa using List.find?_some h
   have h3:=put_get hp hn (hmem x h1.1)
   rw [h2,put_get hp hn ho] at h3
   rw [Option.some.inj h3]
theorem lastS_right {l:List Ob} {x:Idl} {o:Ob} (h:lastS l x = some o):rightOb o = true:=by
 unfold lastS rights at h
 have:=List.mem_of_find?_eq_some h
 rw [List.mem_reverse,List.mem_filter] at this
 exact this.2
set_option maxRecDepth 100000 in
theorem treeOf_X:treeOf tX.body = some [⟨nmX,1,yB⟩]:=treeOf_write (by kernel_rfl) (by intro e he;rw [List.mem_singleton.1 he];exact len0.2.1)
set_option maxRecDepth 100000 in
theorem treeOf_R:treeOf tR.body = some [⟨nmA,2,yX⟩,⟨nmB,1,yA⟩]:=treeOf_write (by kernel_rfl) (by
 intro e he
 rcases List.mem_cons.1 he with rfl | he
 ·exact len0.2.2.1
 ·rw [List.mem_singleton.1 he];exact len0.1)
section
variable {f:Idl → Option Ob} (hA:f yA = some bA) (hB:f yB = some bB) (hX:f yX = some tX) (hR:f yR = some tR)
include hA hB hX hR
set_option maxRecDepth 100000 in
theorem files0:filesF f yR = .inr [(⟨#[97,47,120]⟩,⟨#[49]⟩),(⟨#[98]⟩,⟨#[50]⟩)]:=by
 have gR:treeG f yR = some [⟨nmA,2,yX⟩,⟨nmB,1,yA⟩]:=by unfold treeG;rw [hR];exact treeOf_R
 have gX:treeG f yX = some [⟨nmX,1,yB⟩]:=by unfold treeG;rw [hX];exact treeOf_X
 have e1:bA.kind = 1:=rfl
 have e2:bB.kind = 1:=rfl
 unfold filesF
 rw [show (8:Nat) = 6 + 1 + 1 from rfl]
 unfold walkF walkG
 rw [gR]
 unfold loopF
 unfold walkF walkG
 simp only [gX]
 unfold loopF
 simp [hA,hB,e1,e2,loopF]
 exact ⟨⟨by decide +kernel,rfl⟩,rfl,rfl⟩
omit hA hB hX in
set_option maxRecDepth 100000 in
theorem find0:findP f yR nmA = ((yX,2),0):=by
 unfold findP
 rw [if_pos (by decide +kernel),show nms nmA = [nmA] from by kernel_rfl]
 unfold findN
 rw [if_neg (by simp)]
 simp only [hR]
 rw [if_neg (show ¬ tR.kind ≠ 2 from by simp [tR,treeOb]),treeOf_R]
 rfl
end
end Go.Proofs.YtmhjpmenngjmeaaGreatDoor
namespace Go.Proofs.YtmhjpmenngjmeaaGreatDoor
open Go.RowKit
set_option maxRecDepth 100000
theorem flat0:flatC leafC fl0 = [.string ⟨#[98]⟩,.string ⟨#[50]⟩,.string ⟨#[97,47,120]⟩,.string ⟨#[49]⟩]:=rfl
set_option maxHeartbeats 4000000 in
theorem alive26_any (w:World) (hL:Laid w) (hm:MaxAt w):Calls Tryz.prog 4 #[] w fun e w' => e = .returned (.bool true) ∧ Below w.heap.size w w':=by
 obtain ⟨W,hW⟩:∃ W,w.alloc (.cells #[.string ⟨#[98]⟩,.string ⟨#[50]⟩,.string ⟨#[97,47,120]⟩,.string ⟨#[49]⟩] 36) = W:=⟨_,rfl⟩
 have hbW:Below w.heap.size w W:=by rw [← hW];exact (Below.refl _ _).alloc (Nat.le_refl _) _
 have hown:OwnQ W 0 2 (.slice (some ⟨w.heap.size,0,none⟩) 2 2) fl0.length (flatC leafC fl0):=by
  refine ⟨rfl,.inr ⟨w.heap.size,0,2,rfl,Nat.zero_le _,by rw [← hW];simp,Nat.le_refl _,by unfold maxLen;omega,?_,?_⟩⟩
  ·rw [← hW];exact there_alloc w _ 36 (n:=4) rfl
  ·rw [← hW,flat0];exact range_new w [.string ⟨#[98]⟩,.string ⟨#[50]⟩,.string ⟨#[97,47,120]⟩,.string ⟨#[49]⟩] 36 rfl
 have hrow:LeafRow W (.slice (some ⟨w.heap.size,0,none⟩) 2 2) fl0:=rowOf_ownQ leafC 2 (fun _ => rfl) hown
 have hbd:=build_any sortsTo_small _ fl0 W hrow (hL.below hbW) (hm.below hbW hm.lt) (by decide +kernel) (fun _ => by decide) (fun _ => by decide +kernel)
 have HBD:=Lib.hid hbd
 have HW:=Lib.hid hW
 have HBW:=Lib.hid hbW
 have HL:=Lib.hid hL
 have HM:=Lib.hid hm
 clear hW hbW hown hrow hbd hL hm
 go_enter Tryz.func4,Tryz.ntmps4
 go_wp2_with fail
 rw [HW.out]
 refine HBD.out.mono ?_
 rintro e w1 ⟨hb1,h⟩
 obtain ⟨ids,M,v,rfl,hrow,hp,ha,hi⟩:∃ ids M v,e = .returned (.tuple #[v,.agg (idC yR).toArray,.int .i64 0]) ∧ ObRow w1 v (ids.map fun q => (M q).getD ob0) ∧ PutAll [bA,bB,tX,tR] (fun _ => none) M ∧ AscL ids ∧ (∀ q,q ∈ ids ↔ q ∈ [bA,bB,tX,tR].map idO):=by
  rcases h with ⟨h,_⟩ | ⟨_,h,_⟩ | ⟨_,_,os,x,M,ids,v,ht,hp,ha,hi,he,hr⟩
  ·exact absurd h (by decide)
  ·rcases h with ⟨f,hf,h⟩ | h
   ·exact absurd h (by
     have h2:∀ f ∈ fl0,pathOk f.1 = true:=by decide +kernel
     rw [h2 f hf];simp)
   ·rw [tr0] at h;cases h
  ·rw [tr0] at ht
   cases ht
   exact ⟨ids,M,v,he,hr,hp,ha,hi⟩
 have hlf:=list_facts hp nodup0 ha hi (by
  intro o ho
  simp only [List.mem_cons,List.not_mem_nil,or_false] at ho
  rcases ho with rfl | rfl | rfl | rfl
  ·exact right0.1
  ·exact right0.2.1
  ·exact right0.2.2.1
  ·exact right0.2.2.2)
 obtain ⟨l,hl⟩:∃ l,(ids.map fun q => (M q).getD ob0) = l:=⟨_,rfl⟩
 rw [hl] at hlf hrow
 have hlen:l.length = 4:=hlf.1
 have hgA:=hlf.2 bA (by simp)
 have hgB:=hlf.2 bB (by simp)
 have hgX:=hlf.2 tX (by simp)
 have hgR:=hlf.2 tR (by simp)
 rw [idYA] at hgA
 rw [idYB] at hgB
 rw [idYX] at hgX
 rw [idYR] at hgR
 have HF0:=Lib.hid (files0 hgA hgB hgX hgR)
 have HP0:=Lib.hid (find0 hgR)
 have HBW1:=Lib.hid (HBW.out.trans (hb1.mono HBW.out.size))
 have HOF:=Lib.hid (fun W' (h:Below w1.heap.size w1 W') => oof_any v l W' (hrow.below h) (by omega) ((HL.out.below HBW1.out).below h))
 have HRI:=Lib.hid (fun x o (h:lastS l x = some o) => lastS_right h)
 have HM1:=Lib.hid (fun W' (h:Below w1.heap.size w1 W') => (HM.out.below HBW1.out HM.out.lt).below h (HM.out.below HBW1.out HM.out.lt).lt)
 have HLEN:=Lib.hid hlen
 obtain ⟨vo,vcap,rfl,_⟩:=hrow.open
 rw [hlen] at HOF ⊢
 obtain ⟨hizz,_⟩:=id_zeroC
 have hzl:(idC zid).length = 32:=by rw [idC_len,zid_len]
 have hrl:(idC yR).length = 32:=by rw [idC_len];exact len0.2.2.2
 have HRO:=Lib.hid (idC_one yR)
 have hr32:=len0.2.2.2
 clear hlf hrow hl hp ha hi h hb1 hgA hgB hgX hgR hlen
 generalize huz:idC zid = uz at hizz hzl
 obtain ⟨ur,hur⟩:∃ ur,idC yR = ur:=⟨_,rfl⟩
 have HUR:=Lib.hid hur
 rw [hur] at hrl HRO ⊢
 have h32i:(Tryz.prog.info? 27).map (·.size) = some 32:=by kernel_rfl
 have h32r:(Tryz.prog.info? 27).map (·.size) = some ur.length:=by rw [hrl];exact h32i
 obtain ⟨W2,hW2⟩:∃ W2,(w1.alloc (.cells uz.toArray 27)).setCells w1.heap.size 0 ur = W2:=⟨_,rfl⟩
 have hx2:BoxL W2 w1.heap.size 27 ur:=by rw [← hW2];exact (BoxL.new w1 27 uz).set (by rw [hrl,hzl])
 have hb2:Below w1.heap.size w1 W2:=by rw [← hW2];exact below_setCells _ (Nat.le_refl _) _ _ _ ((Below.refl _ _).alloc (Nat.le_refl _) _)
 have HTH2:=Lib.hid (there_alloc w1 uz.toArray 27 (by simpa using hzl))
 have HX2:=Lib.hid hx2
 have HB2:=Lib.hid hb2
 have HW2:=Lib.hid hW2
 clear hx2 hb2 hW2 hur
 go_upto_region 2 with (refine wpList_store_list rfl 27 _ _ rfl w1.heap.size 0 ur rfl rfl 32 hrl HTH2.out h32i HRO.out ?_;rw [HW2.out])
 have hS0:W2.drew.rangeAt w1.heap.size 0 ur:=rangeAt_below HX2.out.range (Below.refl _ _).drew HX2.out.lt
 refine wp_region_L 8 (fun w' => w'.rangeAt w1.heap.size 0 ur) (by kernel_rfl) (by kernel_rfl) ?_
 refine WL.take (i:=0) (v:=?_) rfl (by kernel_rfl) (by decide) (by decide +kernel) (by decide +kernel) (fun _ _ _ h => h) rfl ?_ hS0 ?_
 rotate_left
 ·(intro w' hSw;(try dsimp only at hSw);go_simp;(try with_reducible rfl))
 simp only [Act.put];(try simp only [List.getElem_toArray]);(try simp only [List.getElem_cons_succ]);(try simp only [List.getElem_cons_zero]);(try simp only [List.setIfInBounds_toArray]);(try simp only [List.set_cons_succ]);(try simp only [List.set_cons_zero])
 refine WL.take (i:=2) (v:=_) rfl (by kernel_rfl) (by decide) (by decide +kernel) (by decide +kernel) (fun _ _ _ h => h) rfl (fun w' hSw => exec_row 27 _ (hSw) Tryz.underlying27 rfl h32r _ rfl rfl) hS0 ?_
 simp only [Act.put];(try simp only [List.getElem_toArray]);(try simp only [List.getElem_cons_succ]);(try simp only [List.getElem_cons_zero]);(try simp only [List.setIfInBounds_toArray]);(try simp only [List.set_cons_succ]);(try simp only [List.set_cons_zero])
 refine WL.one (i:=1) rfl (by decide) (by decide +kernel) ?_
 go_wp2_with fail
 refine (HOF.out W2.drew (HB2.out.drew)).mono ?_
 rintro e w3 ⟨r,rfl,hsr,hb3⟩
 have hb3:=drew_below hb3
 have HB3:=Lib.hid (HB2.out.trans (hb3.mono HB2.out.size))
 have hx3:=HX2.out.below hb3
 have HX3:=Lib.hid hx3
 have hS3:=hx3.range
 have hpf:=pfiles_any r (lastS l) HRI.out yR w3 hsr hr32
 rw [HUR.out] at hpf
 have HPF:=Lib.hid hpf
 clear hsr hb3 hx3 hpf
 go_wp2
 refine ⟨hS3,?_⟩
 refine WL.one (i:=3) rfl (by decide) (by decide +kernel) ?_
 go_wp2_with fail
 refine HPF.out.mono ?_
 rintro e w4 ⟨vf,rfl,hfy,_,hb4⟩
 have hlr:=(hfy _ HF0.out).1
 have HLR:=Lib.hid hlr
 have HB4:=Lib.hid (HB3.out.trans (hb4.mono HB3.out.size))
 have HX4:=Lib.hid (HX3.out.below hb4)
 have hS4:=HX4.out.range
 obtain ⟨fo,fcap,rfl,_,hfc⟩:=hlr.open
 have HFC:=Lib.hid hfc
 have he0:errOf (filesF (lastS l) yR) = 0:=by rw [HF0.out];rfl
 rw [he0]
 clear he0 hfy hlr hb4 hfc
 go_wp2
 refine ⟨hS4,?_⟩
 refine WL.take (i:=4) (v:=?_) rfl (by kernel_rfl) (by decide) (by decide +kernel) (by decide +kernel) (fun _ _ _ h => h) rfl ?_ hS4 ?_
 rotate_left
 ·(intro w' hSw;(try dsimp only at hSw);go_simp;(try with_reducible rfl))
 simp only [Act.put];(try simp only [List.getElem_toArray]);(try simp only [List.getElem_cons_succ]);(try simp only [List.getElem_cons_zero]);(try simp only [List.setIfInBounds_toArray]);(try simp only [List.set_cons_succ]);(try simp only [List.set_cons_zero])
 refine WL.take (i:=5) (v:=?_) rfl (by kernel_rfl) (by decide) (by decide +kernel) (by decide +kernel) (fun _ _ _ h => h) rfl ?_ hS4 ?_
 rotate_left
 ·(intro w' hSw;(try dsimp only at hSw);go_simp;(try with_reducible rfl))
 simp only [Act.put];(try simp only [List.getElem_toArray]);(try simp only [List.getElem_cons_succ]);(try simp only [List.getElem_cons_zero]);(try simp only [List.setIfInBounds_toArray]);(try simp only [List.set_cons_succ]);(try simp only [List.set_cons_zero])
 refine WL.take (i:=6) (v:=?_) rfl (by kernel_rfl) (by decide) (by decide +kernel) (by decide +kernel) (fun _ _ _ h => h) rfl ?_ hS4 ?_
 rotate_left
 ·(intro w' hSw;(try dsimp only at hSw);go_simp;(try with_reducible rfl))
 simp only [Act.put];(try simp only [List.getElem_toArray]);(try simp only [List.getElem_cons_succ]);(try simp only [List.getElem_cons_zero]);(try simp only [List.setIfInBounds_toArray]);(try simp only [List.set_cons_succ]);(try simp only [List.set_cons_zero])
 refine WL.take (i:=7) (v:=?_) rfl (by kernel_rfl) (by decide) (by decide +kernel) (by decide +kernel) (fun _ _ _ h => h) rfl ?_ hS4 ?_
 rotate_left
 ·(intro w' hSw;(try dsimp only at hSw);go_simp;(try with_reducible rfl))
 simp only [Act.put];(try simp only [List.getElem_toArray]);(try simp only [List.getElem_cons_succ]);(try simp only [List.getElem_cons_zero]);(try simp only [List.setIfInBounds_toArray]);(try simp only [List.set_cons_succ]);(try simp only [List.set_cons_zero])
 refine WL.last (n:=8) rfl rfl (by decide +kernel) (by decide +kernel) ?_
 -- region 3
 obtain ⟨hcz,hcb⟩:=ch_zero
 have hzhl:=chC_len (c:=(zid,0)) zid_len
 obtain ⟨zh,hzh⟩:∃ zh,chC (zid,0) = zh:=⟨_,rfl⟩
 rw [hzh] at hcz hzhl
 have hucl:=chC_len (c:=(yX,2)) len0.2.2.1
 have HUO:=Lib.hid (chC_one (yX,2))
 have HU32:Hid ((chC (yX,2))[32]? = some (.int .i64 2)):=Lib.hid (by unfold chC;rw [List.getElem?_append_right (by rw [idC_len,len0.2.2.1];omega),idC_len,len0.2.2.1];rfl)
 have h33:(Tryz.prog.info? 43).map (·.size) = some 33:=by kernel_rfl
 obtain ⟨uc,huc⟩:∃ uc,chC (yX,2) = uc:=⟨_,rfl⟩
 rw [huc] at hucl HUO HU32
 clear hzh
 go_wp2_with fail
 have hS0:w4.drew.rangeAt w1.heap.size 0 ur:=rangeAt_below HX4.out.range (Below.refl _ _).drew HX4.out.lt
 refine wp_region_L 9 (fun w' => w'.rangeAt w1.heap.size 0 ur) (by kernel_rfl) (by kernel_rfl) ?_
 refine WL.take (i:=0) (v:=?_) rfl (by kernel_rfl) (by decide) (by decide +kernel) (by decide +kernel) (fun _ _ _ h => h) rfl ?_ hS0 ?_
 rotate_left
 ·(intro w' hSw;(try dsimp only at hSw);go_simp;(try with_reducible rfl))
 simp only [Act.put];(try simp only [List.getElem_toArray]);(try simp only [List.getElem_cons_succ]);(try simp only [List.getElem_cons_zero]);(try simp only [List.setIfInBounds_toArray]);(try simp only [List.set_cons_succ]);(try simp only [List.set_cons_zero])
 refine WL.take (i:=2) (v:=_) rfl (by kernel_rfl) (by decide) (by decide +kernel) (by decide +kernel) (fun _ _ _ h => h) rfl (fun w' hSw => exec_row 27 _ (hSw) Tryz.underlying27 rfl h32r _ rfl rfl) hS0 ?_
 simp only [Act.put];(try simp only [List.getElem_toArray]);(try simp only [List.getElem_cons_succ]);(try simp only [List.getElem_cons_zero]);(try simp only [List.setIfInBounds_toArray]);(try simp only [List.set_cons_succ]);(try simp only [List.set_cons_zero])
 refine WL.two (i:=1) (k:=7) rfl rfl (by decide) (by decide) (by decide +kernel) ?_ ?_
 focus
  go_wp2_with fail
  refine (HOF.out w4.drew (HB4.out.drew)).mono ?_
  rintro e w5 ⟨r2,rfl,hsr,hb⟩
  have hb:=drew_below hb
  have HBQ:=Lib.hid hb
  have HSR:=Lib.hid hsr
  have hS:=(HX4.out.below HBQ.out).range
  clear hb hsr
  go_wp2
  refine ⟨hS,?_⟩
  refine WL.two (i:=3) (k:=7) rfl rfl (by decide) (by decide) (by decide +kernel) ?_ ?_
  focus
   have hfi:=pfind_any r2 (lastS l) HRI.out yR nmA w5 (HSR.out) hr32 (by decide) (HM1.out w5 (HB4.out.trans (HBQ.out.mono HB4.out.size)))
   unfold FiAns at hfi
   rw [HP0.out,HUR.out] at hfi
   have HFI:=Lib.hid hfi
   clear hfi
   go_wp2_with fail
   refine HFI.out.mono ?_
   rintro e w6 ⟨rfl,hb⟩
   have HBQ:=Lib.hid (HBQ.out.trans (hb.mono HBQ.out.size))
   have hS:=(HX4.out.below HBQ.out).range
   rw [huc]
   have HT:=Lib.hid (there_alloc w6 zh.toArray 43 (by simpa using hzhl))
   have hxq:=BoxL.new w6 43 zh
   clear hb
   go_wp2
   refine ⟨hS,?_⟩
   refine WL.take (i:=4) (v:=?_) rfl (by kernel_rfl) (by decide) (by decide +kernel) (by decide +kernel) (fun _ _ _ h => h) rfl ?_ hS ?_
   rotate_left
   ·(intro w' hSw;(try dsimp only at hSw);go_simp;(try with_reducible rfl))
   simp only [Act.put];(try simp only [List.getElem_toArray]);(try simp only [List.getElem_cons_succ]);(try simp only [List.getElem_cons_zero]);(try simp only [List.setIfInBounds_toArray]);(try simp only [List.set_cons_succ]);(try simp only [List.set_cons_zero])
   refine WL.take (i:=5) (v:=?_) rfl (by kernel_rfl) (by decide) (by decide +kernel) (by decide +kernel) (fun _ _ _ h => h) rfl ?_ hS ?_
   rotate_left
   ·(intro w' hSw;(try dsimp only at hSw);go_simp;(try with_reducible rfl))
   simp only [Act.put];(try simp only [List.getElem_toArray]);(try simp only [List.getElem_cons_succ]);(try simp only [List.getElem_cons_zero]);(try simp only [List.setIfInBounds_toArray]);(try simp only [List.set_cons_succ]);(try simp only [List.set_cons_zero])
   refine WL.take (i:=6) (v:=?_) rfl (by kernel_rfl) (by decide) (by decide +kernel) (by decide +kernel) (fun _ _ _ h => h) rfl ?_ hS ?_
   rotate_left
   ·(intro w' hSw;(try dsimp only at hSw);go_simp;(try with_reducible rfl))
   simp only [Act.put];(try simp only [List.getElem_toArray]);(try simp only [List.getElem_cons_succ]);(try simp only [List.getElem_cons_zero]);(try simp only [List.setIfInBounds_toArray]);(try simp only [List.set_cons_succ]);(try simp only [List.set_cons_zero])
   refine WL.one (i:=7) rfl (by decide) (by decide +kernel) ?_
   go_wp2
   have hS2:=(HX4.out.below (HBQ.out.alloc HBQ.out.size (.cells zh.toArray 43))).range
   refine ⟨hS2,?_⟩
   refine WL.one (i:=8) rfl (by decide) (by decide +kernel) ?_
   refine wpList_store_list rfl 43 _ _ rfl w6.heap.size 0 uc rfl rfl 33 hucl HT.out h33 HUO.out ?_
   obtain ⟨q,hq⟩:∃ q,q = w6.heap.size:=⟨_,rfl⟩
   obtain ⟨WE,hWE⟩:∃ WE,WE = (w6.alloc (.cells zh.toArray 43)).setCells w6.heap.size 0 uc:=⟨_,rfl⟩
   have HCX:Hid (BoxL WE w6.heap.size 43 uc):=Lib.hid (by rw [hWE];exact (hxq).set (by rw [hucl,hzhl]))
   have HBE:Hid (Below w4.heap.size w4 WE):=Lib.hid (by rw [hWE];exact below_setCells _ (HBQ.out.size) _ _ _ (HBQ.out.alloc HBQ.out.size _))
   have hSE:=(HX4.out.below HBE.out).range
   rw [← hWE]
   rw [← hq] at HCX ⊢
   clear hWE hq
   clear hxq HT HBQ HSR hS hS2
  rotate_left
  focus
   have HT:=Lib.hid (there_alloc w5 zh.toArray 43 (by simpa using hzhl))
   have hxq:=BoxL.new w5 43 zh
   go_wp2
   have hb6:Below w5.heap.size w5 (w5.alloc (.cells zh.toArray 43)):=(Below.refl _ _).alloc (Nat.le_refl _) _
   have hg5:w4.heap.size ≤ w5.heap.size:=HBQ.out.size
   have HBQ:=Lib.hid (HBQ.out.trans (hb6.mono HBQ.out.size))
   have HSR:=Lib.hid (HSR.out.below hb6)
   have hS2:=(HX4.out.below HBQ.out).range
   refine ⟨hS2,?_⟩
   refine WL.one (i:=3) rfl (by decide) (by decide +kernel) ?_
   have hfi:=pfind_any r2 (lastS l) HRI.out yR nmA (w5.alloc (.cells zh.toArray 43)) (HSR.out) hr32 (by decide) (HM1.out (w5.alloc (.cells zh.toArray 43)) (HB4.out.trans (HBQ.out.mono HB4.out.size)))
   unfold FiAns at hfi
   rw [HP0.out,HUR.out] at hfi
   have HFI:=Lib.hid hfi
   clear hfi
   go_wp2_with fail
   refine HFI.out.mono ?_
   rintro e w6 ⟨rfl,hb⟩
   have HBQ:=Lib.hid (HBQ.out.trans (hb.mono HBQ.out.size))
   have hS:=(HX4.out.below HBQ.out).range
   rw [huc]
   have hxq6:=hxq.below hb
   have HT6:=Lib.hid hxq6.there
   rw [hzhl] at HT6
   clear hb hb6
   go_wp2
   refine ⟨hS,?_⟩
   refine WL.take (i:=4) (v:=?_) rfl (by kernel_rfl) (by decide) (by decide +kernel) (by decide +kernel) (fun _ _ _ h => h) rfl ?_ hS ?_
   rotate_left
   ·(intro w' hSw;(try dsimp only at hSw);go_simp;(try with_reducible rfl))
   simp only [Act.put];(try simp only [List.getElem_toArray]);(try simp only [List.getElem_cons_succ]);(try simp only [List.getElem_cons_zero]);(try simp only [List.setIfInBounds_toArray]);(try simp only [List.set_cons_succ]);(try simp only [List.set_cons_zero])
   refine WL.take (i:=5) (v:=?_) rfl (by kernel_rfl) (by decide) (by decide +kernel) (by decide +kernel) (fun _ _ _ h => h) rfl ?_ hS ?_
   rotate_left
   ·(intro w' hSw;(try dsimp only at hSw);go_simp;(try with_reducible rfl))
   simp only [Act.put];(try simp only [List.getElem_toArray]);(try simp only [List.getElem_cons_succ]);(try simp only [List.getElem_cons_zero]);(try simp only [List.setIfInBounds_toArray]);(try simp only [List.set_cons_succ]);(try simp only [List.set_cons_zero])
   refine WL.take (i:=6) (v:=?_) rfl (by kernel_rfl) (by decide) (by decide +kernel) (by decide +kernel) (fun _ _ _ h => h) rfl ?_ hS ?_
   rotate_left
   ·(intro w' hSw;(try dsimp only at hSw);go_simp;(try with_reducible rfl))
   simp only [Act.put];(try simp only [List.getElem_toArray]);(try simp only [List.getElem_cons_succ]);(try simp only [List.getElem_cons_zero]);(try simp only [List.setIfInBounds_toArray]);(try simp only [List.set_cons_succ]);(try simp only [List.set_cons_zero])
   refine WL.one (i:=8) rfl (by decide) (by decide +kernel) ?_
   refine wpList_store_list rfl 43 _ _ rfl w5.heap.size 0 uc rfl rfl 33 hucl HT6.out h33 HUO.out ?_
   obtain ⟨q,hq⟩:∃ q,q = w5.heap.size:=⟨_,rfl⟩
   obtain ⟨WE,hWE⟩:∃ WE,WE = (w6).setCells w5.heap.size 0 uc:=⟨_,rfl⟩
   have HCX:Hid (BoxL WE w5.heap.size 43 uc):=Lib.hid (by rw [hWE];exact (hxq6).set (by rw [hucl,hzhl]))
   have HBE:Hid (Below w4.heap.size w4 WE):=Lib.hid (by rw [hWE];exact below_setCells _ (hg5) _ _ _ (HBQ.out))
   have hSE:=(HX4.out.below HBE.out).range
   rw [← hWE]
   rw [← hq] at HCX ⊢
   clear hWE hq
   clear hxq hxq6 HT HT6 HBQ HSR hS hS2 hg5
 rotate_left
 rotate_left
 focus
  have HT:=Lib.hid (there_alloc w4.drew zh.toArray 43 (by simpa using hzhl))
  have hxq:=BoxL.new w4.drew 43 zh
  go_wp2
  have HBQ:Hid (Below w4.heap.size w4 (w4.drew.alloc (.cells zh.toArray 43))):=Lib.hid ((Below.refl _ _).drew.alloc (Nat.le_refl _) _)
  have hS2:=(HX4.out.below HBQ.out).range
  refine ⟨hS2,?_⟩
  refine WL.one (i:=1) rfl (by decide) (by decide +kernel) ?_
  go_wp2_with fail
  refine (HOF.out (w4.drew.alloc (.cells zh.toArray 43)) (HB4.out.trans (HBQ.out.mono HB4.out.size))).mono ?_
  rintro e w5 ⟨r2,rfl,hsr,hb⟩
  have hxq5:=hxq.below hb
  have HBQ:=Lib.hid (HBQ.out.trans (hb.mono HBQ.out.size))
  have HSR:=Lib.hid hsr
  have hS:=(HX4.out.below HBQ.out).range
  clear hb hsr hxq
  go_wp2
  refine ⟨hS,?_⟩
  refine WL.one (i:=3) rfl (by decide) (by decide +kernel) ?_
  have hfi:=pfind_any r2 (lastS l) HRI.out yR nmA w5 (HSR.out) hr32 (by decide) (HM1.out w5 (HB4.out.trans (HBQ.out.mono HB4.out.size)))
  unfold FiAns at hfi
  rw [HP0.out,HUR.out] at hfi
  have HFI:=Lib.hid hfi
  clear hfi
  go_wp2_with fail
  refine HFI.out.mono ?_
  rintro e w6 ⟨rfl,hb⟩
  have HBQ:=Lib.hid (HBQ.out.trans (hb.mono HBQ.out.size))
  have hS:=(HX4.out.below HBQ.out).range
  rw [huc]
  have hxq6:=hxq5.below hb
  have HT6:=Lib.hid hxq6.there
  rw [hzhl] at HT6
  clear hb
  go_wp2
  refine ⟨hS,?_⟩
  refine WL.take (i:=4) (v:=?_) rfl (by kernel_rfl) (by decide) (by decide +kernel) (by decide +kernel) (fun _ _ _ h => h) rfl ?_ hS ?_
  rotate_left
  ·(intro w' hSw;(try dsimp only at hSw);go_simp;(try with_reducible rfl))
  simp only [Act.put];(try simp only [List.getElem_toArray]);(try simp only [List.getElem_cons_succ]);(try simp only [List.getElem_cons_zero]);(try simp only [List.setIfInBounds_toArray]);(try simp only [List.set_cons_succ]);(try simp only [List.set_cons_zero])
  refine WL.take (i:=5) (v:=?_) rfl (by kernel_rfl) (by decide) (by decide +kernel) (by decide +kernel) (fun _ _ _ h => h) rfl ?_ hS ?_
  rotate_left
  ·(intro w' hSw;(try dsimp only at hSw);go_simp;(try with_reducible rfl))
  simp only [Act.put];(try simp only [List.getElem_toArray]);(try simp only [List.getElem_cons_succ]);(try simp only [List.getElem_cons_zero]);(try simp only [List.setIfInBounds_toArray]);(try simp only [List.set_cons_succ]);(try simp only [List.set_cons_zero])
  refine WL.take (i:=6) (v:=?_) rfl (by kernel_rfl) (by decide) (by decide +kernel) (by decide +kernel) (fun _ _ _ h => h) rfl ?_ hS ?_
  rotate_left
  ·(intro w' hSw;(try dsimp only at hSw);go_simp;(try with_reducible rfl))
  simp only [Act.put];(try simp only [List.getElem_toArray]);(try simp only [List.getElem_cons_succ]);(try simp only [List.getElem_cons_zero]);(try simp only [List.setIfInBounds_toArray]);(try simp only [List.set_cons_succ]);(try simp only [List.set_cons_zero])
  refine WL.one (i:=8) rfl (by decide) (by decide +kernel) ?_
  refine wpList_store_list rfl 43 _ _ rfl w4.heap.size 0 uc rfl rfl 33 hucl HT6.out h33 HUO.out ?_
  obtain ⟨q,hq⟩:∃ q,q = w4.heap.size:=⟨_,rfl⟩
  obtain ⟨WE,hWE⟩:∃ WE,WE = (w6).setCells w4.heap.size 0 uc:=⟨_,rfl⟩
  have HCX:Hid (BoxL WE w4.heap.size 43 uc):=Lib.hid (by rw [hWE];exact (hxq6).set (by rw [hucl,hzhl]))
  have HBE:Hid (Below w4.heap.size w4 WE):=Lib.hid (by rw [hWE];exact below_setCells _ (Nat.le_refl _) _ _ _ (HBQ.out))
  have hSE:=(HX4.out.below HBE.out).range
  rw [← hWE]
  rw [← hq] at HCX ⊢
  clear hWE hq
  clear hxq5 hxq6 HT HT6 HBQ HSR hS hS2
 all_goals
  go_wp2
  refine ⟨hSE,?_⟩
  refine WL.last (n:=9) rfl rfl (by decide +kernel) (by decide +kernel) ?_
  obtain ⟨fg,foff,rfl,hfl,hfcs⟩:=HFC.out (by simp)
  have hf0:=hfcs 0 (by simp)
  have g1:=below_load hf0.1 HBE.out hfl
  have g2:=below_load hf0.2 HBE.out hfl
  have g3:WE.cell? ⟨q,32,none⟩ = some (.int .i64 2):=by have:=HCX.out.range 32 _ HU32.out;simpa using this
  simp only [List.getElem_cons_zero,Nat.zero_mul,Nat.add_zero] at g1 g2
  clear hfcs hf0
  go_wp2
  go_ret
  exact ⟨rfl,HBW1.out.trans ((HB4.out.trans (HBE.out.mono HB4.out.size)).mono HBW1.out.size)⟩
end Go.Proofs.YtmhjpmenngjmeaaGreatDoor
namespace Go.Proofs.YtmhjpmenngjmeaaGreatDoor
open Go.RowKit
set_option maxRecDepth 100000
structure StP (w0:World) (v:Value) (l:List Ob) (w:World):Prop where
 row:ObRow w v l
 ld:Laid w
 mx:MaxAt w
 bel:Below w0.heap.size w0 w
theorem StP.step {w0 w w':World} {v:Value} {l:List Ob} (h:StP w0 v l w) (hb:Below w.heap.size w w'):StP w0 v l w' :=
 ⟨h.row.below hb,h.ld.below hb,h.mx.below hb h.mx.lt,h.bel.trans (hb.mono h.bel.size)⟩
end Go.Proofs.YtmhjpmenngjmeaaGreatDoor
namespace Go.Proofs.YtmhjpmenngjmeaaGreatDoor
open Go.RowKit
set_option maxRecDepth 100000
theorem grGo_no:∀ (l:List Lf) (n:Nat),grGo l n = false → ∀ f ∈ l,f.1.size ≤ 300 ∧ f.2.size ≤ 12000
 | [],_,_,f,hf => by cases hf
 | x :: l,n,h,f,hf => by
  unfold grGo at h
  simp only [Bool.or_eq_false_iff,decide_eq_false_iff_not] at h
  rcases List.mem_cons.1 hf with rfl | hf
  ·exact ⟨by omega,by omega⟩
  ·exact grGo_no l _ h.2 f hf
theorem gr26_no {l:List Lf} (h:gr26 l = false):l.length ≤ 320 ∧ ∀ f ∈ l,f.1.size ≤ 300 ∧ f.2.size ≤ 12000:=by
 unfold gr26 at h
 simp only [Bool.or_eq_false_iff,decide_eq_false_iff_not] at h
 exact ⟨by omega,grGo_no l 0 h.2⟩
def BdIs (L:List Lf) (A:List Ob) (X:Idl) (n:Nat):Prop :=
 (300 < L.length ∧ A = [] ∧ X = zid ∧ n = 4) ∨ (L.length ≤ 300 ∧ ((∃ f ∈ L,pathOk f.1 = false) ∨ trS 8 L = none) ∧ A = [] ∧ X = zid ∧ n = 1) ∨
  (L.length ≤ 300 ∧ (∀ f ∈ L,pathOk f.1 = true) ∧ ∃ os M ids,trS 8 L = some (os,X) ∧ PutAll os (fun _ => none) M ∧ AscL ids ∧ (∀ q,q ∈ ids ↔ q ∈ os.map idO) ∧ A = ids.map (fun q => (M q).getD ob0) ∧ n = 0)
def RbIs (L:List Lf) (A:List Ob) (X:Idl) (n:Nat):Prop :=
 (300 < L.length ∧ A = [] ∧ X = zid ∧ n = 4) ∨ (L.length ≤ 300 ∧ ((∃ f ∈ L,pathOk f.1 = false) ∨ docT 8 L [] = none) ∧ A = [] ∧ X = zid ∧ n = 1) ∨
  (L.length ≤ 300 ∧ (∀ f ∈ L,pathOk f.1 = true) ∧ docT 8 L [] = some (A,X) ∧ n = 0)
theorem obRow_nil (w:World):ObRow w (.slice none 0 0) []:=⟨none,0,rfl,by simp,fun h => absurd rfl h⟩
theorem bd_shape {L:List Lf} {w w':World} {e:Ending} (h:BdAns L w e w'):∃ va A X,∃ n:Nat,e = .returned (.tuple #[va,.agg (idC X).toArray,.int .i64 (n:Int)]) ∧ ObRow w' va A ∧ X.length = 32 ∧ BdIs L A X n:=by
 obtain ⟨_,⟨h1,rfl⟩ | ⟨h1,h2,rfl⟩ | ⟨h1,h2,os,X,M,ids,v,h3,h4,h5,h6,rfl,h8⟩⟩:=h
 ·exact ⟨_,[],zid,4,rfl,obRow_nil _,zid_len,.inl ⟨h1,rfl,rfl,rfl⟩⟩
 ·exact ⟨_,[],zid,1,rfl,obRow_nil _,zid_len,.inr (.inl ⟨h1,h2,rfl,rfl,rfl⟩)⟩
 ·have hx:=trS_len 8 L
  rw [h3] at hx
  exact ⟨v,_,X,0,rfl,h8,hx,.inr (.inr ⟨h1,h2,os,M,ids,h3,h4,h5,h6,rfl,rfl⟩)⟩
theorem rb_shape {L:List Lf} {w w':World} {e:Ending} (h:RbAns L w e w'):∃ va A X,∃ n:Nat,e = .returned (.tuple #[va,.agg (idC X).toArray,.int .i64 (n:Int)]) ∧ ObRow w' va A ∧ X.length = 32 ∧ RbIs L A X n:=by
 obtain ⟨_,⟨h1,rfl⟩ | ⟨h1,h2,rfl⟩ | ⟨h1,h2,O,X,v,h3,h4,rfl,h6,_⟩⟩:=h
 ·exact ⟨_,[],zid,4,rfl,obRow_nil _,zid_len,.inl ⟨h1,rfl,rfl,rfl⟩⟩
 ·exact ⟨_,[],zid,1,rfl,obRow_nil _,zid_len,.inr (.inl ⟨h1,h2,rfl,rfl,rfl⟩)⟩
 ·exact ⟨v,O,X,0,rfl,h6,h4,.inr (.inr ⟨h1,h2,h3,rfl⟩)⟩
theorem builds_agree {L:List Lf} {A B:List Ob} {X Y:Idl} {n m:Nat} (ha:BdIs L A X n) (hb:RbIs L B Y m) (hc:clashB B = false):A = B ∧ X = Y ∧ n = m:=by
 have hok:=docT_ok 8 L []
 rcases ha with ⟨h1,rfl,rfl,rfl⟩ | ⟨h1,h2,rfl,rfl,rfl⟩ | ⟨h1,h2,os,M,ids,h3,h4,h5,h6,rfl,rfl⟩
 ·rcases hb with ⟨_,rfl,rfl,rfl⟩ | ⟨g1,_⟩ | ⟨g1,_⟩
  ·exact ⟨rfl,rfl,rfl⟩
  ·omega
  ·omega
 ·rcases hb with ⟨g1,_⟩ | ⟨_,_,rfl,rfl,rfl⟩ | ⟨_,g2,g3,_⟩
  ·omega
  ·exact ⟨rfl,rfl,rfl⟩
  ·rcases h2 with ⟨f,hf,h⟩ | h
   ·rw [g2 f hf] at h;cases h
   ·rw [hok.1 h] at g3;cases g3
 ·obtain ⟨out,k1,k2⟩:=hok.2 os X h3
  rcases hb with ⟨g1,_⟩ | ⟨_,g2,_⟩ | ⟨_,_,g3,rfl⟩
  ·omega
  ·rcases g2 with ⟨f,hf,h⟩ | h
   ·rw [h2 f hf] at h;cases h
   ·rw [h] at k1;cases k1
  ·rw [k1] at g3
   obtain ⟨rfl,rfl⟩:=Prod.mk.inj (Option.some.inj g3)
   have hr:∀ o ∈ out,rightOb o = true:=fun o ho => by
    rcases (k2.mem o).1 ho with h | h
    ·cases h
    ·exact trS_right 8 L os X h3 o h
   exact ⟨same_objs h4 h5 h6 k2 (oneId_of hr hc),rfl,rfl⟩
structure StL (w0:World) (v:Value) (L:List Lf) (w:World):Prop where
 row:LeafRow w v L
 ld:Laid w
 mx:MaxAt w
 bel:Below w0.heap.size w0 w
theorem StL.step {w0 w w':World} {v:Value} {L:List Lf} (h:StL w0 v L w) (hb:Below w.heap.size w w'):StL w0 v L w' :=
 ⟨h.row.below hb,h.ld.below hb,h.mx.below hb h.mx.lt,h.bel.trans (hb.mono h.bel.size)⟩
set_option maxHeartbeats 16000000 in
theorem pbuilds_walk (v:Value) (L:List Lf) (w:World) (hv:LeafRow w v L) (hL:Laid w) (hm:MaxAt w) (hz:∀ f ∈ L,f.2.size ≤ 1000000000000000) :
  Calls Tryz.prog 3 #[v] w fun e w' => e = .returned (.bool true) ∧ Below w.heap.size w w':=by
 have st:Hid (StL w v L w):=Lib.hid ⟨hv,hL,hm,Below.refl _ _⟩
 have HAL:=Lib.hid (fun W (h:StL w v L W) => alive26_any W h.ld h.mx)
 have HGR:=Lib.hid (fun W (h:StL w v L W) => great26_any v L W hz h.row)
 clear hL hv hm hz
 cases hg:gr26 L with
 | true =>
  rw [hg] at HGR
  clear hg
  go_enter Tryz.func3,Tryz.ntmps3
  go_wp2_with fail
  refine (HAL.out w st.out).mono ?_
  rintro e w1 ⟨rfl,hb1⟩
  have st1:=Lib.hid (st.out.step hb1)
  clear hb1
  go_wp2_with fail
  refine (HGR.out w1 st1.out).mono ?_
  rintro e w2 ⟨rfl,hb2⟩
  have st2:=Lib.hid (st1.out.step hb2)
  clear hb2
  go_wp2_with fail
  refine (HAL.out _ st2.out).mono ?_
  rintro e w3 ⟨rfl,hb3⟩
  have st3:=Lib.hid (st2.out.step hb3)
  clear hb3
  go_wp2
  go_ret
  exact ⟨rfl,st3.out.bel⟩
 | false =>
  rw [hg] at HGR
  obtain ⟨hl,hs⟩:=gr26_no hg
  have hpl:=putsN_le 8 L
  have HBD:=Lib.hid (fun W (h:StL w v L W) => build_any sortsTo_all v L W h.row h.ld h.mx (fun f hf => by have:=(hs f hf).1;omega) (fun _ => by omega) (fun _ => by omega))
  have HRB:=Lib.hid (fun W (h:StL w v L W) => rbuild_any v L W h.row (fun f hf => ⟨by have:=(hs f hf).1;omega,by have:=(hs f hf).2;omega⟩))
  clear hg hl hs hpl
  obtain ⟨hizz,hizb⟩:=id_zeroC
  have hzl:(idC zid).length = 32:=by rw [idC_len,zid_len]
  have HZO:=Lib.hid (idC_one zid)
  have h32i:(Tryz.prog.info? 27).map (·.size) = some 32:=by kernel_rfl
  generalize idC zid = uz at hizz hizb hzl HZO
  go_enter Tryz.func3,Tryz.ntmps3
  go_wp2_with fail
  refine (HAL.out w st.out).mono ?_
  rintro e w1 ⟨rfl,hb1⟩
  have st1:=Lib.hid (st.out.step hb1)
  clear hb1
  go_wp2_with fail
  refine (HGR.out w1 st1.out).mono ?_
  rintro e w2 ⟨rfl,hb2⟩
  have st2:=Lib.hid (st1.out.step hb2)
  clear hb2
  go_wp2_with fail
  refine (HBD.out w2 st2.out).mono ?_
  intro e w3 hans
  have hb3:=hans.1
  obtain ⟨va,A,X,n,rfl,hA,hX,hAI⟩:=bd_shape hans
  have st3:=Lib.hid (st2.out.step hb3)
  have HAI:=Lib.hid hAI
  have HXL:=Lib.hid hX
  have HXO:=Lib.hid (idC_one X)
  have hxl:(idC X).length = 32:=by rw [idC_len,hX]
  obtain ⟨ux,hux⟩:∃ ux,idC X = ux:=⟨_,rfl⟩
  rw [hux] at HXO hxl ⊢
  have HUX:=Lib.hid hux
  obtain ⟨W4,hW4⟩:∃ W4,(w3.alloc (.cells uz.toArray 27)).setCells w3.heap.size 0 ux = W4:=⟨_,rfl⟩
  have hb4:Below w3.heap.size w3 W4:=by rw [← hW4];exact below_setCells _ (Nat.le_refl _) _ _ _ ((Below.refl _ _).alloc (Nat.le_refl _) _)
  have HX4:Hid (BoxL W4 w3.heap.size 27 ux):=Lib.hid (by rw [← hW4];exact (BoxL.new w3 27 uz).set (by rw [hxl,hzl]))
  have HTH4:=Lib.hid (there_alloc w3 uz.toArray 27 (by simpa using hzl))
  have st4:=Lib.hid (st3.out.step hb4)
  have HA4:=Lib.hid (hA.below hb4)
  have HW4:=Lib.hid hW4
  have h32x:(Tryz.prog.info? 27).map (·.size) = some ux.length:=by rw [hxl];exact h32i
  clear hans hb3 hA hX hAI hux hW4 hb4
  go_wp2_with (refine wpList_store_list rfl 27 _ _ rfl w3.heap.size 0 ux rfl rfl 32 hxl HTH4.out h32i HXO.out ?_;rw [HW4.out])
  refine (HRB.out W4 st4.out).mono ?_
  intro e w5 hans
  have hb5:=hans.1
  obtain ⟨vb,B,Y,m,rfl,hB,hY,hBI⟩:=rb_shape hans
  have HX5:=Lib.hid (HX4.out.below hb5)
  have HA5:=Lib.hid (HA4.out.below hb5)
  have st5:=Lib.hid (st4.out.step hb5)
  have HBI:=Lib.hid hBI
  have HYL:=Lib.hid hY
  have HYO:=Lib.hid (idC_one Y)
  have hyl:(idC Y).length = 32:=by rw [idC_len,hY]
  obtain ⟨uy,huy⟩:∃ uy,idC Y = uy:=⟨_,rfl⟩
  rw [huy] at HYO hyl ⊢
  have HUY:=Lib.hid huy
  obtain ⟨W6,hW6⟩:∃ W6,(w5.alloc (.cells uz.toArray 27)).setCells w5.heap.size 0 uy = W6:=⟨_,rfl⟩
  have hb6:Below w5.heap.size w5 W6:=by rw [← hW6];exact below_setCells _ (Nat.le_refl _) _ _ _ ((Below.refl _ _).alloc (Nat.le_refl _) _)
  have HY6:Hid (BoxL W6 w5.heap.size 27 uy):=Lib.hid (by rw [← hW6];exact (BoxL.new w5 27 uz).set (by rw [hyl,hzl]))
  have HTH6:=Lib.hid (there_alloc w5 uz.toArray 27 (by simpa using hzl))
  have st6:=Lib.hid (st5.out.step hb6)
  have HX6:=Lib.hid (HX5.out.below hb6)
  have HA6:=Lib.hid (HA5.out.below hb6)
  have HB6:=Lib.hid (hB.below hb6)
  have HW6:=Lib.hid hW6
  have h32y:(Tryz.prog.info? 27).map (·.size) = some uy.length:=by rw [hyl];exact h32i
  clear hans hb5 hB hY hBI huy hW6 hb6
  go_wp2_with (refine wpList_store_list rfl 27 _ _ rfl w5.heap.size 0 uy rfl rfl 32 hyl HTH6.out h32i HYO.out ?_;rw [HW6.out])
  refine (HAL.out W6 st6.out).mono ?_
  rintro e w7 ⟨rfl,hb7⟩
  have st7:=Lib.hid (st6.out.step hb7)
  have HX7:=Lib.hid (HX6.out.below hb7)
  have HY7:=Lib.hid (HY6.out.below hb7)
  have HA7:=Lib.hid (HA6.out.below hb7)
  have HB7:=Lib.hid (HB6.out.below hb7)
  have HCL:=Lib.hid (clash26_any vb B w7 HB7.out)
  clear hb7
  go_wp2_with fail
  refine HCL.out.mono ?_
  rintro e w8 ⟨rfl,hb8⟩
  have st8:=Lib.hid (st7.out.step hb8)
  have HX8:=Lib.hid (HX7.out.below hb8)
  have HY8:=Lib.hid (HY7.out.below hb8)
  have HA8:=Lib.hid (HA7.out.below hb8)
  have HB8:=Lib.hid (HB7.out.below hb8)
  clear hb8
  cases hc:clashB B with
  | true =>
   clear hc
   go_wp2_with fail
   go_ret
   exact ⟨rfl,st8.out.bel⟩
  | false =>
   obtain ⟨rfl,rfl,rfl⟩:=builds_agree HAI.out HBI.out hc
   obtain rfl:ux = uy:=by rw [← HUX.out,← HUY.out]
   have HSO:=Lib.hid (rsameobjs_any va vb A w8 HA8.out HB8.out)
   clear hc
   go_wp2_with fail
   refine HSO.out.mono ?_
   rintro e w9 ⟨rfl,hb9⟩
   have st9:=Lib.hid (st8.out.step hb9)
   have r1:=(HX8.out.below hb9).range
   have r2:=(HY8.out.below hb9).range
   have heq:∀ w,(Op.equalIn 10000 27 (.agg ux.toArray) (.agg ux.toArray)).run Tryz.prog w = .ok true w:=fun w => by
    rw [← HUX.out];exact id_eqIn_yes HXL.out rfl w
   have hnn:((n:Int) == n) = true:=by simp
   clear hb9
   go_wp2_with (first
    | (refine wpList_load_mid_g rfl 27 _ rfl w3.heap.size 0 rfl ux _ r1 Tryz.underlying27 rfl h32x ?_)
    | (refine wpList_load_mid_g rfl 27 _ rfl w5.heap.size 0 rfl ux _ r2 Tryz.underlying27 rfl h32x ?_))
   go_ret
   exact ⟨rfl,st9.out.bel⟩
end Go.Proofs.YtmhjpmenngjmeaaGreatDoor
