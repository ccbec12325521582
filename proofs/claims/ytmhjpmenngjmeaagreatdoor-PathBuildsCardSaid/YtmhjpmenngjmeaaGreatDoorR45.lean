/- YtmhjpmenngjmeaaGreatDoorR45: texts BU, PO, BD, BE, BF, BH, BI, BG of this claim, in one. -/
import Derived.Test.YtmhjpmenngjmeaaGreatDoorR29
import Derived.Test.YtmhjpmenngjmeaaGreatDoorR33
import Derived.Test.YtmhjpmenngjmeaaGreatDoorR34
import Derived.Test.YtmhjpmenngjmeaaGreatDoorR41
import Derived.Test.YtmhjpmenngjmeaaGreatDoorR44
namespace Go.Proofs.YtmhjpmenngjmeaaGreatDoor
open Go.RowKit Go.Maps
set_option maxRecDepth 100000
theorem nms_pos (s:ByteArray):1 ≤ (nms s).length:=by
 unfold nms
 rw [List.length_map]
 exact List.length_pos_iff.2 (spl_ne _)
theorem btree_any {N:Nat} (hN:SortsTo N) (pb b:Nat) (hb5:5 ≤ b ∧ 0 < b):∀ (k n:Nat) (M:Idl → Option Ob) (v:Value) (L:List Lf) (w:World),BldAt pb b n M w → LeafRow w v L → Laid w → MaxAt w →
  (∀ f ∈ L,f.1.size ≤ 1000 ∧ (nms f.1).length ≤ k + 1) → L.length ≤ N → L.length ≤ 400 → n + putsN (k + 1) L < 1000000 →
  Calls Tryz.prog 14 #[.pointer (some ⟨pb,0,none⟩),v] w (TrAns (k + 1) pb b n M L w)
 | k,n,M,v,L,w,h,hv,hL,hm,hsz,hl,hl4,hn => by
  refine btree_step k hN pb b n M v L w hb5 h hv hL hm (fun f hf => (hsz f hf).1) hl hl4 hn ?_
  intro d hd v' n' M' W h' hv' hL' hm' hn'
  cases k with
  | zero =>
   exfalso
   obtain ⟨f,hf,r,hc⟩:=dirs_from hd
   have h1:=(hsz f hf).2
   rw [(cutS_some hc).2.2,List.length_cons] at h1
   have:=nms_pos r
   omega
  | succ k =>
   have hul:(underOf d L).length ≤ L.length:=by unfold underOf;exact List.length_filterMap_le _ _
   refine btree_any hN pb b hb5 k n' M' v' (underOf d L) W h' hv' hL' hm' (fun x hx => ?_) (by omega) (by omega) hn'
   obtain ⟨f,hf,hc,_⟩:=under_from hx
   obtain ⟨_,h2,h3⟩:=cutS_some hc
   have h1:=hsz f hf
   rw [h3,List.length_cons] at h1
   exact ⟨by omega,by omega⟩
theorem objs_len:∀ (k:Nat) (L:List Lf),((trS k L).getD ([],zid)).1.length ≤ putsN k L
 | 0,L => Nat.le_refl 0
 | k + 1,L => by
  unfold trS
  split
  ·show (objsB (trS k) L).length ≤ (blobsOf L).length + ((dirsOf L).map fun d => putsN k (underOf d L)).sum + 1
   have h:∀ l:List ByteArray,(l.flatMap fun d => ((trS k (underOf d L)).getD ([],zid)).1).length ≤ (l.map fun d => putsN k (underOf d L)).sum:=fun l => by
    induction l with
    | nil => exact Nat.le_refl 0
    | cons d l ih =>
     rw [List.flatMap_cons,List.length_append,List.map_cons,List.sum_cons]
     have:=objs_len k (underOf d L)
     omega
   have:=h (dirsOf L)
   unfold objsB
   rw [List.length_append,List.length_append,List.length_map]
   simp only [List.length_cons,List.length_nil]
   omega
  ·exact Nat.zero_le _
theorem dedup_ex:∀ l:List Idl,∃ m:List Idl,m.Nodup ∧ (∀ q,q ∈ m ↔ q ∈ l) ∧ m.length ≤ l.length
 | [] => ⟨[],by simp,by simp,by simp⟩
 | x :: l => by
  obtain ⟨m,h1,h2,h3⟩:=dedup_ex l
  by_cases h:x ∈ m
  ·refine ⟨m,h1,fun q => ?_,by rw [List.length_cons];omega⟩
   rw [h2,List.mem_cons]
   exact ⟨.inr,fun hq => hq.elim (fun e => by subst e;exact (h2 _).1 h) id⟩
  ·exact ⟨x :: m,List.nodup_cons.2 ⟨h,h1⟩,fun q => by rw [List.mem_cons,List.mem_cons,h2],by simp [h3]⟩
theorem PutAll.keys {os:List Ob} {M:Idl → Option Ob} (h:PutAll os (fun _ => none) M) (q:Idl):(M q).isSome = true ↔ q ∈ os.map idO:=by
 rw [List.mem_map]
 rcases h q with ⟨o,ho,h1,h2⟩ | ⟨h1,h2⟩
 ·rw [h2];exact ⟨fun _ => ⟨o,ho,h1⟩,fun _ => rfl⟩
 ·rw [h2]
  constructor
  ·intro h;cases h
  ·rintro ⟨o,ho,e⟩;exact absurd e (h1 o ho)
def bad (n:Nat):Ending:=.returned (.tuple #[.slice none 0 0,.agg (idC zid).toArray,.int .i64 (n:Int)])
def BdAns (L:List Lf) (w:World) (e:Ending) (w':World):Prop:=Below w.heap.size w w' ∧
 ((300 < L.length ∧ e = bad 4) ∨ (L.length ≤ 300 ∧ ((∃ f ∈ L,pathOk f.1 = false) ∨ trS 8 L = none) ∧ e = bad 1) ∨
  (L.length ≤ 300 ∧ (∀ f ∈ L,pathOk f.1 = true) ∧ ∃ os x M ids v,trS 8 L = some (os,x) ∧ PutAll os (fun _ => none) M ∧ AscL ids ∧ (∀ q,q ∈ ids ↔ q ∈ os.map idO) ∧
   e = .returned (.tuple #[v,.agg (idC x).toArray,.int .i64 0]) ∧ ObRow w' v (ids.map fun q => (M q).getD ob0)))
theorem ret_tct {P:Program} {fn:Func} {R:Ending → World → Prop} {a:Act} {w:World} {p q r:Tmp} {ty:TypeId} (h:fn.results = #[.tmp p,.cell q ty,.tmp r]) (b o:Nat)
  (hp:a.tmps.getD q undef = .pointer (some ⟨b,o,none⟩)) (cs:List Value) (d:TypeDesc) (hc:w.rangeAt b o cs)
  (hu:P.underlying ty = some d) (hd:d.isRow = true) (hi:(P.info? ty).map (·.size) = some cs.length) (hdef:a.defers = []) (u v:Value) (hq:a.tmps.getD p undef = u) (hr:a.tmps.getD r undef = v) (hR:R (.returned (.tuple #[u,.agg cs.toArray,v])) w):bodyPost P fn R .ret a w:=by
 refine bodyPost_ret (v:=.tuple #[u,.agg cs.toArray,v]) ?_ hdef hR
 have:=run_loadVar_mid (P:=P) w b o ty cs d hc hu hd hi
 simp only [results,h]
 rw [Array.getD_eq_getD_getElem?] at hp hq hr
 simp [asAddr,hp,hq,hr,this]
theorem exec_look1 {P:Program} {w:World} {a:Act} {op:Oper} (t:TypeId) (m x:Operand) (hop:op.op = .lookup t m x false) (mv xv v:Value) (hm:a.eval m = mv) (hx:a.eval x = xv) (h:(Instr.lookup t mv xv false).run P w = .ok v w):(execOp a.eval op).run P w = .ok (.value v) w:=by
 simp [execOp,hop,hm,hx,h,Result.andThen]
theorem obj_info:∃ i0:TypeInfo,Tryz.prog.info? 59 = some i0 ∧ i0.zero = some (.agg #[.int .i64 0,.string ⟨#[]⟩]) ∧ i0.size = 2 ∧ i0.bytes = 24:=⟨_,rfl,by kernel_rfl,by kernel_rfl,by kernel_rfl⟩
structure Bd2 (W4:World) (b n3:Nat) (M3:Idl → Option Ob) (K:List Idl) (o:Value) (dn Lr:List Idl) (wr:World):Prop where
 perm:(dn ++ Lr).Perm K
 ids:OwnQ wr (W4.heap.size + 1) 32 o dn.length (idsF dn)
 rng:RangeG encO wr b W4.heap.size n3 M3 Lr
 bel:Below W4.heap.size W4 wr
set_option maxHeartbeats 8000000 in
theorem build_any {N:Nat} (hN:SortsTo N) (v:Value) (L:List Lf) (w:World) (hv:LeafRow w v L) (hL:Laid w) (hm:MaxAt w) (hsz:∀ f ∈ L,f.1.size ≤ 1000) (hlen:L.length ≤ 300 → L.length ≤ N) (hput:L.length ≤ 300 → putsN 8 L < 1000000) :
  Calls Tryz.prog 6 #[v] w (BdAns L w):=by
 obtain ⟨hizz,hizb⟩:=id_zeroC
 obtain ⟨W,hW⟩:∃ W,w.alloc (.cells (idC zid).toArray 27) = W:=⟨_,rfl⟩
 have hbW:Below w.heap.size w W:=by rw [← hW];exact (Below.refl _ _).alloc (Nat.le_refl _) _
 have hbx:BoxL W w.heap.size 27 (idC zid):=by rw [← hW];exact BoxL.new w 27 (idC zid)
 have hzl:(idC zid).length = 32:=by rw [idC_len,zid_len]
 obtain ⟨ao,cap,rfl,hmax,hcells⟩:=hv.open
 unfold maxLen at hmax
 have HV:=Lib.hid hcells
 have HLF:=Lib.hid hv
 have HW:=Lib.hid hW
 have HL:=Lib.hid hL
 have HM:=Lib.hid hm
 have HSZ:=Lib.hid hsz
 have HBW:=Lib.hid hbW
 have HBX:=Lib.hid hbx
 have HLEN:=Lib.hid hlen
 have HPUT:=Lib.hid hput
 have HZO:=Lib.hid (idC_one zid)
 have hmm:=@run_makeMap Tryz.prog
 have h32i:(Tryz.prog.info? 27).map (·.size) = some 32:=by kernel_rfl
 clear hW hL hm hsz hcells hv hbW hbx hlen hput
 generalize huz:idC zid = uz at hizz hizb HW hzl HBX HZO
 have h32z:(Tryz.prog.info? 27).map (·.size) = some uz.length:=by rw [hzl];exact h32i
 go_enter Tryz.func6,Tryz.ntmps6
 go_upto_region 1 with fail
 rw [HW.out]
 by_cases h300:(300:Int) < L.length
 ·have d3:decide ((300:Int) < L.length) = true:=decide_eq_true h300
  have HT:=Lib.hid HBX.out.there
  rw [hzl] at HT
  have hr:=(HBX.out.set (us:=uz) rfl).range
  have HB:=Lib.hid (below_setCells (B:=w.heap.size) w.heap.size (Nat.le_refl _) uz 0 _ HBW.out)
  go_wp2_with (refine wpList_store_list rfl 27 _ _ rfl w.heap.size 0 uz rfl rfl 32 hzl HT.out h32i HZO.out ?_)
  refine ret_tct rfl w.heap.size 0 rfl uz _ hr Tryz.underlying27 rfl h32z rfl _ _ rfl rfl ?_
  exact ⟨HB.out,.inl ⟨by omega,by unfold bad;rw [huz];rfl⟩⟩
 ·have d3:decide ((300:Int) < L.length) = false:=decide_eq_false h300
  have hl3:L.length ≤ 300:=by omega
  go_upto_region 4 with fail
  go_loopw [21] (fun i wr => ∃ j:Nat,i = .int .i64 (j:Int) ∧ j ≤ L.length ∧ (∀ f ∈ L.take j,pathOk f.1 = true) ∧ Below W.heap.size W wr) (fun i _ => (L.length - intOf i).toNat)
  case atStart => exact ⟨0,rfl,by omega,by simp,Below.refl _ _⟩
  case round =>
   obtain ⟨wo,rfl⟩:∃ wo:World,wo = wr:=⟨_,rfl⟩
   obtain ⟨i,rfl,hi,hok,hb⟩:=hrel
   have HOK:=Lib.hid hok
   have HB:=Lib.hid hb
   have hszo:=hb.size
   have hsW:=HBX.out.lt
   clear hok hb
   by_cases hlt:i < L.length
   ·obtain ⟨g,off,rfl,hgl,hcell⟩:=HV.out (by intro e;rw [e] at hlt;simp at hlt)
    obtain ⟨f,hf⟩:∃ f,L[i] = f:=⟨_,rfl⟩
    have hbwo:Below w.heap.size w wo:=HBW.out.trans (HB.out.mono HBW.out.size)
    have f1:=below_load (hcell i hlt).1 hbwo hgl
    have f2:=below_load (hcell i hlt).2 hbwo hgl
    rw [hf] at f1 f2
    have HTK:Hid (L.take (i + 1) = L.take i ++ [f]):=Lib.hid (by rw [take_snoc L i hlt,hf])
    have HFL:Hid (f ∈ L):=Lib.hid (by rw [← hf];exact List.getElem_mem hlt)
    have hfs:=HSZ.out f HFL.out
    have k0:(0:Int) ≤ i:=by omega
    have k1:(i:Int) < L.length:=by omega
    have d1:decide ((i:Int) < L.length) = true:=decide_eq_true k1
    have HI:=Lib.hid hi
    obtain ⟨p,q⟩:=f
    dsimp only at f1 f2 hfs
    obtain ⟨W5,hW5⟩:∃ W5,wo.alloc (.cells #[.string p,.string q] 36) = W5:=⟨_,rfl⟩
    have hb5':Below wo.heap.size wo W5:=by rw [← hW5];exact (Below.refl _ _).alloc (Nat.le_refl _) _
    have hbx5:BoxL W5 wo.heap.size 36 [.string p,.string q]:=by rw [← hW5];exact BoxL.new _ _ _
    have c1:W5.cell? ⟨wo.heap.size,0,none⟩ = some (.string p):=by have:=hbx5.range 0 _ rfl;simpa using this
    have hmx:=HM.out.below hbwo HM.out.lt
    have HIP:=Lib.hid (ispath_any p W5 hfs (hmx.below hb5' hmx.lt))
    have HB5:=Lib.hid (HB.out.trans (hb5'.mono HB.out.size))
    have HW5:=Lib.hid hW5
    clear hcell hf hi hb5' hbx5 hW5 hbwo hmx
    go_upto_region 6 with fail
    rw [HW5.out]
    go_wp2_with fail
    refine HIP.out.mono ?_
    rintro e w6 ⟨rfl,hb6⟩
    have HB6:=Lib.hid (HB5.out.trans (hb6.mono HB5.out.size))
    clear hb6 c1
    cases hp:pathOk p with
    | false =>
     have HNO:Hid (∃ f ∈ L,pathOk f.1 = false):=Lib.hid ⟨_,HFL.out,hp⟩
     have hx6:=HBX.out.below HB6.out
     have HT:=Lib.hid hx6.there
     rw [hzl] at HT
     have hr:=(hx6.set (us:=uz) rfl).range
     have HBF:=Lib.hid (below_setCells (B:=w.heap.size) w.heap.size (Nat.le_refl _) uz 0 _ (HBW.out.trans (HB6.out.mono HBW.out.size)))
     clear hp hx6
     go_wp2_with (refine wpList_store_list rfl 27 _ _ rfl w.heap.size 0 uz rfl rfl 32 hzl HT.out h32i HZO.out ?_)
     refine ret_tct rfl w.heap.size 0 rfl uz _ hr Tryz.underlying27 rfl h32z rfl _ _ rfl rfl ?_
     exact ⟨HBF.out,.inr (.inl ⟨hl3,.inl HNO.out,by unfold bad;rw [huz];rfl⟩)⟩
    | true =>
     have HEND:Hid (∀ f ∈ L.take (i + 1),pathOk f.1 = true):=Lib.hid (fun f hf => by
      rw [HTK.out] at hf
      rcases List.mem_append.1 hf with hf | hf
      ·exact HOK.out f hf
      ·rw [List.mem_singleton.1 hf];exact hp)
     clear hp
     go_wp2
     go_roundw
     case rel => exact ⟨i + 1,by go_num,by have:=HI.out;omega,HEND.out,HB6.out⟩
     case measure => simp [intOf];omega
   ·obtain rfl:i = L.length:=by omega
    have d1:decide ((L.length:Int) < L.length) = false:=decide_eq_false (by omega)
    have hbwo:Below w.heap.size w wo:=HBW.out.trans (HB.out.mono HBW.out.size)
    have HOKA:Hid (∀ f ∈ L,pathOk f.1 = true):=Lib.hid (by have:=HOK.out;rwa [List.take_length] at this)
    obtain ⟨W2,hW2⟩:∃ W2,(wo.alloc (.map #[] 0)).alloc (.cells #[.map (some wo.heap.size)] 50) = W2:=⟨_,rfl⟩
    have hb2:Below wo.heap.size wo W2:=by rw [← hW2];exact ((Below.refl _ _).alloc (Nat.le_refl _) _).alloc (by simp) _
    have hbld:BldAt (wo.heap.size + 1) wo.heap.size 0 (fun _ => none) W2:=by
     have h1:=mapG_made (enc:=encO) wo
     have h2:=BoxL.new (wo.alloc (.map #[] 0)) 50 [.map (some wo.heap.size)]
     rw [World.size_alloc] at h2
     have h3:=h1.on ((Below.refl _ _).alloc (Nat.le_refl _) (.cells [Value.map (some wo.heap.size)].toArray 50))
     rw [show (wo.alloc (.map #[] 0)).alloc (.cells [Value.map (some wo.heap.size)].toArray 50) = W2 from hW2] at h2 h3
     exact ⟨by have:=h2.range 0 _ rfl;simpa using this,h3⟩
    have hbw2:Below w.heap.size w W2:=hbwo.trans (hb2.mono hbwo.size)
    have hb5:5 ≤ wo.heap.size ∧ 0 < wo.heap.size:=by
     have h1:=HL.out.lt
     have h2:=HM.out.lt
     have h3:=hbwo.size
     omega
    have htree:=btree_any hN (wo.heap.size + 1) wo.heap.size hb5 7 0 (fun _ => none) (.slice ao L.length cap) L W2 hbld (HLF.out.below hbw2) (HL.out.below hbw2) (HM.out.below hbw2 HM.out.lt) (fun f hf => ⟨HSZ.out f hf,by
     have:=HOKA.out f hf
     unfold pathOk at this
     simp only [Bool.and_eq_true,decide_eq_true_eq] at this
     exact this.2⟩) (HLEN.out hl3) (by omega) (by have:=HPUT.out hl3;show 0 + putsN 8 L < 1000000;omega)
    have HTREE:=Lib.hid htree
    have HBLD:=Lib.hid hbld
    have HB2:=Lib.hid (HB.out.trans (hb2.mono HB.out.size))
    have HBW2:=Lib.hid hbw2
    have HW2:=Lib.hid hW2
    have hs2:wo.heap.size + 2 = W2.heap.size:=by rw [← hW2];simp
    clear hbwo hb2 hbld hbw2 htree hW2
    go_upto_region 10 with fail
    rw [HW2.out]
    go_wp2_with fail
    refine HTREE.out.mono ?_
    rintro e w3 ⟨hg3,n3,M3,hb3,hn3,⟨ht,rfl⟩ | ⟨os,x,ht,rfl,hp3⟩⟩
    ·have hbw3:Below W.heap.size W w3:=HB2.out.grown hg3 (by have:=HB2.out.size;omega) (fun j e => by have:=Option.some.inj e;omega)
     have hx3:=HBX.out.below hbw3
     obtain ⟨W4,hW4⟩:∃ W4,(w3.alloc (.cells uz.toArray 27)).setCells w3.heap.size 0 uz = W4:=⟨_,rfl⟩
     have hx3l:=hx3.lt
     have hx4:BoxL W4 w.heap.size 27 uz:=by rw [← hW4];exact (hx3.below ((Below.refl _ _).alloc (Nat.le_refl _) _)).other (by omega)
     have hb34:Below w3.heap.size w3 W4:=by rw [← hW4];exact below_setCells _ (Nat.le_refl _) _ _ _ ((Below.refl _ _).alloc (Nat.le_refl _) _)
     have HTH4:=Lib.hid (there_alloc w3 uz.toArray 27 (by simpa using hzl))
     have HT:=Lib.hid hx4.there
     rw [hzl] at HT
     have hr:=(hx4.set (us:=uz) rfl).range
     have hbw4:=hbw3.trans (hb34.mono hbw3.size)
     have HBF:=Lib.hid (below_setCells (B:=w.heap.size) w.heap.size (Nat.le_refl _) uz 0 _ (HBW.out.trans (hbw4.mono HBW.out.size)))
     have HW4:=Lib.hid hW4
     have HTN:=Lib.hid ht
     rw [huz]
     clear hbw3 hx3 hx3l hx4 hb34 hW4 hbw4 ht hg3 hb3 hn3
     go_wp2_with (first
      | (refine wpList_store_list rfl 27 _ _ rfl w3.heap.size 0 uz rfl rfl 32 hzl HTH4.out h32i HZO.out ?_;rw [HW4.out])
      | (refine wpList_store_list rfl 27 _ _ rfl w.heap.size 0 uz rfl rfl 32 hzl HT.out h32i HZO.out ?_))
     refine ret_tct rfl w.heap.size 0 rfl uz _ hr Tryz.underlying27 rfl h32z rfl _ _ rfl rfl ?_
     exact ⟨HBF.out,.inr (.inl ⟨hl3,.inr HTN.out,by unfold bad;rw [huz];rfl⟩)⟩
    ·have hg3s:w.heap.size < w3.heap.size:=by have h1:=hg3.size;have h2:=HBW2.out.size;omega
     have hbw3:Below W.heap.size W w3:=HB2.out.grown hg3 (by have:=HB2.out.size;omega) (fun j e => by have:=Option.some.inj e;omega)
     have hxid:x.length = 32:=by have:=trS_len 8 L;rw [ht] at this;exact this
     obtain ⟨K,hKn,hKm,hKl⟩:=dedup_ex (os.map idO)
     have hosl:os.length < 1000000:=by
      have h1:=objs_len 8 L
      rw [ht] at h1
      have h2:=HPUT.out hl3
      exact Nat.lt_of_le_of_lt h1 h2
     rw [List.length_map] at hKl
     have hK32:∀ q ∈ K,q.length = 32:=fun q hq => by
      obtain ⟨o,_,rfl⟩:=List.mem_map.1 ((hKm q).1 hq)
      exact idO_len o
     have hxl:(idC x).length = 32:=by rw [idC_len,hxid]
     have HXO:=Lib.hid (idC_one x)
     obtain ⟨ux,hux⟩:∃ ux,idC x = ux:=⟨_,rfl⟩
     rw [hux] at hxl HXO ⊢
     obtain ⟨W4,hW4⟩:∃ W4,(w3.alloc (.cells uz.toArray 27)).setCells w3.heap.size 0 ux = W4:=⟨_,rfl⟩
     have hx4:BoxL W4 w3.heap.size 27 ux:=by rw [← hW4];exact (BoxL.new w3 27 uz).set (by rw [hxl,hzl])
     have hb34:Below w3.heap.size w3 W4:=by rw [← hW4];exact below_setCells _ (Nat.le_refl _) _ _ _ ((Below.refl _ _).alloc (Nat.le_refl _) _)
     have HTH4:=Lib.hid (there_alloc w3 uz.toArray 27 (by simpa using hzl))
     have HX4:=Lib.hid hx4
     have HB4:=Lib.hid (hbw3.trans (hb34.mono hbw3.size))
     have hbd4:=hb3.below hb34
     have HBD4:=Lib.hid hbd4
     have HW4:=Lib.hid hW4
     have HKN:=Lib.hid hKn
     have HKM:=Lib.hid hKm
     have HK32:=Lib.hid hK32
     have HTS:=Lib.hid ht
     have HUX:=Lib.hid hux
     have HP3:=Lib.hid hp3
     have HKS:Hid (∀ q:Idl,q.length = 32 → ((M3 q).isSome = true ↔ q ∈ K)):=Lib.hid (fun q _ => by rw [hKm];exact hp3.keys q)
     have c4:=hbd4.ptr
     have HMP:=Lib.hid hbd4.map
     have hn3':n3 ≤ 1000000:=by
      have h2:=HPUT.out hl3
      have h3:n3 ≤ 0 + putsN 8 L:=hn3
      omega
     clear hbw3 hKn hKm hK32 hW4 hx4 hb34 ht hg3 hb3 hn3 hux hbd4 hp3
     go_wp2_with (first
      | (refine wpList_store_list rfl 27 _ _ rfl w3.heap.size 0 ux rfl rfl 32 hxl HTH4.out h32i HXO.out ?_;rw [HW4.out])
      | (refine wpList_range_G (enc:=encO) rfl (.tmp 46) 48 59 rfl Tryz.underlying48 wo.heap.size n3 M3 K rfl HMP.out HKN.out HK32.out HKS.out ?_))
     intro w5 hrg5 hg5 hs5
     have HS2:Hid (Bd2 W4 wo.heap.size n3 M3 K (.slice none 0 0) [] K w5):=Lib.hid ⟨by simp,ownQ_nil _ _ _,hrg5,((Below.refl _ _).grown hg5 (Nat.le_refl _) (fun j e => by cases e))⟩
     clear hrg5 hg5 hs5 c4
     go_upto_region 15 with fail
     go_loopw [10] (fun o wr => ∃ dn Lr,Bd2 W4 wo.heap.size n3 M3 K o dn Lr wr) (fun _ wr => wr.rangeLeft wo.heap.size W4.heap.size)
     case atStart => exact ⟨[],K,HS2.out⟩
     case round =>
      obtain ⟨wl,rfl⟩:∃ wl:World,wl = wr:=⟨_,rfl⟩
      obtain ⟨dn,Lr,hst⟩:=hrel
      have HT:=Lib.hid hst
      have hrg:=hst.rng
      have hszl:=hst.bel.size
      clear hst
      go_wp2_with (refine wpList_next_G (enc:=encO) rfl _ rfl wo.heap.size W4.heap.size n3 M3 Lr rfl hrg ?_ ?_)
      ·intro hL0
       subst hL0
       have hst:=HT.out
       have hpm:=hst.perm
       rw [List.append_nil] at hpm
       have hd32:∀ y ∈ dn,y.length = 32:=fun y hy => HK32.out y (hpm.mem_iff.1 hy)
       have hdl:dn.length ≤ 1000000:=by rw [hpm.length_eq];omega
       have hsort:=bsort_any (W4.heap.size + 1) u10 dn wl hst.ids hd32 (hpm.nodup_iff.2 HKN.out) hdl
       have HSORT:=Lib.hid hsort
       have HPM:=Lib.hid hpm
       have HIDS:=Lib.hid hst.ids
       have HMPL:=Lib.hid hst.rng.map
       have HBELL:=Lib.hid hst.bel
       have HDL:=Lib.hid hdl
       clear hst hpm hd32 hdl hsort hrg
       go_wp2_with fail
       refine HSORT.out.mono ?_
       rintro e w7 ⟨rfl,m,hmp,hma,hmq,hmg⟩
       have hge:∀ g,u10.ownBlock = some g → W4.heap.size + 1 ≤ g:=fun g e => (HIDS.out.blkLt g e).2
       have hb47:Below W4.heap.size W4 w7:=HBELL.out.grown hmg HBELL.out.size (fun j e => by have:=hge j e;omega)
       have hmp7:MapG encO w7 wo.heap.size n3 M3:=HMPL.out.grown hmg (fun e => by have:=hge _ e.symm;have:=HBD4.out.map.lt;omega)
       have hm32:∀ y ∈ m,y.length = 32:=fun y hy => HK32.out y (HPM.out.mem_iff.1 (hmp.mem_iff.1 hy))
       have hmlen:m.length = dn.length:=hmp.length_eq
       rw [← hmlen] at hmq
       have hrow:=hmq.row hm32
       obtain ⟨mo,mcap,rfl,hmm1,hmc⟩:=hrow.open
       have hml:m.length ≤ 1000000:=by have:=HDL.out;omega
       have hbwx:Below W.heap.size W w7:=HB4.out.trans (hb47.mono HB4.out.size)
       have HMC:=Lib.hid hmc
       have HMPS:=Lib.hid hmp
       have HMA:=Lib.hid hma
       have HMP7:=Lib.hid hmp7
       have HB47:=Lib.hid hb47
       have HM32:=Lib.hid hm32
       have HBX7:=Lib.hid (HBX.out.below hbwx)
       have HX7:=Lib.hid (HX4.out.below hb47)
       have HPT7:=Lib.hid (below_load HBD4.out.ptr hb47 HBD4.out.lt)
       have HBW7:=Lib.hid (HBW.out.trans (hbwx.mono HBW.out.size))
       clear hmp hma hmq hmg hge hb47 hmp7 hm32 hmlen hrow hmm1 hmc hbwx
       go_upto_region 21 with fail
       go_loopw [12,60] (fun o i wr => ∃ j:Nat,i = .int .i64 (j:Int) ∧ j ≤ m.length ∧ OwnQ wr w7.heap.size 2 o j (flatC obC ((m.take j).map fun q => (M3 q).getD ob0)) ∧ Below w7.heap.size w7 wr) (fun _ i _ => (m.length - intOf i).toNat)
       case atStart => exact ⟨0,rfl,by omega,by simpa [flatC] using ownQ_nil _ _ _,Below.refl _ _⟩
       case round =>
        obtain ⟨wx,rfl⟩:∃ wx:World,wx = wr:=⟨_,rfl⟩
        obtain ⟨j,rfl,hj,ho,hb⟩:=hrel
        have HO:=Lib.hid ho
        have HBX9:=Lib.hid hb
        have hsx:=hb.size
        clear ho hb
        by_cases hjl:j < m.length
        ·obtain ⟨mb,moff,rfl,hmbl,hmcell⟩:=HMC.out (by intro e;rw [e] at hjl;simp at hjl)
         obtain ⟨y,hy⟩:∃ y,m[j] = y:=⟨_,rfl⟩
         have f1:=rangeAt_below (hmcell j hjl) HBX9.out hmbl
         rw [hy] at f1
         have hym:y ∈ m:=by rw [← hy];exact List.getElem_mem hjl
         have hyl:=HM32.out y hym
         have hyK:y ∈ K:=HPM.out.mem_iff.1 (HMPS.out.mem_iff.1 hym)
         obtain ⟨ob,hob⟩:=Option.isSome_iff_exists.1 ((HKS.out y hyl).2 hyK)
         have HTK:Hid ((m.take (j + 1)).map (fun q => (M3 q).getD ob0) = (m.take j).map (fun q => (M3 q).getD ob0) ++ [ob]):=Lib.hid (by rw [take_snoc m j hjl,List.map_append,hy];simp [hob])
         obtain ⟨ok,os'⟩:=ob
         have HFL:Hid (flatC obC ((m.take (j + 1)).map (fun q => (M3 q).getD ob0)) = flatC obC ((m.take j).map (fun q => (M3 q).getD ob0)) ++ [.int .i64 ok,.string os']):=Lib.hid (by rw [HTK.out,flatC_append];rfl)
         have hyc:(idC y).length = 32:=by rw [idC_len,hyl]
         have h32y:=h32_of hyc
         have HYO:=Lib.hid (idC_one y)
         obtain ⟨uy,huy⟩:∃ uy,idC y = uy:=⟨_,rfl⟩
         have HLK:=Lib.hid (fun (W':World) (h:MapG encO W' wo.heap.size n3 M3) => h.look Tryz.underlying48 (zeroO W') hyl)
         rw [hob,huy] at HLK
         rw [huy] at f1 hyc h32y HYO
         have k0:(0:Int) ≤ j:=by omega
         have k1:(j:Int) < m.length:=by omega
         have d4:decide ((j:Int) < m.length) = true:=decide_eq_true k1
         obtain ⟨W8,hW8⟩:∃ W8,(wx.alloc (.cells uz.toArray 27)).setCells wx.heap.size 0 uy = W8:=⟨_,rfl⟩
         have hx8:BoxL W8 wx.heap.size 27 uy:=by rw [← hW8];exact (BoxL.new wx 27 uz).set (by rw [hyc,hzl])
         have hb8:Below wx.heap.size wx W8:=by rw [← hW8];exact below_setCells _ (Nat.le_refl _) _ _ _ ((Below.refl _ _).alloc (Nat.le_refl _) _)
         have HTH8:=Lib.hid (there_alloc wx uz.toArray 27 (by simpa using hzl))
         have hb78:=HBX9.out.trans (hb8.mono hsx)
         have hblt:wo.heap.size < w7.heap.size:=HMP7.out.lt
         have hplt:=World.block_lt_of_cell? w7 _ HPT7.out
         have HSW:Hid (∀ X,Below W8.heap.size W8 X → X.cell? ⟨wo.heap.size + 1,0,none⟩ = some (.map (some wo.heap.size)) ∧ X.rangeAt wx.heap.size 0 uy ∧ MapG encO X wo.heap.size n3 M3):=Lib.hid (fun X hX => by
          have h1:=hb78.trans (hX.mono hb78.size)
          exact ⟨below_load HPT7.out h1 hplt,rangeAt_below hx8.range hX hx8.lt,HMP7.out.on h1⟩)
         have HO8:=Lib.hid (HO.out.below hb8)
         have HB8:=Lib.hid hb78
         have HW8:=Lib.hid hW8
         have hj1:=hj
         have hx8l:=hx8.lt
         have hs8:=hb78.size
         clear hmcell hy hym hyK hob huy hW8 hx8 hb8 hb78 hj
         go_upto_region 23 with (first
          | (refine wpList_load_mid rfl 27 _ rfl mb (moff + j * 32) rfl uy _ f1 Tryz.underlying27 rfl h32y ?_)
          | (refine wpList_store_list rfl 27 _ _ rfl wx.heap.size 0 uy rfl rfl 32 hyc HTH8.out h32i HYO.out ?_;rw [HW8.out]))
         have hS0:=HSW.out W8.drew (Below.refl _ _).drew
         refine wp_region_L 9 (fun w' => w'.cell? ⟨wo.heap.size + 1,0,none⟩ = some (.map (some wo.heap.size)) ∧ w'.rangeAt wx.heap.size 0 uy ∧ MapG encO w' wo.heap.size n3 M3) (by kernel_rfl) (by kernel_rfl) ?_
         refine WL.take (i:=0) (v:=?_) rfl (by kernel_rfl) (by decide) (by decide +kernel) (by decide +kernel) (fun _ _ _ h => h) rfl ?_ hS0 ?_
         rotate_left
         ·(intro w' hSw;(try dsimp only at hSw);go_simp;(try with_reducible rfl))
         simp only [Act.put];(try simp only [List.getElem_toArray]);(try simp only [List.getElem_cons_succ]);(try simp only [List.getElem_cons_zero]);(try simp only [List.setIfInBounds_toArray]);(try simp only [List.set_cons_succ]);(try simp only [List.set_cons_zero])
         refine WL.take (i:=1) (v:=?_) rfl (by kernel_rfl) (by decide) (by decide +kernel) (by decide +kernel) (fun _ _ _ h => h) rfl ?_ hS0 ?_
         rotate_left
         ·(intro w' hSw;(try dsimp only at hSw);go_simp;(try with_reducible rfl))
         simp only [Act.put];(try simp only [List.getElem_toArray]);(try simp only [List.getElem_cons_succ]);(try simp only [List.getElem_cons_zero]);(try simp only [List.setIfInBounds_toArray]);(try simp only [List.set_cons_succ]);(try simp only [List.set_cons_zero])
         refine WL.take (i:=2) (v:=?_) rfl (by kernel_rfl) (by decide) (by decide +kernel) (by decide +kernel) (fun _ _ _ h => h) rfl ?_ hS0 ?_
         rotate_left
         ·(intro w' hSw;(try dsimp only at hSw);go_simp;(try with_reducible rfl))
         simp only [Act.put];(try simp only [List.getElem_toArray]);(try simp only [List.getElem_cons_succ]);(try simp only [List.getElem_cons_zero]);(try simp only [List.setIfInBounds_toArray]);(try simp only [List.set_cons_succ]);(try simp only [List.set_cons_zero])
         refine WL.take (i:=3) (v:=?_) rfl (by kernel_rfl) (by decide) (by decide +kernel) (by decide +kernel) (fun _ _ _ h => h) rfl ?_ hS0 ?_
         rotate_left
         ·(intro w' hSw;(try dsimp only at hSw);go_simp;(try with_reducible rfl))
         simp only [Act.put];(try simp only [List.getElem_toArray]);(try simp only [List.getElem_cons_succ]);(try simp only [List.getElem_cons_zero]);(try simp only [List.setIfInBounds_toArray]);(try simp only [List.set_cons_succ]);(try simp only [List.set_cons_zero])
         refine WL.take (i:=4) (v:=?_) rfl (by kernel_rfl) (by decide) (by decide +kernel) (by decide +kernel) (fun _ _ _ h => h) rfl ?_ hS0 ?_
         rotate_left
         ·(intro w' hSw;(try dsimp only at hSw);go_simp;(try with_reducible rfl))
         simp only [Act.put];(try simp only [List.getElem_toArray]);(try simp only [List.getElem_cons_succ]);(try simp only [List.getElem_cons_zero]);(try simp only [List.setIfInBounds_toArray]);(try simp only [List.set_cons_succ]);(try simp only [List.set_cons_zero])
         refine WL.take (i:=5) (v:=_) rfl (by kernel_rfl) (by decide) (by decide +kernel) (by decide +kernel) (fun _ _ _ h => h) rfl (fun w' hSw => exec_row 27 _ (hSw.2.1) Tryz.underlying27 rfl h32y _ rfl rfl) hS0 ?_
         simp only [Act.put];(try simp only [List.getElem_toArray]);(try simp only [List.getElem_cons_succ]);(try simp only [List.getElem_cons_zero]);(try simp only [List.setIfInBounds_toArray]);(try simp only [List.set_cons_succ]);(try simp only [List.set_cons_zero])
         refine WL.take (i:=6) (v:=.agg #[.int .i64 ok,.string os']) rfl (by kernel_rfl) (by decide) (by decide +kernel) (by decide +kernel) (fun _ _ _ h => h) rfl (fun w' hSw => exec_look1 48 (.tmp 68) (.tmp 69) rfl (.map (some wo.heap.size)) (.agg uy.toArray) _ rfl rfl (HLK.out w' hSw.2.2)) hS0 ?_
         simp only [Act.put];(try simp only [List.getElem_toArray]);(try simp only [List.getElem_cons_succ]);(try simp only [List.getElem_cons_zero]);(try simp only [List.setIfInBounds_toArray]);(try simp only [List.set_cons_succ]);(try simp only [List.set_cons_zero])
         refine WL.one (i:=7) rfl (by decide) (by decide +kernel) ?_
         have hb9:Below W8.heap.size W8 (W8.drew.alloc (.cells [Value.int .i64 ok,.string os'].toArray 59)):=(Below.refl _ _).drew.alloc (Nat.le_refl _) _
         obtain ⟨oi,hoi,hoz,hosz,hoby⟩:=obj_info
         go_wp2_with (refine wpList_buildSlice_one rfl (.tmp 70) 25 59 rfl [.int .i64 ok,.string os'] #[.int .i64 0,.string ⟨#[]⟩] rfl Tryz.underlying25 (fun w => by kernel_rfl) zeroO (by simp) (by simp) ?_)
         have hS9:=HSW.out _ hb9
         refine ⟨hS9,?_⟩
         refine WL.one (i:=8) rfl (by decide) (by decide +kernel) ?_
         have HO9:=Lib.hid (HO8.out.below hb9)
         have HB9:=Lib.hid (HB8.out.trans (hb9.mono hs8))
         have HNEW:Hid (∀ k u,[Value.int .i64 ok,.string os'][k]? = some u → (W8.drew.alloc (.cells [Value.int .i64 ok,.string os'].toArray 59)).cell? ((⟨W8.drew.heap.size,0,none⟩:Addr).add k) = some u):=Lib.hid (fun k u hk => cells_newL _ [Value.int .i64 ok,.string os'] _ k u hk)
         have hs9:w7.heap.size ≤ (W8.drew.alloc (.cells [Value.int .i64 ok,.string os'].toArray 59)).heap.size:=HB9.out.size
         have hge:∀ g,u12.ownBlock = some g → w7.heap.size ≤ g ∧ g < wx.heap.size:=fun g e => ⟨(HO.out.blkLt g e).2,(HO.out.blkLt g e).1⟩
         have HGE:=Lib.hid hge
         have HS9:=Lib.hid hS9
         clear hb9 hge hS9
         go_wp2_with (refine wpList_append_q rfl (.tmp 64) (.tmp 71) 25 rfl w7.heap.size 59 oi (.agg #[.int .i64 0,.string ⟨#[]⟩]) 2 24 Tryz.underlying25 hoi hoz hosz hoby rfl (by decide) _ j (flatC obC ((m.take j).map fun q => (M3 q).getD ob0)) rfl HO9.out (some ⟨W8.drew.heap.size,0,none⟩) 1 1 [.int .i64 ok,.string os'] rfl rfl (fun _ => ⟨_,rfl,HNEW.out⟩) (by simp [Value.oneCell']) (by unfold maxLen;omega) (by omega) hs9 ?_)
         intro o9 w10 hq10 hg10 _
         have hS10:w10.cell? ⟨wo.heap.size + 1,0,none⟩ = some (.map (some wo.heap.size)) ∧ w10.rangeAt wx.heap.size 0 uy ∧ MapG encO w10 wo.heap.size n3 M3 :=
          ⟨cell_grown HS9.out.1 hg10 (fun e => by have h1:=(HGE.out _ e).1;have h2:wo.heap.size + 1 < w7.heap.size:=hplt;omega),range_grown HS9.out.2.1 hg10 (fun e => by have:=(HGE.out _ e).2;omega),HS9.out.2.2.grown hg10 (fun e => by have:=(HGE.out _ e.symm).1;omega)⟩
         have HQ10:=Lib.hid hq10
         have HB10:=Lib.hid (HB9.out.grown hg10 hs9 (fun k e => (HGE.out k e).1))
         clear hq10 hg10
         go_wp2
         refine ⟨hS10,?_⟩
         refine WL.last (n:=9) rfl rfl (by decide +kernel) (by decide +kernel) ?_
         clear hS10
         have HEND:Hid (OwnQ w10 w7.heap.size 2 o9 (j + 1) (flatC obC ((m.take (j + 1)).map fun q => (M3 q).getD ob0))):=Lib.hid (by rw [HFL.out];exact HQ10.out)
         go_wp2
         go_roundw
         case rel => exact ⟨j + 1,by go_num,by omega,HEND.out,HB10.out⟩
         case measure => simp [intOf];omega
        ·obtain rfl:j = m.length:=by omega
         have d4:decide ((m.length:Int) < m.length) = false:=decide_eq_false (by omega)
         have hx9:=HX7.out.below HBX9.out
         have hbx9:=HBX7.out.below HBX9.out
         have h32x:(Tryz.prog.info? 27).map (·.size) = some ux.length:=by rw [hxl];exact h32i
         have hne:w.heap.size ≠ w3.heap.size:=by
          have h1:=hg3s
          omega
         have HT9:=Lib.hid hbx9.there
         rw [hzl] at HT9
         have HO9:=Lib.hid HO.out
         rw [List.take_length] at HO9
         go_upto_region 25 with fail
         have hS0:wx.drew.rangeAt w3.heap.size 0 ux:=rangeAt_below hx9.range (Below.refl _ _).drew hx9.lt
         refine wp_region_L 4 (fun w' => w'.rangeAt w3.heap.size 0 ux) (by kernel_rfl) (by kernel_rfl) ?_
         refine WL.take (i:=0) (v:=?_) rfl (by kernel_rfl) (by decide) (by decide +kernel) (by decide +kernel) (fun _ _ _ h => h) rfl ?_ hS0 ?_
         rotate_left
         ·(intro w' hSw;(try dsimp only at hSw);go_simp;(try with_reducible rfl))
         simp only [Act.put];(try simp only [List.getElem_toArray]);(try simp only [List.getElem_cons_succ]);(try simp only [List.getElem_cons_zero]);(try simp only [List.setIfInBounds_toArray]);(try simp only [List.set_cons_succ]);(try simp only [List.set_cons_zero])
         refine WL.take (i:=1) (v:=_) rfl (by kernel_rfl) (by decide) (by decide +kernel) (by decide +kernel) (fun _ _ _ h => h) rfl (fun w' hSw => exec_row 27 _ (hSw) Tryz.underlying27 rfl h32x _ rfl rfl) hS0 ?_
         simp only [Act.put];(try simp only [List.getElem_toArray]);(try simp only [List.getElem_cons_succ]);(try simp only [List.getElem_cons_zero]);(try simp only [List.setIfInBounds_toArray]);(try simp only [List.set_cons_succ]);(try simp only [List.set_cons_zero])
         refine WL.take (i:=2) (v:=?_) rfl (by kernel_rfl) (by decide) (by decide +kernel) (by decide +kernel) (fun _ _ _ h => h) rfl ?_ hS0 ?_
         rotate_left
         ·(intro w' hSw;(try dsimp only at hSw);go_simp;(try with_reducible rfl))
         simp only [Act.put];(try simp only [List.getElem_toArray]);(try simp only [List.getElem_cons_succ]);(try simp only [List.getElem_cons_zero]);(try simp only [List.setIfInBounds_toArray]);(try simp only [List.set_cons_succ]);(try simp only [List.set_cons_zero])
         refine WL.one (i:=3) rfl (by decide) (by decide +kernel) ?_
         obtain ⟨WE,hWE⟩:∃ WE,(wx.drew).setCells w.heap.size 0 ux = WE:=⟨_,rfl⟩
         have hbd:BoxL wx.drew w.heap.size 27 uz:=hbx9.below (Below.refl _ _).drew
         have hTd:=hbd.there
         rw [hzl] at hTd
         have hrE:WE.rangeAt w.heap.size 0 ux:=by rw [← hWE];exact (hbd.set (us:=ux) (by rw [hxl,hzl])).range
         have hS1:WE.rangeAt w3.heap.size 0 ux:=by rw [← hWE];exact range_grown hS0 (grownBy_setCells _ _ _ _) (fun e => hne (Option.some.inj e))
         have hBE:Below w.heap.size w WE:=by
          rw [← hWE]
          exact below_setCells (B:=w.heap.size) w.heap.size (Nat.le_refl _) ux 0 _ ((HBW7.out.trans (HBX9.out.mono HBW7.out.size)).drew)
         have hOE:OwnQ WE w7.heap.size 2 u12 m.length (flatC obC (m.map fun q => (M3 q).getD ob0)):=by
          rw [← hWE]
          exact (HO9.out.below (Below.refl _ _).drew).grown (grownBy_setCells _ _ _ _) (fun g hg e => by
           have h1:=(HO9.out.blkLt g hg).2
           have h2:=Option.some.inj e
           have h3:=HBX7.out.lt
           omega)
         have hrowE:ObRow WE u12 (m.map fun q => (M3 q).getD ob0):=by
          have:=rowOf_ownQ obC 2 (fun _ => rfl) (l:=m.map fun q => (M3 q).getD ob0) (by rw [List.length_map];exact hOE)
          exact this
         have HWE:=Lib.hid hWE
         have HRE:=Lib.hid hrE
         have HBE:=Lib.hid hBE
         have HROW:=Lib.hid hrowE
         have HTD:=Lib.hid hTd
         clear hWE hbd hTd hrE hBE hOE hrowE hx9 hbx9
         go_wp2_with (refine wpList_store_list rfl 27 _ _ rfl w.heap.size 0 ux rfl rfl 32 hxl HTD.out h32i HXO.out ?_;rw [HWE.out])
         refine ⟨hS1,?_⟩
         refine WL.last (n:=4) rfl rfl (by decide +kernel) (by decide +kernel) ?_
         go_wp2
         refine ret_tct rfl w.heap.size 0 rfl ux _ HRE.out Tryz.underlying27 rfl h32x rfl _ _ rfl rfl ?_
         refine ⟨HBE.out,.inr (.inr ⟨hl3,HOKA.out,os,x,M3,m,u12,HTS.out,HP3.out,HMA.out,fun q => ?_,by rw [HUX.out];rfl,HROW.out⟩)⟩
         rw [← HKM.out q,← HPM.out.mem_iff]
         exact HMPS.out.mem_iff
      ·intro z c w6 hzL hz32 hfz hrg6 hlt6 hg6 hsz6 hen
       have HZP:Hid (((dn ++ [z]) ++ Lr.erase z).Perm K):=Lib.hid (by
        rw [List.append_assoc]
        exact ((List.perm_cons_erase hzL).symm.append_left dn).trans HT.out.perm)
       have hids6:=HT.out.ids.grown hg6 (fun g hg e => by have:=(HT.out.ids.blkLt g hg).2;have:=Option.some.inj e;omega)
       have hbel6:=HT.out.bel.grown hg6 HT.out.bel.size (fun k e => by have:=Option.some.inj e;omega)
       have hzc:(idC z).length = 32:=by rw [idC_len,hz32]
       have h32z':=h32_of hzc
       have HZO1:=Lib.hid (idC_one z)
       have HIS:Hid (idsF (dn ++ [z]) = idsF dn ++ idC z):=Lib.hid (idsF_snoc dn z)
       have hdl:dn.length ≤ 1000000:=by
        have h1:=HT.out.perm.length_eq
        rw [List.length_append] at h1
        omega
       obtain ⟨uy,huy⟩:∃ uy,idC z = uy:=⟨_,rfl⟩
       rw [huy] at hzc h32z' HZO1 HIS hen ⊢
       obtain ⟨W6,hW6⟩:∃ W6,(w6.alloc (.cells uz.toArray 27)).setCells w6.heap.size 0 uy = W6:=⟨_,rfl⟩
       have hx6:BoxL W6 w6.heap.size 27 uy:=by rw [← hW6];exact (BoxL.new w6 27 uz).set (by rw [hzc,hzl])
       have hr6:=hx6.range
       have hb66:Below w6.heap.size w6 W6:=by rw [← hW6];exact below_setCells _ (Nat.le_refl _) _ _ _ ((Below.refl _ _).alloc (Nat.le_refl _) _)
       have HTH6:=Lib.hid (there_alloc w6 uz.toArray 27 (by simpa using hzl))
       have hb7:Below W6.heap.size W6 (W6.alloc (.cells uy.toArray 27)):=(Below.refl _ _).alloc (Nat.le_refl _) _
       have hb67:=hb66.trans (hb7.mono hb66.size)
       have HO7:=Lib.hid (hids6.below hb67)
       have HR7:=Lib.hid (hrg6.on hb67)
       have HB7:=Lib.hid (hbel6.trans (hb67.mono hbel6.size))
       have HNEW:Hid (∀ j u,uy[j]? = some u → (W6.alloc (.cells uy.toArray 27)).cell? ((⟨W6.heap.size,0,none⟩:Addr).add j) = some u):=Lib.hid (fun j u hj => cells_newL _ uy _ j u hj)
       have HSZI:Hid (∀ w,(sizeOf 27).run Tryz.prog w = .ok uy.length w):=Lib.hid (fun w => by rw [hzc];kernel_rfl)
       have hs7:W4.heap.size + 1 ≤ (W6.alloc (.cells uy.toArray 27)).heap.size:=by have:=HR7.out.lt;omega
       have HLE:Hid (World.rangeLeft (W6.alloc (.cells uy.toArray 27)) wo.heap.size W4.heap.size < wl.rangeLeft wo.heap.size W4.heap.size):=Lib.hid (by
        rw [rangeLeft_heap (hb67.block _ hrg6.map.lt) (hb67.block _ hrg6.lt)]
        exact hlt6)
       obtain ⟨zi,i0,hi0,hiz0,hiz1,hiz2,hizv,hizl⟩:=id_zero
       have HW6:=Lib.hid hW6
       have hblt:=HBD4.out.map.lt
       clear hzL hfz hrg6 hlt6 hg6 hsz6 hids6 hbel6 huy hW6 hx6 hb66 hb7 hb67 hrg
       go_wp2_with (first
        | (refine wpList_store_list rfl 27 _ _ rfl w6.heap.size 0 uy rfl rfl 32 hzc HTH6.out h32i HZO1.out ?_;rw [HW6.out])
        | (refine wpList_load_mid rfl 27 _ rfl w6.heap.size 0 rfl uy _ hr6 Tryz.underlying27 rfl h32z' ?_)
        | (refine wpList_buildSlice_one rfl (.tmp 53) 53 27 rfl uy zi rfl Tryz.underlying53 HSZI.out hizv (by rw [hzc];omega) (by rw [hzc];omega) ?_)
        | (refine wpList_append_q rfl (.tmp 52) (.tmp 54) 53 rfl (W4.heap.size + 1) 27 i0 (.agg zi) 32 32 Tryz.underlying53 hi0 hiz0 hiz1 hiz2 hizl (by decide) _ dn.length (idsF dn) rfl HO7.out (some ⟨W6.heap.size,0,none⟩) 1 1 uy rfl (by rw [hzc]) (fun _ => ⟨_,rfl,HNEW.out⟩) HZO1.out (by unfold maxLen;omega) (by omega) hs7 ?_))
       intro o9 w9 hq9 hg9 _
       have hge:∀ g,u10.ownBlock = some g → W4.heap.size + 1 ≤ g:=fun g e => (HO7.out.blkLt g e).2
       have HEND:Hid (Bd2 W4 wo.heap.size n3 M3 K o9 (dn ++ [z]) (Lr.erase z) w9):=Lib.hid ⟨HZP.out,by rw [HIS.out,List.length_append];exact hq9,HR7.out.grown hg9 (fun e => by have:=hge _ e.symm;omega) (fun e => by have:=hge _ e.symm;omega),HB7.out.grown hg9 HB7.out.size (fun k e => by have:=hge k e;omega)⟩
       have HLE9:Hid (w9.rangeLeft wo.heap.size W4.heap.size < wl.rangeLeft wo.heap.size W4.heap.size):=Lib.hid (by
        rw [rangeLeft_heap (hg9.block _ HR7.out.map.lt (fun e => by have:=hge _ e.symm;omega)) (hg9.block _ HR7.out.lt (fun e => by have:=hge _ e.symm;omega))]
        exact HLE.out)
       clear hq9 hg9 hge
       go_wp2
       go_roundw
       case rel => exact ⟨_,_,HEND.out⟩
       case measure => exact HLE9.out
end Go.Proofs.YtmhjpmenngjmeaaGreatDoor
namespace Go.Proofs.YtmhjpmenngjmeaaGreatDoor
open Go.RowKit
set_option maxRecDepth 100000
def placeO (l:List Ob) (x:Idl):Nat:=(l.takeWhile fun y => ltB (idO y) x).length
def eqO (a b:Ob):Bool:=decide (a.kind = b.kind) && decide (a.body = b.body)
theorem eqO_iff (a b:Ob):eqO a b = true ↔ a = b:=by
 obtain ⟨k,s⟩:=a
 obtain ⟨k',s'⟩:=b
 unfold eqO
 simp
def putO (l:List Ob) (o:Ob):List Ob:=match l[placeO l (idO o)]? with
 | some y => if eqO y o = true then l else l.take (placeO l (idO o)) ++ [o] ++ l.drop (placeO l (idO o))
 | none => l.take (placeO l (idO o)) ++ [o] ++ l.drop (placeO l (idO o))
theorem putO_same {l:List Ob} {o y:Ob} {k:Nat} (h:placeO l (idO o) = k) (hk:k < l.length) (hy:l[k] = y) (e:eqO y o = true):putO l o = l:=by
 unfold putO
 rw [h,List.getElem?_eq_getElem hk,hy]
 exact if_pos e
theorem putO_new {l:List Ob} {o:Ob} {k:Nat} (h:placeO l (idO o) = k) (e:∀ (hk:k < l.length),eqO l[k] o = false):putO l o = l.take k ++ [o] ++ l.drop k:=by
 unfold putO
 rw [h]
 by_cases hk:k < l.length
 ·rw [List.getElem?_eq_getElem hk]
  exact if_neg (by rw [e hk];simp)
 ·rw [List.getElem?_eq_none (by omega)]
theorem placeO_eq:∀ (l:List Ob) (x:Idl) (k:Nat),k ≤ l.length → (∀ i (hi:i < l.length),i < k → ltB (idO l[i]) x = true) → (∀ (h:k < l.length),ltB (idO l[k]) x = false) → placeO l x = k
 | [],x,k,hk,_,_ => by
  obtain rfl:k = 0:=by simpa using hk
  rfl
 | y :: l,x,0,_,_,h => by
  have h0:ltB (idO y) x = false:=h (by simp)
  unfold placeO
  rw [List.takeWhile_cons,if_neg (by rw [h0];simp)];rfl
 | y :: l,x,k + 1,hk,h1,h2 => by
  have h0:ltB (idO y) x = true:=h1 0 (by simp) (by omega)
  have ih:=placeO_eq l x k (by simpa using hk) (fun i hi h => h1 (i + 1) (by simpa using hi) (by omega)) (fun h => h2 (by simpa using h))
  unfold placeO at ih ⊢
  rw [List.takeWhile_cons,if_pos h0,List.length_cons,ih]
set_option maxHeartbeats 8000000 in
theorem rput_any (v:Value) (l:List Ob) (ok:Int) (os:ByteArray) (w:World) (hv:ObRow w v l) (hcap:CapI v) (hl:∀ y ∈ l,y.body.size ≤ 100000) (hs:os.size ≤ 100000) (hn:l.length ≤ 100000) :
  Calls Tryz.prog 39 #[v,.agg #[.int .i64 ok,.string os]] w fun e w' => ∃ v',e = .returned v' ∧ ObRow w' v' (putO l ⟨ok,os⟩) ∧ CapI v' ∧ Below w.heap.size w w' ∧ Fr w v v':=by
 have HROW:=Lib.hid hv
 have HCAP:=Lib.hid hcap
 obtain ⟨ao,cap,rfl,hmax,hv⟩:=hv.open
 have hnc:l.length ≤ cap:=hcap _ _ _ rfl
 have HV:=Lib.hid hv
 have HL:=Lib.hid hl
 have HRW:Hid (l ≠ [] → ∃ b off,ao = some ⟨b,off,none⟩ ∧ b < w.heap.size ∧ ∀ k (hk:k < l.length),w.rangeAt b (off + k * 2) (obC l[k])):=Lib.hid hv
 have hxl:(idC (idO ⟨ok,os⟩)).length = 32:=by rw [idC_len,idO_len]
 obtain ⟨ux,hux⟩:∃ ux,idC (idO ⟨ok,os⟩) = ux:=⟨_,rfl⟩
 have h32x:=h32_of hxl
 have HLS:=Lib.hid (fun (y:Ob) (w:World) => rless32_any (idO y) (idO ⟨ok,os⟩) w (idO_len _) (idO_len _))
 have HXO:=Lib.hid (idC_one (idO ⟨ok,os⟩))
 have HID:=Lib.hid (fun w => rido_any ok os w hs)
 rw [hux] at hxl h32x HLS HXO HID
 obtain ⟨hizz,_⟩:=id_zeroC
 have hzl:(idC zid).length = 32:=by rw [idC_len,zid_len]
 generalize idC zid = uz at hizz hzl
 obtain ⟨W,hW⟩:∃ W,w.alloc (.cells #[.int .i64 ok,.string os] 59) = W:=⟨_,rfl⟩
 have hbW:Below w.heap.size w W:=by rw [← hW];exact (Below.refl _ _).alloc (Nat.le_refl _) _
 have hxW:BoxL W w.heap.size 59 [.int .i64 ok,.string os]:=by rw [← hW];exact BoxL.new w 59 [.int .i64 ok,.string os]
 have c0:W.cell? ⟨w.heap.size,0,none⟩ = some (.int .i64 ok):=by have:=hxW.range 0 _ rfl;simpa using this
 have c1:W.cell? ⟨w.heap.size,1,none⟩ = some (.string os):=by have:=hxW.range 1 _ rfl;simpa using this
 have HW:=Lib.hid hW
 have HBW:=Lib.hid hbW
 have HXW:=Lib.hid hxW
 have h32i:(Tryz.prog.info? 27).map (·.size) = some 32:=by kernel_rfl
 clear hW hbW hxW hv hcap hl hux
 go_enter Tryz.func39,Tryz.ntmps39
 go_upto_region 1 with fail
 rw [HW.out]
 go_wp2_with fail
 refine (HID.out W).mono ?_
 rintro e w1 ⟨rfl,hb1⟩
 obtain ⟨W2,hW2⟩:∃ W2,(w1.alloc (.cells uz.toArray 27)).setCells w1.heap.size 0 ux = W2:=⟨_,rfl⟩
 have hx2:BoxL W2 w1.heap.size 27 ux:=by rw [← hW2];exact (BoxL.new w1 27 uz).set (by rw [hxl,hzl])
 have hb2:Below w1.heap.size w1 W2:=by rw [← hW2];exact below_setCells _ (Nat.le_refl _) _ _ _ ((Below.refl _ _).alloc (Nat.le_refl _) _)
 have HTH2:=Lib.hid (there_alloc w1 uz.toArray 27 (by simpa using hzl))
 have HX2:=Lib.hid hx2
 have HB2:=Lib.hid (HBW.out.trans ((hb1.trans (hb2.mono hb1.size)).mono HBW.out.size))
 have HXW2:=Lib.hid ((HXW.out.below hb1).below hb2)
 have HW2:=Lib.hid hW2
 have hs2:=HB2.out.size
 clear hx2 hb2 hW2 hb1 c0 c1
 go_upto_region 3 with (refine wpList_store_list rfl 27 _ _ rfl w1.heap.size 0 ux rfl rfl 32 hxl HTH2.out h32i HXO.out ?_;rw [HW2.out])
 go_loopw [6] (fun i wr => ∃ k:Nat,i = .int .i64 (k:Int) ∧ k ≤ l.length ∧ (∀ i (hi:i < l.length),i < k → ltB (idO l[i]) (idO ⟨ok,os⟩) = true) ∧ Below W2.heap.size W2 wr) (fun i _ => (l.length - intOf i).toNat)
 case atStart => exact ⟨0,rfl,by omega,fun i _ h => absurd h (by omega),Below.refl _ _⟩
 case round =>
  obtain ⟨wo,rfl⟩:∃ wo:World,wo = wr:=⟨_,rfl⟩
  obtain ⟨k,rfl,hk,hlo,hb⟩:=hrel
  have HLO:=Lib.hid hlo
  have HB:=Lib.hid hb
  have hszo:=hb.size
  have hx2o:=HX2.out.below hb
  have c2:=hx2o.range
  have hx2l:=hx2o.lt
  have hxwo:=HXW2.out.below hb
  have e0:wo.cell? ⟨w.heap.size,0,none⟩ = some (.int .i64 ok):=by have:=hxwo.range 0 _ rfl;simpa using this
  have e1:wo.cell? ⟨w.heap.size,1,none⟩ = some (.string os):=by have:=hxwo.range 1 _ rfl;simpa using this
  have hxwl:=hxwo.lt
  have HBO:=Lib.hid (HB2.out.trans (hb.mono hs2))
  have k0:(0:Int) ≤ k:=by omega
  clear hlo hb hx2o hxwo
  by_cases hlt:k < l.length
  ·obtain ⟨b,off,rfl,hbl,hcell⟩:=HRW.out (by intro e;rw [e] at hlt;simp at hlt)
   have fc:=rangeAt_below (hcell k hlt) HBO.out hbl
   obtain ⟨y,hy⟩:∃ y,l[k] = y:=⟨_,rfl⟩
   rw [hy] at fc
   have hyb:=HL.out y (by rw [← hy];exact List.getElem_mem hlt)
   have HYK:Hid (l[k] = y):=Lib.hid hy
   obtain ⟨yk,ys⟩:=y
   have hbo:b < wo.heap.size:=by have:=HBO.out.size;omega
   have f0:wo.cell? ⟨b,off + k * 2,none⟩ = some (.int .i64 yk):=by have:=fc 0 _ rfl;rwa [Nat.add_zero] at this
   have f1:wo.cell? ⟨b,off + k * 2 + 1,none⟩ = some (.string ys):=fc 1 _ rfl
   have k1:(k:Int) < l.length:=by omega
   have d1:decide ((k:Int) < l.length) = true:=decide_eq_true k1
   have hidy:=fun w => rido_any yk ys w hyb
   have hls:=HLS.out ⟨yk,ys⟩
   clear hcell fc hy
   generalize idC (idO ⟨yk,ys⟩) = uy at hidy hls
   have HIDY:=Lib.hid hidy
   cases hg:ltB (idO ⟨yk,ys⟩) (idO ⟨ok,os⟩) with
   | true =>
    rw [hg] at hls
    have HLSY:=Lib.hid hls
    have HN:Hid (∀ i (hi:i < l.length),i < k + 1 → ltB (idO l[i]) (idO ⟨ok,os⟩) = true):=Lib.hid (fun i hi h => by
     by_cases e:i = k
     ·subst e;rw [HYK.out];exact hg
     ·exact HLO.out i hi (by omega))
    clear hidy hls hg
    go_wp2
    refine wp_region_bq (by kernel_rfl) (by kernel_rfl) ?_
    have LQ0:=fun x:BW (World.heap wo).size wo => below_load f0 x.hb (by omega)
    have LQ1:=fun x:BW (World.heap wo).size wo => below_load f1 x.hb (by omega)
    repeat (go_big_quiet_step ((first | (go_at_call 21;with_reducible exact calls_bw (HIDY.out _)) | (go_at_call 72;with_reducible exact calls_bw (HLSY.out _)))))
    refine bq_row 27 _ _ rfl rfl rfl c2 (by omega) Tryz.underlying27 rfl h32x ?_
    simp only [Act.put,List.setIfInBounds_toArray,List.set_cons_zero,List.set_cons_succ]
    repeat (go_big_quiet_step ((first | (go_at_call 21;with_reducible exact calls_bw (HIDY.out _)) | (go_at_call 72;with_reducible exact calls_bw (HLSY.out _)))))
    refine wpQuiet_nil ?_
    intro wq hbq
    clear LQ0 LQ1
    have HBN:=Lib.hid (HB.out.trans (hbq.mono hszo))
    clear hbq c2 f0 f1 e0 e1
    go_wp2
    go_roundw
    case rel => exact ⟨k + 1,by go_num,by omega,HN.out,HBN.out⟩
    case measure => simp [intOf];omega
   | false =>
    rw [hg] at hls
    have HLSY:=Lib.hid hls
    have HPL:Hid (placeO l (idO ⟨ok,os⟩) = k):=Lib.hid (placeO_eq l _ k hk HLO.out (fun h => by rw [HYK.out];exact hg))
    clear hidy hls hg
    go_wp2
    refine wp_region_bq (by kernel_rfl) (by kernel_rfl) ?_
    have LQ0:=fun x:BW (World.heap wo).size wo => below_load f0 x.hb (by omega)
    have LQ1:=fun x:BW (World.heap wo).size wo => below_load f1 x.hb (by omega)
    repeat (go_big_quiet_step ((first | (go_at_call 21;with_reducible exact calls_bw (HIDY.out _)) | (go_at_call 72;with_reducible exact calls_bw (HLSY.out _)))))
    refine bq_row 27 _ _ rfl rfl rfl c2 (by omega) Tryz.underlying27 rfl h32x ?_
    simp only [Act.put,List.setIfInBounds_toArray,List.set_cons_zero,List.set_cons_succ]
    repeat (go_big_quiet_step ((first | (go_at_call 21;with_reducible exact calls_bw (HIDY.out _)) | (go_at_call 72;with_reducible exact calls_bw (HLSY.out _)))))
    refine wpQuiet_nil ?_
    intro wq hbq
    clear LQ0 LQ1
    have hbz:=HBO.out.trans (hbq.mono HBO.out.size)
    have hbz2:=HB.out.trans (hbq.mono hszo)
    have f0':=below_load f0 hbq hbo
    have f1':=below_load f1 hbq hbo
    have e0':=below_load e0 hbq hxwl
    have e1':=below_load e1 hbq hxwl
    have hsq:=hbq.size
    have HBZ:=Lib.hid hbz
    have HBZ2:=Lib.hid hbz2
    obtain ⟨wp,hwp⟩:∃ wp,wp = wq:=⟨_,rfl⟩
    rw [← hwp] at f0' f1' e0' e1' HBZ HBZ2 hsq ⊢
    clear hbq c2 f0 f1 e0 e1 hbz hbz2 hwp
    have hob:=ob_eqIn yk ok ys os
    have HOB:Hid ((yk == ok && ys.toList == os.toList) = eqO ⟨yk,ys⟩ ⟨ok,os⟩):=Lib.hid (by
     unfold eqO
     rw [beq_data]
     have h1:(yk == ok) = decide (yk = ok):=by by_cases h:yk = ok <;> simp [h]
     have h2:decide (ys.data.toList = os.data.toList) = decide (ys = os):=decide_eq_decide.2 ⟨fun h => ba_ext h,fun h => by rw [h]⟩
     rw [h1,h2])
    cases he:eqO ⟨yk,ys⟩ ⟨ok,os⟩ with
    | true =>
     rw [he] at HOB
     have hob2:=fun w => (hob w).trans (by rw [HOB.out])
     have HSAME:=Lib.hid (putO_same HPL.out hlt HYK.out he)
     clear hob he
     go_wp2
     refine wp_region_bq (by kernel_rfl) (by kernel_rfl) ?_
     have LQ0:=fun x:BW (World.heap wp).size wp => below_load f0' x.hb (by omega)
     have LQ1:=fun x:BW (World.heap wp).size wp => below_load f1' x.hb (by omega)
     have LQ2:=fun x:BW (World.heap wp).size wp => below_load e0' x.hb (by omega)
     have LQ3:=fun x:BW (World.heap wp).size wp => below_load e1' x.hb (by omega)
     repeat (go_big_quiet_step (fail))
     refine wpQuiet_nil ?_
     intro wq hbq
     clear LQ0 LQ1 LQ2 LQ3
     have HEZ:=Lib.hid (HBZ.out.trans (hbq.mono HBZ.out.size))
     clear hbq f0' f1' e0' e1'
     go_wp2
     go_ret
     exact ⟨_,rfl,by rw [HSAME.out];exact HROW.out.below HEZ.out,HCAP.out,HEZ.out,.inl rfl⟩
    | false =>
     rw [he] at HOB
     have hob2:=fun w => (hob w).trans (by rw [HOB.out])
     have HNE:Hid (∀ (hk:k < l.length),eqO l[k] ⟨ok,os⟩ = false):=Lib.hid (fun h => by rw [HYK.out];exact he)
     clear hob he
     go_wp2
     refine wp_region_bq (by kernel_rfl) (by kernel_rfl) ?_
     have LQ0:=fun x:BW (World.heap wp).size wp => below_load f0' x.hb (by omega)
     have LQ1:=fun x:BW (World.heap wp).size wp => below_load f1' x.hb (by omega)
     have LQ2:=fun x:BW (World.heap wp).size wp => below_load e0' x.hb (by omega)
     have LQ3:=fun x:BW (World.heap wp).size wp => below_load e1' x.hb (by omega)
     repeat (go_big_quiet_step (fail))
     refine wpQuiet_nil ?_
     intro wq hbq
     clear LQ0 LQ1 LQ2 LQ3
     have HZ:=Lib.hid (HBZ.out.trans (hbq.mono HBZ.out.size))
     have HZ2:=Lib.hid (HBZ2.out.trans (hbq.mono HBZ2.out.size))
     obtain ⟨wz,hwz⟩:∃ wz,wz = wq:=⟨_,rfl⟩
     rw [← hwz] at HZ HZ2 ⊢
     clear hbq f0' f1' e0' e1' hob2 hwz
     obtain ⟨ao,hao⟩:∃ ao:Option Addr,ao = some ⟨b,off,none⟩:=⟨_,rfl⟩
     rw [← hao] at HRW HROW HCAP ⊢
     clear hao
     -- the world wz,HZ:Below w .. wz,HZ2:Below W2 .. wz
     have hzs:=HZ.out.size
     have hxz:=HXW2.out.below HZ2.out
     have z0:wz.cell? ⟨w.heap.size,0,none⟩ = some (.int .i64 ok):=by have:=hxz.range 0 _ rfl;simpa using this
     have hxzl:=hxz.lt
     have HXZ:=Lib.hid hxz
     have HST:Hid (∀ W,(Instr.sliceAt 25 (.slice ao l.length cap) none (some (.int .i64 k)) none).run Tryz.prog W = .ok (.slice ao k cap) W):=Lib.hid (fun W => run_to_objs W ao l.length cap k (by omega))
     have HSF:Hid (∀ W,(Instr.sliceAt 25 (.slice ao l.length cap) (some (.int .i64 k)) none none).run Tryz.prog W = .ok (.slice (if cap = k then ao else ao.map (fun p:Addr => p.add (k * 2))) (l.length - k) (cap - k)) W):=Lib.hid (fun W => run_from_objs W ao l.length cap k hk)
     have HCE:Hid (∀ W,Below w.heap.size w W → ∀ m,0 < ((l.drop m).length) → ∃ b off,ao = some ⟨b,off,none⟩ ∧ ∀ n q u,(flatC obC ((l.drop m).take n))[q]? = some u → W.cell? ⟨b,off + m * 2 + q,none⟩ = some u):=Lib.hid (fun W hW m hm => by
      obtain ⟨b,off,e,hbl,hc⟩:=HRW.out (fun e => by rw [e] at hm;simp at hm)
      exact ⟨b,off,e,fun n q u hu => flat_sub (enc:=obC) (sz:=2) (fun _ => rfl) (fun i hi => rangeAt_below (hc i hi) hW hbl) m n q u hu⟩)
     have HN1:Hid ((flatC obC (l.take k)).length = k * 2):=Lib.hid (by rw [flatC_len obC 2 (fun _ => rfl),List.length_take,Nat.min_eq_left hk])
     have HN3:Hid ((flatC obC (l.drop k)).length = (l.length - k) * 2):=Lib.hid (by rw [flatC_len obC 2 (fun _ => rfl),List.length_drop])
     have HC1:Hid (0 < k → ∃ ad,ao = some ad ∧ ∀ q u,(flatC obC (l.take k))[q]? = some u → wz.cell? (ad.add q) = some u):=Lib.hid (fun h0 => by
      obtain ⟨b,off,e,hc⟩:=HCE.out wz HZ.out 0 (by rw [List.drop_zero];omega)
      refine ⟨_,e,fun q u hu => ?_⟩
      rw [Addr.add_mid]
      have:=hc k q u (by rw [List.drop_zero];exact hu)
      rwa [Nat.zero_mul,Nat.add_zero] at this)
     obtain ⟨oi,hoi,hoz,hosz,hoby⟩:=obj_info
     have HF1:Hid (∀ (m:List Ob) (v:Value),v ∈ flatC obC m → v.oneCell' = true):=Lib.hid (fun m v h => by
      obtain ⟨r,hr,hv⟩:=List.mem_flatten.1 h
      obtain ⟨e,_,rfl⟩:=List.mem_map.1 hr
      simp [obC] at hv
      rcases hv with rfl | rfl <;> rfl)
     have HFI:Hid (flatC obC (l.take k ++ [⟨ok,os⟩] ++ l.drop k) = flatC obC (l.take k) ++ [.int .i64 ok,.string os] ++ flatC obC (l.drop k)):=Lib.hid (by rw [flatC_append,flatC_append];rfl)
     clear z0 hxz
     go_wp2_with (first
      | (refine wpList_sliceH_run rfl 25 _ _ rfl _ _ rfl rfl _ (HST.out _) ?_)
      | (refine wpList_append_q rfl (.tmp 38) (.tmp 41) 25 rfl wz.heap.size 59 oi (.agg #[.int .i64 0,.string ⟨#[]⟩]) 2 24 Tryz.underlying25 hoi hoz hosz hoby rfl (by decide) _ 0 [] rfl (ownQ_nil _ _ _) ao k cap (flatC obC (l.take k)) rfl HN1.out HC1.out (HF1.out _) (by unfold maxLen;omega) (by omega) (Nat.le_refl _) ?_))
     intro v1 w1' hq1 hg1 _
     have HB1:=Lib.hid (HZ.out.grown hg1 hzs (fun j hj => by cases hj))
     have HBX1:=HXZ.out.kept hg1 (fun e => by cases e)
     have g0:w1'.cell? ⟨w.heap.size,0,none⟩ = some (.int .i64 ok):=by have:=HBX1.range 0 _ rfl;simpa using this
     have g1:w1'.cell? ⟨w.heap.size,1,none⟩ = some (.string os):=by have:=HBX1.range 1 _ rfl;simpa using this
     have hbb:Below w1'.heap.size w1' (w1'.alloc (.cells [Value.int .i64 ok,.string os].toArray 59)):=(Below.refl _ _).alloc (Nat.le_refl _) _
     have HQ1:=Lib.hid (hq1.below hbb)
     have HBB:=Lib.hid (HB1.out.trans (hbb.mono HB1.out.size))
     have HNEW:Hid (∀ j u,[Value.int .i64 ok,.string os][j]? = some u → (w1'.alloc (.cells [Value.int .i64 ok,.string os].toArray 59)).cell? ((⟨w1'.heap.size,0,none⟩:Addr).add j) = some u):=Lib.hid (fun j u hj => cells_newL _ [Value.int .i64 ok,.string os] _ j u hj)
     have hs1a:wz.heap.size ≤ (w1'.alloc (.cells [Value.int .i64 ok,.string os].toArray 59)).heap.size:=Nat.le_trans hg1.size (by simp)
     have HLO1:=Lib.hid (fun g hg => (hq1.blkLt g hg).2)
     clear hq1 hg1 hbb HC1 HBX1
     go_wp2_with (first
      | (refine wpList_buildSlice_one rfl (.tmp 44) 25 59 rfl [.int .i64 ok,.string os] #[.int .i64 0,.string ⟨#[]⟩] rfl Tryz.underlying25 (fun w => by kernel_rfl) zeroO (by simp) (by simp) ?_)
      | (refine wpList_append_q rfl (.tmp 43) (.tmp 45) 25 rfl wz.heap.size 59 oi (.agg #[.int .i64 0,.string ⟨#[]⟩]) 2 24 Tryz.underlying25 hoi hoz hosz hoby rfl (by decide) _ k (flatC obC (l.take k)) rfl HQ1.out (some ⟨w1'.heap.size,0,none⟩) 1 1 [.int .i64 ok,.string os] rfl rfl (fun _ => ⟨_,rfl,HNEW.out⟩) (by simp [Value.oneCell']) (by unfold maxLen;omega) (by omega) hs1a ?_))
     intro v2 w2 hq2 hg2 _
     have HB2':=Lib.hid (HBB.out.grown hg2 HBB.out.size (fun g hg => Nat.le_trans hzs (HLO1.out g hg)))
     obtain ⟨sa,hsa⟩:∃ sa,(if cap = k then ao else ao.map (fun p:Addr => p.add (k * 2))) = sa:=⟨_,rfl⟩
     have HC3:Hid (0 < l.length - k → ∃ ad,sa = some ad ∧ ∀ q u,(flatC obC (l.drop k))[q]? = some u → w2.cell? (ad.add q) = some u):=Lib.hid (fun h0 => by
      obtain ⟨b2,o2,e,hc⟩:=HCE.out w2 HB2'.out k (by rw [List.length_drop];exact h0)
      have hck:cap ≠ k:=by omega
      refine ⟨⟨b2,o2 + k * 2,none⟩,by rw [← hsa,if_neg hck,e];exact congrArg some (Addr.add_mid b2 o2 (k * 2)),fun q u hu => ?_⟩
      rw [Addr.add_mid]
      exact hc (l.length - k) q u (by rw [List.take_of_length_le (by rw [List.length_drop];exact Nat.le_refl _)];exact hu))
     rw [hsa] at HSF
     have HQ2:=Lib.hid hq2
     have HLO2:=Lib.hid (fun g hg => (hq2.blkLt g hg).2)
     have hs22:wz.heap.size ≤ w2.heap.size:=Nat.le_trans hs1a hg2.size
     clear hq2 hg2 hsa HB1 HBB HQ1 HNEW HCE g0 g1
     go_wp2_with (first
      | (refine wpList_slice_run rfl 25 (.tmp 48) (.tmp 49) rfl (.slice ao l.length cap) (.int .i64 k) rfl rfl (.slice sa (l.length - k) (cap - k)) (HSF.out _) ?_)
      | (refine wpList_append_q rfl (.tmp 47) (.tmp 50) 25 rfl wz.heap.size 59 oi (.agg #[.int .i64 0,.string ⟨#[]⟩]) 2 24 Tryz.underlying25 hoi hoz hosz hoby rfl (by decide) v2 (k + 1) (flatC obC (l.take k) ++ [.int .i64 ok,.string os]) rfl HQ2.out sa (l.length - k) (cap - k) (flatC obC (l.drop k)) rfl HN3.out HC3.out (HF1.out _) (by unfold maxLen;omega) (by omega) hs22 ?_))
     intro v3 w3 hq3 hg3 _
     have hlen3:(l.take k ++ [(⟨ok,os⟩:Ob)] ++ l.drop k).length = k + 1 + (l.length - k):=by
      rw [List.length_append,List.length_append,List.length_take,List.length_drop,Nat.min_eq_left hk];rfl
     have hq4:OwnQ w3 wz.heap.size 2 v3 (l.take k ++ [(⟨ok,os⟩:Ob)] ++ l.drop k).length (flatC obC (l.take k ++ [⟨ok,os⟩] ++ l.drop k)):=by
      rw [hlen3,HFI.out]
      first
       | exact hq3
       | (rw [List.append_assoc];exact hq3)
       | (simpa using hq3)
     have HEND:Hid (ObRow w3 v3 (putO l ⟨ok,os⟩) ∧ CapI v3 ∧ Below w.heap.size w w3 ∧ ∀ g,v3.ownBlock = some g → w.heap.size ≤ g):=Lib.hid ⟨by
      rw [putO_new HPL.out HNE.out]
      exact rowOf_ownQ obC 2 (fun _ => rfl) hq4,fun ao' n' c' e => by
      rcases hq4.2 with ⟨e2,h0⟩ | ⟨g,off,cap',e2,_,_,hn,_⟩
      ·rw [e] at e2;cases e2;exact Nat.le_refl _
      ·rw [e] at e2;cases e2;exact hn,HB2'.out.grown hg3 HB2'.out.size (fun g hg => Nat.le_trans hzs (HLO2.out g hg)),fun g hg => by
     rcases hq4.2 with ⟨e2,_⟩ | ⟨g',off,cap',e2,hB,_⟩
     ·rw [e2] at hg;cases hg
     ·rw [e2] at hg;obtain rfl:g' = g:=Option.some.inj hg;exact Nat.le_trans hzs hB⟩
     clear hq3 hg3 hq4 hlen3
     go_wp2
     go_ret
     exact ⟨_,rfl,HEND.out.1,HEND.out.2.1,HEND.out.2.2.1,.inr HEND.out.2.2.2⟩
  ·have d1:decide ((k:Int) < l.length) = false:=decide_eq_false (by omega)
   have HPL:Hid (placeO l (idO ⟨ok,os⟩) = k):=Lib.hid (placeO_eq l _ k hk HLO.out (fun h => absurd h hlt))
   have HNE:Hid (∀ (hk:k < l.length),eqO l[k] ⟨ok,os⟩ = false):=Lib.hid (fun h => absurd h hlt)
   have d2:decide (k < l.length) = false:=decide_eq_false hlt
   clear hlt c2
   go_wp2
   refine wp_region_bq (by kernel_rfl) (by kernel_rfl) ?_
   repeat (go_big_quiet_step (fail))
   refine wpQuiet_nil ?_
   intro wq hbq
   have hbz:=HBO.out.trans (hbq.mono HBO.out.size)
   have hbz2:=HB.out.trans (hbq.mono hszo)
   have HBZ:=Lib.hid hbz
   have HBZ2:=Lib.hid hbz2
   obtain ⟨wp,hwp⟩:∃ wp,wp = wq:=⟨_,rfl⟩
   rw [← hwp] at HBZ HBZ2 ⊢
   clear hbq e0 e1 hbz hbz2 hwp
   go_wp2
   refine wp_region_bq (by kernel_rfl) (by kernel_rfl) ?_
   repeat (go_big_quiet_step (fail))
   refine wpQuiet_nil ?_
   intro wq hbq
   have HZ:=Lib.hid (HBZ.out.trans (hbq.mono HBZ.out.size))
   have HZ2:=Lib.hid (HBZ2.out.trans (hbq.mono HBZ2.out.size))
   obtain ⟨wz,hwz⟩:∃ wz,wz = wq:=⟨_,rfl⟩
   rw [← hwz] at HZ HZ2 ⊢
   clear hbq hwz
   -- the world wz,HZ:Below w .. wz,HZ2:Below W2 .. wz
   have hzs:=HZ.out.size
   have hxz:=HXW2.out.below HZ2.out
   have z0:wz.cell? ⟨w.heap.size,0,none⟩ = some (.int .i64 ok):=by have:=hxz.range 0 _ rfl;simpa using this
   have hxzl:=hxz.lt
   have HXZ:=Lib.hid hxz
   have HST:Hid (∀ W,(Instr.sliceAt 25 (.slice ao l.length cap) none (some (.int .i64 k)) none).run Tryz.prog W = .ok (.slice ao k cap) W):=Lib.hid (fun W => run_to_objs W ao l.length cap k (by omega))
   have HSF:Hid (∀ W,(Instr.sliceAt 25 (.slice ao l.length cap) (some (.int .i64 k)) none none).run Tryz.prog W = .ok (.slice (if cap = k then ao else ao.map (fun p:Addr => p.add (k * 2))) (l.length - k) (cap - k)) W):=Lib.hid (fun W => run_from_objs W ao l.length cap k hk)
   have HCE:Hid (∀ W,Below w.heap.size w W → ∀ m,0 < ((l.drop m).length) → ∃ b off,ao = some ⟨b,off,none⟩ ∧ ∀ n q u,(flatC obC ((l.drop m).take n))[q]? = some u → W.cell? ⟨b,off + m * 2 + q,none⟩ = some u):=Lib.hid (fun W hW m hm => by
    obtain ⟨b,off,e,hbl,hc⟩:=HRW.out (fun e => by rw [e] at hm;simp at hm)
    exact ⟨b,off,e,fun n q u hu => flat_sub (enc:=obC) (sz:=2) (fun _ => rfl) (fun i hi => rangeAt_below (hc i hi) hW hbl) m n q u hu⟩)
   have HN1:Hid ((flatC obC (l.take k)).length = k * 2):=Lib.hid (by rw [flatC_len obC 2 (fun _ => rfl),List.length_take,Nat.min_eq_left hk])
   have HN3:Hid ((flatC obC (l.drop k)).length = (l.length - k) * 2):=Lib.hid (by rw [flatC_len obC 2 (fun _ => rfl),List.length_drop])
   have HC1:Hid (0 < k → ∃ ad,ao = some ad ∧ ∀ q u,(flatC obC (l.take k))[q]? = some u → wz.cell? (ad.add q) = some u):=Lib.hid (fun h0 => by
    obtain ⟨b,off,e,hc⟩:=HCE.out wz HZ.out 0 (by rw [List.drop_zero];omega)
    refine ⟨_,e,fun q u hu => ?_⟩
    rw [Addr.add_mid]
    have:=hc k q u (by rw [List.drop_zero];exact hu)
    rwa [Nat.zero_mul,Nat.add_zero] at this)
   obtain ⟨oi,hoi,hoz,hosz,hoby⟩:=obj_info
   have HF1:Hid (∀ (m:List Ob) (v:Value),v ∈ flatC obC m → v.oneCell' = true):=Lib.hid (fun m v h => by
    obtain ⟨r,hr,hv⟩:=List.mem_flatten.1 h
    obtain ⟨e,_,rfl⟩:=List.mem_map.1 hr
    simp [obC] at hv
    rcases hv with rfl | rfl <;> rfl)
   have HFI:Hid (flatC obC (l.take k ++ [⟨ok,os⟩] ++ l.drop k) = flatC obC (l.take k) ++ [.int .i64 ok,.string os] ++ flatC obC (l.drop k)):=Lib.hid (by rw [flatC_append,flatC_append];rfl)
   clear z0 hxz
   go_wp2_with (first
    | (refine wpList_sliceH_run rfl 25 _ _ rfl _ _ rfl rfl _ (HST.out _) ?_)
    | (refine wpList_append_q rfl (.tmp 38) (.tmp 41) 25 rfl wz.heap.size 59 oi (.agg #[.int .i64 0,.string ⟨#[]⟩]) 2 24 Tryz.underlying25 hoi hoz hosz hoby rfl (by decide) _ 0 [] rfl (ownQ_nil _ _ _) ao k cap (flatC obC (l.take k)) rfl HN1.out HC1.out (HF1.out _) (by unfold maxLen;omega) (by omega) (Nat.le_refl _) ?_))
   intro v1 w1' hq1 hg1 _
   have HB1:=Lib.hid (HZ.out.grown hg1 hzs (fun j hj => by cases hj))
   have HBX1:=HXZ.out.kept hg1 (fun e => by cases e)
   have g0:w1'.cell? ⟨w.heap.size,0,none⟩ = some (.int .i64 ok):=by have:=HBX1.range 0 _ rfl;simpa using this
   have g1:w1'.cell? ⟨w.heap.size,1,none⟩ = some (.string os):=by have:=HBX1.range 1 _ rfl;simpa using this
   have hbb:Below w1'.heap.size w1' (w1'.alloc (.cells [Value.int .i64 ok,.string os].toArray 59)):=(Below.refl _ _).alloc (Nat.le_refl _) _
   have HQ1:=Lib.hid (hq1.below hbb)
   have HBB:=Lib.hid (HB1.out.trans (hbb.mono HB1.out.size))
   have HNEW:Hid (∀ j u,[Value.int .i64 ok,.string os][j]? = some u → (w1'.alloc (.cells [Value.int .i64 ok,.string os].toArray 59)).cell? ((⟨w1'.heap.size,0,none⟩:Addr).add j) = some u):=Lib.hid (fun j u hj => cells_newL _ [Value.int .i64 ok,.string os] _ j u hj)
   have hs1a:wz.heap.size ≤ (w1'.alloc (.cells [Value.int .i64 ok,.string os].toArray 59)).heap.size:=Nat.le_trans hg1.size (by simp)
   have HLO1:=Lib.hid (fun g hg => (hq1.blkLt g hg).2)
   clear hq1 hg1 hbb HC1 HBX1
   go_wp2_with (first
    | (refine wpList_buildSlice_one rfl (.tmp 44) 25 59 rfl [.int .i64 ok,.string os] #[.int .i64 0,.string ⟨#[]⟩] rfl Tryz.underlying25 (fun w => by kernel_rfl) zeroO (by simp) (by simp) ?_)
    | (refine wpList_append_q rfl (.tmp 43) (.tmp 45) 25 rfl wz.heap.size 59 oi (.agg #[.int .i64 0,.string ⟨#[]⟩]) 2 24 Tryz.underlying25 hoi hoz hosz hoby rfl (by decide) _ k (flatC obC (l.take k)) rfl HQ1.out (some ⟨w1'.heap.size,0,none⟩) 1 1 [.int .i64 ok,.string os] rfl rfl (fun _ => ⟨_,rfl,HNEW.out⟩) (by simp [Value.oneCell']) (by unfold maxLen;omega) (by omega) hs1a ?_))
   intro v2 w2 hq2 hg2 _
   have HB2':=Lib.hid (HBB.out.grown hg2 HBB.out.size (fun g hg => Nat.le_trans hzs (HLO1.out g hg)))
   obtain ⟨sa,hsa⟩:∃ sa,(if cap = k then ao else ao.map (fun p:Addr => p.add (k * 2))) = sa:=⟨_,rfl⟩
   have HC3:Hid (0 < l.length - k → ∃ ad,sa = some ad ∧ ∀ q u,(flatC obC (l.drop k))[q]? = some u → w2.cell? (ad.add q) = some u):=Lib.hid (fun h0 => by
    obtain ⟨b2,o2,e,hc⟩:=HCE.out w2 HB2'.out k (by rw [List.length_drop];exact h0)
    have hck:cap ≠ k:=by omega
    refine ⟨⟨b2,o2 + k * 2,none⟩,by rw [← hsa,if_neg hck,e];exact congrArg some (Addr.add_mid b2 o2 (k * 2)),fun q u hu => ?_⟩
    rw [Addr.add_mid]
    exact hc (l.length - k) q u (by rw [List.take_of_length_le (by rw [List.length_drop];exact Nat.le_refl _)];exact hu))
   rw [hsa] at HSF
   have HQ2:=Lib.hid hq2
   have HLO2:=Lib.hid (fun g hg => (hq2.blkLt g hg).2)
   have hs22:wz.heap.size ≤ w2.heap.size:=Nat.le_trans hs1a hg2.size
   clear hq2 hg2 hsa HB1 HBB HQ1 HNEW HCE g0 g1
   go_wp2_with (first
    | (refine wpList_slice_run rfl 25 (.tmp 48) (.tmp 49) rfl (.slice ao l.length cap) (.int .i64 k) rfl rfl (.slice sa (l.length - k) (cap - k)) (HSF.out _) ?_)
    | (refine wpList_append_q rfl (.tmp 47) (.tmp 50) 25 rfl wz.heap.size 59 oi (.agg #[.int .i64 0,.string ⟨#[]⟩]) 2 24 Tryz.underlying25 hoi hoz hosz hoby rfl (by decide) v2 (k + 1) (flatC obC (l.take k) ++ [.int .i64 ok,.string os]) rfl HQ2.out sa (l.length - k) (cap - k) (flatC obC (l.drop k)) rfl HN3.out HC3.out (HF1.out _) (by unfold maxLen;omega) (by omega) hs22 ?_))
   intro v3 w3 hq3 hg3 _
   have hlen3:(l.take k ++ [(⟨ok,os⟩:Ob)] ++ l.drop k).length = k + 1 + (l.length - k):=by
    rw [List.length_append,List.length_append,List.length_take,List.length_drop,Nat.min_eq_left hk];rfl
   have hq4:OwnQ w3 wz.heap.size 2 v3 (l.take k ++ [(⟨ok,os⟩:Ob)] ++ l.drop k).length (flatC obC (l.take k ++ [⟨ok,os⟩] ++ l.drop k)):=by
    rw [hlen3,HFI.out]
    first
     | exact hq3
     | (rw [List.append_assoc];exact hq3)
     | (simpa using hq3)
   have HEND:Hid (ObRow w3 v3 (putO l ⟨ok,os⟩) ∧ CapI v3 ∧ Below w.heap.size w w3 ∧ ∀ g,v3.ownBlock = some g → w.heap.size ≤ g):=Lib.hid ⟨by
    rw [putO_new HPL.out HNE.out]
    exact rowOf_ownQ obC 2 (fun _ => rfl) hq4,fun ao' n' c' e => by
    rcases hq4.2 with ⟨e2,h0⟩ | ⟨g,off,cap',e2,_,_,hn,_⟩
    ·rw [e] at e2;cases e2;exact Nat.le_refl _
    ·rw [e] at e2;cases e2;exact hn,HB2'.out.grown hg3 HB2'.out.size (fun g hg => Nat.le_trans hzs (HLO2.out g hg)),fun g hg => by
     rcases hq4.2 with ⟨e2,_⟩ | ⟨g',off,cap',e2,hB,_⟩
     ·rw [e2] at hg;cases hg
     ·rw [e2] at hg;obtain rfl:g' = g:=Option.some.inj hg;exact Nat.le_trans hzs hB⟩
   clear hq3 hg3 hq4 hlen3
   go_wp2
   go_ret
   exact ⟨_,rfl,HEND.out.1,HEND.out.2.1,HEND.out.2.2.1,.inr HEND.out.2.2.2⟩
end Go.Proofs.YtmhjpmenngjmeaaGreatDoor
namespace Go.Proofs.YtmhjpmenngjmeaaGreatDoor
open Go.RowKit
def ById (l:List Ob):Prop:=l.Pairwise fun a b => ltB (idO b) (idO a) = false
theorem placeO_le:∀ (l:List Ob) (x:Idl),placeO l x ≤ l.length:=fun l x => by unfold placeO;exact (List.takeWhile_sublist _).length_le
theorem placeO_low:∀ (l:List Ob) (x:Idl) (i:Nat) (hi:i < l.length),i < placeO l x → ltB (idO l[i]) x = true
 | [],_,_,hi,_ => by simp at hi
 | y :: l,x,i,hi,h => by
  unfold placeO at h
  rw [List.takeWhile_cons] at h
  by_cases h0:ltB (idO y) x = true
  ·rw [if_pos h0,List.length_cons] at h
   cases i with
   | zero => exact h0
   | succ i => exact placeO_low l x i (by simpa using hi) (by unfold placeO;omega)
  ·rw [if_neg h0] at h;simp at h
theorem placeO_at:∀ (l:List Ob) (x:Idl) (h:placeO l x < l.length),ltB (idO l[placeO l x]) x = false
 | [],_,h => by simp at h
 | y :: l,x,h => by
  by_cases h0:ltB (idO y) x = true
  ·have e:placeO (y :: l) x = placeO l x + 1:=by unfold placeO;rw [List.takeWhile_cons,if_pos h0];rfl
   have ih:=placeO_at l x (by rw [e] at h;simpa using h)
   have:(y :: l)[placeO (y :: l) x] = l[placeO l x]'(by rw [e] at h;simpa using h):=by simp [e]
   rw [this];exact ih
  ·have e:placeO (y :: l) x = 0:=by unfold placeO;rw [List.takeWhile_cons,if_neg h0];rfl
   have:(y :: l)[placeO (y :: l) x] = y:=by simp [e]
   rw [this];simpa using h0
theorem putO_cases (l:List Ob) (o:Ob):(putO l o = l ∧ o ∈ l) ∨ putO l o = l.take (placeO l (idO o)) ++ [o] ++ l.drop (placeO l (idO o)):=by
 unfold putO
 cases h:l[placeO l (idO o)]? with
 | none => exact .inr rfl
 | some y =>
  dsimp only
  by_cases e:eqO y o = true
  ·rw [if_pos e]
   rw [(eqO_iff y o).1 e] at h
   exact .inl ⟨rfl,List.mem_of_getElem? h⟩
  ·rw [if_neg e];exact .inr rfl
theorem putO_mem (l:List Ob) (o x:Ob):x ∈ putO l o ↔ x ∈ l ∨ x = o:=by
 rcases putO_cases l o with ⟨h,ho⟩ | h
 ·rw [h]
  exact ⟨.inl,fun h => h.elim id (fun e => by subst e;exact ho)⟩
 ·rw [h]
  have e:∀ x,x ∈ l ↔ x ∈ l.take (placeO l (idO o)) ∨ x ∈ l.drop (placeO l (idO o)):=fun x => by
   conv => lhs;rw [← List.take_append_drop (placeO l (idO o)) l]
   rw [List.mem_append]
  rw [List.mem_append,List.mem_append,List.mem_singleton,e]
  constructor
  ·rintro ((h | h) | h)
   ·exact .inl (.inl h)
   ·exact .inr h
   ·exact .inl (.inr h)
  ·rintro ((h | h) | h)
   ·exact .inl (.inl h)
   ·exact .inr h
   ·exact .inl (.inr h)
theorem putO_byId {l:List Ob} (h:ById l) (o:Ob):ById (putO l o):=by
 rcases putO_cases l o with ⟨e,_⟩ | e
 ·rw [e];exact h
 ·rw [e]
  have hk:=placeO_le l (idO o)
  have h1:∀ a ∈ l.take (placeO l (idO o)),ltB (idO a) (idO o) = true:=fun a ha => by
   obtain ⟨i,hi,rfl⟩:=List.mem_iff_getElem.1 ha
   rw [List.getElem_take]
   rw [List.length_take] at hi
   exact placeO_low l _ i (by omega) (by omega)
  have h2:∀ b ∈ l.drop (placeO l (idO o)),ltB (idO b) (idO o) = false:=fun b hb => by
   obtain ⟨i,hi,rfl⟩:=List.mem_iff_getElem.1 hb
   rw [List.getElem_drop]
   rw [List.length_drop] at hi
   have h0:=placeO_at l (idO o) (by omega)
   cases i with
   | zero => exact h0
   | succ i =>
    have h3:=List.pairwise_iff_getElem.1 h (placeO l (idO o)) (placeO l (idO o) + (i + 1)) (by omega) (by omega) (by omega)
    exact ltB_le h0 h3
  unfold ById at h ⊢
  rw [List.pairwise_append,List.pairwise_append]
  refine ⟨⟨h.sublist (List.take_sublist _ _),List.pairwise_singleton _ _,fun a ha b hb => ?_⟩,h.sublist (List.drop_sublist _ _),fun a ha b hb => ?_⟩
  ·rw [List.mem_singleton.1 hb]
   exact ltB_asymm (h1 a ha)
  ·rcases List.mem_append.1 ha with ha | ha
   ·cases h3:ltB (idO b) (idO a) with
    | false => rfl
    | true =>
     have h4:=h2 b hb
     rw [ltB_trans h3 (h1 a ha)] at h4;cases h4
   ·rw [List.mem_singleton.1 ha];exact h2 b hb
def OneId (l:List Ob):Prop:=∀ a ∈ l,∀ b ∈ l,idO a = idO b → a = b
theorem putO_old {l:List Ob} {o:Ob} (h:ById l) (h1:OneId (putO l o)) (ho:o ∈ l):putO l o = l:=by
 obtain ⟨j,hj,hjo⟩:=List.mem_iff_getElem.1 ho
 have hkj:placeO l (idO o) ≤ j:=by
  refine Nat.le_of_not_lt fun hlt => ?_
  have:=placeO_low l (idO o) j hj hlt
  rw [hjo,ltB_irrefl] at this;cases this
 have hk:placeO l (idO o) < l.length:=by omega
 have h2:=placeO_at l (idO o) hk
 have h3:ltB (idO o) (idO l[placeO l (idO o)]) = false:=by
  by_cases e:placeO l (idO o) = j
  ·have:l[placeO l (idO o)] = o:=by simp [e,hjo]
   rw [this];exact ltB_irrefl _
  ·have:=List.pairwise_iff_getElem.1 h (placeO l (idO o)) j hk hj (by omega)
   rwa [hjo] at this
 have h4:=ltB_total h2 h3
 have h5:=h1 _ ((putO_mem l o _).2 (.inl (List.getElem_mem hk))) _ ((putO_mem l o _).2 (.inr rfl)) h4
 exact putO_same (y:=l[placeO l (idO o)]) rfl hk rfl (by rw [h5];exact (eqO_iff _ _).2 rfl)
theorem putO_nodup {l:List Ob} {o:Ob} (h:ById l) (h1:OneId (putO l o)) (hn:l.Nodup):(putO l o).Nodup:=by
 by_cases ho:o ∈ l
 ·rw [putO_old h h1 ho];exact hn
 ·rcases putO_cases l o with ⟨_,h2⟩ | e
  ·exact absurd h2 ho
  ·rw [e]
   have hp:(l.take (placeO l (idO o)) ++ [o] ++ l.drop (placeO l (idO o))).Perm (o :: l):=by
    rw [List.append_assoc]
    refine List.perm_middle.trans ?_
    show (o :: (List.take (placeO l (idO o)) l ++ List.drop (placeO l (idO o)) l)).Perm (o :: l)
    rw [List.take_append_drop]
   exact hp.nodup_iff.2 (List.nodup_cons.2 ⟨ho,hn⟩)
end Go.Proofs.YtmhjpmenngjmeaaGreatDoor
namespace Go.Proofs.YtmhjpmenngjmeaaGreatDoor
open Go.RowKit
abbrev DRes:=Option (List Ob × Idl)
def docLoop (rec:List Lf → List Ob → DRes) (L:List Lf):List Lf → List ByteArray → List Ob → List Ent → Option (List Ob × List Ent)
 | [],_,out,es => some (out,es)
 | f :: rest,seen,out,es => match cutS f.1 with
  | none => if rightOb (blobO f) = true then docLoop rec L rest seen (putO out (blobO f)) (es ++ [blobE f]) else none
  | some (a,_) => if inB a seen = true then docLoop rec L rest seen out es else match rec (underOf a L) out with
   | none => none
   | some (out',id) => docLoop rec L rest (seen ++ [a]) out' (es ++ [⟨a,2,id⟩])
def docT:Nat → List Lf → List Ob → DRes
 | 0,_,_ => none
 | k + 1,L,out => match docLoop (docT k) L L [] out [] with
  | none => none
  | some (out',es) => if treeOk (sortEn es) = true then some (putO out' (treeOb (sortEn es)),idO (treeOb (sortEn es))) else none
structure Grew (out:List Ob) (os:List Ob) (out':List Ob):Prop where
 mem:∀ o,o ∈ out' ↔ o ∈ out ∨ o ∈ os
 byId:ById out → ById out'
 nodup:ById out → OneId out' → out.Nodup → out'.Nodup
theorem Grew.refl (out:List Ob):Grew out [] out:=⟨fun o => by simp,id,fun _ _ h => h⟩
theorem Grew.put (out:List Ob) (o:Ob):Grew out [o] (putO out o):=⟨fun x => by rw [putO_mem];simp,fun h => putO_byId h o,fun h h1 hn => putO_nodup h h1 hn⟩
theorem Grew.trans {a b c os os2:List Ob} (h:Grew a os b) (k:Grew b os2 c):Grew a (os ++ os2) c :=
 ⟨fun o => by rw [k.mem,h.mem,List.mem_append,or_assoc],fun hb => k.byId (h.byId hb),fun hb h1 hn => k.nodup (h.byId hb) h1 (h.nodup hb (fun x hx y hy e => h1 x ((k.mem x).2 (.inl hx)) y ((k.mem y).2 (.inl hy)) e) hn)⟩
theorem Grew.same {a b os os2:List Ob} (h:Grew a os b) (hm:∀ o,o ∈ os ↔ o ∈ os2):Grew a os2 b:=⟨fun o => by rw [h.mem,hm],h.byId,h.nodup⟩
def RecOk (tr:List Lf → Option (List Ob × Idl)) (rec:List Lf → List Ob → DRes):Prop :=
 ∀ L out,(tr L = none → rec L out = none) ∧ ∀ os x,tr L = some (os,x) → ∃ out',rec L out = some (out',x) ∧ Grew out os out'
def dirEn (tr:List Lf → Option (List Ob × Idl)) (L:List Lf) (d:ByteArray):Ent:=⟨d,2,((tr (underOf d L)).getD ([],zid)).2⟩
def dirOs (tr:List Lf → Option (List Ob × Idl)) (L:List Lf) (d:ByteArray):List Ob:=((tr (underOf d L)).getD ([],zid)).1
theorem docLoop_ok {tr:List Lf → Option (List Ob × Idl)} {rec:List Lf → List Ob → DRes} (hrec:RecOk tr rec) (L:List Lf):∀ (rest P:List Lf) (out:List Ob) (es:List Ent),
  (∀ f ∈ blobsOf (P ++ rest),rightOb (blobO f) = true) → (∀ d ∈ dirsOf (P ++ rest),(tr (underOf d L)).isSome = true) →
  es.Perm ((blobsOf P).map blobE ++ (dirsOf P).map (dirEn tr L)) →
  ∃ out' es',docLoop rec L rest (dirsOf P) out es = some (out',es') ∧ es'.Perm ((blobsOf (P ++ rest)).map blobE ++ (dirsOf (P ++ rest)).map (dirEn tr L)) ∧
   ∃ os,Grew out os out' ∧ ∀ o,(o ∈ (blobsOf P).map blobO ++ (dirsOf P).flatMap (dirOs tr L) ∨ o ∈ os) ↔ o ∈ (blobsOf (P ++ rest)).map blobO ++ (dirsOf (P ++ rest)).flatMap (dirOs tr L)
 | [],P,out,es,_,_,hes => ⟨out,es,rfl,by rw [List.append_nil];exact hes,[],Grew.refl out,fun o => by rw [List.append_nil];simp⟩
 | f :: rest,P,out,es,hb,hd,hes => by
  have e:P ++ f :: rest = (P ++ [f]) ++ rest:=by simp
  rw [e] at hb hd ⊢
  unfold docLoop
  cases hc:cutS f.1 with
  | none =>
   have hbs:blobsOf (P ++ [f]) = blobsOf P ++ [f]:=by rw [blobsOf_snoc,if_pos (by rw [hc];rfl)]
   have hds:dirsOf (P ++ [f]) = dirsOf P:=by rw [dirsOf_snoc];unfold dirsGo;rw [hc]
   have hr:rightOb (blobO f) = true:=hb f (by
    unfold blobsOf
    rw [List.mem_filter]
    exact ⟨by simp,by rw [hc];rfl⟩)
   dsimp only
   rw [if_pos hr,← hds]
   obtain ⟨out',es',h1,h2,os,h3,h4⟩:=docLoop_ok hrec L rest (P ++ [f]) (putO out (blobO f)) (es ++ [blobE f]) hb hd (by
    rw [hbs,hds,List.map_append]
    refine (hes.append_right _).trans ?_
    rw [List.append_assoc,List.append_assoc]
    exact List.Perm.append_left _ List.perm_append_comm)
   refine ⟨out',es',h1,h2,blobO f :: os,?_,fun o => ?_⟩
   ·exact (Grew.put out (blobO f)).trans h3
   ·rw [← h4 o,hbs,hds,List.map_append]
    simp only [List.mem_append,List.mem_cons,List.map_cons,List.map_nil,List.not_mem_nil,or_false]
    constructor
    ·rintro ((h | h) | (h | h))
     ·exact .inl (.inl (.inl h))
     ·exact .inl (.inr h)
     ·exact .inl (.inl (.inr h))
     ·exact .inr h
    ·rintro (((h | h) | h) | h)
     ·exact .inl (.inl h)
     ·exact .inr (.inl h)
     ·exact .inl (.inr h)
     ·exact .inr (.inr h)
  | some p =>
   obtain ⟨a,r⟩:=p
   have hbs:blobsOf (P ++ [f]) = blobsOf P:=by rw [blobsOf_snoc,if_neg (by rw [hc];simp),List.append_nil]
   dsimp only
   by_cases ha:inB a (dirsOf P) = true
   ·have hds:dirsOf (P ++ [f]) = dirsOf P:=by rw [dirsOf_snoc];unfold dirsGo;rw [hc];dsimp only;rw [if_pos ha]
    rw [if_pos ha]
    have:=docLoop_ok hrec L rest (P ++ [f]) out es hb hd (by rw [hbs,hds];exact hes)
    rwa [hbs,hds] at this
   ·have hds:dirsOf (P ++ [f]) = dirsOf P ++ [a]:=by rw [dirsOf_snoc];unfold dirsGo;rw [hc];dsimp only;rw [if_neg ha]
    rw [if_neg ha]
    have hsome:=hd a (by
     rw [dirsOf_mem]
     have h0:a ∈ dirsOf (P ++ [f]):=by rw [hds];simp
     rw [dirsOf_mem] at h0
     unfold underOf at h0 ⊢
     rw [List.filterMap_append]
     intro h
     exact h0 (List.append_eq_nil_iff.1 h).1)
    obtain ⟨⟨os0,x0⟩,ht⟩:=Option.isSome_iff_exists.1 hsome
    obtain ⟨out1,hr1,hg1⟩:=(hrec (underOf a L) out).2 os0 x0 ht
    rw [hr1]
    dsimp only
    have hen:dirEn tr L a = ⟨a,2,x0⟩:=by unfold dirEn;rw [ht];rfl
    have hos:dirOs tr L a = os0:=by unfold dirOs;rw [ht];rfl
    rw [← hds]
    obtain ⟨out',es',h1,h2,os,h3,h4⟩:=docLoop_ok hrec L rest (P ++ [f]) out1 (es ++ [⟨a,2,x0⟩]) hb hd (by
     rw [hbs,hds,List.map_append,← List.append_assoc]
     simp only [List.map_cons,List.map_nil,hen]
     exact hes.append_right _)
    refine ⟨out',es',h1,h2,os0 ++ os,hg1.trans h3,fun o => ?_⟩
    rw [← h4 o,hbs,hds,List.flatMap_append]
    simp only [List.flatMap_cons,List.flatMap_nil,List.append_nil,hos,List.mem_append]
    constructor
    ·rintro ((h | h) | (h | h))
     ·exact .inl (.inl h)
     ·exact .inl (.inr (.inl h))
     ·exact .inl (.inr (.inr h))
     ·exact .inr h
    ·rintro ((h | (h | h)) | h)
     ·exact .inl (.inl h)
     ·exact .inl (.inr h)
     ·exact .inr (.inl h)
     ·exact .inr (.inr h)
theorem docLoop_no {tr:List Lf → Option (List Ob × Idl)} {rec:List Lf → List Ob → DRes} (hrec:RecOk tr rec) (L:List Lf):∀ (rest P:List Lf) (out:List Ob) (es:List Ent),
  ((∃ f ∈ blobsOf rest,rightOb (blobO f) = false) ∨ ∃ d ∈ dirsOf (P ++ rest),d ∉ dirsOf P ∧ tr (underOf d L) = none) → docLoop rec L rest (dirsOf P) out es = none
 | [],P,out,es,h => by
  rcases h with ⟨f,hf,_⟩ | ⟨d,h1,h2,_⟩
  ·simp [blobsOf] at hf
  ·rw [List.append_nil] at h1;exact absurd h1 h2
 | f :: rest,P,out,es,h => by
  have e:P ++ f :: rest = (P ++ [f]) ++ rest:=by simp
  rw [e] at h
  unfold docLoop
  cases hc:cutS f.1 with
  | none =>
   have hds:dirsOf (P ++ [f]) = dirsOf P:=by rw [dirsOf_snoc];unfold dirsGo;rw [hc]
   have hbs:blobsOf (f :: rest) = f :: blobsOf rest:=by unfold blobsOf;rw [List.filter_cons,if_pos (by rw [hc];rfl)]
   dsimp only
   by_cases hr:rightOb (blobO f) = true
   ·rw [if_pos hr,← hds]
    refine docLoop_no hrec L rest (P ++ [f]) _ _ ?_
    rcases h with ⟨g,hg,hgr⟩ | ⟨d,h1,h2,h3⟩
    ·rw [hbs] at hg
     rcases List.mem_cons.1 hg with rfl | hg
     ·rw [hr] at hgr;cases hgr
     ·exact .inl ⟨g,hg,hgr⟩
    ·exact .inr ⟨d,h1,by rw [hds];exact h2,h3⟩
   ·rw [if_neg hr]
  | some p =>
   obtain ⟨a,r⟩:=p
   have hbs:blobsOf (f :: rest) = blobsOf rest:=by unfold blobsOf;rw [List.filter_cons,if_neg (by rw [hc];simp)]
   rw [hbs] at h
   dsimp only
   by_cases ha:inB a (dirsOf P) = true
   ·have hds:dirsOf (P ++ [f]) = dirsOf P:=by rw [dirsOf_snoc];unfold dirsGo;rw [hc];dsimp only;rw [if_pos ha]
    rw [if_pos ha,← hds]
    exact docLoop_no hrec L rest (P ++ [f]) _ _ (h.imp id (fun ⟨d,h1,h2,h3⟩ => ⟨d,h1,by rw [hds];exact h2,h3⟩))
   ·have hds:dirsOf (P ++ [f]) = dirsOf P ++ [a]:=by rw [dirsOf_snoc];unfold dirsGo;rw [hc];dsimp only;rw [if_neg ha]
    rw [if_neg ha]
    cases ht:tr (underOf a L) with
    | none => rw [(hrec (underOf a L) out).1 ht]
    | some q =>
     obtain ⟨os0,x0⟩:=q
     obtain ⟨out1,hr1,_⟩:=(hrec (underOf a L) out).2 os0 x0 ht
     rw [hr1]
     dsimp only
     rw [← hds]
     refine docLoop_no hrec L rest (P ++ [f]) _ _ (h.imp id (fun ⟨d,h1,h2,h3⟩ => ⟨d,h1,?_,h3⟩))
     rw [hds,List.mem_append,List.mem_singleton]
     rintro (h4 | h4)
     ·exact h2 h4
     ·rw [h4,ht] at h3;cases h3
theorem docT_ok:∀ k:Nat,RecOk (trS k) (docT k)
 | 0 => fun L out => ⟨fun _ => rfl,fun os x h => by cases h⟩
 | k + 1 => fun L out => by
  have ih:=docT_ok k
  by_cases hg:(∀ f ∈ blobsOf L,rightOb (blobO f) = true) ∧ ∀ d ∈ dirsOf L,(trS k (underOf d L)).isSome = true
  ·obtain ⟨out',es',h1,h2,os,h3,h4⟩:=docLoop_ok ih L L [] out [] (by simpa using hg.1) (by simpa using hg.2) (by simp [blobsOf,dirsOf])
   rw [List.nil_append] at h2 h4
   have hperm:(sortEn es').Perm (sortEn (entsB (trS k) L)):=(sortEn_perm _).trans (h2.trans (sortEn_perm _).symm)
   have htk:treeOk (sortEn es') = treeOk (sortEn (entsB (trS k) L)):=treeOk_perm hperm (sortEn_row _) (sortEn_row _)
   have hok:okB (trS k) L = treeOk (sortEn es'):=by
    unfold okB
    rw [List.all_eq_true.2 hg.1,List.all_eq_true.2 hg.2,htk];rfl
   have hdoc:docLoop (docT k) L L [] out [] = some (out',es'):=h1
   cases ht:treeOk (sortEn es') with
   | false =>
    rw [ht] at hok
    refine ⟨fun _ => ?_,fun os x h => by rw [trS_none hok] at h;cases h⟩
    unfold docT
    rw [hdoc]
    dsimp only
    rw [if_neg (by rw [ht];simp)]
   | true =>
    rw [ht] at hok
    have heq:sortEn es' = sortEn (entsB (trS k) L):=treeOk_order hperm (sortEn_row _) ht
    have htr:trS (k + 1) L = some (objsB (trS k) L,idO (treeOb (sortEn (entsB (trS k) L)))):=by
     unfold trS;rw [if_pos hok]
    refine ⟨fun h => (by rw [htr] at h;cases h),fun os' x h => ?_⟩
    rw [htr] at h
    cases h
    refine ⟨putO out' (treeOb (sortEn es')),?_,?_⟩
    ·unfold docT
     rw [hdoc]
     dsimp only
     rw [if_pos ht,heq]
    ·refine (h3.trans (Grew.put out' (treeOb (sortEn es')))).same fun o => ?_
     have h5:=h4 o
     simp only [blobsOf,dirsOf,List.filter_nil,List.map_nil,List.foldl_nil,List.flatMap_nil,List.append_nil,List.not_mem_nil,false_or] at h5
     unfold objsB
     rw [List.mem_append,List.mem_append,heq]
     constructor
     ·rintro (h | h)
      ·exact .inl (h5.1 h)
      ·exact .inr h
     ·rintro (h | h)
      ·exact .inl (h5.2 h)
      ·exact .inr h
  ·have hno:(∃ f ∈ blobsOf L,rightOb (blobO f) = false) ∨ ∃ d ∈ dirsOf ([] ++ L),d ∉ dirsOf [] ∧ trS k (underOf d L) = none:=by
    refine Classical.byContradiction fun hn => hg ⟨fun f hf => ?_,fun d hd => ?_⟩
    ·cases h:rightOb (blobO f) with
     | true => rfl
     | false => exact absurd (.inl ⟨f,hf,h⟩) hn
    ·cases h:trS k (underOf d L) with
     | some _ => rfl
     | none => exact absurd (.inr ⟨d,by simpa using hd,by simp [dirsOf],h⟩) hn
   have hdoc:docLoop (docT k) L L [] out [] = none:=docLoop_no ih L L [] out [] hno
   have hok:okB (trS k) L = false:=by
    rcases hno with ⟨f,hf,h⟩ | ⟨d,hd,_,h⟩
    ·unfold okB
     rw [show ((blobsOf L).all fun f => rightOb (blobO f)) = false from List.all_eq_false.2 ⟨f,hf,by rw [h];simp⟩]
     rfl
    ·exact okB_dir (by simpa using hd) h
   refine ⟨fun _ => ?_,fun os x h => by rw [trS_none hok] at h;cases h⟩
   unfold docT
   rw [hdoc]
end Go.Proofs.YtmhjpmenngjmeaaGreatDoor
namespace Go.Proofs.YtmhjpmenngjmeaaGreatDoor
open Go.RowKit
theorem asc_of {l:List Ob} (h:ById l) (h1:OneId l) (hn:l.Nodup):AscL (l.map idO):=by
 unfold AscL
 rw [List.pairwise_map]
 refine ((h.and hn).imp_of_mem ?_)
 rintro a b ha hb ⟨h2,h3⟩
 cases h4:ltB (idO a) (idO b) with
 | true => rfl
 | false => exact absurd (h1 a ha b hb (ltB_total h4 h2)) h3
theorem same_objs {os out:List Ob} {M:Idl → Option Ob} {ids:List Idl} (hp:PutAll os (fun _ => none) M) (ha:AscL ids) (hi:∀ q,q ∈ ids ↔ q ∈ os.map idO) (hg:Grew [] os out) (h1:OneId out) :
  (ids.map fun q => (M q).getD ob0) = out:=by
 have hm:∀ o,o ∈ out ↔ o ∈ os:=fun o => by rw [hg.mem];simp
 have hb:ById out:=hg.byId List.Pairwise.nil
 have hn:out.Nodup:=hg.nodup List.Pairwise.nil h1 List.nodup_nil
 have hids:ids = out.map idO:=ascL_ext ha (asc_of hb h1 hn) fun q => by
  rw [hi,List.mem_map,List.mem_map]
  constructor
  ·rintro ⟨o,ho,e⟩;exact ⟨o,(hm o).2 ho,e⟩
  ·rintro ⟨o,ho,e⟩;exact ⟨o,(hm o).1 ho,e⟩
 rw [hids,List.map_map]
 conv => rhs;rw [← List.map_id out]
 refine List.map_congr_left fun o ho => ?_
 show (M (idO o)).getD ob0 = o
 rcases hp (idO o) with ⟨o',ho',h2,h3⟩ | ⟨h2,_⟩
 ·rw [h3];exact h1 o' ((hm o').2 ho') o ho h2
 ·exact absurd rfl (h2 o ((hm o).1 ho))
theorem oneId_of {l:List Ob} (hr:∀ o ∈ l,rightOb o = true) (hc:clashB l = false):OneId l:=fun a ha b hb e => clash_no hc (List.mem_filter.2 ⟨ha,hr a ha⟩) (List.mem_filter.2 ⟨hb,hr b hb⟩) e
theorem entsB_32 (k:Nat) (L:List Lf):∀ e ∈ entsB (trS k) L,e.id.length = 32:=fun e he => by
 unfold entsB at he
 rcases List.mem_append.1 he with he | he
 ·obtain ⟨f,_,rfl⟩:=List.mem_map.1 he
  exact idO_len _
 ·obtain ⟨d,_,rfl⟩:=List.mem_map.1 he
  exact trS_len k _
theorem trS_right:∀ (k:Nat) (L:List Lf) (os:List Ob) (x:Idl),trS k L = some (os,x) → ∀ o ∈ os,rightOb o = true
 | 0,L,os,x,h,_,_ => by cases h
 | k + 1,L,os,x,h,o,ho => by
  by_cases hok:okB (trS k) L = true
  ·have htr:trS (k + 1) L = some (objsB (trS k) L,idO (treeOb (sortEn (entsB (trS k) L)))):=by unfold trS;rw [if_pos hok]
   rw [htr] at h
   cases h
   unfold okB at hok
   simp only [Bool.and_eq_true,List.all_eq_true] at hok
   unfold objsB at ho
   rcases List.mem_append.1 ho with ho | ho
   ·rcases List.mem_append.1 ho with ho | ho
    ·obtain ⟨f,hf,rfl⟩:=List.mem_map.1 ho
     exact hok.1.1 f hf
    ·obtain ⟨d,hd,ho⟩:=List.mem_flatMap.1 ho
     obtain ⟨⟨os2,x2⟩,h2⟩:=Option.isSome_iff_exists.1 (hok.1.2 d hd)
     rw [h2] at ho
     exact trS_right k (underOf d L) os2 x2 h2 o ho
   ·rw [List.mem_singleton.1 ho]
    exact tree_right hok.2 (fun e he => entsB_32 k L e ((sortEn_perm _).mem_iff.1 he))
  ·rw [trS_none (by simpa using hok)] at h;cases h
end Go.Proofs.YtmhjpmenngjmeaaGreatDoor
namespace Go.Proofs.YtmhjpmenngjmeaaGreatDoor
open Go.RowKit
def docFrom (rec:List Lf → List Ob → DRes) (L:List Lf) (i:Nat) (out:List Ob) (es:List Ent):Option (List Ob × List Ent):=docLoop rec L (L.drop i) (dirsOf (L.take i)) out es
variable {rec:List Lf → List Ob → DRes} {L:List Lf} {i:Nat} {out:List Ob} {es:List Ent} {f:Lf}
theorem docFrom_end (h:L.length ≤ i):docFrom rec L i out es = some (out,es):=by unfold docFrom;rw [List.drop_eq_nil_of_le h];rfl
theorem docFrom_open (h:i < L.length) (hf:L[i] = f):docFrom rec L i out es = docLoop rec L (f :: L.drop (i + 1)) (dirsOf (L.take i)) out es:=by
 unfold docFrom;rw [List.drop_eq_getElem_cons h,hf]
theorem dirs_next (h:i < L.length) (hf:L[i] = f):dirsOf (L.take (i + 1)) = dirsGo (dirsOf (L.take i)) f:=by rw [take_snoc L i h,hf,dirsOf_snoc]
theorem docFrom_blob (h:i < L.length) (hf:L[i] = f) (hc:cutS f.1 = none) (hr:rightOb (blobO f) = true):docFrom rec L i out es = docFrom rec L (i + 1) (putO out (blobO f)) (es ++ [blobE f]):=by
 have hd:dirsOf (L.take (i + 1)) = dirsOf (L.take i):=by rw [dirs_next h hf];unfold dirsGo;rw [hc]
 rw [docFrom_open h hf]
 unfold docFrom
 rw [hd]
 conv => lhs;unfold docLoop
 rw [hc]
 exact if_pos hr
theorem docFrom_wrong (h:i < L.length) (hf:L[i] = f) (hc:cutS f.1 = none) (hr:rightOb (blobO f) = false):docFrom rec L i out es = none:=by
 rw [docFrom_open h hf]
 unfold docLoop
 rw [hc]
 exact if_neg (by rw [hr];simp)
variable {a r:ByteArray}
theorem docFrom_was (h:i < L.length) (hf:L[i] = f) (hc:cutS f.1 = some (a,r)) (hw:inB a (dirsOf (L.take i)) = true):docFrom rec L i out es = docFrom rec L (i + 1) out es:=by
 have hd:dirsOf (L.take (i + 1)) = dirsOf (L.take i):=by rw [dirs_next h hf];unfold dirsGo;rw [hc];exact if_pos hw
 rw [docFrom_open h hf]
 unfold docFrom
 rw [hd]
 conv => lhs;unfold docLoop
 rw [hc]
 exact if_pos hw
theorem docFrom_none (h:i < L.length) (hf:L[i] = f) (hc:cutS f.1 = some (a,r)) (hw:inB a (dirsOf (L.take i)) = false) (hn:rec (underOf a L) out = none):docFrom rec L i out es = none:=by
 rw [docFrom_open h hf]
 unfold docLoop
 rw [hc]
 dsimp only
 rw [if_neg (by rw [hw];simp),hn]
theorem docFrom_dir (h:i < L.length) (hf:L[i] = f) (hc:cutS f.1 = some (a,r)) (hw:inB a (dirsOf (L.take i)) = false) {out':List Ob} {x:Idl} (hs:rec (underOf a L) out = some (out',x)):docFrom rec L i out es = docFrom rec L (i + 1) out' (es ++ [⟨a,2,x⟩]):=by
 have hd:dirsOf (L.take (i + 1)) = dirsOf (L.take i) ++ [a]:=by rw [dirs_next h hf];unfold dirsGo;rw [hc];exact if_neg (by rw [hw];simp)
 rw [docFrom_open h hf]
 unfold docFrom
 rw [hd]
 conv => lhs;unfold docLoop
 rw [hc]
 dsimp only
 rw [if_neg (by rw [hw];simp),hs]
theorem docT_from (k:Nat) (L:List Lf) (out:List Ob):docT (k + 1) L out = match docFrom (docT k) L 0 out [] with
  | none => none
  | some (out',es) => if treeOk (sortEn es) = true then some (putO out' (treeOb (sortEn es)),idO (treeOb (sortEn es))) else none:=rfl
end Go.Proofs.YtmhjpmenngjmeaaGreatDoor
namespace Go.Proofs.YtmhjpmenngjmeaaGreatDoor
open Go.RowKit
theorem putO_len (l:List Ob) (o:Ob):(putO l o).length ≤ l.length + 1:=by
 rcases putO_cases l o with ⟨h,_⟩ | h
 ·rw [h];omega
 ·rw [h];simp only [List.length_append,List.length_take,List.length_drop,List.length_cons,List.length_nil];omega
theorem dirsGo_ext (acc:List ByteArray) (f:Lf):∃ r,dirsGo acc f = acc ++ r:=by
 unfold dirsGo
 split
 ·split
  ·exact ⟨[],by simp⟩
  ·exact ⟨_,rfl⟩
 ·exact ⟨[],by simp⟩
theorem dirs_ext:∀ (L:List Lf) (acc:List ByteArray),∃ r,L.foldl dirsGo acc = acc ++ r
 | [],acc => ⟨[],by simp⟩
 | f :: L,acc => by
  obtain ⟨r,h⟩:=dirsGo_ext acc f
  obtain ⟨s,k⟩:=dirs_ext L (dirsGo acc f)
  exact ⟨r ++ s,by rw [List.foldl_cons,k,h,List.append_assoc]⟩
theorem dirs_take (L:List Lf) (i:Nat):∃ r,dirsOf L = dirsOf (L.take i) ++ r:=by
 obtain ⟨r,h⟩:=dirs_ext (L.drop i) (dirsOf (L.take i))
 refine ⟨r,?_⟩
 rw [← h]
 show L.foldl dirsGo [] = _
 conv => lhs;rw [← List.take_append_drop i L]
 rw [List.foldl_append];rfl
theorem sumN_append (k:Nat) (L:List Lf) (a b:List ByteArray):sumN k L (a ++ b) = sumN k L a + sumN k L b:=by unfold sumN;rw [List.map_append,List.sum_append]
theorem sumN_take (k:Nat) (L:List Lf) (i:Nat):sumN k L (dirsOf (L.take i)) ≤ sumN k L (dirsOf L):=by
 obtain ⟨r,h⟩:=dirs_take L i
 rw [h,sumN_append];omega
theorem dir_here {L:List Lf} {i:Nat} {f:Lf} {a r:ByteArray} (h:i < L.length) (hf:L[i] = f) (hc:cutS f.1 = some (a,r)):a ∈ dirsOf L:=by
 rw [dirsOf_mem]
 have hm:(r,f.2) ∈ underOf a L:=by
  unfold underOf
  rw [List.mem_filterMap]
  refine ⟨f,hf ▸ List.getElem_mem h,?_⟩
  unfold underGo
  rw [hc]
  exact if_pos rfl
 exact fun e => by rw [e] at hm;cases hm
theorem sumN_dir {k:Nat} {L:List Lf} {i:Nat} {f:Lf} {a r:ByteArray} (h:i < L.length) (hf:L[i] = f) (hc:cutS f.1 = some (a,r)) (hw:inB a (dirsOf (L.take i)) = false) :
  sumN k L (dirsOf (L.take (i + 1))) = sumN k L (dirsOf (L.take i)) + putsN k (underOf a L):=by
 have hd:dirsOf (L.take (i + 1)) = dirsOf (L.take i) ++ [a]:=by rw [dirs_next h hf];unfold dirsGo;rw [hc];exact if_neg (by rw [hw];simp)
 rw [hd,sumN_append];simp [sumN]
theorem sumN_was {k:Nat} {L:List Lf} {i:Nat} (h:i < L.length):sumN k L (dirsOf (L.take i)) ≤ sumN k L (dirsOf (L.take (i + 1))):=by
 have:=sumN_take k L
 rw [dirs_next h rfl]
 obtain ⟨r,e⟩:=dirsGo_ext (dirsOf (L.take i)) L[i]
 rw [e,sumN_append];omega
theorem blobs_next {L:List Lf} {i:Nat} {f:Lf} (h:i < L.length) (hf:L[i] = f) (hc:cutS f.1 = none):(blobsOf (L.take (i + 1))).length = (blobsOf (L.take i)).length + 1:=by
 rw [take_snoc L i h,hf,blobsOf_snoc,if_pos (by rw [hc];rfl),List.length_append];rfl
theorem blobs_mono {L:List Lf} {i:Nat} (h:i < L.length):(blobsOf (L.take i)).length ≤ (blobsOf (L.take (i + 1))).length:=by
 rw [take_snoc L i h,blobsOf_snoc,List.length_append];omega
theorem inB_snoc (a b:ByteArray) (l:List ByteArray):inB a (l ++ [b]) = (inB a l || decide (b = a)):=by unfold inB;simp
theorem was_yes {L:List Lf} {i j:Nat} {f:Lf} {a r:ByteArray} (h:j < L.length) (hf:L[j] = f) (hc:cutS f.1 = some (a,r)) :
  inB a (dirsOf (L.take (min i (j + 1)))) = (inB a (dirsOf (L.take (min i j))) || decide (j < i)):=by
 by_cases hji:j < i
 ·rw [Nat.min_eq_right (by omega),Nat.min_eq_right (by omega),decide_eq_true hji,Bool.or_true,dirs_next h hf]
  unfold dirsGo
  rw [hc]
  dsimp only
  split
  ·assumption
  ·rw [inB_snoc];simp
 ·rw [Nat.min_eq_left (by omega),Nat.min_eq_left (by omega),decide_eq_false hji,Bool.or_false]
theorem was_no {L:List Lf} {i j:Nat} {f:Lf} {a:ByteArray} (h:j < L.length) (hf:L[j] = f) (hc:∀ r,cutS f.1 ≠ some (a,r)) :
  inB a (dirsOf (L.take (min i (j + 1)))) = inB a (dirsOf (L.take (min i j))):=by
 by_cases hji:j < i
 ·rw [Nat.min_eq_right (by omega),Nat.min_eq_right (by omega),dirs_next h hf]
  unfold dirsGo
  split
  ·rename_i b r e
   split
   ·rfl
   ·rw [inB_snoc,decide_eq_false (fun e2 => hc r (by rw [e,e2])),Bool.or_false]
  ·rfl
 ·rw [Nat.min_eq_left (by omega),Nat.min_eq_left (by omega)]
theorem under_yes {L:List Lf} {j:Nat} {f:Lf} {a r:ByteArray} (h:j < L.length) (hf:L[j] = f) (hc:cutS f.1 = some (a,r)):underOf a (L.take (j + 1)) = underOf a (L.take j) ++ [(r,f.2)]:=by
 rw [take_snoc L j h,hf,underOf_snoc]
 unfold underGo
 rw [hc]
 dsimp only
 rw [if_pos rfl];rfl
theorem under_no {L:List Lf} {j:Nat} {f:Lf} {a:ByteArray} (h:j < L.length) (hf:L[j] = f) (hc:∀ r,cutS f.1 ≠ some (a,r)):underOf a (L.take (j + 1)) = underOf a (L.take j):=by
 rw [take_snoc L j h,hf,underOf_snoc]
 unfold underGo
 split
 ·rename_i b r e
  rw [if_neg (fun e2 => hc r (by rw [e,e2]))];simp
 ·simp
theorem under_le (a:ByteArray) (L:List Lf):(underOf a L).length ≤ L.length:=by unfold underOf;exact List.length_filterMap_le _ _
theorem tree_small {es:List Ent} (h:treeOk es = true) (h32:∀ e ∈ es,e.id.length = 32):(ofB (treeB es)).size ≤ 4096:=by
 have:=tree_right h h32
 unfold rightOb at this
 simp only [Bool.and_eq_true,decide_eq_true_eq] at this
 exact this.1
end Go.Proofs.YtmhjpmenngjmeaaGreatDoor
namespace Go.Proofs.YtmhjpmenngjmeaaGreatDoor
open Go.RowKit
set_option maxRecDepth 100000
theorem ObRow.grown {w w':World} {v:Value} {l:List Ob} {r:Option Nat} (h:ObRow w v l) (hg:w.grownBy w' r) (hne:∀ k,v.ownBlock = some k → r ≠ some k):ObRow w' v l:=by
 obtain ⟨ao,cap,rfl,hm,h⟩:=h
 refine ⟨ao,cap,rfl,hm,fun hn => ?_⟩
 obtain ⟨b,off,e,hl,hc⟩:=h hn
 exact ⟨b,off,e,Nat.lt_of_lt_of_le hl hg.size,fun i hi => range_grown (hc i hi) hg (hne b (by rw [e];rfl))⟩
theorem ObRow.blk {w:World} {v:Value} {l:List Ob} (h:ObRow w v l) (hne:l ≠ []):∀ g,v.ownBlock = some g → g < w.heap.size:=by
 obtain ⟨ao,cap,rfl,hm,h⟩:=h
 obtain ⟨b,off,e,hl,hc⟩:=h (by simpa using hne)
 intro g hg
 rw [e] at hg
 obtain rfl:b = g:=Option.some.inj hg
 exact hl
theorem putO_ne (l:List Ob) (o:Ob):putO l o ≠ []:=fun e => by
 have:=(putO_mem l o o).2 (.inr rfl)
 rw [e] at this
 cases this
structure DtSt2 (L:List Lf) (a:ByteArray) (i:Nat) (W5:World) (ws un:Value) (j:Nat) (wr:World):Prop where
 was:ws = .bool (inB a (dirsOf (L.take (min i j))))
 und:OwnQ wr W5.heap.size 2 un (underOf a (L.take j)).length (flatC leafC (underOf a (L.take j)))
 bel:Below W5.heap.size W5 wr
theorem docT_none {k:Nat} {L:List Lf} {out:List Ob} (h:docFrom (docT k) L 0 out [] = none):docT (k + 1) L out = none:=by rw [docT_from,h]
def DtrAns (k:Nat) (L:List Lf) (out:List Ob) (vo:Value) (w:World) (e:Ending) (w':World):Prop:=Below w.heap.size w w' ∧
 ((docT k L out = none ∧ e = .returned (.tuple #[.slice none 0 0,.agg (idC zid).toArray,.bool false])) ∨
  ∃ out' x v',docT k L out = some (out',x) ∧ x.length = 32 ∧ e = .returned (.tuple #[v',.agg (idC x).toArray,.bool true]) ∧ ObRow w' v' out' ∧ CapI v' ∧ Fr w vo v' ∧ (∀ g,v'.ownBlock = some g → g < w'.heap.size) ∧ (∀ o ∈ out',o.body.size ≤ 100000) ∧ out'.length ≤ out.length + putsN k L)
structure DtSt1 (k:Nat) (w W:World) (L:List Lf) (out0:List Ob) (v0 vo ve:Value) (i:Nat) (wr:World):Prop where
 go:∃ (out:List Ob) (es:List EJ),docFrom (docT k) L 0 out0 [] = docFrom (docT k) L i out (rawE es) ∧ ObRow wr vo out ∧ (∀ o ∈ out,o.body.size ≤ 100000) ∧
  out.length ≤ out0.length + (blobsOf (L.take i)).length + sumN k L (dirsOf (L.take i)) ∧ OwnQ wr W.heap.size 34 ve es.length (flatC encE es) ∧ es.length ≤ i ∧ ∀ e ∈ es,e.1.name.size ≤ 1000 ∧ e.1.kind ≤ 2
 cap:CapI vo
 fr:Fr W v0 vo
 lt:∀ g,vo.ownBlock = some g → g < wr.heap.size
 off:∀ g,vo.ownBlock = some g → ve.ownBlock ≠ some g
 bel:Below W.heap.size W wr
set_option maxHeartbeats 8000000 in
theorem dtrees_step (k:Nat) (v vo:Value) (L:List Lf) (out:List Ob) (w:World) (hv:LeafRow w v L) (ho:ObRow w vo out) (hcap:CapI vo) (hvl:∀ g,vo.ownBlock = some g → g < w.heap.size) (hob:∀ o ∈ out,o.body.size ≤ 100000) (hol:out.length + putsN (k + 1) L ≤ 100000)
  (hsz:∀ f ∈ L,f.1.size ≤ 1000 ∧ f.2.size ≤ 100000) (hlen:L.length ≤ 400)
  (hrec:∀ d ∈ dirsOf L,∀ (v' vo':Value) (out':List Ob) (W:World),LeafRow W v' (underOf d L) → ObRow W vo' out' → CapI vo' → (∀ g,vo'.ownBlock = some g → g < W.heap.size) → (∀ o ∈ out',o.body.size ≤ 100000) → out'.length + putsN k (underOf d L) ≤ 100000 →
   Calls Tryz.prog 19 #[v',vo'] W (DtrAns k (underOf d L) out' vo' W)) :
  Calls Tryz.prog 19 #[v,vo] w (DtrAns (k + 1) L out vo w):=by
 obtain ⟨hizz,hizb⟩:=id_zeroC
 obtain ⟨W,hW⟩:∃ W,w.alloc (.cells (idC zid).toArray 27) = W:=⟨_,rfl⟩
 have hbW:Below w.heap.size w W:=by rw [← hW];exact (Below.refl _ _).alloc (Nat.le_refl _) _
 have hbx:BoxL W w.heap.size 27 (idC zid):=by rw [← hW];exact BoxL.new w 27 (idC zid)
 have hzl:(idC zid).length = 32:=by rw [idC_len,zid_len]
 obtain ⟨ao,cap,rfl,hmax,hcells⟩:=hv.open
 have HV:=Lib.hid hcells
 have HW:=Lib.hid hW
 have HBW:=Lib.hid hbW
 have HBX:=Lib.hid hbx
 have HWB:Hid (∀ X,Below W.heap.size W X → Below w.heap.size w X):=Lib.hid (fun X h => hbW.trans (h.mono hbW.size))
 have HZO:=Lib.hid (idC_one zid)
 have h32i:(Tryz.prog.info? 27).map (·.size) = some 32:=by kernel_rfl
 have HSZ:=Lib.hid hsz
 have HREC:=Lib.hid hrec
 have HOL:=Lib.hid hol
 have HVL:=Lib.hid hvl
 have HWS:Hid (W.heap.size = w.heap.size + 1):=Lib.hid (by rw [← hW];simp)
 have HS0:Hid (DtSt1 k w W L out vo vo (.slice none 0 0) 0 W):=Lib.hid ⟨⟨out,[],rfl,ho.below hbW,hob,by omega,by simpa [flatC] using ownQ_nil _ _ _,Nat.le_refl _,by simp⟩,hcap,.inl rfl,fun g e => Nat.lt_of_lt_of_le (hvl g e) hbW.size,fun g _ h => (by cases h),Below.refl _ _⟩
 clear hW hbW hbx hsz hrec hcells hv ho hcap hob hol hvl
 generalize huz:idC zid = uz at hizz hizb HW hzl HBX HZO
 have h32z:(Tryz.prog.info? 27).map (·.size) = some uz.length:=by rw [hzl];exact h32i
 go_enter Tryz.func19,Tryz.ntmps19
 go_upto_region 1 with fail
 rw [HW.out]
 go_upto_region 3 with fail
 obtain ⟨v0,hv0⟩:∃ v0,vo = v0:=⟨_,rfl⟩
 rw [hv0] at HS0 HVL ⊢
 go_loopw [1,7,8] (fun vo ve i wr => ∃ j:Nat,i = .int .i64 (j:Int) ∧ j ≤ L.length ∧ DtSt1 k w W L out v0 vo ve j wr) (fun _ _ i _ => (L.length - intOf i).toNat)
 case atStart => exact ⟨0,rfl,by omega,HS0.out⟩
 case round =>
  obtain ⟨wo,rfl⟩:∃ wo:World,wo = wr:=⟨_,rfl⟩
  obtain ⟨i,rfl,hi,hst⟩:=hrel
  have HST:=Lib.hid hst
  have hszo:=hst.bel.size
  have hcp:=hst.cap
  clear hst
  by_cases hlt:i < L.length
  ·obtain ⟨g,off,rfl,hgl,hcell⟩:=HV.out (by intro e;rw [e] at hlt;simp at hlt)
   obtain ⟨f,hf⟩:∃ f,L[i] = f:=⟨_,rfl⟩
   have HBI:=Lib.hid HST.out.bel
   have f1:=below_load (hcell i hlt).1 (HWB.out _ HBI.out) hgl
   have f2:=below_load (hcell i hlt).2 (HWB.out _ HBI.out) hgl
   rw [hf] at f1 f2
   have HFL:Hid (f ∈ L):=Lib.hid (by rw [← hf];exact List.getElem_mem hlt)
   have hfs:=HSZ.out f HFL.out
   have k0:(0:Int) ≤ i:=by omega
   have k1:(i:Int) < L.length:=by omega
   have d1:decide ((i:Int) < L.length) = true:=decide_eq_true k1
   have HI:=Lib.hid hi
   have HLT:=Lib.hid hlt
   have HF:=Lib.hid hf
   obtain ⟨p,q⟩:=f
   dsimp only at f1 f2 hfs
   have HFST:=Lib.hid (rfirst_any p wo (by omega))
   have HCELL:=Lib.hid hcell
   clear hcell hf hi
   go_upto_region 5 with fail
   go_wp2_with fail
   refine HFST.out.mono ?_
   rintro e w5 ⟨hb5,⟨hc,rfl⟩ | ⟨a,r,hc,rfl⟩⟩
   · -- a blob
    have HC:=Lib.hid hc
    have HB5:=Lib.hid (HBI.out.trans (hb5.mono HBI.out.size))
    have HBW5:=Lib.hid hb5
    have f3:=below_load (HCELL.out i HLT.out).2 (HWB.out _ HB5.out) hgl
    rw [HF.out] at f3
    clear hb5 hc f1 f2
    obtain ⟨W6,hW6⟩:∃ W6,w5.alloc (.cells #[.int .i64 1,.string q] 59) = W6:=⟨_,rfl⟩
    have hb6:Below w5.heap.size w5 W6:=by rw [← hW6];exact (Below.refl _ _).alloc (Nat.le_refl _) _
    have hx6:BoxL W6 w5.heap.size 59 [.int .i64 1,.string q]:=by rw [← hW6];exact BoxL.new _ _ _
    have hr6:=hx6.range
    have h2i:(Tryz.prog.info? 59).map (·.size) = some [Value.int .i64 1,.string q].length:=by kernel_rfl
    have HX6:=Lib.hid hx6
    have HB6:=Lib.hid (HB5.out.trans (hb6.mono HB5.out.size))
    have HBW6:=Lib.hid (HBW5.out.trans (hb6.mono HBW5.out.size))
    have HW6:=Lib.hid hW6
    have HRT:=Lib.hid (rright_any 1 q W6)
    clear hb6 hx6 hW6
    go_upto_region 8 with fail
    rw [HW6.out]
    go_wp2_with (refine wpList_load_mid rfl 59 _ rfl w5.heap.size 0 rfl [.int .i64 1,.string q] _ hr6 Tryz.underlying59 rfl h2i ?_)
    refine HRT.out.mono ?_
    rintro e w7 ⟨rfl,hb7⟩
    have HX7:=Lib.hid (HX6.out.below hb7)
    have HB7:=Lib.hid (HB6.out.trans (hb7.mono HB6.out.size))
    have HBW7:=Lib.hid (HBW6.out.trans (hb7.mono HBW6.out.size))
    clear hb7 hr6
    obtain ⟨O,es,hgo,hor,hob,hol,hes,hel,hez⟩:=HST.out.go
    cases hr:rightOb ⟨1,q⟩ with
    | false =>
     have HNO:Hid (docT (k + 1) L out = none):=Lib.hid (docT_none (by rw [hgo];exact docFrom_wrong HLT.out HF.out HC.out hr))
     have hx8:=HBX.out.below HB7.out
     have HT:=Lib.hid hx8.there
     rw [hzl] at HT
     have hr8:=(hx8.set (us:=uz) rfl).range
     have HBF:=Lib.hid (below_setCells (B:=w.heap.size) w.heap.size (Nat.le_refl _) uz 0 _ (HWB.out _ HB7.out))
     clear hr hx8 hgo hor hob hol hes hel hez
     go_wp2_with (refine wpList_store_list rfl 27 _ _ rfl w.heap.size 0 uz rfl rfl 32 hzl HT.out h32i HZO.out ?_)
     refine ret_tct rfl w.heap.size 0 rfl uz _ hr8 Tryz.underlying27 rfl h32z rfl _ _ rfl rfl ?_
     exact ⟨HBF.out,.inl ⟨HNO.out,by rw [huz];rfl⟩⟩
    | true =>
     have hr7:=HX7.out.range
     have hor7:=hor.below (HBW7.out)
     have hq4:q.size ≤ 100000:=by
      unfold rightOb at hr
      simp only [Bool.and_eq_true,decide_eq_true_eq] at hr
      have:=hr.1
      omega
     have hOb:O.length + 1 ≤ 100000:=by
      have h1:=HOL.out
      have h2:=blobs_next HLT.out HF.out HC.out
      have h3:=blobs_take_le L (i + 1)
      have h4:=sumN_take k L i
      unfold putsN at h1
      unfold sumN at h4 hol
      omega
     have HPUT:=Lib.hid (rput_any u1 O 1 q w7 hor7 hcp hob hq4 (by omega))
     have HR:=Lib.hid hr
     have HOB2:Hid (∀ o ∈ putO O ⟨1,q⟩,o.body.size ≤ 100000):=Lib.hid (fun o ho => by
      rcases (putO_mem _ _ _).1 ho with ho | rfl
      ·exact hob o ho
      ·exact hq4)
     have HGO:=Lib.hid hgo
     have HOLN:=Lib.hid hol
     have HES:=Lib.hid (hes.below HBW7.out)
     have HEZ:=Lib.hid hez
     clear hr hor hor7 hob hgo hol hes hez
     go_wp2_with (refine wpList_load_mid rfl 59 _ rfl w5.heap.size 0 rfl [.int .i64 1,.string q] _ hr7 Tryz.underlying59 rfl h2i ?_)
     refine HPUT.out.mono ?_
     rintro e w8 ⟨v8,rfl,hor8,hcp8,hb8,hf8⟩
     have hr8:=(HX7.out.below hb8).range
     have hs7:=HX7.out.lt
     have HB8:=Lib.hid (HB7.out.trans (hb8.mono HB7.out.size))
     have HBW8:=Lib.hid (HBW7.out.trans (hb8.mono HBW7.out.size))
     have HRID:=Lib.hid (rido_any 1 q w8 hq4)
     have HOR8:=Lib.hid hor8
     have HES8:=Lib.hid (HES.out.below hb8)
     have HOFF:Hid (∀ g,v8.ownBlock = some g → u7.ownBlock ≠ some g):=Lib.hid (fun g e e2 => by
      rcases hf8 with h | h
      ·exact HST.out.off g (by rw [← h,e]) e2
      ·have h1:=h g e
       have h2:=(HES.out.blkLt g e2).1
       omega)
     have HLT8:=Lib.hid (hor8.blk (putO_ne _ _))
     have HFR8:Hid (Fr W v0 v8):=Lib.hid (HST.out.fr.trans hf8 HB7.out.size)
     clear hb8 hor8 hr7 hf8
     go_wp2_with (refine wpList_load_mid rfl 59 _ rfl w5.heap.size 0 rfl [.int .i64 1,.string q] _ hr8 Tryz.underlying59 rfl h2i ?_)
     refine HRID.out.mono ?_
     rintro e w9 ⟨rfl,hb9⟩
     have HENT:Hid (entC ⟨p,1,idO ⟨1,q⟩⟩ = encE (blobJ (p,q))):=Lib.hid rfl
     have HEB:=Lib.hid (show ∀ W,(Instr.build 84 #[(0,.string p),(1,.int .i64 1),(2,.agg (idC (idO ⟨1,q⟩)).toArray)]).run Tryz.prog W = .ok (.agg (entC ⟨p,1,idO ⟨1,q⟩⟩).toArray) W from fun W => ent3_built p 1 (idO ⟨1,q⟩) (idO_len _) W)
     have HEL:=Lib.hid (encE_len (blobJ (p,q)))
     have HEO:=Lib.hid (encE_one (blobJ (p,q)))
     rw [HENT.out] at HEB
     obtain ⟨ue,hue⟩:∃ ue,encE (blobJ (p,q)) = ue:=⟨_,rfl⟩
     rw [hue] at HEB HEL HEO
     have HUE:=Lib.hid hue
     obtain ⟨ux,hux⟩:∃ ux,idC (idO ⟨1,q⟩) = ux:=⟨_,rfl⟩
     rw [hux] at HEB ⊢
     have hb10:Below w9.heap.size w9 (w9.alloc (.cells ue.toArray 84)):=(Below.refl _ _).alloc (Nat.le_refl _) _
     have hb910:=hb9.trans (hb10.mono hb9.size)
     have HO10:=Lib.hid (HES8.out.below hb910)
     have HOR10:=Lib.hid (HOR8.out.below hb910)
     have HW10:Hid (w8.heap.size ≤ (w9.alloc (.cells ue.toArray 84)).heap.size):=Lib.hid hb910.size
     have HB10:=Lib.hid (HB8.out.trans (hb910.mono HB8.out.size))
     have HNEW:Hid (∀ j u,ue[j]? = some u → (w9.alloc (.cells ue.toArray 84)).cell? ((⟨w9.heap.size,0,none⟩:Addr).add j) = some u):=Lib.hid (fun j u hj => cells_newL _ ue _ j u hj)
     have HSZE:Hid (∀ w,(sizeOf 84).run Tryz.prog w = .ok ue.length w):=Lib.hid (fun w => by rw [HEL.out];kernel_rfl)
     have hs10:W.heap.size ≤ (w9.alloc (.cells ue.toArray 84)).heap.size:=HB10.out.size
     have hel4:es.length ≤ 400:=by omega
     have HFL2:Hid (flatC encE (es ++ [blobJ (p,q)]) = flatC encE es ++ ue):=Lib.hid (by rw [flatC_append,← HUE.out];simp [flatC])
     obtain ⟨zs,i0,hi',hz0,hz1,hz2,hzv,hbu,hzs⟩:=ent_zero
     have hzl34:zs.size = 34:=by rw [hzs];simp
     have heb:=HEB.out
     clear hr8 hb9 hb10 hb910 hue hux hzs
     go_wp2_with (first
      | (refine wpList_build3 rfl 84 (.tmp 55) (.const (.int .i64 1)) (.tmp 57) rfl (.string p) (.int .i64 1) (.agg ux.toArray) _ rfl rfl rfl (heb _) ?_)
      | (refine wpList_buildSlice_one rfl (.tmp 58) 79 84 rfl ue zs rfl Tryz.underlying79 HSZE.out hzv (by rw [HEL.out];omega) (by rw [HEL.out];omega) ?_)
      | (refine wpList_append_q rfl (.tmp 54) (.tmp 59) 79 rfl W.heap.size 84 i0 (.agg zs) 34 56 Tryz.underlying79 hi' hz0 hz1 hz2 hzl34 (by decide) _ es.length (flatC encE es) rfl HO10.out (some ⟨w9.heap.size,0,none⟩) 1 1 ue rfl (by rw [HEL.out]) (fun _ => ⟨_,rfl,HNEW.out⟩) HEO.out (by unfold maxLen;omega) (by omega) hs10 ?_))
     intro o9 w11 hq11 hg11 hf11
     have hge:∀ g,u7.ownBlock = some g → W.heap.size ≤ g:=fun g e => (HO10.out.blkLt g e).2
     have HEND:Hid (DtSt1 k w W L out v0 v8 o9 (i + 1) w11):=Lib.hid ⟨⟨putO O ⟨1,q⟩,es ++ [blobJ (p,q)],by
      rw [HGO.out,docFrom_blob HLT.out HF.out HC.out HR.out]
      unfold rawE
      rw [List.map_append];rfl,HOR10.out.grown hg11 HOFF.out,HOB2.out,by
      have h1:=putO_len O ⟨1,q⟩
      have h2:=blobs_next HLT.out HF.out HC.out
      have h3:=sumN_was (k:=k) HLT.out
      have h4:=HOLN.out
      omega,by rw [HFL2.out,List.length_append];exact hq11,by rw [List.length_append];have:[blobJ (p,q)].length = 1:=rfl;omega,fun e he => by
      rcases List.mem_append.1 he with he | he
      ·exact HEZ.out e he
      ·rw [List.mem_singleton.1 he];exact ⟨hfs.1,by show 1 ≤ 2;omega⟩⟩,hcp8,HFR8.out,fun g e => by have:=HLT8.out g e;have:=HB10.out.size;have:=hg11.size;have:=HW10.out;omega,fun g e e2 => by
      rcases hf11 with h | h
      ·exact HOFF.out g e (by rw [← h,e2])
      ·have h1:=h g e2
       have h2:=HLT8.out g e
       have h3:=HW10.out
       omega,HB10.out.grown hg11 HB10.out.size (fun g e => hge g e)⟩
     clear hq11 hg11 hf11 hge
     go_wp2
     go_roundw
     case rel => exact ⟨i + 1,by go_num,by have:=HLT.out;omega,HEND.out⟩
     case measure => have:=HLT.out;simp [intOf];omega
   · -- what stands in a directory
    have HC:=Lib.hid hc
    have HB5:=Lib.hid (HBI.out.trans (hb5.mono HBI.out.size))
    have HBW5:=Lib.hid hb5
    have HS5:Hid (DtSt2 L a i w5 (.bool false) (.slice none 0 0) 0 w5):=Lib.hid ⟨by simp [dirsOf,inB],by simpa [flatC,underOf] using ownQ_nil _ _ _,Below.refl _ _⟩
    clear hb5 hc f1 f2
    go_upto_region 15 with fail
    go_loopw [13,14,15] (fun ws un j wr => ∃ n:Nat,j = .int .i64 (n:Int) ∧ n ≤ L.length ∧ DtSt2 L a i w5 ws un n wr) (fun _ _ j _ => (L.length - intOf j).toNat)
    case atStart => exact ⟨0,rfl,by omega,HS5.out⟩
    case round =>
     obtain ⟨wk,rfl⟩:∃ wk:World,wk = wr:=⟨_,rfl⟩
     obtain ⟨j,rfl,hj,hst2⟩:=hrel
     obtain ⟨hws,hund,hbe⟩:=hst2
     have HUND:=Lib.hid hund
     have HBE:=Lib.hid hbe
     have hszk:=hbe.size
     obtain ⟨bw,hbw⟩:∃ bw,inB a (dirsOf (L.take (min i j))) = bw:=⟨_,rfl⟩
     rw [hbw] at hws
     subst hws
     have HBW:=Lib.hid hbw
     clear hbw hund hbe
     by_cases hlt2:j < L.length
     ·obtain ⟨f,hf⟩:∃ f,L[j] = f:=⟨_,rfl⟩
      have f1:=below_load (HCELL.out j hlt2).1 (HWB.out _ (HB5.out.trans (HBE.out.mono HB5.out.size))) hgl
      have f2:=below_load (HCELL.out j hlt2).2 (HWB.out _ (HB5.out.trans (HBE.out.mono HB5.out.size))) hgl
      rw [hf] at f1 f2
      have hfs2:=HSZ.out f (by rw [← hf];exact List.getElem_mem hlt2)
      have j0:(0:Int) ≤ j:=by omega
      have j1:(j:Int) < L.length:=by omega
      have d2:decide ((j:Int) < L.length) = true:=decide_eq_true j1
      have HJ:=Lib.hid hj
      have HLT2:=Lib.hid hlt2
      have HF2:=Lib.hid hf
      obtain ⟨p2,q2⟩:=f
      dsimp only at f1 f2 hfs2
      have HFST2:=Lib.hid (rfirst_any p2 wk (by omega))
      clear hf hj
      go_upto_region 17 with fail
      go_wp2_with fail
      refine HFST2.out.mono ?_
      rintro e w6 ⟨hb6,⟨hc2,rfl⟩ | ⟨a2,r2,hc2,rfl⟩⟩
      ·have hno:∀ r,cutS p2 ≠ some (a,r):=fun r h => by rw [hc2] at h;cases h
       have HEND2:Hid (DtSt2 L a i w5 (.bool bw) u14 (j + 1) w6):=Lib.hid ⟨by rw [was_no HLT2.out HF2.out hno,HBW.out],by rw [under_no HLT2.out HF2.out hno];exact HUND.out.below hb6,HBE.out.trans (hb6.mono hszk)⟩
       clear hc2 hb6 hno f1 f2
       go_upto_region 18 with fail
       go_wp2_with fail
       all_goals exact ⟨⟨j + 1,by go_num,by have:=HLT2.out;omega,HEND2.out⟩,by have:=HLT2.out;simp [intOf];omega⟩
      ·have f2:=below_load f2 hb6 (by have:=(HWB.out _ HB5.out).size;omega)
       have HB6:=Lib.hid (HBE.out.trans (hb6.mono hszk))
       have HUND6:=Lib.hid (HUND.out.below hb6)
       by_cases hae:a2 = a
       ·subst hae
        have he:(a2.toList == a2.toList) = true:=by rw [ba_beq];simp
        have HWAS:Hid (inB a2 (dirsOf (L.take (min i (j + 1)))) = (bw || decide (j < i))):=Lib.hid (by rw [was_yes HLT2.out HF2.out hc2,HBW.out])
        have HUN:=Lib.hid (under_yes HLT2.out HF2.out hc2)
        clear hc2 hb6 f1
        obtain ⟨u,hu⟩:∃ u,underOf a2 (L.take j) = u:=⟨_,rfl⟩
        have hul:u.length ≤ 400:=by
         have h1:=under_le a2 (L.take j)
         rw [List.length_take,hu] at h1
         omega
        rw [hu] at HUND6 HUN
        obtain ⟨j0',hj0,hj1',hj2,hj3⟩:=leaf_info
        have hb7:Below w6.heap.size w6 (w6.alloc (.cells #[.string r2,.string q2] 36)):=(Below.refl _ _).alloc (Nat.le_refl _) _
        have HO7:=Lib.hid (HUND6.out.below hb7)
        have HB7:=Lib.hid (HB6.out.trans (hb7.mono HB6.out.size))
        have HNEW:Hid (∀ j u,[Value.string r2,.string q2][j]? = some u → (w6.alloc (.cells #[.string r2,.string q2] 36)).cell? ((⟨w6.heap.size,0,none⟩:Addr).add j) = some u):=Lib.hid (fun j u hj => cells_newL _ [Value.string r2,.string q2] _ j u hj)
        have HFL2:Hid (flatC leafC (u ++ [(r2,q2)]) = flatC leafC u ++ [.string r2,.string q2]):=Lib.hid (by rw [flatC_append];rfl)
        have hs7:=HB7.out.size
        have HEND2:Hid (∀ b o9 w9,b = (bw || decide (j < i)) → OwnQ w9 w5.heap.size 2 o9 (u.length + 1) (flatC leafC u ++ [.string r2,.string q2]) → (w6.alloc (.cells #[.string r2,.string q2] 36)).grownBy w9 u14.ownBlock → DtSt2 L a2 i w5 (.bool b) o9 (j + 1) w9):=Lib.hid (fun b o9 w9 hb hq hg => ⟨by rw [HWAS.out,hb],by rw [HUN.out,HFL2.out,List.length_append];exact hq,HB7.out.grown hg hs7 (fun g e => (HO7.out.blkLt g e).2)⟩)
        clear hb7 hu
        have hcs:(bw = true ∨ bw = false ∧ j < i) ∨ bw = false ∧ ¬ j < i:=by cases bw <;> simp <;> omega
        rcases hcs with (rfl | ⟨rfl,hji⟩) | ⟨rfl,hji⟩
        ·go_upto_region 18 with fail
         go_wp2_with (refine wpList_append_q rfl (.tmp 89) (.tmp 97) 22 rfl w5.heap.size 36 j0' (.agg #[.string ⟨#[]⟩,.string ⟨#[]⟩]) 2 32 Tryz.underlying22 hj0 hj1' hj2 hj3 rfl (by decide) u14 u.length (flatC leafC u) rfl HO7.out (some ⟨w6.heap.size,0,none⟩) 1 1 [.string r2,.string q2] rfl rfl (fun _ => ⟨_,rfl,HNEW.out⟩) (by simp [Value.oneCell']) (by unfold maxLen;omega) (by omega) hs7 ?_)
         intro o9 w9 hq9 hg9 _
         have HE:=Lib.hid (HEND2.out true o9 w9 (by simp) hq9 hg9)
         clear hq9 hg9
         go_wp2
         go_roundw
         case rel => exact ⟨j + 1,by go_num,by have:=HLT2.out;omega,HE.out⟩
         case measure => have:=HLT2.out;simp [intOf];omega
        ·have d6:decide ((j:Int) < i) = true:=decide_eq_true (by omega)
         have hjd:decide (j < i) = true:=decide_eq_true hji
         clear hji
         go_upto_region 18 with fail
         go_wp2_with (refine wpList_append_q rfl (.tmp 89) (.tmp 97) 22 rfl w5.heap.size 36 j0' (.agg #[.string ⟨#[]⟩,.string ⟨#[]⟩]) 2 32 Tryz.underlying22 hj0 hj1' hj2 hj3 rfl (by decide) u14 u.length (flatC leafC u) rfl HO7.out (some ⟨w6.heap.size,0,none⟩) 1 1 [.string r2,.string q2] rfl rfl (fun _ => ⟨_,rfl,HNEW.out⟩) (by simp [Value.oneCell']) (by unfold maxLen;omega) (by omega) hs7 ?_)
         intro o9 w9 hq9 hg9 _
         have HE:=Lib.hid (HEND2.out true o9 w9 (by rw [hjd];rfl) hq9 hg9)
         clear hq9 hg9
         go_wp2
         go_roundw
         case rel => exact ⟨j + 1,by go_num,by have:=HLT2.out;omega,HE.out⟩
         case measure => have:=HLT2.out;simp [intOf];omega
        ·have d6:decide ((j:Int) < i) = false:=decide_eq_false (by omega)
         have hjd:decide (j < i) = false:=decide_eq_false hji
         clear hji
         go_upto_region 18 with fail
         go_wp2_with (refine wpList_append_q rfl (.tmp 89) (.tmp 97) 22 rfl w5.heap.size 36 j0' (.agg #[.string ⟨#[]⟩,.string ⟨#[]⟩]) 2 32 Tryz.underlying22 hj0 hj1' hj2 hj3 rfl (by decide) u14 u.length (flatC leafC u) rfl HO7.out (some ⟨w6.heap.size,0,none⟩) 1 1 [.string r2,.string q2] rfl rfl (fun _ => ⟨_,rfl,HNEW.out⟩) (by simp [Value.oneCell']) (by unfold maxLen;omega) (by omega) hs7 ?_)
         intro o9 w9 hq9 hg9 _
         have HE:=Lib.hid (HEND2.out false o9 w9 (by rw [hjd];rfl) hq9 hg9)
         clear hq9 hg9
         go_wp2
         go_roundw
         case rel => exact ⟨j + 1,by go_num,by have:=HLT2.out;omega,HE.out⟩
         case measure => have:=HLT2.out;simp [intOf];omega
       ·have hno:∀ r,cutS p2 ≠ some (a,r):=fun r h => by rw [hc2] at h;cases h;exact hae rfl
        have he:(a2.toList == a.toList) = false:=by rw [ba_beq];exact decide_eq_false hae
        have HEND2:Hid (DtSt2 L a i w5 (.bool bw) u14 (j + 1) w6):=Lib.hid ⟨by rw [was_no HLT2.out HF2.out hno,HBW.out],by rw [under_no HLT2.out HF2.out hno];exact HUND6.out,HB6.out⟩
        clear hc2 hb6 hno f1 f2 hae
        go_upto_region 18 with fail
        go_wp2_with fail
        all_goals exact ⟨⟨j + 1,by go_num,by have:=HLT2.out;omega,HEND2.out⟩,by have:=HLT2.out;simp [intOf];omega⟩
     ·obtain rfl:j = L.length:=by omega
      have d2:decide ((L.length:Int) < L.length) = false:=decide_eq_false (by omega)
      rw [List.take_length] at HUND
      have hmin:min i L.length = i:=Nat.min_eq_left (by have:=HLT.out;omega)
      rw [hmin] at HBW
      clear hj hlt2
      cases bw with
      | true =>
       have hbk:Below wo.heap.size wo wk:=HBW5.out.trans (HBE.out.mono HBW5.out.size)
       have HE1:Hid (DtSt1 k w W L out v0 u1 u7 (i + 1) wk):=Lib.hid (by
        obtain ⟨O,es,hgo,hor,hob,hol,hes,hel,hez⟩:=HST.out.go
        refine ⟨⟨O,es,by rw [hgo,docFrom_was HLT.out HF.out HC.out HBW.out],hor.below hbk,hob,?_,hes.below hbk,by omega,hez⟩,hcp,HST.out.fr,fun g e => Nat.lt_of_lt_of_le (HST.out.lt g e) hbk.size,HST.out.off,HB5.out.trans (HBE.out.mono HB5.out.size)⟩
        have h2:=blobs_mono HLT.out
        have h3:=sumN_was (k:=k) HLT.out
        omega)
       clear hbk
       go_wp2_with fail
       exact ⟨⟨i + 1,by go_num,by have:=HLT.out;omega,HE1.out⟩,by have:=HLT.out;simp [intOf];omega⟩
      | false =>
       obtain ⟨O,es,hgo,hor,hob,hol,hes,hel,hez⟩:=HST.out.go
       have hbk:Below wo.heap.size wo wk:=HBW5.out.trans (HBE.out.mono HBW5.out.size)
       have hWk:Below W.heap.size W wk:=HB5.out.trans (HBE.out.mono HB5.out.size)
       have hrow:LeafRow wk u14 (underOf a L):=rowOf_ownQ leafC 2 (fun _ => rfl) HUND.out
       have hb2:O.length + putsN k (underOf a L) + 1 ≤ out.length + putsN (k + 1) L:=by
        have h1:=sumN_dir (k:=k) HLT.out HF.out HC.out HBW.out
        have h2:=sumN_take k L (i + 1)
        have h3:=blobs_take_le L i
        have h4:putsN (k + 1) L = (blobsOf L).length + sumN k L (dirsOf L) + 1:=rfl
        omega
       have hcall:=HREC.out a (dir_here HLT.out HF.out HC.out) u14 u1 O wk hrow (hor.below hbk) hcp (fun g e => Nat.lt_of_lt_of_le (HST.out.lt g e) hbk.size) hob (by have:=HOL.out;omega)
       have HCALL:=Lib.hid hcall
       have HWK:=Lib.hid hWk
       have HBK:=Lib.hid hbk
       have HGO:=Lib.hid hgo
       have HOLN:=Lib.hid hol
       have HES:=Lib.hid (hes.below hbk)
       have HEZ:=Lib.hid hez
       have HB2:=Lib.hid hb2
       clear hcall hrow hbk hWk hgo hor hob hol hes hez hb2
       go_upto_region 22 with fail
       go_wp2_with fail
       refine HCALL.out.mono ?_
       rintro e w6 ⟨hb6,⟨hdn,rfl⟩ | ⟨O',x,v',hds,hxl0,rfl,hor6,hcp6,hfr6,hlt6,hob6,hol6⟩⟩
       ·have HNO:Hid (docT (k + 1) L out = none):=Lib.hid (docT_none (by rw [HGO.out];exact docFrom_none HLT.out HF.out HC.out HBW.out hdn))
        rw [huz]
        obtain ⟨W9,hW9⟩:∃ W9,(w6.alloc (.cells uz.toArray 27)).setCells w6.heap.size 0 uz = W9:=⟨_,rfl⟩
        have hb9:Below w6.heap.size w6 W9:=by rw [← hW9];exact below_setCells _ (Nat.le_refl _) _ _ _ ((Below.refl _ _).alloc (Nat.le_refl _) _)
        have HB9:=Lib.hid ((HWK.out.trans (hb6.mono HWK.out.size)).trans (hb9.mono (Nat.le_trans HWK.out.size hb6.size)))
        have hx9:=HBX.out.below HB9.out
        have HTH9:=Lib.hid (there_alloc w6 uz.toArray 27 (by simpa using hzl))
        have HT:=Lib.hid hx9.there
        rw [hzl] at HT
        have hr9:=(hx9.set (us:=uz) rfl).range
        have HBF:=Lib.hid (below_setCells (B:=w.heap.size) w.heap.size (Nat.le_refl _) uz 0 _ (HWB.out _ HB9.out))
        have HW9:=Lib.hid hW9
        clear hb6 hdn hW9 hb9 hx9
        go_wp2_with (first
         | (refine wpList_store_list rfl 27 _ _ rfl w6.heap.size 0 uz rfl rfl 32 hzl HTH9.out h32i HZO.out ?_;rw [HW9.out])
         | (refine wpList_store_list rfl 27 _ _ rfl w.heap.size 0 uz rfl rfl 32 hzl HT.out h32i HZO.out ?_))
        refine ret_tct rfl w.heap.size 0 rfl uz _ hr9 Tryz.underlying27 rfl h32z rfl _ _ rfl rfl ?_
        exact ⟨HBF.out,.inl ⟨HNO.out,by rw [huz];rfl⟩⟩
       ·have HGO6:Hid (docFrom (docT k) L 0 out [] = docFrom (docT k) L (i + 1) O' (rawE es ++ [⟨a,2,x⟩])):=Lib.hid (by rw [HGO.out,docFrom_dir HLT.out HF.out HC.out HBW.out hds])
        obtain ⟨E,hE⟩:∃ E:EJ,E = ⟨⟨a,2,x⟩,hxl0⟩:=⟨_,rfl⟩
        have HEE:=Lib.hid hE
        have HENT:Hid (entC ⟨a,2,x⟩ = encE E):=Lib.hid (by rw [hE];rfl)
        have HEB:=Lib.hid (show ∀ W,(Instr.build 84 #[(0,.string a),(1,.int .i64 2),(2,.agg (idC x).toArray)]).run Tryz.prog W = .ok (.agg (entC ⟨a,2,x⟩).toArray) W from fun W => ent3_built a 2 x hxl0 W)
        have HEL:=Lib.hid (encE_len E)
        have HEO:=Lib.hid (encE_one E)
        have HXO:=Lib.hid (idC_one x)
        rw [HENT.out] at HEB
        obtain ⟨ue,hue⟩:∃ ue,encE E = ue:=⟨_,rfl⟩
        rw [hue] at HEB HEL HEO
        have HUE:=Lib.hid hue
        have hxl:(idC x).length = 32:=by rw [idC_len,hxl0]
        obtain ⟨ux,hux⟩:∃ ux,idC x = ux:=⟨_,rfl⟩
        rw [hux] at HEB HXO hxl ⊢
        obtain ⟨W9,hW9⟩:∃ W9,(w6.alloc (.cells uz.toArray 27)).setCells w6.heap.size 0 ux = W9:=⟨_,rfl⟩
        have hb9:Below w6.heap.size w6 W9:=by rw [← hW9];exact below_setCells _ (Nat.le_refl _) _ _ _ ((Below.refl _ _).alloc (Nat.le_refl _) _)
        have hx9:BoxL W9 w6.heap.size 27 ux:=by rw [← hW9];exact (BoxL.new w6 27 uz).set (by rw [hxl,hzl])
        have hr9:=hx9.range
        have HTH9:=Lib.hid (there_alloc w6 uz.toArray 27 (by simpa using hzl))
        have hb10:Below W9.heap.size W9 (W9.alloc (.cells ue.toArray 84)):=(Below.refl _ _).alloc (Nat.le_refl _) _
        have hb910:=hb9.trans (hb10.mono hb9.size)
        have hbk10:=hb6.trans (hb910.mono hb6.size)
        have HO10:=Lib.hid (HES.out.below hbk10)
        have HOR10:=Lib.hid (hor6.below hb910)
        have HB10:=Lib.hid (HWK.out.trans (hbk10.mono HWK.out.size))
        have HW10:Hid (w6.heap.size ≤ (W9.alloc (.cells ue.toArray 84)).heap.size):=Lib.hid hb910.size
        have HNEW:Hid (∀ j u,ue[j]? = some u → (W9.alloc (.cells ue.toArray 84)).cell? ((⟨W9.heap.size,0,none⟩:Addr).add j) = some u):=Lib.hid (fun j u hj => cells_newL _ ue _ j u hj)
        have HSZE:Hid (∀ w,(sizeOf 84).run Tryz.prog w = .ok ue.length w):=Lib.hid (fun w => by rw [HEL.out];kernel_rfl)
        have hs10:W.heap.size ≤ (W9.alloc (.cells ue.toArray 84)).heap.size:=HB10.out.size
        have hel4:es.length ≤ 400:=by omega
        have HFL2:Hid (flatC encE (es ++ [E]) = flatC encE es ++ ue):=Lib.hid (by rw [flatC_append,← HUE.out];simp [flatC])
        have HOFF:Hid (∀ g,v'.ownBlock = some g → u7.ownBlock ≠ some g):=Lib.hid (fun g e e2 => by
         rcases hfr6 with h | h
         ·exact HST.out.off g (by rw [← h,e]) e2
         ·have h1:=h g e
          have h2:=(HES.out.blkLt g e2).1
          omega)
        have HFR:Hid (Fr W v0 v'):=Lib.hid (HST.out.fr.trans hfr6 HWK.out.size)
        have HLTV:=Lib.hid hlt6
        have HOB6:=Lib.hid hob6
        have HOL6:=Lib.hid hol6
        have HCP6:=Lib.hid hcp6
        have HSUM:=Lib.hid (sumN_dir (k:=k) HLT.out HF.out HC.out HBW.out)
        obtain ⟨zs,i0,hi',hz0,hz1,hz2,hzv,hbu,hzs⟩:=ent_zero
        have hzl34:zs.size = 34:=by rw [hzs];simp
        have heb:=HEB.out
        have h32x:(Tryz.prog.info? 27).map (·.size) = some ux.length:=by rw [hxl];exact h32i
        have HW9:=Lib.hid hW9
        have has:a.size ≤ 1000:=Nat.le_trans (cutS_some HC.out).1 hfs.1
        clear hb6 hds hor6 hfr6 hlt6 hob6 hol6 hcp6 hue hux hzs hb9 hx9 hb10 hb910 hbk10 hE hW9
        go_wp2_with (first
         | (refine wpList_store_list rfl 27 _ _ rfl w6.heap.size 0 ux rfl rfl 32 hxl HTH9.out h32i HXO.out ?_;rw [HW9.out])
         | (refine wpList_load_mid rfl 27 _ rfl w6.heap.size 0 rfl ux _ hr9 Tryz.underlying27 rfl h32x ?_)
         | (refine wpList_build3 rfl 84 (.tmp 112) (.const (.int .i64 2)) (.tmp 113) rfl (.string a) (.int .i64 2) (.agg ux.toArray) _ rfl rfl rfl (heb _) ?_)
         | (refine wpList_buildSlice_one rfl (.tmp 114) 79 84 rfl ue zs rfl Tryz.underlying79 HSZE.out hzv (by rw [HEL.out];omega) (by rw [HEL.out];omega) ?_)
         | (refine wpList_append_q rfl (.tmp 111) (.tmp 115) 79 rfl W.heap.size 84 i0 (.agg zs) 34 56 Tryz.underlying79 hi' hz0 hz1 hz2 hzl34 (by decide) _ es.length (flatC encE es) rfl HO10.out (some ⟨W9.heap.size,0,none⟩) 1 1 ue rfl (by rw [HEL.out]) (fun _ => ⟨_,rfl,HNEW.out⟩) HEO.out (by unfold maxLen;omega) (by omega) hs10 ?_))
        intro o9 w11 hq11 hg11 hf11
        have hge:∀ g,u7.ownBlock = some g → W.heap.size ≤ g:=fun g e => (HO10.out.blkLt g e).2
        have HEND:Hid (DtSt1 k w W L out v0 v' o9 (i + 1) w11):=Lib.hid ⟨⟨O',es ++ [E],by
         rw [HGO6.out]
         unfold rawE
         rw [List.map_append,HEE.out];rfl,HOR10.out.grown hg11 HOFF.out,HOB6.out,by
         have h2:=blobs_mono HLT.out
         have h3:=HSUM.out
         have h4:=HOLN.out
         have h5:=HOL6.out
         omega,by rw [HFL2.out,List.length_append];exact hq11,by rw [List.length_append];have:[E].length = 1:=rfl;omega,fun e he => by
         rcases List.mem_append.1 he with he | he
         ·exact HEZ.out e he
         ·rw [List.mem_singleton.1 he,HEE.out];exact ⟨has,by show 2 ≤ 2;omega⟩⟩,HCP6.out,HFR.out,fun g e => by have:=HLTV.out g e;have:=hg11.size;have:=HW10.out;omega,fun g e e2 => by
         rcases hf11 with h | h
         ·exact HOFF.out g e (by rw [← h,e2])
         ·have h1:=h g e2
          have h2:=HLTV.out g e
          have h3:=HW10.out
          omega,HB10.out.grown hg11 HB10.out.size (fun g e => hge g e)⟩
        clear hq11 hg11 hf11 hge
        go_wp2
        go_roundw
        case rel => exact ⟨i + 1,by go_num,by have:=HLT.out;omega,HEND.out⟩
        case measure => have:=HLT.out;simp [intOf];omega
  ·obtain rfl:i = L.length:=by omega
   have d1:decide ((L.length:Int) < L.length) = false:=decide_eq_false (by omega)
   obtain ⟨O,es,hgo,hor,hob,hol,hes,hel,hez⟩:=HST.out.go
   have HGO:Hid (docFrom (docT k) L 0 out [] = some (O,rawE es)):=Lib.hid (by rw [hgo,docFrom_end (Nat.le_refl _)])
   have HSRT:=Lib.hid (rsorted_any u7 es wo (rowOf_ownQ encE 34 encE_len hes) (by omega))
   obtain ⟨ls,hls⟩:∃ ls,sortEn (rawE es) = ls:=⟨_,rfl⟩
   have HLZ:Hid (∀ e ∈ ls,e.name.size ≤ 1000 ∧ e.kind ≤ 2 ∧ e.id.length = 32):=Lib.hid (fun e he => by
    rw [← hls,(sortEn_perm (rawE es)).mem_iff] at he
    unfold rawE at he
    obtain ⟨x,hx,rfl⟩:=List.mem_map.1 he
    exact ⟨(hez x hx).1,(hez x hx).2,x.2⟩)
   have HLL:Hid (ls.length ≤ 400):=Lib.hid (by
    rw [← hls,(sortEn_perm (rawE es)).length_eq]
    unfold rawE
    rw [List.length_map]
    omega)
   have HDT:Hid (docT (k + 1) L out = if treeOk ls = true then some (putO O (treeOb ls),idO (treeOb ls)) else none):=Lib.hid (by rw [docT_from,HGO.out,← hls])
   have HRR:Hid (∀ (v2:Value) (w2:World),RowOf w2 v2 34 ((sortJ es).map encE) → EntRow w2 v2 ls):=Lib.hid (fun v2 w2 h => by
    unfold EntRow
    rw [← hls,← sortJ_raw]
    unfold rawE
    rw [List.map_map]
    exact h)
   have HBO:=Lib.hid HST.out.bel
   have HOR:=Lib.hid hor
   have HOB:=Lib.hid hob
   have HOLN:=Lib.hid hol
   have HO1:Hid (O.length + 1 ≤ out.length + putsN (k + 1) L):=Lib.hid (by
    have h4:putsN (k + 1) L = (blobsOf L).length + sumN k L (dirsOf L) + 1:=rfl
    rw [List.take_length] at hol
    omega)
   clear hgo hor hob hol hes hel hez hls hi hlt
   go_wp2_with fail
   refine HSRT.out.mono ?_
   rintro e w2 ⟨v2,rfl,hr2,hb2⟩
   have HE2:=Lib.hid (HRR.out v2 w2 hr2)
   have HB2:=Lib.hid (HBO.out.trans (hb2.mono HBO.out.size))
   have HBW2:=Lib.hid hb2
   have HTR:=Lib.hid (rtreeright_any v2 ls w2 HE2.out (fun e he => ⟨by have:=(HLZ.out e he).1;omega,(HLZ.out e he).2.1⟩))
   clear hr2 hb2
   go_wp2_with fail
   refine HTR.out.mono ?_
   rintro e w3 ⟨rfl,hb3⟩
   have HB3:=Lib.hid (HB2.out.trans (hb3.mono HB2.out.size))
   have HBW3:=Lib.hid (HBW2.out.trans (hb3.mono HBW2.out.size))
   have HE3:=Lib.hid (HE2.out.below hb3)
   clear hb3
   cases hok:treeOk ls with
   | false =>
    have HNO:Hid (docT (k + 1) L out = none):=Lib.hid (by rw [HDT.out,hok];rfl)
    have hx8:=HBX.out.below HB3.out
    have HT:=Lib.hid hx8.there
    rw [hzl] at HT
    have hr8:=(hx8.set (us:=uz) rfl).range
    have HBF:=Lib.hid (below_setCells (B:=w.heap.size) w.heap.size (Nat.le_refl _) uz 0 _ (HWB.out _ HB3.out))
    clear hok hx8
    go_wp2_with (refine wpList_store_list rfl 27 _ _ rfl w.heap.size 0 uz rfl rfl 32 hzl HT.out h32i HZO.out ?_)
    refine ret_tct rfl w.heap.size 0 rfl uz _ hr8 Tryz.underlying27 rfl h32z rfl _ _ rfl rfl ?_
    exact ⟨HBF.out,.inl ⟨HNO.out,by rw [huz];rfl⟩⟩
   | true =>
    have HYES:Hid (docT (k + 1) L out = some (putO O (treeOb ls),idO (treeOb ls))):=Lib.hid (by rw [HDT.out,hok];rfl)
    have HTB:=Lib.hid (rtreebody_any v2 ls w3 HE3.out HLZ.out (by have:=HLL.out;omega))
    have HSM:=Lib.hid (tree_small hok (fun e he => (HLZ.out e he).2.2))
    obtain ⟨q,hq⟩:∃ q,ofB (treeB ls) = q:=⟨_,rfl⟩
    rw [hq] at HTB HSM
    have HTO:Hid (treeOb ls = ⟨2,q⟩):=Lib.hid (by unfold treeOb;rw [hq])
    rw [HTO.out] at HYES
    clear hok hq
    go_wp2_with fail
    refine HTB.out.mono ?_
    rintro e w4 ⟨rfl,hb4⟩
    have HB4:=Lib.hid (HB3.out.trans (hb4.mono HB3.out.size))
    have HBW4:=Lib.hid (HBW3.out.trans (hb4.mono HBW3.out.size))
    clear hb4
    obtain ⟨W6,hW6⟩:∃ W6,w4.alloc (.cells #[.int .i64 2,.string q] 59) = W6:=⟨_,rfl⟩
    have hb6:Below w4.heap.size w4 W6:=by rw [← hW6];exact (Below.refl _ _).alloc (Nat.le_refl _) _
    have hx6:BoxL W6 w4.heap.size 59 [.int .i64 2,.string q]:=by rw [← hW6];exact BoxL.new _ _ _
    have h2i:(Tryz.prog.info? 59).map (·.size) = some [Value.int .i64 2,.string q].length:=by kernel_rfl
    have HX6:=Lib.hid hx6
    have HB6:=Lib.hid (HB4.out.trans (hb6.mono HB4.out.size))
    have HBW6:=Lib.hid (HBW4.out.trans (hb6.mono HBW4.out.size))
    have HW6:=Lib.hid hW6
    clear hb6 hx6 hW6
    go_upto_region 31 with fail
    rw [HW6.out]
    have hb67:Below W6.heap.size W6 W6.drew:=(Below.refl _ _).drew
    have HB7:=Lib.hid (HB6.out.trans (hb67.mono HB6.out.size))
    have HBW7:=Lib.hid (HBW6.out.trans (hb67.mono HBW6.out.size))
    have HX7:=Lib.hid (HX6.out.below hb67)
    have hS0:W6.drew.rangeAt w4.heap.size 0 [.int .i64 2,.string q]:=HX7.out.range
    have HPUT:=Lib.hid (rput_any u1 O 2 q W6.drew (HOR.out.below HBW7.out) hcp HOB.out (by have:=HSM.out;omega) (by have:=HO1.out;have:=HOL.out;omega))
    clear hb67
    refine wp_region_L 7 (fun w' => w'.rangeAt w4.heap.size 0 [.int .i64 2,.string q]) (by kernel_rfl) (by kernel_rfl) ?_
    refine WL.take (i:=0) (v:=?_) rfl (by kernel_rfl) (by decide) (by decide +kernel) (by decide +kernel) (fun _ _ _ h => h) rfl ?_ hS0 ?_
    rotate_left
    ·(intro w' hSw;(try dsimp only at hSw);go_simp;(try with_reducible rfl))
    simp only [Act.put];(try simp only [List.getElem_toArray]);(try simp only [List.getElem_cons_succ]);(try simp only [List.getElem_cons_zero]);(try simp only [List.setIfInBounds_toArray]);(try simp only [List.set_cons_succ]);(try simp only [List.set_cons_zero])
    refine WL.take (i:=1) (v:=_) rfl (by kernel_rfl) (by decide) (by decide +kernel) (by decide +kernel) (fun _ _ _ h => h) rfl (fun w' hSw => exec_row 59 _ (hSw) Tryz.underlying59 rfl h2i _ rfl rfl) hS0 ?_
    simp only [Act.put];(try simp only [List.getElem_toArray]);(try simp only [List.getElem_cons_succ]);(try simp only [List.getElem_cons_zero]);(try simp only [List.setIfInBounds_toArray]);(try simp only [List.set_cons_succ]);(try simp only [List.set_cons_zero])
    refine WL.take (i:=3) (v:=_) rfl (by kernel_rfl) (by decide) (by decide +kernel) (by decide +kernel) (fun _ _ _ h => h) rfl (fun w' hSw => exec_row 59 _ (hSw) Tryz.underlying59 rfl h2i _ rfl rfl) hS0 ?_
    simp only [Act.put];(try simp only [List.getElem_toArray]);(try simp only [List.getElem_cons_succ]);(try simp only [List.getElem_cons_zero]);(try simp only [List.setIfInBounds_toArray]);(try simp only [List.set_cons_succ]);(try simp only [List.set_cons_zero])
    refine WL.one (i:=2) rfl (by decide) (by decide +kernel) ?_
    go_wp2_with fail
    refine HPUT.out.mono ?_
    rintro e w8 ⟨v8,rfl,hor8,hcp8,hb8,hf8⟩
    have HB8:=Lib.hid (HB7.out.trans (hb8.mono HB7.out.size))
    have hx8:=HX7.out.below hb8
    have hS8:=hx8.range
    have HX8:=Lib.hid hx8
    have HRID:=Lib.hid (rido_any 2 q w8 (by have:=HSM.out;omega))
    have HOR8:=Lib.hid hor8
    have HCP8:=Lib.hid hcp8
    have HLT8:=Lib.hid (hor8.blk (putO_ne _ _))
    have HFR8:Hid (Fr W v0 v8):=Lib.hid (HST.out.fr.trans hf8 HB7.out.size)
    clear hb8 hx8 hor8 hcp8 hf8
    go_wp2
    refine ⟨hS8,?_⟩
    refine WL.one (i:=4) rfl (by decide) (by decide +kernel) ?_
    go_wp2_with fail
    refine HRID.out.mono ?_
    rintro e w9 ⟨rfl,hb9⟩
    have HB9:=Lib.hid (HB8.out.trans (hb9.mono HB8.out.size))
    have hx9:=HX8.out.below hb9
    have hS9:=hx9.range
    have HX9:=Lib.hid hx9
    have HOR9:=Lib.hid (HOR8.out.below hb9)
    have HLT9:Hid (∀ g,v8.ownBlock = some g → g < w9.heap.size):=Lib.hid (fun g e => Nat.lt_of_lt_of_le (HLT8.out g e) hb9.size)
    clear hb9 hx9
    obtain ⟨ux,hux⟩:∃ ux,idC (idO ⟨2,q⟩) = ux:=⟨_,rfl⟩
    have hxl:ux.length = 32:=by rw [← hux,idC_len,idO_len]
    have HXO:Hid (∀ v ∈ ux,v.oneCell' = true):=Lib.hid (by rw [← hux];exact idC_one _)
    rw [hux]
    have HUX:=Lib.hid hux
    have h32x:(Tryz.prog.info? 27).map (·.size) = some ux.length:=by rw [hxl];exact h32i
    clear hux
    go_wp2
    refine ⟨hS9,?_⟩
    refine WL.one (i:=5) rfl (by decide) (by decide +kernel) ?_
    go_wp2
    refine ⟨hS9,?_⟩
    refine WL.one (i:=6) rfl (by decide) (by decide +kernel) ?_
    have hbx9:=HBX.out.below HB9.out
    have hne:w.heap.size ≠ w4.heap.size:=by
     have h1:=HB4.out.size
     have h2:=HWS.out
     omega
    obtain ⟨WE,hWE⟩:∃ WE,w9.setCells w.heap.size 0 ux = WE:=⟨_,rfl⟩
    have hTd:=hbx9.there
    rw [hzl] at hTd
    have hrE:WE.rangeAt w.heap.size 0 ux:=by rw [← hWE];exact (hbx9.set (us:=ux) (by rw [hxl,hzl])).range
    have hS1:WE.rangeAt w4.heap.size 0 [.int .i64 2,.string q]:=by rw [← hWE];exact range_grown hS9 (grownBy_setCells _ _ _ _) (fun e => hne (Option.some.inj e))
    have hBE:Below w.heap.size w WE:=by
     rw [← hWE]
     exact below_setCells (B:=w.heap.size) w.heap.size (Nat.le_refl _) ux 0 _ (HWB.out _ HB9.out)
    have hgE:w9.grownBy WE (some w.heap.size):=by rw [← hWE];exact grownBy_setCells _ _ _ _
    have hv8:∀ g,v8.ownBlock = some g → some w.heap.size ≠ some g:=fun g e e2 => by
     have h1:=HWS.out
     have h3:=Option.some.inj e2
     rcases HFR8.out with h | h
     ·have h2:=HVL.out g (by rw [← h];exact e)
      omega
     ·have h2:=h g e
      omega
    have HORE:=Lib.hid (HOR9.out.grown hgE hv8)
    have HLTE:Hid (∀ g,v8.ownBlock = some g → g < WE.heap.size):=Lib.hid (fun g e => Nat.lt_of_lt_of_le (HLT9.out g e) hgE.size)
    have HFRE:Hid (Fr w vo v8):=Lib.hid (by
     rw [hv0]
     rcases HFR8.out with h | h
     ·exact .inl h
     ·exact .inr fun g e => by have:=h g e;have:=HWS.out;omega)
    have HOBE:Hid (∀ o ∈ putO O ⟨2,q⟩,o.body.size ≤ 100000):=Lib.hid (fun o ho => by
     rcases (putO_mem _ _ _).1 ho with ho | rfl
     ·exact HOB.out o ho
     ·have:=HSM.out
      show q.size ≤ 100000
      omega)
    have HLE:Hid ((putO O ⟨2,q⟩).length ≤ out.length + putsN (k + 1) L):=Lib.hid (by have:=putO_len O ⟨2,q⟩;have:=HO1.out;omega)
    have HWE:=Lib.hid hWE
    have HRE:=Lib.hid hrE
    have HBE:=Lib.hid hBE
    have HTD:=Lib.hid hTd
    clear hWE hTd hrE hBE hgE hv8 hbx9
    go_wp2_with (refine wpList_store_list rfl 27 _ _ rfl w.heap.size 0 ux rfl rfl 32 hxl HTD.out h32i HXO.out ?_;rw [HWE.out])
    refine ⟨hS1,?_⟩
    refine WL.last (n:=7) rfl rfl (by decide +kernel) (by decide +kernel) ?_
    go_wp2
    refine ret_tct rfl w.heap.size 0 rfl ux _ HRE.out Tryz.underlying27 rfl h32x rfl _ _ rfl rfl ?_
    exact ⟨HBE.out,.inr ⟨_,_,v8,HYES.out,idO_len _,by rw [HUX.out];rfl,HORE.out,HCP8.out,HFRE.out,HLTE.out,HOBE.out,HLE.out⟩⟩
end Go.Proofs.YtmhjpmenngjmeaaGreatDoor
