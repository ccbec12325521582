/- YtbmiiiccnoiffaaGreatDoorE43: texts BU, AP of this claim, in one. -/
import Derived.Test.YtbmiiiccnoiffaaGreatDoorE33
import Derived.Test.YtbmiiiccnoiffaaGreatDoorE39
import Derived.Test.YtbmiiiccnoiffaaGreatDoorE41
import Derived.Test.YtbmiiiccnoiffaaGreatDoorE6
namespace Go.Proofs.YtbmiiiccnoiffaaGreatDoor
open Go.RowKit Go.Maps
set_option maxRecDepth 100000
theorem nms_pos (s:ByteArray):1 ≤ (nms s).length:=by
 unfold nms
 rw [List.length_map]
 exact List.length_pos_iff.2 (spl_ne _)
theorem btree_any {N:Nat} (hN:SortsTo N) (pb b:Nat) (hb5:5 ≤ b ∧ 0 < b):∀ (k n:Nat) (M:Idl → Option Ob) (v:Value) (L:List Lf) (w:World),BldAt pb b n M w → LeafRow w v L → Laid w → MaxAt w →
  (∀ f ∈ L,f.1.size ≤ 1000 ∧ (nms f.1).length ≤ k + 1) → L.length ≤ N → L.length ≤ 400 → n + putsN (k + 1) L < 1000000 →
  Calls Tryz.prog 74 #[.pointer (some ⟨pb,0,none⟩),v] w (TrAns (k + 1) pb b n M L w)
 | k,n,M,v,L,w,h,hv,hL,hm,hsz,hl,hl4,hn => by
  refine btree_step k hN pb b n M v L w hb5 h hv hL hm (fun f hf => (hsz f hf).1) hl hl4 hn ?_
  intro d hd v' n' M' W h' hv' hL' hm' hn'
  cases k with
  | zero =>
   exfalso
   obtain ⟨f,hf,r,hc⟩:=dirs_from hd
   have h1:=(hsz f hf).2
   rw [(cutS_some hc).2.2,List.length_cons] at h1
   have:=nms_pos r
   omega
  | succ k =>
   have hul:(underOf d L).length ≤ L.length:=by unfold underOf;exact List.length_filterMap_le _ _
   refine btree_any hN pb b hb5 k n' M' v' (underOf d L) W h' hv' hL' hm' (fun x hx => ?_) (by omega) (by omega) hn'
   obtain ⟨f,hf,hc,_⟩:=under_from hx
   obtain ⟨_,h2,h3⟩:=cutS_some hc
   have h1:=hsz f hf
   rw [h3,List.length_cons] at h1
   exact ⟨by omega,by omega⟩
theorem objs_len:∀ (k:Nat) (L:List Lf),((trS k L).getD ([],zid)).1.length ≤ putsN k L
 | 0,L => Nat.le_refl 0
 | k + 1,L => by
  unfold trS
  split
  ·show (objsB (trS k) L).length ≤ (blobsOf L).length + ((dirsOf L).map fun d => putsN k (underOf d L)).sum + 1
   have h:∀ l:List ByteArray,(l.flatMap fun d => ((trS k (underOf d L)).getD ([],zid)).1).length ≤ (l.map fun d => putsN k (underOf d L)).sum:=fun l => by
    induction l with
    | nil => exact Nat.le_refl 0
    | cons d l ih =>
     rw [List.flatMap_cons,List.length_append,List.map_cons,List.sum_cons]
     have:=objs_len k (underOf d L)
     omega
   have:=h (dirsOf L)
   unfold objsB
   rw [List.length_append,List.length_append,List.length_map]
   simp only [List.length_cons,List.length_nil]
   omega
  ·exact Nat.zero_le _
theorem dedup_ex:∀ l:List Idl,∃ m:List Idl,m.Nodup ∧ (∀ q,q ∈ m ↔ q ∈ l) ∧ m.length ≤ l.length
 | [] => ⟨[],by simp,by simp,by simp⟩
 | x :: l => by
  obtain ⟨m,h1,h2,h3⟩:=dedup_ex l
  by_cases h:x ∈ m
  ·refine ⟨m,h1,fun q => ?_,by rw [List.length_cons];omega⟩
   rw [h2,List.mem_cons]
   exact ⟨.inr,fun hq => hq.elim (fun e => by subst e;exact (h2 _).1 h) id⟩
  ·exact ⟨x :: m,List.nodup_cons.2 ⟨h,h1⟩,fun q => by rw [List.mem_cons,List.mem_cons,h2],by simp [h3]⟩
theorem PutAll.keys {os:List Ob} {M:Idl → Option Ob} (h:PutAll os (fun _ => none) M) (q:Idl):(M q).isSome = true ↔ q ∈ os.map idO:=by
 rw [List.mem_map]
 rcases h q with ⟨o,ho,h1,h2⟩ | ⟨h1,h2⟩
 ·rw [h2];exact ⟨fun _ => ⟨o,ho,h1⟩,fun _ => rfl⟩
 ·rw [h2]
  constructor
  ·intro h;cases h
  ·rintro ⟨o,ho,e⟩;exact absurd e (h1 o ho)
def bad (n:Nat):Ending:=.returned (.tuple #[.slice none 0 0,.agg (idC zid).toArray,.int .i64 (n:Int)])
def BdAns (L:List Lf) (w:World) (e:Ending) (w':World):Prop:=Below w.heap.size w w' ∧
 ((300 < L.length ∧ e = bad 4) ∨ (L.length ≤ 300 ∧ ((∃ f ∈ L,pathOk f.1 = false) ∨ trS 8 L = none) ∧ e = bad 1) ∨
  (L.length ≤ 300 ∧ (∀ f ∈ L,pathOk f.1 = true) ∧ ∃ os x M ids v,trS 8 L = some (os,x) ∧ PutAll os (fun _ => none) M ∧ AscL ids ∧ (∀ q,q ∈ ids ↔ q ∈ os.map idO) ∧
   e = .returned (.tuple #[v,.agg (idC x).toArray,.int .i64 0]) ∧ ObRow w' v (ids.map fun q => (M q).getD ob0)))
theorem ret_tct {P:Program} {fn:Func} {R:Ending → World → Prop} {a:Act} {w:World} {p q r:Tmp} {ty:TypeId} (h:fn.results = #[.tmp p,.cell q ty,.tmp r]) (b o:Nat)
  (hp:a.tmps.getD q undef = .pointer (some ⟨b,o,none⟩)) (cs:List Value) (d:TypeDesc) (hc:w.rangeAt b o cs)
  (hu:P.underlying ty = some d) (hd:d.isRow = true) (hi:(P.info? ty).map (·.size) = some cs.length) (hdef:a.defers = []) (u v:Value) (hq:a.tmps.getD p undef = u) (hr:a.tmps.getD r undef = v) (hR:R (.returned (.tuple #[u,.agg cs.toArray,v])) w):bodyPost P fn R .ret a w:=by
 refine bodyPost_ret (v:=.tuple #[u,.agg cs.toArray,v]) ?_ hdef hR
 have:=run_loadVar_mid (P:=P) w b o ty cs d hc hu hd hi
 simp only [results,h]
 rw [Array.getD_eq_getD_getElem?] at hp hq hr
 simp [asAddr,hp,hq,hr,this]
theorem exec_look1 {P:Program} {w:World} {a:Act} {op:Oper} (t:TypeId) (m x:Operand) (hop:op.op = .lookup t m x false) (mv xv v:Value) (hm:a.eval m = mv) (hx:a.eval x = xv) (h:(Instr.lookup t mv xv false).run P w = .ok v w):(execOp a.eval op).run P w = .ok (.value v) w:=by
 simp [execOp,hop,hm,hx,h,Result.andThen]
theorem obj_info:∃ i0:TypeInfo,Tryz.prog.info? 93 = some i0 ∧ i0.zero = some (.agg #[.int .i64 0,.string ⟨#[]⟩]) ∧ i0.size = 2 ∧ i0.bytes = 24:=⟨_,rfl,by kernel_rfl,by kernel_rfl,by kernel_rfl⟩
structure Bd2 (W4:World) (b n3:Nat) (M3:Idl → Option Ob) (K:List Idl) (o:Value) (dn Lr:List Idl) (wr:World):Prop where
 perm:(dn ++ Lr).Perm K
 ids:OwnQ wr (W4.heap.size + 1) 32 o dn.length (idsF dn)
 rng:RangeG encO wr b W4.heap.size n3 M3 Lr
 bel:Below W4.heap.size W4 wr
set_option maxHeartbeats 8000000 in
theorem build_any {N:Nat} (hN:SortsTo N) (v:Value) (L:List Lf) (w:World) (hv:LeafRow w v L) (hL:Laid w) (hm:MaxAt w) (hsz:∀ f ∈ L,f.1.size ≤ 1000) (hlen:L.length ≤ 300 → L.length ≤ N) (hput:L.length ≤ 300 → putsN 8 L < 1000000) :
  Calls Tryz.prog 40 #[v] w (BdAns L w):=by
 obtain ⟨hizz,hizb⟩:=id_zeroC
 obtain ⟨W,hW⟩:∃ W,w.alloc (.cells (idC zid).toArray 24) = W:=⟨_,rfl⟩
 have hbW:Below w.heap.size w W:=by rw [← hW];exact (Below.refl _ _).alloc (Nat.le_refl _) _
 have hbx:BoxL W w.heap.size 24 (idC zid):=by rw [← hW];exact BoxL.new w 24 (idC zid)
 have hzl:(idC zid).length = 32:=by rw [idC_len,zid_len]
 obtain ⟨ao,cap,rfl,hmax,hcells⟩:=hv.open
 unfold maxLen at hmax
 have HV:=Lib.hid hcells
 have HLF:=Lib.hid hv
 have HW:=Lib.hid hW
 have HL:=Lib.hid hL
 have HM:=Lib.hid hm
 have HSZ:=Lib.hid hsz
 have HBW:=Lib.hid hbW
 have HBX:=Lib.hid hbx
 have HLEN:=Lib.hid hlen
 have HPUT:=Lib.hid hput
 have HZO:=Lib.hid (idC_one zid)
 have hmm:=@run_makeMap Tryz.prog
 have h32i:(Tryz.prog.info? 24).map (·.size) = some 32:=by kernel_rfl
 clear hW hL hm hsz hcells hv hbW hbx hlen hput
 generalize huz:idC zid = uz at hizz hizb HW hzl HBX HZO
 have h32z:(Tryz.prog.info? 24).map (·.size) = some uz.length:=by rw [hzl];exact h32i
 go_enter Tryz.func40,Tryz.ntmps40
 go_upto_region 1 with fail
 rw [HW.out]
 by_cases h300:(300:Int) < L.length
 ·have d3:decide ((300:Int) < L.length) = true:=decide_eq_true h300
  have HT:=Lib.hid HBX.out.there
  rw [hzl] at HT
  have hr:=(HBX.out.set (us:=uz) rfl).range
  have HB:=Lib.hid (below_setCells (B:=w.heap.size) w.heap.size (Nat.le_refl _) uz 0 _ HBW.out)
  go_wp2_with (refine wpList_store_list rfl 24 _ _ rfl w.heap.size 0 uz rfl rfl 32 hzl HT.out h32i HZO.out ?_)
  refine ret_tct rfl w.heap.size 0 rfl uz _ hr Tryz.underlying24 rfl h32z rfl _ _ rfl rfl ?_
  exact ⟨HB.out,.inl ⟨by omega,by unfold bad;rw [huz];rfl⟩⟩
 ·have d3:decide ((300:Int) < L.length) = false:=decide_eq_false h300
  have hl3:L.length ≤ 300:=by omega
  go_upto_region 4 with fail
  go_loopw [21] (fun i wr => ∃ j:Nat,i = .int .i64 (j:Int) ∧ j ≤ L.length ∧ (∀ f ∈ L.take j,pathOk f.1 = true) ∧ Below W.heap.size W wr) (fun i _ => (L.length - intOf i).toNat)
  case atStart => exact ⟨0,rfl,by omega,by simp,Below.refl _ _⟩
  case round =>
   obtain ⟨wo,rfl⟩:∃ wo:World,wo = wr:=⟨_,rfl⟩
   obtain ⟨i,rfl,hi,hok,hb⟩:=hrel
   have HOK:=Lib.hid hok
   have HB:=Lib.hid hb
   have hszo:=hb.size
   have hsW:=HBX.out.lt
   clear hok hb
   by_cases hlt:i < L.length
   ·obtain ⟨g,off,rfl,hgl,hcell⟩:=HV.out (by intro e;rw [e] at hlt;simp at hlt)
    obtain ⟨f,hf⟩:∃ f,L[i] = f:=⟨_,rfl⟩
    have hbwo:Below w.heap.size w wo:=HBW.out.trans (HB.out.mono HBW.out.size)
    have f1:=below_load (hcell i hlt).1 hbwo hgl
    have f2:=below_load (hcell i hlt).2 hbwo hgl
    rw [hf] at f1 f2
    have HTK:Hid (L.take (i + 1) = L.take i ++ [f]):=Lib.hid (by rw [take_snoc L i hlt,hf])
    have HFL:Hid (f ∈ L):=Lib.hid (by rw [← hf];exact List.getElem_mem hlt)
    have hfs:=HSZ.out f HFL.out
    have k0:(0:Int) ≤ i:=by omega
    have k1:(i:Int) < L.length:=by omega
    have d1:decide ((i:Int) < L.length) = true:=decide_eq_true k1
    have HI:=Lib.hid hi
    obtain ⟨p,q⟩:=f
    dsimp only at f1 f2 hfs
    obtain ⟨W5,hW5⟩:∃ W5,wo.alloc (.cells #[.string p,.string q] 82) = W5:=⟨_,rfl⟩
    have hb5':Below wo.heap.size wo W5:=by rw [← hW5];exact (Below.refl _ _).alloc (Nat.le_refl _) _
    have hbx5:BoxL W5 wo.heap.size 82 [.string p,.string q]:=by rw [← hW5];exact BoxL.new _ _ _
    have c1:W5.cell? ⟨wo.heap.size,0,none⟩ = some (.string p):=by have:=hbx5.range 0 _ rfl;simpa using this
    have hmx:=HM.out.below hbwo HM.out.lt
    have HIP:=Lib.hid (ispath_any p W5 hfs (hmx.below hb5' hmx.lt))
    have HB5:=Lib.hid (HB.out.trans (hb5'.mono HB.out.size))
    have HW5:=Lib.hid hW5
    clear hcell hf hi hb5' hbx5 hW5 hbwo hmx
    go_upto_region 6 with fail
    rw [HW5.out]
    go_wp2_with fail
    refine HIP.out.mono ?_
    rintro e w6 ⟨rfl,hb6⟩
    have HB6:=Lib.hid (HB5.out.trans (hb6.mono HB5.out.size))
    clear hb6 c1
    cases hp:pathOk p with
    | false =>
     have HNO:Hid (∃ f ∈ L,pathOk f.1 = false):=Lib.hid ⟨_,HFL.out,hp⟩
     have hx6:=HBX.out.below HB6.out
     have HT:=Lib.hid hx6.there
     rw [hzl] at HT
     have hr:=(hx6.set (us:=uz) rfl).range
     have HBF:=Lib.hid (below_setCells (B:=w.heap.size) w.heap.size (Nat.le_refl _) uz 0 _ (HBW.out.trans (HB6.out.mono HBW.out.size)))
     clear hp hx6
     go_wp2_with (refine wpList_store_list rfl 24 _ _ rfl w.heap.size 0 uz rfl rfl 32 hzl HT.out h32i HZO.out ?_)
     refine ret_tct rfl w.heap.size 0 rfl uz _ hr Tryz.underlying24 rfl h32z rfl _ _ rfl rfl ?_
     exact ⟨HBF.out,.inr (.inl ⟨hl3,.inl HNO.out,by unfold bad;rw [huz];rfl⟩)⟩
    | true =>
     have HEND:Hid (∀ f ∈ L.take (i + 1),pathOk f.1 = true):=Lib.hid (fun f hf => by
      rw [HTK.out] at hf
      rcases List.mem_append.1 hf with hf | hf
      ·exact HOK.out f hf
      ·rw [List.mem_singleton.1 hf];exact hp)
     clear hp
     go_wp2
     go_roundw
     case rel => exact ⟨i + 1,by go_num,by have:=HI.out;omega,HEND.out,HB6.out⟩
     case measure => simp [intOf];omega
   ·obtain rfl:i = L.length:=by omega
    have d1:decide ((L.length:Int) < L.length) = false:=decide_eq_false (by omega)
    have hbwo:Below w.heap.size w wo:=HBW.out.trans (HB.out.mono HBW.out.size)
    have HOKA:Hid (∀ f ∈ L,pathOk f.1 = true):=Lib.hid (by have:=HOK.out;rwa [List.take_length] at this)
    obtain ⟨W2,hW2⟩:∃ W2,(wo.alloc (.map #[] 0)).alloc (.cells #[.map (some wo.heap.size)] 129) = W2:=⟨_,rfl⟩
    have hb2:Below wo.heap.size wo W2:=by rw [← hW2];exact ((Below.refl _ _).alloc (Nat.le_refl _) _).alloc (by simp) _
    have hbld:BldAt (wo.heap.size + 1) wo.heap.size 0 (fun _ => none) W2:=by
     have h1:=mapG_made (enc:=encO) wo
     have h2:=BoxL.new (wo.alloc (.map #[] 0)) 129 [.map (some wo.heap.size)]
     rw [World.size_alloc] at h2
     have h3:=h1.on ((Below.refl _ _).alloc (Nat.le_refl _) (.cells [Value.map (some wo.heap.size)].toArray 129))
     rw [show (wo.alloc (.map #[] 0)).alloc (.cells [Value.map (some wo.heap.size)].toArray 129) = W2 from hW2] at h2 h3
     exact ⟨by have:=h2.range 0 _ rfl;simpa using this,h3⟩
    have hbw2:Below w.heap.size w W2:=hbwo.trans (hb2.mono hbwo.size)
    have hb5:5 ≤ wo.heap.size ∧ 0 < wo.heap.size:=by
     have h1:=HL.out.lt
     have h2:=HM.out.lt
     have h3:=hbwo.size
     omega
    have htree:=btree_any hN (wo.heap.size + 1) wo.heap.size hb5 7 0 (fun _ => none) (.slice ao L.length cap) L W2 hbld (HLF.out.below hbw2) (HL.out.below hbw2) (HM.out.below hbw2 HM.out.lt) (fun f hf => ⟨HSZ.out f hf,by
     have:=HOKA.out f hf
     unfold pathOk at this
     simp only [Bool.and_eq_true,decide_eq_true_eq] at this
     exact this.2⟩) (HLEN.out hl3) (by omega) (by have:=HPUT.out hl3;show 0 + putsN 8 L < 1000000;omega)
    have HTREE:=Lib.hid htree
    have HBLD:=Lib.hid hbld
    have HB2:=Lib.hid (HB.out.trans (hb2.mono HB.out.size))
    have HBW2:=Lib.hid hbw2
    have HW2:=Lib.hid hW2
    have hs2:wo.heap.size + 2 = W2.heap.size:=by rw [← hW2];simp
    clear hbwo hb2 hbld hbw2 htree hW2
    go_upto_region 10 with fail
    rw [HW2.out]
    go_wp2_with fail
    refine HTREE.out.mono ?_
    rintro e w3 ⟨hg3,n3,M3,hb3,hn3,⟨ht,rfl⟩ | ⟨os,x,ht,rfl,hp3⟩⟩
    ·have hbw3:Below W.heap.size W w3:=HB2.out.grown hg3 (by have:=HB2.out.size;omega) (fun j e => by have:=Option.some.inj e;omega)
     have hx3:=HBX.out.below hbw3
     obtain ⟨W4,hW4⟩:∃ W4,(w3.alloc (.cells uz.toArray 24)).setCells w3.heap.size 0 uz = W4:=⟨_,rfl⟩
     have hx3l:=hx3.lt
     have hx4:BoxL W4 w.heap.size 24 uz:=by rw [← hW4];exact (hx3.below ((Below.refl _ _).alloc (Nat.le_refl _) _)).other (by omega)
     have hb34:Below w3.heap.size w3 W4:=by rw [← hW4];exact below_setCells _ (Nat.le_refl _) _ _ _ ((Below.refl _ _).alloc (Nat.le_refl _) _)
     have HTH4:=Lib.hid (there_alloc w3 uz.toArray 24 (by simpa using hzl))
     have HT:=Lib.hid hx4.there
     rw [hzl] at HT
     have hr:=(hx4.set (us:=uz) rfl).range
     have hbw4:=hbw3.trans (hb34.mono hbw3.size)
     have HBF:=Lib.hid (below_setCells (B:=w.heap.size) w.heap.size (Nat.le_refl _) uz 0 _ (HBW.out.trans (hbw4.mono HBW.out.size)))
     have HW4:=Lib.hid hW4
     have HTN:=Lib.hid ht
     rw [huz]
     clear hbw3 hx3 hx3l hx4 hb34 hW4 hbw4 ht hg3 hb3 hn3
     go_wp2_with (first
      | (refine wpList_store_list rfl 24 _ _ rfl w3.heap.size 0 uz rfl rfl 32 hzl HTH4.out h32i HZO.out ?_;rw [HW4.out])
      | (refine wpList_store_list rfl 24 _ _ rfl w.heap.size 0 uz rfl rfl 32 hzl HT.out h32i HZO.out ?_))
     refine ret_tct rfl w.heap.size 0 rfl uz _ hr Tryz.underlying24 rfl h32z rfl _ _ rfl rfl ?_
     exact ⟨HBF.out,.inr (.inl ⟨hl3,.inr HTN.out,by unfold bad;rw [huz];rfl⟩)⟩
    ·have hg3s:w.heap.size < w3.heap.size:=by have h1:=hg3.size;have h2:=HBW2.out.size;omega
     have hbw3:Below W.heap.size W w3:=HB2.out.grown hg3 (by have:=HB2.out.size;omega) (fun j e => by have:=Option.some.inj e;omega)
     have hxid:x.length = 32:=by have:=trS_len 8 L;rw [ht] at this;exact this
     obtain ⟨K,hKn,hKm,hKl⟩:=dedup_ex (os.map idO)
     have hosl:os.length < 1000000:=by
      have h1:=objs_len 8 L
      rw [ht] at h1
      have h2:=HPUT.out hl3
      exact Nat.lt_of_le_of_lt h1 h2
     rw [List.length_map] at hKl
     have hK32:∀ q ∈ K,q.length = 32:=fun q hq => by
      obtain ⟨o,_,rfl⟩:=List.mem_map.1 ((hKm q).1 hq)
      exact idO_len o
     have hxl:(idC x).length = 32:=by rw [idC_len,hxid]
     have HXO:=Lib.hid (idC_one x)
     obtain ⟨ux,hux⟩:∃ ux,idC x = ux:=⟨_,rfl⟩
     rw [hux] at hxl HXO ⊢
     obtain ⟨W4,hW4⟩:∃ W4,(w3.alloc (.cells uz.toArray 24)).setCells w3.heap.size 0 ux = W4:=⟨_,rfl⟩
     have hx4:BoxL W4 w3.heap.size 24 ux:=by rw [← hW4];exact (BoxL.new w3 24 uz).set (by rw [hxl,hzl])
     have hb34:Below w3.heap.size w3 W4:=by rw [← hW4];exact below_setCells _ (Nat.le_refl _) _ _ _ ((Below.refl _ _).alloc (Nat.le_refl _) _)
     have HTH4:=Lib.hid (there_alloc w3 uz.toArray 24 (by simpa using hzl))
     have HX4:=Lib.hid hx4
     have HB4:=Lib.hid (hbw3.trans (hb34.mono hbw3.size))
     have hbd4:=hb3.below hb34
     have HBD4:=Lib.hid hbd4
     have HW4:=Lib.hid hW4
     have HKN:=Lib.hid hKn
     have HKM:=Lib.hid hKm
     have HK32:=Lib.hid hK32
     have HTS:=Lib.hid ht
     have HUX:=Lib.hid hux
     have HP3:=Lib.hid hp3
     have HKS:Hid (∀ q:Idl,q.length = 32 → ((M3 q).isSome = true ↔ q ∈ K)):=Lib.hid (fun q _ => by rw [hKm];exact hp3.keys q)
     have c4:=hbd4.ptr
     have HMP:=Lib.hid hbd4.map
     have hn3':n3 ≤ 1000000:=by
      have h2:=HPUT.out hl3
      have h3:n3 ≤ 0 + putsN 8 L:=hn3
      omega
     clear hbw3 hKn hKm hK32 hW4 hx4 hb34 ht hg3 hb3 hn3 hux hbd4 hp3
     go_wp2_with (first
      | (refine wpList_store_list rfl 24 _ _ rfl w3.heap.size 0 ux rfl rfl 32 hxl HTH4.out h32i HXO.out ?_;rw [HW4.out])
      | (refine wpList_range_G (enc:=encO) rfl (.tmp 46) 106 93 rfl Tryz.underlying106 wo.heap.size n3 M3 K rfl HMP.out HKN.out HK32.out HKS.out ?_))
     intro w5 hrg5 hg5 hs5
     have HS2:Hid (Bd2 W4 wo.heap.size n3 M3 K (.slice none 0 0) [] K w5):=Lib.hid ⟨by simp,ownQ_nil _ _ _,hrg5,((Below.refl _ _).grown hg5 (Nat.le_refl _) (fun j e => by cases e))⟩
     clear hrg5 hg5 hs5 c4
     go_upto_region 15 with fail
     go_loopw [10] (fun o wr => ∃ dn Lr,Bd2 W4 wo.heap.size n3 M3 K o dn Lr wr) (fun _ wr => wr.rangeLeft wo.heap.size W4.heap.size)
     case atStart => exact ⟨[],K,HS2.out⟩
     case round =>
      obtain ⟨wl,rfl⟩:∃ wl:World,wl = wr:=⟨_,rfl⟩
      obtain ⟨dn,Lr,hst⟩:=hrel
      have HT:=Lib.hid hst
      have hrg:=hst.rng
      have hszl:=hst.bel.size
      clear hst
      go_wp2_with (refine wpList_next_G (enc:=encO) rfl _ rfl wo.heap.size W4.heap.size n3 M3 Lr rfl hrg ?_ ?_)
      ·intro hL0
       subst hL0
       have hst:=HT.out
       have hpm:=hst.perm
       rw [List.append_nil] at hpm
       have hd32:∀ y ∈ dn,y.length = 32:=fun y hy => HK32.out y (hpm.mem_iff.1 hy)
       have hdl:dn.length ≤ 1000000:=by rw [hpm.length_eq];omega
       have hsort:=bsort_any (W4.heap.size + 1) u10 dn wl hst.ids hd32 (hpm.nodup_iff.2 HKN.out) hdl
       have HSORT:=Lib.hid hsort
       have HPM:=Lib.hid hpm
       have HIDS:=Lib.hid hst.ids
       have HMPL:=Lib.hid hst.rng.map
       have HBELL:=Lib.hid hst.bel
       have HDL:=Lib.hid hdl
       clear hst hpm hd32 hdl hsort hrg
       go_wp2_with fail
       refine HSORT.out.mono ?_
       rintro e w7 ⟨rfl,m,hmp,hma,hmq,hmg⟩
       have hge:∀ g,u10.ownBlock = some g → W4.heap.size + 1 ≤ g:=fun g e => (HIDS.out.blkLt g e).2
       have hb47:Below W4.heap.size W4 w7:=HBELL.out.grown hmg HBELL.out.size (fun j e => by have:=hge j e;omega)
       have hmp7:MapG encO w7 wo.heap.size n3 M3:=HMPL.out.grown hmg (fun e => by have:=hge _ e.symm;have:=HBD4.out.map.lt;omega)
       have hm32:∀ y ∈ m,y.length = 32:=fun y hy => HK32.out y (HPM.out.mem_iff.1 (hmp.mem_iff.1 hy))
       have hmlen:m.length = dn.length:=hmp.length_eq
       rw [← hmlen] at hmq
       have hrow:=hmq.row hm32
       obtain ⟨mo,mcap,rfl,hmm1,hmc⟩:=hrow.open
       have hml:m.length ≤ 1000000:=by have:=HDL.out;omega
       have hbwx:Below W.heap.size W w7:=HB4.out.trans (hb47.mono HB4.out.size)
       have HMC:=Lib.hid hmc
       have HMPS:=Lib.hid hmp
       have HMA:=Lib.hid hma
       have HMP7:=Lib.hid hmp7
       have HB47:=Lib.hid hb47
       have HM32:=Lib.hid hm32
       have HBX7:=Lib.hid (HBX.out.below hbwx)
       have HX7:=Lib.hid (HX4.out.below hb47)
       have HPT7:=Lib.hid (below_load HBD4.out.ptr hb47 HBD4.out.lt)
       have HBW7:=Lib.hid (HBW.out.trans (hbwx.mono HBW.out.size))
       clear hmp hma hmq hmg hge hb47 hmp7 hm32 hmlen hrow hmm1 hmc hbwx
       go_upto_region 21 with fail
       go_loopw [12,60] (fun o i wr => ∃ j:Nat,i = .int .i64 (j:Int) ∧ j ≤ m.length ∧ OwnQ wr w7.heap.size 2 o j (flatC obC ((m.take j).map fun q => (M3 q).getD ob0)) ∧ Below w7.heap.size w7 wr) (fun _ i _ => (m.length - intOf i).toNat)
       case atStart => exact ⟨0,rfl,by omega,by simpa [flatC] using ownQ_nil _ _ _,Below.refl _ _⟩
       case round =>
        obtain ⟨wx,rfl⟩:∃ wx:World,wx = wr:=⟨_,rfl⟩
        obtain ⟨j,rfl,hj,ho,hb⟩:=hrel
        have HO:=Lib.hid ho
        have HBX9:=Lib.hid hb
        have hsx:=hb.size
        clear ho hb
        by_cases hjl:j < m.length
        ·obtain ⟨mb,moff,rfl,hmbl,hmcell⟩:=HMC.out (by intro e;rw [e] at hjl;simp at hjl)
         obtain ⟨y,hy⟩:∃ y,m[j] = y:=⟨_,rfl⟩
         have f1:=rangeAt_below (hmcell j hjl) HBX9.out hmbl
         rw [hy] at f1
         have hym:y ∈ m:=by rw [← hy];exact List.getElem_mem hjl
         have hyl:=HM32.out y hym
         have hyK:y ∈ K:=HPM.out.mem_iff.1 (HMPS.out.mem_iff.1 hym)
         obtain ⟨ob,hob⟩:=Option.isSome_iff_exists.1 ((HKS.out y hyl).2 hyK)
         have HTK:Hid ((m.take (j + 1)).map (fun q => (M3 q).getD ob0) = (m.take j).map (fun q => (M3 q).getD ob0) ++ [ob]):=Lib.hid (by rw [take_snoc m j hjl,List.map_append,hy];simp [hob])
         obtain ⟨ok,os'⟩:=ob
         have HFL:Hid (flatC obC ((m.take (j + 1)).map (fun q => (M3 q).getD ob0)) = flatC obC ((m.take j).map (fun q => (M3 q).getD ob0)) ++ [.int .i64 ok,.string os']):=Lib.hid (by rw [HTK.out,flatC_append];rfl)
         have hyc:(idC y).length = 32:=by rw [idC_len,hyl]
         have h32y:=h32_of hyc
         have HYO:=Lib.hid (idC_one y)
         obtain ⟨uy,huy⟩:∃ uy,idC y = uy:=⟨_,rfl⟩
         have HLK:=Lib.hid (fun (W':World) (h:MapG encO W' wo.heap.size n3 M3) => h.look Tryz.underlying106 (zeroO W') hyl)
         rw [hob,huy] at HLK
         rw [huy] at f1 hyc h32y HYO
         have k0:(0:Int) ≤ j:=by omega
         have k1:(j:Int) < m.length:=by omega
         have d4:decide ((j:Int) < m.length) = true:=decide_eq_true k1
         obtain ⟨W8,hW8⟩:∃ W8,(wx.alloc (.cells uz.toArray 24)).setCells wx.heap.size 0 uy = W8:=⟨_,rfl⟩
         have hx8:BoxL W8 wx.heap.size 24 uy:=by rw [← hW8];exact (BoxL.new wx 24 uz).set (by rw [hyc,hzl])
         have hb8:Below wx.heap.size wx W8:=by rw [← hW8];exact below_setCells _ (Nat.le_refl _) _ _ _ ((Below.refl _ _).alloc (Nat.le_refl _) _)
         have HTH8:=Lib.hid (there_alloc wx uz.toArray 24 (by simpa using hzl))
         have hb78:=HBX9.out.trans (hb8.mono hsx)
         have hblt:wo.heap.size < w7.heap.size:=HMP7.out.lt
         have hplt:=World.block_lt_of_cell? w7 _ HPT7.out
         have HSW:Hid (∀ X,Below W8.heap.size W8 X → X.cell? ⟨wo.heap.size + 1,0,none⟩ = some (.map (some wo.heap.size)) ∧ X.rangeAt wx.heap.size 0 uy ∧ MapG encO X wo.heap.size n3 M3):=Lib.hid (fun X hX => by
          have h1:=hb78.trans (hX.mono hb78.size)
          exact ⟨below_load HPT7.out h1 hplt,rangeAt_below hx8.range hX hx8.lt,HMP7.out.on h1⟩)
         have HO8:=Lib.hid (HO.out.below hb8)
         have HB8:=Lib.hid hb78
         have HW8:=Lib.hid hW8
         have hj1:=hj
         have hx8l:=hx8.lt
         have hs8:=hb78.size
         clear hmcell hy hym hyK hob huy hW8 hx8 hb8 hb78 hj
         go_upto_region 23 with (first
          | (refine wpList_load_mid rfl 24 _ rfl mb (moff + j * 32) rfl uy _ f1 Tryz.underlying24 rfl h32y ?_)
          | (refine wpList_store_list rfl 24 _ _ rfl wx.heap.size 0 uy rfl rfl 32 hyc HTH8.out h32i HYO.out ?_;rw [HW8.out]))
         have hS0:=HSW.out W8.drew (Below.refl _ _).drew
         refine wp_region_L 9 (fun w' => w'.cell? ⟨wo.heap.size + 1,0,none⟩ = some (.map (some wo.heap.size)) ∧ w'.rangeAt wx.heap.size 0 uy ∧ MapG encO w' wo.heap.size n3 M3) (by kernel_rfl) (by kernel_rfl) ?_
         refine WL.take (i:=0) (v:=?_) rfl (by kernel_rfl) (by decide) (by decide +kernel) (by decide +kernel) (fun _ _ _ h => h) rfl ?_ hS0 ?_
         rotate_left
         ·(intro w' hSw;(try dsimp only at hSw);go_simp;(try with_reducible rfl))
         simp only [Act.put];(try simp only [List.getElem_toArray]);(try simp only [List.getElem_cons_succ]);(try simp only [List.getElem_cons_zero]);(try simp only [List.setIfInBounds_toArray]);(try simp only [List.set_cons_succ]);(try simp only [List.set_cons_zero])
         refine WL.take (i:=1) (v:=?_) rfl (by kernel_rfl) (by decide) (by decide +kernel) (by decide +kernel) (fun _ _ _ h => h) rfl ?_ hS0 ?_
         rotate_left
         ·(intro w' hSw;(try dsimp only at hSw);go_simp;(try with_reducible rfl))
         simp only [Act.put];(try simp only [List.getElem_toArray]);(try simp only [List.getElem_cons_succ]);(try simp only [List.getElem_cons_zero]);(try simp only [List.setIfInBounds_toArray]);(try simp only [List.set_cons_succ]);(try simp only [List.set_cons_zero])
         refine WL.take (i:=2) (v:=?_) rfl (by kernel_rfl) (by decide) (by decide +kernel) (by decide +kernel) (fun _ _ _ h => h) rfl ?_ hS0 ?_
         rotate_left
         ·(intro w' hSw;(try dsimp only at hSw);go_simp;(try with_reducible rfl))
         simp only [Act.put];(try simp only [List.getElem_toArray]);(try simp only [List.getElem_cons_succ]);(try simp only [List.getElem_cons_zero]);(try simp only [List.setIfInBounds_toArray]);(try simp only [List.set_cons_succ]);(try simp only [List.set_cons_zero])
         refine WL.take (i:=3) (v:=?_) rfl (by kernel_rfl) (by decide) (by decide +kernel) (by decide +kernel) (fun _ _ _ h => h) rfl ?_ hS0 ?_
         rotate_left
         ·(intro w' hSw;(try dsimp only at hSw);go_simp;(try with_reducible rfl))
         simp only [Act.put];(try simp only [List.getElem_toArray]);(try simp only [List.getElem_cons_succ]);(try simp only [List.getElem_cons_zero]);(try simp only [List.setIfInBounds_toArray]);(try simp only [List.set_cons_succ]);(try simp only [List.set_cons_zero])
         refine WL.take (i:=4) (v:=?_) rfl (by kernel_rfl) (by decide) (by decide +kernel) (by decide +kernel) (fun _ _ _ h => h) rfl ?_ hS0 ?_
         rotate_left
         ·(intro w' hSw;(try dsimp only at hSw);go_simp;(try with_reducible rfl))
         simp only [Act.put];(try simp only [List.getElem_toArray]);(try simp only [List.getElem_cons_succ]);(try simp only [List.getElem_cons_zero]);(try simp only [List.setIfInBounds_toArray]);(try simp only [List.set_cons_succ]);(try simp only [List.set_cons_zero])
         refine WL.take (i:=5) (v:=_) rfl (by kernel_rfl) (by decide) (by decide +kernel) (by decide +kernel) (fun _ _ _ h => h) rfl (fun w' hSw => exec_row 24 _ (hSw.2.1) Tryz.underlying24 rfl h32y _ rfl rfl) hS0 ?_
         simp only [Act.put];(try simp only [List.getElem_toArray]);(try simp only [List.getElem_cons_succ]);(try simp only [List.getElem_cons_zero]);(try simp only [List.setIfInBounds_toArray]);(try simp only [List.set_cons_succ]);(try simp only [List.set_cons_zero])
         refine WL.take (i:=6) (v:=.agg #[.int .i64 ok,.string os']) rfl (by kernel_rfl) (by decide) (by decide +kernel) (by decide +kernel) (fun _ _ _ h => h) rfl (fun w' hSw => exec_look1 106 (.tmp 68) (.tmp 69) rfl (.map (some wo.heap.size)) (.agg uy.toArray) _ rfl rfl (HLK.out w' hSw.2.2)) hS0 ?_
         simp only [Act.put];(try simp only [List.getElem_toArray]);(try simp only [List.getElem_cons_succ]);(try simp only [List.getElem_cons_zero]);(try simp only [List.setIfInBounds_toArray]);(try simp only [List.set_cons_succ]);(try simp only [List.set_cons_zero])
         refine WL.one (i:=7) rfl (by decide) (by decide +kernel) ?_
         have hb9:Below W8.heap.size W8 (W8.drew.alloc (.cells [Value.int .i64 ok,.string os'].toArray 93)):=(Below.refl _ _).drew.alloc (Nat.le_refl _) _
         obtain ⟨oi,hoi,hoz,hosz,hoby⟩:=obj_info
         go_wp2_with (refine wpList_buildSlice_one rfl (.tmp 70) 22 93 rfl [.int .i64 ok,.string os'] #[.int .i64 0,.string ⟨#[]⟩] rfl Tryz.underlying22 (fun w => by kernel_rfl) zeroO (by simp) (by simp) ?_)
         have hS9:=HSW.out _ hb9
         refine ⟨hS9,?_⟩
         refine WL.one (i:=8) rfl (by decide) (by decide +kernel) ?_
         have HO9:=Lib.hid (HO8.out.below hb9)
         have HB9:=Lib.hid (HB8.out.trans (hb9.mono hs8))
         have HNEW:Hid (∀ k u,[Value.int .i64 ok,.string os'][k]? = some u → (W8.drew.alloc (.cells [Value.int .i64 ok,.string os'].toArray 93)).cell? ((⟨W8.drew.heap.size,0,none⟩:Addr).add k) = some u):=Lib.hid (fun k u hk => cells_newL _ [Value.int .i64 ok,.string os'] _ k u hk)
         have hs9:w7.heap.size ≤ (W8.drew.alloc (.cells [Value.int .i64 ok,.string os'].toArray 93)).heap.size:=HB9.out.size
         have hge:∀ g,u12.ownBlock = some g → w7.heap.size ≤ g ∧ g < wx.heap.size:=fun g e => ⟨(HO.out.blkLt g e).2,(HO.out.blkLt g e).1⟩
         have HGE:=Lib.hid hge
         have HS9:=Lib.hid hS9
         clear hb9 hge hS9
         go_wp2_with (refine wpList_append_q rfl (.tmp 64) (.tmp 71) 22 rfl w7.heap.size 93 oi (.agg #[.int .i64 0,.string ⟨#[]⟩]) 2 24 Tryz.underlying22 hoi hoz hosz hoby rfl (by decide) _ j (flatC obC ((m.take j).map fun q => (M3 q).getD ob0)) rfl HO9.out (some ⟨W8.drew.heap.size,0,none⟩) 1 1 [.int .i64 ok,.string os'] rfl rfl (fun _ => ⟨_,rfl,HNEW.out⟩) (by simp [Value.oneCell']) (by unfold maxLen;omega) (by omega) hs9 ?_)
         intro o9 w10 hq10 hg10 _
         have hS10:w10.cell? ⟨wo.heap.size + 1,0,none⟩ = some (.map (some wo.heap.size)) ∧ w10.rangeAt wx.heap.size 0 uy ∧ MapG encO w10 wo.heap.size n3 M3 :=
          ⟨cell_grown HS9.out.1 hg10 (fun e => by have h1:=(HGE.out _ e).1;have h2:wo.heap.size + 1 < w7.heap.size:=hplt;omega),range_grown HS9.out.2.1 hg10 (fun e => by have:=(HGE.out _ e).2;omega),HS9.out.2.2.grown hg10 (fun e => by have:=(HGE.out _ e.symm).1;omega)⟩
         have HQ10:=Lib.hid hq10
         have HB10:=Lib.hid (HB9.out.grown hg10 hs9 (fun k e => (HGE.out k e).1))
         clear hq10 hg10
         go_wp2
         refine ⟨hS10,?_⟩
         refine WL.last (n:=9) rfl rfl (by decide +kernel) (by decide +kernel) ?_
         clear hS10
         have HEND:Hid (OwnQ w10 w7.heap.size 2 o9 (j + 1) (flatC obC ((m.take (j + 1)).map fun q => (M3 q).getD ob0))):=Lib.hid (by rw [HFL.out];exact HQ10.out)
         go_wp2
         go_roundw
         case rel => exact ⟨j + 1,by go_num,by omega,HEND.out,HB10.out⟩
         case measure => simp [intOf];omega
        ·obtain rfl:j = m.length:=by omega
         have d4:decide ((m.length:Int) < m.length) = false:=decide_eq_false (by omega)
         have hx9:=HX7.out.below HBX9.out
         have hbx9:=HBX7.out.below HBX9.out
         have h32x:(Tryz.prog.info? 24).map (·.size) = some ux.length:=by rw [hxl];exact h32i
         have hne:w.heap.size ≠ w3.heap.size:=by
          have h1:=hg3s
          omega
         have HT9:=Lib.hid hbx9.there
         rw [hzl] at HT9
         have HO9:=Lib.hid HO.out
         rw [List.take_length] at HO9
         go_upto_region 25 with fail
         have hS0:wx.drew.rangeAt w3.heap.size 0 ux:=rangeAt_below hx9.range (Below.refl _ _).drew hx9.lt
         refine wp_region_L 4 (fun w' => w'.rangeAt w3.heap.size 0 ux) (by kernel_rfl) (by kernel_rfl) ?_
         refine WL.take (i:=0) (v:=?_) rfl (by kernel_rfl) (by decide) (by decide +kernel) (by decide +kernel) (fun _ _ _ h => h) rfl ?_ hS0 ?_
         rotate_left
         ·(intro w' hSw;(try dsimp only at hSw);go_simp;(try with_reducible rfl))
         simp only [Act.put];(try simp only [List.getElem_toArray]);(try simp only [List.getElem_cons_succ]);(try simp only [List.getElem_cons_zero]);(try simp only [List.setIfInBounds_toArray]);(try simp only [List.set_cons_succ]);(try simp only [List.set_cons_zero])
         refine WL.take (i:=1) (v:=_) rfl (by kernel_rfl) (by decide) (by decide +kernel) (by decide +kernel) (fun _ _ _ h => h) rfl (fun w' hSw => exec_row 24 _ (hSw) Tryz.underlying24 rfl h32x _ rfl rfl) hS0 ?_
         simp only [Act.put];(try simp only [List.getElem_toArray]);(try simp only [List.getElem_cons_succ]);(try simp only [List.getElem_cons_zero]);(try simp only [List.setIfInBounds_toArray]);(try simp only [List.set_cons_succ]);(try simp only [List.set_cons_zero])
         refine WL.take (i:=2) (v:=?_) rfl (by kernel_rfl) (by decide) (by decide +kernel) (by decide +kernel) (fun _ _ _ h => h) rfl ?_ hS0 ?_
         rotate_left
         ·(intro w' hSw;(try dsimp only at hSw);go_simp;(try with_reducible rfl))
         simp only [Act.put];(try simp only [List.getElem_toArray]);(try simp only [List.getElem_cons_succ]);(try simp only [List.getElem_cons_zero]);(try simp only [List.setIfInBounds_toArray]);(try simp only [List.set_cons_succ]);(try simp only [List.set_cons_zero])
         refine WL.one (i:=3) rfl (by decide) (by decide +kernel) ?_
         obtain ⟨WE,hWE⟩:∃ WE,(wx.drew).setCells w.heap.size 0 ux = WE:=⟨_,rfl⟩
         have hbd:BoxL wx.drew w.heap.size 24 uz:=hbx9.below (Below.refl _ _).drew
         have hTd:=hbd.there
         rw [hzl] at hTd
         have hrE:WE.rangeAt w.heap.size 0 ux:=by rw [← hWE];exact (hbd.set (us:=ux) (by rw [hxl,hzl])).range
         have hS1:WE.rangeAt w3.heap.size 0 ux:=by rw [← hWE];exact range_grown hS0 (grownBy_setCells _ _ _ _) (fun e => hne (Option.some.inj e))
         have hBE:Below w.heap.size w WE:=by
          rw [← hWE]
          exact below_setCells (B:=w.heap.size) w.heap.size (Nat.le_refl _) ux 0 _ ((HBW7.out.trans (HBX9.out.mono HBW7.out.size)).drew)
         have hOE:OwnQ WE w7.heap.size 2 u12 m.length (flatC obC (m.map fun q => (M3 q).getD ob0)):=by
          rw [← hWE]
          exact (HO9.out.below (Below.refl _ _).drew).grown (grownBy_setCells _ _ _ _) (fun g hg e => by
           have h1:=(HO9.out.blkLt g hg).2
           have h2:=Option.some.inj e
           have h3:=HBX7.out.lt
           omega)
         have hrowE:ObRow WE u12 (m.map fun q => (M3 q).getD ob0):=by
          have:=rowOf_ownQ obC 2 (fun _ => rfl) (l:=m.map fun q => (M3 q).getD ob0) (by rw [List.length_map];exact hOE)
          exact this
         have HWE:=Lib.hid hWE
         have HRE:=Lib.hid hrE
         have HBE:=Lib.hid hBE
         have HROW:=Lib.hid hrowE
         have HTD:=Lib.hid hTd
         clear hWE hbd hTd hrE hBE hOE hrowE hx9 hbx9
         go_wp2_with (refine wpList_store_list rfl 24 _ _ rfl w.heap.size 0 ux rfl rfl 32 hxl HTD.out h32i HXO.out ?_;rw [HWE.out])
         refine ⟨hS1,?_⟩
         refine WL.last (n:=4) rfl rfl (by decide +kernel) (by decide +kernel) ?_
         go_wp2
         refine ret_tct rfl w.heap.size 0 rfl ux _ HRE.out Tryz.underlying24 rfl h32x rfl _ _ rfl rfl ?_
         refine ⟨HBE.out,.inr (.inr ⟨hl3,HOKA.out,os,x,M3,m,u12,HTS.out,HP3.out,HMA.out,fun q => ?_,by rw [HUX.out];rfl,HROW.out⟩)⟩
         rw [← HKM.out q,← HPM.out.mem_iff]
         exact HMPS.out.mem_iff
      ·intro z c w6 hzL hz32 hfz hrg6 hlt6 hg6 hsz6 hen
       have HZP:Hid (((dn ++ [z]) ++ Lr.erase z).Perm K):=Lib.hid (by
        rw [List.append_assoc]
        exact ((List.perm_cons_erase hzL).symm.append_left dn).trans HT.out.perm)
       have hids6:=HT.out.ids.grown hg6 (fun g hg e => by have:=(HT.out.ids.blkLt g hg).2;have:=Option.some.inj e;omega)
       have hbel6:=HT.out.bel.grown hg6 HT.out.bel.size (fun k e => by have:=Option.some.inj e;omega)
       have hzc:(idC z).length = 32:=by rw [idC_len,hz32]
       have h32z':=h32_of hzc
       have HZO1:=Lib.hid (idC_one z)
       have HIS:Hid (idsF (dn ++ [z]) = idsF dn ++ idC z):=Lib.hid (idsF_snoc dn z)
       have hdl:dn.length ≤ 1000000:=by
        have h1:=HT.out.perm.length_eq
        rw [List.length_append] at h1
        omega
       obtain ⟨uy,huy⟩:∃ uy,idC z = uy:=⟨_,rfl⟩
       rw [huy] at hzc h32z' HZO1 HIS hen ⊢
       obtain ⟨W6,hW6⟩:∃ W6,(w6.alloc (.cells uz.toArray 24)).setCells w6.heap.size 0 uy = W6:=⟨_,rfl⟩
       have hx6:BoxL W6 w6.heap.size 24 uy:=by rw [← hW6];exact (BoxL.new w6 24 uz).set (by rw [hzc,hzl])
       have hr6:=hx6.range
       have hb66:Below w6.heap.size w6 W6:=by rw [← hW6];exact below_setCells _ (Nat.le_refl _) _ _ _ ((Below.refl _ _).alloc (Nat.le_refl _) _)
       have HTH6:=Lib.hid (there_alloc w6 uz.toArray 24 (by simpa using hzl))
       have hb7:Below W6.heap.size W6 (W6.alloc (.cells uy.toArray 24)):=(Below.refl _ _).alloc (Nat.le_refl _) _
       have hb67:=hb66.trans (hb7.mono hb66.size)
       have HO7:=Lib.hid (hids6.below hb67)
       have HR7:=Lib.hid (hrg6.on hb67)
       have HB7:=Lib.hid (hbel6.trans (hb67.mono hbel6.size))
       have HNEW:Hid (∀ j u,uy[j]? = some u → (W6.alloc (.cells uy.toArray 24)).cell? ((⟨W6.heap.size,0,none⟩:Addr).add j) = some u):=Lib.hid (fun j u hj => cells_newL _ uy _ j u hj)
       have HSZI:Hid (∀ w,(sizeOf 24).run Tryz.prog w = .ok uy.length w):=Lib.hid (fun w => by rw [hzc];kernel_rfl)
       have hs7:W4.heap.size + 1 ≤ (W6.alloc (.cells uy.toArray 24)).heap.size:=by have:=HR7.out.lt;omega
       have HLE:Hid (World.rangeLeft (W6.alloc (.cells uy.toArray 24)) wo.heap.size W4.heap.size < wl.rangeLeft wo.heap.size W4.heap.size):=Lib.hid (by
        rw [rangeLeft_heap (hb67.block _ hrg6.map.lt) (hb67.block _ hrg6.lt)]
        exact hlt6)
       obtain ⟨zi,i0,hi0,hiz0,hiz1,hiz2,hizv,hizl⟩:=id_zero
       have HW6:=Lib.hid hW6
       have hblt:=HBD4.out.map.lt
       clear hzL hfz hrg6 hlt6 hg6 hsz6 hids6 hbel6 huy hW6 hx6 hb66 hb7 hb67 hrg
       go_wp2_with (first
        | (refine wpList_store_list rfl 24 _ _ rfl w6.heap.size 0 uy rfl rfl 32 hzc HTH6.out h32i HZO1.out ?_;rw [HW6.out])
        | (refine wpList_load_mid rfl 24 _ rfl w6.heap.size 0 rfl uy _ hr6 Tryz.underlying24 rfl h32z' ?_)
        | (refine wpList_buildSlice_one rfl (.tmp 53) 28 24 rfl uy zi rfl Tryz.underlying28 HSZI.out hizv (by rw [hzc];omega) (by rw [hzc];omega) ?_)
        | (refine wpList_append_q rfl (.tmp 52) (.tmp 54) 28 rfl (W4.heap.size + 1) 24 i0 (.agg zi) 32 32 Tryz.underlying28 hi0 hiz0 hiz1 hiz2 hizl (by decide) _ dn.length (idsF dn) rfl HO7.out (some ⟨W6.heap.size,0,none⟩) 1 1 uy rfl (by rw [hzc]) (fun _ => ⟨_,rfl,HNEW.out⟩) HZO1.out (by unfold maxLen;omega) (by omega) hs7 ?_))
       intro o9 w9 hq9 hg9 _
       have hge:∀ g,u10.ownBlock = some g → W4.heap.size + 1 ≤ g:=fun g e => (HO7.out.blkLt g e).2
       have HEND:Hid (Bd2 W4 wo.heap.size n3 M3 K o9 (dn ++ [z]) (Lr.erase z) w9):=Lib.hid ⟨HZP.out,by rw [HIS.out,List.length_append];exact hq9,HR7.out.grown hg9 (fun e => by have:=hge _ e.symm;omega) (fun e => by have:=hge _ e.symm;omega),HB7.out.grown hg9 HB7.out.size (fun k e => by have:=hge k e;omega)⟩
       have HLE9:Hid (w9.rangeLeft wo.heap.size W4.heap.size < wl.rangeLeft wo.heap.size W4.heap.size):=Lib.hid (by
        rw [rangeLeft_heap (hg9.block _ HR7.out.map.lt (fun e => by have:=hge _ e.symm;omega)) (hg9.block _ HR7.out.lt (fun e => by have:=hge _ e.symm;omega))]
        exact HLE.out)
       clear hq9 hg9 hge
       go_wp2
       go_roundw
       case rel => exact ⟨_,_,HEND.out⟩
       case measure => exact HLE9.out
end Go.Proofs.YtbmiiiccnoiffaaGreatDoor
namespace Go.Proofs.YtbmiiiccnoiffaaGreatDoor
open Go.RowKit
theorem idO_sha (o:Ob):idO o = shaL (frameL o):=by
 unfold idO
 rw [← shaL_eq,ofB_data]
def nmA:ByteArray:=⟨#[97]⟩
def nmB:ByteArray:=⟨#[98]⟩
def nmX:ByteArray:=⟨#[120]⟩
def fl0:List Lf:=[(⟨#[98]⟩,⟨#[50]⟩),(⟨#[97,47,120]⟩,⟨#[49]⟩)]
def bA:Ob:=⟨1,⟨#[50]⟩⟩
def bB:Ob:=⟨1,⟨#[49]⟩⟩
def yA:Idl:=shaL (frameL bA)
def yB:Idl:=shaL (frameL bB)
def tX:Ob:=treeOb [⟨nmX,1,yB⟩]
def yX:Idl:=shaL (frameL tX)
def tR:Ob:=treeOb [⟨nmA,2,yX⟩,⟨nmB,1,yA⟩]
def yR:Idl:=shaL (frameL tR)
theorem idYA:idO bA = yA:=idO_sha _
theorem idYB:idO bB = yB:=idO_sha _
theorem idYX:idO tX = yX:=idO_sha _
theorem idYR:idO tR = yR:=idO_sha _
set_option maxRecDepth 100000 in
theorem tr0':trS 8 fl0 = some ([bA,bB,treeOb [⟨nmX,1,idO bB⟩],treeOb [⟨nmA,2,idO (treeOb [⟨nmX,1,idO bB⟩])⟩,⟨nmB,1,idO bA⟩]],idO (treeOb [⟨nmA,2,idO (treeOb [⟨nmX,1,idO bB⟩])⟩,⟨nmB,1,idO bA⟩])):=by kernel_rfl
theorem tr0:trS 8 fl0 = some ([bA,bB,tX,tR],yR):=by
 rw [tr0',idYB,idYA]
 rw [show treeOb [⟨nmX,1,yB⟩] = tX from rfl,idYX]
 rw [show treeOb [⟨nmA,2,yX⟩,⟨nmB,1,yA⟩] = tR from rfl,idYR]
set_option maxRecDepth 100000 in
theorem right0:rightOb bA = true ∧ rightOb bB = true ∧ rightOb tX = true ∧ rightOb tR = true:=by decide +kernel
set_option maxRecDepth 100000 in
theorem nodup0':[yA,yB,yX,yR].Nodup:=by decide +kernel
theorem nodup0:([bA,bB,tX,tR].map idO).Nodup:=by
 simp only [List.map_cons,List.map_nil,idYA,idYB,idYX,idYR]
 exact nodup0'
theorem len0:yA.length = 32 ∧ yB.length = 32 ∧ yX.length = 32 ∧ yR.length = 32:=⟨by rw [← idYA];exact idO_len _,by rw [← idYB];exact idO_len _,by rw [← idYX];exact idO_len _,by rw [← idYR];exact idO_len _⟩
theorem inj_nodup:∀ {os:List Ob},(os.map idO).Nodup → ∀ a ∈ os,∀ b ∈ os,idO a = idO b → a = b
 | [],_,a,ha,_,_,_ => by cases ha
 | x :: l,hn,a,ha,b,hb,e => by
  rw [List.map_cons,List.nodup_cons] at hn
  rcases List.mem_cons.1 ha with h1 | h1
  ·rcases List.mem_cons.1 hb with h2 | h2
   ·rw [h1,h2]
   ·exact (hn.1 (List.mem_map.2 ⟨b,h2,by rw [← e,h1]⟩)).elim
  ·rcases List.mem_cons.1 hb with h2 | h2
   ·exact (hn.1 (List.mem_map.2 ⟨a,h1,by rw [e,h2]⟩)).elim
   ·exact inj_nodup hn.2 a h1 b h2 e
theorem put_get {os:List Ob} {M:Idl → Option Ob} (hp:PutAll os (fun _ => none) M) (hn:(os.map idO).Nodup) {o:Ob} (ho:o ∈ os):M (idO o) = some o:=by
 have hinj:=inj_nodup hn
 rcases hp (idO o) with ⟨o',ho',h1,h2⟩ | ⟨h1,_⟩
 ·rw [h2,hinj o' ho' o ho h1]
 ·exact absurd rfl (h1 o ho)
theorem list_facts {os:List Ob} {M:Idl → Option Ob} {ids:List Idl} (hp:PutAll os (fun _ => none) M) (hn:(os.map idO).Nodup) (ha:AscL ids) (hi:∀ q,q ∈ ids ↔ q ∈ os.map idO) (hr:∀ o ∈ os,rightOb o = true) :
  (ids.map fun q => (M q).getD ob0).length = os.length ∧ ∀ o ∈ os,lastS (ids.map fun q => (M q).getD ob0) (idO o) = some o:=by
 have hmem:∀ m ∈ ids.map (fun q => (M q).getD ob0),m ∈ os:=fun m hm => by
  obtain ⟨q,hq,rfl⟩:=List.mem_map.1 hm
  obtain ⟨o,ho,rfl⟩:=List.mem_map.1 ((hi q).1 hq)
  rw [put_get hp hn ho];exact ho
 refine ⟨?_,fun o ho => ?_⟩
 ·rw [List.length_map,((List.perm_ext_iff_of_nodup ha.nodup hn).2 hi).length_eq,List.length_map]
 ·unfold lastS rights
  cases h:((ids.map fun q => (M q).getD ob0).filter rightOb).reverse.find? (fun x => decide (idO x = idO o)) with
  | none =>
   exfalso
   have:=List.find?_eq_none.1 h o (by
    rw [List.mem_reverse,List.mem_filter]
    exact ⟨List.mem_map.2 ⟨idO o,(hi _).2 (List.mem_map.2 ⟨o,ho,rfl⟩),by rw [put_get hp hn ho];rfl⟩,hr o ho⟩)
   simp at this
  | some x =>
   have h1:=List.mem_of_find?_eq_some h
   rw [List.mem_reverse,List.mem_filter] at h1
   have h2:idO x = idO o:=by simpa using List.find?_some h
   have h3:=put_get hp hn (hmem x h1.1)
   rw [h2,put_get hp hn ho] at h3
   rw [Option.some.inj h3]
theorem lastS_right {l:List Ob} {x:Idl} {o:Ob} (h:lastS l x = some o):rightOb o = true:=by
 unfold lastS rights at h
 have:=List.mem_of_find?_eq_some h
 rw [List.mem_reverse,List.mem_filter] at this
 exact this.2
set_option maxRecDepth 100000 in
theorem treeOf_X:treeOf tX.body = some [⟨nmX,1,yB⟩]:=treeOf_write (by kernel_rfl) (by intro e he;rw [List.mem_singleton.1 he];exact len0.2.1)
set_option maxRecDepth 100000 in
theorem treeOf_R:treeOf tR.body = some [⟨nmA,2,yX⟩,⟨nmB,1,yA⟩]:=treeOf_write (by kernel_rfl) (by
 intro e he
 rcases List.mem_cons.1 he with rfl | he
 ·exact len0.2.2.1
 ·rw [List.mem_singleton.1 he];exact len0.1)
section
variable {f:Idl → Option Ob} (hA:f yA = some bA) (hB:f yB = some bB) (hX:f yX = some tX) (hR:f yR = some tR)
include hA hB hX hR
set_option maxRecDepth 100000 in
theorem files0:filesF f yR = .inr [(⟨#[97,47,120]⟩,⟨#[49]⟩),(⟨#[98]⟩,⟨#[50]⟩)]:=by
 have gR:treeG f yR = some [⟨nmA,2,yX⟩,⟨nmB,1,yA⟩]:=by unfold treeG;rw [hR];exact treeOf_R
 have gX:treeG f yX = some [⟨nmX,1,yB⟩]:=by unfold treeG;rw [hX];exact treeOf_X
 have e1:bA.kind = 1:=rfl
 have e2:bB.kind = 1:=rfl
 unfold filesF
 rw [show (8:Nat) = 6 + 1 + 1 from rfl]
 unfold walkF walkG
 rw [gR]
 unfold loopF
 unfold walkF walkG
 simp only [gX]
 unfold loopF
 simp [hA,hB,e1,e2,loopF]
 exact ⟨⟨by decide +kernel,rfl⟩,rfl,rfl⟩
omit hA hB hX in
set_option maxRecDepth 100000 in
theorem find0:findP f yR nmA = ((yX,2),0):=by
 unfold findP
 rw [if_pos (by decide +kernel),show nms nmA = [nmA] from by kernel_rfl]
 unfold findN
 rw [if_neg (by simp)]
 simp only [hR]
 rw [if_neg (show ¬ tR.kind ≠ 2 from by simp [tR,treeOb]),treeOf_R]
 rfl
end
end Go.Proofs.YtbmiiiccnoiffaaGreatDoor
