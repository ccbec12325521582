/- YtmhjpmenngjmeaaGreatDoorR42: texts PF of this claim, in one. -/
import Derived.Test.YtmhjpmenngjmeaaGreatDoorR38
import Derived.Test.YtmhjpmenngjmeaaGreatDoorR41
import Derived.Test.YtmhjpmenngjmeaaGreatDoorR9
namespace Go.Proofs.YtmhjpmenngjmeaaGreatDoor
open Go.RowKit Go.Shelf
set_option maxRecDepth 100000
def BoxL (W:World) (b:Nat) (t:TypeId) (cs:List Value):Prop:=W.heap[b]? = some (.cells cs.toArray t (0,0))
theorem BoxL.lt {W:World} {b:Nat} {t:TypeId} {cs:List Value} (h:BoxL W b t cs):b < W.heap.size:=(Array.getElem?_eq_some_iff.1 h).1
theorem BoxL.range {W:World} {b:Nat} {t:TypeId} {cs:List Value} (h:BoxL W b t cs):W.rangeAt b 0 cs:=fun j v hv => by
 rw [Nat.zero_add]
 have:W.cell? ⟨b,j,none⟩ = cs.toArray[j]?:=by simp [World.cell?,show W.heap[b]? = _ from h]
 rw [this];simpa using hv
theorem BoxL.there {W:World} {b:Nat} {t:TypeId} {cs:List Value} (h:BoxL W b t cs):W.there b 0 cs.length:=fun j hj => by
 rw [Nat.zero_add]
 have e1:W.cell? ⟨b,j,none⟩ = cs.toArray[j]?:=by simp [World.cell?,show W.heap[b]? = _ from h]
 have e2:W.frozen? ⟨b,j,none⟩ = false:=by simp [World.frozen?,show W.heap[b]? = _ from h]
 rw [e1,e2]
 exact ⟨by simp [hj],rfl⟩
theorem BoxL.new (W:World) (t:TypeId) (cs:List Value):BoxL (W.alloc (.cells cs.toArray t)) W.heap.size t cs:=World.alloc_heap_new W _
theorem BoxL.below {W W':World} {b:Nat} {t:TypeId} {cs:List Value} (h:BoxL W b t cs) (hb:Below W.heap.size W W'):BoxL W' b t cs:=(hb.block b h.lt).trans h
theorem BoxL.kept {W W':World} {row:Option Nat} {b:Nat} {t:TypeId} {cs:List Value} (h:BoxL W b t cs) (hg:W.grownBy W' row) (hne:some b ≠ row):BoxL W' b t cs:=(hg.block b h.lt hne).trans h
theorem lies_boxL {B k:Nat} {Bs:Option Nat} {t:TypeId} {cs:List Value} (hne:Bs ≠ some k):Lies B Bs (fun W => BoxL W k t cs):=fun X Y row h hg hr =>
 h.kept hg fun e => by
  rcases hr k e.symm with h1 | ⟨_,o',ho',hc'⟩
  ·exact hne h1
  ·rw [show X.heap[k]? = _ from h] at ho'
   obtain rfl:=Option.some.inj ho'
   cases hc'
theorem size_setCells (g:Nat) {e:TypeId} {fr:Nat × Nat}:∀ (vs:List Value) (o:Nat) (w:World) (cur:Array Value),w.heap[g]? = some (.cells cur e fr) → ∃ cur',(w.setCells g o vs).heap[g]? = some (.cells cur' e fr) ∧ cur'.size = cur.size
 | [],o,w,cur,h => ⟨cur,h,rfl⟩
 | v :: vs,o,w,cur,h => by
  obtain ⟨hlt,hk⟩:=Array.getElem?_eq_some_iff.1 h
  have h':(w.setCell ⟨g,o,none⟩ v).heap[g]? = some (.cells (cur.setIfInBounds o v) e fr):=by
   show (w.heap.modify g _)[g]? = _
   rw [Array.getElem?_eq_getElem (by rw [Array.size_modify];exact hlt),Array.getElem_modify_self,hk]
   rfl
  obtain ⟨cur',h2,h3⟩:=size_setCells g vs (o + 1) _ _ h'
  exact ⟨cur',h2,by rw [h3];simp⟩
theorem BoxL.set {W:World} {b:Nat} {t:TypeId} {cs us:List Value} (h:BoxL W b t cs) (hl:us.length = cs.length):BoxL (W.setCells b 0 us) b t us:=by
 obtain ⟨cur,h1,h2⟩:=size_setCells b us 0 W cs.toArray h
 have hr:=World.rangeAt_setCells_same W b 0 us (by rw [hl];exact h.there)
 have e:cur = us.toArray:=by
  apply Array.ext_getElem?
  intro j
  by_cases hj:j < us.length
  ·have:=hr j us[j] (by simp [hj])
   rw [Nat.zero_add] at this
   have e1:(W.setCells b 0 us).cell? ⟨b,j,none⟩ = cur[j]?:=by simp [World.cell?,h1]
   rw [e1] at this
   rw [this];simp [hj]
  ·rw [Array.getElem?_eq_none (by rw [h2];simp;omega),Array.getElem?_eq_none (by simpa using hj)]
 rw [e] at h1
 exact h1
theorem BoxL.other {W:World} {b g o:Nat} {t:TypeId} {cs us:List Value} (h:BoxL W b t cs) (hne:b ≠ g):BoxL (W.setCells g o us) b t cs:=h.kept (grownBy_setCells W g o us) (fun e => hne (Option.some.inj e))
theorem findN_step (f:Idl → Option Ob) (n:ByteArray) (l:List ByteArray) (c:Idl × Nat):findN f (n :: l) c = if c.2 ≠ 2 then ((zid,0),6) else match treeAt f c.1 with
  | none => ((zid,0),13)
  | some es => match lastE n es with
   | none => ((zid,0),6)
   | some e => findN f l (e.id,e.kind):=by
 show (if c.2 ≠ 2 then ((zid,0),6) else match f c.1 with
  | none => ((zid,0),13)
  | some o => if o.kind ≠ 2 then ((zid,0),13) else match lastE n ((treeOf o.body).getD []) with
   | none => ((zid,0),6)
   | some e => findN f l (e.id,e.kind)) = _
 unfold treeAt
 by_cases h2:c.2 ≠ 2
 ·rw [if_pos h2,if_pos h2]
 ·rw [if_neg h2,if_neg h2]
  cases f c.1 with
  | none => rfl
  | some o =>
   dsimp only
   by_cases hk:o.kind = 2
   ·rw [if_pos hk,if_neg (by simpa using hk)]
   ·rw [if_neg hk,if_pos hk]
theorem treeAt_right {f:Idl → Option Ob} (hf:∀ x o,f x = some o → rightOb o = true) {x:Idl} {es:List Ent} (h:treeAt f x = some es):(∀ n,lastE n es = firstE n es) ∧ ∀ e ∈ es,e.id.length = 32 ∧ e.name.size ≤ 32 ∧ (e.kind = 1 ∨ e.kind = 2):=by
 unfold treeAt at h
 cases ho:f x with
 | none => rw [ho] at h;cases h
 | some o =>
  rw [ho] at h
  dsimp only at h
  by_cases hk:o.kind = 2
  ·rw [if_pos hk] at h
   have hr:=hf x o ho
   unfold rightOb at hr
   rw [Bool.and_eq_true,hk,if_neg (by decide),if_pos rfl] at hr
   obtain ⟨es',he⟩:=Option.isSome_iff_exists.1 hr.2
   rw [he] at h
   obtain rfl:=Option.some.inj h
   exact ⟨treeOf_first he,(treeOf_some he).2⟩
  ·rw [if_neg hk] at h;cases h
theorem findN_len {f:Idl → Option Ob} (hf:∀ x o,f x = some o → rightOb o = true):∀ (l:List ByteArray) (c:Idl × Nat),c.1.length = 32 → (findN f l c).1.1.length = 32
 | [],c,h => h
 | n :: l,c,h => by
  rw [findN_step]
  split
  ·exact zid_len
  ·split
   ·exact zid_len
   ·rename_i es hes
    split
    ·exact zid_len
    ·rename_i e he
     exact findN_len hf l _ ((treeAt_right hf hes).2 e (lastE_mem he).1).1
def FiAns (f:Idl → Option Ob) (root:Idl) (s:ByteArray) (w:World) (e:Ending) (w':World):Prop:=e = .returned (.tuple #[.agg (chC (findP f root s).1).toArray,.int .i64 ((findP f root s).2:Int)]) ∧ Below w.heap.size w w'
def FiI (f:Idl → Option Ob) (root:Idl) (s:ByteArray) (w:World) (v:Value) (A n:Nat) (pre:List ByteArray) (W:World):Prop :=
 n ≤ W.heap.size ∧ (∃ c:Idl × Nat,BoxL W A 43 (chC c) ∧ (c.1.length = 32 ∧ ∀ rest,nms s = pre ++ rest → findN f rest c = findN f (nms s) (root,2))) ∧
 (BoxL W (w.heap.size + 1 + 1) 43 (chC (zid,0)) ∧ Boxed W (w.heap.size + 1 + 1 + 1) 28 (.int .i64 0)) ∧ Boxed W w.heap.size 40 v ∧ Below w.heap.size w W
def FiX (f:Idl → Option Ob) (root:Idl) (s:ByteArray) (w:World) (c:Code) (W:World):Prop :=
 (BoxL W (w.heap.size + 1 + 1) 43 (chC (findN f (nms s) (root,2)).1) ∧ Boxed W (w.heap.size + 1 + 1 + 1) 28 (.int .i64 ((findN f (nms s) (root,2)).2:Int))) ∧ Below w.heap.size w W ∧ c = .ret
theorem fi_exit {W U:World} {h2 h3:Nat} {zc:List Value} (hU:Below W.heap.size W U) (i2:BoxL W h2 43 zc) (i3:Boxed W h3 28 (.int .i64 0)) (hne:h3 ≠ h2) :
  U.there h2 0 zc.length ∧ ∃ V2,U.setCells h2 0 zc = V2 ∧ V2.cell? ⟨h3,0,none⟩ = some (.int .i64 0) ∧ V2.frozen? ⟨h3,0,none⟩ = false ∧ ∀ en:Int,∃ V3,V2.setCell ⟨h3,0,none⟩ (.int .i64 en) = V3 ∧ BoxL V3 h2 43 zc ∧ Boxed V3 h3 28 (.int .i64 en) ∧
   (∀ j o,W.heap[j]? = some o → j ≠ h2 → j ≠ h3 → V3.heap[j]? = some o) ∧ W.heap.size ≤ V3.heap.size ∧ ∀ B w0,Below B w0 W → B ≤ h2 → B ≤ h3 → B ≤ W.heap.size → Below B w0 V3:=by
 have u2:=i2.below hU
 have u3:Boxed U h3 28 (.int .i64 0):=(hU.block _ i3.lt).trans i3
 have v2:=u2.set (us:=zc) rfl
 have v3:Boxed (U.setCells h2 0 zc) h3 28 (.int .i64 0):=BoxL.other (t:=28) (cs:=[.int .i64 0]) u3 hne
 have g2:=grownBy_setCells U h2 0 zc
 refine ⟨u2.there,_,rfl,v3.cell,v3.frozen,fun en => ⟨_,rfl,?_,v3.set _,?_,?_,?_⟩⟩
 ·exact v2.kept (grownBy_setCell' _ h3 _) (fun e => hne (Option.some.inj e).symm)
 ·intro j o hj hj2 hj3
  have hjW:=(Array.getElem?_eq_some_iff.1 hj).1
  have hjU:j < U.heap.size:=Nat.lt_of_lt_of_le hjW hU.size
  exact ((grownBy_setCell' (U.setCells h2 0 zc) h3 (.int .i64 en)).block j (Nat.lt_of_lt_of_le hjU g2.size) (fun e => hj3 (Option.some.inj e))).trans ((g2.block j hjU (fun e => hj2 (Option.some.inj e))).trans ((hU.block j hjW).trans hj))
 ·exact Nat.le_trans hU.size (Nat.le_trans g2.size (grownBy_setCell' (U.setCells h2 0 zc) h3 (.int .i64 en)).size)
 ·intro B w0 hb h2B h3B hBW
  exact ((hb.trans (hU.mono hBW)).grown g2 (Nat.le_trans hBW hU.size) (fun k e => by have:=Option.some.inj e;omega)).grown (grownBy_setCell' _ h3 _) (Nat.le_trans hBW (Nat.le_trans hU.size g2.size)) (fun k e => by have:=Option.some.inj e;omega)
theorem load_errno (V:World) (b:Nat) (n:Int) (hc:V.cell? ⟨b,0,none⟩ = some (.int .i64 n)):(loadVar 28 ⟨b,0,none⟩).run Tryz.prog V = .ok (.int .i64 n) V:=by
 go_simp
theorem res_find (tmps:Array Value) (V:World) (b2 b3:Nat) (cs:List Value) (n:Int) (h6:tmps.getD 6 undef = .pointer (some ⟨b2,0,none⟩)) (h7:tmps.getD 7 undef = .pointer (some ⟨b3,0,none⟩)) (hr:V.rangeAt b2 0 cs) (hl:cs.length = 33) (hc:V.cell? ⟨b3,0,none⟩ = some (.int .i64 n)) :
  (results Tryz.f12 tmps).run Tryz.prog V = .ok (.tuple #[.agg cs.toArray,.int .i64 n]) V:=by
 have h1:=run_loadVar_mid (P:=Tryz.prog) V b2 0 43 cs _ hr Tryz.underlying43 rfl (by rw [hl];kernel_rfl)
 have h2:=load_errno V b3 n hc
 simp only [results,show Tryz.f12.results = #[ResultVar.cell 6 43,ResultVar.cell 7 28] from rfl]
 rw [Array.getD_eq_getD_getElem?] at h6 h7
 simp [asAddr,h6,h7,h1,h2]
set_option maxHeartbeats 4000000 in
theorem pfind_any (v:Value) (f:Idl → Option Ob) (hf:∀ x o,f x = some o → rightOb o = true) (root:Idl) (s:ByteArray) (w:World) (hs:SrcP w v f) (hx:root.length = 32) (hz:s.size ≤ 1000) (hm:MaxAt w) :
  Calls Tryz.prog 12 #[v,.agg (idC root).toArray,.string s] w (FiAns f root s w):=by
 obtain ⟨hcz,hcb⟩:=ch_zero
 have HSP:=Lib.hid hs
 obtain ⟨lb,mb,nm,rfl,_,_⟩:=hs
 have h33:(Tryz.prog.info? 43).map (·.size) = some 33:=by kernel_rfl
 have hcl:=chC_len (c:=(zid,0)) zid_len
 have HCO:=Lib.hid (chC_one (zid,0))
 obtain ⟨zc,hzc⟩:∃ zc,chC (zid,0) = zc:=⟨_,rfl⟩
 obtain ⟨W0,hW0⟩:∃ W0,(((w.alloc (.cells #[.iface 72 (.pointer (some ⟨lb,0,none⟩))] 40)).alloc (.cells (idC root).toArray 27)).alloc (.cells zc.toArray 43)).alloc (.cells #[.int .i64 0] 28) = W0:=⟨_,rfl⟩
 have a0:Boxed W0 w.heap.size 40 (.iface 72 (.pointer (some ⟨lb,0,none⟩))):=by rw [← hW0];exact (((Boxed.new w _ _).alloc _).alloc _).alloc _
 have a1:BoxL W0 (w.heap.size + 1) 27 (idC root):=by
  rw [← hW0]
  have:=BoxL.new (w.alloc (.cells #[.iface 72 (.pointer (some ⟨lb,0,none⟩))] 40)) 27 (idC root)
  rw [World.size_alloc] at this
  exact (this.below ((Below.refl _ _).alloc (Nat.le_refl _) _)).below ((Below.refl _ _).alloc (Nat.le_refl _) _)
 have a2:BoxL W0 (w.heap.size + 1 + 1) 43 zc:=by
  rw [← hW0]
  have:=BoxL.new ((w.alloc (.cells #[.iface 72 (.pointer (some ⟨lb,0,none⟩))] 40)).alloc (.cells (idC root).toArray 27)) 43 zc
  rw [World.size_alloc,World.size_alloc] at this
  exact this.below ((Below.refl _ _).alloc (Nat.le_refl _) _)
 have a3:Boxed W0 (w.heap.size + 1 + 1 + 1) 28 (.int .i64 0):=by
  rw [← hW0]
  have:=Boxed.new (((w.alloc (.cells #[.iface 72 (.pointer (some ⟨lb,0,none⟩))] 40)).alloc (.cells (idC root).toArray 27)).alloc (.cells zc.toArray 43)) 28 (.int .i64 0)
  rw [World.size_alloc,World.size_alloc,World.size_alloc] at this
  exact this
 have hs0:W0.heap.size = w.heap.size + 1 + 1 + 1 + 1:=by rw [← hW0];simp
 have hb0:Below w.heap.size w W0:=by rw [← hW0];exact ((((Below.refl _ w).alloc (Nat.le_refl _) _).alloc (by simp) _).alloc (by simp;omega) _).alloc (by simp;omega) _
 have HIP:=Lib.hid (callsIn_wide (n:=8)|>.2 (ispath_any s W0 hz (hm.below hb0 hm.lt)))
 have hmw:=hm.lt
 have hm0:=hm.below hb0 hm.lt
 have hsl:w.heap.size + 1 + 1 + 1 + 1 ≤ W0.heap.size:=by omega
 rw [hzc] at hcz hcb hcl HCO
 have HZC:=Lib.hid hzc
 have HW0:=Lib.hid hW0
 clear hW0 hm hzc hs0
 refine (callsIn_wide (n:=9)).1 ?_
 refine callsIn_of_wp_marks Tryz.func12 rfl trivial ?_ rfl
 simp only [Tryz.ntmps12,List.size_toArray,List.length_cons,List.length_nil,Nat.reduceAdd,Nat.reduceSub,Array.replicate_succ,Array.replicate_zero,List.push_toArray,List.append_toArray,List.nil_append,List.cons_append]
 gi_wp2_with fail
 rw [HW0.out]
 refine ⟨trivial,?_⟩
 refine HIP.out.mono ?_
 rintro e w1 ⟨rfl,hb1⟩
 have hb01:Below w.heap.size w w1:=hb0.trans (hb1.mono hb0.size)
 have b0:Boxed w1 w.heap.size 40 (.iface 72 (.pointer (some ⟨lb,0,none⟩))):=(hb1.block _ a0.lt).trans a0
 have b1:=a1.below hb1
 have b2:=a2.below hb1
 have b3:Boxed w1 (w.heap.size + 1 + 1 + 1) 28 (.int .i64 0):=(hb1.block _ a3.lt).trans a3
 have hs1:=hb1.size
 clear a0 a1 a2 a3 HW0 HIP
 cases hp:pathOk s with
 | false =>
  have HF:Hid (findP f root s = ((zid,0),1)):=Lib.hid (by unfold findP;rw [hp];rfl)
  have t2:=Lib.hid b2.there
  have c2:=b2.set (us:=zc) rfl
  have c3:Boxed (w1.setCells (w.heap.size + 1 + 1) 0 zc) (w.heap.size + 1 + 1 + 1) 28 (.int .i64 0):=BoxL.other (t:=28) (cs:=[.int .i64 0]) b3 (by omega)
  have gb:=grownBy_setCells w1 (w.heap.size + 1 + 1) 0 zc
  obtain ⟨V,hV⟩:∃ V,w1.setCells (w.heap.size + 1 + 1) 0 zc = V:=⟨_,rfl⟩
  rw [hV] at c2 c3 gb
  have hbV:=hb01.grown gb hb01.size (fun k e => by have:=Option.some.inj e;omega)
  have d3:=c3.cell
  have e3:=c3.frozen
  have HV:=Lib.hid hV
  have HBV:=Lib.hid hbV
  have C2:=Lib.hid c2
  have C3:=Lib.hid c3
  clear hp c2 c3 gb hV hbV
  gi_wp2_with (first
   | (refine wpListIn_store_mid rfl 43 _ _ rfl (w.heap.size + 1 + 1) 0 zc rfl rfl t2.out (by rw [hcl];exact h33) HCO.out ?_;rw [HV.out])
   | gi_in)
  have g3:V.grownBy (V.setCell ⟨w.heap.size + 1 + 1 + 1,0,none⟩ (.int .i64 1)) (some (w.heap.size + 1 + 1 + 1)):=grownBy_setCell' _ _ _
  refine ⟨_,res_find _ _ (w.heap.size + 1 + 1) (w.heap.size + 1 + 1 + 1) zc 1 rfl rfl ?_ hcl (C3.out.set _).cell,?_⟩
  ·exact (C2.out.kept g3 (by intro e;have:=Option.some.inj e;omega)).range
  ·exact ⟨by rw [HF.out,HZC.out];rfl,HBV.out.grown g3 HBV.out.size (fun k e => by have:=Option.some.inj e;omega)⟩
 | true =>
  have HF:Hid (findP f root s = findN f (nms s) (root,2)):=Lib.hid (by unfold findP;rw [if_pos hp])
  obtain ⟨A,hA⟩:∃ A,w1.heap.size = A:=⟨_,rfl⟩
  have hrc:(chC (root,2)).length = 33:=chC_len hx
  have hbt:=ch_built root hx 2 w1
  obtain ⟨W2,hW2⟩:∃ W2,(w1.alloc (.cells zc.toArray 43)).setCells w1.heap.size 0 (chC (root,2)) = W2:=⟨_,rfl⟩
  have c4:BoxL W2 A 43 (chC (root,2)):=by rw [← hW2,← hA];exact (BoxL.new w1 43 zc).set (by rw [hrc,hcl])
  have hb2:Below w1.heap.size w1 W2:=by rw [← hW2];exact below_setCells _ (Nat.le_refl _) _ _ _ ((Below.refl _ _).alloc (Nat.le_refl _) _)
  have hs2:W2.heap.size = A + 1:=by rw [← hW2,← hA];simp
  have h32x:=h32_of (us:=idC root) (by rw [idC_len,hx])
  have HTH:=Lib.hid (there_alloc w1 zc.toArray 43 (by simpa using hcl))
  have HRO:=Lib.hid (chC_one (root,2))
  have HSPL:=Lib.hid (callsIn_wide (n:=8)|>.2 (split_any s W2 ((hm0.below hb1 hm0.lt).below hb2 (hm0.below hb1 hm0.lt).lt)))
  rw [hA] at hW2
  have HW2:=Lib.hid hW2
  have hr1:=b1.range
  have HTH:Hid ((w1.alloc (.cells zc.toArray 43)).there A 0 33):=Lib.hid (by rw [← hA];exact HTH.out)
  have HA:=Lib.hid hA
  generalize hcr:chC (root,2) = cr at hrc hbt HRO HW2 c4
  generalize idC root = ur at hbt h32x hr1 ⊢
  clear hp
  gi_wp2_with (first
   | (refine wpListIn_load_mid rfl 27 _ rfl (w.heap.size + 1) 0 rfl ur _ hr1 Tryz.underlying27 rfl h32x ?_)
   | (refine wpListIn_build2 rfl 43 (.tmp 17) (.const (.int .i64 2)) rfl (.agg ur.toArray) (.int .i64 2) _ rfl rfl hbt ?_)
   | (refine wpListIn_store_mid rfl 43 _ _ rfl A 0 cr rfl rfl (by rw [hrc];exact HTH.out) (by rw [hrc];exact h33) HRO.out ?_;rw [HW2.out])
   | gi_in)
  refine ⟨trivial,?_⟩
  refine HSPL.out.mono ?_
  rintro e W3 ⟨rfl,hsp,hsz,hb3⟩
  have hbA:w.heap.size + 1 + 1 + 1 + 1 ≤ A:=by have:=HA.out;omega
  have hb12:Below w.heap.size w1 W2:=hb2.mono (by omega)
  have hb23:Below w.heap.size W2 W3:=hb3.mono (by omega)
  have hbw3:Below w.heap.size w W3:=(hb01.trans hb12).trans hb23
  have e4:BoxL W3 A 43 cr:=c4.below hb3
  have e0:Boxed W3 w.heap.size 40 (.iface 72 (.pointer (some ⟨lb,0,none⟩))):=(hb3.block _ (by have:=b0.lt;omega)).trans ((hb2.block _ b0.lt).trans b0)
  have e2:=(b2.below hb2).below hb3
  have e3:Boxed W3 (w.heap.size + 1 + 1 + 1) 28 (.int .i64 0):=(hb3.block _ (by have:=b3.lt;omega)).trans ((hb2.block _ b3.lt).trans b3)
  have hz1:W2.heap.size + 3 ≤ W3.heap.size:=by omega
  have hz2:W3.heap.size ≤ W2.heap.size + 3:=by omega
  have hz3:A + 1 ≤ W2.heap.size:=by omega
  have HCR:=Lib.hid hcr
  clear hsz hs2 b0 b1 b2 b3 c4 hb2 hb3 hb12 hb23 hr1 HTH HSPL HW2 hbt hcr
  gi_wp2_with fail
  refine wpIn_rangeFunc_cell rfl (by omega) (gf:=89) (lb:=#[.pointer (some ⟨W2.heap.size + 1,0,none⟩),.pointer (some ⟨W2.heap.size,0,none⟩),.pointer (some ⟨W2.heap.size + 2,0,none⟩)]) rfl trivial (enters_of Tryz.func89 (by kernel_rfl) rfl)
   (split1_in 8 (by omega) W2.heap.size s (by omega) W3 hsp) kpS_t (fun X k o o' hk hX ho j hj => World.putObj_heap_other (by have:=hsp.ne;omega)) (Below.refl _ _) (fun b e => by cases e;omega) (fun _ => rfl)
   (FiI f root s w (.iface 72 (.pointer (some ⟨lb,0,none⟩))) A W3.heap.size) (FiX f root s w)
   (fun pre => lies_size.and ((lies_ex fun c => (lies_boxL (by intro e;have:=Option.some.inj e;omega)).and (Lies.pure _ _ _)).and (((lies_boxL (by intro e;have:=Option.some.inj e;omega)).and (lies_boxed (by intro e;have:=Option.some.inj e;omega))).and ((lies_boxed (by intro e;have:=Option.some.inj e;omega)).and (lies_below (Nat.le_refl _) (by omega) (fun b e => by cases e;omega))))))
   (fun c => ((lies_boxL (by intro e;have:=Option.some.inj e;omega)).and (lies_boxed (by intro e;have:=Option.some.inj e;omega))).and ((lies_below (Nat.le_refl _) (by omega) (fun b e => by cases e;omega)).and (Lies.pure _ _ _)))
   ⟨Nat.le_refl _,⟨(root,2),by rw [HCR.out];exact e4,hx,fun rest h => by rw [h];rfl⟩,⟨by rw [HZC.out];exact e2,e3⟩,e0,hbw3⟩
   (fun x a' W => ∃ bx,(W3.heap.size ≤ bx ∧ a' = { tmps:=#[.iface 72 (.pointer (some ⟨lb,0,none⟩)),.agg ur.toArray,.string s,.pointer (some ⟨w.heap.size,0,none⟩),.pointer (some ⟨w.heap.size + 1,0,none⟩),undef,.pointer (some ⟨w.heap.size + 1 + 1,0,none⟩),.pointer (some ⟨w.heap.size + 1 + 1 + 1,0,none⟩),.pointer (some ⟨A,0,none⟩),.pointer (some ⟨bx,0,none⟩),undef,undef,undef,.string s,.bool true,.bool false,undef,.agg ur.toArray,.agg cr.toArray,.string s,.func (.func 89) #[] #[.pointer (some ⟨W2.heap.size + 1,0,none⟩),.pointer (some ⟨W2.heap.size,0,none⟩),.pointer (some ⟨W2.heap.size + 2,0,none⟩)],.string x,undef,undef,undef,undef,undef,undef,undef,undef,undef,undef,undef,undef,undef,undef,undef,undef,undef,undef,undef,undef,undef,undef,undef,undef,undef,undef,undef,undef,undef,undef,undef,undef],defers:=[] }) ∧ Boxed W bx 9 (.string x))
   (fun x a' => lies_ex fun bx => by
    by_cases hbx:W3.heap.size ≤ bx
    ·exact (Lies.pure _ _ _).and (lies_boxed (by intro e;have:=Option.some.inj e;omega))
    ·exact fun X Y row h _ _ => absurd h.1.1 hbx) ?assign ?body ?done ?stop
  case assign =>
   intro l pre x W K hI hK
   have hb:=hI.2.2.2.2
   have hzW:=hI.1
   have hba:Below W.heap.size W (W.alloc (.cells #[.string x] 9)):=(Below.refl _ _).alloc (Nat.le_refl _) _
   obtain ⟨_,⟨c,hc,hcf⟩,⟨i2,i3⟩,i0,_⟩:=hI
   have HK:=Lib.hid (fun a' h => hK a' (W.alloc (.cells #[.string x] 9)) (keeps_of_below hba) (fun j hj => hba.block j (by have:=hsp.ne;omega))
    ⟨Nat.le_trans hzW hba.size,⟨c,hc.below hba,hcf⟩,⟨i2.below hba,i3.alloc _⟩,i0.alloc _,hb.trans (hba.mono hb.size)⟩ h)
   clear hK hba hb hc hcf i2 i3 i0
   gi_wp2_with gi_round_op_a
   exact HK.out _ ⟨W.heap.size,⟨hzW,rfl⟩,Boxed.new W _ _⟩
  case body =>
   rintro l pre x rest a' W hsp2 ⟨hWz,⟨c,hcb,hc32,hcf⟩,⟨i2,i3⟩,i0,hb⟩ ⟨bx,⟨hbx,rfl⟩,hxb⟩
   rw [HZC.out] at i2
   have hcl2:=chC_len hc32
   have r0:=hcb.range
   have k0:W.cell? ⟨A,32,none⟩ = some (.int .i64 (c.2:Int)):=by
    have:=r0 32 (.int .i64 (c.2:Int)) (by unfold chC;rw [List.getElem?_append_right (by rw [idC_len,hc32];omega),idC_len,hc32];rfl)
    simpa using this
   have rid:W.rangeAt A 0 (idC c.1):=fun j u hu => r0 j u (by unfold chC;rw [List.getElem?_append_left (List.getElem?_eq_some_iff.1 hu).1];exact hu)
   have HST:=Lib.hid ((hcf (x :: rest) hsp2).symm.trans (findN_step f x rest c))
   have v0:=i0.cell
   have HCB:=Lib.hid hcb
   have HI2:=Lib.hid i2
   have HI3:=Lib.hid i3
   have HI0:=Lib.hid i0
   have HB:=Lib.hid hb
   have HXB:=Lib.hid hxb
   clear hcb i2 i3 i0 hb hcf hxb r0 e0 e2 e3 e4
   by_cases h2:c.2 = 2
   ·have d2:((c.2:Int) != 2) = false:=by rw [bne_eq_false_iff_eq];omega
    have HST2:=Lib.hid (HST.out.trans (if_neg (by omega)))
    have HTR:=Lib.hid (CallsIn.inRound (n:=6) l (callsIn_wide.2 (pathtree_any _ f hf c.1 W (HSP.out.below HB.out) hc32)))
    have h32c:=h32_of (us:=idC c.1) (by rw [idC_len,hc32])
    have HAN:Hid (∀ es,treeAt f c.1 = some es → (∀ n,lastE n es = firstE n es) ∧ ∀ e ∈ es,e.id.length = 32 ∧ e.name.size ≤ 32 ∧ (e.kind = 1 ∨ e.kind = 2)):=Lib.hid (fun es h => treeAt_right hf h)
    obtain ⟨ta,hta⟩:∃ ta,treeAt f c.1 = ta:=⟨_,rfl⟩
    unfold PtAns at HTR
    rw [hta] at HST2 HTR HAN
    clear hta HST d2
    have d2:((c.2:Int) != 2) = false:=by rw [bne_eq_false_iff_eq];omega
    have kk:(c.2:Int) = 2:=by omega
    generalize idC c.1 = uc at rid h32c HTR
    gi_wp2_with (first
     | (refine wpListIn_load_mid rfl 27 _ rfl A 0 rfl uc _ rid Tryz.underlying27 rfl h32c ?_)
     | gi_round_op_a)
    refine ⟨trivial,?_⟩
    refine HTR.out.mono ?_
    rintro e U ⟨u,rfl,hrow,hbU⟩
    have HBU:=Lib.hid hbU
    have HROW:=Lib.hid hrow
    clear hbU hrow HTR rid h32c
    cases ta with
    | none =>
     have HF13:Hid (findN f (nms s) (root,2) = ((zid,0),13)):=HST2
     clear HST2 HAN HROW
     obtain ⟨t2,V2,hV2,d3,f3,hfin⟩:=fi_exit HBU.out HI2.out HI3.out (by omega)
     obtain ⟨V3,hV3,q2,q3,qk,qs,qb⟩:=hfin 13
     have HT2:=Lib.hid t2
     have HV2:=Lib.hid hV2
     have HV3:=Lib.hid hV3
     have HQ:Hid (cellPost W3.heap.size (KpS W2.heap.size) (FiI f root s w (.iface 72 (.pointer (some ⟨lb,0,none⟩))) A W3.heap.size (pre ++ [x])) (FiX f root s w) W .ret { tmps:=#[],defers:=[] } V3) :=
      Lib.hid ⟨⟨qs,fun j o hj ho _ => qk j o ho (by omega) (by omega)⟩,⟨by rw [HF13.out,HZC.out];exact q2,by rw [HF13.out];exact q3⟩,qb _ _ HB.out (by omega) (by omega) HB.out.size,rfl⟩
     clear t2 hV2 hV3 hfin q2 q3 qk qs qb
     gi_wp2_with (first
      | (refine wpListIn_store_mid rfl 43 _ _ rfl (w.heap.size + 1 + 1) 0 zc rfl rfl HT2.out (by rw [hcl];exact h33) HCO.out ?_;rw [HV2.out])
      | gi_round_op_a)
     rw [HV3.out]
     exact HQ.out
    | some es =>
     have hes:=HAN.out es rfl
     have hrow:=HROW.out es rfl
     have hsbx:bx < W.heap.size:=HXB.out.lt
     have HIX:=Lib.hid (CallsIn.inRound (n:=6) l (callsIn_wide.2 (ixE_any u es x bx U hrow (fun e he => (hes.2 e he).1) (below_load HXB.out.cell HBU.out hsbx))))
     have HFI:=Lib.hid (hes.1 x)
     have HE:=Lib.hid hes.2
     have HRW:=Lib.hid hrow
     obtain ⟨ao,cap,rfl,hmax,hcells⟩:=hrow.open2
     have HCE:=Lib.hid hcells
     clear hes hrow hcells HAN HROW
     gi_wp2_with gi_round_op_a
     refine ⟨trivial,?_⟩
     refine HIX.out.mono ?_
     rintro e U2 ⟨hb2,hans⟩
     have HU2:=Lib.hid (HBU.out.trans (hb2.mono HBU.out.size))
     have HB2:=Lib.hid hb2
     clear HIX hb2
     rcases hans with ⟨k,hk,rfl,hfk⟩ | ⟨rfl,hfn⟩
     ·have hne:es ≠ []:=by intro e;rw [e] at hk;simp at hk
      obtain ⟨b,off,rfl,hbl,hcell⟩:=HCE.out hne
      have f1:U2.rangeAt b (off + k * 34) (entC es[k]):=rangeAt_below (hcell k hk) HB2.out hbl
      have he:=HE.out es[k] (List.getElem_mem hk)
      have HST3:Hid (findN f (nms s) (root,2) = findN f rest (es[k].id,es[k].kind)):=Lib.hid (by rw [HST2.out];show (match lastE x es with | none => ((zid,0),6) | some e => findN f rest (e.id,e.kind)) = _;rw [HFI.out,hfk])
      generalize es[k] = ek at f1 he HST3
      have k0:(0:Int) ≤ k:=by omega
      have k1:(k:Int) < es.length:=by omega
      have d0:decide ((k:Int) < 0) = false:=decide_eq_false (by omega)
      have hkn:(chC (ek.id,ek.kind)).length = 33:=chC_len he.1
      have hbe:=ch_built ek.id he.1 ek.kind
      have HNO:=Lib.hid (chC_one (ek.id,ek.kind))
      have h32e:=h32_of (us:=idC ek.id) (by rw [idC_len,he.1])
      have hS:(fun w':World => w'.rangeAt b (off + k * 34 + 2) (idC ek.id) ∧ w'.cell? ⟨b,off + k * 34 + 1,none⟩ = some (.int .i64 (ek.kind:Int))) U2.drew:=⟨fun j u hu => by
       have:=f1 (2 + j) u (by unfold entC;rw [List.getElem?_append_right (by simp)];simpa using hu)
       rwa [← Nat.add_assoc] at this,f1 1 _ rfl⟩
      have HCB2:=Lib.hid (HCB.out.below HU2.out)
      have HCS:Hid (BoxL (U2.drew.setCells A 0 (chC (ek.id,ek.kind))) A 43 (chC (ek.id,ek.kind))):=Lib.hid (BoxL.set (W:=U2.drew) HCB2.out (by rw [hkn,hcl2]))
      have HTA:Hid (U2.drew.there A 0 33):=Lib.hid (by have:=HCB2.out.there;rw [hcl2] at this;exact this)
      clear hcell hfk hne f1
      generalize hun:chC (ek.id,ek.kind) = un at hkn hbe HNO HCS
      generalize idC ek.id = ue at hbe h32e hS
      gi_wp2_with gi_round_op_a
      refine wpIn_region_LI 11 (fun w':World => w'.rangeAt b (off + k * 34 + 2) ue ∧ w'.cell? ⟨b,off + k * 34 + 1,none⟩ = some (.int .i64 (ek.kind:Int))) (by kernel_rfl) (by kernel_rfl) ?_
      refine WLI.take (fun _ => trivial) (i:=0) (v:=?_) rfl (by kernel_rfl) (by decide) (by decide +kernel) (by decide +kernel) (fun _ _ _ h => h) rfl ?_ hS ?_
      rotate_left
      ·(intro w' hSw;(try dsimp only at hSw);go_simp;(try with_reducible rfl))
      simp only [Act.put];(try simp only [List.getElem_toArray]);(try simp only [List.getElem_cons_succ]);(try simp only [List.getElem_cons_zero]);(try simp only [List.setIfInBounds_toArray]);(try simp only [List.set_cons_succ]);(try simp only [List.set_cons_zero])
      refine WLI.take (fun _ => trivial) (i:=1) (v:=?_) rfl (by kernel_rfl) (by decide) (by decide +kernel) (by decide +kernel) (fun _ _ _ h => h) rfl ?_ hS ?_
      rotate_left
      ·(intro w' hSw;(try dsimp only at hSw);go_simp;(try with_reducible rfl))
      simp only [Act.put];(try simp only [List.getElem_toArray]);(try simp only [List.getElem_cons_succ]);(try simp only [List.getElem_cons_zero]);(try simp only [List.setIfInBounds_toArray]);(try simp only [List.set_cons_succ]);(try simp only [List.set_cons_zero])
      refine WLI.take (fun _ => trivial) (i:=2) (v:=?_) rfl (by kernel_rfl) (by decide) (by decide +kernel) (by decide +kernel) (fun _ _ _ h => h) rfl ?_ hS ?_
      rotate_left
      ·(intro w' hSw;(try dsimp only at hSw);go_simp;(try with_reducible rfl))
      simp only [Act.put];(try simp only [List.getElem_toArray]);(try simp only [List.getElem_cons_succ]);(try simp only [List.getElem_cons_zero]);(try simp only [List.setIfInBounds_toArray]);(try simp only [List.set_cons_succ]);(try simp only [List.set_cons_zero])
      refine WLI.take (fun _ => trivial) (i:=3) (v:=?_) rfl (by kernel_rfl) (by decide) (by decide +kernel) (by decide +kernel) (fun _ _ _ h => h) rfl ?_ hS ?_
      rotate_left
      ·(intro w' hSw;(try dsimp only at hSw);go_simp;(try with_reducible rfl))
      simp only [Act.put];(try simp only [List.getElem_toArray]);(try simp only [List.getElem_cons_succ]);(try simp only [List.getElem_cons_zero]);(try simp only [List.setIfInBounds_toArray]);(try simp only [List.set_cons_succ]);(try simp only [List.set_cons_zero])
      refine WLI.take (fun _ => trivial) (i:=4) (v:=_) rfl (by kernel_rfl) (by decide) (by decide +kernel) (by decide +kernel) (fun _ _ _ h => h) rfl (fun w' hSw => exec_row 27 _ (hSw.1) Tryz.underlying27 rfl h32e _ rfl rfl) hS ?_
      simp only [Act.put];(try simp only [List.getElem_toArray]);(try simp only [List.getElem_cons_succ]);(try simp only [List.getElem_cons_zero]);(try simp only [List.setIfInBounds_toArray]);(try simp only [List.set_cons_succ]);(try simp only [List.set_cons_zero])
      refine WLI.take (fun _ => trivial) (i:=5) (v:=?_) rfl (by kernel_rfl) (by decide) (by decide +kernel) (by decide +kernel) (fun _ _ _ h => h) rfl ?_ hS ?_
      rotate_left
      ·(intro w' hSw;(try dsimp only at hSw);go_simp;(try with_reducible rfl))
      simp only [Act.put];(try simp only [List.getElem_toArray]);(try simp only [List.getElem_cons_succ]);(try simp only [List.getElem_cons_zero]);(try simp only [List.setIfInBounds_toArray]);(try simp only [List.set_cons_succ]);(try simp only [List.set_cons_zero])
      refine WLI.take (fun _ => trivial) (i:=6) (v:=?_) rfl (by kernel_rfl) (by decide) (by decide +kernel) (by decide +kernel) (fun _ _ _ h => h) rfl ?_ hS ?_
      rotate_left
      ·(intro w' hSw;(try dsimp only at hSw);go_simp;(try with_reducible rfl))
      simp only [Act.put];(try simp only [List.getElem_toArray]);(try simp only [List.getElem_cons_succ]);(try simp only [List.getElem_cons_zero]);(try simp only [List.setIfInBounds_toArray]);(try simp only [List.set_cons_succ]);(try simp only [List.set_cons_zero])
      refine WLI.take (fun _ => trivial) (i:=7) (v:=?_) rfl (by kernel_rfl) (by decide) (by decide +kernel) (by decide +kernel) (fun _ _ _ h => h) rfl ?_ hS ?_
      rotate_left
      ·(intro w' hSw;(try dsimp only at hSw);go_simp;(try with_reducible rfl))
      simp only [Act.put];(try simp only [List.getElem_toArray]);(try simp only [List.getElem_cons_succ]);(try simp only [List.getElem_cons_zero]);(try simp only [List.setIfInBounds_toArray]);(try simp only [List.set_cons_succ]);(try simp only [List.set_cons_zero])
      refine WLI.take (fun _ => trivial) (i:=8) (v:=?_) rfl (by kernel_rfl) (by decide) (by decide +kernel) (by decide +kernel) (fun _ _ _ h => h) rfl ?_ hS ?_
      rotate_left
      ·(intro w' hSw;(try dsimp only at hSw);go_simp;(try with_reducible rfl))
      simp only [Act.put];(try simp only [List.getElem_toArray]);(try simp only [List.getElem_cons_succ]);(try simp only [List.getElem_cons_zero]);(try simp only [List.setIfInBounds_toArray]);(try simp only [List.set_cons_succ]);(try simp only [List.set_cons_zero])
      refine WLI.take (fun _ => trivial) (i:=9) (v:=?_) rfl (by kernel_rfl) (by decide) (by decide +kernel) (by decide +kernel) (fun _ _ _ h => h) rfl ?_ hS ?_
      rotate_left
      ·(intro w' hSw;have hSc:=hSw.2;clear hSw;go_simp;(try with_reducible rfl))
      simp only [Act.put];(try simp only [List.getElem_toArray]);(try simp only [List.getElem_cons_succ]);(try simp only [List.getElem_cons_zero]);(try simp only [List.setIfInBounds_toArray]);(try simp only [List.set_cons_succ]);(try simp only [List.set_cons_zero])
      refine WLI.take (fun _ => trivial) (i:=10) (v:=_) rfl (by kernel_rfl) (by decide) (by decide +kernel) (by decide +kernel) (fun _ _ _ h => h) rfl (fun w' _ => exec_build2 43 (.tmp 46) (.tmp 51) rfl (.agg ue.toArray) (.int .i64 (ek.kind:Int)) _ rfl rfl (hbe w')) hS ?_
      simp only [Act.put];(try simp only [List.getElem_toArray]);(try simp only [List.getElem_cons_succ]);(try simp only [List.getElem_cons_zero]);(try simp only [List.setIfInBounds_toArray]);(try simp only [List.set_cons_succ]);(try simp only [List.set_cons_zero])
      refine WLI.last (n:=11) rfl rfl (by decide +kernel) (by decide +kernel) ?_
      refine wpListIn_store_mid rfl 43 _ _ rfl A 0 un rfl rfl (by rw [hkn];exact HTA.out) (by rw [hkn];exact h33) HNO.out ?_
      gi_wp2_with gi_round_op_a
      have hUd:Below W.heap.size W U2.drew:=⟨HU2.out.os,HU2.out.tape,HU2.out.output,HU2.out.size,HU2.out.block⟩
      have hg:=grownBy_setCells U2.drew A 0 un
      generalize U2.drew = Ud at hUd hg HCS ⊢
      have hszV:W.heap.size ≤ (Ud.setCells A 0 un).heap.size:=Nat.le_trans hUd.size hg.size
      have hin:∀ j,j < W.heap.size → j ≠ A → (Ud.setCells A 0 un).heap[j]? = W.heap[j]?:=fun j hj hne => (hg.block j (Nat.lt_of_lt_of_le hj hUd.size) (fun e => hne (Option.some.inj e))).trans (hUd.block j hj)
      have l2:=HI2.out.lt
      have l3:=HI3.out.lt
      have l0:=HI0.out.lt
      refine ⟨⟨hszV,fun j o hj ho _ => (hin j (Array.getElem?_eq_some_iff.1 ho).1 (by omega)).trans ho⟩,fun j hj => hin j (by have:=hsp.ne;omega) (by have:=hsp.ne;omega),
       Nat.le_trans hWz hszV,⟨(ek.id,ek.kind),by rw [hun];exact HCS.out,he.1,fun rest' hr => ?_⟩,⟨by rw [HZC.out];exact (hin _ l2 (by omega)).trans HI2.out,(hin _ l3 (by omega)).trans HI3.out⟩,(hin _ l0 (by omega)).trans HI0.out,?_⟩
      ·have e1:pre ++ x :: rest = pre ++ x :: rest':=by rw [← hsp2,hr];simp
       have e2:=List.append_cancel_left e1
       rw [← (List.cons.inj e2).2]
       exact HST3.out.symm
      ·exact (HB.out.trans (hUd.mono HB.out.size)).grown hg (Nat.le_trans HB.out.size hUd.size) (fun k e => by have:=Option.some.inj e;omega)
     ·have HF6:Hid (findN f (nms s) (root,2) = ((zid,0),6)):=Lib.hid (by rw [HST2.out];show (match lastE x es with | none => ((zid,0),6) | some e => findN f rest (e.id,e.kind)) = _;rw [HFI.out,hfn])
      clear HST2 hfn HFI
      obtain ⟨t2,V2,hV2,d3,f3,hfin⟩:=fi_exit HU2.out HI2.out HI3.out (by omega)
      obtain ⟨V3,hV3,q2,q3,qk,qs,qb⟩:=hfin 6
      have HT2:=Lib.hid t2
      have HV2:=Lib.hid hV2
      have HV3:=Lib.hid hV3
      have HQ:Hid (cellPost W3.heap.size (KpS W2.heap.size) (FiI f root s w (.iface 72 (.pointer (some ⟨lb,0,none⟩))) A W3.heap.size (pre ++ [x])) (FiX f root s w) W .ret { tmps:=#[],defers:=[] } V3) :=
       Lib.hid ⟨⟨qs,fun j o hj ho _ => qk j o ho (by omega) (by omega)⟩,⟨by rw [HF6.out,HZC.out];exact q2,by rw [HF6.out];exact q3⟩,qb _ _ HB.out (by omega) (by omega) HB.out.size,rfl⟩
      clear t2 hV2 hV3 hfin q2 q3 qk qs qb
      gi_wp2_with (first
       | (refine wpListIn_store_mid rfl 43 _ _ rfl (w.heap.size + 1 + 1) 0 zc rfl rfl HT2.out (by rw [hcl];exact h33) HCO.out ?_;rw [HV2.out])
       | gi_round_op_a)
      rw [HV3.out]
      exact HQ.out
   ·have d2:((c.2:Int) != 2) = true:=by rw [bne_iff_ne];omega
    have HF6:Hid (findN f (nms s) (root,2) = ((zid,0),6)):=Lib.hid (by rw [HST.out,if_pos h2])
    obtain ⟨t2,V2,hV2,d3,f3,hfin⟩:=fi_exit (Below.refl _ W) HI2.out HI3.out (by omega)
    obtain ⟨V3,hV3,q2,q3,qk,qs,qb⟩:=hfin 6
    have HT2:=Lib.hid t2
    have HV2:=Lib.hid hV2
    have HV3:=Lib.hid hV3
    have HQ:Hid (cellPost W3.heap.size (KpS W2.heap.size) (FiI f root s w (.iface 72 (.pointer (some ⟨lb,0,none⟩))) A W3.heap.size (pre ++ [x])) (FiX f root s w) W .ret { tmps:=#[],defers:=[] } V3) :=
     Lib.hid ⟨⟨qs,fun j o hj ho _ => qk j o ho (by omega) (by omega)⟩,⟨by rw [HF6.out,HZC.out];exact q2,by rw [HF6.out];exact q3⟩,qb _ _ HB.out (by omega) (by omega) HB.out.size,rfl⟩
    clear t2 hV2 hV3 hfin q2 q3 qk qs qb h2
    gi_wp2_with (first
     | (refine wpListIn_store_mid rfl 43 _ _ rfl (w.heap.size + 1 + 1) 0 zc rfl rfl HT2.out (by rw [hcl];exact h33) HCO.out ?_;rw [HV2.out])
     | gi_round_op_a)
    rw [HV3.out]
    exact HQ.out
  case done =>
   rintro D W hD ⟨hWz,⟨c,hcb,hc32,hcf⟩,⟨i2,i3⟩,i0,hb⟩ hK
   have hfin:findN f (nms s) (root,2) = (c,0):=(hcf [] (by simp)).symm
   have HF2:Hid (findP f root s = (c,0)):=Lib.hid (HF.out.trans hfin)
   rw [HZC.out] at i2
   have hcl2:=chC_len hc32
   have r0:=hcb.range
   have HNO:=Lib.hid (chC_one c)
   have t2:=i2.there
   rw [hcl] at t2
   have j2:=i2.set (us:=chC c) (by rw [hcl2,hcl])
   have j3:Boxed (W.setCells (w.heap.size + 1 + 1) 0 (chC c)) (w.heap.size + 1 + 1 + 1) 28 (.int .i64 0):=BoxL.other (t:=28) (cs:=[.int .i64 0]) i3 (by omega)
   have g2:=grownBy_setCells W (w.heap.size + 1 + 1) 0 (chC c)
   have hK2:=(g2.block D (Array.getElem?_eq_some_iff.1 hK).1 (fun e => by have:=Option.some.inj e;omega)).trans hK
   have hB2:=hb.grown g2 hb.size (fun k e => by have:=Option.some.inj e;omega)
   have h33c:(Tryz.prog.info? 43).map (·.size) = some (chC c).length:=by rw [hcl2];exact h33
   obtain ⟨V2,hV2⟩:∃ V2,W.setCells (w.heap.size + 1 + 1) 0 (chC c) = V2:=⟨_,rfl⟩
   rw [hV2] at j2 j3 g2 hK2 hB2
   have d3:=j3.cell
   have f3:=j3.frozen
   have HT2:=Lib.hid t2
   have HV2:=Lib.hid hV2
   have J2:=Lib.hid j2
   have J3:=Lib.hid j3
   have HK2:=Lib.hid hK2
   have HB2:=Lib.hid hB2
   have HC2:=Lib.hid hcl2
   clear hcb i2 i3 i0 hb hK t2 j2 j3 g2 hK2 hB2 hV2 hfin hcf hcl2
   generalize hcc:chC c = cc at r0 HNO h33c J2 HV2 HC2
   have HCC:=Lib.hid hcc
   clear hcc
   gi_wp2_with (first
    | (refine wpListIn_load_mid rfl 43 _ rfl A 0 rfl cc _ r0 Tryz.underlying43 rfl h33c ?_)
    | (refine wpListIn_store_mid rfl 43 _ _ rfl (w.heap.size + 1 + 1) 0 cc rfl rfl (by rw [HC2.out];exact HT2.out) h33c HNO.out ?_;rw [HV2.out])
    | gi_in)
   have g3:V2.grownBy (V2.setCell ⟨w.heap.size + 1 + 1 + 1,0,none⟩ (.int .i64 0)) (some (w.heap.size + 1 + 1 + 1)):=grownBy_setCell' _ _ _
   have k2:=J2.out.kept g3 (by intro e;have:=Option.some.inj e;omega)
   have k3:=J3.out.set (.int .i64 0)
   have hK3:=(g3.block D (Array.getElem?_eq_some_iff.1 HK2.out).1 (fun e => by have:=Option.some.inj e;omega)).trans HK2.out
   have hB3:=HB2.out.grown g3 HB2.out.size (fun k e => by have:=Option.some.inj e;omega)
   generalize V2.setCell ⟨w.heap.size + 1 + 1 + 1,0,none⟩ (.int .i64 0) = V3 at k2 k3 hK3 hB3 ⊢
   have g4:=grownBy_putObj' V3 D (.deferred none)
   refine ⟨by simp,.inl ⟨_,_,rfl,run_takeDeferred hK3,?_⟩⟩
   refine ⟨_,res_find _ _ (w.heap.size + 1 + 1) (w.heap.size + 1 + 1 + 1) cc 0 rfl rfl ?_ HC2.out ?_,?_⟩
   ·exact (k2.kept g4 (by intro e;have:=Option.some.inj e;omega)).range
   ·exact (k3.kept g4 (by intro e;have:=Option.some.inj e;omega)).cell
   ·exact ⟨by rw [HF2.out,HCC.out];rfl,hB3.grown g4 hB3.size (fun k e => by have:=Option.some.inj e;omega)⟩
  case stop =>
   rintro D c W hD ⟨⟨i2,i3⟩,hb,rfl⟩ hK
   have HI2:=Lib.hid i2
   have HI3:=Lib.hid i3
   have HB2:=Lib.hid hb
   have HK2:=Lib.hid hK
   clear i2 i3 hb hK
   gi_wp2
   have g4:=grownBy_putObj' W D (.deferred none)
   refine ⟨by simp,.inl ⟨_,_,rfl,run_takeDeferred HK2.out,?_⟩⟩
   refine ⟨_,res_find _ _ (w.heap.size + 1 + 1) (w.heap.size + 1 + 1 + 1) (chC (findN f (nms s) (root,2)).1) ((findN f (nms s) (root,2)).2:Int) rfl rfl ?_ ?_ ?_,?_⟩
   ·exact (HI2.out.kept g4 (by intro e;have:=Option.some.inj e;omega)).range
   ·exact chC_len (findN_len hf (nms s) (root,2) hx)
   ·exact (HI3.out.kept g4 (by intro e;have:=Option.some.inj e;omega)).cell
   ·exact ⟨by rw [HF.out],HB2.out.grown g4 HB2.out.size (fun k e => by have:=Option.some.inj e;omega)⟩
end Go.Proofs.YtmhjpmenngjmeaaGreatDoor
