/- A part of this claim. -/
import Derived.Test.YtlhcoanbhnphgaaGreatDoorWm16
import Derived.Test.YtlhcoanbhnphgaaGreatDoorWm18
import Derived.Test.YtlhcoanbhnphgaaGreatDoorWm20
namespace Go.Proofs.YtlhcoanbhnphgaaGreatDoor
open Tryz
set_option maxHeartbeats 64000000
set_option maxRecDepth 100000
set_option linter.all false
section
open Go.RowKit Go.Maps
structure fG (w:World) (vt vl:Value) (t l:List Rf):Prop where
 tab:bK w vt t
 log:bK w vl l
 capt:CapI vt
 capl:CapI vl
 ok:∀ r ∈ t ++ l,r.1.size ≤ 1000000 ∧ r.2.length = 32
theorem fG.below {w w':World} {vt vl:Value} {t l:List Rf} (h:fG w vt vl t l) (hb:Below w.heap.size w w'):fG w' vt vl t l:=⟨h.tab.below hb,h.log.below hb,h.capt,h.capl,h.ok⟩
theorem fG.len {w:World} {vt vl:Value} {t l:List Rf} (h:fG w vt vl t l):l.length ≤ maxLen:=by obtain ⟨_,_,_,h,_⟩:=h.log.open;exact h
def Mh (b:Bool) (w:World) (e:Ending) (w':World):Prop:=e = .returned (.bool b) ∧ Below w.heap.size w w'
theorem dJ (vt vl:Value) (t l:List Rf) (w:World) (h:fG w vt vl t l):Calls prog 44 #[.agg #[vt,vl]] w (Mh (aR t l) w):=by
 obtain ⟨W,hW⟩:∃ W,w.alloc (.cells #[vt,vl] 51) = W:=⟨_,rfl⟩
 have hbW:Below w.heap.size w W:=by rw [← hW];exact bal
 have hx:BoxL W w.heap.size 51 [vt,vl]:=by rw [← hW];exact BoxL.new w 51 [vt,vl]
 have hh:=h.below hbW
 have HO:=ah (rW vt vl t l l.length W hh.tab hh.log hh.ok (Nat.le_refl _) hh.capl)
 have HB:=ah hbW
 obtain ⟨la,lc,e,hlm,_⟩:=h.log.open
 have h2:(prog.info? 51).map (·.size) = some ([vt,vl]:List Value).length:=bQ
 have hr:=hx.range
 have c1:W.cell? ⟨w.heap.size,1,none⟩ = some vl:=hr 1 _ rfl
 subst e
 have HW:=ah hW
 unfold uL at HO
 rw [List.take_length] at HO
 clear hW hbW hx hh h
 go_enter func44,ntmps44
 go_upto_region 1 with fail
 rw [HW.out]
 go_wp2_with (refine wpList_load_mid rfl 51 _ rfl w.heap.size 0 rfl _ _ hr underlying51 rfl h2 ?_)
 refine HO.out.mono ?_
 rintro e w1 ⟨hans,hb1⟩
 have HB1:=bth HB hb1
 cases hv:dx t l with
 | none =>
  rw [hv] at hans
  dsimp only at hans
  subst hans
  have HR:Hid (aR t l = false):=ah (by unfold aR;rw [hv];rfl)
  clear hv hb1
  go_wp2_with fail
  go_ret
  rw [HR.out]
  exact ⟨rfl,HB1.out⟩
 | some V =>
  rw [hv] at hans
  obtain ⟨mb,rfl,_,_⟩:=hans
  have HR:Hid (aR t l = decide (l.length ≤ 100)):=ah (by unfold aR;rw [hv];simp)
  generalize decide (l.length ≤ 100) = ok at HR
  clear hv hb1
  go_wp2_with fail
  go_ret
  rw [HR.out]
  exact ⟨rfl,HB1.out⟩
theorem bO:(prog.info? 42).map (·.size) = some 32:=by decide +kernel
def valB (t l:List Rf) (x:ByteArray):List UInt8:=match dx t l with
 | some V => if decide (l.length ≤ 100) = true then (bG V x).getD zid else zid
 | none => zid
theorem yQ {V:List Rf} {r:Rf} (h:∀ x ∈ V,x.2.length = 32) (hr:r.2.length = 32):∀ x ∈ setR V r,x.2.length = 32:=by
 have h1:∀ x ∈ putV V r.1 r.2,x.2.length = 32:=fun x hx => by
  unfold putV at hx
  rcases List.mem_append.1 hx with h1 | h1
  ·exact h x (List.mem_filter.1 h1).1
  simp at h1;subst h1;exact hr
 intro x hx
 unfold setR at hx
 split at hx
 ·exact h1 x (List.mem_filter.1 hx).1
 exact h1 x hx
theorem yI:∀ {t V W:List Rf},(∀ x ∈ V,x.2.length = 32) → (∀ x ∈ t,x.2.length = 32) → tabV V t = some W → ∀ x ∈ W,x.2.length = 32
 | [],V,W,hV,_,e => by unfold tabV at e;cases e;exact hV
 | r :: t,V,W,hV,ht,e => by
  unfold tabV at e
  split at e
  ·exact yI (yQ hV (ht r (List.mem_cons_self ..))) (fun x hx => ht x (List.mem_cons_of_mem _ hx)) e
  cases e
theorem zB:∀ {t V W:List Rf},(∀ x ∈ V,x.2.length = 32) → (∀ x ∈ t,x.2.length = 32) → logV V t = some W → ∀ x ∈ W,x.2.length = 32
 | [],V,W,hV,_,e => by unfold logV at e;cases e;exact hV
 | r :: t,V,W,hV,ht,e => by
  unfold logV at e
  split at e
  ·exact zB (yQ hV (ht r (List.mem_cons_self ..))) (fun x hx => ht x (List.mem_cons_of_mem _ hx)) e
  cases e
theorem FH {t l V:List Rf} (h:∀ r ∈ t ++ l,r.2.length = 32) (e:dx t l = some V):∀ x ∈ V,x.2.length = 32:=by
 unfold dx at e
 cases ht:tabV [] t with
 | none => rw [ht] at e;cases e
 | some W =>
  rw [ht] at e
  exact zB (yI (V:=[]) (by simp) (fun r hr => h r (List.mem_append.2 (.inl hr))) ht) (fun r hr => h r (List.mem_append.2 (.inr hr))) e
theorem GX {V:List Rf} (h:∀ x ∈ V,x.2.length = 32) (x:ByteArray):((bG V x).getD zid).length = 32:=by
 cases e:bG V x with
 | none => exact aV
 | some c => exact h _ (ED e)
theorem nk {t l:List Rf} {x:ByteArray} (h:∀ r ∈ t ++ l,r.2.length = 32):(valB t l x).length = 32:=by
 unfold valB
 cases e:dx t l with
 | none => exact aV
 | some V =>
  dsimp only
  split
  ·exact GX (FH h e) x
  exact aV
def kX (x:List UInt8) (w:World) (e:Ending) (w':World):Prop:=e = .returned (.agg (idC x).toArray) ∧ Below w.heap.size w w'
theorem uQ (vt vl:Value) (t l:List Rf) (x:ByteArray) (w:World) (h:fG w vt vl t l) (hx:x.size ≤ maxLen):Calls prog 114 #[.agg #[vt,vl],.string x] w (kX (valB t l x) w):=by
 obtain ⟨hziv,hbz⟩:=cK
 have HCL:Hid ((idC zid).length = 32):=ah (by rw [au,aV])
 have HCO:=ah (aM zid)
 generalize hcz:idC zid = cz at hziv hbz HCL HCO
 have HCZ:=ah hcz
 clear hcz
 obtain ⟨W,hW⟩:∃ W,(w.alloc (.cells #[vt,vl] 51)).alloc (.cells cz.toArray 42) = W:=⟨_,rfl⟩
 have hbW:Below w.heap.size w W:=by rw [← hW];exact bal.alloc (by simp) _
 have hx2:BoxL W w.heap.size 51 [vt,vl]:=by rw [← hW];exact (BoxL.new w 51 [vt,vl]).below bal
 have hxi:BoxL W (w.heap.size + 1) 42 cz:=by
  rw [← hW]
  have:=BoxL.new (w.alloc (.cells #[vt,vl] 51)) 42 cz
  simpa using this
 have hh:=h.below hbW
 have HO:=ah (rW vt vl t l l.length W hh.tab hh.log hh.ok (Nat.le_refl _) hh.capl)
 have HB:=ah hbW
 have HVL:=ah (nk (t:=t) (l:=l) (x:=x) (fun r hr => (h.ok r hr).2))
 obtain ⟨la,lc,e,hlm,_⟩:=h.log.open
 have h2:(prog.info? 51).map (·.size) = some ([vt,vl]:List Value).length:=bQ
 have hr:=hx2.range
 have c1:W.cell? ⟨w.heap.size,1,none⟩ = some vl:=hr 1 _ rfl
 subst e
 have HW:=ah hW
 have HXI:=ah hxi
 unfold uL at HO
 rw [List.take_length] at HO
 clear hW hbW hx2 hh h hxi
 go_enter func114,ntmps114
 go_upto_region 1 with fail
 rw [HW.out]
 go_wp2_with (refine wpList_load_mid rfl 51 _ rfl w.heap.size 0 rfl _ _ hr underlying51 rfl h2 ?_)
 refine HO.out.mono ?_
 rintro e w1 ⟨hans,hb1⟩
 have HX1:=ah (HXI.out.below hb1)
 have HB1:=bth HB hb1
 have h32i:=bO
 have HEND:Hid (∀ (y:List UInt8) (W2:World),y.length = 32 → w1.setCells (w.heap.size + 1) 0 (idC y) = W2 → W2.rangeAt (w.heap.size + 1) 0 (idC y) ∧ Below w.heap.size w W2):=ah fun y W2 hy hW2 => by
  rw [← hW2]
  exact ⟨(HX1.out.set (by rw [au,hy];rw [HCL.out])).range,below_setCells _ (by omega) _ _ _ HB1.out⟩
 have hth:w1.there (w.heap.size + 1) 0 32:=by have:=HX1.out.there;rwa [HCL.out] at this
 have HTH:=ah hth
 clear hth hb1 HXI
 cases hv:dx t l with
 | none =>
  rw [hv] at hans
  dsimp only at hans
  subst hans
  have HR:Hid (valB t l x = zid):=ah (by unfold valB;rw [hv])
  clear hv
  obtain ⟨W2,hW2⟩:∃ W2,w1.setCells (w.heap.size + 1) 0 cz = W2:=⟨_,rfl⟩
  have hE:=HEND.out zid W2 aV (by rw [HCZ.out];exact hW2)
  rw [HCZ.out] at hE
  have h32:(prog.info? 42).map (·.size) = some cz.length:=by rw [HCL.out];exact bO
  have HW2:=ah hW2
  have HE:=ah hE
  clear hW2 hE
  go_wp2_with (refine aj rfl 42 _ _ rfl (w.heap.size + 1) 0 cz rfl rfl 32 HCL.out HTH.out h32i HCO.out ?_)
  (try simp only [Act.put])
  rw [HW2.out]
  go_wp2_with fail
  refine dI rfl (w.heap.size + 1) 0 rfl cz _ HE.out.1 underlying42 rfl h32 rfl ⟨?_,HE.out.2⟩
  rw [HR.out,HCZ.out]
 | some V =>
  rw [hv] at hans
  obtain ⟨mb,rfl,hm,_⟩:=hans
  have HM:=ah hm
  cases hok:decide (l.length ≤ 100) with
  | false =>
   have HR:Hid (valB t l x = zid):=ah (by unfold valB;rw [hv,hok];rfl)
   clear hv hm hok
   obtain ⟨W2,hW2⟩:∃ W2,w1.setCells (w.heap.size + 1) 0 cz = W2:=⟨_,rfl⟩
   have hE:=HEND.out zid W2 aV (by rw [HCZ.out];exact hW2)
   rw [HCZ.out] at hE
   have h32:(prog.info? 42).map (·.size) = some cz.length:=by rw [HCL.out];exact bO
   have HW2:=ah hW2
   have HE:=ah hE
   clear hW2 hE
   go_wp2_with (refine aj rfl 42 _ _ rfl (w.heap.size + 1) 0 cz rfl rfl 32 HCL.out HTH.out h32i HCO.out ?_)
   (try simp only [Act.put])
   rw [HW2.out]
   go_wp2_with fail
   refine dI rfl (w.heap.size + 1) 0 rfl cz _ HE.out.1 underlying42 rfl h32 rfl ⟨?_,HE.out.2⟩
   rw [HR.out,HCZ.out]
  | true =>
   have HR:Hid (valB t l x = (bG V x).getD zid):=ah (by unfold valB;rw [hv,hok];rfl)
   have hlk:=hm.look underlying150 (hziv w1) hx
   have hcv:((bG V x).map encX).getD (.agg cz.toArray) = .agg (idC ((bG V x).getD zid)).toArray:=by rw [← HCZ.out];cases bG V x <;> rfl
   rw [hcv] at hlk
   have hyl:((bG V x).getD zid).length = 32:=by rw [← HR.out];exact HVL.out
   clear hv hm hok hcv
   generalize (bG V x).getD zid = y at HR hlk hyl
   obtain ⟨W2,hW2⟩:∃ W2,w1.setCells (w.heap.size + 1) 0 (idC y) = W2:=⟨_,rfl⟩
   have hE:=HEND.out y W2 hyl hW2
   have h32:(prog.info? 42).map (·.size) = some (idC y).length:=mI (by rw [au,hyl])
   have HL:Hid ((idC y).length = 32):=ah (by rw [au,hyl])
   have HON:=ah (aM y)
   have HW2:=ah hW2
   have HE:=ah hE
   clear hW2 hE hyl
   generalize hzz:idC y = cy at hlk h32 HL HON HW2 HE
   have HZZ:=ah hzz
   clear hzz
   go_wp2_with (refine aj rfl 42 _ _ rfl (w.heap.size + 1) 0 cy rfl rfl 32 HL.out HTH.out h32i HON.out ?_)
   (try simp only [Act.put])
   rw [HW2.out]
   go_wp2_with fail
   refine dI rfl (w.heap.size + 1) 0 rfl cy _ HE.out.1 underlying42 rfl h32 rfl ⟨?_,HE.out.2⟩
   rw [HR.out,HZZ.out]
def rfV (l:List Rf):List Value:=(l.map rfC).flatten
theorem JG:∃ zs:Array Value,(prog.info? 93).map (fun i => (i.zero,i.size,i.bytes)) = some (some (.agg zs),33,48) ∧ zs.size = 33:=⟨#[.string ⟨#[]⟩] ++ #[.int .u8 0,.int .u8 0,.int .u8 0,.int .u8 0,.int .u8 0,.int .u8 0,.int .u8 0,.int .u8 0,.int .u8 0,.int .u8 0,.int .u8 0,.int .u8 0,.int .u8 0,.int .u8 0,.int .u8 0,.int .u8 0,.int .u8 0,.int .u8 0,.int .u8 0,.int .u8 0,.int .u8 0,.int .u8 0,.int .u8 0,.int .u8 0,.int .u8 0,.int .u8 0,.int .u8 0,.int .u8 0,.int .u8 0,.int .u8 0,.int .u8 0,.int .u8 0],by kernel_rfl,rfl⟩
theorem Jr {l:List Rf} (h:∀ r ∈ l,r.2.length = 32):(rfV l).length = l.length * 33:=by
 induction l with
 | nil => rfl
 | cons r l ih =>
  unfold rfV at ih ⊢
  rw [List.map_cons,List.flatten_cons,List.length_append,gJ (h r (List.mem_cons_self ..)),ih fun x hx => h x (List.mem_cons_of_mem _ hx),List.length_cons,Nat.succ_mul];omega
theorem Js (a b:List Rf):rfV (a ++ b) = rfV a ++ rfV b:=by unfold rfV;rw [List.map_append,List.flatten_append]
theorem Jq (l:List Rf):∀ u ∈ rfV l,u.oneCell' = true:=fun u hu => by
 obtain ⟨c,hc,huc⟩:=List.mem_flatten.1 hu
 obtain ⟨r,_,rfl⟩:=List.mem_map.1 hc
 exact jH r u huc
theorem tO {w:World} {b sz:Nat}:∀ {rows:List (List Value)} {off:Nat},(∀ r ∈ rows,r.length = sz) → (∀ i (h:i < rows.length),w.rangeAt b (off + i * sz) rows[i]) → w.rangeAt b off rows.flatten
 | [],_,_,_,j,u,hu => by simp at hu
 | r :: rows,off,hl,hc,j,u,hu => by
  rw [List.flatten_cons] at hu
  have h0:=hc 0 (by simp)
  have hr:=hl r (List.mem_cons_self ..)
  by_cases hj:j < sz
  ·rw [List.getElem?_append_left (by omega)] at hu
   have:=h0 j u (by simpa using hu)
   simpa using this
  rw [List.getElem?_append_right (by omega),hr] at hu
  have:=tO (w:=w) (b:=b) (rows:=rows) (off:=off + sz) (fun x hx => hl x (List.mem_cons_of_mem _ hx)) (fun i hi => by
   have:=hc (i + 1) (by simpa using hi)
   rw [Nat.succ_mul] at this
   rw [show off + sz + i * sz = off + (i * sz + sz) from by omega]
   simpa using this) (j - sz) u hu
  rwa [show off + sz + (j - sz) = off + j from by omega] at this
theorem bK.flat {w:World} {ao:Option Addr} {n c:Nat} {l:List Rf} (h:bK w (.slice ao n c) l) (h32:∀ r ∈ l,r.2.length = 32):0 < l.length → ∃ ad,ao = some ad ∧ ∀ j u,(rfV l)[j]? = some u → w.cell? (ad.add j) = some u:=fun h0 => by
 obtain ⟨ao2,cap,e,hm,hc⟩:=h
 injection e with e1 _ _
 subst e1
 obtain ⟨b,off,rfl,hbl,hcell⟩:=hc (by
  intro e
  have:=congrArg List.length e
  rw [List.length_map] at this
  simp at this
  rw [this] at h0;cases h0)
 refine ⟨_,rfl,fun j u hu => ?_⟩
 rw [Addr.add_mid]
 exact tO (fun r hr => by obtain ⟨x,hx,rfl⟩:=List.mem_map.1 hr;exact gJ (h32 x hx)) hcell j u hu
theorem aH {w:World} {ops:Array Oper} {rest:List Oper} {o:Oper} {a:Act} {Q:Exit → Act → World → Prop} (hgd:o.guard = none) (s x:Operand)
  (ho:o.op = .call { callee:=.builtin .append,args:=#[s,x],argTypes:=#[49,49] }) (base:Nat) (v:Value) (n:Nat) (xs:List Rf) (hs:a.eval s = v) (hown:w.ownsRow base 93 33 v n (rfV xs))
  (ao:Option Addr) (c:Nat) (l:List Rf) (hx:a.eval x = .slice ao l.length c) (hl:bK w (.slice ao l.length c) l) (h32:∀ r ∈ l,r.2.length = 32) (hn:n + l.length ≤ 10000000) (hbase:base ≤ w.heap.size)
  (h:∀ v' w',w'.ownsRow base 93 33 v' (n + l.length) (rfV (xs ++ l)) → w.grownBy w' v.ownBlock → wpList prog ops Q rest (a.put o.dst v') w'):wpList prog ops Q (o :: rest) a w:=by
 obtain ⟨zs,hz,hzs⟩:=JG
 obtain ⟨i0,hi,hz0,hz1,hz2⟩:=info_parts hz
 refine mZ hgd s x 49 ho base 93 i0 _ 33 48 underlying49 hi hz0 hz1 hz2 hzs (by decide) v n (rfV xs) hs hown ao l.length c (rfV l) hx (Jr h32) (hl.flat h32) (Jq l) (by unfold maxLen;omega) (by omega) hbase fun v' w' h1 h2 => h v' w' (by rw [Js];exact h1) h2
theorem oK {w:World} {ops:Array Oper} {rest:List Oper} {o:Oper} {a:Act} {Q:Exit → Act → World → Prop} (hgd:o.guard = none) (ho:o.op = .buildSlice 49 0 #[])
  (h:∀ oo n oc w',Hid (n = 0) → w'.ownsRow w.heap.size 93 33 (.slice oo n oc) n [] → Below w.heap.size w w' → wpList prog ops Q rest (a.put o.dst (.slice oo n oc)) w'):wpList prog ops Q (o :: rest) a w:=by
 refine wpList_plain hgd fun K' hK' => ?_
 have hrun:(Instr.buildSlice 49 0 #[]).run prog w = .ok (.slice (some ⟨w.heap.size,0,none⟩) 0 0) (w.alloc (.cells #[] 93)):=by kernel_rfl
 have hg:(w.alloc (.cells #[] 93)).heap[w.heap.size]? = some (.cells #[] 93 (0,0)):=World.alloc_heap_new w _
 unfold Oper.wp
 simp [execOp,ho,hrun,Result.andThen]
 exact hK' _ _ (h _ 0 _ _ (ah rfl) ⟨rfl,.inr ⟨w.heap.size,0,#[],rfl,Nat.le_refl _,hg,Nat.le_refl _,Nat.zero_le _,rfl,rfl⟩⟩ bal)
theorem aT (v:Value) (l:List Rf) (w:World) (h:bK w v l) (h32:∀ r ∈ l,r.2.length = 32) (hn:l.length ≤ 1000000):Calls prog 92 #[v] w fun e w' => ∃ v',e = .returned v' ∧ w'.ownsRow w.heap.size 93 33 v' l.length (rfV l) ∧ Below w.heap.size w w':=by
 obtain ⟨ao,cap,rfl,hm,hcell⟩:=h.open
 cases ao with
 | none =>
  obtain rfl:l = []:=by
   cases l with
   | nil => rfl
   | cons r l => obtain ⟨b,off,e,_⟩:=hcell (by simp);cases e
  clear h hcell
  have hnil:=fun w => Go.Lib.run_eql_slice_nil (P:=prog) w 49 93 none 0 cap 0 0 underlying49
  go_enter func92,ntmps92
  go_wp2_with fail
  go_ret
  exact ⟨_,rfl,World.ownsRow_nil _ _ _ _,Below.refl _ _⟩
 | some ad =>
  have HH:=ah h
  have HC:=ah hcell
  clear h hcell
  have hnil:=fun w => Go.Lib.run_eql_slice_nil (P:=prog) w 49 93 (some ad) l.length cap 0 0 underlying49
  go_enter func92,ntmps92
  go_wp2_with (refine oK rfl rfl ?_)
  intro oo n0 oc W hn0 hown hbW
  have HOWN:=ah hown
  have HL:=ah (HH.out.below hbW)
  have HB:=ah hbW
  have hwl:=hbW.size
  have h0:=hn0.out
  have HN0:=ah (show n0 + l.length = l.length by omega)
  have hnl:n0 + l.length ≤ 10000000:=by omega
  clear hown hbW h0
  go_wp2_with (refine aH rfl _ _ rfl w.heap.size _ n0 [] rfl HOWN.out (some ad) cap l rfl HL.out h32 hnl hwl ?_)
  intro v' w' hown' hg'
  rw [HN0.out] at hown'
  have hbE:Below w.heap.size w w':=HB.out.grown hg' hwl (fun i hi => (HOWN.out.lt i hi).1)
  have HE:=ah (And.intro hown' hbE)
  clear hown' hg' hbE
  obtain ⟨o3,c3,rfl⟩:=aG HE.out.1
  go_wp2_with fail
  go_ret
  exact ⟨_,rfl,HE.out⟩
theorem EU (w:World) (p:Addr) (n:Nat) {k:Nat} (h:k ≠ p.block):(w.freeze p n).heap[k]? = w.heap[k]?:=by
 unfold World.freeze
 split
 ·rfl
 rw [Array.getElem?_modify,if_neg (Ne.symm h)]
theorem xX (B b:Nat) (l:List UInt8) (w:World) (h:Wr B b l w) (h0:l ≠ []) :
  Calls prog 215 #[.pointer (some ⟨b,0,none⟩)] w fun e w' => e = .returned (.string (ofB l)) ∧ Below B w w' ∧ x9 b w w':=by
 obtain ⟨p,hB,v,hbk,hown,hne⟩:∃ p,Lib.BuilderAt 193 5 B b p (Lib.byteCells l) w:=by
  rcases h with h | h
  ·exact ⟨_,h⟩
  exact ⟨_,h⟩
 have hl0:l.length ≠ 0:=by simpa using h0
 rw [Lib.byteCells_length] at hown
 obtain ⟨g,cap,cur,rfl,hbg,hg,hnc,hcm,hcs,htake⟩:∃ g cap cur,v = .slice (some ⟨g,0,none⟩) l.length cap ∧ B ≤ g ∧ w.heap[g]? = some (.cells cur 5 (0,0)) ∧ l.length ≤ cap ∧ cap ≤ maxLen ∧ cur.size = cap * 1 ∧ cur.toList.take (l.length * 1) = Lib.byteCells l:=by
  rcases hown.2 with ⟨_,hz⟩ | ⟨g,cap,cur,hv,r⟩
  ·exact absurd hz hl0
  exact ⟨g,cap,cur,hv,r⟩
 have c1:w.drew.cell? ⟨b,1,none⟩ = some (.slice (some ⟨g,0,none⟩) l.length cap):=by
  have:w.drew.heap[b]? = some (.cells #[p,.slice (some ⟨g,0,none⟩) l.length cap] 193 (0,0)):=hbk
  rw [Lib.cell_of_heap this];rfl
 have hSD:(Builtin.unsafeSliceData_ #[96] 321 #[.slice (some ⟨g,0,none⟩) l.length cap]).run prog w.drew = .ok (.pointer (some ⟨g,0,none⟩)) w.drew :=
  Lib.run_unsafeSliceData_row _ _ _ _ _ _ (by omega)
 have hUS:(Builtin.unsafeString_ #[321,3] 9 #[.pointer (some ⟨g,0,none⟩),.int .i64 l.length]).run prog w.drew = .ok (.string ⟨l.toArray⟩) (w.drew.freeze ⟨g,0,none⟩ l.length):=by
  refine Lib.run_unsafeString_row w.drew 321 3 9 5 underlying321 (by kernel_rfl) g cur.size (by have hg':w.drew.heap[g]? = some (.cells cur 5 (0,0)):=hg;simp [World.shape?,hg']) l h0 (by omega) (by unfold maxLen at hcm;omega) ?_
  intro j x hx
  have:=hown.cells (g:=g) rfl j (.int .u8 x.toNat) (by simp [Lib.byteCells,hx])
  exact this
 have HK:Hid (∀ n,x9 b w (w.drew.freeze ⟨g,0,none⟩ n)):=ah fun n k cs ty fr _ hc ht => by
  have hne:k ≠ g:=fun e => by
   subst e
   rw [hg] at hc
   injection hc with hc
   injection hc with _ h2
   exact ht h2.symm
  rw [EU _ _ _ hne]
  exact hc
 go_enter func215,ntmps215
 go_wp2
 go_region
 all_goals (go_wp2;go_ret;exact ⟨rfl,Lib.below_freeze (Below.drew (Below.refl B w)) (p:=⟨g,0,none⟩) hbg _,HK.out _⟩)
theorem Al (B b:Nat) (l:List UInt8) (w:World) (h:Wr B b l w) (h0:l ≠ []) :
  Calls prog 165 #[.pointer (some ⟨b,0,none⟩)] w fun e w' => e = .returned (.string (ofB l)) ∧ Below B w w' ∧ x9 b w w':=by
 have HS:=ah (xX B b l w h h0)
 clear h
 go_enter func165,ntmps165
 go_wp2_with fail
 refine HS.out.mono ?_
 rintro e w1 ⟨rfl,hb⟩
 go_wp2
 go_ret
 exact ⟨rfl,hb⟩
theorem uZ (B b:Nat) (L:List UInt8) (g:Nat) (x:List UInt8) (w:World) (h:Wr B b L w) (hr:w.rangeAt g 0 (idC x)) (hx:x.length = 32) (hlen:L.length ≤ 1000000) (hBw:B ≤ w.heap.size) :
  Calls prog 124 #[.pointer (some ⟨b,0,none⟩),.slice (some ⟨g,0,none⟩) 1 1] w fun e w' => e = .returned (.tuple #[]) ∧ Wr B b (L ++ x) w' ∧ Below B w w':=by
 have HW:=ah h
 have HX:=ah hx
 have hcl:(idC x).length = 32:=by rw [au,hx]
 obtain ⟨zi,i0,hi,hz0,hz1,hz2,hziv,hzil⟩:=dH
 have h32:(prog.info? 42).map (·.size) = some (idC x).length:=by rw [hcl];exact bO
 have HTH:=ah (there_alloc (n:=32) w zi 42 hzil)
 obtain ⟨W,hW⟩:∃ W,(w.alloc (.cells zi 42)).setCells w.heap.size 0 (idC x) = W:=⟨_,rfl⟩
 have hb4:Below w.heap.size w W:=by rw [← hW];exact below_setCells _ (Nat.le_refl _) _ _ _ bal
 have hx4:BoxL W w.heap.size 42 (idC x):=by rw [← hW];exact BoxL.set (cs:=zi.toList) (by have:=BoxL.new w 42 zi.toList;simpa using this) (by rw [hcl];simpa using hzil.symm)
 have hcv:∀ c,(convert 96 9 (.slice (some ⟨w.heap.size,0,none⟩) 32 c)).run prog W = .ok (.string (ofB x)) W:=fun c => by
  have:=run_convert_bytes_back (P:=prog) W 96 9 5 ⟨w.heap.size,0,none⟩ c x underlying96 underlying5 underlying9 fun j hj => by
   rw [Addr.add_mid]
   exact hx4.range j _ (by simp [idC,hj])
  rwa [hx] at this
 have hE:∃ W5,W.alloc (.cells #[.string (ofB x)] 9) = W5:=⟨_,rfl⟩
 obtain ⟨W5,hW5⟩:=hE
 have hb5:Below W.heap.size W W5:=by rw [← hW5];exact bal
 have hc5:W5.cell? ⟨W.heap.size,0,none⟩ = some (.string (ofB x)):=by rw [← hW5];exact (BoxL.new W 9 [.string (ofB x)]).range 0 _ rfl
 have hRW:=jh B b L W.heap.size (ofB x) W5 ((h.below hb4).below hb5) hc5 (by rw [bq];omega) (by have:=hb4.size;have:=hb5.size;omega)
 rw [aX] at hRW
 have HRW:=ah hRW
 have HB5:Hid (Below B w W5):=ah ((hb4.mono hBw).trans (hb5.mono (by have:=hb4.size;omega)))
 have HON:=ah (aM x)
 have HWE:=ah hW
 have HW5:=ah hW5
 have hi32:=bO
 clear h hW hb4 hx4 hb5 hc5 hW5 hRW hx hz0 hz2
 generalize idC x = cx at hr hcl h32 HON HWE
 go_enter func124,ntmps124
 go_wp2_with fail
 go_loopw [5,8] (fun _ i wr => (i = .int .i64 0 ∧ w = wr) ∨ (i = .int .i64 1 ∧ Wr B b (L ++ x) wr ∧ Below B w wr)) (fun _ i _ => (1 - intOf i).toNat)
 case atStart => exact .inl ⟨rfl,rfl⟩
 rcases hrel with ⟨rfl,rfl⟩ | ⟨rfl,hW2,hB2⟩
 ·go_wp2_with (first
   | refine wpList_load_mid rfl 42 _ rfl g 0 rfl cx _ hr underlying42 rfl h32 ?_
   | refine aj rfl 42 _ _ rfl w.heap.size 0 cx rfl rfl 32 hcl HTH.out hi32 HON.out ?_;rw [HWE.out])
  rw [HW5.out]
  refine HRW.out.mono ?_
  rintro e w1 ⟨rfl,h1,hb1⟩
  have H1:=ah h1
  have HB1:=ah (HB5.out.trans hb1)
  clear h1 hb1 HRW hcv
  go_wp2_with fail
  go_roundw
  case rel => exact .inr ⟨by go_num,H1.out,HB1.out⟩
  case measure => simp [intOf]
 have HW2:=ah hW2
 have HB2:=ah hB2
 clear hW2 hB2
 go_wp2
 go_end0
 exact ⟨rfl,HW2.out,HB2.out⟩
theorem Crc.gY {B:Nat} {w w':World} (h:Crc w) (hb:Below B w w') (hB:5 ≤ B):Crc w':=⟨aF h.row hb (by omega),by have:=h.lt;have:=hb.size;omega⟩
theorem FV {b n:Nat} {w w':World} (h:w.heap[n]? = some (.cells #[.pointer none,.slice none 0 0] 193 (0,0))) (hk:x9 b w w') (hne:n ≠ b):w'.heap[n]? = some (.cells #[.pointer none,.slice none 0 0] 193 (0,0)):=hk n _ _ _ hne h (by decide)
theorem rX (B b:Nat) (L:List UInt8) (w:World) (h:Wr B b L w) (h0:L ≠ []) (hL:L.length ≤ 100000) (hBw:B ≤ w.heap.size) (h5:5 ≤ B) (hcr:Crc w) :
  Calls prog 125 #[.pointer (some ⟨b,0,none⟩)] w fun e w' => e = .returned (.string (ofB (recB L))) ∧ Below B w w':=by
 obtain ⟨W,hW⟩:∃ W,w.alloc (.cells #[.pointer none,.slice none 0 0] 193) = W:=⟨_,rfl⟩
 have hbW:Below w.heap.size w W:=by rw [← hW];exact bal
 have hxW:W.heap[w.heap.size]? = some (.cells #[.pointer none,.slice none 0 0] 193 (0,0)):=by rw [← hW];exact World.alloc_heap_new w _
 have hbl:=h.lt
 have HS:=ah (Al B b L W (h.below hbW) h0)
 have HX:=ah hxW
 have HB:=ah (hbW.mono hBw)
 have HW:=ah hW
 have HBL:Hid (w.heap.size ≠ b):=ah (by omega)
 have HCR:=ah hcr
 have HSZ:Hid (W.heap.size = w.heap.size + 1):=ah (by rw [← hW];simp)
 have HL:=ah hL
 have HBW:=ah hBw
 have H5:=ah h5
 clear h hW hbW hxW hcr h0 hL hBw h5
 go_enter func125,ntmps125
 go_wp2_with fail
 rw [HW.out]
 refine HS.out.mono ?_
 rintro e w1 ⟨rfl,hb1,hk1⟩
 have hb1':Below B w w1:=HB.out.trans hb1
 have hx1:=FV HX.out hk1 HBL.out
 have hcr1:Crc w1:=HCR.out.gY hb1' H5.out
 have hlz:(ofB L).size ≤ 100000:=by rw [bq];exact HL.out
 have HSE:=ah (rP (ofB L) w1 hcr1 (by omega))
 have HX1:=ah hx1
 have HB1:=ah hb1'
 have HS1:Hid (w.heap.size + 1 ≤ w1.heap.size):=ah (by have:=hb1.size;have:=HSZ.out;omega)
 rw [aX] at HSE
 clear hb1 hk1 hb1' hx1 hcr1 HS HX HB HW
 go_wp2_with fail
 refine HSE.out.mono ?_
 rintro e w2 ⟨rfl,hb2⟩
 have hx2:w2.heap[w.heap.size]? = some (.cells #[.pointer none,.slice none 0 0] 193 (0,0)):=(hb2.block _ (by have:=HS1.out;omega)).trans HX1.out
 obtain ⟨W3,hW3⟩:∃ W3,w2.alloc (.cells #[.string (ofB (dN L))] 9) = W3:=⟨_,rfl⟩
 have hb3:Below w2.heap.size w2 W3:=by rw [← hW3];exact bal
 have hx3:W3.heap[w.heap.size]? = some (.cells #[.pointer none,.slice none 0 0] 193 (0,0)):=(hb3.block _ (by have:=HS1.out;have:=hb2.size;omega)).trans hx2
 have hwr:Wr w.heap.size w.heap.size [] W3:=by
  exact .inl ⟨Nat.le_refl _,.slice none 0 0,hx3,World.ownsRow_nil _ _ _ _,by simp [Value.ownBlock]⟩
 have hc3:W3.cell? ⟨w2.heap.size,0,none⟩ = some (.string (ofB (dN L))):=by rw [← hW3];exact (BoxL.new w2 9 [.string (ofB (dN L))]).range 0 _ rfl
 have hsl:=jr L
 have HTX:=ah (mg w.heap.size w.heap.size [] w2.heap.size (ofB (dN L)) W3 hwr hc3 (by rw [bq];have:=HL.out;omega) (by simp) (by have:=HS1.out;have:=hb2.size;have:=hb3.size;omega))
 have HB3:Hid (Below B w W3):=ah ((HB1.out.trans (hb2.mono (by have:=HB1.out.size;have:=HBW.out;omega))).trans (hb3.mono (by have:=HB1.out.size;have:=HBW.out;have:=hb2.size;omega)))
 rw [List.nil_append,aX,bq] at HTX
 have HW3:=ah hW3
 clear hb2 hx2 hW3 hb3 hx3 hwr hc3 hsl HSE
 go_wp2_with fail
 rw [HW3.out]
 refine HTX.out.mono ?_
 rintro e w4 ⟨rfl,hw4,hb4⟩
 have HST:=ah (uY w.heap.size w.heap.size _ w4 hw4 (by
  rw [numB]
  split <;> simp))
 have HB4:=ah (HB3.out.trans (hb4.mono HBW.out))
 clear hw4 hb4 HTX HW3
 go_wp2_with fail
 refine HST.out.mono ?_
 rintro e w5 ⟨rfl,hb5⟩
 have HB5:=ah (HB4.out.trans (hb5.mono HBW.out))
 clear hb5 HST
 go_wp2_with fail
 go_ret
 exact ⟨rfl,HB5.out⟩
theorem Gr (r:Rf):r.1.size ≤ 1000 → r.2.length = 32 → (refB r).length ≤ 1100:=fun h1 h2 => by
 unfold refB
 have h3:=kS r.1
 have:=wT (s:=r.1.data.toList) (by omega)
 rw [List.length_append];omega
theorem nX (r:Rf) (w:World) (hz:r.1.size ≤ 1000) (h2:r.2.length = 32) (h5:5 ≤ w.heap.size) (hcr:Crc w) :
  Calls prog 107 #[.agg (rfC r).toArray] w fun e w' => e = .returned (.string (ofB (entB r))) ∧ Below w.heap.size w w':=by
 obtain ⟨W1,hW1⟩:∃ W,w.alloc (.cells (rfC r).toArray 93) = W:=⟨_,rfl⟩
 have hb1:Below w.heap.size w W1:=by rw [← hW1];exact bal
 have hs1:W1.heap.size = w.heap.size + 1:=by rw [← hW1];simp
 have hx1:BoxL W1 w.heap.size 93 (rfC r):=by rw [← hW1];exact BoxL.new w 93 (rfC r)
 obtain ⟨W2,hW2⟩:∃ W,W1.alloc (.cells #[.pointer none,.slice none 0 0] 193) = W:=⟨_,rfl⟩
 have hb2:Below W1.heap.size W1 W2:=by rw [← hW2];exact bal
 have hs2:W2.heap.size = w.heap.size + 1 + 1:=by rw [← hW2,← hs1];simp
 have hwr:Wr (w.heap.size + 1) (w.heap.size + 1) [] W2:=by rw [← hs1,← hW2];exact Lib.fresh_isBuilder 193 5 W1
 obtain ⟨W3,hW3⟩:∃ W,W2.alloc (.cells #[.string ⟨#[69]⟩] 9) = W:=⟨_,rfl⟩
 have hb3:Below W2.heap.size W2 W3:=by rw [← hW3];exact bal
 have hc3:W3.cell? ⟨w.heap.size + 1 + 1,0,none⟩ = some (.string ⟨#[69]⟩):=by rw [← hs2,← hW3];exact (BoxL.new W2 9 [.string ⟨#[69]⟩]).range 0 _ rfl
 have hB3:Below (w.heap.size + 1) W2 W3:=hb3.mono (by omega)
 have HR1:=ah (jh (w.heap.size + 1) (w.heap.size + 1) [] (w.heap.size + 1 + 1) ⟨#[69]⟩ W3 (hwr.below hb3) hc3 (by decide) (by have:=hb3.size;omega))
 have HX3:=ah ((hx1.below hb2).below hb3)
 have HB3:Hid (Below w.heap.size w W3):=ah ((hb1.trans (hb2.mono (by omega))).trans (hb3.mono (by omega)))
 have hs3:w.heap.size + 1 + 1 < W3.heap.size:=by have:=World.block_lt_of_cell? W3 _ hc3;exact this
 have HW:Hid ((w.alloc (.cells (rfC r).toArray 93)).alloc (.cells #[.pointer none,.slice none 0 0] 193) = W2):=ah (by rw [hW1,hW2])
 have HW3:=ah hW3
 have HS2:=ah hs2
 have HCR:=ah hcr
 have hi:(idC r.2).length = 32:=by rw [au,h2]
 have hh32:(prog.info? 42).map (·.size) = some (idC r.2).length:=by rw [hi];exact bO
 have HSZ:Hid (∀ w,(sizeOf 42).run prog w = .ok (idC r.2).length w):=ah fun w => by rw [hi];kernel_rfl
 obtain ⟨zi,i0,_,_,_,_,hziv,_⟩:=dH
 have HIL:=ah hi
 have HRC:Hid (∀ j u,(idC r.2)[j]? = some u → (rfC r)[j + 1]? = some u):=ah fun j u hu => by unfold rfC;rw [List.getElem?_cons_succ];exact hu
 have HR0:Hid ((rfC r)[0]? = some (.string r.1)):=ah rfl
 clear hW1 hW2 hW3 hb1 hb2 hb3 hs1 hx1 hwr hc3 hB3 hcr hi
 generalize hrc:rfC r = rc at HX3 HW HRC HR0
 clear hrc
 generalize hci:idC r.2 = ci at hh32 HSZ HIL HRC
 have HCI:=ah hci
 clear hci
 go_enter func107,ntmps107
 go_upto_region 2 with fail
 rw [HW.out]
 go_wp2_with fail
 rw [HW3.out]
 refine HR1.out.mono ?_
 rintro e w4 ⟨rfl,hw4,hb4⟩
 have hx4:BoxL w4 w.heap.size 93 rc:=(hb4.block _ (by omega)).trans HX3.out
 have d0:w4.cell? ⟨w.heap.size,0,none⟩ = some (.string r.1):=hx4.range 0 _ HR0.out
 obtain ⟨W5,hW5⟩:∃ W,w4.alloc (.cells #[.string r.1] 9) = W:=⟨_,rfl⟩
 have hb5:Below w4.heap.size w4 W5:=by rw [← hW5];exact bal
 have hc5:W5.cell? ⟨w4.heap.size,0,none⟩ = some (.string r.1):=by rw [← hW5];exact (BoxL.new w4 9 [.string r.1]).range 0 _ rfl
 have hsz4:=hb4.size
 have HT:=ah (mg (w.heap.size + 1) (w.heap.size + 1) _ w4.heap.size r.1 W5 (hw4.below hb5) hc5 (by omega) (by simp) (by have:=hb5.size;omega))
 have HX5:=ah (hx4.below hb5)
 have HB5:Hid (Below (w.heap.size + 1) W3 W5):=ah (hb4.trans (hb5.mono (by omega)))
 have HW5:=ah hW5
 clear hw4 hb4 hx4 hW5 hb5 hc5 HR1 HW HW3
 go_wp2_with fail
 rw [HW5.out]
 refine HT.out.mono ?_
 rintro e w6 ⟨rfl,hw6,hb6⟩
 have hx6:BoxL w6 w.heap.size 93 rc:=(hb6.block _ (by omega)).trans HX5.out
 have d1:w6.rangeAt w.heap.size 1 ci:=fun j u hu => by
  have:=hx6.range (j + 1) u (HRC.out j u hu)
  rw [Nat.zero_add] at this
  rw [Nat.add_comm 1 j];exact this
 have HB6:=ah (HB5.out.trans hb6)
 have HW6:=ah hw6
 clear hw6 hb6 hx6 d0 HT HW5
 go_wp2_with (first
  | refine wpList_load_mid rfl 42 _ rfl w.heap.size 1 rfl ci _ d1 underlying42 rfl hh32 ?_
  | refine av rfl _ 44 42 rfl ci zi rfl underlying44 HSZ.out hziv (by rw [HIL.out];omega) (by rw [HIL.out];omega) ?_)
 obtain ⟨W7,hW7⟩:∃ W,w6.alloc (.cells ci.toArray 42) = W:=⟨_,rfl⟩
 have hb7:Below w6.heap.size w6 W7:=by rw [← hW7];exact bal
 have hx7:BoxL W7 w6.heap.size 42 ci:=by rw [← hW7];exact BoxL.new w6 42 ci
 have hs6:=HB6.out.size
 have HI:=ah (uZ (w.heap.size + 1) (w.heap.size + 1) _ w6.heap.size r.2 W7 (HW6.out.below hb7) (by rw [HCI.out];exact hx7.range) h2 (by
  have:=lC r.1.size (by omega)
  have:=kS r.1
  rw [List.length_append,List.length_append,List.length_append]
  simp only [List.length_nil,List.length_singleton]
  omega) (by have:=hb7.size;omega))
 have HB7:=ah (HB6.out.trans (hb7.mono (by omega)))
 have HW7:=ah hW7
 clear hW7 hb7 hx7 HB6 HW6 d1 hh32
 rw [HW7.out]
 refine HI.out.mono ?_
 rintro e w8 ⟨rfl,hw8,hb8⟩
 have HB8:=ah (HB7.out.trans hb8)
 have HL:Hid ([] ++ [69] ++ (numB r.1.size ++ r.1.data.toList) ++ r.2 = 69 :: refB r):=ah (by unfold refB txtB;rw [kS];simp)
 rw [HL.out] at hw8
 have hrl:=Gr r hz h2
 have hs8:=HB8.out.size
 have HRD:=ah (rX (w.heap.size + 1) (w.heap.size + 1) _ w8 hw8 (by simp) (by rw [List.length_cons];omega) (by omega) (by omega) (HCR.out.gY (HB3.out.trans (HB8.out.mono (by omega))) h5))
 have HB8':Hid (Below w.heap.size w w8):=ah (HB3.out.trans (HB8.out.mono (by omega)))
 clear hw8 hb8 HI HW7 hrl
 go_wp2_with fail
 refine HRD.out.mono ?_
 rintro e w9 ⟨rfl,hb9⟩
 have HE:=ah (HB8'.out.trans (hb9.mono (by omega)))
 clear hb9 HRD
 go_wp2_with fail
 go_ret
 exact ⟨rfl,HE.out⟩
theorem yY (s:ByteArray) (x:Idl) (hx:x.length = 32) (w:World):(Instr.build 93 #[(0,.string s),(1,.agg (idC x).toArray)]).run prog w = .ok (.agg (rfC (s,x)).toArray) w:=by
 rcases x with _ | ⟨a0,x⟩
 ·simp at hx
 rcases x with _ | ⟨a1,x⟩
 ·simp at hx
 rcases x with _ | ⟨a2,x⟩
 ·simp at hx
 rcases x with _ | ⟨a3,x⟩
 ·simp at hx
 rcases x with _ | ⟨a4,x⟩
 ·simp at hx
 rcases x with _ | ⟨a5,x⟩
 ·simp at hx
 rcases x with _ | ⟨a6,x⟩
 ·simp at hx
 rcases x with _ | ⟨a7,x⟩
 ·simp at hx
 rcases x with _ | ⟨a8,x⟩
 ·simp at hx
 rcases x with _ | ⟨a9,x⟩
 ·simp at hx
 rcases x with _ | ⟨a10,x⟩
 ·simp at hx
 rcases x with _ | ⟨a11,x⟩
 ·simp at hx
 rcases x with _ | ⟨a12,x⟩
 ·simp at hx
 rcases x with _ | ⟨a13,x⟩
 ·simp at hx
 rcases x with _ | ⟨a14,x⟩
 ·simp at hx
 rcases x with _ | ⟨a15,x⟩
 ·simp at hx
 rcases x with _ | ⟨a16,x⟩
 ·simp at hx
 rcases x with _ | ⟨a17,x⟩
 ·simp at hx
 rcases x with _ | ⟨a18,x⟩
 ·simp at hx
 rcases x with _ | ⟨a19,x⟩
 ·simp at hx
 rcases x with _ | ⟨a20,x⟩
 ·simp at hx
 rcases x with _ | ⟨a21,x⟩
 ·simp at hx
 rcases x with _ | ⟨a22,x⟩
 ·simp at hx
 rcases x with _ | ⟨a23,x⟩
 ·simp at hx
 rcases x with _ | ⟨a24,x⟩
 ·simp at hx
 rcases x with _ | ⟨a25,x⟩
 ·simp at hx
 rcases x with _ | ⟨a26,x⟩
 ·simp at hx
 rcases x with _ | ⟨a27,x⟩
 ·simp at hx
 rcases x with _ | ⟨a28,x⟩
 ·simp at hx
 rcases x with _ | ⟨a29,x⟩
 ·simp at hx
 rcases x with _ | ⟨a30,x⟩
 ·simp at hx
 rcases x with _ | ⟨a31,x⟩
 ·simp at hx
 cases x with
 | nil => exact run_build w 93 _ _ (by kernel_rfl)
 | cons a x => simp at hx
theorem aS.offR {w w':World} {v:Value} {sz:Nat} {row:Option Nat} {rows:List (List Value)} (h:aS w v sz rows) (hg:w.grownBy w' row) (hn:∀ b,v.ownBlock = some b → some b ≠ row):aS w' v sz rows:=by
 obtain ⟨ao,cap,rfl,hm,h2⟩:=h
 refine ⟨ao,cap,rfl,hm,fun hne => ?_⟩
 obtain ⟨b,off,rfl,hb,hc⟩:=h2 hne
 exact ⟨b,off,rfl,Nat.lt_of_lt_of_le hb hg.size,fun i hi => gP (hc i hi) hg (fun e => hn b rfl e.symm)⟩
theorem Gq {w:World} {B n:Nat} {v:Value} {l:List Rf} (hn:n = l.length) (h:w.ownsRow B 93 33 v n (rfV l)) (h32:∀ r ∈ l,r.2.length = 32):bK w v l:=by
 subst hn
 unfold bK
 refine aS.bZ (B:=B) (e:=93) (fun r hr => ?_) ?_
 ·obtain ⟨x,hx,rfl⟩:=List.mem_map.1 hr
  exact gJ (h32 x hx)
 rw [List.length_map];exact h
theorem zl {w:World} {B n sz:Nat} {e:TypeId} {v:Value} {xs:List Value} (h:w.ownsRow B e sz v n xs):CapI v:=fun ao m c e1 => by
 rcases h.2 with ⟨rfl,_⟩ | ⟨g,cap,cur,rfl,_,_,hle,_⟩
 ·cases e1;exact Nat.le_refl _
 cases e1;exact hle
theorem Gx {w:World} {B sz n b:Nat} {e t:TypeId} {v:Value} {xs cs:List Value} (h:w.ownsRow B e sz v n xs) (hx:BoxL w b t cs) (hne:e ≠ t):v.ownBlock ≠ some b:=fun e1 => by
 rcases h.2 with ⟨rfl,_⟩ | ⟨g1,cap,cur,rfl,_,hg,_⟩
 ·cases e1
 have a1:g1 = b:=Option.some.inj e1
 subst a1
 have h2:w.heap[g1]? = _:=hx
 rw [hg] at h2
 injection h2 with h2
 injection h2 with _ h2
 exact hne h2
def FrB (B:Nat) (v:Value):Prop:=∀ g,v.ownBlock = some g → B ≤ g
theorem jv {P:Program} {fn:Func} {R:Ending → World → Prop} {a:Act} {w:World} {p q r:Tmp} {ty:TypeId} (h:fn.results = #[.cell p ty,.tmp q,.tmp r]) (b o:Nat)
  (hp:a.tmps.getD p undef = .pointer (some ⟨b,o,none⟩)) (cs:List Value) (d:TypeDesc) (hc:w.rangeAt b o cs)
  (hu:P.underlying ty = some d) (hd:d.isRow = true) (hi:(P.info? ty).map (·.size) = some cs.length) (hdef:a.defers = []) (u v:Value) (hq:a.tmps.getD q undef = u) (hr:a.tmps.getD r undef = v) (hR:R (.returned (.tuple #[.agg cs.toArray,u,v])) w):bodyPost P fn R .ret a w:=by
 refine bodyPost_ret (v:=.tuple #[.agg cs.toArray,u,v]) ?_ hdef hR
 have:=run_loadVar_mid (P:=P) w b o ty cs d hc hu hd hi
 simp only [results,h]
 rw [Array.getD_eq_getD_getElem?] at hp hq hr
 simp [asAddr,hp,hq,hr,this]
structure Cl1 (w1 w:World) (v:Value) (l:List Rf):Prop where
 row:bK w v l
 fr:FrB w1.heap.size v
 lt:∀ g,v.ownBlock = some g → g < w.heap.size
 cap:CapI v
 ty:∀ g,v.ownBlock = some g → ∃ cs fr,w.heap[g]? = some (.cells cs 93 fr)
theorem K4 {w:World} {B n sz:Nat} {e:TypeId} {v:Value} {xs:List Value} (h:w.ownsRow B e sz v n xs):∀ g,v.ownBlock = some g → ∃ cs fr,w.heap[g]? = some (.cells cs e fr):=fun g hg => by
 rcases h.2 with ⟨rfl,_⟩ | ⟨g1,cap,cur,rfl,_,hg1,_⟩
 ·cases hg
 cases hg;exact ⟨_,_,hg1⟩
theorem Cl1.mk2 {w1 w:World} {B:Nat} {v:Value} {n:Nat} {l:List Rf} (hn:n = l.length) (h:w.ownsRow B 93 33 v n (rfV l)) (hB:w1.heap.size ≤ B) (h32:∀ r ∈ l,r.2.length = 32):Cl1 w1 w v l :=
 ⟨Gq hn h h32,fun g hg => Nat.le_trans hB (h.lt g hg).1,fun g hg => (h.lt g hg).2,zl h,K4 h⟩
theorem Cl1.below {w1 w w':World} {v:Value} {l:List Rf} (h:Cl1 w1 w v l) (hb:Below w.heap.size w w'):Cl1 w1 w' v l:=⟨h.row.below hb,h.fr,fun g hg => Nat.lt_of_lt_of_le (h.lt g hg) hb.size,h.cap,fun g hg => by rw [hb.block g (h.lt g hg)];exact h.ty g hg⟩
def Cl2 (w1 w:World) (v:Value) (l:List Rf) (v1:Value):Prop:=∃ B,w.ownsRow B 93 33 v l.length (rfV l) ∧ B ≤ w.heap.size ∧ w1.heap.size ≤ B ∧ ∀ g,v1.ownBlock = some g → g < B
theorem Cl2.of {w1 wc w:World} {v v1:Value} {l:List Rf} (h:w.ownsRow wc.heap.size 93 33 v l.length (rfV l)) (hb:Below wc.heap.size wc w) (h1:w1.heap.size ≤ wc.heap.size) (hl:∀ g,v1.ownBlock = some g → g < wc.heap.size):Cl2 w1 w v l v1:=⟨_,h,hb.size,h1,hl⟩
theorem Cl2.below {w1 w w':World} {v v1:Value} {l:List Rf} (h:Cl2 w1 w v l v1) (hb:Below w.heap.size w w'):Cl2 w1 w' v l v1:=by
 obtain ⟨B,h1,h2,h3,h4⟩:=h
 exact ⟨B,own_below h1 hb,Nat.le_trans h2 hb.size,h3,h4⟩
theorem Cl1.old {w1 w w':World} {v v1:Value} {l t:List Rf} {B:Nat} (h:Cl1 w1 w v1 t) (ho:w.ownsRow B 93 33 v l.length (rfV l)) (hl:∀ g,v1.ownBlock = some g → g < B) (hg:w.grownBy w' v.ownBlock):Cl1 w1 w' v1 t :=
 ⟨aS.offR h.row hg fun b hb e => by have:=(ho.lt b e.symm).1;have:=hl b hb;omega,h.fr,fun g hgg => Nat.lt_of_lt_of_le (h.lt g hgg) hg.size,h.cap,fun g hgg => by rw [hg.block g (h.lt g hgg) (fun e => by have:=(ho.lt g e.symm).1;have:=hl g hgg;omega)];exact h.ty g hgg⟩
theorem Cl1.set {w1 w:World} {v:Value} {t:List Rf} {E:Nat} {cs vs:List Value} (h:Cl1 w1 w v t) (hE:BoxL w E 51 cs):bK (w.setCells E 0 vs) v t :=
 aS.offR h.row (aY vs 0 w (World.grownBy.refl w (some E))) fun b hb e => by
  obtain ⟨c,fr,h1⟩:=h.ty b hb
  cases e
  rw [show w.heap[E]? = _ from hE] at h1
  injection h1 with h1
  injection h1 with _ h2
  exact absurd h2 (by decide)
structure NewB (w1 w:World) (E:Nat):Prop where
 box:BoxL w E 51 [.slice none 0 0,.slice none 0 0]
 le:w1.heap.size ≤ E
theorem NewB.of {w1 w:World} (hB:Below w1.heap.size w1 w):NewB w1 (w.alloc (.cells #[.slice none 0 0,.slice none 0 0] 51)) w.heap.size:=⟨BoxL.new w 51 [.slice none 0 0,.slice none 0 0],hB.size⟩
theorem NewB.below {w1 w w':World} {E:Nat} (h:NewB w1 w E) (hb:Below w.heap.size w w'):NewB w1 w' E:=⟨h.box.below hb,h.le⟩
theorem NewB.kept {w1 w w':World} {E B n:Nat} {v:Value} {xs:List Value} (h:NewB w1 w E) (ho:w.ownsRow B 93 33 v n xs) (hg:w.grownBy w' v.ownBlock):NewB w1 w' E:=⟨h.box.kept hg fun e => Gx ho h.box (by decide) e.symm,h.le⟩
theorem jc (r:Rf) (w:World):bK (w.alloc (.cells (rfC r).toArray 93)) (.slice (some ⟨w.heap.size,0,none⟩) 1 1) [r]:=by
 refine ⟨_,1,rfl,show 1 ≤ maxLen by unfold maxLen;omega,fun _ => ⟨w.heap.size,0,rfl,by simp,fun i hi => ?_⟩⟩
 obtain rfl:i = 0:=by simpa using hi
 have:=(BoxL.new w 93 (rfC r)).range
 simpa using this
section
variable {P:Program} {ops:Array Oper} {Q:Exit → Act → World → Prop} {S:World → Prop}
theorem WL.three {n i j k:Nat} {oi oj ok:Oper} {f:Nat} {ls:Array Bool} {a:Act} {w:World} (hi:ops[i]? = some oi) (hj:ops[j]? = some oj) (hk:ops[k]? = some ok) (hin:i < n) (hjn:j < n) (hkn:k < n) (hr:Region.ready .any ops ls = [i,j,k])
  (h:wpList P ops (KK Q S fun a' w' => WL P ops Q S n f (ls.setIfInBounds i true) a' w') [oi] a w) (h1:wpList P ops (KK Q S fun a' w' => WL P ops Q S n f (ls.setIfInBounds j true) a' w') [oj] a w) (h':wpList P ops (KK Q S fun a' w' => WL P ops Q S n f (ls.setIfInBounds k true) a' w') [ok] a w):WL P ops Q S n (f + 1) ls a w:=by
 have one:∀ {j:Nat} {oj:Oper},ops[j]? = some oj → j < n → j ∈ Region.ready .any ops ls → wpList P ops (KK Q S fun a' w' => WL P ops Q S n f (ls.setIfInBounds j true) a' w') [oj] a w → HeadInv .any ops n ls →
   wpOp P ops Q j (fun a' w' => S w' ∧ wpL P .any ops Q S n f (ls.setIfInBounds j true) a' w') a w:=by
  intro j oj hj hjn hjr h inv
  have hset:=inv.set hjr hjn
  unfold wpOp
  simp only [hj]
  simp only [wpList] at h
  split
  ·rename_i hw
   rw [if_pos hw] at h
   rcases h with h | ⟨h1,h2⟩
   ·exact .inl (Oper.wp_mono (fun a' w' h' => ⟨h'.1,h'.2.out hset⟩) (mX h))
   refine .inr ⟨h1,?_⟩
   obtain ⟨a',w',h'⟩:=h2
   exact ⟨a',w',h'⟩
  rename_i hw
  rw [if_neg hw] at h
  exact ⟨h.1,h.2.out hset⟩
 refine ⟨fun inv => ⟨fun h0 => (by rw [h0] at hr;cases hr),fun m hm => ?_⟩⟩
 have hm':=hm
 rw [hr] at hm
 rcases List.mem_cons.1 hm with rfl | hm
 ·exact ⟨hin,one hi hin hm' h inv⟩
 rcases List.mem_cons.1 hm with rfl | hm
 ·exact ⟨hjn,one hj hjn hm' h1 inv⟩
 obtain rfl:m = k:=by simpa using hm
 exact ⟨hkn,one hk hkn hm' h' inv⟩
end
theorem eu {P:Program} {ops:Array Oper} {Q:Exit → Act → World → Prop} {rest:List Oper} {o:Oper} {a:Act} {w:World} (hg:o.guard = none) (t:TypeId) (x y:Operand) (hop:o.op = .build t #[(0,x),(1,y)]) (vx vy v:Value) (hx:a.eval x = vx) (hy:a.eval y = vy)
  (hrun:(Instr.build t #[(0,vx),(1,vy)]).run P w = .ok v w) (hK:wpList P ops Q rest (a.put o.dst v) w):wpList P ops Q (o :: rest) a w:=by
 refine aO hg v ?_ hK
 simp [execOp,hop,hx,hy,hrun,Result.andThen]
def BkFr (w0 w:World) (vt vl:Value) (t l:List Rf):Prop:=fG w vt vl t l ∧ FrB w0.heap.size vt ∧ FrB w0.heap.size vl
def wP (t l:List Rf) (r:Rf) (w:World) (e:Ending) (w':World):Prop :=
 (if (aR t l && aQ r.1) = true then
  if aR t (l ++ [r]) = true then ∃ v1 v2,e = .returned (.tuple #[.agg #[v1,v2],.string (ofB (entB r)),.int .i64 0]) ∧ BkFr w w' v1 v2 t (l ++ [r])
  else e = .returned (.tuple #[.agg #[.slice none 0 0,.slice none 0 0],.string ⟨#[]⟩,.int .i64 18])
 else e = .returned (.tuple #[.agg #[.slice none 0 0,.slice none 0 0],.string ⟨#[]⟩,.int .i64 1])) ∧ Below w.heap.size w w'
theorem FT {t l:List Rf} {r:Rf} {w w':World} (h:(aR t l && aQ r.1) = false) (hb:Below w.heap.size w w'):wP t l r w (.returned (.tuple #[.agg #[.slice none 0 0,.slice none 0 0],.string ⟨#[]⟩,.int .i64 1])) w':=⟨by rw [h];rfl,hb⟩
theorem Ce {t l:List Rf} {r:Rf} {w w':World} (h:(aR t l && aQ r.1) = true) (h2:aR t (l ++ [r]) = false) (hb:Below w.heap.size w w'):wP t l r w (.returned (.tuple #[.agg #[.slice none 0 0,.slice none 0 0],.string ⟨#[]⟩,.int .i64 18])) w':=⟨by rw [h,h2];rfl,hb⟩
theorem FR {t l:List Rf} {r:Rf} {v1 v2:Value} {w w':World} (h:(aR t l && aQ r.1) = true) (h2:aR t (l ++ [r]) = true) (h3:BkFr w w' v1 v2 t (l ++ [r])) (hb:Below w.heap.size w w'):wP t l r w (.returned (.tuple #[.agg #[v1,v2],.string (ofB (entB r)),.int .i64 0])) w':=⟨by rw [h,h2];exact ⟨v1,v2,rfl,h3⟩,hb⟩
theorem pU (vt vl:Value) (t l:List Rf) (r:Rf) (w:World) (h:fG w vt vl t l) (hr:r.1.size ≤ 1000) (hr2:r.2.length = 32) (htl:t.length ≤ 1000) (hll:l.length ≤ 1000) (hcr:Crc w) (h5:5 ≤ w.heap.size) :
  Calls prog 59 #[.agg #[vt,vl],.string r.1,.agg (idC r.2).toArray] w (wP t l r w):=by
 obtain ⟨ci,hci⟩:∃ c,idC r.2 = c:=⟨_,rfl⟩
 rw [hci]
 obtain ⟨W,hW⟩:∃ W,((w.alloc (.cells #[vt,vl] 51)).alloc (.cells ci.toArray 42)).alloc (.cells #[.slice none 0 0,.slice none 0 0] 51) = W:=⟨_,rfl⟩
 have hbW:Below w.heap.size w W:=by rw [← hW];exact (bal.alloc (by simp) _).alloc (by simp;omega) _
 have hx0:BoxL W w.heap.size 51 [vt,vl]:=by rw [← hW];exact ((BoxL.new w 51 [vt,vl]).below bal).below bal
 have hx1:BoxL W (w.heap.size + 1) 42 ci:=by
  rw [← hW]
  have:=(BoxL.new (w.alloc (.cells #[vt,vl] 51)) 42 ci)
  rw [World.size_alloc] at this
  exact this.below bal
 have hx2:BoxL W (w.heap.size + 1 + 1) 51 [.slice none 0 0,.slice none 0 0]:=by
  rw [← hW]
  have:=(BoxL.new ((w.alloc (.cells #[vt,vl] 51)).alloc (.cells ci.toArray 42)) 51 [.slice none 0 0,.slice none 0 0])
  rw [World.size_alloc,World.size_alloc] at this
  exact this
 have hcl:ci.length = 32:=by rw [← hci,au,hr2]
 have HX0:=ah hx0
 have HX1:=ah hx1
 have HX2:=ah hx2
 have HBW:=ah hbW
 have HBK:=ah (h.below hbW)
 have HW:=ah hW
 have HCI:=ah hci
 have HOK:=ah h.ok
 have HCR:=ah hcr
 have HR:=ah (dJ vt vl t l W HBK.out)
 have HN:=ah (fun x => wY r.1 x (by omega))
 have h2k:(prog.info? 51).map (·.size) = some ([vt,vl]:List Value).length:=bQ
 have h2r:(prog.info? 51).map (·.size) = some ([.slice none 0 0,.slice none 0 0]:List Value).length:=bQ
 have h32i:(prog.info? 42).map (·.size) = some ci.length:=by rw [hcl];exact bO
 have d0:=hx0.range
 clear h hbW hx0 hx1 hx2 hW hcr
 obtain ⟨nm,hnm⟩:∃ nm,r.1 = nm:=⟨_,rfl⟩
 have HNM:=ah hnm
 rw [hnm] at HN hr ⊢
 clear hnm hci
 go_enter func59,ntmps59
 go_upto_region 1 with fail
 rw [HW.out]
 go_wp2_with (refine wpList_load_mid rfl 51 _ rfl w.heap.size 0 rfl _ _ d0 underlying51 rfl h2k ?_)
 refine HR.out.mono ?_
 rintro e w1 ⟨rfl,hb1⟩
 have HB1:=bth HBW hb1
 replace HX0:=ah (HX0.out.below hb1)
 replace HX1:=ah (HX1.out.below hb1)
 replace HX2:=ah (HX2.out.below hb1)
 replace HBK:=ah (HBK.out.below hb1)
 clear hb1 HR HW d0
 have HIB:=ah bQ
 have HBAD:Hid (∀ (x:World),Below w1.heap.size w1 x → ∃ WE,x.setCells (w.heap.size + 1 + 1) 0 [.slice none 0 0,.slice none 0 0] = WE ∧ x.there (w.heap.size + 1 + 1) 0 2 ∧ BoxL WE (w.heap.size + 1 + 1) 51 [.slice none 0 0,.slice none 0 0] ∧ Below w.heap.size w WE):=ah fun x hx => by
  have h2:=HX2.out.below hx
  exact ⟨_,rfl,h2.there,h2.set rfl,below_setCells _ (by omega) _ _ _ (HB1.out.trans (hx.mono HB1.out.size))⟩
 have HONZ:Hid (∀ v ∈ ([.slice none 0 0,.slice none 0 0]:List Value),v.oneCell' = true):=ah (by intro v hv;simp at hv;rw [hv];rfl)
 have HANS:=ah (fun (h:(aR t l && aQ nm) = false) x hb => FT (t:=t) (l:=l) (r:=r) (w:=w) (w':=x) (by rw [HNM.out];exact h) hb)
 cases hbo:aR t l with
 | false =>
  rw [hbo] at HANS
  obtain ⟨WE,hWE,hth,hbe,hbl⟩:=HBAD.out w1 (Below.refl _ _)
  have HWE:=ah hWE
  have HBE:=ah hbl
  have hre:=hbe.range
  clear hWE hbl hbe HBAD HN hbo
  go_wp2_with (refine aj rfl 51 _ _ rfl (w.heap.size + 1 + 1) 0 [.slice none 0 0,.slice none 0 0] rfl rfl 2 rfl hth HIB.out HONZ.out ?_;rw [HWE.out])
  refine jv rfl (w.heap.size + 1 + 1) 0 rfl [.slice none 0 0,.slice none 0 0] _ hre underlying51 rfl h2r rfl _ _ rfl rfl ?_
  exact HANS.out rfl _ HBE.out
 | true =>
  rw [hbo] at HANS
  go_wp2_with fail
  refine (HN.out w1).mono ?_
  rintro e w2 ⟨rfl,hb2⟩
  cases hno:aQ nm with
  | false =>
   rw [hno] at HANS
   obtain ⟨WE,hWE,hth,hbe,hbl⟩:=HBAD.out w2 hb2
   have HWE:=ah hWE
   have HBE:=ah hbl
   have hre:=hbe.range
   clear hWE hbl hbe HBAD HN hbo hb2 hno
   go_wp2_with (refine aj rfl 51 _ _ rfl (w.heap.size + 1 + 1) 0 [.slice none 0 0,.slice none 0 0] rfl rfl 2 rfl hth HIB.out HONZ.out ?_;rw [HWE.out])
   refine jv rfl (w.heap.size + 1 + 1) 0 rfl [.slice none 0 0,.slice none 0 0] _ hre underlying51 rfl h2r rfl _ _ rfl rfl ?_
   exact HANS.out rfl _ HBE.out
  | true =>
   have HGOOD:Hid ((aR t l && aQ r.1) = true):=ah (by rw [HNM.out,hbo,hno];rfl)
   have HB2:=bth HB1 hb2
   replace HX0:=ah (HX0.out.below hb2)
   replace HX2:=ah (HX2.out.below hb2)
   replace HBK:=ah (HBK.out.below hb2)
   have hx1:=HX1.out.below hb2
   have hr1:=hx1.range
   clear hb2 HX1 HBAD HANS HN HB1 hbo hno hx1
   have HRB:Hid (∀ w,(Instr.build 93 #[(0,.string nm),(1,.agg ci.toArray)]).run prog w = .ok (.agg (rfC r).toArray) w):=ah fun w => by
    rw [← HCI.out,← HNM.out];exact yY r.1 r.2 hr2 w
   have HCL:=ah hcl
   have HRS:Hid (r.1.size ≤ 1000):=ah (by rw [HNM.out];exact hr)
   have HRK:Hid (r.1.size ≤ 1000000 ∧ r.2.length = 32):=ah ⟨by rw [HNM.out];omega,hr2⟩
   have HRL:Hid ((rfC r).length = 33):=ah (gJ hr2)
   have h33:(prog.info? 93).map (·.size) = some (rfC r).length:=by rw [HRL.out];exact gI
   have HRO:=ah (jH r)
   obtain ⟨zr,hzr,hzl⟩:=iF
   have HZR:=ah hzr
   obtain ⟨w3,hw3⟩:∃ x,(w2.alloc (.cells zr 93)).setCells w2.heap.size 0 (rfC r) = x:=⟨_,rfl⟩
   have hb3:Below w2.heap.size w2 w3:=by rw [← hw3];exact below_setCells _ (Nat.le_refl _) _ _ _ bal
   have hx3:BoxL w3 w2.heap.size 93 (rfC r):=by rw [← hw3];exact BoxL.set (cs:=zr.toList) (by have:=BoxL.new w2 93 zr.toList;simpa using this) (by rw [HRL.out];simpa using hzl.symm)
   have HTH:=ah (there_alloc (n:=33) w2 zr 93 hzl)
   have HW3:=ah hw3
   have HIR:=ah gI
   obtain ⟨rc,hrc⟩:∃ x,rfC r = x:=⟨_,rfl⟩
   have HRC:=ah hrc
   rw [hrc] at hx3 HRL h33 HRO HRB HW3
   clear hw3 hrc
   go_upto_region 3 with fail
   go_wp2_with (first
    | refine wpList_load_mid rfl 42 _ rfl (w.heap.size + 1) 0 rfl ci _ hr1 underlying42 rfl h32i ?_
    | refine eu rfl 93 _ _ rfl (.string nm) (.agg ci.toArray) (.agg rc.toArray) rfl rfl (HRB.out _) ?_
    | (refine aj rfl 93 _ _ rfl w2.heap.size 0 rc rfl rfl 33 HRL.out HTH.out HIR.out HRO.out ?_;rw [HW3.out]))
   simp only [Act.put]
   clear hr1 HRB HTH HW3 hzr
   replace HX0:=ah ((HX0.out.below hb3).range)
   replace HX2:=ah (HX2.out.below hb3)
   replace HBK:=ah (HBK.out.below hb3)
   replace HB2:=bth HB2 hb3
   replace HCR:=ah (HCR.out.gY HB2.out h5)
   have HS2:Hid (w.heap.size + 1 + 1 < w3.heap.size):=ah HX2.out.lt
   have HX3:=ah hx3
   clear hb3 hx3 hcl
   obtain ⟨n9,hn9⟩:∃ n,w2.heap.size = n:=⟨_,rfl⟩
   rw [hn9] at HX3
   simp only [hn9]
   clear hn9
   go_cut [10] from 23 to 32 (fun s10 wx => ∃ E v1 v2,s10 = .pointer (some ⟨E,0,none⟩) ∧ Hid (w3.heap.size ≤ E ∧ wx.rangeAt E 0 [v1,v2] ∧ BkFr w3 wx v1 v2 t (l ++ [r]) ∧ Below w3.heap.size w3 wx))
   case first =>
    have hS0:w3.drew.cell? ⟨w.heap.size,0,none⟩ = some vt ∧ w3.drew.cell? ⟨w.heap.size,1,none⟩ = some vl ∧ w3.drew.rangeAt n9 0 rc:=⟨HX0.out 0 _ rfl,HX0.out 1 _ rfl,HX3.out.range⟩
    refine wrL 11 (fun x => x.cell? ⟨w.heap.size,0,none⟩ = some vt ∧ x.cell? ⟨w.heap.size,1,none⟩ = some vl ∧ x.rangeAt n9 0 rc) ?_
    refine WL.tk 0 hS0 ?_
    refine WL.tk 1 hS0 ?_
    refine WL.tk 3 hS0 ?_
    refine WL.tk 4 hS0 ?_
    refine WL.tk 6 hS0 ?_ (hy:=(fun w' hSw => aK 93 _ (hSw.2.2) underlying93 rfl h33 _ rfl rfl))
    obtain ⟨wa,hwa⟩:∃ x,w3.drew = x:=⟨_,rfl⟩
    have HB:Hid (Below w3.heap.size w3 wa):=ah (by rw [← hwa];exact (Below.refl _ _).drew)
    simp only [hwa]
    have HS:Hid (∀ x,Below w3.heap.size w3 x → x.cell? ⟨w.heap.size,0,none⟩ = some vt ∧ x.cell? ⟨w.heap.size,1,none⟩ = some vl ∧ x.rangeAt n9 0 rc):=ah fun x hx => by
     have h1:=aF HX0.out hx (by have:=HS2.out;omega)
     exact ⟨h1 0 _ rfl,h1 1 _ rfl,(HX3.out.below hx).range⟩
    have HT32:Hid (∀ x ∈ t,x.2.length = 32):=ah fun x hx => (HOK.out x (List.mem_append.2 (.inl hx))).2
    have HL32:Hid (∀ x ∈ l,x.2.length = 32):=ah fun x hx => (HOK.out x (List.mem_append.2 (.inr hx))).2
    have HR32:Hid (∀ x ∈ [r],x.2.length = 32):=ah fun x hx => by simp at hx;rw [hx];exact hr2
    have HLR32:Hid (∀ x ∈ l ++ [r],x.2.length = 32):=ah fun x hx => by
     rcases List.mem_append.1 hx with h | h
     ·exact HL32.out x h
     exact HR32.out x h
    have HTN:Hid (t.length ≤ 1000000):=ah (by omega)
    have HLN:Hid (l.length ≤ 1000000):=ah (by omega)
    have HLN7:Hid (l.length + [r].length ≤ 10000000):=ah (by simp;omega)
    have HSZ:Hid (∀ w,(sizeOf 93).run prog w = .ok rc.length w):=ah fun w => by rw [HRL.out];kernel_rfl
    clear hS0 hwa
    refine WL.three (i:=2) (j:=7) (k:=10) rfl rfl rfl (by decide) (by decide) (by decide) (by decide +kernel) ?_ ?_ ?_
    focus
     go_wp2_with fail
     refine (aT vt t _ (HBK.out.below HB.out).tab HT32.out HTN.out).mono ?_
     rintro e x3 ⟨v1,rfl,ho,hbn⟩
     have H1:=ah (Cl1.mk2 rfl ho HB.out.size HT32.out)
     obtain ⟨o1,c1,rfl⟩:=aG ho
     replace HB:=bth HB hbn
     clear ho hbn
     go_wp2_with fail
     refine ⟨HS.out _ HB.out,?_⟩
     refine WL.three (i:=5) (j:=7) (k:=10) rfl rfl rfl (by decide) (by decide) (by decide) (by decide +kernel) ?_ ?_ ?_
     focus
      have HLT:=ah H1.out.lt
      go_wp2_with fail
      refine (aT vl l _ (HBK.out.below HB.out).log HL32.out HLN.out).mono ?_
      rintro e x4 ⟨v2,rfl,ho,hbn⟩
      replace H1:=ah (H1.out.below hbn)
      have H2:Hid (Cl2 w3 x4 v2 l (.slice o1 t.length c1)):=ah (Cl2.of ho hbn HB.out.size HLT.out)
      obtain ⟨o2,c2,rfl⟩:=aG ho
      replace HB:=bth HB hbn
      clear ho hbn HLT
      go_wp2_with fail
      refine ⟨HS.out _ HB.out,?_⟩
      refine WL.tw 7 10 ?_ ?_
      focus
       have hbn:Below (World.heap x4).size x4 (x4.alloc (.cells rc.toArray 93)):=bal
       have H7:Hid (bK (x4.alloc (.cells rc.toArray 93)) (.slice (some ⟨(World.heap x4).size,0,none⟩) 1 1) [r]):=ah (by rw [← HRC.out];exact jc r x4)
       replace H1:=ah (H1.out.below hbn)
       replace H2:=ah (H2.out.below hbn)
       replace HB:=bth HB hbn
       go_wp2_with (refine av rfl _ 49 93 rfl rc zr rfl underlying49 HSZ.out HZR.out (by rw [HRL.out];omega) (by rw [HRL.out];omega) ?_)
       refine ⟨HS.out _ HB.out,?_⟩
       obtain ⟨B7,hE⟩:∃ E,(World.heap x4).size = E:=⟨_,rfl⟩
       obtain ⟨x5,hW⟩:∃ x,x4.alloc (.cells rc.toArray 93) = x:=⟨_,rfl⟩
       rw [hW] at hbn HB H7 H1 H2
       rw [hE] at H7
       simp only [hE,hW]
       clear hE hW hbn
       refine WL.tw 8 10 ?_ ?_
       focus
        obtain ⟨bs,ho2,hl,hlo,hlt⟩:=H2.out
        go_wp2_with (refine aH rfl _ _ rfl bs _ l.length l rfl ho2 (some ⟨B7,0,none⟩) 1 [r] rfl H7.out HR32.out HLN7.out hl ?_)
        intro v8 x6 ho hg
        rw [show l.length + [r].length = l.length + 1 from rfl] at ho
        have H8:=ah (Cl1.mk2 (w1:=w3) (by simp) ho hlo HLR32.out)
        replace H1:=ah (H1.out.old ho2 hlt hg)
        replace HB:=ah (HB.out.grown hg HB.out.size (fun k hk => Nat.le_trans hlo (ho2.lt k hk).1))
        obtain ⟨o3,c3,rfl⟩:=aG ho
        clear ho hg hl hlo hlt ho2 H2 H7
        go_wp2_with fail
        refine ⟨HS.out _ HB.out,?_⟩
        refine WL.take (i:=9) (v:=.agg #[.slice o1 t.length c1,.slice o3 (l.length + 1) c3]) rfl (by kernel_rfl) (by decide) (by decide +kernel) (by decide +kernel) (fun _ _ _ h => h) rfl (by intro w' _;go_simp) (HS.out _ HB.out) ?_
        simp only [Act.put,nz]
        refine WL.on 10 ?_
        have hbn:Below (World.heap x6).size x6 (x6.alloc (.cells #[.slice none 0 0,.slice none 0 0] 51)):=bal
        have HE:Hid (NewB w3 (x6.alloc (.cells #[.slice none 0 0,.slice none 0 0] 51)) (World.heap x6).size):=ah (NewB.of HB.out)
        replace H1:=ah (H1.out.below hbn)
        replace H8:=ah (H8.out.below hbn)
        replace HB:=bth HB hbn
        go_wp2_with fail
        refine ⟨HS.out _ HB.out,?_⟩
        obtain ⟨E,hE⟩:∃ E,(World.heap x6).size = E:=⟨_,rfl⟩
        obtain ⟨x7,hW⟩:∃ x,x6.alloc (.cells #[.slice none 0 0,.slice none 0 0] 51) = x:=⟨_,rfl⟩
        rw [hW] at hbn HB HE H1 H8
        rw [hE] at HE
        simp only [hE,hW]
        clear hE hW hbn
       rotate_left
       focus
        have hbn:Below (World.heap x5).size x5 (x5.alloc (.cells #[.slice none 0 0,.slice none 0 0] 51)):=bal
        have HE:Hid (NewB w3 (x5.alloc (.cells #[.slice none 0 0,.slice none 0 0] 51)) (World.heap x5).size):=ah (NewB.of HB.out)
        replace H1:=ah (H1.out.below hbn)
        replace H2:=ah (H2.out.below hbn)
        replace H7:=ah (H7.out.below hbn)
        replace HB:=bth HB hbn
        go_wp2_with fail
        refine ⟨HS.out _ HB.out,?_⟩
        obtain ⟨E,hE⟩:∃ E,(World.heap x5).size = E:=⟨_,rfl⟩
        obtain ⟨x6,hW⟩:∃ x,x5.alloc (.cells #[.slice none 0 0,.slice none 0 0] 51) = x:=⟨_,rfl⟩
        rw [hW] at hbn HB HE H1 H2 H7
        rw [hE] at HE
        simp only [hE,hW]
        clear hE hW hbn
        refine WL.on 8 ?_
        obtain ⟨bs,ho2,hl,hlo,hlt⟩:=H2.out
        go_wp2_with (refine aH rfl _ _ rfl bs _ l.length l rfl ho2 (some ⟨B7,0,none⟩) 1 [r] rfl H7.out HR32.out HLN7.out hl ?_)
        intro v8 x7 ho hg
        rw [show l.length + [r].length = l.length + 1 from rfl] at ho
        have H8:=ah (Cl1.mk2 (w1:=w3) (by simp) ho hlo HLR32.out)
        replace H1:=ah (H1.out.old ho2 hlt hg)
        replace HE:=ah (HE.out.kept ho2 hg)
        replace HB:=ah (HB.out.grown hg HB.out.size (fun k hk => Nat.le_trans hlo (ho2.lt k hk).1))
        obtain ⟨o3,c3,rfl⟩:=aG ho
        clear ho hg hl hlo hlt ho2 H2 H7
        go_wp2_with fail
        refine ⟨HS.out _ HB.out,?_⟩
        refine WL.take (i:=9) (v:=.agg #[.slice o1 t.length c1,.slice o3 (l.length + 1) c3]) rfl (by kernel_rfl) (by decide) (by decide +kernel) (by decide +kernel) (fun _ _ _ h => h) rfl (by intro w' _;go_simp) (HS.out _ HB.out) ?_
        simp only [Act.put,nz]
      rotate_left 2
      focus
       have hbn:Below (World.heap x4).size x4 (x4.alloc (.cells #[.slice none 0 0,.slice none 0 0] 51)):=bal
       have HE:Hid (NewB w3 (x4.alloc (.cells #[.slice none 0 0,.slice none 0 0] 51)) (World.heap x4).size):=ah (NewB.of HB.out)
       replace H1:=ah (H1.out.below hbn)
       replace H2:=ah (H2.out.below hbn)
       replace HB:=bth HB hbn
       go_wp2_with fail
       refine ⟨HS.out _ HB.out,?_⟩
       obtain ⟨E,hE⟩:∃ E,(World.heap x4).size = E:=⟨_,rfl⟩
       obtain ⟨x5,hW⟩:∃ x,x4.alloc (.cells #[.slice none 0 0,.slice none 0 0] 51) = x:=⟨_,rfl⟩
       rw [hW] at hbn HB HE H1 H2
       rw [hE] at HE
       simp only [hE,hW]
       clear hE hW hbn
       refine WL.on 7 ?_
       have hbn:Below (World.heap x5).size x5 (x5.alloc (.cells rc.toArray 93)):=bal
       have H7:Hid (bK (x5.alloc (.cells rc.toArray 93)) (.slice (some ⟨(World.heap x5).size,0,none⟩) 1 1) [r]):=ah (by rw [← HRC.out];exact jc r x5)
       replace H1:=ah (H1.out.below hbn)
       replace H2:=ah (H2.out.below hbn)
       replace HE:=ah (HE.out.below hbn)
       replace HB:=bth HB hbn
       go_wp2_with (refine av rfl _ 49 93 rfl rc zr rfl underlying49 HSZ.out HZR.out (by rw [HRL.out];omega) (by rw [HRL.out];omega) ?_)
       refine ⟨HS.out _ HB.out,?_⟩
       obtain ⟨B7,hE⟩:∃ E,(World.heap x5).size = E:=⟨_,rfl⟩
       obtain ⟨x6,hW⟩:∃ x,x5.alloc (.cells rc.toArray 93) = x:=⟨_,rfl⟩
       rw [hW] at hbn HB H7 H1 H2 HE
       rw [hE] at H7
       simp only [hE,hW]
       clear hE hW hbn
       refine WL.on 8 ?_
       obtain ⟨bs,ho2,hl,hlo,hlt⟩:=H2.out
       go_wp2_with (refine aH rfl _ _ rfl bs _ l.length l rfl ho2 (some ⟨B7,0,none⟩) 1 [r] rfl H7.out HR32.out HLN7.out hl ?_)
       intro v8 x7 ho hg
       rw [show l.length + [r].length = l.length + 1 from rfl] at ho
       have H8:=ah (Cl1.mk2 (w1:=w3) (by simp) ho hlo HLR32.out)
       replace H1:=ah (H1.out.old ho2 hlt hg)
       replace HE:=ah (HE.out.kept ho2 hg)
       replace HB:=ah (HB.out.grown hg HB.out.size (fun k hk => Nat.le_trans hlo (ho2.lt k hk).1))
       obtain ⟨o3,c3,rfl⟩:=aG ho
       clear ho hg hl hlo hlt ho2 H2 H7
       go_wp2_with fail
       refine ⟨HS.out _ HB.out,?_⟩
       refine WL.take (i:=9) (v:=.agg #[.slice o1 t.length c1,.slice o3 (l.length + 1) c3]) rfl (by kernel_rfl) (by decide) (by decide +kernel) (by decide +kernel) (fun _ _ _ h => h) rfl (by intro w' _;go_simp) (HS.out _ HB.out) ?_
       simp only [Act.put,nz]
     rotate_left 3
     focus
      have hbn:Below (World.heap x3).size x3 (x3.alloc (.cells rc.toArray 93)):=bal
      have H7:Hid (bK (x3.alloc (.cells rc.toArray 93)) (.slice (some ⟨(World.heap x3).size,0,none⟩) 1 1) [r]):=ah (by rw [← HRC.out];exact jc r x3)
      replace H1:=ah (H1.out.below hbn)
      replace HB:=bth HB hbn
      go_wp2_with (refine av rfl _ 49 93 rfl rc zr rfl underlying49 HSZ.out HZR.out (by rw [HRL.out];omega) (by rw [HRL.out];omega) ?_)
      refine ⟨HS.out _ HB.out,?_⟩
      obtain ⟨B7,hE⟩:∃ E,(World.heap x3).size = E:=⟨_,rfl⟩
      obtain ⟨x4,hW⟩:∃ x,x3.alloc (.cells rc.toArray 93) = x:=⟨_,rfl⟩
      rw [hW] at hbn HB H7 H1
      rw [hE] at H7
      simp only [hE,hW]
      clear hE hW hbn
      refine WL.tw 5 10 ?_ ?_
      focus
       have HLT:=ah H1.out.lt
       go_wp2_with fail
       refine (aT vl l _ (HBK.out.below HB.out).log HL32.out HLN.out).mono ?_
       rintro e x5 ⟨v2,rfl,ho,hbn⟩
       replace H1:=ah (H1.out.below hbn)
       replace H7:=ah (H7.out.below hbn)
       have H2:Hid (Cl2 w3 x5 v2 l (.slice o1 t.length c1)):=ah (Cl2.of ho hbn HB.out.size HLT.out)
       obtain ⟨o2,c2,rfl⟩:=aG ho
       replace HB:=bth HB hbn
       clear ho hbn HLT
       go_wp2_with fail
       refine ⟨HS.out _ HB.out,?_⟩
       refine WL.tw 8 10 ?_ ?_
       focus
        obtain ⟨bs,ho2,hl,hlo,hlt⟩:=H2.out
        go_wp2_with (refine aH rfl _ _ rfl bs _ l.length l rfl ho2 (some ⟨B7,0,none⟩) 1 [r] rfl H7.out HR32.out HLN7.out hl ?_)
        intro v8 x6 ho hg
        rw [show l.length + [r].length = l.length + 1 from rfl] at ho
        have H8:=ah (Cl1.mk2 (w1:=w3) (by simp) ho hlo HLR32.out)
        replace H1:=ah (H1.out.old ho2 hlt hg)
        replace HB:=ah (HB.out.grown hg HB.out.size (fun k hk => Nat.le_trans hlo (ho2.lt k hk).1))
        obtain ⟨o3,c3,rfl⟩:=aG ho
        clear ho hg hl hlo hlt ho2 H2 H7
        go_wp2_with fail
        refine ⟨HS.out _ HB.out,?_⟩
        refine WL.take (i:=9) (v:=.agg #[.slice o1 t.length c1,.slice o3 (l.length + 1) c3]) rfl (by kernel_rfl) (by decide) (by decide +kernel) (by decide +kernel) (fun _ _ _ h => h) rfl (by intro w' _;go_simp) (HS.out _ HB.out) ?_
        simp only [Act.put,nz]
        refine WL.on 10 ?_
        have hbn:Below (World.heap x6).size x6 (x6.alloc (.cells #[.slice none 0 0,.slice none 0 0] 51)):=bal
        have HE:Hid (NewB w3 (x6.alloc (.cells #[.slice none 0 0,.slice none 0 0] 51)) (World.heap x6).size):=ah (NewB.of HB.out)
        replace H1:=ah (H1.out.below hbn)
        replace H8:=ah (H8.out.below hbn)
        replace HB:=bth HB hbn
        go_wp2_with fail
        refine ⟨HS.out _ HB.out,?_⟩
        obtain ⟨E,hE⟩:∃ E,(World.heap x6).size = E:=⟨_,rfl⟩
        obtain ⟨x7,hW⟩:∃ x,x6.alloc (.cells #[.slice none 0 0,.slice none 0 0] 51) = x:=⟨_,rfl⟩
        rw [hW] at hbn HB HE H1 H8
        rw [hE] at HE
        simp only [hE,hW]
        clear hE hW hbn
       rotate_left
       focus
        have hbn:Below (World.heap x5).size x5 (x5.alloc (.cells #[.slice none 0 0,.slice none 0 0] 51)):=bal
        have HE:Hid (NewB w3 (x5.alloc (.cells #[.slice none 0 0,.slice none 0 0] 51)) (World.heap x5).size):=ah (NewB.of HB.out)
        replace H1:=ah (H1.out.below hbn)
        replace H2:=ah (H2.out.below hbn)
        replace H7:=ah (H7.out.below hbn)
        replace HB:=bth HB hbn
        go_wp2_with fail
        refine ⟨HS.out _ HB.out,?_⟩
        obtain ⟨E,hE⟩:∃ E,(World.heap x5).size = E:=⟨_,rfl⟩
        obtain ⟨x6,hW⟩:∃ x,x5.alloc (.cells #[.slice none 0 0,.slice none 0 0] 51) = x:=⟨_,rfl⟩
        rw [hW] at hbn HB HE H1 H2 H7
        rw [hE] at HE
        simp only [hE,hW]
        clear hE hW hbn
        refine WL.on 8 ?_
        obtain ⟨bs,ho2,hl,hlo,hlt⟩:=H2.out
        go_wp2_with (refine aH rfl _ _ rfl bs _ l.length l rfl ho2 (some ⟨B7,0,none⟩) 1 [r] rfl H7.out HR32.out HLN7.out hl ?_)
        intro v8 x7 ho hg
        rw [show l.length + [r].length = l.length + 1 from rfl] at ho
        have H8:=ah (Cl1.mk2 (w1:=w3) (by simp) ho hlo HLR32.out)
        replace H1:=ah (H1.out.old ho2 hlt hg)
        replace HE:=ah (HE.out.kept ho2 hg)
        replace HB:=ah (HB.out.grown hg HB.out.size (fun k hk => Nat.le_trans hlo (ho2.lt k hk).1))
        obtain ⟨o3,c3,rfl⟩:=aG ho
        clear ho hg hl hlo hlt ho2 H2 H7
        go_wp2_with fail
        refine ⟨HS.out _ HB.out,?_⟩
        refine WL.take (i:=9) (v:=.agg #[.slice o1 t.length c1,.slice o3 (l.length + 1) c3]) rfl (by kernel_rfl) (by decide) (by decide +kernel) (by decide +kernel) (fun _ _ _ h => h) rfl (by intro w' _;go_simp) (HS.out _ HB.out) ?_
        simp only [Act.put,nz]
      rotate_left 2
      focus
       have hbn:Below (World.heap x4).size x4 (x4.alloc (.cells #[.slice none 0 0,.slice none 0 0] 51)):=bal
       have HE:Hid (NewB w3 (x4.alloc (.cells #[.slice none 0 0,.slice none 0 0] 51)) (World.heap x4).size):=ah (NewB.of HB.out)
       replace H1:=ah (H1.out.below hbn)
       replace H7:=ah (H7.out.below hbn)
       replace HB:=bth HB hbn
       go_wp2_with fail
       refine ⟨HS.out _ HB.out,?_⟩
       obtain ⟨E,hE⟩:∃ E,(World.heap x4).size = E:=⟨_,rfl⟩
       obtain ⟨x5,hW⟩:∃ x,x4.alloc (.cells #[.slice none 0 0,.slice none 0 0] 51) = x:=⟨_,rfl⟩
       rw [hW] at hbn HB HE H1 H7
       rw [hE] at HE
       simp only [hE,hW]
       clear hE hW hbn
       refine WL.on 5 ?_
       have HLT:=ah H1.out.lt
       go_wp2_with fail
       refine (aT vl l _ (HBK.out.below HB.out).log HL32.out HLN.out).mono ?_
       rintro e x6 ⟨v2,rfl,ho,hbn⟩
       replace H1:=ah (H1.out.below hbn)
       replace H7:=ah (H7.out.below hbn)
       replace HE:=ah (HE.out.below hbn)
       have H2:Hid (Cl2 w3 x6 v2 l (.slice o1 t.length c1)):=ah (Cl2.of ho hbn HB.out.size HLT.out)
       obtain ⟨o2,c2,rfl⟩:=aG ho
       replace HB:=bth HB hbn
       clear ho hbn HLT
       go_wp2_with fail
       refine ⟨HS.out _ HB.out,?_⟩
       refine WL.on 8 ?_
       obtain ⟨bs,ho2,hl,hlo,hlt⟩:=H2.out
       go_wp2_with (refine aH rfl _ _ rfl bs _ l.length l rfl ho2 (some ⟨B7,0,none⟩) 1 [r] rfl H7.out HR32.out HLN7.out hl ?_)
       intro v8 x7 ho hg
       rw [show l.length + [r].length = l.length + 1 from rfl] at ho
       have H8:=ah (Cl1.mk2 (w1:=w3) (by simp) ho hlo HLR32.out)
       replace H1:=ah (H1.out.old ho2 hlt hg)
       replace HE:=ah (HE.out.kept ho2 hg)
       replace HB:=ah (HB.out.grown hg HB.out.size (fun k hk => Nat.le_trans hlo (ho2.lt k hk).1))
       obtain ⟨o3,c3,rfl⟩:=aG ho
       clear ho hg hl hlo hlt ho2 H2 H7
       go_wp2_with fail
       refine ⟨HS.out _ HB.out,?_⟩
       refine WL.take (i:=9) (v:=.agg #[.slice o1 t.length c1,.slice o3 (l.length + 1) c3]) rfl (by kernel_rfl) (by decide) (by decide +kernel) (by decide +kernel) (fun _ _ _ h => h) rfl (by intro w' _;go_simp) (HS.out _ HB.out) ?_
       simp only [Act.put,nz]
     rotate_left 3
     focus
      have hbn:Below (World.heap x3).size x3 (x3.alloc (.cells #[.slice none 0 0,.slice none 0 0] 51)):=bal
      have HE:Hid (NewB w3 (x3.alloc (.cells #[.slice none 0 0,.slice none 0 0] 51)) (World.heap x3).size):=ah (NewB.of HB.out)
      replace H1:=ah (H1.out.below hbn)
      replace HB:=bth HB hbn
      go_wp2_with fail
      refine ⟨HS.out _ HB.out,?_⟩
      obtain ⟨E,hE⟩:∃ E,(World.heap x3).size = E:=⟨_,rfl⟩
      obtain ⟨x4,hW⟩:∃ x,x3.alloc (.cells #[.slice none 0 0,.slice none 0 0] 51) = x:=⟨_,rfl⟩
      rw [hW] at hbn HB HE H1
      rw [hE] at HE
      simp only [hE,hW]
      clear hE hW hbn
      refine WL.tw 5 7 ?_ ?_
      focus
       have HLT:=ah H1.out.lt
       go_wp2_with fail
       refine (aT vl l _ (HBK.out.below HB.out).log HL32.out HLN.out).mono ?_
       rintro e x5 ⟨v2,rfl,ho,hbn⟩
       replace H1:=ah (H1.out.below hbn)
       replace HE:=ah (HE.out.below hbn)
       have H2:Hid (Cl2 w3 x5 v2 l (.slice o1 t.length c1)):=ah (Cl2.of ho hbn HB.out.size HLT.out)
       obtain ⟨o2,c2,rfl⟩:=aG ho
       replace HB:=bth HB hbn
       clear ho hbn HLT
       go_wp2_with fail
       refine ⟨HS.out _ HB.out,?_⟩
       refine WL.on 7 ?_
       have hbn:Below (World.heap x5).size x5 (x5.alloc (.cells rc.toArray 93)):=bal
       have H7:Hid (bK (x5.alloc (.cells rc.toArray 93)) (.slice (some ⟨(World.heap x5).size,0,none⟩) 1 1) [r]):=ah (by rw [← HRC.out];exact jc r x5)
       replace H1:=ah (H1.out.below hbn)
       replace H2:=ah (H2.out.below hbn)
       replace HE:=ah (HE.out.below hbn)
       replace HB:=bth HB hbn
       go_wp2_with (refine av rfl _ 49 93 rfl rc zr rfl underlying49 HSZ.out HZR.out (by rw [HRL.out];omega) (by rw [HRL.out];omega) ?_)
       refine ⟨HS.out _ HB.out,?_⟩
       obtain ⟨B7,hE⟩:∃ E,(World.heap x5).size = E:=⟨_,rfl⟩
       obtain ⟨x6,hW⟩:∃ x,x5.alloc (.cells rc.toArray 93) = x:=⟨_,rfl⟩
       rw [hW] at hbn HB H7 H1 H2 HE
       rw [hE] at H7
       simp only [hE,hW]
       clear hE hW hbn
       refine WL.on 8 ?_
       obtain ⟨bs,ho2,hl,hlo,hlt⟩:=H2.out
       go_wp2_with (refine aH rfl _ _ rfl bs _ l.length l rfl ho2 (some ⟨B7,0,none⟩) 1 [r] rfl H7.out HR32.out HLN7.out hl ?_)
       intro v8 x7 ho hg
       rw [show l.length + [r].length = l.length + 1 from rfl] at ho
       have H8:=ah (Cl1.mk2 (w1:=w3) (by simp) ho hlo HLR32.out)
       replace H1:=ah (H1.out.old ho2 hlt hg)
       replace HE:=ah (HE.out.kept ho2 hg)
       replace HB:=ah (HB.out.grown hg HB.out.size (fun k hk => Nat.le_trans hlo (ho2.lt k hk).1))
       obtain ⟨o3,c3,rfl⟩:=aG ho
       clear ho hg hl hlo hlt ho2 H2 H7
       go_wp2_with fail
       refine ⟨HS.out _ HB.out,?_⟩
       refine WL.take (i:=9) (v:=.agg #[.slice o1 t.length c1,.slice o3 (l.length + 1) c3]) rfl (by kernel_rfl) (by decide) (by decide +kernel) (by decide +kernel) (fun _ _ _ h => h) rfl (by intro w' _;go_simp) (HS.out _ HB.out) ?_
       simp only [Act.put,nz]
      rotate_left
      focus
       have hbn:Below (World.heap x4).size x4 (x4.alloc (.cells rc.toArray 93)):=bal
       have H7:Hid (bK (x4.alloc (.cells rc.toArray 93)) (.slice (some ⟨(World.heap x4).size,0,none⟩) 1 1) [r]):=ah (by rw [← HRC.out];exact jc r x4)
       replace H1:=ah (H1.out.below hbn)
       replace HE:=ah (HE.out.below hbn)
       replace HB:=bth HB hbn
       go_wp2_with (refine av rfl _ 49 93 rfl rc zr rfl underlying49 HSZ.out HZR.out (by rw [HRL.out];omega) (by rw [HRL.out];omega) ?_)
       refine ⟨HS.out _ HB.out,?_⟩
       obtain ⟨B7,hE⟩:∃ E,(World.heap x4).size = E:=⟨_,rfl⟩
       obtain ⟨x5,hW⟩:∃ x,x4.alloc (.cells rc.toArray 93) = x:=⟨_,rfl⟩
       rw [hW] at hbn HB H7 H1 HE
       rw [hE] at H7
       simp only [hE,hW]
       clear hE hW hbn
       refine WL.on 5 ?_
       have HLT:=ah H1.out.lt
       go_wp2_with fail
       refine (aT vl l _ (HBK.out.below HB.out).log HL32.out HLN.out).mono ?_
       rintro e x6 ⟨v2,rfl,ho,hbn⟩
       replace H1:=ah (H1.out.below hbn)
       replace H7:=ah (H7.out.below hbn)
       replace HE:=ah (HE.out.below hbn)
       have H2:Hid (Cl2 w3 x6 v2 l (.slice o1 t.length c1)):=ah (Cl2.of ho hbn HB.out.size HLT.out)
       obtain ⟨o2,c2,rfl⟩:=aG ho
       replace HB:=bth HB hbn
       clear ho hbn HLT
       go_wp2_with fail
       refine ⟨HS.out _ HB.out,?_⟩
       refine WL.on 8 ?_
       obtain ⟨bs,ho2,hl,hlo,hlt⟩:=H2.out
       go_wp2_with (refine aH rfl _ _ rfl bs _ l.length l rfl ho2 (some ⟨B7,0,none⟩) 1 [r] rfl H7.out HR32.out HLN7.out hl ?_)
       intro v8 x7 ho hg
       rw [show l.length + [r].length = l.length + 1 from rfl] at ho
       have H8:=ah (Cl1.mk2 (w1:=w3) (by simp) ho hlo HLR32.out)
       replace H1:=ah (H1.out.old ho2 hlt hg)
       replace HE:=ah (HE.out.kept ho2 hg)
       replace HB:=ah (HB.out.grown hg HB.out.size (fun k hk => Nat.le_trans hlo (ho2.lt k hk).1))
       obtain ⟨o3,c3,rfl⟩:=aG ho
       clear ho hg hl hlo hlt ho2 H2 H7
       go_wp2_with fail
       refine ⟨HS.out _ HB.out,?_⟩
       refine WL.take (i:=9) (v:=.agg #[.slice o1 t.length c1,.slice o3 (l.length + 1) c3]) rfl (by kernel_rfl) (by decide) (by decide +kernel) (by decide +kernel) (fun _ _ _ h => h) rfl (by intro w' _;go_simp) (HS.out _ HB.out) ?_
       simp only [Act.put,nz]
    rotate_left 8
    focus
     have hbn:Below (World.heap wa).size wa (wa.alloc (.cells rc.toArray 93)):=bal
     have H7:Hid (bK (wa.alloc (.cells rc.toArray 93)) (.slice (some ⟨(World.heap wa).size,0,none⟩) 1 1) [r]):=ah (by rw [← HRC.out];exact jc r wa)
     replace HB:=bth HB hbn
     go_wp2_with (refine av rfl _ 49 93 rfl rc zr rfl underlying49 HSZ.out HZR.out (by rw [HRL.out];omega) (by rw [HRL.out];omega) ?_)
     refine ⟨HS.out _ HB.out,?_⟩
     obtain ⟨B7,hE⟩:∃ E,(World.heap wa).size = E:=⟨_,rfl⟩
     obtain ⟨x3,hW⟩:∃ x,wa.alloc (.cells rc.toArray 93) = x:=⟨_,rfl⟩
     rw [hW] at hbn HB H7
     rw [hE] at H7
     simp only [hE,hW]
     clear hE hW hbn
     refine WL.tw 2 10 ?_ ?_
     focus
      go_wp2_with fail
      refine (aT vt t _ (HBK.out.below HB.out).tab HT32.out HTN.out).mono ?_
      rintro e x4 ⟨v1,rfl,ho,hbn⟩
      have H1:=ah (Cl1.mk2 rfl ho HB.out.size HT32.out)
      obtain ⟨o1,c1,rfl⟩:=aG ho
      replace H7:=ah (H7.out.below hbn)
      replace HB:=bth HB hbn
      clear ho hbn
      go_wp2_with fail
      refine ⟨HS.out _ HB.out,?_⟩
      refine WL.tw 5 10 ?_ ?_
      focus
       have HLT:=ah H1.out.lt
       go_wp2_with fail
       refine (aT vl l _ (HBK.out.below HB.out).log HL32.out HLN.out).mono ?_
       rintro e x5 ⟨v2,rfl,ho,hbn⟩
       replace H1:=ah (H1.out.below hbn)
       replace H7:=ah (H7.out.below hbn)
       have H2:Hid (Cl2 w3 x5 v2 l (.slice o1 t.length c1)):=ah (Cl2.of ho hbn HB.out.size HLT.out)
       obtain ⟨o2,c2,rfl⟩:=aG ho
       replace HB:=bth HB hbn
       clear ho hbn HLT
       go_wp2_with fail
       refine ⟨HS.out _ HB.out,?_⟩
       refine WL.tw 8 10 ?_ ?_
       focus
        obtain ⟨bs,ho2,hl,hlo,hlt⟩:=H2.out
        go_wp2_with (refine aH rfl _ _ rfl bs _ l.length l rfl ho2 (some ⟨B7,0,none⟩) 1 [r] rfl H7.out HR32.out HLN7.out hl ?_)
        intro v8 x6 ho hg
        rw [show l.length + [r].length = l.length + 1 from rfl] at ho
        have H8:=ah (Cl1.mk2 (w1:=w3) (by simp) ho hlo HLR32.out)
        replace H1:=ah (H1.out.old ho2 hlt hg)
        replace HB:=ah (HB.out.grown hg HB.out.size (fun k hk => Nat.le_trans hlo (ho2.lt k hk).1))
        obtain ⟨o3,c3,rfl⟩:=aG ho
        clear ho hg hl hlo hlt ho2 H2 H7
        go_wp2_with fail
        refine ⟨HS.out _ HB.out,?_⟩
        refine WL.take (i:=9) (v:=.agg #[.slice o1 t.length c1,.slice o3 (l.length + 1) c3]) rfl (by kernel_rfl) (by decide) (by decide +kernel) (by decide +kernel) (fun _ _ _ h => h) rfl (by intro w' _;go_simp) (HS.out _ HB.out) ?_
        simp only [Act.put,nz]
        refine WL.on 10 ?_
        have hbn:Below (World.heap x6).size x6 (x6.alloc (.cells #[.slice none 0 0,.slice none 0 0] 51)):=bal
        have HE:Hid (NewB w3 (x6.alloc (.cells #[.slice none 0 0,.slice none 0 0] 51)) (World.heap x6).size):=ah (NewB.of HB.out)
        replace H1:=ah (H1.out.below hbn)
        replace H8:=ah (H8.out.below hbn)
        replace HB:=bth HB hbn
        go_wp2_with fail
        refine ⟨HS.out _ HB.out,?_⟩
        obtain ⟨E,hE⟩:∃ E,(World.heap x6).size = E:=⟨_,rfl⟩
        obtain ⟨x7,hW⟩:∃ x,x6.alloc (.cells #[.slice none 0 0,.slice none 0 0] 51) = x:=⟨_,rfl⟩
        rw [hW] at hbn HB HE H1 H8
        rw [hE] at HE
        simp only [hE,hW]
        clear hE hW hbn
       rotate_left
       focus
        have hbn:Below (World.heap x5).size x5 (x5.alloc (.cells #[.slice none 0 0,.slice none 0 0] 51)):=bal
        have HE:Hid (NewB w3 (x5.alloc (.cells #[.slice none 0 0,.slice none 0 0] 51)) (World.heap x5).size):=ah (NewB.of HB.out)
        replace H1:=ah (H1.out.below hbn)
        replace H2:=ah (H2.out.below hbn)
        replace H7:=ah (H7.out.below hbn)
        replace HB:=bth HB hbn
        go_wp2_with fail
        refine ⟨HS.out _ HB.out,?_⟩
        obtain ⟨E,hE⟩:∃ E,(World.heap x5).size = E:=⟨_,rfl⟩
        obtain ⟨x6,hW⟩:∃ x,x5.alloc (.cells #[.slice none 0 0,.slice none 0 0] 51) = x:=⟨_,rfl⟩
        rw [hW] at hbn HB HE H1 H2 H7
        rw [hE] at HE
        simp only [hE,hW]
        clear hE hW hbn
        refine WL.on 8 ?_
        obtain ⟨bs,ho2,hl,hlo,hlt⟩:=H2.out
        go_wp2_with (refine aH rfl _ _ rfl bs _ l.length l rfl ho2 (some ⟨B7,0,none⟩) 1 [r] rfl H7.out HR32.out HLN7.out hl ?_)
        intro v8 x7 ho hg
        rw [show l.length + [r].length = l.length + 1 from rfl] at ho
        have H8:=ah (Cl1.mk2 (w1:=w3) (by simp) ho hlo HLR32.out)
        replace H1:=ah (H1.out.old ho2 hlt hg)
        replace HE:=ah (HE.out.kept ho2 hg)
        replace HB:=ah (HB.out.grown hg HB.out.size (fun k hk => Nat.le_trans hlo (ho2.lt k hk).1))
        obtain ⟨o3,c3,rfl⟩:=aG ho
        clear ho hg hl hlo hlt ho2 H2 H7
        go_wp2_with fail
        refine ⟨HS.out _ HB.out,?_⟩
        refine WL.take (i:=9) (v:=.agg #[.slice o1 t.length c1,.slice o3 (l.length + 1) c3]) rfl (by kernel_rfl) (by decide) (by decide +kernel) (by decide +kernel) (fun _ _ _ h => h) rfl (by intro w' _;go_simp) (HS.out _ HB.out) ?_
        simp only [Act.put,nz]
      rotate_left 2
      focus
       have hbn:Below (World.heap x4).size x4 (x4.alloc (.cells #[.slice none 0 0,.slice none 0 0] 51)):=bal
       have HE:Hid (NewB w3 (x4.alloc (.cells #[.slice none 0 0,.slice none 0 0] 51)) (World.heap x4).size):=ah (NewB.of HB.out)
       replace H1:=ah (H1.out.below hbn)
       replace H7:=ah (H7.out.below hbn)
       replace HB:=bth HB hbn
       go_wp2_with fail
       refine ⟨HS.out _ HB.out,?_⟩
       obtain ⟨E,hE⟩:∃ E,(World.heap x4).size = E:=⟨_,rfl⟩
       obtain ⟨x5,hW⟩:∃ x,x4.alloc (.cells #[.slice none 0 0,.slice none 0 0] 51) = x:=⟨_,rfl⟩
       rw [hW] at hbn HB HE H1 H7
       rw [hE] at HE
       simp only [hE,hW]
       clear hE hW hbn
       refine WL.on 5 ?_
       have HLT:=ah H1.out.lt
       go_wp2_with fail
       refine (aT vl l _ (HBK.out.below HB.out).log HL32.out HLN.out).mono ?_
       rintro e x6 ⟨v2,rfl,ho,hbn⟩
       replace H1:=ah (H1.out.below hbn)
       replace H7:=ah (H7.out.below hbn)
       replace HE:=ah (HE.out.below hbn)
       have H2:Hid (Cl2 w3 x6 v2 l (.slice o1 t.length c1)):=ah (Cl2.of ho hbn HB.out.size HLT.out)
       obtain ⟨o2,c2,rfl⟩:=aG ho
       replace HB:=bth HB hbn
       clear ho hbn HLT
       go_wp2_with fail
       refine ⟨HS.out _ HB.out,?_⟩
       refine WL.on 8 ?_
       obtain ⟨bs,ho2,hl,hlo,hlt⟩:=H2.out
       go_wp2_with (refine aH rfl _ _ rfl bs _ l.length l rfl ho2 (some ⟨B7,0,none⟩) 1 [r] rfl H7.out HR32.out HLN7.out hl ?_)
       intro v8 x7 ho hg
       rw [show l.length + [r].length = l.length + 1 from rfl] at ho
       have H8:=ah (Cl1.mk2 (w1:=w3) (by simp) ho hlo HLR32.out)
       replace H1:=ah (H1.out.old ho2 hlt hg)
       replace HE:=ah (HE.out.kept ho2 hg)
       replace HB:=ah (HB.out.grown hg HB.out.size (fun k hk => Nat.le_trans hlo (ho2.lt k hk).1))
       obtain ⟨o3,c3,rfl⟩:=aG ho
       clear ho hg hl hlo hlt ho2 H2 H7
       go_wp2_with fail
       refine ⟨HS.out _ HB.out,?_⟩
       refine WL.take (i:=9) (v:=.agg #[.slice o1 t.length c1,.slice o3 (l.length + 1) c3]) rfl (by kernel_rfl) (by decide) (by decide +kernel) (by decide +kernel) (fun _ _ _ h => h) rfl (by intro w' _;go_simp) (HS.out _ HB.out) ?_
       simp only [Act.put,nz]
     rotate_left 3
     focus
      have hbn:Below (World.heap x3).size x3 (x3.alloc (.cells #[.slice none 0 0,.slice none 0 0] 51)):=bal
      have HE:Hid (NewB w3 (x3.alloc (.cells #[.slice none 0 0,.slice none 0 0] 51)) (World.heap x3).size):=ah (NewB.of HB.out)
      replace H7:=ah (H7.out.below hbn)
      replace HB:=bth HB hbn
      go_wp2_with fail
      refine ⟨HS.out _ HB.out,?_⟩
      obtain ⟨E,hE⟩:∃ E,(World.heap x3).size = E:=⟨_,rfl⟩
      obtain ⟨x4,hW⟩:∃ x,x3.alloc (.cells #[.slice none 0 0,.slice none 0 0] 51) = x:=⟨_,rfl⟩
      rw [hW] at hbn HB HE H7
      rw [hE] at HE
      simp only [hE,hW]
      clear hE hW hbn
      refine WL.on 2 ?_
      go_wp2_with fail
      refine (aT vt t _ (HBK.out.below HB.out).tab HT32.out HTN.out).mono ?_
      rintro e x5 ⟨v1,rfl,ho,hbn⟩
      have H1:=ah (Cl1.mk2 rfl ho HB.out.size HT32.out)
      obtain ⟨o1,c1,rfl⟩:=aG ho
      replace H7:=ah (H7.out.below hbn)
      replace HE:=ah (HE.out.below hbn)
      replace HB:=bth HB hbn
      clear ho hbn
      go_wp2_with fail
      refine ⟨HS.out _ HB.out,?_⟩
      refine WL.on 5 ?_
      have HLT:=ah H1.out.lt
      go_wp2_with fail
      refine (aT vl l _ (HBK.out.below HB.out).log HL32.out HLN.out).mono ?_
      rintro e x6 ⟨v2,rfl,ho,hbn⟩
      replace H1:=ah (H1.out.below hbn)
      replace H7:=ah (H7.out.below hbn)
      replace HE:=ah (HE.out.below hbn)
      have H2:Hid (Cl2 w3 x6 v2 l (.slice o1 t.length c1)):=ah (Cl2.of ho hbn HB.out.size HLT.out)
      obtain ⟨o2,c2,rfl⟩:=aG ho
      replace HB:=bth HB hbn
      clear ho hbn HLT
      go_wp2_with fail
      refine ⟨HS.out _ HB.out,?_⟩
      refine WL.on 8 ?_
      obtain ⟨bs,ho2,hl,hlo,hlt⟩:=H2.out
      go_wp2_with (refine aH rfl _ _ rfl bs _ l.length l rfl ho2 (some ⟨B7,0,none⟩) 1 [r] rfl H7.out HR32.out HLN7.out hl ?_)
      intro v8 x7 ho hg
      rw [show l.length + [r].length = l.length + 1 from rfl] at ho
      have H8:=ah (Cl1.mk2 (w1:=w3) (by simp) ho hlo HLR32.out)
      replace H1:=ah (H1.out.old ho2 hlt hg)
      replace HE:=ah (HE.out.kept ho2 hg)
      replace HB:=ah (HB.out.grown hg HB.out.size (fun k hk => Nat.le_trans hlo (ho2.lt k hk).1))
      obtain ⟨o3,c3,rfl⟩:=aG ho
      clear ho hg hl hlo hlt ho2 H2 H7
      go_wp2_with fail
      refine ⟨HS.out _ HB.out,?_⟩
      refine WL.take (i:=9) (v:=.agg #[.slice o1 t.length c1,.slice o3 (l.length + 1) c3]) rfl (by kernel_rfl) (by decide) (by decide +kernel) (by decide +kernel) (fun _ _ _ h => h) rfl (by intro w' _;go_simp) (HS.out _ HB.out) ?_
      simp only [Act.put,nz]
    rotate_left 4
    focus
     have hbn:Below (World.heap wa).size wa (wa.alloc (.cells #[.slice none 0 0,.slice none 0 0] 51)):=bal
     have HE:Hid (NewB w3 (wa.alloc (.cells #[.slice none 0 0,.slice none 0 0] 51)) (World.heap wa).size):=ah (NewB.of HB.out)
     replace HB:=bth HB hbn
     go_wp2_with fail
     refine ⟨HS.out _ HB.out,?_⟩
     obtain ⟨E,hE⟩:∃ E,(World.heap wa).size = E:=⟨_,rfl⟩
     obtain ⟨x3,hW⟩:∃ x,wa.alloc (.cells #[.slice none 0 0,.slice none 0 0] 51) = x:=⟨_,rfl⟩
     rw [hW] at hbn HB HE
     rw [hE] at HE
     simp only [hE,hW]
     clear hE hW hbn
     refine WL.tw 2 7 ?_ ?_
     focus
      go_wp2_with fail
      refine (aT vt t _ (HBK.out.below HB.out).tab HT32.out HTN.out).mono ?_
      rintro e x4 ⟨v1,rfl,ho,hbn⟩
      have H1:=ah (Cl1.mk2 rfl ho HB.out.size HT32.out)
      obtain ⟨o1,c1,rfl⟩:=aG ho
      replace HE:=ah (HE.out.below hbn)
      replace HB:=bth HB hbn
      clear ho hbn
      go_wp2_with fail
      refine ⟨HS.out _ HB.out,?_⟩
      refine WL.tw 5 7 ?_ ?_
      focus
       have HLT:=ah H1.out.lt
       go_wp2_with fail
       refine (aT vl l _ (HBK.out.below HB.out).log HL32.out HLN.out).mono ?_
       rintro e x5 ⟨v2,rfl,ho,hbn⟩
       replace H1:=ah (H1.out.below hbn)
       replace HE:=ah (HE.out.below hbn)
       have H2:Hid (Cl2 w3 x5 v2 l (.slice o1 t.length c1)):=ah (Cl2.of ho hbn HB.out.size HLT.out)
       obtain ⟨o2,c2,rfl⟩:=aG ho
       replace HB:=bth HB hbn
       clear ho hbn HLT
       go_wp2_with fail
       refine ⟨HS.out _ HB.out,?_⟩
       refine WL.on 7 ?_
       have hbn:Below (World.heap x5).size x5 (x5.alloc (.cells rc.toArray 93)):=bal
       have H7:Hid (bK (x5.alloc (.cells rc.toArray 93)) (.slice (some ⟨(World.heap x5).size,0,none⟩) 1 1) [r]):=ah (by rw [← HRC.out];exact jc r x5)
       replace H1:=ah (H1.out.below hbn)
       replace H2:=ah (H2.out.below hbn)
       replace HE:=ah (HE.out.below hbn)
       replace HB:=bth HB hbn
       go_wp2_with (refine av rfl _ 49 93 rfl rc zr rfl underlying49 HSZ.out HZR.out (by rw [HRL.out];omega) (by rw [HRL.out];omega) ?_)
       refine ⟨HS.out _ HB.out,?_⟩
       obtain ⟨B7,hE⟩:∃ E,(World.heap x5).size = E:=⟨_,rfl⟩
       obtain ⟨x6,hW⟩:∃ x,x5.alloc (.cells rc.toArray 93) = x:=⟨_,rfl⟩
       rw [hW] at hbn HB H7 H1 H2 HE
       rw [hE] at H7
       simp only [hE,hW]
       clear hE hW hbn
       refine WL.on 8 ?_
       obtain ⟨bs,ho2,hl,hlo,hlt⟩:=H2.out
       go_wp2_with (refine aH rfl _ _ rfl bs _ l.length l rfl ho2 (some ⟨B7,0,none⟩) 1 [r] rfl H7.out HR32.out HLN7.out hl ?_)
       intro v8 x7 ho hg
       rw [show l.length + [r].length = l.length + 1 from rfl] at ho
       have H8:=ah (Cl1.mk2 (w1:=w3) (by simp) ho hlo HLR32.out)
       replace H1:=ah (H1.out.old ho2 hlt hg)
       replace HE:=ah (HE.out.kept ho2 hg)
       replace HB:=ah (HB.out.grown hg HB.out.size (fun k hk => Nat.le_trans hlo (ho2.lt k hk).1))
       obtain ⟨o3,c3,rfl⟩:=aG ho
       clear ho hg hl hlo hlt ho2 H2 H7
       go_wp2_with fail
       refine ⟨HS.out _ HB.out,?_⟩
       refine WL.take (i:=9) (v:=.agg #[.slice o1 t.length c1,.slice o3 (l.length + 1) c3]) rfl (by kernel_rfl) (by decide) (by decide +kernel) (by decide +kernel) (fun _ _ _ h => h) rfl (by intro w' _;go_simp) (HS.out _ HB.out) ?_
       simp only [Act.put,nz]
      rotate_left
      focus
       have hbn:Below (World.heap x4).size x4 (x4.alloc (.cells rc.toArray 93)):=bal
       have H7:Hid (bK (x4.alloc (.cells rc.toArray 93)) (.slice (some ⟨(World.heap x4).size,0,none⟩) 1 1) [r]):=ah (by rw [← HRC.out];exact jc r x4)
       replace H1:=ah (H1.out.below hbn)
       replace HE:=ah (HE.out.below hbn)
       replace HB:=bth HB hbn
       go_wp2_with (refine av rfl _ 49 93 rfl rc zr rfl underlying49 HSZ.out HZR.out (by rw [HRL.out];omega) (by rw [HRL.out];omega) ?_)
       refine ⟨HS.out _ HB.out,?_⟩
       obtain ⟨B7,hE⟩:∃ E,(World.heap x4).size = E:=⟨_,rfl⟩
       obtain ⟨x5,hW⟩:∃ x,x4.alloc (.cells rc.toArray 93) = x:=⟨_,rfl⟩
       rw [hW] at hbn HB H7 H1 HE
       rw [hE] at H7
       simp only [hE,hW]
       clear hE hW hbn
       refine WL.on 5 ?_
       have HLT:=ah H1.out.lt
       go_wp2_with fail
       refine (aT vl l _ (HBK.out.below HB.out).log HL32.out HLN.out).mono ?_
       rintro e x6 ⟨v2,rfl,ho,hbn⟩
       replace H1:=ah (H1.out.below hbn)
       replace H7:=ah (H7.out.below hbn)
       replace HE:=ah (HE.out.below hbn)
       have H2:Hid (Cl2 w3 x6 v2 l (.slice o1 t.length c1)):=ah (Cl2.of ho hbn HB.out.size HLT.out)
       obtain ⟨o2,c2,rfl⟩:=aG ho
       replace HB:=bth HB hbn
       clear ho hbn HLT
       go_wp2_with fail
       refine ⟨HS.out _ HB.out,?_⟩
       refine WL.on 8 ?_
       obtain ⟨bs,ho2,hl,hlo,hlt⟩:=H2.out
       go_wp2_with (refine aH rfl _ _ rfl bs _ l.length l rfl ho2 (some ⟨B7,0,none⟩) 1 [r] rfl H7.out HR32.out HLN7.out hl ?_)
       intro v8 x7 ho hg
       rw [show l.length + [r].length = l.length + 1 from rfl] at ho
       have H8:=ah (Cl1.mk2 (w1:=w3) (by simp) ho hlo HLR32.out)
       replace H1:=ah (H1.out.old ho2 hlt hg)
       replace HE:=ah (HE.out.kept ho2 hg)
       replace HB:=ah (HB.out.grown hg HB.out.size (fun k hk => Nat.le_trans hlo (ho2.lt k hk).1))
       obtain ⟨o3,c3,rfl⟩:=aG ho
       clear ho hg hl hlo hlt ho2 H2 H7
       go_wp2_with fail
       refine ⟨HS.out _ HB.out,?_⟩
       refine WL.take (i:=9) (v:=.agg #[.slice o1 t.length c1,.slice o3 (l.length + 1) c3]) rfl (by kernel_rfl) (by decide) (by decide +kernel) (by decide +kernel) (fun _ _ _ h => h) rfl (by intro w' _;go_simp) (HS.out _ HB.out) ?_
       simp only [Act.put,nz]
     rotate_left 2
     focus
      have hbn:Below (World.heap x3).size x3 (x3.alloc (.cells rc.toArray 93)):=bal
      have H7:Hid (bK (x3.alloc (.cells rc.toArray 93)) (.slice (some ⟨(World.heap x3).size,0,none⟩) 1 1) [r]):=ah (by rw [← HRC.out];exact jc r x3)
      replace HE:=ah (HE.out.below hbn)
      replace HB:=bth HB hbn
      go_wp2_with (refine av rfl _ 49 93 rfl rc zr rfl underlying49 HSZ.out HZR.out (by rw [HRL.out];omega) (by rw [HRL.out];omega) ?_)
      refine ⟨HS.out _ HB.out,?_⟩
      obtain ⟨B7,hE⟩:∃ E,(World.heap x3).size = E:=⟨_,rfl⟩
      obtain ⟨x4,hW⟩:∃ x,x3.alloc (.cells rc.toArray 93) = x:=⟨_,rfl⟩
      rw [hW] at hbn HB H7 HE
      rw [hE] at H7
      simp only [hE,hW]
      clear hE hW hbn
      refine WL.on 2 ?_
      go_wp2_with fail
      refine (aT vt t _ (HBK.out.below HB.out).tab HT32.out HTN.out).mono ?_
      rintro e x5 ⟨v1,rfl,ho,hbn⟩
      have H1:=ah (Cl1.mk2 rfl ho HB.out.size HT32.out)
      obtain ⟨o1,c1,rfl⟩:=aG ho
      replace H7:=ah (H7.out.below hbn)
      replace HE:=ah (HE.out.below hbn)
      replace HB:=bth HB hbn
      clear ho hbn
      go_wp2_with fail
      refine ⟨HS.out _ HB.out,?_⟩
      refine WL.on 5 ?_
      have HLT:=ah H1.out.lt
      go_wp2_with fail
      refine (aT vl l _ (HBK.out.below HB.out).log HL32.out HLN.out).mono ?_
      rintro e x6 ⟨v2,rfl,ho,hbn⟩
      replace H1:=ah (H1.out.below hbn)
      replace H7:=ah (H7.out.below hbn)
      replace HE:=ah (HE.out.below hbn)
      have H2:Hid (Cl2 w3 x6 v2 l (.slice o1 t.length c1)):=ah (Cl2.of ho hbn HB.out.size HLT.out)
      obtain ⟨o2,c2,rfl⟩:=aG ho
      replace HB:=bth HB hbn
      clear ho hbn HLT
      go_wp2_with fail
      refine ⟨HS.out _ HB.out,?_⟩
      refine WL.on 8 ?_
      obtain ⟨bs,ho2,hl,hlo,hlt⟩:=H2.out
      go_wp2_with (refine aH rfl _ _ rfl bs _ l.length l rfl ho2 (some ⟨B7,0,none⟩) 1 [r] rfl H7.out HR32.out HLN7.out hl ?_)
      intro v8 x7 ho hg
      rw [show l.length + [r].length = l.length + 1 from rfl] at ho
      have H8:=ah (Cl1.mk2 (w1:=w3) (by simp) ho hlo HLR32.out)
      replace H1:=ah (H1.out.old ho2 hlt hg)
      replace HE:=ah (HE.out.kept ho2 hg)
      replace HB:=ah (HB.out.grown hg HB.out.size (fun k hk => Nat.le_trans hlo (ho2.lt k hk).1))
      obtain ⟨o3,c3,rfl⟩:=aG ho
      clear ho hg hl hlo hlt ho2 H2 H7
      go_wp2_with fail
      refine ⟨HS.out _ HB.out,?_⟩
      refine WL.take (i:=9) (v:=.agg #[.slice o1 t.length c1,.slice o3 (l.length + 1) c3]) rfl (by kernel_rfl) (by decide) (by decide +kernel) (by decide +kernel) (fun _ _ _ h => h) rfl (by intro w' _;go_simp) (HS.out _ HB.out) ?_
      simp only [Act.put,nz]
    all_goals
     refine WL.la 11 ?_
     obtain ⟨wz,hwz⟩:∃ x,x7.setCells E 0 [.slice o1 t.length c1,.slice o3 (l.length + 1) c3] = x:=⟨_,rfl⟩
     have hth:=HE.out.box.there
     have HZ:Hid (w3.heap.size ≤ E ∧ wz.rangeAt E 0 [.slice o1 t.length c1,.slice o3 (l.length + 1) c3] ∧ BkFr w3 wz (.slice o1 t.length c1) (.slice o3 (l.length + 1) c3) t (l ++ [r]) ∧ Below w3.heap.size w3 wz):=ah (by
      rw [← hwz]
      refine ⟨HE.out.le,(HE.out.box.set (us:=[.slice o1 t.length c1,.slice o3 (l.length + 1) c3]) rfl).range,⟨⟨H1.out.set HE.out.box,H8.out.set HE.out.box,H1.out.cap,H8.out.cap,fun x hx => ?_⟩,H1.out.fr,H8.out.fr⟩,below_setCells _ HE.out.le _ _ _ HB.out⟩
      rw [← List.append_assoc] at hx
      rcases List.mem_append.1 hx with hx | hx
      ·exact HOK.out x hx
      simp at hx;rw [hx];exact HRK.out)
     have HWZ:=ah hwz
     clear hwz HE H1 H8 HB HS
     refine aj rfl 51 _ _ rfl E 0 [.slice o1 t.length c1,.slice o3 (l.length + 1) c3] rfl rfl 2 rfl hth HIB.out (by intro v hv;simp at hv;rcases hv with rfl | rfl <;> rfl) ?_
     rw [HWZ.out]
     simp only [Act.put,nz]
     go_wp2_with fail
     go_meet
     exact ⟨E,_,_,rfl,HZ⟩
   obtain ⟨E,v1,v2,rfl,H⟩:=hcut
   obtain ⟨o1,k1,rfl,_⟩:=H.out.2.2.1.1.tab.open
   obtain ⟨o2,k2,rfl,_⟩:=H.out.2.2.1.1.log.open
   have hre:=H.out.2.1
   have HR2:=ah (dJ _ _ t (l ++ [r]) wc H.out.2.2.1.1)
   have h2n:(prog.info? 51).map (·.size) = some ([.slice o1 t.length k1,.slice o2 (l ++ [r]).length k2]:List Value).length:=bQ
   have HLN:Hid ((l ++ [r]).length = l.length + 1):=ah (by simp)
   generalize (l ++ [r]).length = ln at H hre HR2 h2n HLN
   go_wp2_with (refine wpList_load_mid rfl 51 _ rfl E 0 rfl _ _ hre underlying51 rfl h2n ?_)
   refine HR2.out.mono ?_
   rintro e w4 ⟨rfl,hb4⟩
   have hb3:=H.out.2.2.2
   have HBK4:=ah (And.intro (H.out.2.2.1.1.below hb4) (And.intro H.out.2.2.1.2.1 H.out.2.2.1.2.2))
   have hre4:=aF hre hb4 (by have:=World.block_lt_of_cell? wc (a:=⟨E,0,none⟩) (hre 0 _ rfl);exact this)
   have hb34:Below w3.heap.size w3 w4:=hb3.trans (hb4.mono hb3.size)
   have hr94:=(HX3.out.below hb34).range
   have hx24:=HX2.out.below hb34
   have HB4:=bth HB2 hb34
   have HFR:=ah (show w.heap.size ≤ w3.heap.size from HB2.out.size)
   have hbx4:=hb4.size
   have hEw:E < w4.heap.size:=Nat.lt_of_lt_of_le (World.block_lt_of_cell? wc (a:=⟨E,0,none⟩) (hre 0 _ rfl)) hb4.size
   have hn9:n9 < w3.heap.size:=HX3.out.lt
   have h34:=hb34.size
   have HCR4:=ah (HCR.out.gY hb34 (by have:=HB2.out.size;omega))
   have HS4:=ah (show 5 ≤ w4.heap.size by have:=HB2.out.size;omega)
   clear hb3 hb4 hb34 HR2 hre HX3 HX2 HB2 HBK HCR H hbx4
   cases hb2:aR t (l ++ [r]) with
   | false =>
    have HANS:=ah (fun x hb => Ce (t:=t) (l:=l) (r:=r) (w:=w) (w':=x) HGOOD.out hb2 hb)
    obtain ⟨WE,hWE⟩:∃ x,w4.setCells (w.heap.size + 1 + 1) 0 [.slice none 0 0,.slice none 0 0] = x:=⟨_,rfl⟩
    have hre:WE.rangeAt (w.heap.size + 1 + 1) 0 [.slice none 0 0,.slice none 0 0]:=by rw [← hWE];exact (hx24.set (us:=[.slice none 0 0,.slice none 0 0]) rfl).range
    have HBE:Hid (Below w.heap.size w WE):=ah (by rw [← hWE];exact below_setCells _ (by omega) _ _ _ HB4.out)
    have HWE:=ah hWE
    have hth:=hx24.there
    clear hWE hb2 hx24 hr94 hre4
    go_wp2_with (refine aj rfl 51 _ _ rfl (w.heap.size + 1 + 1) 0 [.slice none 0 0,.slice none 0 0] rfl rfl 2 rfl hth HIB.out HONZ.out ?_;rw [HWE.out])
    refine jv rfl (w.heap.size + 1 + 1) 0 rfl [.slice none 0 0,.slice none 0 0] _ hre underlying51 rfl h2r rfl _ _ rfl rfl ?_
    exact HANS.out _ HBE.out
   | true =>
    have HANS:=ah (fun v1 v2 x h3 hb => FR (t:=t) (l:=l) (r:=r) (w:=w) (w':=x) (v1:=v1) (v2:=v2) HGOOD.out hb2 h3 hb)
    have HER:Hid (∀ x:BW w4.heap.size w4,Calls prog 107 #[.agg rc.toArray] x.out fun e w' => e = .returned (.string (ofB (entB r))) ∧ Below x.out.heap.size x.out w'):=ah fun x => by
     rw [← HRC.out]
     exact nX r x.out HRS.out hr2 (by have:=x.hb.size;have:=HS4.out;omega) (HCR4.out.gY x.hb HS4.out)
    go_upto_region 7 with fail
    refine aZ 3 (by kernel_rfl) (by kernel_rfl) ?_
    simp only [List.take_succ_cons,List.take_zero,List.drop_succ_cons,List.drop_zero]
    repeat (go_big_quiet_step ((go_at_call 107;with_reducible exact ay (HER.out _))))
    refine dZ 51 _ _ rfl rfl rfl hre4 (by omega) underlying51 rfl h2n ?_
    simp only [Act.put,nz]
    repeat (go_big_quiet_step ((go_at_call 107;with_reducible exact ay (HER.out _))))
    refine dZ 93 _ _ rfl rfl rfl hr94 (by omega) underlying93 rfl h33 ?_
    simp only [Act.put,nz]
    repeat (go_big_quiet_step ((go_at_call 107;with_reducible exact ay (HER.out _))))
    refine wpQuiet_nil ?_
    intro wq hbq
    have hx2q:=hx24.below hbq
    have hthq:=hx2q.there
    obtain ⟨WE,hWE⟩:∃ x,wq.setCells (w.heap.size + 1 + 1) 0 [.slice o1 t.length k1,.slice o2 ln k2] = x:=⟨_,rfl⟩
    have hbE:Below w.heap.size w WE:=by rw [← hWE];exact below_setCells _ (by omega) _ _ _ (HB4.out.trans (hbq.mono HB4.out.size))
    have hre:WE.rangeAt (w.heap.size + 1 + 1) 0 [.slice o1 t.length k1,.slice o2 ln k2]:=by rw [← hWE];exact (hx2q.set (us:=[.slice o1 t.length k1,.slice o2 ln k2]) rfl).range
    have HFIN:Hid (BkFr w WE (.slice o1 t.length k1) (.slice o2 ln k2) t (l ++ [r])):=ah (by
     rw [← hWE]
     obtain ⟨hk,f1,f2⟩:=HBK4.out
     have hkq:=hk.below hbq
     have hgr:=aY [.slice o1 t.length k1,.slice o2 ln k2] 0 wq (World.grownBy.refl wq (some (w.heap.size + 1 + 1)))
     have hs2:=HS2.out
     have hfr:=HFR.out
     refine ⟨⟨aS.offR hkq.tab hgr fun b hb e => ?_,aS.offR hkq.log hgr fun b hb e => ?_,hkq.capt,hkq.capl,hkq.ok⟩,fun g hg => ?_,fun g hg => ?_⟩
     ·have:=f1 b hb;cases e;omega
     ·have:=f2 b hb;cases e;omega
     ·have:=f1 g hg;omega
     have:=f2 g hg;omega)
    have HBE:=ah hbE
    have HWE:=ah hWE
    clear hWE hb2 hx24 hr94 hre4 hbE hx2q hbq
    go_wp2_with (refine aj rfl 51 _ _ rfl (w.heap.size + 1 + 1) 0 [.slice o1 t.length k1,.slice o2 ln k2] rfl rfl 2 rfl hthq HIB.out (by intro v hv;simp at hv;rcases hv with rfl | rfl <;> rfl) ?_;rw [HWE.out])
    refine jv rfl (w.heap.size + 1 + 1) 0 rfl [.slice o1 t.length k1,.slice o2 ln k2] _ hre underlying51 rfl h2n rfl _ _ rfl rfl ?_
    exact HANS.out _ _ _ HFIN.out HBE.out
theorem nJ {H:Type} {P:Program} {k:TypeId} {R:Value → Option (DataW H × List MemPlace)} {w:World} {b n:Nat} {D:DataW H} {t e:TypeId} (h:w.ownsMap P k R b n D) (K:Keyed P k) (ht:P.underlying t = some (.map k e)) (hn:n < maxLen) {key val:Value} {kl:Lit} {d:DataW H} {ps:List MemPlace}
  (hkey:keyOf P k key = some kl) (hv:R val = some (d,ps)):∃ w',(Instr.mapUpdate t (.map (some b)) key val).run P w = .ok () w' ∧ w'.ownsMap P k R b (n + 1) (D.put kl d) ∧ w.grownBy w' (some b) ∧ w'.heap.size = w.heap.size:=by
 obtain ⟨w',hrun,h1,h2⟩:=h.update K ht hn hkey hv
 refine ⟨w',hrun,h1,h2,?_⟩
 obtain ⟨es,clock,hb,F,hs,rfl⟩:=h
 obtain ⟨es',clock',hrun',_⟩:=Maps.fit_store (R':=R) K ht hb F (Nat.lt_of_le_of_lt hs hn) (fun _ _ _ _ hz => hz) hkey hv
 rw [hrun] at hrun'
 injection hrun' with _ e
 rw [e];simp [Go.ChangeMaps.setBlock]
theorem jl {α:Type} {enc:α → Value} {w:World} {ops:Array Oper} {rest:List Oper} {o:Oper} {a:Act} {Q:Exit → Act → World → Prop} (hg:o.guard = none) (m x v:Operand) (t e:TypeId) (hop:o.op = Op.mapUpdate t m x v)
  (ht:prog.underlying t = some (.map 9 e)) (b n:Nat) (f:ByteArray → Option α) (hm:a.eval m = .map (some b)) (hown:MapT enc w b n f) (p:ByteArray) (hp:p.size ≤ maxLen) (c:α) (hx:a.eval x = .string p) (hv:a.eval v = enc c) (hn:n < maxLen)
  (hK:∀ w',MapT enc w' b (n + 1) (fun q => if q = p then some c else f q) → w.grownBy w' (some b) → w'.heap.size = w.heap.size → wpList prog ops Q rest (a.put o.dst undef) w'):wpList prog ops Q (o :: rest) a w:=by
 obtain ⟨D,hown,hD⟩:=hown
 refine wpList_plain hg fun K' hK' => ?_
 obtain ⟨w',hrun,r1,r2,r3⟩:=nJ hown bY ht hn (key:=.string p) (val:=enc c) (d:=.held (enc c)) (ps:=[]) (gM hp) rfl
 unfold Oper.wp
 simp [execOp,hop,hm,hx,hv,hrun,Result.andThen]
 exact hK' _ _ (hK w' ⟨_,r1,oU hD hown.isMap p hp c⟩ r2 r3)
structure NwSt (n k:Nat) (w0 w:World):Prop where
 size:w.heap.size = n + 2 + 3 * k
 map:MapT encP w n k fun x => match bI x with
  | some j => if j < k then some (n + 4 + 3 * j) else none
  | none => none
 dirs:∀ j,j < k → BoxL w (n + 4 + 3 * j) 83 [.map (some (n + 2 + 3 * j)),.map (some (n + 3 + 3 * j)),.slice none 0 0]
 seen:∀ j,j < k → MapT encP w (n + 2 + 3 * j) 0 (fun _ => none) ∧ MapT encP w (n + 3 + 3 * j) 0 (fun _ => none)
 bel:Below n w0 w
theorem IG (m:Nat) (q:Int) (w:World):(Instr.build 77 #[(0,.map (some m)),(1,.int .i64 q)]).run prog w = .ok (.agg #[.map (some m),.int .i64 q,.int .i64 0,.bool false,.bool false]) w:=run_build w 77 _ _ (by kernel_rfl)
theorem Fp (m m2:Nat) (w:World):(Instr.build 83 #[(0,.map (some m)),(1,.map (some m2))]).run prog w = .ok (.agg #[.map (some m),.map (some m2),.slice none 0 0]) w:=run_build w 83 _ _ (by kernel_rfl)
def dirN (k:Nat):ByteArray:=if k = 0 then fM else if k = 1 then jZ else sRef
theorem dM {x:ByteArray} {j:Nat} (h:bI x = some j):j < 3 ∧ x = dirN j:=by
 unfold bI at h
 split at h
 ·cases h;rename_i e;exact ⟨by decide,e⟩
 split at h
 ·cases h;rename_i e;exact ⟨by decide,e⟩
 split at h
 ·cases h;rename_i e;exact ⟨by decide,e⟩
 cases h
theorem fF:∀ {k:Nat},k < 3 → bI (dirN k) = some k:=by
 intro k hk
 obtain rfl | rfl | rfl:k = 0 ∨ k = 1 ∨ k = 2:=by omega
 all_goals decide
theorem NwSt.next {n k:Nat} {w0 w w':World} (h:NwSt n k w0 w) (hk:k < 3)
  (hm:MapT encP w' n (k + 1) fun q => if q = dirN k then some (n + 4 + 3 * k) else (match bI q with
   | some j => if j < k then some (n + 4 + 3 * j) else none
   | none => none))
  (hg:(((w.alloc (.map #[] 0)).alloc (.map #[] 0)).alloc (.cells #[.map (some w.heap.size),.map (some (w.heap.size + 1)),.slice none 0 0] 83)).grownBy w' (some n))
  (hs:w'.heap.size = w.heap.size + 3) (hb:Below n w0 w'):NwSt n (k + 1) w0 w':=by
 have hsz:=h.size
 have b1:Below w.heap.size w (w.alloc (.map #[] 0)):=bal
 have b2:Below w.heap.size w ((w.alloc (.map #[] 0)).alloc (.map #[] 0)):=b1.alloc (by simp) _
 have b3:Below w.heap.size w (((w.alloc (.map #[] 0)).alloc (.map #[] 0)).alloc (.cells #[.map (some w.heap.size),.map (some (w.heap.size + 1)),.slice none 0 0] 83)):=b2.alloc (by rw [World.size_alloc,World.size_alloc];omega) _
 have m1:MapT encP (((w.alloc (.map #[] 0)).alloc (.map #[] 0)).alloc (.cells #[.map (some w.heap.size),.map (some (w.heap.size + 1)),.slice none 0 0] 83)) w.heap.size 0 (fun _ => none) :=
  ((lD w).on bal).on bal
 have m2:MapT encP (((w.alloc (.map #[] 0)).alloc (.map #[] 0)).alloc (.cells #[.map (some w.heap.size),.map (some (w.heap.size + 1)),.slice none 0 0] 83)) (w.heap.size + 1) 0 (fun _ => none):=by
  have:=(lD (enc:=encP) (w.alloc (.map #[] 0)))
  rw [World.size_alloc] at this
  exact this.on bal
 have x3:BoxL (((w.alloc (.map #[] 0)).alloc (.map #[] 0)).alloc (.cells #[.map (some w.heap.size),.map (some (w.heap.size + 1)),.slice none 0 0] 83)) (w.heap.size + 2) 83 [.map (some w.heap.size),.map (some (w.heap.size + 1)),.slice none 0 0]:=by
  have:=BoxL.new ((w.alloc (.map #[] 0)).alloc (.map #[] 0)) 83 [.map (some w.heap.size),.map (some (w.heap.size + 1)),.slice none 0 0]
  rw [World.size_alloc,World.size_alloc] at this
  exact this
 refine ⟨by omega,hm.ext fun x _ => ?_,fun j hj => ?_,fun j hj => ?_,hb⟩
 ·by_cases e:x = dirN k
  ·rw [if_pos e,e,fF hk]
   dsimp only
   rw [if_pos (Nat.lt_succ_self k)]
  rw [if_neg e]
  cases hw:bI x with
  | none => rfl
  | some j =>
   have hj:=dM hw
   have:j ≠ k:=fun h => e (by rw [← h];exact hj.2)
   dsimp only
   by_cases hjk:j < k
   ·rw [if_pos hjk,if_pos (by omega)]
   rw [if_neg hjk,if_neg (by omega)]
 ·by_cases e:j = k
  ·subst e
   have:=x3.kept hg (by simp;omega)
   rw [hsz] at this
   have e1:n + 2 + 3 * j + 2 = n + 4 + 3 * j:=by omega
   have e2:n + 2 + 3 * j + 1 = n + 3 + 3 * j:=by omega
   rwa [e1,e2] at this
  exact ((h.dirs j (by omega)).below b3).kept hg (by simp;omega)
 by_cases e:j = k
 ·subst e
  have a1:=m1.grown hg (by simp;omega)
  have a2:=m2.grown hg (by simp;omega)
  rw [hsz] at a1 a2
  have e2:n + 2 + 3 * j + 1 = n + 3 + 3 * j:=by omega
  rw [e2] at a2
  exact ⟨a1,a2⟩
 obtain ⟨h1,h2⟩:=h.seen j (by omega)
 exact ⟨(h1.on b3).grown hg (by simp;omega),(h2.on b3).grown hg (by simp;omega)⟩
theorem IE (q:Int) (w:World) (hG:Glob w):Calls prog 9 #[.int .i64 q] w fun e w' => e = .returned (.pointer (some ⟨w.heap.size + 1,0,none⟩)) ∧ NwSt w.heap.size 3 w w' ∧ BoxL w' (w.heap.size + 1) 77 [.map (some w.heap.size),.int .i64 q,.int .i64 0,.bool false,.bool false]:=by
 have hbd:=IG
 have hmm:=@run_makeMap prog
 have hbr:=Fp
 obtain ⟨W,hW⟩:∃ W,(w.alloc (.map #[] 0)).alloc (.cells #[.map (some w.heap.size),.int .i64 q,.int .i64 0,.bool false,.bool false] 77) = W:=⟨_,rfl⟩
 have hbW:Below w.heap.size w W:=by rw [← hW];exact bal.alloc (by simp) _
 have HBX:Hid (BoxL W (w.heap.size + 1) 77 [.map (some w.heap.size),.int .i64 q,.int .i64 0,.bool false,.bool false]):=ah (by
  rw [← hW]
  have:=BoxL.new (w.alloc (.map #[] 0)) 77 [.map (some w.heap.size),.int .i64 q,.int .i64 0,.bool false,.bool false]
  rwa [World.size_alloc] at this)
 have HST:Hid (NwSt w.heap.size 0 w W):=ah ⟨by rw [← hW];simp,by
  have h:=((lD (enc:=encP) w).on (w':=W) (by rw [← hW];exact bal))
  exact h.ext fun x _ => by cases bI x with
   | none => rfl
   | some j => dsimp only;rw [if_neg (by omega)],fun j hj => absurd hj (by omega),fun j hj => absurd hj (by omega),hbW⟩
 have HOR:=ah (hG.below hbW).ord
 have h3i:(prog.info? 78).map (·.size) = some ([.string fM,.string jZ,.string sRef]:List Value).length:=by kernel_rfl
 have HW:=ah hW
 have hro:=HOR.out
 clear hW hbW hG
 obtain ⟨n,hn⟩:∃ n,w.heap.size = n:=⟨_,rfl⟩
 rw [hn] at HST HBX ⊢
 have HNH:=ah hn
 clear hn
 go_enter func9,ntmps9
 go_upto_region 2 with fail
 rw [HW.out]
 go_wp2_with (refine wpList_load_mid rfl 78 _ rfl 0 0 rfl _ _ hro underlying78 rfl h3i ?_)
 have HIX:Hid (∀ (k:Nat) (h:k < 3) (W:World),(Instr.index 78 (.agg #[.string fM,.string jZ,.string sRef]) (.int .i64 (k:Int))).run prog W = .ok (.string (dirN k)) W):=ah (fun k h W => by
  obtain rfl | rfl | rfl:k = 0 ∨ k = 1 ∨ k = 2:=by omega
  all_goals kernel_rfl)
 clear hro h3i
 rw [HNH.out]
 clear HNH HW HOR
 go_loopw [5,11] (fun _ i wr => ∃ k:Nat,i = .int .i64 (k:Int) ∧ k ≤ 3 ∧ Hid (NwSt n k w wr) ∧ Hid (BoxL wr (n + 1) 77 [.map (some n),.int .i64 q,.int .i64 0,.bool false,.bool false])) (fun _ i _ => (3 - intOf i).toNat)
 case atStart => exact ⟨0,rfl,by omega,HST,HBX⟩
 obtain ⟨wo,rfl⟩:∃ wo:World,wo = wr:=⟨_,rfl⟩
 obtain ⟨k,rfl,hk,HS,HX⟩:=hrel
 by_cases hlt:k < 3
 ·have i1:(k:Int) < 3:=by omega
  have hix:=HIX.out k hlt
  have wi:IntKind.i64.wrap ((k:Int) + 1) = (k:Int) + 1:=by rw [IntKind.wrap_i64];omega
  have c0:wo.cell? ⟨n + 1,0,none⟩ = some (.map (some n)):=HX.out.range 0 _ rfl
  have hsz:=HS.out.size
  generalize hdn:dirN k = dn at hix
  have hdz:dn.size ≤ maxLen:=by
   rw [← hdn]
   unfold dirN maxLen
   obtain rfl | rfl | rfl:k = 0 ∨ k = 1 ∨ k = 2:=by omega
   all_goals decide
  have HDN:=ah hdn
  obtain ⟨W3,hW3⟩:∃ W,((wo.alloc (.map #[] 0)).alloc (.map #[] 0)).alloc (.cells #[.map (some wo.heap.size),.map (some (wo.heap.size + 1)),.slice none 0 0] 83) = W:=⟨_,rfl⟩
  have hb3:Below wo.heap.size wo W3:=by rw [← hW3];exact (bal.alloc (by simp) _).alloc (by rw [World.size_alloc,World.size_alloc];omega) _
  have hs3:W3.heap.size = wo.heap.size + 3:=by rw [← hW3];simp
  have HM3:=ah (HS.out.map.on hb3)
  have HX3:=ah (HX.out.below hb3)
  have HB3:=ah (HS.out.bel.trans (hb3.mono (by omega)))
  have HZ3:=ah hs3
  have HZ:=ah hsz
  have HW3:=ah hW3
  clear hW3 hb3 hs3 hdn hsz
  go_wp2_with (rw [HW3.out];refine jl rfl _ _ _ 75 79 rfl underlying75 n k _ rfl HM3.out dn hdz (wo.heap.size + 2) rfl rfl (by unfold maxLen;omega) ?_)
  intro w' hm hg hsz'
  have HM:=ah hm
  have HGR:=ah hg
  have HSZ':=ah hsz'
  clear hm hg hsz'
  go_wp2_with fail
  go_roundw
  case rel =>
   refine ⟨k + 1,by go_num,by omega,HS.out.next hlt (HM.out.ext fun q _ => by rw [HDN.out,HZ.out,show n + 2 + 3 * k + 2 = n + 4 + 3 * k from by omega]) (by rw [HW3.out];exact HGR.out) (by rw [HSZ'.out,HZ3.out]) (HB3.out.grown HGR.out (by have h1:=HZ.out;have h2:=HZ3.out;omega) (fun j hj => by cases hj;omega)),HX3.out.kept HGR.out (by simp)⟩
  case measure => simp [intOf];omega
 obtain rfl:k = 3:=by omega
 go_wp2_with fail
 go_ret
 exact ⟨rfl,HS.out,HX.out⟩
end
end Go.Proofs.YtlhcoanbhnphgaaGreatDoor
