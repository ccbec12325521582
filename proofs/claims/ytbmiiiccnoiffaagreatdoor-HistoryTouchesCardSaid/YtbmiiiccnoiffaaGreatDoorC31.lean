/- YtbmiiiccnoiffaaGreatDoorC31: texts Z0, Z1, JO of this claim, in one. -/
import Derived.Test.YtbmiiiccnoiffaaGreatDoorC11
import Derived.Test.YtbmiiiccnoiffaaGreatDoorC14
import Derived.Test.YtbmiiiccnoiffaaGreatDoorC18
import Derived.Test.YtbmiiiccnoiffaaGreatDoorC26
import Derived.Test.YtbmiiiccnoiffaaGreatDoorC7
namespace Go.Proofs.YtbmiiiccnoiffaaGreatDoor
open Go.RowKit Go.Maps Go.WideMaps
set_option maxRecDepth 100000
def SaysI (D:DataW Value) (f:List UInt8 → Option Ob):Prop :=
 ∀ x,x.length = 32 → Maps.has D (keyI x) = (f x).isSome ∧ ∀ o,f x = some o → ∀ zd,D.atKey (keyI x) zd = .held (.agg #[.int .i64 o.kind,.string o.body])
def IdMap (w:World) (b n:Nat) (f:List UInt8 → Option Ob):Prop:=∃ D:DataW Value,w.ownsMap Tryz.prog 24 heldR b n D ∧ SaysI D f
theorem saysI_none:SaysI (.map []) fun _ => none:=fun _ _ => ⟨rfl,fun _ h => by cases h⟩
theorem saysI_put {D:DataW Value} {f:List UInt8 → Option Ob} (h:SaysI D f) (hm:IsMap D) (p:List UInt8) (hp:p.length = 32) (o:Ob):SaysI (D.put (keyI p) (.held (.agg #[.int .i64 o.kind,.string o.body]))) fun q => if q = p then some o else f q:=by
 intro q hq
 show has _ _ = (if q = p then some o else f q).isSome ∧ ∀ t,(if q = p then some o else f q) = some t → ∀ zd,_ = _
 have hk:=idKeyed.key (keyI_eq hp)
 by_cases e:q = p
 ·subst e
  rw [if_pos rfl]
  exact ⟨by rw [has_put_same hm hk];rfl,fun t ht zd => by cases ht;exact atKey_put_same hm hk _ _⟩
 ·rw [if_neg e]
  have hne:keyI q ≠ keyI p:=fun h => e (keyI_inj hq hp h)
  exact ⟨by rw [has_put_other hne];exact (h q hq).1,fun t ht zd => by rw [atKey_put_other hne];exact (h q hq).2 t ht zd⟩
theorem IdMap.below {w w':World} {b n B:Nat} {f:List UInt8 → Option Ob} (h:IdMap w b n f) (hb:Below B w w') (hB:b < B):IdMap w' b n f:=by
 obtain ⟨D,⟨es,clock,h1,h2⟩,h3⟩:=h
 exact ⟨D,⟨es,clock,(hb.block b hB).trans h1,h2⟩,h3⟩
theorem IdMap.lt {w:World} {b n:Nat} {f:List UInt8 → Option Ob} (h:IdMap w b n f):b < w.heap.size:=by obtain ⟨D,h,_⟩:=h;exact h.lt
theorem zeroO (w:World):(zeroValue 93).run Tryz.prog w = .ok (.agg #[.int .i64 0,.string ⟨#[]⟩]) w:=by kernel_rfl
theorem run_lookup_id (w:World) (t:TypeId) (ht:Tryz.prog.underlying t = some (.map 24 93)) (b n:Nat) (f:List UInt8 → Option Ob) (hown:IdMap w b n f) (x:List UInt8) (hx:x.length = 32) :
  (Instr.lookup t (.map (some b)) (.agg (idC x).toArray) true).run Tryz.prog w = .ok (.tuple #[.agg #[.int .i64 ((f x).getD ob0).kind,.string ((f x).getD ob0).body],.bool (f x).isSome]) w:=by
 obtain ⟨D,hown,hs⟩:=hown
 obtain ⟨v,ps,hrun,hv⟩:=hown.look_ok idKeyed ht (zeroO w) (zd:=.held (.agg #[.int .i64 0,.string ⟨#[]⟩])) (zp:=[]) rfl (keyI_eq hx)
 rw [hrun]
 obtain ⟨h1,h2⟩:=hs x hx
 have hv2:D.atKey (keyI x) (.held (.agg #[.int .i64 0,.string ⟨#[]⟩])) = .held v:=by
  unfold heldR at hv
  injection hv with hv
  exact (congrArg Prod.fst hv).symm
 rw [h1]
 cases e:f x with
 | none =>
  rw [e] at h1
  rw [atKey_of_not_has h1] at hv2
  injection hv2 with h
  rw [← h];rfl
 | some o =>
  rw [h2 o e] at hv2
  injection hv2 with h
  rw [← h];rfl
theorem wpList_update_id {w:World} {ops:Array Oper} {rest:List Oper} {o:Oper} {a:Act} {Q:Exit → Act → World → Prop} (hg:o.guard = none) (m x v:Operand) (t:TypeId) (hop:o.op = Op.mapUpdate t m x v)
  (ht:Tryz.prog.underlying t = some (.map 24 93)) (b n:Nat) (f:List UInt8 → Option Ob) (hm:a.eval m = .map (some b)) (hown:IdMap w b n f) (p:List UInt8) (hp:p.length = 32) (ob:Ob) (hx:a.eval x = .agg (idC p).toArray) (hv:a.eval v = .agg #[.int .i64 ob.kind,.string ob.body]) (hn:n < maxLen)
  (hK:∀ w',IdMap w' b (n + 1) (fun q => if q = p then some ob else f q) → w.grownBy w' (some b) → wpList Tryz.prog ops Q rest (a.put o.dst undef) w'):wpList Tryz.prog ops Q (o :: rest) a w:=by
 obtain ⟨D,hown,hD⟩:=hown
 exact wpList_mapUpdate_own w hg m x v t hop 24 93 idKeyed ht heldR b n D hm hown hn (.agg (idC p).toArray) (.agg #[.int .i64 ob.kind,.string ob.body]) (keyI p) hx hv (keyI_eq hp) _ [] rfl fun w' h1 h2 => hK w' ⟨_,h1,saysI_put hD hown.isMap p hp ob⟩ h2
end Go.Proofs.YtbmiiiccnoiffaaGreatDoor
namespace Go.Proofs.YtbmiiiccnoiffaaGreatDoor
open Go.RowKit Go.Maps
def SrcP (w:World) (v:Value) (f:List UInt8 → Option Ob):Prop:=∃ lb mb n,v = .iface 105 (.pointer (some ⟨lb,0,none⟩)) ∧ w.cell? ⟨lb,0,none⟩ = some (.map (some mb)) ∧ IdMap w mb n f
theorem SrcP.below {w w':World} {v:Value} {f:List UInt8 → Option Ob} (h:SrcP w v f) (hb:Below w.heap.size w w'):SrcP w' v f:=by
 obtain ⟨lb,mb,n,rfl,h1,h2⟩:=h
 exact ⟨lb,mb,n,rfl,below_load h1 hb (World.block_lt_of_cell? w _ h1),h2.below hb h2.lt⟩
theorem exec_lookup {P:Program} {w:World} {o:Oper} {a:Act} {v:Value} (t:TypeId) (m x:Operand) (mv xv:Value) (hop:o.op = .lookup t m x true) (hm:a.eval m = mv) (hx:a.eval x = xv) (h:(Instr.lookup t mv xv true).run P w = .ok v w):(execOp a.eval o).run P w = .ok (.value v) w:=by
 unfold execOp
 simp only [hop,hm,hx,Sem.run_bind,h,Result.andThen_ok]
 rfl
set_option maxRecDepth 100000 in
set_option maxHeartbeats 2000000 in
theorem oget_any (lb mb n:Nat) (f:List UInt8 → Option Ob) (x:List UInt8) (w:World) (hc:w.cell? ⟨lb,0,none⟩ = some (.map (some mb))) (hm:IdMap w mb n f) (hx:x.length = 32) :
  Calls Tryz.prog 269 #[.pointer (some ⟨lb,0,none⟩),.agg (idC x).toArray] w fun e w' => e = .returned (.tuple #[.agg #[.int .i64 ((f x).getD ob0).kind,.string ((f x).getD ob0).body],.bool (f x).isSome]) ∧ Below w.heap.size w w':=by
 have hlb:=World.block_lt_of_cell? w _ hc
 have hlm:=hm.lt
 have hxl:(idC x).length = 32:=by rw [idC_len,hx]
 have h32x:=h32_of hxl
 have HRL:=Lib.hid (fun W (h:Below w.heap.size w W) => run_lookup_id W 106 Tryz.underlying106 mb n f (hm.below h hlm) x hx)
 generalize f x = r at HRL
 generalize idC x = ux at hxl h32x HRL
 obtain ⟨W,hW⟩:∃ W,W = (w.alloc (.cells ux.toArray 24)).alloc (.cells #[.int .i64 0,.string ⟨#[]⟩] 93):=⟨_,rfl⟩
 have hb0:Below w.heap.size w W:=by rw [hW];exact ((Below.refl _ _).alloc (Nat.le_refl _) _).alloc (by simp) _
 have hr1:W.rangeAt w.heap.size 0 ux:=by
  rw [hW]
  exact rangeAt_below (range_new w ux 24 rfl) ((Below.refl _ _).alloc (Nat.le_refl _) _) (by simp)
 have hth:=(Arr.ofList (w.alloc (.cells ux.toArray 24)) [.int .i64 0,.string ⟨#[]⟩] 93).there
 rw [World.size_alloc] at hth
 have hth':W.there (w.heap.size + 1) 0 2:=by rw [hW];exact hth
 have hszW:W.heap.size = w.heap.size + 1 + 1:=by rw [hW];simp
 have HW:=Lib.hid hb0
 have HT:=Lib.hid hth'
 clear hth hth' hb0 hm hx
 go_enter Tryz.func269,Tryz.ntmps269
 go_wp2
 rw [← hW]
 clear hW
 have HSI:Hid (∀ w',Below w.heap.size w w' → w'.rangeAt w.heap.size 0 ux → w'.cell? ⟨lb,0,none⟩ = some (.map (some mb)) ∧ Below w.heap.size w w' ∧ w'.rangeAt w.heap.size 0 ux):=Lib.hid (fun w' h h2 => ⟨below_load hc h hlb,h,h2⟩)
 have hS0:=HSI.out W.drew HW.out.drew hr1
 have hob:∀ v ∈ ([.int .i64 (r.getD ob0).kind,.string (r.getD ob0).body]:List Value),v.oneCell' = true:=by simp [Value.oneCell']
 have HOB:=Lib.hid hob
 have HSW:=Lib.hid hszW
 clear hc hob hszW
 refine wp_region_L 11 (fun w' => w'.cell? ⟨lb,0,none⟩ = some (.map (some mb)) ∧ Below w.heap.size w w' ∧ w'.rangeAt w.heap.size 0 ux) (by kernel_rfl) (by kernel_rfl) ?_
 refine WL.take (i:=0) (v:=?_) rfl (by kernel_rfl) (by decide) (by decide +kernel) (by decide +kernel) (fun _ _ _ h => h) rfl ?_ hS0 ?_
 rotate_left
 ·(intro w' hSw;(try dsimp only at hSw);go_simp;(try with_reducible rfl))
 simp only [Act.put];(try simp only [List.getElem_toArray]);(try simp only [List.getElem_cons_succ]);(try simp only [List.getElem_cons_zero]);(try simp only [List.setIfInBounds_toArray]);(try simp only [List.set_cons_succ]);(try simp only [List.set_cons_zero])
 refine WL.take (i:=1) (v:=?_) rfl (by kernel_rfl) (by decide) (by decide +kernel) (by decide +kernel) (fun _ _ _ h => h) rfl ?_ hS0 ?_
 rotate_left
 ·(intro w' hSw;(try dsimp only at hSw);go_simp;(try with_reducible rfl))
 simp only [Act.put];(try simp only [List.getElem_toArray]);(try simp only [List.getElem_cons_succ]);(try simp only [List.getElem_cons_zero]);(try simp only [List.setIfInBounds_toArray]);(try simp only [List.set_cons_succ]);(try simp only [List.set_cons_zero])
 refine WL.take (i:=2) (v:=?_) rfl (by kernel_rfl) (by decide) (by decide +kernel) (by decide +kernel) (fun _ _ _ h => h) rfl ?_ hS0 ?_
 rotate_left
 ·(intro w' hSw;(try dsimp only at hSw);go_simp;(try with_reducible rfl))
 simp only [Act.put];(try simp only [List.getElem_toArray]);(try simp only [List.getElem_cons_succ]);(try simp only [List.getElem_cons_zero]);(try simp only [List.setIfInBounds_toArray]);(try simp only [List.set_cons_succ]);(try simp only [List.set_cons_zero])
 refine WL.take (i:=3) (v:=?_) rfl (by kernel_rfl) (by decide) (by decide +kernel) (by decide +kernel) (fun _ _ _ h => h) rfl ?_ hS0 ?_
 rotate_left
 ·(intro w' hSw;(try dsimp only at hSw);go_simp;(try with_reducible rfl))
 simp only [Act.put];(try simp only [List.getElem_toArray]);(try simp only [List.getElem_cons_succ]);(try simp only [List.getElem_cons_zero]);(try simp only [List.setIfInBounds_toArray]);(try simp only [List.set_cons_succ]);(try simp only [List.set_cons_zero])
 refine WL.take (i:=4) (v:=_) rfl (by kernel_rfl) (by decide) (by decide +kernel) (by decide +kernel) (fun _ _ _ h => h) rfl (fun w' hSw => exec_row 24 _ (hSw.2.2) Tryz.underlying24 rfl h32x _ rfl rfl) hS0 ?_
 simp only [Act.put];(try simp only [List.getElem_toArray]);(try simp only [List.getElem_cons_succ]);(try simp only [List.getElem_cons_zero]);(try simp only [List.setIfInBounds_toArray]);(try simp only [List.set_cons_succ]);(try simp only [List.set_cons_zero])
 refine WL.take (i:=5) (v:=.tuple #[.agg #[.int .i64 (r.getD ob0).kind,.string (r.getD ob0).body],.bool r.isSome]) rfl (by kernel_rfl) (by decide) (by decide +kernel) (by decide +kernel) (fun _ _ _ h => h) rfl (fun w' hSw => exec_lookup 106 _ _ _ _ rfl rfl rfl (HRL.out w' hSw.2.1)) hS0 ?_
 simp only [Act.put];(try simp only [List.getElem_toArray]);(try simp only [List.getElem_cons_succ]);(try simp only [List.getElem_cons_zero]);(try simp only [List.setIfInBounds_toArray]);(try simp only [List.set_cons_succ]);(try simp only [List.set_cons_zero])
 refine WL.take (i:=6) (v:=?_) rfl (by kernel_rfl) (by decide) (by decide +kernel) (by decide +kernel) (fun _ _ _ h => h) rfl ?_ hS0 ?_
 rotate_left
 ·(intro w' hSw;(try dsimp only at hSw);go_simp;(try with_reducible rfl))
 simp only [Act.put];(try simp only [List.getElem_toArray]);(try simp only [List.getElem_cons_succ]);(try simp only [List.getElem_cons_zero]);(try simp only [List.setIfInBounds_toArray]);(try simp only [List.set_cons_succ]);(try simp only [List.set_cons_zero])
 refine WL.take (i:=7) (v:=?_) rfl (by kernel_rfl) (by decide) (by decide +kernel) (by decide +kernel) (fun _ _ _ h => h) rfl ?_ hS0 ?_
 rotate_left
 ·(intro w' hSw;(try dsimp only at hSw);go_simp;(try with_reducible rfl))
 simp only [Act.put];(try simp only [List.getElem_toArray]);(try simp only [List.getElem_cons_succ]);(try simp only [List.getElem_cons_zero]);(try simp only [List.setIfInBounds_toArray]);(try simp only [List.set_cons_succ]);(try simp only [List.set_cons_zero])
 refine WL.take (i:=8) (v:=?_) rfl (by kernel_rfl) (by decide) (by decide +kernel) (by decide +kernel) (fun _ _ _ h => h) rfl ?_ hS0 ?_
 rotate_left
 ·(intro w' hSw;(try dsimp only at hSw);go_simp;(try with_reducible rfl))
 simp only [Act.put];(try simp only [List.getElem_toArray]);(try simp only [List.getElem_cons_succ]);(try simp only [List.getElem_cons_zero]);(try simp only [List.setIfInBounds_toArray]);(try simp only [List.set_cons_succ]);(try simp only [List.set_cons_zero])
 refine WL.one (i:=9) rfl (by decide) (by decide +kernel) ?_
 go_wp2
 have hb1:Below W.heap.size W (W.alloc (.cells #[.int .i64 0,.string ⟨#[]⟩] 93)).drew:=((Below.refl _ _).alloc (Nat.le_refl _) _).drew
 have hr2:=rangeAt_below hr1 hb1 (by rw [HSW.out];omega)
 have hth1:(W.alloc (.cells #[.int .i64 0,.string ⟨#[]⟩] 93)).drew.there W.heap.size 0 2:=(Arr.ofList W [.int .i64 0,.string ⟨#[]⟩] 93).drew.there
 have hT1:=there_below HT.out hb1 (by rw [HSW.out];omega)
 have HTH1:=Lib.hid hth1
 refine ⟨HSI.out _ (HW.out.trans (hb1.mono HW.out.size)) hr2,?_⟩
 refine WL.one (i:=10) rfl (by decide) (by decide +kernel) ?_
 refine wpList_store_list rfl 93 _ _ rfl W.heap.size 0 [.int .i64 (r.getD ob0).kind,.string (r.getD ob0).body] rfl rfl 2 rfl HTH1.out (by kernel_rfl) HOB.out ?_
 simp only [Act.put];(try simp only [List.getElem_toArray]);(try simp only [List.getElem_cons_succ]);(try simp only [List.getElem_cons_zero]);(try simp only [List.setIfInBounds_toArray]);(try simp only [List.set_cons_succ]);(try simp only [List.set_cons_zero])
 have hb2:=below_setCells (B:=W.heap.size) (a:=W) W.heap.size (Nat.le_refl _) [.int .i64 (r.getD ob0).kind,.string (r.getD ob0).body] 0 _ hb1
 have hr3:=rangeAt_below hr1 hb2 (by rw [HSW.out];omega)
 have hT2:=there_below HT.out hb2 (by rw [HSW.out];omega)
 have hc3:=World.rangeAt_setCells_same (W.alloc (.cells #[.int .i64 0,.string ⟨#[]⟩] 93)).drew W.heap.size 0 [.int .i64 (r.getD ob0).kind,.string (r.getD ob0).body] HTH1.out
 have HB2:=Lib.hid (HW.out.trans (hb2.mono HW.out.size))
 generalize ((W.alloc (.cells #[.int .i64 0,.string ⟨#[]⟩] 93)).drew).setCells W.heap.size 0 [.int .i64 (r.getD ob0).kind,.string (r.getD ob0).body] = W3 at hr3 hT2 hc3 HB2 hb2
 refine ⟨HSI.out _ HB2.out hr3,?_⟩
 refine WL.last (n:=11) rfl rfl (by decide +kernel) (by decide +kernel) ?_
 have HC3:=Lib.hid hc3
 have HT2:=Lib.hid hT2
 have HF:=Lib.hid (below_setCells (B:=w.heap.size) (a:=w) (w.heap.size + 1) (by omega) [.int .i64 (r.getD ob0).kind,.string (r.getD ob0).body] 0 W3 HB2.out)
 have HR:=Lib.hid (World.rangeAt_setCells_same W3 (w.heap.size + 1) 0 [.int .i64 (r.getD ob0).kind,.string (r.getD ob0).body] hT2)
 clear hb1 hr2 hth1 hT1 hb2 hr3 hT2 hc3 hr1
 go_wp2_with (first | (refine wpList_load_mid rfl 93 _ rfl W.heap.size 0 rfl [.int .i64 (r.getD ob0).kind,.string (r.getD ob0).body] _ HC3.out Tryz.underlying93 rfl (by kernel_rfl) ?_) | (refine wpList_store_list rfl 93 _ _ rfl (w.heap.size + 1) 0 [.int .i64 (r.getD ob0).kind,.string (r.getD ob0).body] rfl rfl 2 rfl HT2.out (by kernel_rfl) HOB.out ?_))
 refine ret_cell2 rfl (w.heap.size + 1) 0 rfl _ _ HR.out Tryz.underlying93 rfl (by kernel_rfl) rfl _ rfl ⟨rfl,HF.out⟩
theorem obC_one (o:Ob):∀ v ∈ obC o,v.oneCell' = true:=by unfold obC;simp [Value.oneCell']
theorem lastS_take {l:List Ob} {k:Nat} (h:k < l.length) (x:List UInt8):lastS (l.take (k + 1)) x = if rightOb l[k] = true ∧ idO l[k] = x then some l[k] else lastS (l.take k) x:=by
 rw [List.take_succ_eq_append_getElem h,lastS_snoc]
theorem IdMap.grown {w w':World} {b n:Nat} {f:List UInt8 → Option Ob} (h:IdMap w b n f) (hb:Below w.heap.size w w'):IdMap w' b n f:=h.below hb h.lt
set_option maxRecDepth 100000 in
set_option maxHeartbeats 4000000 in
theorem oof_any (v:Value) (l:List Ob) (w:World) (hv:ObRow w v l) (hn:l.length ≤ 1000) (hL:Laid w) :
  Calls Tryz.prog 20 #[v] w fun e w' => ∃ r,e = .returned r ∧ SrcP w' r (lastS l) ∧ Below w.heap.size w w':=by
 obtain ⟨ao,cap,rfl,hmax,hv⟩:=hv.open
 have HV:=Lib.hid hv
 have HLD:=Lib.hid hL
 clear hv hL
 unfold maxLen at hmax
 have hmm:=@run_makeMap Tryz.prog
 obtain ⟨hz,_⟩:=id_zeroC
 have h32:(Tryz.prog.info? 24).map (·.size) = some 32:=by kernel_rfl
 have h2:(Tryz.prog.info? 93).map (·.size) = some 2:=by kernel_rfl
 have HZL:Hid ((idC zid).length = 32):=Lib.hid (by rw [idC_len,zid_len])
 generalize idC zid = cz at hz HZL
 go_enter Tryz.func20,Tryz.ntmps20
 go_wp2
 have hb0:Below w.heap.size w ((w.alloc (.map #[] 0)).alloc (.cells #[.map (some w.heap.size)] 108)):=((Below.refl _ _).alloc (Nat.le_refl _) _).alloc (by simp) _
 have hm0:IdMap ((w.alloc (.map #[] 0)).alloc (.cells #[.map (some w.heap.size)] 108)) w.heap.size 0 (lastS (l.take 0)):=by
  have h:IdMap (w.alloc (.map #[] 0)) w.heap.size 0 (lastS (l.take 0)):=⟨_,World.ownsMap_made _ _ _ _,saysI_none⟩
  exact h.grown ((Below.refl _ _).alloc (Nat.le_refl _) _)
 have hc0:((w.alloc (.map #[] 0)).alloc (.cells #[.map (some w.heap.size)] 108)).cell? ⟨w.heap.size + 1,0,none⟩ = some (.map (some w.heap.size)):=by
  have:=World.cell?_alloc_new (w.alloc (.map #[] 0)) #[.map (some w.heap.size)] 108 0
  rw [World.size_alloc] at this
  rw [this];rfl
 have HB0:=Lib.hid hb0
 have HM0:=Lib.hid hm0
 have HC0:=Lib.hid hc0
 clear hb0 hm0 hc0
 go_loopw [13] (fun i wr => ∃ (k n:Nat),k ≤ l.length ∧ n ≤ k ∧ i = .int .i64 k ∧ Hid (IdMap wr w.heap.size n (lastS (l.take k))) ∧ Hid (wr.cell? ⟨w.heap.size + 1,0,none⟩ = some (.map (some w.heap.size))) ∧ Hid (Below w.heap.size w wr)) (fun i _ => (l.length - intOf i).toNat)
 case atStart => exact ⟨0,0,by omega,by omega,rfl,HM0,HC0,HB0⟩
 case round =>
  obtain ⟨wo,rfl⟩:∃ wo:World,wo = wr:=⟨_,rfl⟩
  obtain ⟨k,n,hk,hnk,rfl,HM,HC,HB⟩:=hrel
  have hsz:=HB.out.size
  have hcl:=World.block_lt_of_cell? wo _ HC.out
  by_cases hlt:k < l.length
  ·obtain ⟨b,off,rfl,hbl,hcell⟩:=HV.out (by intro e;rw [e] at hlt;simp at hlt)
   have f1:=rangeAt_below (hcell k hlt) HB.out hbl
   have k0:(0:Int) ≤ k:=by omega
   have k1:(k:Int) < l.length:=by omega
   have hLS:=lastS_take hlt
   clear hcell
   generalize l[k] = A at f1 hLS
   obtain ⟨ka,sa⟩:=A
   have hlen:(obC ⟨ka,sa⟩).length = 2:=rfl
   have h2s:(Tryz.prog.info? 93).map (·.size) = some (obC ⟨ka,sa⟩).length:=by rw [hlen];exact h2
   have hth:(wo.alloc (.cells #[.int .i64 0,.string ⟨#[]⟩] 93)).there wo.heap.size 0 2:=(Arr.ofList wo [.int .i64 0,.string ⟨#[]⟩] 93).there
   have hr1:=World.rangeAt_setCells_same (wo.alloc (.cells #[.int .i64 0,.string ⟨#[]⟩] 93)) wo.heap.size 0 (obC ⟨ka,sa⟩) hth
   have hb1:=below_setCells (B:=wo.heap.size) (a:=wo) wo.heap.size (Nat.le_refl _) (obC ⟨ka,sa⟩) 0 _ ((Below.refl _ _).alloc (Nat.le_refl _) (.cells #[.int .i64 0,.string ⟨#[]⟩] 93))
   have hone:=obC_one ⟨ka,sa⟩
   have HID:=Lib.hid (fun W (hL:Laid W) => oid_any ka sa W hL)
   have F1:=Lib.hid f1
   have HTH:=Lib.hid hth
   have HON:=Lib.hid hone
   have HR1X:=Lib.hid hr1
   obtain ⟨W1,hW1⟩:∃ W1,(wo.alloc (.cells #[.int .i64 0,.string ⟨#[]⟩] 93)).setCells wo.heap.size 0 (obC ⟨ka,sa⟩) = W1:=⟨_,rfl⟩
   rw [hW1] at hr1 hb1
   have HW1:=Lib.hid hW1
   have HR1:=Lib.hid hr1
   have HB1:=Lib.hid hb1
   have hs1:wo.heap.size < W1.heap.size:=World.block_lt_of_cell? W1 ⟨wo.heap.size,0,none⟩ (hr1 0 _ rfl)
   clear f1 hth hone hW1 hr1 hb1
   go_wp2_with (first | (refine wpList_load_mid rfl 93 _ rfl b (off + k * 2) rfl (obC ⟨ka,sa⟩) _ F1.out Tryz.underlying93 rfl h2s ?_) | (refine wpList_store_list rfl 93 _ _ rfl wo.heap.size 0 (obC ⟨ka,sa⟩) rfl rfl 2 rfl HTH.out h2 HON.out ?_) | (refine wpList_load_mid rfl 93 _ rfl wo.heap.size 0 rfl (obC ⟨ka,sa⟩) _ HR1X.out Tryz.underlying93 rfl h2s ?_))
   rw [HW1.out]
   clear HR1X HW1
   refine (HID.out W1 (HLD.out.below (HB.out.trans (HB1.out.mono HB.out.size)))).mono ?_
   intro e w2 h
   obtain ⟨rfl,hb2⟩:=h
   have hil:(idC (if rightOb ⟨ka,sa⟩ = true then idO ⟨ka,sa⟩ else zid)).length = 32:=by
    rw [idC_len];split
    ·exact idO_len _
    ·exact zid_len
   have hio:=idC_one (if rightOb ⟨ka,sa⟩ = true then idO ⟨ka,sa⟩ else zid)
   have hbo2:Below wo.heap.size wo w2:=HB1.out.trans (hb2.mono HB1.out.size)
   have hs2:=hb2.size
   have hr2:=rangeAt_below HR1.out hb2 hs1
   have HBO2:=Lib.hid hbo2
   have HR2:=Lib.hid hr2
   have HIX:Hid (rightOb ⟨ka,sa⟩ = true → (if rightOb ⟨ka,sa⟩ = true then idO ⟨ka,sa⟩ else zid) = idO ⟨ka,sa⟩):=Lib.hid (fun h => if_pos h)
   generalize (if rightOb ⟨ka,sa⟩ = true then idO ⟨ka,sa⟩ else zid) = y at hil hio HIX
   have hth2:(w2.alloc (.cells cz.toArray 24)).there w2.heap.size 0 32:=by
    have:=(Arr.ofList w2 cz 24).there
    rw [HZL.out] at this;exact this
   have hr3:=World.rangeAt_setCells_same (w2.alloc (.cells cz.toArray 24)) w2.heap.size 0 (idC y) (by rw [hil];exact hth2)
   have hb3:=below_setCells (B:=w2.heap.size) (a:=w2) w2.heap.size (Nat.le_refl _) (idC y) 0 _ ((Below.refl _ _).alloc (Nat.le_refl _) (.cells cz.toArray 24))
   have hyl:y.length = 32:=by rw [idC_len] at hil;exact hil
   have h32y:(Tryz.prog.info? 24).map (·.size) = some (idC y).length:=by rw [hil];exact h32
   have HTH2:=Lib.hid hth2
   have HIL:=Lib.hid hil
   have HIO:=Lib.hid hio
   have HYL:=Lib.hid hyl
   obtain ⟨W3,hW3⟩:∃ W3,(w2.alloc (.cells cz.toArray 24)).setCells w2.heap.size 0 (idC y) = W3:=⟨_,rfl⟩
   rw [hW3] at hr3 hb3
   have hs3:w2.heap.size < W3.heap.size:=World.block_lt_of_cell? W3 ⟨w2.heap.size,0,none⟩ (hr3 0 ((idC y)[0]'(by rw [hil];omega)) (by simp))
   have HR3:=Lib.hid hr3
   have HR23:=Lib.hid (rangeAt_below HR2.out hb3 (by omega))
   have HB3:=Lib.hid (HBO2.out.trans (hb3.mono HBO2.out.size))
   have HM3:=Lib.hid (HM.out.grown HB3.out)
   have HC3:=Lib.hid (below_load HC.out HB3.out hcl)
   have HBW3:=Lib.hid (HB.out.trans (HB3.out.mono HB.out.size))
   have HW3:=Lib.hid hW3
   have HLS:=Lib.hid hLS
   clear hb2 hbo2 hr2 hio hil hyl hth2 hr3 hb3 hW3 hLS HID
   cases hr:rightOb ⟨ka,sa⟩ with
   | false =>
    have HF:Hid (lastS (l.take (k + 1)) = lastS (l.take k)):=Lib.hid (funext fun x => by rw [HLS.out x,if_neg (fun h => by rw [hr] at h;cases h.1)])
    clear hr HIX HLS
    generalize idC y = ui at h32y HIL HIO HTH2 HW3 HR3
    go_wp2_with (refine wpList_store_list rfl 24 _ _ rfl w2.heap.size 0 ui rfl rfl 32 HIL.out HTH2.out h32 HIO.out ?_)
    rw [HW3.out]
    go_roundw
    case rel => exact ⟨k + 1,n,by omega,by omega,by go_num,by rw [HF.out];exact HM3,HC3,HBW3⟩
    case measure => simp [intOf];omega
   | true =>
    have HF:Hid (lastS (l.take (k + 1)) = fun q => if q = y then some ⟨ka,sa⟩ else lastS (l.take k) q):=Lib.hid (funext fun x => by
     rw [HLS.out x,HIX.out hr]
     by_cases e:x = idO ⟨ka,sa⟩
     ·rw [if_pos e,if_pos ⟨hr,e.symm⟩]
     ·rw [if_neg e,if_neg (fun h => e h.2.symm)])
    clear hr HIX HLS
    obtain ⟨ui,hui⟩:∃ ui,ui = idC y:=⟨_,rfl⟩
    rw [← hui] at h32y HIL HIO HW3 HR3 ⊢
    have HUI:=Lib.hid hui
    clear hui
    go_wp2_with (refine wpList_store_list rfl 24 _ _ rfl w2.heap.size 0 ui rfl rfl 32 HIL.out HTH2.out h32 HIO.out ?_)
    rw [HW3.out]
    have HS0:W3.drew.cell? ⟨w.heap.size + 1,0,none⟩ = some (.map (some w.heap.size)) ∧ W3.drew.rangeAt w2.heap.size 0 ui ∧ W3.drew.rangeAt wo.heap.size 0 (obC ⟨ka,sa⟩):=⟨HC3.out,HR3.out,HR23.out⟩
    have HMD:=Lib.hid (HM3.out.grown (Below.refl _ _).drew)
    refine wp_region_L 6 (fun w' => w'.cell? ⟨w.heap.size + 1,0,none⟩ = some (.map (some w.heap.size)) ∧ w'.rangeAt w2.heap.size 0 ui ∧ w'.rangeAt wo.heap.size 0 (obC ⟨ka,sa⟩)) (by kernel_rfl) (by kernel_rfl) ?_
    refine WL.take (i:=0) (v:=?_) rfl (by kernel_rfl) (by decide) (by decide +kernel) (by decide +kernel) (fun _ _ _ h => h) rfl ?_ HS0 ?_
    rotate_left
    ·(intro w' hSw;(try dsimp only at hSw);go_simp;(try with_reducible rfl))
    simp only [Act.put];(try simp only [List.getElem_toArray]);(try simp only [List.getElem_cons_succ]);(try simp only [List.getElem_cons_zero]);(try simp only [List.setIfInBounds_toArray]);(try simp only [List.set_cons_succ]);(try simp only [List.set_cons_zero])
    refine WL.take (i:=1) (v:=?_) rfl (by kernel_rfl) (by decide) (by decide +kernel) (by decide +kernel) (fun _ _ _ h => h) rfl ?_ HS0 ?_
    rotate_left
    ·(intro w' hSw;(try dsimp only at hSw);go_simp;(try with_reducible rfl))
    simp only [Act.put];(try simp only [List.getElem_toArray]);(try simp only [List.getElem_cons_succ]);(try simp only [List.getElem_cons_zero]);(try simp only [List.setIfInBounds_toArray]);(try simp only [List.set_cons_succ]);(try simp only [List.set_cons_zero])
    refine WL.take (i:=2) (v:=?_) rfl (by kernel_rfl) (by decide) (by decide +kernel) (by decide +kernel) (fun _ _ _ h => h) rfl ?_ HS0 ?_
    rotate_left
    ·(intro w' hSw;(try dsimp only at hSw);go_simp;(try with_reducible rfl))
    simp only [Act.put];(try simp only [List.getElem_toArray]);(try simp only [List.getElem_cons_succ]);(try simp only [List.getElem_cons_zero]);(try simp only [List.setIfInBounds_toArray]);(try simp only [List.set_cons_succ]);(try simp only [List.set_cons_zero])
    refine WL.take (i:=3) (v:=?_) rfl (by kernel_rfl) (by decide) (by decide +kernel) (by decide +kernel) (fun _ _ _ h => h) rfl ?_ HS0 ?_
    rotate_left
    ·(intro w' hSw;(try dsimp only at hSw);go_simp;(try with_reducible rfl))
    simp only [Act.put];(try simp only [List.getElem_toArray]);(try simp only [List.getElem_cons_succ]);(try simp only [List.getElem_cons_zero]);(try simp only [List.setIfInBounds_toArray]);(try simp only [List.set_cons_succ]);(try simp only [List.set_cons_zero])
    refine WL.take (i:=4) (v:=_) rfl (by kernel_rfl) (by decide) (by decide +kernel) (by decide +kernel) (fun _ _ _ h => h) rfl (fun w' hSw => exec_row 24 _ (hSw.2.1) Tryz.underlying24 rfl h32y _ rfl rfl) HS0 ?_
    simp only [Act.put];(try simp only [List.getElem_toArray]);(try simp only [List.getElem_cons_succ]);(try simp only [List.getElem_cons_zero]);(try simp only [List.setIfInBounds_toArray]);(try simp only [List.set_cons_succ]);(try simp only [List.set_cons_zero])
    refine WL.take (i:=5) (v:=_) rfl (by kernel_rfl) (by decide) (by decide +kernel) (by decide +kernel) (fun _ _ _ h => h) rfl (fun w' hSw => exec_row 93 _ (hSw.2.2) Tryz.underlying93 rfl h2s _ rfl rfl) HS0 ?_
    simp only [Act.put];(try simp only [List.getElem_toArray]);(try simp only [List.getElem_cons_succ]);(try simp only [List.getElem_cons_zero]);(try simp only [List.setIfInBounds_toArray]);(try simp only [List.set_cons_succ]);(try simp only [List.set_cons_zero])
    refine WL.last (n:=6) rfl rfl (by decide +kernel) (by decide +kernel) ?_
    refine wpList_update_id rfl (.tmp 26) (.tmp 27) (.tmp 28) 106 rfl Tryz.underlying106 w.heap.size n (lastS (l.take k)) rfl HMD.out y HYL.out ⟨ka,sa⟩ (by rw [← HUI.out];rfl) rfl (by unfold maxLen;omega) ?_
    intro w4 hm4 hg4
    have hc4:=hg4.cell (a:=⟨w.heap.size + 1,0,none⟩) HC3.out (fun e => by have:=Option.some.inj e;dsimp only at this;omega)
    have HB4:=Lib.hid (HBW3.out.grown (show W3.grownBy w4 (some w.heap.size) from ⟨hg4.os,hg4.tape,hg4.output,hg4.size,hg4.block⟩) HBW3.out.size (fun j hj => by cases hj;exact Nat.le_refl _))
    have HM4:=Lib.hid hm4
    have HC4:=Lib.hid hc4
    clear hm4 hc4 hg4
    go_wp2
    go_roundw
    case rel => exact ⟨k + 1,n + 1,by omega,by omega,by go_num,by rw [HF.out];exact HM4,HC4,HB4⟩
    case measure => simp [intOf];omega
  ·obtain rfl:k = l.length:=by omega
   rw [List.take_length] at HM
   go_wp2
   go_ret
   exact ⟨_,rfl,⟨_,_,_,rfl,HC.out,HM.out⟩,HB.out⟩
end Go.Proofs.YtbmiiiccnoiffaaGreatDoor
namespace Go.Proofs.YtbmiiiccnoiffaaGreatDoor
open Go.RowKit
end Go.Proofs.YtbmiiiccnoiffaaGreatDoor

namespace Go.Proofs.YtbmiiiccnoiffaaGreatDoor
open Go.RowKit
structure Wk (wb ob:Nat) (w w':World) (v v':Value):Prop where
 os:w'.os = w.os
 tape:w'.tape = w.tape
 output:w'.output = w.output
 size:w.heap.size ≤ w'.heap.size
 block:∀ k,k < w.heap.size → k ≠ wb → k ≠ ob → v.ownBlock ≠ some k → w'.heap[k]? = w.heap[k]?
 fr:Fr w v v'
theorem Wk.below {wb ob:Nat} {w w':World} (v:Value) (h:Below w.heap.size w w'):Wk wb ob w w' v v:=⟨h.os,h.tape,h.output,h.size,fun k hk _ _ _ => h.block k hk,Fr.refl _ _⟩
theorem Wk.trans {wb ob:Nat} {w w1 w2:World} {a b c:Value} (h1:Wk wb ob w w1 a b) (h2:Wk wb ob w1 w2 b c):Wk wb ob w w2 a c :=
 ⟨h2.os.trans h1.os,h2.tape.trans h1.tape,h2.output.trans h1.output,Nat.le_trans h1.size h2.size,fun k hk n1 n2 n3 => (h2.block k (Nat.lt_of_lt_of_le hk h1.size) n1 n2 (h1.fr.ne hk n3)).trans (h1.block k hk n1 n2 n3),h1.fr.trans h2.fr h1.size⟩
theorem Wk.set {wb ob:Nat} {w:World} (v:Value) (o:Nat) (u:Value):Wk wb ob w (w.setCell ⟨wb,o,none⟩ u) v v:=by
 have hg:=grown_set (World.grownBy.refl w (some wb)) u (o:=o)
 exact ⟨hg.os,hg.tape,hg.output,hg.size,fun k hk n1 _ _ => hg.block k hk (by intro e;cases e;exact n1 rfl),Fr.refl _ _⟩
theorem Wk.put {wb ob:Nat} {w:World} (v u:Value) (o:Nat):Wk wb ob w (w.setCell ⟨ob,o,none⟩ u) v v:=by
 have hg:=grown_set (World.grownBy.refl w (some ob)) u (o:=o)
 exact ⟨hg.os,hg.tape,hg.output,hg.size,fun k hk _ n2 _ => hg.block k hk (by intro e;cases e;exact n2 rfl),Fr.refl _ _⟩
theorem Wk.grown {wb ob:Nat} {w w':World} {v v':Value} (h:w.grownBy w' v.ownBlock) (hf:Fr w v v'):Wk wb ob w w' v v' :=
 ⟨h.os,h.tape,h.output,h.size,fun k hk _ _ n3 => h.block k hk (fun e => n3 e.symm),hf⟩
theorem Wk.cell {wb ob:Nat} {w w':World} {v v':Value} (h:Wk wb ob w w' v v') {b o:Nat} {u:Value} (hc:w.cell? ⟨b,o,none⟩ = some u) (n1:b ≠ wb) (n2:b ≠ ob) (n3:v.ownBlock ≠ some b):w'.cell? ⟨b,o,none⟩ = some u:=by
 have hb:b < w.heap.size:=World.block_lt_of_cell? w _ hc
 have:=h.block b hb n1 n2 n3
 rw [World.cell?_of_block (w:=w) (a:=⟨b,o,none⟩) this];exact hc
end Go.Proofs.YtbmiiiccnoiffaaGreatDoor

namespace Go.Proofs.YtbmiiiccnoiffaaGreatDoor
open Go.RowKit
theorem method_get (a:Addr) (w:World):(method 440 105 (.pointer (some a)) "Get").run Tryz.prog w = .ok (269,.pointer (some a)) w:=by kernel_rfl
end Go.Proofs.YtbmiiiccnoiffaaGreatDoor

namespace Go.Proofs.YtbmiiiccnoiffaaGreatDoor
open Go.RowKit
end Go.Proofs.YtbmiiiccnoiffaaGreatDoor
