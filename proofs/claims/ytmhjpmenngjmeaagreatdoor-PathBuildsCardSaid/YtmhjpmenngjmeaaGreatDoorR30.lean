/- YtmhjpmenngjmeaaGreatDoorR30: texts Z0, Z1, JO, Z5 of this claim, in one. -/
import Derived.Deep.CutRange
import Derived.Test.YtmhjpmenngjmeaaGreatDoorR12
import Derived.Test.YtmhjpmenngjmeaaGreatDoorR14
import Derived.Test.YtmhjpmenngjmeaaGreatDoorR19
import Derived.Test.YtmhjpmenngjmeaaGreatDoorR25
import Derived.Test.YtmhjpmenngjmeaaGreatDoorR8
namespace Go.Proofs.YtmhjpmenngjmeaaGreatDoor
open Go.RowKit Go.Maps Go.WideMaps
set_option maxRecDepth 100000
def SaysI (D:DataW Value) (f:List UInt8 → Option Ob):Prop :=
 ∀ x,x.length = 32 → Maps.has D (keyI x) = (f x).isSome ∧ ∀ o,f x = some o → ∀ zd,D.atKey (keyI x) zd = .held (.agg #[.int .i64 o.kind,.string o.body])
def IdMap (w:World) (b n:Nat) (f:List UInt8 → Option Ob):Prop:=∃ D:DataW Value,w.ownsMap Tryz.prog 27 heldR b n D ∧ SaysI D f
theorem saysI_none:SaysI (.map []) fun _ => none:=fun _ _ => ⟨rfl,fun _ h => by cases h⟩
theorem saysI_put {D:DataW Value} {f:List UInt8 → Option Ob} (h:SaysI D f) (hm:IsMap D) (p:List UInt8) (hp:p.length = 32) (o:Ob):SaysI (D.put (keyI p) (.held (.agg #[.int .i64 o.kind,.string o.body]))) fun q => if q = p then some o else f q:=by
 intro q hq
 show has _ _ = (if q = p then some o else f q).isSome ∧ ∀ t,(if q = p then some o else f q) = some t → ∀ zd,_ = _
 have hk:=idKeyed.key (keyI_eq hp)
 by_cases e:q = p
 ·subst e
  rw [if_pos rfl]
  exact ⟨by rw [has_put_same hm hk];rfl,fun t ht zd => by cases ht;exact atKey_put_same hm hk _ _⟩
 ·rw [if_neg e]
  have hne:keyI q ≠ keyI p:=fun h => e (keyI_inj hq hp h)
  exact ⟨by rw [has_put_other hne];exact (h q hq).1,fun t ht zd => by rw [atKey_put_other hne];exact (h q hq).2 t ht zd⟩
theorem IdMap.below {w w':World} {b n B:Nat} {f:List UInt8 → Option Ob} (h:IdMap w b n f) (hb:Below B w w') (hB:b < B):IdMap w' b n f:=by
 obtain ⟨D,⟨es,clock,h1,h2⟩,h3⟩:=h
 exact ⟨D,⟨es,clock,(hb.block b hB).trans h1,h2⟩,h3⟩
theorem IdMap.lt {w:World} {b n:Nat} {f:List UInt8 → Option Ob} (h:IdMap w b n f):b < w.heap.size:=by obtain ⟨D,h,_⟩:=h;exact h.lt
theorem zeroO (w:World):(zeroValue 59).run Tryz.prog w = .ok (.agg #[.int .i64 0,.string ⟨#[]⟩]) w:=by kernel_rfl
theorem run_lookup_id (w:World) (t:TypeId) (ht:Tryz.prog.underlying t = some (.map 27 59)) (b n:Nat) (f:List UInt8 → Option Ob) (hown:IdMap w b n f) (x:List UInt8) (hx:x.length = 32) :
  (Instr.lookup t (.map (some b)) (.agg (idC x).toArray) true).run Tryz.prog w = .ok (.tuple #[.agg #[.int .i64 ((f x).getD ob0).kind,.string ((f x).getD ob0).body],.bool (f x).isSome]) w:=by
 obtain ⟨D,hown,hs⟩:=hown
 obtain ⟨v,ps,hrun,hv⟩:=hown.look_ok idKeyed ht (zeroO w) (zd:=.held (.agg #[.int .i64 0,.string ⟨#[]⟩])) (zp:=[]) rfl (keyI_eq hx)
 rw [hrun]
 obtain ⟨h1,h2⟩:=hs x hx
 have hv2:D.atKey (keyI x) (.held (.agg #[.int .i64 0,.string ⟨#[]⟩])) = .held v:=by
  unfold heldR at hv
  injection hv with hv
  exact (congrArg Prod.fst hv).symm
 rw [h1]
 cases e:f x with
 | none =>
  rw [e] at h1
  rw [atKey_of_not_has h1] at hv2
  injection hv2 with h
  rw [← h];rfl
 | some o =>
  rw [h2 o e] at hv2
  injection hv2 with h
  rw [← h];rfl
theorem wpList_update_id {w:World} {ops:Array Oper} {rest:List Oper} {o:Oper} {a:Act} {Q:Exit → Act → World → Prop} (hg:o.guard = none) (m x v:Operand) (t:TypeId) (hop:o.op = Op.mapUpdate t m x v)
  (ht:Tryz.prog.underlying t = some (.map 27 59)) (b n:Nat) (f:List UInt8 → Option Ob) (hm:a.eval m = .map (some b)) (hown:IdMap w b n f) (p:List UInt8) (hp:p.length = 32) (ob:Ob) (hx:a.eval x = .agg (idC p).toArray) (hv:a.eval v = .agg #[.int .i64 ob.kind,.string ob.body]) (hn:n < maxLen)
  (hK:∀ w',IdMap w' b (n + 1) (fun q => if q = p then some ob else f q) → w.grownBy w' (some b) → wpList Tryz.prog ops Q rest (a.put o.dst undef) w'):wpList Tryz.prog ops Q (o :: rest) a w:=by
 obtain ⟨D,hown,hD⟩:=hown
 exact wpList_mapUpdate_own w hg m x v t hop 27 59 idKeyed ht heldR b n D hm hown hn (.agg (idC p).toArray) (.agg #[.int .i64 ob.kind,.string ob.body]) (keyI p) hx hv (keyI_eq hp) _ [] rfl fun w' h1 h2 => hK w' ⟨_,h1,saysI_put hD hown.isMap p hp ob⟩ h2
end Go.Proofs.YtmhjpmenngjmeaaGreatDoor
namespace Go.Proofs.YtmhjpmenngjmeaaGreatDoor
open Go.RowKit Go.Maps
def SrcP (w:World) (v:Value) (f:List UInt8 → Option Ob):Prop:=∃ lb mb n,v = .iface 72 (.pointer (some ⟨lb,0,none⟩)) ∧ w.cell? ⟨lb,0,none⟩ = some (.map (some mb)) ∧ IdMap w mb n f
theorem SrcP.below {w w':World} {v:Value} {f:List UInt8 → Option Ob} (h:SrcP w v f) (hb:Below w.heap.size w w'):SrcP w' v f:=by
 obtain ⟨lb,mb,n,rfl,h1,h2⟩:=h
 exact ⟨lb,mb,n,rfl,below_load h1 hb (World.block_lt_of_cell? w _ h1),h2.below hb h2.lt⟩
theorem exec_lookup {P:Program} {w:World} {o:Oper} {a:Act} {v:Value} (t:TypeId) (m x:Operand) (mv xv:Value) (hop:o.op = .lookup t m x true) (hm:a.eval m = mv) (hx:a.eval x = xv) (h:(Instr.lookup t mv xv true).run P w = .ok v w):(execOp a.eval o).run P w = .ok (.value v) w:=by
 unfold execOp
 simp only [hop,hm,hx,Sem.run_bind,h,Result.andThen_ok]
 rfl
set_option maxRecDepth 100000 in
set_option maxHeartbeats 2000000 in
theorem oget_any (lb mb n:Nat) (f:List UInt8 → Option Ob) (x:List UInt8) (w:World) (hc:w.cell? ⟨lb,0,none⟩ = some (.map (some mb))) (hm:IdMap w mb n f) (hx:x.length = 32) :
  Calls Tryz.prog 166 #[.pointer (some ⟨lb,0,none⟩),.agg (idC x).toArray] w fun e w' => e = .returned (.tuple #[.agg #[.int .i64 ((f x).getD ob0).kind,.string ((f x).getD ob0).body],.bool (f x).isSome]) ∧ Below w.heap.size w w':=by
 have hlb:=World.block_lt_of_cell? w _ hc
 have hlm:=hm.lt
 have hxl:(idC x).length = 32:=by rw [idC_len,hx]
 have h32x:=h32_of hxl
 have HRL:=Lib.hid (fun W (h:Below w.heap.size w W) => run_lookup_id W 48 Tryz.underlying48 mb n f (hm.below h hlm) x hx)
 generalize f x = r at HRL
 generalize idC x = ux at hxl h32x HRL
 obtain ⟨W,hW⟩:∃ W,W = (w.alloc (.cells ux.toArray 27)).alloc (.cells #[.int .i64 0,.string ⟨#[]⟩] 59):=⟨_,rfl⟩
 have hb0:Below w.heap.size w W:=by rw [hW];exact ((Below.refl _ _).alloc (Nat.le_refl _) _).alloc (by simp) _
 have hr1:W.rangeAt w.heap.size 0 ux:=by
  rw [hW]
  exact rangeAt_below (range_new w ux 27 rfl) ((Below.refl _ _).alloc (Nat.le_refl _) _) (by simp)
 have hth:=(Arr.ofList (w.alloc (.cells ux.toArray 27)) [.int .i64 0,.string ⟨#[]⟩] 59).there
 rw [World.size_alloc] at hth
 have hth':W.there (w.heap.size + 1) 0 2:=by rw [hW];exact hth
 have hszW:W.heap.size = w.heap.size + 1 + 1:=by rw [hW];simp
 have HW:=Lib.hid hb0
 have HT:=Lib.hid hth'
 clear hth hth' hb0 hm hx
 go_enter Tryz.func166,Tryz.ntmps166
 go_wp2
 rw [← hW]
 clear hW
 have HSI:Hid (∀ w',Below w.heap.size w w' → w'.rangeAt w.heap.size 0 ux → w'.cell? ⟨lb,0,none⟩ = some (.map (some mb)) ∧ Below w.heap.size w w' ∧ w'.rangeAt w.heap.size 0 ux):=Lib.hid (fun w' h h2 => ⟨below_load hc h hlb,h,h2⟩)
 have hS0:=HSI.out W.drew HW.out.drew hr1
 have hob:∀ v ∈ ([.int .i64 (r.getD ob0).kind,.string (r.getD ob0).body]:List Value),v.oneCell' = true:=by simp [Value.oneCell']
 have HOB:=Lib.hid hob
 have HSW:=Lib.hid hszW
 clear hc hob hszW
 refine wp_region_L 11 (fun w' => w'.cell? ⟨lb,0,none⟩ = some (.map (some mb)) ∧ Below w.heap.size w w' ∧ w'.rangeAt w.heap.size 0 ux) (by kernel_rfl) (by kernel_rfl) ?_
 refine WL.take (i:=0) (v:=?_) rfl (by kernel_rfl) (by decide) (by decide +kernel) (by decide +kernel) (fun _ _ _ h => h) rfl ?_ hS0 ?_
 rotate_left
 ·(intro w' hSw;(try dsimp only at hSw);go_simp;(try with_reducible rfl))
 simp only [Act.put];(try simp only [List.getElem_toArray]);(try simp only [List.getElem_cons_succ]);(try simp only [List.getElem_cons_zero]);(try simp only [List.setIfInBounds_toArray]);(try simp only [List.set_cons_succ]);(try simp only [List.set_cons_zero])
 refine WL.take (i:=1) (v:=?_) rfl (by kernel_rfl) (by decide) (by decide +kernel) (by decide +kernel) (fun _ _ _ h => h) rfl ?_ hS0 ?_
 rotate_left
 ·(intro w' hSw;(try dsimp only at hSw);go_simp;(try with_reducible rfl))
 simp only [Act.put];(try simp only [List.getElem_toArray]);(try simp only [List.getElem_cons_succ]);(try simp only [List.getElem_cons_zero]);(try simp only [List.setIfInBounds_toArray]);(try simp only [List.set_cons_succ]);(try simp only [List.set_cons_zero])
 refine WL.take (i:=2) (v:=?_) rfl (by kernel_rfl) (by decide) (by decide +kernel) (by decide +kernel) (fun _ _ _ h => h) rfl ?_ hS0 ?_
 rotate_left
 ·(intro w' hSw;(try dsimp only at hSw);go_simp;(try with_reducible rfl))
 simp only [Act.put];(try simp only [List.getElem_toArray]);(try simp only [List.getElem_cons_succ]);(try simp only [List.getElem_cons_zero]);(try simp only [List.setIfInBounds_toArray]);(try simp only [List.set_cons_succ]);(try simp only [List.set_cons_zero])
 refine WL.take (i:=3) (v:=?_) rfl (by kernel_rfl) (by decide) (by decide +kernel) (by decide +kernel) (fun _ _ _ h => h) rfl ?_ hS0 ?_
 rotate_left
 ·(intro w' hSw;(try dsimp only at hSw);go_simp;(try with_reducible rfl))
 simp only [Act.put];(try simp only [List.getElem_toArray]);(try simp only [List.getElem_cons_succ]);(try simp only [List.getElem_cons_zero]);(try simp only [List.setIfInBounds_toArray]);(try simp only [List.set_cons_succ]);(try simp only [List.set_cons_zero])
 refine WL.take (i:=4) (v:=_) rfl (by kernel_rfl) (by decide) (by decide +kernel) (by decide +kernel) (fun _ _ _ h => h) rfl (fun w' hSw => exec_row 27 _ (hSw.2.2) Tryz.underlying27 rfl h32x _ rfl rfl) hS0 ?_
 simp only [Act.put];(try simp only [List.getElem_toArray]);(try simp only [List.getElem_cons_succ]);(try simp only [List.getElem_cons_zero]);(try simp only [List.setIfInBounds_toArray]);(try simp only [List.set_cons_succ]);(try simp only [List.set_cons_zero])
 refine WL.take (i:=5) (v:=.tuple #[.agg #[.int .i64 (r.getD ob0).kind,.string (r.getD ob0).body],.bool r.isSome]) rfl (by kernel_rfl) (by decide) (by decide +kernel) (by decide +kernel) (fun _ _ _ h => h) rfl (fun w' hSw => exec_lookup 48 _ _ _ _ rfl rfl rfl (HRL.out w' hSw.2.1)) hS0 ?_
 simp only [Act.put];(try simp only [List.getElem_toArray]);(try simp only [List.getElem_cons_succ]);(try simp only [List.getElem_cons_zero]);(try simp only [List.setIfInBounds_toArray]);(try simp only [List.set_cons_succ]);(try simp only [List.set_cons_zero])
 refine WL.take (i:=6) (v:=?_) rfl (by kernel_rfl) (by decide) (by decide +kernel) (by decide +kernel) (fun _ _ _ h => h) rfl ?_ hS0 ?_
 rotate_left
 ·(intro w' hSw;(try dsimp only at hSw);go_simp;(try with_reducible rfl))
 simp only [Act.put];(try simp only [List.getElem_toArray]);(try simp only [List.getElem_cons_succ]);(try simp only [List.getElem_cons_zero]);(try simp only [List.setIfInBounds_toArray]);(try simp only [List.set_cons_succ]);(try simp only [List.set_cons_zero])
 refine WL.take (i:=7) (v:=?_) rfl (by kernel_rfl) (by decide) (by decide +kernel) (by decide +kernel) (fun _ _ _ h => h) rfl ?_ hS0 ?_
 rotate_left
 ·(intro w' hSw;(try dsimp only at hSw);go_simp;(try with_reducible rfl))
 simp only [Act.put];(try simp only [List.getElem_toArray]);(try simp only [List.getElem_cons_succ]);(try simp only [List.getElem_cons_zero]);(try simp only [List.setIfInBounds_toArray]);(try simp only [List.set_cons_succ]);(try simp only [List.set_cons_zero])
 refine WL.take (i:=8) (v:=?_) rfl (by kernel_rfl) (by decide) (by decide +kernel) (by decide +kernel) (fun _ _ _ h => h) rfl ?_ hS0 ?_
 rotate_left
 ·(intro w' hSw;(try dsimp only at hSw);go_simp;(try with_reducible rfl))
 simp only [Act.put];(try simp only [List.getElem_toArray]);(try simp only [List.getElem_cons_succ]);(try simp only [List.getElem_cons_zero]);(try simp only [List.setIfInBounds_toArray]);(try simp only [List.set_cons_succ]);(try simp only [List.set_cons_zero])
 refine WL.one (i:=9) rfl (by decide) (by decide +kernel) ?_
 go_wp2
 have hb1:Below W.heap.size W (W.alloc (.cells #[.int .i64 0,.string ⟨#[]⟩] 59)).drew:=((Below.refl _ _).alloc (Nat.le_refl _) _).drew
 have hr2:=rangeAt_below hr1 hb1 (by rw [HSW.out];omega)
 have hth1:(W.alloc (.cells #[.int .i64 0,.string ⟨#[]⟩] 59)).drew.there W.heap.size 0 2:=(Arr.ofList W [.int .i64 0,.string ⟨#[]⟩] 59).drew.there
 have hT1:=there_below HT.out hb1 (by rw [HSW.out];omega)
 have HTH1:=Lib.hid hth1
 refine ⟨HSI.out _ (HW.out.trans (hb1.mono HW.out.size)) hr2,?_⟩
 refine WL.one (i:=10) rfl (by decide) (by decide +kernel) ?_
 refine wpList_store_list rfl 59 _ _ rfl W.heap.size 0 [.int .i64 (r.getD ob0).kind,.string (r.getD ob0).body] rfl rfl 2 rfl HTH1.out (by kernel_rfl) HOB.out ?_
 simp only [Act.put];(try simp only [List.getElem_toArray]);(try simp only [List.getElem_cons_succ]);(try simp only [List.getElem_cons_zero]);(try simp only [List.setIfInBounds_toArray]);(try simp only [List.set_cons_succ]);(try simp only [List.set_cons_zero])
 have hb2:=below_setCells (B:=W.heap.size) (a:=W) W.heap.size (Nat.le_refl _) [.int .i64 (r.getD ob0).kind,.string (r.getD ob0).body] 0 _ hb1
 have hr3:=rangeAt_below hr1 hb2 (by rw [HSW.out];omega)
 have hT2:=there_below HT.out hb2 (by rw [HSW.out];omega)
 have hc3:=World.rangeAt_setCells_same (W.alloc (.cells #[.int .i64 0,.string ⟨#[]⟩] 59)).drew W.heap.size 0 [.int .i64 (r.getD ob0).kind,.string (r.getD ob0).body] HTH1.out
 have HB2:=Lib.hid (HW.out.trans (hb2.mono HW.out.size))
 generalize ((W.alloc (.cells #[.int .i64 0,.string ⟨#[]⟩] 59)).drew).setCells W.heap.size 0 [.int .i64 (r.getD ob0).kind,.string (r.getD ob0).body] = W3 at hr3 hT2 hc3 HB2 hb2
 refine ⟨HSI.out _ HB2.out hr3,?_⟩
 refine WL.last (n:=11) rfl rfl (by decide +kernel) (by decide +kernel) ?_
 have HC3:=Lib.hid hc3
 have HT2:=Lib.hid hT2
 have HF:=Lib.hid (below_setCells (B:=w.heap.size) (a:=w) (w.heap.size + 1) (by omega) [.int .i64 (r.getD ob0).kind,.string (r.getD ob0).body] 0 W3 HB2.out)
 have HR:=Lib.hid (World.rangeAt_setCells_same W3 (w.heap.size + 1) 0 [.int .i64 (r.getD ob0).kind,.string (r.getD ob0).body] hT2)
 clear hb1 hr2 hth1 hT1 hb2 hr3 hT2 hc3 hr1
 go_wp2_with (first | (refine wpList_load_mid rfl 59 _ rfl W.heap.size 0 rfl [.int .i64 (r.getD ob0).kind,.string (r.getD ob0).body] _ HC3.out Tryz.underlying59 rfl (by kernel_rfl) ?_) | (refine wpList_store_list rfl 59 _ _ rfl (w.heap.size + 1) 0 [.int .i64 (r.getD ob0).kind,.string (r.getD ob0).body] rfl rfl 2 rfl HT2.out (by kernel_rfl) HOB.out ?_))
 refine ret_cell2 rfl (w.heap.size + 1) 0 rfl _ _ HR.out Tryz.underlying59 rfl (by kernel_rfl) rfl _ rfl ⟨rfl,HF.out⟩
theorem obC_one (o:Ob):∀ v ∈ obC o,v.oneCell' = true:=by unfold obC;simp [Value.oneCell']
theorem lastS_take {l:List Ob} {k:Nat} (h:k < l.length) (x:List UInt8):lastS (l.take (k + 1)) x = if rightOb l[k] = true ∧ idO l[k] = x then some l[k] else lastS (l.take k) x:=by
 rw [List.take_succ_eq_append_getElem h,lastS_snoc]
theorem IdMap.grown {w w':World} {b n:Nat} {f:List UInt8 → Option Ob} (h:IdMap w b n f) (hb:Below w.heap.size w w'):IdMap w' b n f:=h.below hb h.lt
set_option maxRecDepth 100000 in
set_option maxHeartbeats 4000000 in
theorem oof_any (v:Value) (l:List Ob) (w:World) (hv:ObRow w v l) (hn:l.length ≤ 1000) (hL:Laid w) :
  Calls Tryz.prog 11 #[v] w fun e w' => ∃ r,e = .returned r ∧ SrcP w' r (lastS l) ∧ Below w.heap.size w w':=by
 obtain ⟨ao,cap,rfl,hmax,hv⟩:=hv.open
 have HV:=Lib.hid hv
 have HLD:=Lib.hid hL
 clear hv hL
 unfold maxLen at hmax
 have hmm:=@run_makeMap Tryz.prog
 obtain ⟨hz,_⟩:=id_zeroC
 have h32:(Tryz.prog.info? 27).map (·.size) = some 32:=by kernel_rfl
 have h2:(Tryz.prog.info? 59).map (·.size) = some 2:=by kernel_rfl
 have HZL:Hid ((idC zid).length = 32):=Lib.hid (by rw [idC_len,zid_len])
 generalize idC zid = cz at hz HZL
 go_enter Tryz.func11,Tryz.ntmps11
 go_wp2
 have hb0:Below w.heap.size w ((w.alloc (.map #[] 0)).alloc (.cells #[.map (some w.heap.size)] 74)):=((Below.refl _ _).alloc (Nat.le_refl _) _).alloc (by simp) _
 have hm0:IdMap ((w.alloc (.map #[] 0)).alloc (.cells #[.map (some w.heap.size)] 74)) w.heap.size 0 (lastS (l.take 0)):=by
  have h:IdMap (w.alloc (.map #[] 0)) w.heap.size 0 (lastS (l.take 0)):=⟨_,World.ownsMap_made _ _ _ _,saysI_none⟩
  exact h.grown ((Below.refl _ _).alloc (Nat.le_refl _) _)
 have hc0:((w.alloc (.map #[] 0)).alloc (.cells #[.map (some w.heap.size)] 74)).cell? ⟨w.heap.size + 1,0,none⟩ = some (.map (some w.heap.size)):=by
  have:=World.cell?_alloc_new (w.alloc (.map #[] 0)) #[.map (some w.heap.size)] 74 0
  rw [World.size_alloc] at this
  rw [this];rfl
 have HB0:=Lib.hid hb0
 have HM0:=Lib.hid hm0
 have HC0:=Lib.hid hc0
 clear hb0 hm0 hc0
 go_loopw [13] (fun i wr => ∃ (k n:Nat),k ≤ l.length ∧ n ≤ k ∧ i = .int .i64 k ∧ Hid (IdMap wr w.heap.size n (lastS (l.take k))) ∧ Hid (wr.cell? ⟨w.heap.size + 1,0,none⟩ = some (.map (some w.heap.size))) ∧ Hid (Below w.heap.size w wr)) (fun i _ => (l.length - intOf i).toNat)
 case atStart => exact ⟨0,0,by omega,by omega,rfl,HM0,HC0,HB0⟩
 case round =>
  obtain ⟨wo,rfl⟩:∃ wo:World,wo = wr:=⟨_,rfl⟩
  obtain ⟨k,n,hk,hnk,rfl,HM,HC,HB⟩:=hrel
  have hsz:=HB.out.size
  have hcl:=World.block_lt_of_cell? wo _ HC.out
  by_cases hlt:k < l.length
  ·obtain ⟨b,off,rfl,hbl,hcell⟩:=HV.out (by intro e;rw [e] at hlt;simp at hlt)
   have f1:=rangeAt_below (hcell k hlt) HB.out hbl
   have k0:(0:Int) ≤ k:=by omega
   have k1:(k:Int) < l.length:=by omega
   have hLS:=lastS_take hlt
   clear hcell
   generalize l[k] = A at f1 hLS
   obtain ⟨ka,sa⟩:=A
   have hlen:(obC ⟨ka,sa⟩).length = 2:=rfl
   have h2s:(Tryz.prog.info? 59).map (·.size) = some (obC ⟨ka,sa⟩).length:=by rw [hlen];exact h2
   have hth:(wo.alloc (.cells #[.int .i64 0,.string ⟨#[]⟩] 59)).there wo.heap.size 0 2:=(Arr.ofList wo [.int .i64 0,.string ⟨#[]⟩] 59).there
   have hr1:=World.rangeAt_setCells_same (wo.alloc (.cells #[.int .i64 0,.string ⟨#[]⟩] 59)) wo.heap.size 0 (obC ⟨ka,sa⟩) hth
   have hb1:=below_setCells (B:=wo.heap.size) (a:=wo) wo.heap.size (Nat.le_refl _) (obC ⟨ka,sa⟩) 0 _ ((Below.refl _ _).alloc (Nat.le_refl _) (.cells #[.int .i64 0,.string ⟨#[]⟩] 59))
   have hone:=obC_one ⟨ka,sa⟩
   have HID:=Lib.hid (fun W (hL:Laid W) => oid_any ka sa W hL)
   have F1:=Lib.hid f1
   have HTH:=Lib.hid hth
   have HON:=Lib.hid hone
   have HR1X:=Lib.hid hr1
   obtain ⟨W1,hW1⟩:∃ W1,(wo.alloc (.cells #[.int .i64 0,.string ⟨#[]⟩] 59)).setCells wo.heap.size 0 (obC ⟨ka,sa⟩) = W1:=⟨_,rfl⟩
   rw [hW1] at hr1 hb1
   have HW1:=Lib.hid hW1
   have HR1:=Lib.hid hr1
   have HB1:=Lib.hid hb1
   have hs1:wo.heap.size < W1.heap.size:=World.block_lt_of_cell? W1 ⟨wo.heap.size,0,none⟩ (hr1 0 _ rfl)
   clear f1 hth hone hW1 hr1 hb1
   go_wp2_with (first | (refine wpList_load_mid rfl 59 _ rfl b (off + k * 2) rfl (obC ⟨ka,sa⟩) _ F1.out Tryz.underlying59 rfl h2s ?_) | (refine wpList_store_list rfl 59 _ _ rfl wo.heap.size 0 (obC ⟨ka,sa⟩) rfl rfl 2 rfl HTH.out h2 HON.out ?_) | (refine wpList_load_mid rfl 59 _ rfl wo.heap.size 0 rfl (obC ⟨ka,sa⟩) _ HR1X.out Tryz.underlying59 rfl h2s ?_))
   rw [HW1.out]
   clear HR1X HW1
   refine (HID.out W1 (HLD.out.below (HB.out.trans (HB1.out.mono HB.out.size)))).mono ?_
   intro e w2 h
   obtain ⟨rfl,hb2⟩:=h
   have hil:(idC (if rightOb ⟨ka,sa⟩ = true then idO ⟨ka,sa⟩ else zid)).length = 32:=by
    rw [idC_len];split
    ·exact idO_len _
    ·exact zid_len
   have hio:=idC_one (if rightOb ⟨ka,sa⟩ = true then idO ⟨ka,sa⟩ else zid)
   have hbo2:Below wo.heap.size wo w2:=HB1.out.trans (hb2.mono HB1.out.size)
   have hs2:=hb2.size
   have hr2:=rangeAt_below HR1.out hb2 hs1
   have HBO2:=Lib.hid hbo2
   have HR2:=Lib.hid hr2
   have HIX:Hid (rightOb ⟨ka,sa⟩ = true → (if rightOb ⟨ka,sa⟩ = true then idO ⟨ka,sa⟩ else zid) = idO ⟨ka,sa⟩):=Lib.hid (fun h => if_pos h)
   generalize (if rightOb ⟨ka,sa⟩ = true then idO ⟨ka,sa⟩ else zid) = y at hil hio HIX
   have hth2:(w2.alloc (.cells cz.toArray 27)).there w2.heap.size 0 32:=by
    have:=(Arr.ofList w2 cz 27).there
    rw [HZL.out] at this;exact this
   have hr3:=World.rangeAt_setCells_same (w2.alloc (.cells cz.toArray 27)) w2.heap.size 0 (idC y) (by rw [hil];exact hth2)
   have hb3:=below_setCells (B:=w2.heap.size) (a:=w2) w2.heap.size (Nat.le_refl _) (idC y) 0 _ ((Below.refl _ _).alloc (Nat.le_refl _) (.cells cz.toArray 27))
   have hyl:y.length = 32:=by rw [idC_len] at hil;exact hil
   have h32y:(Tryz.prog.info? 27).map (·.size) = some (idC y).length:=by rw [hil];exact h32
   have HTH2:=Lib.hid hth2
   have HIL:=Lib.hid hil
   have HIO:=Lib.hid hio
   have HYL:=Lib.hid hyl
   obtain ⟨W3,hW3⟩:∃ W3,(w2.alloc (.cells cz.toArray 27)).setCells w2.heap.size 0 (idC y) = W3:=⟨_,rfl⟩
   rw [hW3] at hr3 hb3
   have hs3:w2.heap.size < W3.heap.size:=World.block_lt_of_cell? W3 ⟨w2.heap.size,0,none⟩ (hr3 0 ((idC y)[0]'(by rw [hil];omega)) (by simp))
   have HR3:=Lib.hid hr3
   have HR23:=Lib.hid (rangeAt_below HR2.out hb3 (by omega))
   have HB3:=Lib.hid (HBO2.out.trans (hb3.mono HBO2.out.size))
   have HM3:=Lib.hid (HM.out.grown HB3.out)
   have HC3:=Lib.hid (below_load HC.out HB3.out hcl)
   have HBW3:=Lib.hid (HB.out.trans (HB3.out.mono HB.out.size))
   have HW3:=Lib.hid hW3
   have HLS:=Lib.hid hLS
   clear hb2 hbo2 hr2 hio hil hyl hth2 hr3 hb3 hW3 hLS HID
   cases hr:rightOb ⟨ka,sa⟩ with
   | false =>
    have HF:Hid (lastS (l.take (k + 1)) = lastS (l.take k)):=Lib.hid (funext fun x => by rw [HLS.out x,if_neg (fun h => by rw [hr] at h;cases h.1)])
    clear hr HIX HLS
    generalize idC y = ui at h32y HIL HIO HTH2 HW3 HR3
    go_wp2_with (refine wpList_store_list rfl 27 _ _ rfl w2.heap.size 0 ui rfl rfl 32 HIL.out HTH2.out h32 HIO.out ?_)
    rw [HW3.out]
    go_roundw
    case rel => exact ⟨k + 1,n,by omega,by omega,by go_num,by rw [HF.out];exact HM3,HC3,HBW3⟩
    case measure => simp [intOf];omega
   | true =>
    have HF:Hid (lastS (l.take (k + 1)) = fun q => if q = y then some ⟨ka,sa⟩ else lastS (l.take k) q):=Lib.hid (funext fun x => by
     rw [HLS.out x,HIX.out hr]
     by_cases e:x = idO ⟨ka,sa⟩
     ·rw [if_pos e,if_pos ⟨hr,e.symm⟩]
     ·rw [if_neg e,if_neg (fun h => e h.2.symm)])
    clear hr HIX HLS
    obtain ⟨ui,hui⟩:∃ ui,ui = idC y:=⟨_,rfl⟩
    rw [← hui] at h32y HIL HIO HW3 HR3 ⊢
    have HUI:=Lib.hid hui
    clear hui
    go_wp2_with (refine wpList_store_list rfl 27 _ _ rfl w2.heap.size 0 ui rfl rfl 32 HIL.out HTH2.out h32 HIO.out ?_)
    rw [HW3.out]
    have HS0:W3.drew.cell? ⟨w.heap.size + 1,0,none⟩ = some (.map (some w.heap.size)) ∧ W3.drew.rangeAt w2.heap.size 0 ui ∧ W3.drew.rangeAt wo.heap.size 0 (obC ⟨ka,sa⟩):=⟨HC3.out,HR3.out,HR23.out⟩
    have HMD:=Lib.hid (HM3.out.grown (Below.refl _ _).drew)
    refine wp_region_L 6 (fun w' => w'.cell? ⟨w.heap.size + 1,0,none⟩ = some (.map (some w.heap.size)) ∧ w'.rangeAt w2.heap.size 0 ui ∧ w'.rangeAt wo.heap.size 0 (obC ⟨ka,sa⟩)) (by kernel_rfl) (by kernel_rfl) ?_
    refine WL.take (i:=0) (v:=?_) rfl (by kernel_rfl) (by decide) (by decide +kernel) (by decide +kernel) (fun _ _ _ h => h) rfl ?_ HS0 ?_
    rotate_left
    ·(intro w' hSw;(try dsimp only at hSw);go_simp;(try with_reducible rfl))
    simp only [Act.put];(try simp only [List.getElem_toArray]);(try simp only [List.getElem_cons_succ]);(try simp only [List.getElem_cons_zero]);(try simp only [List.setIfInBounds_toArray]);(try simp only [List.set_cons_succ]);(try simp only [List.set_cons_zero])
    refine WL.take (i:=1) (v:=?_) rfl (by kernel_rfl) (by decide) (by decide +kernel) (by decide +kernel) (fun _ _ _ h => h) rfl ?_ HS0 ?_
    rotate_left
    ·(intro w' hSw;(try dsimp only at hSw);go_simp;(try with_reducible rfl))
    simp only [Act.put];(try simp only [List.getElem_toArray]);(try simp only [List.getElem_cons_succ]);(try simp only [List.getElem_cons_zero]);(try simp only [List.setIfInBounds_toArray]);(try simp only [List.set_cons_succ]);(try simp only [List.set_cons_zero])
    refine WL.take (i:=2) (v:=?_) rfl (by kernel_rfl) (by decide) (by decide +kernel) (by decide +kernel) (fun _ _ _ h => h) rfl ?_ HS0 ?_
    rotate_left
    ·(intro w' hSw;(try dsimp only at hSw);go_simp;(try with_reducible rfl))
    simp only [Act.put];(try simp only [List.getElem_toArray]);(try simp only [List.getElem_cons_succ]);(try simp only [List.getElem_cons_zero]);(try simp only [List.setIfInBounds_toArray]);(try simp only [List.set_cons_succ]);(try simp only [List.set_cons_zero])
    refine WL.take (i:=3) (v:=?_) rfl (by kernel_rfl) (by decide) (by decide +kernel) (by decide +kernel) (fun _ _ _ h => h) rfl ?_ HS0 ?_
    rotate_left
    ·(intro w' hSw;(try dsimp only at hSw);go_simp;(try with_reducible rfl))
    simp only [Act.put];(try simp only [List.getElem_toArray]);(try simp only [List.getElem_cons_succ]);(try simp only [List.getElem_cons_zero]);(try simp only [List.setIfInBounds_toArray]);(try simp only [List.set_cons_succ]);(try simp only [List.set_cons_zero])
    refine WL.take (i:=4) (v:=_) rfl (by kernel_rfl) (by decide) (by decide +kernel) (by decide +kernel) (fun _ _ _ h => h) rfl (fun w' hSw => exec_row 27 _ (hSw.2.1) Tryz.underlying27 rfl h32y _ rfl rfl) HS0 ?_
    simp only [Act.put];(try simp only [List.getElem_toArray]);(try simp only [List.getElem_cons_succ]);(try simp only [List.getElem_cons_zero]);(try simp only [List.setIfInBounds_toArray]);(try simp only [List.set_cons_succ]);(try simp only [List.set_cons_zero])
    refine WL.take (i:=5) (v:=_) rfl (by kernel_rfl) (by decide) (by decide +kernel) (by decide +kernel) (fun _ _ _ h => h) rfl (fun w' hSw => exec_row 59 _ (hSw.2.2) Tryz.underlying59 rfl h2s _ rfl rfl) HS0 ?_
    simp only [Act.put];(try simp only [List.getElem_toArray]);(try simp only [List.getElem_cons_succ]);(try simp only [List.getElem_cons_zero]);(try simp only [List.setIfInBounds_toArray]);(try simp only [List.set_cons_succ]);(try simp only [List.set_cons_zero])
    refine WL.last (n:=6) rfl rfl (by decide +kernel) (by decide +kernel) ?_
    refine wpList_update_id rfl (.tmp 26) (.tmp 27) (.tmp 28) 48 rfl Tryz.underlying48 w.heap.size n (lastS (l.take k)) rfl HMD.out y HYL.out ⟨ka,sa⟩ (by rw [← HUI.out];rfl) rfl (by unfold maxLen;omega) ?_
    intro w4 hm4 hg4
    have hc4:=hg4.cell (a:=⟨w.heap.size + 1,0,none⟩) HC3.out (fun e => by have:=Option.some.inj e;dsimp only at this;omega)
    have HB4:=Lib.hid (HBW3.out.grown (show W3.grownBy w4 (some w.heap.size) from ⟨hg4.os,hg4.tape,hg4.output,hg4.size,hg4.block⟩) HBW3.out.size (fun j hj => by cases hj;exact Nat.le_refl _))
    have HM4:=Lib.hid hm4
    have HC4:=Lib.hid hc4
    clear hm4 hc4 hg4
    go_wp2
    go_roundw
    case rel => exact ⟨k + 1,n + 1,by omega,by omega,by go_num,by rw [HF.out];exact HM4,HC4,HB4⟩
    case measure => simp [intOf];omega
  ·obtain rfl:k = l.length:=by omega
   rw [List.take_length] at HM
   go_wp2
   go_ret
   exact ⟨_,rfl,⟨_,_,_,rfl,HC.out,HM.out⟩,HB.out⟩
end Go.Proofs.YtmhjpmenngjmeaaGreatDoor
namespace Go.Proofs.YtmhjpmenngjmeaaGreatDoor
open Go.RowKit
theorem leafRow_own {w:World} {B:Nat} {v:Value} {l:Lfs} (h:w.ownsRow B 36 2 v l.length (lfsF l)):LeafRow w v l :=
 RowOf.of_own (B:=B) (e:=36) (sz:=2) (rows:=l.map leafC) (fun r hr => by
  obtain ⟨y,_,rfl⟩:=List.mem_map.1 hr
  rfl) (by rw [List.length_map];exact h)
def errOf {α:Type}:Sum Nat α → Int
 | .inl c => c
 | .inr _ => 0
theorem filesF_eq (get:List UInt8 → Option Ob) (x:List UInt8):(∃ c,walkF get 8 x ByteArray.empty [] 0 = .inl c ∧ filesF get x = .inl c) ∨ ∃ y,walkF get 8 x ByteArray.empty [] 0 = .inr y ∧ filesF get x = .inr y.1:=by
 unfold filesF
 cases h:walkF get 8 x ByteArray.empty [] 0 with
 | inl c => exact .inl ⟨c,rfl,rfl⟩
 | inr y => exact .inr ⟨y,rfl,rfl⟩
end Go.Proofs.YtmhjpmenngjmeaaGreatDoor
namespace Go.Proofs.YtmhjpmenngjmeaaGreatDoor
open Go.RowKit
structure Wk (wb ob:Nat) (w w':World) (v v':Value):Prop where
 os:w'.os = w.os
 tape:w'.tape = w.tape
 output:w'.output = w.output
 size:w.heap.size ≤ w'.heap.size
 block:∀ k,k < w.heap.size → k ≠ wb → k ≠ ob → v.ownBlock ≠ some k → w'.heap[k]? = w.heap[k]?
 fr:Fr w v v'
theorem Wk.below {wb ob:Nat} {w w':World} (v:Value) (h:Below w.heap.size w w'):Wk wb ob w w' v v:=⟨h.os,h.tape,h.output,h.size,fun k hk _ _ _ => h.block k hk,Fr.refl _ _⟩
theorem Wk.trans {wb ob:Nat} {w w1 w2:World} {a b c:Value} (h1:Wk wb ob w w1 a b) (h2:Wk wb ob w1 w2 b c):Wk wb ob w w2 a c :=
 ⟨h2.os.trans h1.os,h2.tape.trans h1.tape,h2.output.trans h1.output,Nat.le_trans h1.size h2.size,fun k hk n1 n2 n3 => (h2.block k (Nat.lt_of_lt_of_le hk h1.size) n1 n2 (h1.fr.ne hk n3)).trans (h1.block k hk n1 n2 n3),h1.fr.trans h2.fr h1.size⟩
theorem Wk.set {wb ob:Nat} {w:World} (v:Value) (o:Nat) (u:Value):Wk wb ob w (w.setCell ⟨wb,o,none⟩ u) v v:=by
 have hg:=grown_set (World.grownBy.refl w (some wb)) u (o:=o)
 exact ⟨hg.os,hg.tape,hg.output,hg.size,fun k hk n1 _ _ => hg.block k hk (by intro e;cases e;exact n1 rfl),Fr.refl _ _⟩
theorem Wk.put {wb ob:Nat} {w:World} (v u:Value) (o:Nat):Wk wb ob w (w.setCell ⟨ob,o,none⟩ u) v v:=by
 have hg:=grown_set (World.grownBy.refl w (some ob)) u (o:=o)
 exact ⟨hg.os,hg.tape,hg.output,hg.size,fun k hk _ n2 _ => hg.block k hk (by intro e;cases e;exact n2 rfl),Fr.refl _ _⟩
theorem Wk.grown {wb ob:Nat} {w w':World} {v v':Value} (h:w.grownBy w' v.ownBlock) (hf:Fr w v v'):Wk wb ob w w' v v' :=
 ⟨h.os,h.tape,h.output,h.size,fun k hk _ _ n3 => h.block k hk (fun e => n3 e.symm),hf⟩
theorem Wk.cell {wb ob:Nat} {w w':World} {v v':Value} (h:Wk wb ob w w' v v') {b o:Nat} {u:Value} (hc:w.cell? ⟨b,o,none⟩ = some u) (n1:b ≠ wb) (n2:b ≠ ob) (n3:v.ownBlock ≠ some b):w'.cell? ⟨b,o,none⟩ = some u:=by
 have hb:b < w.heap.size:=World.block_lt_of_cell? w _ hc
 have:=h.block b hb n1 n2 n3
 rw [World.cell?_of_block (w:=w) (a:=⟨b,o,none⟩) this];exact hc
end Go.Proofs.YtmhjpmenngjmeaaGreatDoor
namespace Go.Proofs.YtmhjpmenngjmeaaGreatDoor
open Go.RowKit
theorem method_get (a:Addr) (w:World):(method 440 72 (.pointer (some a)) "Get").run Tryz.prog w = .ok (166,.pointer (some a)) w:=by kernel_rfl
def TreeAns (f:List UInt8 → Option Ob) (x:List UInt8) (w:World) (e:Ending) (w':World):Prop:=∃ v,e = .returned (.tuple #[v,.bool (treeG f x).isSome]) ∧ EntRow w' v ((treeG f x).getD []) ∧ FreshV w v ∧ Below w.heap.size w w'
theorem treeAns_no {f:List UInt8 → Option Ob} {x:List UInt8} {w w':World} {v:Value} (h:treeG f x = none) (hr:EntRow w' v []) (hfr:FreshV w v) (hb:Below w.heap.size w w'):TreeAns f x w (.returned (.tuple #[v,.bool false])) w' :=
 ⟨v,by rw [h];rfl,by rw [h];exact hr,hfr,hb⟩
theorem treeAns_yes {f:List UInt8 → Option Ob} {x:List UInt8} {w w':World} {v:Value} {t:Option (List Ent)} (h:treeG f x = t) (ht:t.isSome = true) (hr:EntRow w' v (t.getD [])) (hfr:FreshV w v) (hb:Below w.heap.size w w'):TreeAns f x w (.returned (.tuple #[v,.bool true])) w' :=
 ⟨v,by rw [h,ht],by rw [h];exact hr,hfr,hb⟩
set_option maxRecDepth 100000 in
set_option maxHeartbeats 2000000 in
theorem ptree_any (lb mb n:Nat) (f:List UInt8 → Option Ob) (hf:∀ x o,f x = some o → rightOb o = true) (x:List UInt8) (w:World) (hc:w.cell? ⟨lb,0,none⟩ = some (.map (some mb))) (hm:IdMap w mb n f) (hx:x.length = 32) :
  Calls Tryz.prog 26 #[.iface 72 (.pointer (some ⟨lb,0,none⟩)),.agg (idC x).toArray] w (TreeAns f x w):=by
 have hlb:=World.block_lt_of_cell? w _ hc
 have hlm:=hm.lt
 have hxl:(idC x).length = 32:=by rw [idC_len,hx]
 have h32x:=h32_of hxl
 have HG:=Lib.hid (fun W (h:Below w.heap.size w W) => oget_any lb mb n f x W (below_load hc h hlb) (hm.below h hlm) hx)
 have HTG:Hid (treeG f x = match f x with | some o => (if o.kind = 2 then treeOf o.body else none) | none => none):=Lib.hid rfl
 have HF:=Lib.hid (hf x)
 generalize f x = r at HG HTG HF
 have hr0:=range_new w (idC x) 27 rfl
 have HR0:=Lib.hid hr0
 generalize idC x = ux at hxl h32x HG HR0
 have hmg:=method_get
 clear hm hc hr0
 go_enter Tryz.func26,Tryz.ntmps26
 go_wp2_with (refine wpList_load_mid rfl 27 _ rfl w.heap.size 0 rfl ux _ HR0.out Tryz.underlying27 rfl h32x ?_)
 refine (HG.out _ ((Below.refl _ _).alloc (Nat.le_refl _) _)).mono ?_
 rintro e w1 ⟨rfl,hb1⟩
 have HB1:=Lib.hid (((Below.refl w.heap.size w).alloc (Nat.le_refl _) (.cells ux.toArray 27)).trans (hb1.mono (by simp)))
 clear hb1 HG HR0
 cases r with
 | none =>
  have HOE:=Lib.hid (fun w => oents_any 0 ⟨#[]⟩ w)
  have HN:Hid (isT 0 ⟨#[]⟩ = false):=Lib.hid (by unfold isT;rw [decide_eq_false (show ¬ (0:Int) = 2 by decide),Bool.and_false])
  have HT2:Hid (treeG f x = none):=Lib.hid HTG.out
  clear HTG HF
  go_wp2_with fail
  refine (HOE.out _).mono ?_
  intro e w2 h
  obtain ⟨v,rfl,hfr,hrow,hb2⟩:=h
  rw [HN.out,show okI false = 1 from rfl]
  have HBF:=Lib.hid (HB1.out.trans ((((Below.refl _ _).alloc (Nat.le_refl _) _).trans (hb2.mono (by simp))).mono HB1.out.size))
  have HROW:Hid (EntRow w2 v []):=Lib.hid (by rw [HN.out] at hrow;exact hrow)
  have HFR:Hid (FreshV w v):=Lib.hid (fun g hg => by have:=hfr g hg;have:=HB1.out.size;simp at *;omega)
  clear hrow hfr hb2
  go_wp2
  go_ret2
  exact treeAns_no HT2.out HROW.out HFR.out HBF.out
 | some o =>
  obtain ⟨k,s⟩:=o
  have HOE:=Lib.hid (fun w => oents_any k s w)
  have HT2:Hid (treeG f x = if isT k s = true then treeOf s else none):=Lib.hid (by
   rw [HTG.out]
   show (if k = 2 then treeOf s else none) = _
   have hr:=HF.out _ rfl
   unfold isT;rw [hr]
   by_cases h2:k = 2
   ·rw [if_pos h2,decide_eq_true h2];rfl
   ·rw [if_neg h2,decide_eq_false h2];rfl)
  have HT3:Hid (isT k s = true → (treeOf s).isSome = true):=Lib.hid (fun h => by
   unfold isT at h
   simp only [Bool.and_eq_true,decide_eq_true_eq] at h
   obtain ⟨h1,rfl⟩:=h
   unfold rightOb at h1
   simp only [Bool.and_eq_true,decide_eq_true_eq] at h1
   exact h1.2)
  clear HTG HF
  go_wp2_with fail
  refine (HOE.out _).mono ?_
  intro e w2 h
  obtain ⟨v,rfl,hfr,hrow,hb2⟩:=h
  have HBF:=Lib.hid (HB1.out.trans ((((Below.refl _ _).alloc (Nat.le_refl _) _).trans (hb2.mono (by simp))).mono HB1.out.size))
  have HROW:=Lib.hid hrow
  have HFR:Hid (FreshV w v):=Lib.hid (fun g hg => by have:=hfr g hg;have:=HB1.out.size;simp at *;omega)
  clear hrow hfr hb2 HOE
  cases ht:isT k s with
  | false =>
   rw [show okI false = 1 from rfl]
   rw [ht] at HROW HT2
   clear ht HT3
   go_wp2
   go_ret2
   exact treeAns_no HT2.out HROW.out HFR.out HBF.out
  | true =>
   rw [show okI true = 0 from rfl]
   have HIS:=Lib.hid (HT3.out ht)
   rw [ht] at HROW HT2
   clear ht HT3
   go_wp2
   go_ret2
   exact treeAns_yes HT2.out HIS.out HROW.out HFR.out HBF.out
end Go.Proofs.YtmhjpmenngjmeaaGreatDoor
namespace Go.Proofs.YtmhjpmenngjmeaaGreatDoor
open Go.RowKit
def FileAns (ob base:Nat) (lf:Lfs) (q:ByteArray × ByteArray) (v:Value) (w:World) (e:Ending) (w':World):Prop :=
 (lf.length = 300 → e = .returned (.int .i64 4) ∧ Below w.heap.size w w') ∧
 (lf.length ≠ 300 → e = .returned (.int .i64 0) ∧ ∃ v',Arr w' ob 1 (fun _ => v') ∧ w'.ownsRow base 36 2 v' (lf.length + 1) (lfsF (lf ++ [q])) ∧ ∀ wb,Wk wb ob w w' v v')
set_option maxRecDepth 100000 in
set_option maxHeartbeats 2000000 in
theorem pfile_any (ob base:Nat) (lf:Lfs) (p b:ByteArray) (v:Value) (w:World) (ho:Arr w ob 1 (fun _ => v)) (hown:w.ownsRow base 36 2 v lf.length (lfsF lf)) (hob:ob < base) (hbase:base ≤ w.heap.size) (hlen:lf.length ≤ 300) :
  Calls Tryz.prog 22 #[.agg #[.string p,.string b],.pointer (some ⟨ob,0,none⟩)] w (FileAns ob base lf (p,b) v w):=by
 obtain ⟨iL,hiL⟩:=info_parts infoLeaf
 obtain ⟨lo,lc,rfl⟩:=own_form hown
 have HIL:=Lib.hid hiL
 have HO:=Lib.hid ho
 have HOWN:=Lib.hid hown
 have c0:w.cell? ⟨ob,0,none⟩ = some (.slice lo lf.length lc):=ho.cell 0 (by omega)
 have hol:ob < w.heap.size:=ho.lt (by omega)
 have hb0:Below w.heap.size w (w.alloc (.cells #[.string p,.string b] 36)):=(Below.refl _ _).alloc (Nat.le_refl _) _
 have HB0:=Lib.hid hb0
 clear hiL ho hown hb0
 by_cases h3:lf.length = 300
 ·have d1:((lf.length:Int) == 300) = true:=by rw [beq_iff_eq];omega
  have H3:=Lib.hid h3
  clear h3
  go_enter Tryz.func22,Tryz.ntmps22
  go_wp2
  go_ret
  exact ⟨fun _ => ⟨rfl,HB0.out⟩,fun h => absurd H3.out h⟩
 ·have d1:((lf.length:Int) == 300) = false:=by rw [beq_eq_false_iff_ne];omega
  have H3:=Lib.hid h3
  clear h3
  have hbA:Below w.heap.size w ((w.alloc (.cells #[.string p,.string b] 36)).alloc (.cells #[.string p,.string b] 36)):=HB0.out.alloc HB0.out.size _
  have hOA:=own_below HOWN.out hbA
  have hAA:=HO.out.below hbA hol
  have hnew:∀ j u,(lfC (p,b))[j]? = some u → ((w.alloc (.cells #[.string p,.string b] 36)).alloc (.cells #[.string p,.string b] 36)).cell? ((⟨w.heap.size + 1,0,none⟩:Addr).add j) = some u:=fun j u hj => by
   have:=cells_newL (w.alloc (.cells #[.string p,.string b] 36)) (lfC (p,b)) 36 j u hj
   rw [World.size_alloc] at this
   exact this
  have hone:∀ u ∈ lfC (p,b),u.oneCell' = true:=by simp [lfC,Value.oneCell']
  have HOA:=Lib.hid hOA
  have HAA:=Lib.hid hAA
  have HBA:=Lib.hid hbA
  have HNEW:=Lib.hid hnew
  have HONE:=Lib.hid hone
  clear hbA hOA hAA hnew hone
  go_enter Tryz.func22,Tryz.ntmps22
  go_wp2_with (at_builtin;refine wpList_append_fr _ rfl (.tmp 7) (.tmp 9) 22 rfl base 36 iL (.agg #[.string ⟨#[]⟩,.string ⟨#[]⟩]) 2 32 Tryz.underlying22 HIL.out.1 HIL.out.2.1 HIL.out.2.2.1 HIL.out.2.2.2 rfl (by decide) _ lf.length (lfsF lf) rfl HOA.out ⟨w.heap.size + 1,0,none⟩ 1 1 (lfC (p,b)) rfl rfl HNEW.out HONE.out ?a1 ?a2 ?a3 ?_)
  case a1 => unfold maxLen;omega
  case a2 => omega
  case a3 => rw [World.size_alloc,World.size_alloc];omega
  intro v6 w6 ho6 hg6 hf6
  obtain ⟨lo6,lc6,rfl⟩:=own_form ho6
  have hne6:(Value.slice lo lf.length lc).ownBlock ≠ some ob:=fun e => by have:=(HOWN.out.lt ob e).1;omega
  have hA6:Arr w6 ob 1 (fun _ => .slice lo lf.length lc):=HAA.out.grownV hg6 hne6
  have f6:=hA6.free 0 (by omega)
  have g6:=hA6.cell 0 (by omega)
  have HA6:=Lib.hid ((hA6.set 0 (by omega) (.slice lo6 (lf.length + 1) lc6)).congr (d:=fun _ => .slice lo6 (lf.length + 1) lc6) (fun k hk => by unfold upd;rw [if_pos (by omega)]))
  have hne7:(Value.slice lo6 (lf.length + 1) lc6).ownBlock = none ∨ (Value.slice lo6 (lf.length + 1) lc6).ownBlock ≠ some ob:=own_ne ho6 hob
  have HO6:=Lib.hid (own_set (o:=0) (u:=.slice lo6 (lf.length + 1) lc6) ho6 hne7)
  have HW6:Hid (∀ wb,Wk wb ob w (w6.setCell ⟨ob,0,none⟩ (.slice lo6 (lf.length + 1) lc6)) (.slice lo lf.length lc) (.slice lo6 (lf.length + 1) lc6)):=Lib.hid (fun wb =>
   ((Wk.below _ HBA.out).trans (Wk.grown hg6 hf6)).trans (Wk.put _ _ _))
  clear ho6 hg6 hf6 hne6 hA6 hne7
  go_wp2
  go_ret
  exact ⟨fun h => absurd h H3.out,fun _ => ⟨rfl,_,HA6.out,by rw [lfsF_snoc];exact HO6.out,HW6.out⟩⟩
end Go.Proofs.YtmhjpmenngjmeaaGreatDoor
namespace Go.Proofs.YtmhjpmenngjmeaaGreatDoor
open Go.RowKit
def wkF (lb ob n:Nat) (k:Nat):Value:=if k = 0 then .iface 72 (.pointer (some ⟨lb,0,none⟩)) else if k = 1 then .func (.func 22) #[] #[.pointer (some ⟨ob,0,none⟩)] else .int .i64 (n:Int)
theorem wkF_n (lb ob n m:Nat):∀ k,k < 3 → upd (wkF lb ob n) 2 (.int .i64 (m:Int)) k = wkF lb ob m k:=by
 intro k hk
 obtain h | h | h:k = 0 ∨ k = 1 ∨ k = 2:=by omega
 all_goals subst h;rfl
theorem IdMap.grownV {w w':World} {b n:Nat} {f:List UInt8 → Option Ob} {row:Option Nat} (h:IdMap w b n f) (hg:w.grownBy w' row) (hne:row ≠ some b):IdMap w' b n f:=by
 have hl:=h.lt
 obtain ⟨D,⟨es,clock,h1,h2⟩,h3⟩:=h
 exact ⟨D,⟨es,clock,(hg.block b hl (fun e => hne e.symm)).trans h1,h2⟩,h3⟩
structure WS (wb ob lb mb nm base:Nat) (f:List UInt8 → Option Ob) (lf:Lfs) (n:Nat) (v:Value) (w:World):Prop where
 a:Arr w wb 3 (wkF lb ob n)
 o:Arr w ob 1 (fun _ => v)
 own:w.ownsRow base 36 2 v lf.length (lfsF lf)
 src:w.cell? ⟨lb,0,none⟩ = some (.map (some mb))
 map:IdMap w mb nm f
 bs:base ≤ w.heap.size
structure WB (wb ob lb mb base:Nat):Prop where
 hwb:wb < base
 hob:ob < base
 hlb:lb < base
 hmb:mb < base
 n1:wb ≠ ob
 n2:lb ≠ wb
 n3:mb ≠ wb
 n4:lb ≠ ob
 n5:mb ≠ ob
section
variable {wb ob lb mb nm base:Nat} {f:List UInt8 → Option Ob} {lf:Lfs} {n:Nat} {v:Value} {w w':World}
theorem WS.below (h:WS wb ob lb mb nm base f lf n v w) (hb:Below w.heap.size w w'):WS wb ob lb mb nm base f lf n v w' :=
 ⟨h.a.below hb (h.a.lt (by omega)),h.o.below hb (h.o.lt (by omega)),own_below h.own hb,below_load h.src hb (World.block_lt_of_cell? w _ h.src),h.map.below hb h.map.lt,Nat.le_trans h.bs hb.size⟩
theorem WS.grown (h:WS wb ob lb mb nm base f lf n v w) {E:Nat} (hg:w.grownBy w' (some E)) (h1:E ≠ wb) (h2:E ≠ ob) (h3:E ≠ lb) (h4:E ≠ mb) (h5:v.ownBlock = none ∨ v.ownBlock ≠ some E):WS wb ob lb mb nm base f lf n v w' :=
 ⟨h.a.grown hg (Ne.symm h1),h.o.grown hg (Ne.symm h2),h.own.kept hg h5,hg.cell (a:=⟨lb,0,none⟩) h.src (fun e => h3 (Option.some.inj e).symm),h.map.grownV hg (fun e => h4 (Option.some.inj e)),Nat.le_trans h.bs hg.size⟩
theorem WS.count (h:WS wb ob lb mb nm base f lf n v w) (B:WB wb ob lb mb base) (m:Nat):WS wb ob lb mb nm base f lf m v (w.setCell ⟨wb,2,none⟩ (.int .i64 (m:Int))):=by
 have hg:=grown_set (World.grownBy.refl w (some wb)) (.int .i64 (m:Int)) (o:=2)
 exact ⟨(h.a.set 2 (by omega) _).congr (wkF_n lb ob n m),h.o.far (p:=⟨wb,2,none⟩) B.n1 _,own_set h.own (own_ne h.own B.hwb),
  hg.cell (a:=⟨lb,0,none⟩) h.src (fun e => B.n2 (Option.some.inj e)),h.map.grownV hg (fun e => B.n3 (Option.some.inj e).symm),Nat.le_trans h.bs hg.size⟩
theorem WS.file (h:WS wb ob lb mb nm base f lf n v w) (B:WB wb ob lb mb base) {lf':Lfs} {v':Value} (hk:Wk ob ob w w' v v') (ho:Arr w' ob 1 (fun _ => v')) (hown:w'.ownsRow base 36 2 v' lf'.length (lfsF lf')):WS wb ob lb mb nm base f lf' n v' w':=by
 have hvb:∀ g,v.ownBlock = some g → base ≤ g:=fun g hg => (h.own.lt g hg).1
 have hwl:=h.a.lt (show 0 < 3 by omega)
 have hml:=h.map.lt
 have hbw:=hk.block wb hwl B.n1 B.n1 (fun e => by have:=hvb _ e;have:=B.hwb;omega)
 have hbm:=hk.block mb hml B.n5 B.n5 (fun e => by have:=hvb _ e;have:=B.hmb;omega)
 refine ⟨⟨fun k hk' => ?_,fun k hk' => ?_⟩,ho,hown,hk.cell h.src B.n4 B.n4 (fun e => by have:=hvb _ e;have:=B.hlb;omega),?_,Nat.le_trans h.bs hk.size⟩
 ·rw [World.cell?_of_block (w:=w) (a:=⟨wb,k,none⟩) hbw];exact h.a.cell k hk'
 ·rw [World.frozen?_of_block (w:=w) (a:=⟨wb,k,none⟩) hbw];exact h.a.free k hk'
 ·obtain ⟨Dm,⟨es,clock,h1,h2⟩,h3⟩:=h.map
  exact ⟨Dm,⟨es,clock,hbm.trans h1,h2⟩,h3⟩
theorem WS.lt (h:WS wb ob lb mb nm base f lf n v w):wb < w.heap.size:=h.a.lt (by omega)
theorem WS.sets {E':Nat} (h:WS wb ob lb mb nm base f lf n v w) (B:WB wb ob lb mb base) (hn:v.ownBlock = none ∨ v.ownBlock ≠ some E') {us:List Value} {o:Nat} (hE:base ≤ E'):WS wb ob lb mb nm base f lf n v (w.setCells E' o us) :=
 h.grown (grown_setCells us o w (World.grownBy.refl w (some E'))) (by have:=B.hwb;omega) (by have:=B.hob;omega) (by have:=B.hlb;omega) (by have:=B.hmb;omega) hn
theorem Wk.range {w w':World} {v v':Value} (h:Wk wb ob w w' v v') {b o:Nat} {cs:List Value} (hc:w.rangeAt b o cs) (n1:b ≠ wb) (n2:b ≠ ob) (n3:v.ownBlock ≠ some b):w'.rangeAt b o cs :=
 fun j u hu => h.cell (hc j u hu) n1 n2 n3
theorem Wk.bw {w w':World} {v v':Value} (h:Wk wb ob w w' v v') (Bn:Nat) (h1:Bn ≤ wb) (h2:Bn ≤ ob) (h3:∀ g,v.ownBlock = some g → Bn ≤ g) (hs:Bn ≤ w.heap.size):Below Bn w w' :=
 ⟨h.os,h.tape,h.output,h.size,fun k hk => h.block k (by omega) (by omega) (by omega) (fun e => by have:=h3 k e;omega)⟩
end
def WalkAns (wb ob lb mb nm base:Nat) (f:List UInt8 → Option Ob) (r:FRes) (v:Value) (w:World) (e:Ending) (w':World):Prop:=match r with
 | .inl c => e = .returned (.int .i64 (c:Int)) ∧ 0 < c ∧ c < 100 ∧ ∃ v',Wk wb ob w w' v v'
 | .inr y => e = .returned (.int .i64 0) ∧ y.1.length ≤ 300 ∧ y.2 ≤ 300 ∧ ∃ v',WS wb ob lb mb nm base f y.1 y.2 v' w' ∧ Wk wb ob w w' v v'
def WalkC (wb ob lb mb nm base:Nat) (f:List UInt8 → Option Ob) (D:Nat) (walk:List UInt8 → ByteArray → Lfs → Nat → FRes):Prop :=
 ∀ (x:List UInt8) (ahead:ByteArray) (v:Value) (lf:Lfs) (n:Nat) (w:World),x.length = 32 → ahead.size ≤ 40 * D → lf.length ≤ 300 → n ≤ 300 → WS wb ob lb mb nm base f lf n v w →
  Calls Tryz.prog 23 #[.pointer (some ⟨wb,0,none⟩),.agg (idC x).toArray,.string ahead,.int .i64 (D:Int)] w (WalkAns wb ob lb mb nm base f (walk x ahead lf n) v w)
theorem walkAns_err {wb ob lb mb nm base:Nat} {f:List UInt8 → Option Ob} {r:FRes} {v v':Value} {w w':World} {c:Nat} (h:r = .inl c) (h0:0 < c) (h1:c < 100) (hw:Wk wb ob w w' v v'):WalkAns wb ob lb mb nm base f r v w (.returned (.int .i64 (c:Int))) w':=by
 subst h;exact ⟨rfl,h0,h1,v',hw⟩
theorem walkAns_ok {wb ob lb mb nm base:Nat} {f:List UInt8 → Option Ob} {r:FRes} {v v':Value} {w w':World} {l:Lfs} {n:Nat} (h:r = .inr (l,n)) (h0:l.length ≤ 300) (h1:n ≤ 300) (hs:WS wb ob lb mb nm base f l n v' w') (hw:Wk wb ob w w' v v'):WalkAns wb ob lb mb nm base f r v w (.returned (.int .i64 0)) w':=by
 subst h;exact ⟨rfl,h0,h1,v',hs,hw⟩
set_option maxRecDepth 100000 in
set_option maxHeartbeats 8000000 in
theorem pwalk_step (wb ob lb mb nm base:Nat) (f:List UInt8 → Option Ob) (hf:∀ x o,f x = some o → rightOb o = true) (hB:WB wb ob lb mb base) (D:Nat) (hD:D ≤ 8) (rec:List UInt8 → ByteArray → Lfs → Nat → FRes) (hrec:D < 8 → WalkC wb ob lb mb nm base f (D + 1) rec) :
  WalkC wb ob lb mb nm base f D (walkG f (decide (D = 8)) rec):=by
 intro x ahead v lf n w hx hah hlf hn hS
 have HREC:=Lib.hid hrec
 have HBB:=Lib.hid hB
 have HF:=Lib.hid hf
 have HX:=Lib.hid hx
 have hxl:(idC x).length = 32:=by rw [idC_len,hx]
 have h32x:=h32_of hxl
 have hwbl:=hS.lt
 have cw2:w.cell? ⟨wb,2,none⟩ = some (.int .i64 (n:Int)):=hS.a.cell 2 (by omega)
 have fw2:=hS.a.free 2 (by omega)
 have hcast:((n + 1:Nat):Int) = (n:Int) + 1:=by omega
 have hS1:=hS.count hB (n + 1)
 rw [hcast] at hS1
 have hk1:Wk wb ob w (w.setCell ⟨wb,2,none⟩ (.int .i64 ((n:Int) + 1))) v v:=Wk.set v 2 _
 have hsz0:(w.setCell ⟨wb,2,none⟩ (.int .i64 ((n:Int) + 1))).heap.size = w.heap.size:=by simp
 have hr0:=range_new (w.setCell ⟨wb,2,none⟩ (.int .i64 ((n:Int) + 1))) (idC x) 27 hsz0
 have hba:Below (w.setCell ⟨wb,2,none⟩ (.int .i64 ((n:Int) + 1))).heap.size (w.setCell ⟨wb,2,none⟩ (.int .i64 ((n:Int) + 1))) ((w.setCell ⟨wb,2,none⟩ (.int .i64 ((n:Int) + 1))).alloc (.cells (idC x).toArray 27)):=(Below.refl _ _).alloc (Nat.le_refl _) _
 have HTR:=Lib.hid (fun W (h:WS wb ob lb mb nm base f lf (n + 1) v W) => ptree_any lb mb nm f hf x W h.src h.map hx)
 generalize idC x = ux at hxl h32x hr0 hba HTR
 obtain ⟨W1,hW1⟩:∃ W1,W1 = (w.setCell ⟨wb,2,none⟩ (.int .i64 ((n:Int) + 1))).alloc (.cells ux.toArray 27):=⟨_,rfl⟩
 rw [← hW1] at hr0 hba
 have HS1:=Lib.hid (hS1.below hba)
 have HWK1:Hid (Wk wb ob w W1 v v):=Lib.hid (hk1.trans (Wk.below v hba))
 have hs1:w.heap.size < W1.heap.size:=by rw [hW1];simp
 have hwn:IntKind.i64.wrap ((n:Int) + 1) = (n:Int) + 1:=IntWalk.i64_in _ (by omega)
 have HR0:=Lib.hid hr0
 have HW1:=Lib.hid hW1
 have hwbw:wb ≠ w.heap.size:=by omega
 have HVL:=Lib.hid (fun g hg => (hS.own.lt g hg).2:∀ g,v.ownBlock = some g → g < w.heap.size)
 have HBS:=Lib.hid hS.bs
 clear hrec hB hf hS hS1 hk1 hr0 hba hW1 hx hcast hsz0
 by_cases h3:300 < n + 1
 ·have HW:Hid (walkG f (decide (D = 8)) rec x ahead lf n = .inl 4):=by unfold Hid walkG;rw [if_pos h3]
  have d1:decide ((300:Int) < (n:Int) + 1) = true:=decide_eq_true (by omega)
  go_enter Tryz.func23,Tryz.ntmps23
  go_wp2_with fail
  rw [← HW1.out]
  go_ret
  exact walkAns_err HW.out (by decide) (by decide) HWK1.out
 ·have d1:decide ((300:Int) < (n:Int) + 1) = false:=decide_eq_false (by omega)
  have HW0:Hid (walkG f (decide (D = 8)) rec x ahead lf n = match treeG f x with | none => .inl 13 | some es => loopF f (decide (D = 8)) rec ahead es lf (n + 1)):=by unfold Hid walkG;rw [if_neg h3];rfl
  go_enter Tryz.func23,Tryz.ntmps23
  go_wp2_with fail
  rw [← HW1.out]
  have hn1:n + 1 ≤ 300:=by omega
  clear HW1 cw2 fw2 hwn d1 h3
  have c0:W1.drew.cell? ⟨wb,0,none⟩ = some (.iface 72 (.pointer (some ⟨lb,0,none⟩))):=HS1.out.a.cell 0 (by omega)
  have HSS:W1.drew.cell? ⟨wb,0,none⟩ = some (.iface 72 (.pointer (some ⟨lb,0,none⟩))) ∧ W1.drew.rangeAt w.heap.size 0 ux:=⟨c0,HR0.out⟩
  refine wp_region_L 10 (fun w' => w'.cell? ⟨wb,0,none⟩ = some (.iface 72 (.pointer (some ⟨lb,0,none⟩))) ∧ w'.rangeAt w.heap.size 0 ux) (by kernel_rfl) (by kernel_rfl) ?_
  refine WL.take (i:=0) (v:=?_) rfl (by kernel_rfl) (by decide) (by decide +kernel) (by decide +kernel) (fun _ _ _ h => h) rfl ?_ HSS ?_
  rotate_left
  ·(intro w' hSw;(try dsimp only at hSw);go_simp;(try with_reducible rfl))
  simp only [Act.put];(try simp only [List.getElem_toArray]);(try simp only [List.getElem_cons_succ]);(try simp only [List.getElem_cons_zero]);(try simp only [List.setIfInBounds_toArray]);(try simp only [List.set_cons_succ]);(try simp only [List.set_cons_zero])
  refine WL.take (i:=1) (v:=?_) rfl (by kernel_rfl) (by decide) (by decide +kernel) (by decide +kernel) (fun _ _ _ h => h) rfl ?_ HSS ?_
  rotate_left
  ·(intro w' hSw;(try dsimp only at hSw);go_simp;(try with_reducible rfl))
  simp only [Act.put];(try simp only [List.getElem_toArray]);(try simp only [List.getElem_cons_succ]);(try simp only [List.getElem_cons_zero]);(try simp only [List.setIfInBounds_toArray]);(try simp only [List.set_cons_succ]);(try simp only [List.set_cons_zero])
  refine WL.take (i:=2) (v:=?_) rfl (by kernel_rfl) (by decide) (by decide +kernel) (by decide +kernel) (fun _ _ _ h => h) rfl ?_ HSS ?_
  rotate_left
  ·(intro w' hSw;(try dsimp only at hSw);go_simp;(try with_reducible rfl))
  simp only [Act.put];(try simp only [List.getElem_toArray]);(try simp only [List.getElem_cons_succ]);(try simp only [List.getElem_cons_zero]);(try simp only [List.setIfInBounds_toArray]);(try simp only [List.set_cons_succ]);(try simp only [List.set_cons_zero])
  refine WL.take (i:=3) (v:=?_) rfl (by kernel_rfl) (by decide) (by decide +kernel) (by decide +kernel) (fun _ _ _ h => h) rfl ?_ HSS ?_
  rotate_left
  ·(intro w' hSw;(try dsimp only at hSw);go_simp;(try with_reducible rfl))
  simp only [Act.put];(try simp only [List.getElem_toArray]);(try simp only [List.getElem_cons_succ]);(try simp only [List.getElem_cons_zero]);(try simp only [List.setIfInBounds_toArray]);(try simp only [List.set_cons_succ]);(try simp only [List.set_cons_zero])
  refine WL.take (i:=4) (v:=_) rfl (by kernel_rfl) (by decide) (by decide +kernel) (by decide +kernel) (fun _ _ _ h => h) rfl (fun w' hSw => exec_row 27 _ (hSw.2) Tryz.underlying27 rfl h32x _ rfl rfl) HSS ?_
  simp only [Act.put];(try simp only [List.getElem_toArray]);(try simp only [List.getElem_cons_succ]);(try simp only [List.getElem_cons_zero]);(try simp only [List.setIfInBounds_toArray]);(try simp only [List.set_cons_succ]);(try simp only [List.set_cons_zero])
  refine WL.one (i:=5) rfl (by decide) (by decide +kernel) ?_
  go_wp2_with fail
  refine (HTR.out _ (HS1.out.below (Below.refl _ _).drew)).mono ?_
  intro e w2 h
  obtain ⟨ve,rfl,hrow,hfr,hb2⟩:=h
  have hb2':Below W1.heap.size W1 w2:=drew_below hb2
  have HS2:=Lib.hid (HS1.out.below hb2')
  have HWK2:=Lib.hid (HWK1.out.trans (Wk.below v hb2'))
  have hs2:=hb2'.size
  have hSS2:w2.cell? ⟨wb,0,none⟩ = some (.iface 72 (.pointer (some ⟨lb,0,none⟩))) ∧ w2.rangeAt w.heap.size 0 ux:=⟨HS2.out.a.cell 0 (by omega),rangeAt_below HR0.out hb2' hs1⟩
  have HROW:=Lib.hid hrow
  have HFR:Hid (FreshV W1 ve):=Lib.hid hfr
  clear HSS c0 hrow hfr hb2 hb2' HTR
  obtain ⟨tg,htg⟩:∃ tg,treeG f x = tg:=⟨_,rfl⟩
  rw [htg] at HROW HW0 ⊢
  go_wp2
  refine ⟨hSS2,?_⟩
  refine WL.take (i:=6) (v:=?_) rfl (by kernel_rfl) (by decide) (by decide +kernel) (by decide +kernel) (fun _ _ _ h => h) rfl ?_ hSS2 ?_
  rotate_left
  ·(intro w' hSw;(try dsimp only at hSw);go_simp;(try with_reducible rfl))
  simp only [Act.put];(try simp only [List.getElem_toArray]);(try simp only [List.getElem_cons_succ]);(try simp only [List.getElem_cons_zero]);(try simp only [List.setIfInBounds_toArray]);(try simp only [List.set_cons_succ]);(try simp only [List.set_cons_zero])
  refine WL.take (i:=7) (v:=?_) rfl (by kernel_rfl) (by decide) (by decide +kernel) (by decide +kernel) (fun _ _ _ h => h) rfl ?_ hSS2 ?_
  rotate_left
  ·(intro w' hSw;(try dsimp only at hSw);go_simp;(try with_reducible rfl))
  simp only [Act.put];(try simp only [List.getElem_toArray]);(try simp only [List.getElem_cons_succ]);(try simp only [List.getElem_cons_zero]);(try simp only [List.setIfInBounds_toArray]);(try simp only [List.set_cons_succ]);(try simp only [List.set_cons_zero])
  refine WL.take (i:=8) (v:=?_) rfl (by kernel_rfl) (by decide) (by decide +kernel) (by decide +kernel) (fun _ _ _ h => h) rfl ?_ hSS2 ?_
  rotate_left
  ·(intro w' hSw;(try dsimp only at hSw);go_simp;(try with_reducible rfl))
  simp only [Act.put];(try simp only [List.getElem_toArray]);(try simp only [List.getElem_cons_succ]);(try simp only [List.getElem_cons_zero]);(try simp only [List.setIfInBounds_toArray]);(try simp only [List.set_cons_succ]);(try simp only [List.set_cons_zero])
  refine WL.one (i:=9) rfl (by decide) (by decide +kernel) ?_
  go_wp2
  refine ⟨hSS2,?_⟩
  refine WL.last (n:=10) rfl rfl (by decide +kernel) (by decide +kernel) ?_
  clear hSS2
  cases tg with
  | none =>
   have HW:Hid (walkG f (decide (D = 8)) rec x ahead lf n = .inl 13):=Lib.hid HW0.out
   clear HW0 htg
   dsimp only [Option.isSome]
   go_wp2
   go_ret
   exact walkAns_err HW.out (by decide) (by decide) HWK2.out
  | some es =>
   have HW1:Hid (walkG f (decide (D = 8)) rec x ahead lf n = loopF f (decide (D = 8)) rec ahead es lf (n + 1)):=Lib.hid HW0.out
   have HES:Hid (es.length ≤ 32 ∧ ∀ e ∈ es,e.id.length = 32 ∧ e.name.size ≤ 32 ∧ (e.kind = 1 ∨ e.kind = 2)):=Lib.hid (by
    unfold treeG at htg
    split at htg
    ·split at htg
     ·exact treeOf_some htg
     ·cases htg
    ·cases htg)
   have hrow:EntRow w2 ve es:=HROW.out
   obtain ⟨eo,ec,rfl,hem,hER⟩:=hrow.open2
   unfold maxLen at hem
   have HE:Hid (es ≠ [] → ∃ b off,eo = some ⟨b,off,none⟩ ∧ b < w2.heap.size ∧ W1.heap.size ≤ b ∧ ∀ k (hk:k < es.length),w2.rangeAt b (off + k * 34) (entC es[k])):=Lib.hid (fun hne => by
    obtain ⟨b,off,h1,h2,h3⟩:=hER hne
    exact ⟨b,off,h1,h2,HFR.out b (by rw [h1];rfl),h3⟩)
   clear HW0 htg hrow hER HROW HFR
   dsimp only [Option.isSome,Option.getD]
   go_wp2_with fail
   obtain ⟨zs,i0,hi,hz0,hz1,hz2,hzv,hbu,hzs⟩:=ent_zero
   have HZS:=Lib.hid hzs
   have hi34:(Tryz.prog.info? 84).map (·.size) = some 34:=by rw [hi];exact congrArg some hz1
   clear hbu hzs hz0 hz2
   go_loopw [41] (fun i wr => ∃ (k nk:Nat) (lk:Lfs) (vk:Value),k ≤ es.length ∧ i = .int .i64 k ∧ lk.length ≤ 300 ∧ nk ≤ 300 ∧ Hid (walkG f (decide (D = 8)) rec x ahead lf n = loopF f (decide (D = 8)) rec ahead (es.drop k) lk nk) ∧ Hid (WS wb ob lb mb nm base f lk nk vk wr) ∧ Hid (Wk wb ob w2 wr v vk)) (fun i _ => (es.length - intOf i).toNat)
   case atStart => exact ⟨0,n + 1,lf,v,by omega,rfl,hlf,by omega,HW1,HS2,Lib.hid (Wk.below v (Below.refl _ _))⟩
   case round =>
    obtain ⟨wo,rfl⟩:∃ wo:World,wo = wr:=⟨_,rfl⟩
    obtain ⟨k,nk,lk,vk,hk,rfl,hlk,hnk,hwk,HSO,HKO⟩:=hrel
    have hszo:=HKO.out.size
    by_cases hlt:k < es.length
    ·obtain ⟨b,off,rfl,hbl,hbb,hce⟩:=HE.out (by intro e;rw [e] at hlt;simp at hlt)
     have HDR:Hid (es.drop k = es[k] :: es.drop (k + 1)):=Lib.hid (List.drop_eq_getElem_cons hlt)
     have hq1:=HBB.out.hwb
     have hq2:=HBB.out.hob
     have hq3:=HBS.out
     have f1:=HKO.out.range (hce k hlt) (by omega) (by omega) (fun e => by have:=HVL.out b e;omega)
     obtain ⟨hid,hnm,hkd⟩:=HES.out.2 es[k] (List.getElem_mem hlt)
     have k0:(0:Int) ≤ k:=by omega
     have k1:(k:Int) < es.length:=by omega
     generalize es[k] = en at HDR f1 hid hnm hkd
     obtain ⟨nm',kd,id⟩:=en
     dsimp only at hid hnm hkd
     have hcl:(entC ⟨nm',kd,id⟩).length = 34:=by simp [entC,idC_len,hid]
     have h34:(Tryz.prog.info? 84).map (·.size) = some (entC ⟨nm',kd,id⟩).length:=by rw [hcl];exact hi34
     have hone:=entC_one ⟨nm',kd,id⟩
     have hth:(wo.alloc (.cells zs 84)).there wo.heap.size 0 34:=by
      rw [HZS.out]
      have:=(Arr.ofList wo ((List.range 34).map entZ) 84).there
      rw [List.length_map,List.length_range] at this
      exact this
     have hr3:=World.rangeAt_setCells_same (wo.alloc (.cells zs 84)) wo.heap.size 0 (entC ⟨nm',kd,id⟩) (by rw [hcl];exact hth)
     have hB3:=below_setCells (B:=wo.heap.size) (a:=wo) wo.heap.size (Nat.le_refl _) (entC ⟨nm',kd,id⟩) 0 _ ((Below.refl _ _).alloc (Nat.le_refl _) (.cells zs 84))
     obtain ⟨c1,c2⟩:=ent_name hr3
     rw [Nat.zero_add] at c2
     dsimp only at c1 c2
     have hri:((wo.alloc (.cells zs 84)).setCells wo.heap.size 0 (entC ⟨nm',kd,id⟩)).rangeAt wo.heap.size 2 (idC id):=fun j u hu => by
      have:=hr3 (j + 2) u (by unfold entC;rw [List.getElem?_append_right (by simp)];simpa using hu)
      rw [show 0 + (j + 2) = 2 + j by omega] at this
      exact this
     obtain ⟨us,hus⟩:∃ us,us = entC ⟨nm',kd,id⟩:=⟨_,rfl⟩
     rw [← hus] at hcl h34 hone hB3 c1 c2 f1 hri
     clear hr3 hus hce
     obtain ⟨W5,hW5⟩:∃ W5,(wo.alloc (.cells zs 84)).setCells wo.heap.size 0 us = W5:=⟨_,rfl⟩
     rw [hW5] at hB3 c1 c2 hri
     have hszW:wo.heap.size < W5.heap.size:=World.block_lt_of_cell? W5 ⟨wo.heap.size,0,none⟩ c1
     have HS5:=Lib.hid (HSO.out.below hB3)
     have HK5:Hid (Wk wb ob w2 W5 v vk):=Lib.hid (HKO.out.trans (Wk.below vk hB3))
     have HW5:=Lib.hid hW5
     have HTH:=Lib.hid hth
     have HCL:=Lib.hid hcl
     have HON:=Lib.hid hone
     have F1:=Lib.hid f1
     have HRI:=Lib.hid hri
     obtain ⟨E,hE⟩:∃ E,E = wo.heap.size:=⟨_,rfl⟩
     clear hth hcl hone f1 hW5 hri hB3
     go_upto_region 10 with ((first | (refine wpList_load_mid rfl 84 _ rfl b (off + k * 34) rfl us _ F1.out Tryz.underlying84 rfl h34 ?_) | (refine wpList_store_list rfl 84 _ _ rfl wo.heap.size 0 us rfl rfl 34 HCL.out HTH.out hi34 HON.out ?_)))
     simp only [Act.put]
     rw [HW5.out]
     clear HW5 F1 HTH HCL HON
     rw [← hE] at c1 c2 hszW HRI ⊢
     have hEo:wo.heap.size ≤ E:=by omega
     clear hE
     by_cases h8:D = 8
     ·have HW:Hid (walkG f (decide (D = 8)) rec x ahead lf n = .inl 11):=by
       unfold Hid;rw [hwk.out,HDR.out,show decide (D = 8) = true from decide_eq_true h8];rfl
      have d3:((D:Int) == 8) = true:=by rw [beq_iff_eq];omega
      have HK:=Lib.hid (HWK2.out.trans HK5.out)
      clear hwk
      go_wp2
      go_ret
      exact walkAns_err HW.out (by decide) (by decide) HK.out
     ·have HW0:Hid (walkG f (decide (D = 8)) rec x ahead lf n = loopF f false rec ahead (⟨nm',kd,id⟩ :: es.drop (k + 1)) lk nk):=by
       unfold Hid;rw [hwk.out,HDR.out,show decide (D = 8) = false from decide_eq_false h8]
      have HWX:Hid (∀ (lk':Lfs) (nk':Nat),walkG f (decide (D = 8)) rec x ahead lf n = loopF f false rec ahead (es.drop (k + 1)) lk' nk' → walkG f (decide (D = 8)) rec x ahead lf n = loopF f (decide (D = 8)) rec ahead (es.drop (k + 1)) lk' nk'):=Lib.hid (fun lk' nk' h => by rw [h,show decide (D = 8) = false from decide_eq_false h8])
      have d3:((D:Int) == 8) = false:=by rw [beq_eq_false_iff_ne];omega
      have HRC:=Lib.hid (HREC.out (by omega))
      clear hwk HDR
      have h32i:=h32_of (us:=idC id) (by rw [idC_len,hid])
      by_cases h2:kd = 2
      ·have d4:((kd:Int) == 2) = true:=by rw [beq_iff_eq];omega
       have hcat1:∀ W,(Op.stringOp .add ahead nm').run Tryz.prog W = .ok (.string (ahead ++ nm')) W:=fun W => run_string_add_sum W _ _ (by omega)
       have hcat2:∀ W,(Op.stringOp .add (ahead ++ nm') ⟨#[47]⟩).run Tryz.prog W = .ok (.string (ahead ++ nm' ++ slashL)) W:=fun W => run_string_add_sum W _ _ (by rw [ByteArray.size_append];show ahead.size + nm'.size + 1 ≤ _;omega)
       obtain ⟨D1,hD1⟩:∃ D1,D1 = D + 1:=⟨_,rfl⟩
       have hwr:IntKind.i64.wrap ((D:Int) + 1) = (D1:Int):=by rw [hD1];exact IntWalk.i64_in _ (by omega)
       have hwr2:(D:Int) + 1 = (D1:Int):=by omega
       have HCL:=Lib.hid (HRC.out id (ahead ++ nm' ++ slashL) vk lk nk W5 hid (by rw [ByteArray.size_append,ByteArray.size_append];show ahead.size + nm'.size + 1 ≤ _;omega) hlk hnk HS5.out)
       rw [← hD1] at HCL
       generalize hue:idC id = ue at HRI h32i HCL
       clear hue HRC hD1
       go_wp2_with (refine wpList_load_mid rfl 27 _ rfl E 2 rfl ue _ HRI.out Tryz.underlying27 rfl h32i ?_)
       refine HCL.out.mono ?_
       intro e w6 h
       cases hr:rec id (ahead ++ nm' ++ slashL) lk nk with
       | inl c =>
        rw [hr] at h
        obtain ⟨rfl,hc1,hc2,v',hk'⟩:=h
        have HW:Hid (walkG f (decide (D = 8)) rec x ahead lf n = .inl c):=by unfold Hid;rw [HW0.out,loopF_err h2 hr]
        have HK:=Lib.hid ((HWK2.out.trans HK5.out).trans hk')
        have d5:((c:Int) != 0) = true:=by rw [bne_iff_ne];omega
        clear hr hk'
        go_wp2
        go_ret
        exact walkAns_err HW.out hc1 hc2 HK.out
       | inr y =>
        rw [hr] at h
        obtain ⟨ly,ny⟩:=y
        obtain ⟨rfl,hy1,hy2,v',hs',hk'⟩:=h
        have HW2:Hid (walkG f (decide (D = 8)) rec x ahead lf n = loopF f (decide (D = 8)) rec ahead (es.drop (k + 1)) ly ny):=HWX.out ly ny (by rw [HW0.out,loopF_ok h2 hr])
        have HS6:=Lib.hid hs'
        have HK6:=Lib.hid (HK5.out.trans hk')
        clear hr hk' hs'
        go_wp2
        go_roundw
        case rel => exact ⟨k + 1,ny,ly,v',by omega,by go_num,hy1,hy2,HW2,HS6,HK6⟩
        case measure => simp [intOf];omega
      ·have d4:((kd:Int) == 2) = false:=by rw [beq_eq_false_iff_ne];omega
       go_upto_region 15 with fail
       obtain ⟨ob1,hob1⟩:∃ o:Option Ob,f id = o:=⟨_,rfl⟩
       have HOBE:=Lib.hid hob1
       have HGT:=Lib.hid (fun W (h:Below W5.heap.size W5 W) => oget_any lb mb nm f id W (HS5.out.below h).src (HS5.out.below h).map hid)
       rw [hob1] at HGT
       clear hob1
       have HSX:Hid (∀ W,Below W5.heap.size W5 W → W.cell? ⟨wb,0,none⟩ = some (.iface 72 (.pointer (some ⟨lb,0,none⟩))) ∧ W.rangeAt E 2 (idC id)):=Lib.hid (fun W h => ⟨(HS5.out.below h).a.cell 0 (by omega),rangeAt_below HRI.out h hszW⟩)
       have HOB1:Hid (∀ u ∈ ([.int .i64 (ob1.getD ob0).kind,.string (ob1.getD ob0).body]:List Value),u.oneCell' = true):=Lib.hid (by simp [Value.oneCell'])
       generalize hue:idC id = ue at HRI h32i HGT HSX
       clear hue HRC
       have hmg:=method_get
       go_cut [14,15,41] from 41 to 92 (fun s14 s15 s41 wx => ∃ P,s14 = .pointer (some ⟨P,0,none⟩) ∧ s15 = .bool ob1.isSome ∧ s41 = .int .i64 (k:Int) ∧ W5.heap.size ≤ P ∧ Hid (wx.rangeAt P 0 [.int .i64 (ob1.getD ob0).kind,.string (ob1.getD ob0).body]) ∧ Hid (Below W5.heap.size W5 wx))
       case first =>
        have HS0:=HSX.out W5.drew (Below.refl _ _).drew
        refine wp_region_L 12 (fun w' => w'.cell? ⟨wb,0,none⟩ = some (.iface 72 (.pointer (some ⟨lb,0,none⟩))) ∧ w'.rangeAt E 2 ue) (by kernel_rfl) (by kernel_rfl) ?_
        refine WL.take (i:=0) (v:=?_) rfl (by kernel_rfl) (by decide) (by decide +kernel) (by decide +kernel) (fun _ _ _ h => h) rfl ?_ HS0 ?_
        rotate_left
        ·(intro w' hSw;(try dsimp only at hSw);go_simp;(try with_reducible rfl))
        simp only [Act.put];(try simp only [List.getElem_toArray]);(try simp only [List.getElem_cons_succ]);(try simp only [List.getElem_cons_zero]);(try simp only [List.setIfInBounds_toArray]);(try simp only [List.set_cons_succ]);(try simp only [List.set_cons_zero])
        refine WL.take (i:=1) (v:=?_) rfl (by kernel_rfl) (by decide) (by decide +kernel) (by decide +kernel) (fun _ _ _ h => h) rfl ?_ HS0 ?_
        rotate_left
        ·(intro w' hSw;(try dsimp only at hSw);go_simp;(try with_reducible rfl))
        simp only [Act.put];(try simp only [List.getElem_toArray]);(try simp only [List.getElem_cons_succ]);(try simp only [List.getElem_cons_zero]);(try simp only [List.setIfInBounds_toArray]);(try simp only [List.set_cons_succ]);(try simp only [List.set_cons_zero])
        refine WL.take (i:=2) (v:=?_) rfl (by kernel_rfl) (by decide) (by decide +kernel) (by decide +kernel) (fun _ _ _ h => h) rfl ?_ HS0 ?_
        rotate_left
        ·(intro w' hSw;(try dsimp only at hSw);go_simp;(try with_reducible rfl))
        simp only [Act.put];(try simp only [List.getElem_toArray]);(try simp only [List.getElem_cons_succ]);(try simp only [List.getElem_cons_zero]);(try simp only [List.setIfInBounds_toArray]);(try simp only [List.set_cons_succ]);(try simp only [List.set_cons_zero])
        refine WL.take (i:=3) (v:=?_) rfl (by kernel_rfl) (by decide) (by decide +kernel) (by decide +kernel) (fun _ _ _ h => h) rfl ?_ HS0 ?_
        rotate_left
        ·(intro w' hSw;(try dsimp only at hSw);go_simp;(try with_reducible rfl))
        simp only [Act.put];(try simp only [List.getElem_toArray]);(try simp only [List.getElem_cons_succ]);(try simp only [List.getElem_cons_zero]);(try simp only [List.setIfInBounds_toArray]);(try simp only [List.set_cons_succ]);(try simp only [List.set_cons_zero])
        refine WL.take (i:=4) (v:=?_) rfl (by kernel_rfl) (by decide) (by decide +kernel) (by decide +kernel) (fun _ _ _ h => h) rfl ?_ HS0 ?_
        rotate_left
        ·(intro w' hSw;(try dsimp only at hSw);go_simp;(try with_reducible rfl))
        simp only [Act.put];(try simp only [List.getElem_toArray]);(try simp only [List.getElem_cons_succ]);(try simp only [List.getElem_cons_zero]);(try simp only [List.setIfInBounds_toArray]);(try simp only [List.set_cons_succ]);(try simp only [List.set_cons_zero])
        refine WL.take (i:=5) (v:=_) rfl (by kernel_rfl) (by decide) (by decide +kernel) (by decide +kernel) (fun _ _ _ h => h) rfl (fun w' hSw => exec_row 27 _ (hSw.2) Tryz.underlying27 rfl h32i _ rfl rfl) HS0 ?_
        simp only [Act.put];(try simp only [List.getElem_toArray]);(try simp only [List.getElem_cons_succ]);(try simp only [List.getElem_cons_zero]);(try simp only [List.setIfInBounds_toArray]);(try simp only [List.set_cons_succ]);(try simp only [List.set_cons_zero])
        refine WL.two (i:=6) (k:=10) rfl rfl (by decide) (by decide) (by decide +kernel) ?_ ?_
        focus
         go_wp2_with fail
         refine (HGT.out _ (Below.refl _ _).drew).mono ?_
         rintro e w6 ⟨rfl,hb6⟩
         have HB6:=Lib.hid (drew_below hb6)
         have HS6:=HSX.out w6 HB6.out
         have HB7:Hid (Below W5.heap.size W5 (w6.alloc (.cells #[.int .i64 0,.string ⟨#[]⟩] 59))):=Lib.hid (HB6.out.alloc HB6.out.size _)
         have HS7:=HSX.out _ HB7.out
         have hth:=Lib.hid (Arr.ofList w6 [.int .i64 0,.string ⟨#[]⟩] 59).there
         have hp6:=HB6.out.size
         clear hb6
         go_wp2
         refine ⟨HS6,?_⟩
         refine WL.take (i:=7) (v:=?_) rfl (by kernel_rfl) (by decide) (by decide +kernel) (by decide +kernel) (fun _ _ _ h => h) rfl ?_ HS6 ?_
         rotate_left
         ·(intro w' hSw;(try dsimp only at hSw);go_simp;(try with_reducible rfl))
         simp only [Act.put];(try simp only [List.getElem_toArray]);(try simp only [List.getElem_cons_succ]);(try simp only [List.getElem_cons_zero]);(try simp only [List.setIfInBounds_toArray]);(try simp only [List.set_cons_succ]);(try simp only [List.set_cons_zero])
         refine WL.take (i:=8) (v:=?_) rfl (by kernel_rfl) (by decide) (by decide +kernel) (by decide +kernel) (fun _ _ _ h => h) rfl ?_ HS6 ?_
         rotate_left
         ·(intro w' hSw;(try dsimp only at hSw);go_simp;(try with_reducible rfl))
         simp only [Act.put];(try simp only [List.getElem_toArray]);(try simp only [List.getElem_cons_succ]);(try simp only [List.getElem_cons_zero]);(try simp only [List.setIfInBounds_toArray]);(try simp only [List.set_cons_succ]);(try simp only [List.set_cons_zero])
         refine WL.take (i:=9) (v:=?_) rfl (by kernel_rfl) (by decide) (by decide +kernel) (by decide +kernel) (fun _ _ _ h => h) rfl ?_ HS6 ?_
         rotate_left
         ·(intro w' hSw;(try dsimp only at hSw);go_simp;(try with_reducible rfl))
         simp only [Act.put];(try simp only [List.getElem_toArray]);(try simp only [List.getElem_cons_succ]);(try simp only [List.getElem_cons_zero]);(try simp only [List.setIfInBounds_toArray]);(try simp only [List.set_cons_succ]);(try simp only [List.set_cons_zero])
         refine WL.one (i:=10) rfl (by decide) (by decide +kernel) ?_
         go_wp2
         refine ⟨HS7,?_⟩
         obtain ⟨P,hP⟩:∃ P,w6.heap.size = P:=⟨_,rfl⟩
         obtain ⟨w7,hw7⟩:∃ w7,w6.alloc (.cells #[.int .i64 0,.string ⟨#[]⟩] 59) = w7:=⟨_,rfl⟩
         rw [hw7] at HB7 HS7 hth ⊢
         rw [hP] at hth hp6
         simp only [hP]
         clear hP hw7 HS6
        rotate_left
        focus
         have HB6:Hid (Below W5.heap.size W5 (W5.alloc (.cells #[.int .i64 0,.string ⟨#[]⟩] 59)).drew):=Lib.hid (((Below.refl _ _).alloc (Nat.le_refl _) _).drew)
         have hth6:=(Arr.ofList W5 [.int .i64 0,.string ⟨#[]⟩] 59).drew.there
         have HS6:=HSX.out _ HB6.out
         go_wp2
         refine ⟨HS6,?_⟩
         refine WL.one (i:=6) rfl (by decide) (by decide +kernel) ?_
         go_wp2_with fail
         refine (HGT.out _ HB6.out).mono ?_
         rintro e w7 ⟨rfl,hb7⟩
         have hth:=Lib.hid (there_below hth6 hb7 (by simp))
         have HB7:=Lib.hid (HB6.out.trans (hb7.mono HB6.out.size))
         have HS7:=HSX.out _ HB7.out
         have hp6:W5.heap.size ≤ W5.heap.size:=Nat.le_refl _
         clear hb7 hth6
         go_wp2
         refine ⟨HS7,?_⟩
         refine WL.take (i:=7) (v:=?_) rfl (by kernel_rfl) (by decide) (by decide +kernel) (by decide +kernel) (fun _ _ _ h => h) rfl ?_ HS7 ?_
         rotate_left
         ·(intro w' hSw;(try dsimp only at hSw);go_simp;(try with_reducible rfl))
         simp only [Act.put];(try simp only [List.getElem_toArray]);(try simp only [List.getElem_cons_succ]);(try simp only [List.getElem_cons_zero]);(try simp only [List.setIfInBounds_toArray]);(try simp only [List.set_cons_succ]);(try simp only [List.set_cons_zero])
         refine WL.take (i:=8) (v:=?_) rfl (by kernel_rfl) (by decide) (by decide +kernel) (by decide +kernel) (fun _ _ _ h => h) rfl ?_ HS7 ?_
         rotate_left
         ·(intro w' hSw;(try dsimp only at hSw);go_simp;(try with_reducible rfl))
         simp only [Act.put];(try simp only [List.getElem_toArray]);(try simp only [List.getElem_cons_succ]);(try simp only [List.getElem_cons_zero]);(try simp only [List.setIfInBounds_toArray]);(try simp only [List.set_cons_succ]);(try simp only [List.set_cons_zero])
         refine WL.take (i:=9) (v:=?_) rfl (by kernel_rfl) (by decide) (by decide +kernel) (by decide +kernel) (fun _ _ _ h => h) rfl ?_ HS7 ?_
         rotate_left
         ·(intro w' hSw;(try dsimp only at hSw);go_simp;(try with_reducible rfl))
         simp only [Act.put];(try simp only [List.getElem_toArray]);(try simp only [List.getElem_cons_succ]);(try simp only [List.getElem_cons_zero]);(try simp only [List.setIfInBounds_toArray]);(try simp only [List.set_cons_succ]);(try simp only [List.set_cons_zero])
         obtain ⟨P,hP⟩:∃ P,P = W5.heap.size:=⟨_,rfl⟩
         rw [← hP] at hth
         have hp6:W5.heap.size ≤ P:=by omega
         simp only [← hP]
         clear hP HS6
        all_goals
         refine WL.one (i:=11) rfl (by decide) (by decide +kernel) ?_
         refine wpList_store_list rfl 59 _ _ rfl P 0 [.int .i64 (ob1.getD ob0).kind,.string (ob1.getD ob0).body] rfl rfl 2 rfl hth.out (by kernel_rfl) HOB1.out ?_
         simp only [Act.put];(try simp only [List.getElem_toArray]);(try simp only [List.getElem_cons_succ]);(try simp only [List.getElem_cons_zero]);(try simp only [List.setIfInBounds_toArray]);(try simp only [List.set_cons_succ]);(try simp only [List.set_cons_zero])
         have HB8:=Lib.hid (below_setCells (B:=W5.heap.size) (a:=W5) P hp6 [.int .i64 (ob1.getD ob0).kind,.string (ob1.getD ob0).body] 0 w7 HB7.out)
         have HR8:=Lib.hid (World.rangeAt_setCells_same w7 P 0 [.int .i64 (ob1.getD ob0).kind,.string (ob1.getD ob0).body] hth.out)
         generalize w7.setCells P 0 [.int .i64 (ob1.getD ob0).kind,.string (ob1.getD ob0).body] = w8 at HB8 HR8
         have HS8:=HSX.out _ HB8.out
         refine ⟨HS8,?_⟩
         refine WL.last (n:=12) rfl rfl (by decide +kernel) (by decide +kernel) ?_
         clear HS8 HS7 HS0
         go_wp2_with fail
         go_meet
         exact ⟨P,rfl,rfl,rfl,hp6,HR8,HB8⟩
       case rest =>
        obtain ⟨P,rfl,rfl,rfl,hP,HR8,HB8⟩:=hcut
        have HS8:=Lib.hid (HS5.out.below HB8.out)
        have HK8:Hid (Wk wb ob w2 wc v vk):=Lib.hid (HK5.out.trans (Wk.below vk HB8.out))
        have n1:=below_load c1 HB8.out hszW
        have p0:=HR8.out 0 _ rfl
        have p1:=HR8.out 1 _ rfl
        have hPl:P < wc.heap.size:=World.block_lt_of_cell? wc ⟨P,_,none⟩ p0
        rw [Nat.zero_add] at p0 p1
        clear HGT HSX HOB1 hmg HRI c1 c2 h32i
        cases ob1 with
        | none =>
         have HW:Hid (walkG f (decide (D = 8)) rec x ahead lf n = .inl 13):=by unfold Hid;rw [HW0.out,loopF_none h2 HOBE.out]
         have HK:=Lib.hid (HWK2.out.trans HK8.out)
         dsimp only [Option.getD,Option.isSome] at p0 p1 ⊢
         go_wp2
         go_ret
         exact walkAns_err HW.out (by decide) (by decide) HK.out
        | some bo =>
         dsimp only [Option.getD,Option.isSome] at p0 p1 ⊢
         by_cases hb1:bo.kind = 1
         ·have d5:(bo.kind == 1) = true:=by rw [hb1];rfl
          have hcat1:∀ W,(Op.stringOp .add ahead nm').run Tryz.prog W = .ok (.string (ahead ++ nm')) W:=fun W => run_string_add_sum W _ _ (by omega)
          have hfc:wc.cell? ⟨wb,1,none⟩ = some (.func (.func 22) #[] #[.pointer (some ⟨ob,0,none⟩)]):=HS8.out.a.cell 1 (by omega)
          have HS0:wc.drew.cell? ⟨wb,1,none⟩ = some (.func (.func 22) #[] #[.pointer (some ⟨ob,0,none⟩)]) ∧ wc.drew.cell? ⟨E,0,none⟩ = some (.string nm') ∧ wc.drew.cell? ⟨P,1,none⟩ = some (.string bo.body):=⟨hfc,n1,p1⟩
          have HPF:=Lib.hid (pfile_any ob base lk (ahead ++ nm') bo.body vk wc.drew HS8.out.o.drew (own_below HS8.out.own (Below.refl _ _).drew) hq2 HS8.out.bs hlk)
          clear hfc
          go_wp2_with fail
          refine wp_region_L 12 (fun w' => w'.cell? ⟨wb,1,none⟩ = some (.func (.func 22) #[] #[.pointer (some ⟨ob,0,none⟩)]) ∧ w'.cell? ⟨E,0,none⟩ = some (.string nm') ∧ w'.cell? ⟨P,1,none⟩ = some (.string bo.body)) (by kernel_rfl) (by kernel_rfl) ?_
          refine WL.take (i:=0) (v:=?_) rfl (by kernel_rfl) (by decide) (by decide +kernel) (by decide +kernel) (fun _ _ _ h => h) rfl ?_ HS0 ?_
          rotate_left
          ·(intro w' hSw;(try dsimp only at hSw);go_simp;(try with_reducible rfl))
          simp only [Act.put];(try simp only [List.getElem_toArray]);(try simp only [List.getElem_cons_succ]);(try simp only [List.getElem_cons_zero]);(try simp only [List.setIfInBounds_toArray]);(try simp only [List.set_cons_succ]);(try simp only [List.set_cons_zero])
          refine WL.take (i:=1) (v:=?_) rfl (by kernel_rfl) (by decide) (by decide +kernel) (by decide +kernel) (fun _ _ _ h => h) rfl ?_ HS0 ?_
          rotate_left
          ·(intro w' hSw;(try dsimp only at hSw);go_simp;(try with_reducible rfl))
          simp only [Act.put];(try simp only [List.getElem_toArray]);(try simp only [List.getElem_cons_succ]);(try simp only [List.getElem_cons_zero]);(try simp only [List.setIfInBounds_toArray]);(try simp only [List.set_cons_succ]);(try simp only [List.set_cons_zero])
          refine WL.take (i:=2) (v:=?_) rfl (by kernel_rfl) (by decide) (by decide +kernel) (by decide +kernel) (fun _ _ _ h => h) rfl ?_ HS0 ?_
          rotate_left
          ·(intro w' hSw;(try dsimp only at hSw);go_simp;(try with_reducible rfl))
          simp only [Act.put];(try simp only [List.getElem_toArray]);(try simp only [List.getElem_cons_succ]);(try simp only [List.getElem_cons_zero]);(try simp only [List.setIfInBounds_toArray]);(try simp only [List.set_cons_succ]);(try simp only [List.set_cons_zero])
          refine WL.take (i:=3) (v:=?_) rfl (by kernel_rfl) (by decide) (by decide +kernel) (by decide +kernel) (fun _ _ _ h => h) rfl ?_ HS0 ?_
          rotate_left
          ·(intro w' hSw;(try dsimp only at hSw);go_simp;(try with_reducible rfl))
          simp only [Act.put];(try simp only [List.getElem_toArray]);(try simp only [List.getElem_cons_succ]);(try simp only [List.getElem_cons_zero]);(try simp only [List.setIfInBounds_toArray]);(try simp only [List.set_cons_succ]);(try simp only [List.set_cons_zero])
          refine WL.take (i:=4) (v:=?_) rfl (by kernel_rfl) (by decide) (by decide +kernel) (by decide +kernel) (fun _ _ _ h => h) rfl ?_ HS0 ?_
          rotate_left
          ·(intro w' hSw;(try dsimp only at hSw);go_simp;(try with_reducible rfl))
          simp only [Act.put];(try simp only [List.getElem_toArray]);(try simp only [List.getElem_cons_succ]);(try simp only [List.getElem_cons_zero]);(try simp only [List.setIfInBounds_toArray]);(try simp only [List.set_cons_succ]);(try simp only [List.set_cons_zero])
          refine WL.take (i:=5) (v:=?_) rfl (by kernel_rfl) (by decide) (by decide +kernel) (by decide +kernel) (fun _ _ _ h => h) rfl ?_ HS0 ?_
          rotate_left
          ·(intro w' hSw;(try dsimp only at hSw);go_simp;(try with_reducible rfl))
          simp only [Act.put];(try simp only [List.getElem_toArray]);(try simp only [List.getElem_cons_succ]);(try simp only [List.getElem_cons_zero]);(try simp only [List.setIfInBounds_toArray]);(try simp only [List.set_cons_succ]);(try simp only [List.set_cons_zero])
          refine WL.take (i:=6) (v:=?_) rfl (by kernel_rfl) (by decide) (by decide +kernel) (by decide +kernel) (fun _ _ _ h => h) rfl ?_ HS0 ?_
          rotate_left
          ·(intro w' hSw;(try dsimp only at hSw);go_simp;(try with_reducible rfl))
          simp only [Act.put];(try simp only [List.getElem_toArray]);(try simp only [List.getElem_cons_succ]);(try simp only [List.getElem_cons_zero]);(try simp only [List.setIfInBounds_toArray]);(try simp only [List.set_cons_succ]);(try simp only [List.set_cons_zero])
          refine WL.take (i:=7) (v:=?_) rfl (by kernel_rfl) (by decide) (by decide +kernel) (by decide +kernel) (fun _ _ _ h => h) rfl ?_ HS0 ?_
          rotate_left
          ·(intro w' hSw;(try dsimp only at hSw);go_simp;(try with_reducible rfl))
          simp only [Act.put];(try simp only [List.getElem_toArray]);(try simp only [List.getElem_cons_succ]);(try simp only [List.getElem_cons_zero]);(try simp only [List.setIfInBounds_toArray]);(try simp only [List.set_cons_succ]);(try simp only [List.set_cons_zero])
          refine WL.take (i:=8) (v:=?_) rfl (by kernel_rfl) (by decide) (by decide +kernel) (by decide +kernel) (fun _ _ _ h => h) rfl ?_ HS0 ?_
          rotate_left
          ·(intro w' hSw;(try dsimp only at hSw);go_simp;(try with_reducible rfl))
          simp only [Act.put];(try simp only [List.getElem_toArray]);(try simp only [List.getElem_cons_succ]);(try simp only [List.getElem_cons_zero]);(try simp only [List.setIfInBounds_toArray]);(try simp only [List.set_cons_succ]);(try simp only [List.set_cons_zero])
          refine WL.take (i:=9) (v:=?_) rfl (by kernel_rfl) (by decide) (by decide +kernel) (by decide +kernel) (fun _ _ _ h => h) rfl ?_ HS0 ?_
          rotate_left
          ·(intro w' hSw;(try dsimp only at hSw);go_simp;(try with_reducible rfl))
          simp only [Act.put];(try simp only [List.getElem_toArray]);(try simp only [List.getElem_cons_succ]);(try simp only [List.getElem_cons_zero]);(try simp only [List.setIfInBounds_toArray]);(try simp only [List.set_cons_succ]);(try simp only [List.set_cons_zero])
          refine WL.take (i:=10) (v:=?_) rfl (by kernel_rfl) (by decide) (by decide +kernel) (by decide +kernel) (fun _ _ _ h => h) rfl ?_ HS0 ?_
          rotate_left
          ·(intro w' hSw;(try dsimp only at hSw);go_simp;(try with_reducible rfl))
          simp only [Act.put];(try simp only [List.getElem_toArray]);(try simp only [List.getElem_cons_succ]);(try simp only [List.getElem_cons_zero]);(try simp only [List.setIfInBounds_toArray]);(try simp only [List.set_cons_succ]);(try simp only [List.set_cons_zero])
          refine WL.one (i:=11) rfl (by decide) (by decide +kernel) ?_
          go_wp2_with fail
          refine HPF.out.mono ?_
          intro e w9 h
          have hEob:E ≠ ob:=by omega
          have hPob:P ≠ ob:=by omega
          have hvE:vk.ownBlock ≠ some E:=fun e => by have:=(HSO.out.own.lt E e).2;omega
          have hvP:vk.ownBlock ≠ some P:=fun e => by have:=(HS5.out.own.lt P e).2;omega
          by_cases h300:lk.length = 300
          ·have HW:Hid (walkG f (decide (D = 8)) rec x ahead lf n = .inl 4):=by unfold Hid;rw [HW0.out,loopF_full h2 HOBE.out hb1 h300]
           obtain ⟨rfl,hb9⟩:=h.1 h300
           have hb9':=drew_below hb9
           have hS9:w9.cell? ⟨wb,1,none⟩ = some (.func (.func 22) #[] #[.pointer (some ⟨ob,0,none⟩)]) ∧ w9.cell? ⟨E,0,none⟩ = some (.string nm') ∧ w9.cell? ⟨P,1,none⟩ = some (.string bo.body) :=
            ⟨below_load HS0.1 hb9 HS8.out.lt,below_load n1 hb9' (World.block_lt_of_cell? wc _ n1),below_load p1 hb9' hPl⟩
           have HK:=Lib.hid (HWK2.out.trans (HK8.out.trans (Wk.below vk hb9')))
           clear h hb9 hb9' h300 hb1
           go_wp2
           refine ⟨hS9,?_⟩
           refine WL.last (n:=12) rfl rfl (by decide +kernel) (by decide +kernel) ?_
           clear hS9 HS0
           go_wp2
           go_ret
           exact walkAns_err HW.out (by decide) (by decide) HK.out
          ·have HW2:Hid (walkG f (decide (D = 8)) rec x ahead lf n = loopF f (decide (D = 8)) rec ahead (es.drop (k + 1)) (lk ++ [(ahead ++ nm',bo.body)]) nk):=HWX.out _ _ (by rw [HW0.out,loopF_file h2 HOBE.out hb1 h300])
           obtain ⟨rfl,v',ho9,hown9,hk9⟩:=h.2 h300
           have hk9':∀ wb',Wk wb' ob wc w9 vk v':=fun wb' => (Wk.below vk ((Below.refl wc.heap.size wc).drew)).trans (hk9 wb')
           have hws9:WS wb ob lb mb nm base f (lk ++ [(ahead ++ nm',bo.body)]) nk v' w9:=HS8.out.file HBB.out (hk9' ob) ho9 (by rw [List.length_append];exact hown9)
           have hS9:w9.cell? ⟨wb,1,none⟩ = some (.func (.func 22) #[] #[.pointer (some ⟨ob,0,none⟩)]) ∧ w9.cell? ⟨E,0,none⟩ = some (.string nm') ∧ w9.cell? ⟨P,1,none⟩ = some (.string bo.body) :=
            ⟨hws9.a.cell 1 (by omega),(hk9' ob).cell n1 hEob hEob hvE,(hk9' ob).cell p1 hPob hPob hvP⟩
           have HWS9:=Lib.hid hws9
           have HK9:Hid (Wk wb ob w2 w9 v v'):=Lib.hid (HK8.out.trans (hk9' wb))
           have hl9:(lk ++ [(ahead ++ nm',bo.body)]).length ≤ 300:=by rw [List.length_append];simp;omega
           clear h ho9 hown9 hk9 hk9' hws9 hb1
           go_wp2
           refine ⟨hS9,?_⟩
           refine WL.last (n:=12) rfl rfl (by decide +kernel) (by decide +kernel) ?_
           clear hS9 HS0 hEob hPob hvE hvP h300
           go_wp2
           go_roundw
           case rel => exact ⟨k + 1,nk,lk ++ [(ahead ++ nm',bo.body)],v',by omega,by go_num,hl9,hnk,HW2,HWS9,HK9⟩
           case measure => simp [intOf];omega
         ·have HW:Hid (walkG f (decide (D = 8)) rec x ahead lf n = .inl 13):=by unfold Hid;rw [HW0.out,loopF_wrong h2 HOBE.out hb1]
          have HK:=Lib.hid (HWK2.out.trans HK8.out)
          have d5:(bo.kind == 1) = false:=by rw [beq_eq_false_iff_ne];exact hb1
          clear hb1
          go_wp2
          go_ret
          exact walkAns_err HW.out (by decide) (by decide) HK.out
    ·have HW:Hid (walkG f (decide (D = 8)) rec x ahead lf n = .inr (lk,nk)):=by
      unfold Hid;rw [hwk.out,List.drop_eq_nil_of_le (by omega)];rfl
     have d3:decide ((k:Int) < es.length) = false:=decide_eq_false (by omega)
     have HK:=Lib.hid (HWK2.out.trans HKO.out)
     clear hwk
     go_wp2
     go_ret
     exact walkAns_ok HW.out hlk hnk HSO.out HK.out
end Go.Proofs.YtmhjpmenngjmeaaGreatDoor
