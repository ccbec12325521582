/- A part of this claim. -/
import Derived.Test.YtlhcoanbhnphgaaGreatDoorWm21
namespace Go.Proofs.YtlhcoanbhnphgaaGreatDoor
open Tryz
set_option maxHeartbeats 64000000
set_option maxRecDepth 100000
section
open Go.RowKit Go.Maps
structure Chg (S:Nat → Prop) (w w':World):Prop where
 os:w'.os = w.os
 tape:w'.tape = w.tape
 output:w'.output = w.output
 size:w.heap.size ≤ w'.heap.size
 block:∀ k,k < w.heap.size → ¬ S k → w'.heap[k]? = w.heap[k]?
theorem Chg.refl (S:Nat → Prop) (w:World):Chg S w w:=⟨rfl,rfl,rfl,Nat.le_refl _,fun _ _ _ => rfl⟩
theorem Chg.trans {S:Nat → Prop} {w w' w'':World} (h:Chg S w w') (h':Chg S w' w''):Chg S w w'' :=
 ⟨h'.os.trans h.os,h'.tape.trans h.tape,h'.output.trans h.output,Nat.le_trans h.size h'.size,fun k hk hs => (h'.block k (Nat.lt_of_lt_of_le hk h.size) hs).trans (h.block k hk hs)⟩
theorem Chg.mono {S T:Nat → Prop} {w w':World} (h:Chg S w w') (hST:∀ k,k < w.heap.size → S k → T k):Chg T w w':=⟨h.os,h.tape,h.output,h.size,fun k hk hs => h.block k hk fun e => hs (hST k hk e)⟩
theorem Chg.eB {w w':World} {row:Option Nat} {S:Nat → Prop} (h:w.grownBy w' row) (hs:∀ k,row = some k → S k):Chg S w w':=⟨h.os,h.tape,h.output,h.size,fun k hk hn => h.block k hk fun e => hn (hs k e.symm)⟩
theorem Chg.of_below {w w':World} {S:Nat → Prop} (h:Below w.heap.size w w'):Chg S w w':=⟨h.os,h.tape,h.output,h.size,fun k hk _ => h.block k hk⟩
theorem Chg.below {S:Nat → Prop} {n:Nat} {a w w':World} (h:Below n a w) (hc:Chg S w w') (hn:n ≤ w.heap.size) (hS:∀ k,S k → n ≤ k):Below n a w':=by
 exact ⟨hc.os.trans h.os,hc.tape.trans h.tape,hc.output.trans h.output,Nat.le_trans h.size hc.size,fun k hk => (hc.block k (by omega) fun hs => absurd (hS k hs) (by omega)).trans (h.block k hk)⟩
theorem BoxL.chg {S:Nat → Prop} {w w':World} {b:Nat} {t:TypeId} {cs:List Value} (h:BoxL w b t cs) (hc:Chg S w w') (hb:¬ S b):BoxL w' b t cs:=(hc.block b h.lt hb).trans h
section
variable {α:Type} {enc:α → Value}
theorem MapT.chg {S:Nat → Prop} {w w':World} {b n:Nat} {f:ByteArray → Option α} (h:MapT enc w b n f) (hc:Chg S w w') (hb:¬ S b):MapT enc w' b n f:=h.heap (hc.block b h.lt hb)
theorem RangeT.chg {S:Nat → Prop} {w w':World} {b r n:Nat} {f:ByteArray → Option α} {L:List ByteArray} (h:RangeT enc w b r n f L) (hc:Chg S w w') (hb:¬ S b) (hr:¬ S r):RangeT enc w' b r n f L:=h.heap (hc.block b h.map.lt hb) (hc.block r h.lt hr)
theorem Chg.left {S:Nat → Prop} {w w':World} {b r n:Nat} {f:ByteArray → Option α} {L:List ByteArray} (hc:Chg S w w') (h:RangeT enc w b r n f L) (hb:¬ S b) (hr:¬ S r):w'.rangeLeft b r = w.rangeLeft b r:=eH (hc.block b h.map.lt hb) (hc.block r h.lt hr)
end
theorem mR.chg {S:Nat → Prop} {w w':World} {b:Nat} {s:ByteArray} (h:mR w b s) (hc:Chg S w w') (hb:¬ S b):mR w' b s:=⟨Nat.lt_of_lt_of_le h.1 hc.size,by
 have:=hc.block b h.1 hb
 have e:w'.cell? ⟨b,0,none⟩ = w.cell? ⟨b,0,none⟩:=by simp [World.cell?,this]
 rw [e];exact h.2⟩
theorem J3 {α:Type} {enc:α → Value} {w:World} {b n:Nat} {f:ByteArray → Option α} (h:MapT enc w b n f) {t e:TypeId} (ht:prog.underlying t = some (.map 9 e)) (ty:TypeId):∃ w',(Builtin.clear_ #[t] ty #[.map (some b)]).run prog w = .ok (.tuple #[]) w' ∧ MapT enc w' b 0 (fun _ => none) ∧ w.grownBy w' (some b):=by
 obtain ⟨D,⟨es,clock,hb,F,hs,hD⟩,_⟩:=h
 refine ⟨{ w with heap:=w.heap.setIfInBounds b (.map #[] clock) },?_,?_,?_⟩
 ·simp [Builtin.clear_,run_underlying ht,MapKept.run_getObj_map hb,MapKept.run_setObj_map _ hb,Result.andThen]
 ·exact ⟨.map [],⟨#[],clock,(MapKept.heap_set hb).1,⟨by simp,MapKept.stamped_empty clock,by simp⟩,Nat.le_refl _,rfl⟩,rQ⟩
 exact ⟨rfl,rfl,rfl,by simp,fun i _ hi => (MapKept.heap_set hb).2 i (fun e => hi (by rw [e]))⟩
theorem qY {α:Type} {enc:α → Value} {w:World} {ops:Array Oper} {rest:List Oper} {o:Oper} {a:Act} {Q:Exit → Act → World → Prop} (hg:o.guard = none) (m:Operand) (t e:TypeId) (hop:o.op = Op.call { callee:=Callee.builtin Builtin.clear,args:=#[m],argTypes:=#[t] })
  (ht:prog.underlying t = some (.map 9 e)) (b n:Nat) (f:ByteArray → Option α) (hm:a.eval m = .map (some b)) (hown:MapT enc w b n f)
  (hK:∀ w',MapT enc w' b 0 (fun _ => none) → w.grownBy w' (some b) → wpList prog ops Q rest (a.put o.dst (.tuple #[])) w'):wpList prog ops Q (o :: rest) a w:=by
 refine wpList_plain hg fun K' hK' => ?_
 obtain ⟨w',hrun,r1,r2⟩:=J3 hown ht o.type
 unfold Oper.wp
 simp [execOp,hop,resolve,invoke,builtin,hm,hrun,Result.andThen]
 exact hK' _ _ (hK w' r1 r2)
def hasT (l:List ByteArray) (x:ByteArray):Bool:=l.any fun y => decide (y = x)
theorem jC {l:List ByteArray} {x:ByteArray}:hasT l x = true ↔ x ∈ l:=by unfold hasT;simp
theorem BF {X Y:World} (h:X.grownBy Y none) (r:Option Nat):X.grownBy Y r:=⟨h.os,h.tape,h.output,h.size,fun k hk _ => h.block k hk (by simp)⟩
structure CpSt (w0:World) (a b r n:Nat) (f:ByteArray → Option Nat) (La dn Lr:List ByteArray) (w:World):Prop where
 rng:RangeT encP w b r n f Lr
 dst:MapT encP w a dn.length fun x => if hasT dn x = true then f x else none
 mem:∀ x,x ∈ La ↔ x ∈ dn ∨ x ∈ Lr
 len:dn.length + Lr.length = La.length
 grow:w0.grownBy w (some a)
 fresh:w0.heap.size ≤ r
theorem jd {x:ByteArray}:∀ {l:List ByteArray},l.Nodup → x ∈ l → (l.filter fun y => decide (y ≠ x)).length + 1 = l.length
 | [],_,h => by cases h
 | z :: l,hn,h => by
  rw [List.nodup_cons] at hn
  rw [List.filter_cons]
  by_cases e:z = x
  ·subst e
   rw [if_neg (by simp)]
   have:(l.filter fun y => decide (y ≠ z)) = l:=List.filter_eq_self.2 fun y hy => decide_eq_true (fun e => hn.1 (e ▸ hy))
   rw [this];rfl
  rw [if_pos (decide_eq_true e),List.length_cons,List.length_cons,jd hn.2 ((List.mem_cons.1 h).resolve_left fun h => e h.symm)]
theorem IU (a b n:Nat) (f:ByteArray → Option Nat) (La:List ByteArray) (w:World) (hab:a ≠ b) (ha:MapT encP w a 0 fun _ => none) (hb:MapT encP w b n f) (hnd:La.Nodup) (hz:∀ x ∈ La,x.size ≤ maxLen) (hL:∀ x,x.size ≤ maxLen → ((f x).isSome = true ↔ x ∈ La)) (hl:La.length ≤ 1000000) :
  Calls prog 251 #[.map (some a),.map (some b)] w fun e w' => e = .returned (.tuple #[]) ∧ MapT encP w' b n f ∧ MapT encP w' a La.length f ∧ w.grownBy w' (some a):=by
 have HA:=ah ha
 have HBM:=ah hb
 have HND:=ah hnd
 have HZ:=ah hz
 have HL:=ah hL
 have HLL:=ah hl
 have HAB:=ah hab
 clear ha hb hnd hz hL hl hab
 go_enter func251,ntmps251
 go_wp2_with (refine iC (enc:=encP) rfl _ 80 116 rfl underlying80 b n f La rfl HBM.out HND.out HZ.out HL.out ?_)
 intro w2 hrg2 hg2 hs2
 obtain ⟨r0,hr0⟩:∃ r0,w.heap.size = r0:=⟨_,rfl⟩
 have HS2:Hid (CpSt w a b r0 n f La [] La w2):=ah ⟨by rw [← hr0];exact hrg2,(HA.out.grown hg2 (by simp)).ext fun x _ => by rw [if_neg (by simp [hasT])],by simp,by simp,BF hg2 _,by omega⟩
 rw [hr0]
 clear hrg2 hg2 hs2 hr0
 go_upto_region 1 with fail
 go_loopw [4,5] (fun _ _ wr => ∃ dn Lr,CpSt w a b r0 n f La dn Lr wr) (fun _ _ wr => wr.rangeLeft b r0)
 case atStart => exact ⟨[],La,HS2.out⟩
 obtain ⟨wl,rfl⟩:∃ wl:World,wl = wr:=⟨_,rfl⟩
 obtain ⟨dn,Lr,hst⟩:=hrel
 have HT:=ah hst
 have hrg:=hst.rng
 clear hst
 go_wp2_with (refine iX (enc:=encP) rfl _ rfl b r0 n f Lr rfl hrg ?_ ?_)
 ·intro hL0
  subst hL0
  clear hrg
  go_wp2_with fail
  go_end0
  refine ⟨rfl,HT.out.rng.map,?_,HT.out.grow⟩
  have hlen:=HT.out.len
  have hd:=HT.out.dst
  rw [show dn.length = La.length from by simpa using hlen] at hd
  refine hd.ext fun x hx => ?_
  by_cases e:hasT dn x = true
  ·rw [if_pos e]
  rw [if_neg e]
  rw [jC] at e
  cases hf:f x with
  | none => rfl
  | some o =>
   have:=(HL.out x hx).1 (by rw [hf];rfl)
   rcases (HT.out.mem x).1 this with h | h
   ·exact absurd h e
   cases h
 intro x c w3 hxL hxz hfx hrg3 hlt3 hg3 hs3 hent
 have HT3:Hid (MapT encP w3 a dn.length fun x => if hasT dn x = true then f x else none):=ah (HT.out.dst.grown hg3 (fun e => by
  have h1:=HT.out.fresh
  have h2:=HA.out.lt
  have:=Option.some.inj e;omega))
 have HRG3:=ah hrg3
 have HLT3:=ah hlt3
 have HG3:=ah hg3
 have HFX:=ah hfx
 have HXL:=ah hxL
 have hdl:dn.length < maxLen:=by
  have h1:=HT.out.len
  have h2:=HLL.out
  unfold maxLen;omega
 clear hrg3 hlt3 hg3 hfx hxL hrg
 go_wp2_with (refine jl (enc:=encP) rfl _ _ _ 80 116 rfl underlying80 a dn.length _ rfl HT3.out x hxz c rfl rfl hdl ?_)
 intro w4 hm4 hg4 hs4
 have hra:some r0 ≠ some a:=fun e => by
  have h1:=HT.out.fresh
  have h2:=HA.out.lt
  have:=Option.some.inj e;omega
 have hba:some b ≠ some a:=fun e => HAB.out (Option.some.inj e).symm
 have HNEXT:Hid (CpSt w a b r0 n f La (x :: dn) (Lr.filter fun y => decide (y ≠ x)) w4):=ah ⟨(show RangeT encP w4 b r0 n f (Lr.filter fun y => decide (y ≠ x)) by simpa only [ne_eq,decide_not] using HRG3.out.grown hg4 hba hra),hm4.ext fun y _ => by
   by_cases e:y = x
   ·subst e;rw [if_pos rfl,if_pos (jC.2 (List.mem_cons_self ..)),HFX.out]
   ·rw [if_neg e]
    by_cases e2:hasT dn y = true
    ·rw [if_pos e2,if_pos (jC.2 (List.mem_cons_of_mem _ (jC.1 e2)))]
    rw [if_neg e2,if_neg (fun h => (List.mem_cons.1 (jC.1 h)).elim e (fun h => e2 (jC.2 h)))],fun y => by
   rw [HT.out.mem,List.mem_cons,List.mem_filter,decide_eq_true_iff]
   by_cases e:y = x
   ·subst e;exact ⟨fun _ => .inl (.inl rfl),fun _ => .inr HXL.out⟩
   ·exact ⟨fun h => h.elim (fun h => .inl (.inr h)) (fun h => .inr ⟨h,e⟩),fun h => h.elim (fun h => .inl (h.resolve_left e)) (fun h => .inr h.1)⟩,by
   have h1:=HT.out.len
   have h2:=jd HT.out.rng.nodup HXL.out
   rw [List.length_cons];omega,by
   have h0:=HT.out.fresh
   have h1:w.grownBy w3 (some a):=⟨HG3.out.os.trans HT.out.grow.os,HG3.out.tape.trans HT.out.grow.tape,HG3.out.output.trans HT.out.grow.output,Nat.le_trans HT.out.grow.size HG3.out.size,fun k hk hne => (HG3.out.block k (Nat.lt_of_lt_of_le hk HT.out.grow.size) (fun e => by have:=Option.some.inj e;omega)).trans (HT.out.grow.block k hk hne)⟩
   exact ⟨hg4.os.trans h1.os,hg4.tape.trans h1.tape,hg4.output.trans h1.output,Nat.le_trans h1.size hg4.size,fun k hk hne => (hg4.block k (Nat.lt_of_lt_of_le hk h1.size) hne).trans (h1.block k hk hne)⟩,HT.out.fresh⟩
 have HLE:Hid (w4.rangeLeft b r0 < wl.rangeLeft b r0):=ah (by
  have e:w4.rangeLeft b r0 = w3.rangeLeft b r0:=eH (hg4.block b HRG3.out.map.lt hba) (hg4.block r0 HRG3.out.lt hra)
  rw [e];exact HLT3.out)
 clear hm4 hg4 hs4 hra hba hdl
 go_wp2_with fail
 go_roundw
 case rel => exact ⟨_,_,HNEXT.out⟩
 case measure => exact HLE.out
theorem AO (p a b m n:Nat) (g f:ByteArray → Option Nat) (pd:Value) (La:List ByteArray) (w:World) (hp:BoxL w p 83 [.map (some b),.map (some a),pd]) (hab:a ≠ b) (hpa:p ≠ a) (hpb:p ≠ b) (ha:MapT encP w a m g) (hb:MapT encP w b n f) (hnd:La.Nodup) (hz:∀ x ∈ La,x.size ≤ maxLen) (hL:∀ x,x.size ≤ maxLen → ((f x).isSome = true ↔ x ∈ La)) (hl:La.length ≤ 1000000) :
  Calls prog 227 #[.pointer (some ⟨p,0,none⟩)] w fun e w' => e = .returned (.tuple #[]) ∧ BoxL w' p 83 [.map (some b),.map (some a),.slice none 0 0] ∧ MapT encP w' b n f ∧ MapT encP w' a La.length f ∧ Chg (fun k => k = a ∨ k = p) w w':=by
 have HP:=ah hp
 have HM:=ah ha
 have HBM:=ah hb
 have HCP:=ah (fun W (h1:MapT encP W a 0 fun _ => none) (h2:MapT encP W b n f) => IU a b n f La W hab h1 h2 hnd hz hL hl)
 have c1:w.cell? ⟨p,1,none⟩ = some (.map (some a)):=hp.range 1 _ rfl
 have HAB:=ah hab
 have HPA:=ah hpa
 have HPB:=ah hpb
 clear hp ha hb hnd hz hL hl hab hpa hpb
 go_enter func227,ntmps227
 go_wp2_with (refine qY (enc:=encP) rfl _ 80 116 rfl underlying80 a m g rfl HM.out ?_)
 intro w1 hm1 hg1
 have hp1:=HP.out.kept hg1 (fun e => HPA.out (Option.some.inj e))
 have d0:w1.cell? ⟨p,0,none⟩ = some (.map (some b)):=hp1.range 0 _ rfl
 have d1:w1.cell? ⟨p,1,none⟩ = some (.map (some a)):=hp1.range 1 _ rfl
 have HC1:=ah (HCP.out w1.drew (hm1.on (Below.refl _ _).drew) ((HBM.out.grown hg1 (fun e => HAB.out (Option.some.inj e).symm)).on (Below.refl _ _).drew))
 have hp1l:=hp1.lt
 have HP1:=ah (hp1.below (Below.refl _ _).drew)
 have HG1:Hid (Chg (fun k => k = a ∨ k = p) w w1.drew):=ah ((Chg.eB hg1 (fun k e => .inl (Option.some.inj e).symm)).trans (Chg.of_below (Below.refl _ _).drew))
 clear c1 hm1 hg1 hp1
 go_upto_region 1 with fail
 have hS0:w1.drew.cell? ⟨p,0,none⟩ = some (.map (some b)) ∧ w1.drew.cell? ⟨p,1,none⟩ = some (.map (some a)):=⟨HP1.out.range 0 _ rfl,HP1.out.range 1 _ rfl⟩
 refine wrL 8 (fun w' => w'.cell? ⟨p,0,none⟩ = some (.map (some b)) ∧ w'.cell? ⟨p,1,none⟩ = some (.map (some a))) ?_
 refine WL.tk 0 hS0 ?_
 refine WL.tk 1 hS0 ?_
 refine WL.tk 2 hS0 ?_
 refine WL.tk 3 hS0 ?_
 refine WL.tk 4 hS0 ?_
 refine WL.tk 5 hS0 ?_
 refine WL.tk 6 hS0 ?_
 refine WL.tk 7 hS0 ?_
 refine WL.la 8 ?_
 go_wp2_with fail
 refine HC1.out.mono ?_
 rintro e w2 ⟨rfl,hb2,ha2,hg2⟩
 have hp2:=HP1.out.kept hg2 (fun e => HPA.out (Option.some.inj e))
 have k2:w2.cell? ⟨p,2,none⟩ = some pd:=hp2.range 2 _ rfl
 have k2f:w2.frozen? ⟨p,2,none⟩ = false:=by have:=(hp2.there 2 (by simp)).2;rwa [Nat.zero_add] at this
 have HP2:=ah hp2
 have HB2:=ah hb2
 have HA2:=ah ha2
 have HG2:Hid (Chg (fun k => k = a ∨ k = p) w w2):=ah (HG1.out.trans (Chg.eB hg2 (fun k e => .inl (Option.some.inj e).symm)))
 clear hb2 ha2 hg2 hp2
 go_wp2_with fail
 go_end0
 have hset:Chg (fun k => k = p) w2 (w2.setCell ⟨p,2,none⟩ (.slice none 0 0)):=⟨rfl,rfl,rfl,by simp [World.setCell],fun k _ hk => Below.heap_setCell _ _ _ _ hk⟩
 exact ⟨rfl,HP2.out.put 2 _,HB2.out.chg hset (fun e => HPB.out e.symm),HA2.out.chg hset (fun e => HPA.out e.symm),HG2.out.trans (hset.mono fun k _ e => .inr e)⟩
end
section
open Go.RowKit
theorem wH:∀ i:Fin 16,nU (digB i.val) = true:=by decide +kernel
theorem wD (x:List UInt8):(hexL x).all nU = true:=by
 unfold hexL
 induction x with
 | nil => rfl
 | cons a x ih =>
  have ha:=a.toNat_lt
  rw [List.flatMap_cons,List.all_append,ih,Bool.and_true]
  simp only [List.all_cons,List.all_nil,Bool.and_true,Bool.and_eq_true]
  exact ⟨wH ⟨a.toNat / 16,by omega⟩,wH ⟨a.toNat % 16,by omega⟩⟩
theorem EP {x:List UInt8} (hx:x.length = 32):aN (ofB (hexL x)) = true:=by
 have h:=nQ x
 have e:(ofB (hexL x)).data.toList = hexL x:=by simp [ofB]
 unfold aN
 rw [e,wD,bq,decide_eq_true (by omega),decide_eq_true (by omega)]
 rfl
theorem DY (d:Dk) {nm:ByteArray} (h:aN nm = true):rdD d fM nm = match d 0 nm with | none => (⟨#[]⟩,6) | some s => (s,0):=by
 unfold rdD
 rw [if_pos h]
 rfl
def qz (d:Dk) (x:List UInt8) (w:World) (e:Ending) (w':World):Prop :=
 (match dY d x with
 | .inl k => e = .returned (.tuple #[.agg #[.int .i64 0,.string ⟨#[]⟩],.int .i64 (k:Int)])
 | .inr o => e = .returned (.tuple #[.agg (obC o).toArray,.int .i64 0])) ∧ Below w.heap.size w w'
theorem zD {d:Dk} {x:List UInt8} {k:Nat} {w w':World} (h:dY d x = .inl k) (hb:Below w.heap.size w w'):qz d x w (.returned (.tuple #[.agg #[.int .i64 0,.string ⟨#[]⟩],.int .i64 (k:Int)])) w':=⟨by rw [h],hb⟩
theorem EI {d:Dk} {x:List UInt8} {o:Ob} {c:List Value} {w w':World} (h:dY d x = .inr o) (hc:obC o = c) (hb:Below w.heap.size w w'):qz d x w (.returned (.tuple #[.agg c.toArray,.int .i64 0])) w':=⟨by rw [h,← hc],hb⟩
theorem G7 (g:Nat) (d:Dk) (x:List UInt8) (w:World) (hx:x.length = 32) (hD:jg w g d) (hd:∀ k nm s,d k nm = some s → s.size ≤ 1000000) (hG:Glob w):Calls prog 37 #[.pointer (some ⟨g,0,none⟩),.agg (idC x).toArray] w (qz d x w):=by
 have hbn:=xG
 have h32x:(prog.info? 42).map (·.size) = some (idC x).length:=by rw [au,hx];kernel_rfl
 have hnz:(ofB (hexL x)).size = 64:=by rw [bq,nQ,hx]
 obtain ⟨W0,hW0⟩:∃ W,(w.alloc (.cells (idC x).toArray 42)).alloc (.cells #[.int .i64 0,.string ⟨#[]⟩] 33) = W:=⟨_,rfl⟩
 have HI0:Hid (BoxL W0 w.heap.size 42 (idC x)):=ah (by
  rw [← hW0]
  exact (BoxL.new w 42 (idC x)).below bal)
 have HX0:Hid (BoxL W0 (w.heap.size + 1) 33 [.int .i64 0,.string ⟨#[]⟩]):=ah (by
  rw [← hW0]
  have:=BoxL.new (w.alloc (.cells (idC x).toArray 42)) 33 [.int .i64 0,.string ⟨#[]⟩]
  rwa [World.size_alloc] at this)
 have HB0:Hid (Below w.heap.size w W0):=ah (by rw [← hW0];exact bal.alloc (by simp) _)
 have HG:=ah hG
 have HDK:=ah hD
 have HSZ:=ah hd
 have HNM:=ah (fun W => lF x hx W)
 have HRD:=ah (DY d (EP hx))
 have HGL:Hid (dY d x = match d 0 (ofB (hexL x)) with | none => .inl 6 | some b => match rdLo (ofB (hexL x)) b with | none => .inl 17 | some o => .inr o):=ah rfl
 have HIO:=ah eO
 have HW0:=ah hW0
 have hr0:=HI0.out.range
 clear hW0 hD hd hG hx
 generalize ofB (hexL x) = nm at HNM HRD HGL hnz
 generalize idC x = cx at HNM HI0 HW0 h32x hr0 ⊢
 go_enter func37,ntmps37
 go_upto_region 1 with fail
 rw [HW0.out]
 go_wp2_with (refine wpList_load_mid rfl 42 _ rfl w.heap.size 0 rfl cx _ hr0 underlying42 rfl h32x ?_)
 refine (HNM.out _).mono ?_
 rintro e w1 ⟨rfl,hb1⟩
 have HB1:=bth HB0 hb1
 have HI1:=ah (HI0.out.below hb1)
 have HX1:=ah (HX0.out.below hb1)
 have HR:=ah (qh g d fM nm w1 (HDK.out.below HB1.out) (by decide) (by omega))
 unfold Ch at HR
 rw [HRD.out] at HR
 clear hb1 hr0
 cases hdn:d 0 nm with
 | none =>
  rw [hdn] at HR
  dsimp only at HR
  have HNO:Hid (dY d x = .inl 6):=ah (by rw [HGL.out,hdn])
  clear hdn HGL HRD
  go_wp2_with fail
  refine HR.out.mono ?_
  rintro e w2 ⟨rfl,hb2⟩
  have HB2:=bth HB1 hb2
  have HX2:=ah (HX1.out.below hb2)
  clear hb2
  go_upto_region 3 with fail
  have hth:w2.there (w.heap.size + 1) 0 2:=HX2.out.there
  have h2r:(prog.info? 33).map (·.size) = some ([.int .i64 0,.string ⟨#[]⟩]:List Value).length:=eO
  obtain ⟨WE,hWE⟩:∃ WE,w2.setCells (w.heap.size + 1) 0 [.int .i64 0,.string ⟨#[]⟩] = WE:=⟨_,rfl⟩
  have HRE:Hid (BoxL WE (w.heap.size + 1) 33 [.int .i64 0,.string ⟨#[]⟩]):=ah (by rw [← hWE];exact HX2.out.set rfl)
  have HBE:Hid (Below w.heap.size w WE):=ah (by rw [← hWE];exact below_setCells _ (Nat.le_succ _) _ _ _ HB2.out)
  have HWE:=ah hWE
  clear hWE
  go_wp2_with (refine aj rfl 33 _ _ rfl (w.heap.size + 1) 0 [.int .i64 0,.string ⟨#[]⟩] rfl rfl 2 rfl hth HIO.out (by intro v hv;simp at hv;rcases hv with rfl | rfl <;> rfl) ?_;rw [HWE.out])
  have hre:=HRE.out.range
  (try simp only [Exit.inBlock,Exit.then])
  refine aL rfl (w.heap.size + 1) 0 rfl [.int .i64 0,.string ⟨#[]⟩] _ hre underlying33 rfl h2r rfl _ rfl ?_
  exact zD HNO.out HBE.out
 | some b =>
  rw [hdn] at HR
  dsimp only at HR
  have HGL2:Hid (dY d x = match rdLo nm b with | none => .inl 17 | some o => .inr o):=ah (by rw [HGL.out,hdn])
  have hbs:=HSZ.out _ _ _ hdn
  clear hdn HGL HRD
  go_wp2_with fail
  refine HR.out.mono ?_
  rintro e w2 ⟨rfl,hb2⟩
  have HB2:=bth HB1 hb2
  have HX2:=ah (HX1.out.below hb2)
  have HI2:=ah (HI1.out.below hb2)
  have r2:=HI2.out.range
  clear hb2 HR
  go_wp2_with (refine wpList_load_mid rfl 42 _ rfl w.heap.size 0 rfl cx _ r2 underlying42 rfl h32x ?_)
  refine (HNM.out _).mono ?_
  rintro e w3 ⟨rfl,hb3⟩
  have HB3:=bth HB2 hb3
  have HX3:=ah (HX2.out.below hb3)
  have HL:=ah (Ev nm b w3 hbs (HG.out.below HB3.out))
  unfold Dg at HL
  clear hb3 r2 h32x
  cases hrl:rdLo nm b with
  | none =>
   rw [hrl] at HL HGL2
   dsimp only at HL
   have HNO:Hid (dY d x = .inl 17):=HGL2
   clear hrl
   go_wp2_with fail
   refine HL.out.mono ?_
   rintro e w4 ⟨rfl,hb4⟩
   have HB4:=bth HB3 hb4
   have HX4:=ah (HX3.out.below hb4)
   clear hb4
   have HT5:=ah (there_alloc (n:=2) w4 #[.int .i64 0,.string ⟨#[]⟩] 33 rfl)
   obtain ⟨W5,hW5⟩:∃ W,(w4.alloc (.cells #[.int .i64 0,.string ⟨#[]⟩] 33)).setCells w4.heap.size 0 [.int .i64 0,.string ⟨#[]⟩] = W:=⟨_,rfl⟩
   have hb5:Below w4.heap.size w4 W5:=by rw [← hW5];exact below_setCells _ (Nat.le_refl _) _ _ _ bal
   have HX5:=ah (HX4.out.below hb5)
   have HB5:=bth HB4 hb5
   have HW5:=ah hW5
   clear hW5 hb5
   go_upto_region 6 with (refine aj rfl 33 _ _ rfl w4.heap.size 0 [.int .i64 0,.string ⟨#[]⟩] rfl rfl 2 rfl HT5.out HIO.out (by intro v hv;simp at hv;rcases hv with rfl | rfl <;> rfl) ?_;rw [HW5.out])
   have hth:W5.there (w.heap.size + 1) 0 2:=HX5.out.there
   have h2r:(prog.info? 33).map (·.size) = some ([.int .i64 0,.string ⟨#[]⟩]:List Value).length:=eO
   obtain ⟨WE,hWE⟩:∃ WE,W5.setCells (w.heap.size + 1) 0 [.int .i64 0,.string ⟨#[]⟩] = WE:=⟨_,rfl⟩
   have HRE:Hid (BoxL WE (w.heap.size + 1) 33 [.int .i64 0,.string ⟨#[]⟩]):=ah (by rw [← hWE];exact HX5.out.set rfl)
   have HBE:Hid (Below w.heap.size w WE):=ah (by rw [← hWE];exact below_setCells _ (Nat.le_succ _) _ _ _ HB5.out)
   have HWE:=ah hWE
   clear hWE
   go_wp2_with (refine aj rfl 33 _ _ rfl (w.heap.size + 1) 0 [.int .i64 0,.string ⟨#[]⟩] rfl rfl 2 rfl hth HIO.out (by intro v hv;simp at hv;rcases hv with rfl | rfl <;> rfl) ?_;rw [HWE.out])
   have hre:=HRE.out.range
   (try simp only [Exit.inBlock,Exit.then])
   refine aL rfl (w.heap.size + 1) 0 rfl [.int .i64 0,.string ⟨#[]⟩] _ hre underlying33 rfl h2r rfl _ rfl ?_
   exact zD HNO.out HBE.out
  | some o =>
   rw [hrl] at HL HGL2
   dsimp only at HL
   have HYE:Hid (dY d x = .inr o):=HGL2
   have HOC1:=ah (lu o)
   have HOCL:Hid ((obC o).length = 2):=ah rfl
   clear hrl
   generalize hco:obC o = co at HL HOC1 HOCL
   have HCO:=ah hco
   clear hco
   go_wp2_with fail
   refine HL.out.mono ?_
   rintro e w4 ⟨rfl,hb4⟩
   have HB4:=bth HB3 hb4
   have HX4:=ah (HX3.out.below hb4)
   clear hb4
   have HT5:=ah (there_alloc (n:=2) w4 #[.int .i64 0,.string ⟨#[]⟩] 33 rfl)
   obtain ⟨W5,hW5⟩:∃ W,(w4.alloc (.cells #[.int .i64 0,.string ⟨#[]⟩] 33)).setCells w4.heap.size 0 co = W:=⟨_,rfl⟩
   have HOX7:Hid (BoxL W5 w4.heap.size 33 co):=ah (by rw [← hW5];exact (BoxL.new w4 33 [.int .i64 0,.string ⟨#[]⟩]).set (by rw [HOCL.out];rfl))
   have hb5:Below w4.heap.size w4 W5:=by rw [← hW5];exact below_setCells _ (Nat.le_refl _) _ _ _ bal
   have HX5:=ah (HX4.out.below hb5)
   have HB5:=bth HB4 hb5
   have h2o:(prog.info? 33).map (·.size) = some co.length:=by rw [HOCL.out];exact eO
   have HW5:=ah hW5
   clear hW5 hb5
   go_upto_region 7 with (refine aj rfl 33 _ _ rfl w4.heap.size 0 co rfl rfl 2 HOCL.out HT5.out HIO.out HOC1.out ?_;rw [HW5.out])
   have hth:W5.there (w.heap.size + 1) 0 2:=HX5.out.there
   have h2r:(prog.info? 33).map (·.size) = some (co:List Value).length:=by rw [HOCL.out];exact eO
   obtain ⟨WE,hWE⟩:∃ WE,W5.setCells (w.heap.size + 1) 0 co = WE:=⟨_,rfl⟩
   have HRE:Hid (BoxL WE (w.heap.size + 1) 33 co):=ah (by rw [← hWE];exact HX5.out.set (by rw [HOCL.out];rfl))
   have HBE:Hid (Below w.heap.size w WE):=ah (by rw [← hWE];exact below_setCells _ (Nat.le_succ _) _ _ _ HB5.out)
   have HWE:=ah hWE
   clear hWE
   have r7:=HOX7.out.range
   go_wp2_with (first
    | refine wpList_load_mid rfl 33 _ rfl w4.heap.size 0 rfl co _ r7 underlying33 rfl h2o ?_
    | (refine aj rfl 33 _ _ rfl (w.heap.size + 1) 0 co rfl rfl 2 HOCL.out hth HIO.out HOC1.out ?_;rw [HWE.out]))
   have hre:=HRE.out.range
   (try simp only [Exit.inBlock,Exit.then])
   refine aL rfl (w.heap.size + 1) 0 rfl co _ hre underlying33 rfl h2r rfl _ rfl ?_
   exact EI HYE.out HCO.out HBE.out
end
end Go.Proofs.YtlhcoanbhnphgaaGreatDoor
