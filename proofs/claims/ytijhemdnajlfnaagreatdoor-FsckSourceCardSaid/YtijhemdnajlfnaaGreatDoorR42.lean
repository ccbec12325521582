/- A part of this claim. -/
import Derived.Test.YtijhemdnajlfnaaGreatDoorR30
import Derived.Test.YtijhemdnajlfnaaGreatDoorR33
import Derived.Test.YtijhemdnajlfnaaGreatDoorR39
namespace Go.Proofs.YtijhemdnajlfnaaGreatDoor
open Tryz
set_option maxHeartbeats 64000000
set_option maxRecDepth 100000
set_option linter.all false
section
open Go.RowKit Go.Maps
theorem pK {H:Type} {P:Program} {k:TypeId} {R:Value → Option (DataW H × List MemPlace)} {w:World} {b n:Nat} {D:DataW H} {t e:TypeId} (h:w.ownsMap P k R b n D) (K:Keyed P k) (ht:P.underlying t = some (.map k e)) (hn:n < maxLen) {key val:Value} {kl:Lit} {d:DataW H} {ps:List MemPlace}
  (hkey:keyOf P k key = some kl) (hv:R val = some (d,ps)):∃ w',(Instr.mapUpdate t (.map (some b)) key val).run P w = .ok () w' ∧ w'.ownsMap P k R b (n + 1) (D.put kl d) ∧ w.grownBy w' (some b) ∧ w'.heap.size = w.heap.size:=by
 obtain ⟨w',hrun,h1,h2⟩:=h.update K ht hn hkey hv
 refine ⟨w',hrun,h1,h2,?_⟩
 obtain ⟨es,clock,hb,F,hs,rfl⟩:=h
 obtain ⟨es',clock',hrun',_⟩:=Maps.fit_store (R':=R) K ht hb F (Nat.lt_of_le_of_lt hs hn) (fun _ _ _ _ hz => hz) hkey hv
 rw [hrun] at hrun'
 injection hrun' with _ e
 rw [e];simp [Go.ChangeMaps.setBlock]
theorem fK {α:Type} {enc:α → Value} {w:World} {ops:Array Oper} {rest:List Oper} {o:Oper} {a:Act} {Q:Exit → Act → World → Prop} (hg:o.guard = none) (m x v:Operand) (t e:TypeId) (hop:o.op = Op.mapUpdate t m x v)
  (ht:prog.underlying t = some (.map 9 e)) (b n:Nat) (f:ByteArray → Option α) (hm:a.eval m = .map (some b)) (hown:MapT enc w b n f) (p:ByteArray) (hp:p.size ≤ maxLen) (c:α) (hx:a.eval x = .string p) (hv:a.eval v = enc c) (hn:n < maxLen)
  (hK:∀ w',MapT enc w' b (n + 1) (fun q => if q = p then some c else f q) → w.grownBy w' (some b) → w'.heap.size = w.heap.size → wpList prog ops Q rest (a.put o.dst undef) w'):wpList prog ops Q (o :: rest) a w:=by
 obtain ⟨D,hown,hD⟩:=hown
 refine wpList_plain hg fun K' hK' => ?_
 obtain ⟨w',hrun,r1,r2,r3⟩:=pK hown jB ht hn (key:=.string p) (val:=enc c) (d:=.held (enc c)) (ps:=[]) (nG hp) rfl
 unfold Oper.wp
 simp [execOp,hop,hm,hx,hv,hrun,Result.andThen]
 exact hK' _ _ (hK w' ⟨_,r1,Iw hD hown.isMap p hp c⟩ r2 r3)
structure NwSt (n k:Nat) (w0 w:World):Prop where
 size:w.heap.size = n + 2 + 3 * k
 map:MapT encP w n k fun x => match aP x with
  | some j => if j < k then some (n + 4 + 3 * j) else none
  | none => none
 dirs:∀ j,j < k → BoxL w (n + 4 + 3 * j) 68 [.map (some (n + 2 + 3 * j)),.map (some (n + 3 + 3 * j)),.slice none 0 0]
 seen:∀ j,j < k → MapT encP w (n + 2 + 3 * j) 0 (fun _ => none) ∧ MapT encP w (n + 3 + 3 * j) 0 (fun _ => none)
 bel:Below n w0 w
theorem MR (m:Nat) (q:Int) (w:World):(Instr.build 60 #[(0,.map (some m)),(1,.int .i64 q)]).run prog w = .ok (.agg #[.map (some m),.int .i64 q,.int .i64 0,.bool false,.bool false]) w:=run_build w 60 _ _ (by kernel_rfl)
theorem J9 (m m2:Nat) (w:World):(Instr.build 68 #[(0,.map (some m)),(1,.map (some m2))]).run prog w = .ok (.agg #[.map (some m),.map (some m2),.slice none 0 0]) w:=run_build w 68 _ _ (by kernel_rfl)
def dirN (k:Nat):ByteArray:=if k = 0 then bV else if k = 1 then bn else sRef
theorem dW {x:ByteArray} {j:Nat} (h:aP x = some j):j < 3 ∧ x = dirN j:=by
 unfold aP at h
 split at h
 ·cases h;rename_i e;exact ⟨by decide,e⟩
 split at h
 ·cases h;rename_i e;exact ⟨by decide,e⟩
 split at h
 ·cases h;rename_i e;exact ⟨by decide,e⟩
 cases h
theorem Bp:∀ {k:Nat},k < 3 → aP (dirN k) = some k:=by
 intro k hk
 obtain rfl | rfl | rfl:k = 0 ∨ k = 1 ∨ k = 2:=by omega
 all_goals decide
theorem NwSt.next {n k:Nat} {w0 w w':World} (h:NwSt n k w0 w) (hk:k < 3)
  (hm:MapT encP w' n (k + 1) fun q => if q = dirN k then some (n + 4 + 3 * k) else (match aP q with
   | some j => if j < k then some (n + 4 + 3 * j) else none
   | none => none))
  (hg:(((w.alloc (.map #[] 0)).alloc (.map #[] 0)).alloc (.cells #[.map (some w.heap.size),.map (some (w.heap.size + 1)),.slice none 0 0] 68)).grownBy w' (some n))
  (hs:w'.heap.size = w.heap.size + 3) (hb:Below n w0 w'):NwSt n (k + 1) w0 w':=by
 have hsz:=h.size
 have b1:Below w.heap.size w (w.alloc (.map #[] 0)):=bal
 have b2:Below w.heap.size w ((w.alloc (.map #[] 0)).alloc (.map #[] 0)):=b1.alloc (by simp) _
 have b3:Below w.heap.size w (((w.alloc (.map #[] 0)).alloc (.map #[] 0)).alloc (.cells #[.map (some w.heap.size),.map (some (w.heap.size + 1)),.slice none 0 0] 68)):=b2.alloc (by rw [World.size_alloc,World.size_alloc];omega) _
 have m1:MapT encP (((w.alloc (.map #[] 0)).alloc (.map #[] 0)).alloc (.cells #[.map (some w.heap.size),.map (some (w.heap.size + 1)),.slice none 0 0] 68)) w.heap.size 0 (fun _ => none) :=
  ((nE w).on bal).on bal
 have m2:MapT encP (((w.alloc (.map #[] 0)).alloc (.map #[] 0)).alloc (.cells #[.map (some w.heap.size),.map (some (w.heap.size + 1)),.slice none 0 0] 68)) (w.heap.size + 1) 0 (fun _ => none):=by
  have:=(nE (enc:=encP) (w.alloc (.map #[] 0)))
  rw [World.size_alloc] at this
  exact this.on bal
 have x3:BoxL (((w.alloc (.map #[] 0)).alloc (.map #[] 0)).alloc (.cells #[.map (some w.heap.size),.map (some (w.heap.size + 1)),.slice none 0 0] 68)) (w.heap.size + 2) 68 [.map (some w.heap.size),.map (some (w.heap.size + 1)),.slice none 0 0]:=by
  have:=BoxL.new ((w.alloc (.map #[] 0)).alloc (.map #[] 0)) 68 [.map (some w.heap.size),.map (some (w.heap.size + 1)),.slice none 0 0]
  rw [World.size_alloc,World.size_alloc] at this
  exact this
 refine ⟨by omega,hm.ext fun x _ => ?_,fun j hj => ?_,fun j hj => ?_,hb⟩
 ·by_cases e:x = dirN k
  ·rw [if_pos e,e,Bp hk]
   dsimp only
   rw [if_pos (Nat.lt_succ_self k)]
  rw [if_neg e]
  cases hw:aP x with
  | none => rfl
  | some j =>
   have hj:=dW hw
   have:j ≠ k:=fun h => e (by rw [← h];exact hj.2)
   dsimp only
   by_cases hjk:j < k
   ·rw [if_pos hjk,if_pos (by omega)]
   rw [if_neg hjk,if_neg (by omega)]
 ·by_cases e:j = k
  ·subst e
   have:=x3.kept hg (by simp;omega)
   rw [hsz] at this
   have e1:n + 2 + 3 * j + 2 = n + 4 + 3 * j:=by omega
   have e2:n + 2 + 3 * j + 1 = n + 3 + 3 * j:=by omega
   rwa [e1,e2] at this
  exact ((h.dirs j (by omega)).below b3).kept hg (by simp;omega)
 by_cases e:j = k
 ·subst e
  have a1:=m1.grown hg (by simp;omega)
  have a2:=m2.grown hg (by simp;omega)
  rw [hsz] at a1 a2
  have e2:n + 2 + 3 * j + 1 = n + 3 + 3 * j:=by omega
  rw [e2] at a2
  exact ⟨a1,a2⟩
 obtain ⟨h1,h2⟩:=h.seen j (by omega)
 exact ⟨(h1.on b3).grown hg (by simp;omega),(h2.on b3).grown hg (by simp;omega)⟩
theorem MQ (q:Int) (w:World) (hG:Glob w):Calls prog 16 #[.int .i64 q] w fun e w' => e = .returned (.pointer (some ⟨w.heap.size + 1,0,none⟩)) ∧ NwSt w.heap.size 3 w w' ∧ BoxL w' (w.heap.size + 1) 60 [.map (some w.heap.size),.int .i64 q,.int .i64 0,.bool false,.bool false]:=by
 have hbd:=MR
 have hmm:=@run_makeMap prog
 have hbr:=J9
 obtain ⟨W,hW⟩:∃ W,(w.alloc (.map #[] 0)).alloc (.cells #[.map (some w.heap.size),.int .i64 q,.int .i64 0,.bool false,.bool false] 60) = W:=⟨_,rfl⟩
 have hbW:Below w.heap.size w W:=by rw [← hW];exact bal.alloc (by simp) _
 have HBX:Hid (BoxL W (w.heap.size + 1) 60 [.map (some w.heap.size),.int .i64 q,.int .i64 0,.bool false,.bool false]):=ah (by
  rw [← hW]
  have:=BoxL.new (w.alloc (.map #[] 0)) 60 [.map (some w.heap.size),.int .i64 q,.int .i64 0,.bool false,.bool false]
  rwa [World.size_alloc] at this)
 have HST:Hid (NwSt w.heap.size 0 w W):=ah ⟨by rw [← hW];simp,by
  have h:=((nE (enc:=encP) w).on (w':=W) (by rw [← hW];exact bal))
  exact h.ext fun x _ => by cases aP x with
   | none => rfl
   | some j => dsimp only;rw [if_neg (by omega)],fun j hj => absurd hj (by omega),fun j hj => absurd hj (by omega),hbW⟩
 have HOR:=ah (hG.below hbW).ord
 have h3i:(prog.info? 115).map (·.size) = some ([.string bV,.string bn,.string sRef]:List Value).length:=by kernel_rfl
 have HW:=ah hW
 have hro:=HOR.out
 clear hW hbW hG
 obtain ⟨n,hn⟩:∃ n,w.heap.size = n:=⟨_,rfl⟩
 rw [hn] at HST HBX ⊢
 have HNH:=ah hn
 clear hn
 go_enter func16,ntmps16
 go_upto_region 2 with fail
 rw [HW.out]
 go_wp2_with (refine wpList_load_mid rfl 115 _ rfl 0 0 rfl _ _ hro underlying115 rfl h3i ?_)
 have HIX:Hid (∀ (k:Nat) (h:k < 3) (W:World),(Instr.index 115 (.agg #[.string bV,.string bn,.string sRef]) (.int .i64 (k:Int))).run prog W = .ok (.string (dirN k)) W):=ah (fun k h W => by
  obtain rfl | rfl | rfl:k = 0 ∨ k = 1 ∨ k = 2:=by omega
  all_goals kernel_rfl)
 clear hro h3i
 rw [HNH.out]
 clear HNH HW HOR
 go_loopw [5,11] (fun _ i wr => ∃ k:Nat,i = .int .i64 (k:Int) ∧ k ≤ 3 ∧ Hid (NwSt n k w wr) ∧ Hid (BoxL wr (n + 1) 60 [.map (some n),.int .i64 q,.int .i64 0,.bool false,.bool false])) (fun _ i _ => (3 - intOf i).toNat)
 case atStart => exact ⟨0,rfl,by omega,HST,HBX⟩
 obtain ⟨wo,rfl⟩:∃ wo:World,wo = wr:=⟨_,rfl⟩
 obtain ⟨k,rfl,hk,HS,HX⟩:=hrel
 by_cases hlt:k < 3
 ·have i1:(k:Int) < 3:=by omega
  have hix:=HIX.out k hlt
  have wi:IntKind.i64.wrap ((k:Int) + 1) = (k:Int) + 1:=by rw [IntKind.wrap_i64];omega
  have c0:wo.cell? ⟨n + 1,0,none⟩ = some (.map (some n)):=HX.out.range 0 _ rfl
  have hsz:=HS.out.size
  generalize hdn:dirN k = dn at hix
  have hdz:dn.size ≤ maxLen:=by
   rw [← hdn]
   unfold dirN maxLen
   obtain rfl | rfl | rfl:k = 0 ∨ k = 1 ∨ k = 2:=by omega
   all_goals decide
  have HDN:=ah hdn
  obtain ⟨W3,hW3⟩:∃ W,((wo.alloc (.map #[] 0)).alloc (.map #[] 0)).alloc (.cells #[.map (some wo.heap.size),.map (some (wo.heap.size + 1)),.slice none 0 0] 68) = W:=⟨_,rfl⟩
  have hb3:Below wo.heap.size wo W3:=by rw [← hW3];exact (bal.alloc (by simp) _).alloc (by rw [World.size_alloc,World.size_alloc];omega) _
  have hs3:W3.heap.size = wo.heap.size + 3:=by rw [← hW3];simp
  have HM3:=ah (HS.out.map.on hb3)
  have HX3:=ah (HX.out.below hb3)
  have HB3:=ah (HS.out.bel.trans (hb3.mono (by omega)))
  have HZ3:=ah hs3
  have HZ:=ah hsz
  have HW3:=ah hW3
  clear hW3 hb3 hs3 hdn hsz
  go_wp2_with (rw [HW3.out];refine fK rfl _ _ _ 58 57 rfl underlying58 n k _ rfl HM3.out dn hdz (wo.heap.size + 2) rfl rfl (by unfold maxLen;omega) ?_)
  intro w' hm hg hsz'
  have HM:=ah hm
  have HGR:=ah hg
  have HSZ':=ah hsz'
  clear hm hg hsz'
  go_wp2_with fail
  go_roundw
  case rel =>
   refine ⟨k + 1,by go_num,by omega,HS.out.next hlt (HM.out.ext fun q _ => by rw [HDN.out,HZ.out,show n + 2 + 3 * k + 2 = n + 4 + 3 * k from by omega]) (by rw [HW3.out];exact HGR.out) (by rw [HSZ'.out,HZ3.out]) (HB3.out.grown HGR.out (by have h1:=HZ.out;have h2:=HZ3.out;omega) (fun j hj => by cases hj;omega)),HX3.out.kept HGR.out (by simp)⟩
  case measure => simp [intOf];omega
 obtain rfl:k = 3:=by omega
 go_wp2_with fail
 go_ret
 exact ⟨rfl,HS.out,HX.out⟩
structure Chg (S:Nat → Prop) (w w':World):Prop where
 os:w'.os = w.os
 tape:w'.tape = w.tape
 output:w'.output = w.output
 size:w.heap.size ≤ w'.heap.size
 block:∀ k,k < w.heap.size → ¬ S k → w'.heap[k]? = w.heap[k]?
theorem Chg.refl (S:Nat → Prop) (w:World):Chg S w w:=⟨rfl,rfl,rfl,Nat.le_refl _,fun _ _ _ => rfl⟩
theorem Chg.trans {S:Nat → Prop} {w w' w'':World} (h:Chg S w w') (h':Chg S w' w''):Chg S w w'' :=
 ⟨h'.os.trans h.os,h'.tape.trans h.tape,h'.output.trans h.output,Nat.le_trans h.size h'.size,fun k hk hs => (h'.block k (Nat.lt_of_lt_of_le hk h.size) hs).trans (h.block k hk hs)⟩
theorem Chg.mono {S T:Nat → Prop} {w w':World} (h:Chg S w w') (hST:∀ k,k < w.heap.size → S k → T k):Chg T w w':=⟨h.os,h.tape,h.output,h.size,fun k hk hs => h.block k hk fun e => hs (hST k hk e)⟩
theorem Chg.iW {w w':World} {row:Option Nat} {S:Nat → Prop} (h:w.grownBy w' row) (hs:∀ k,row = some k → S k):Chg S w w':=⟨h.os,h.tape,h.output,h.size,fun k hk hn => h.block k hk fun e => hn (hs k e.symm)⟩
theorem Chg.of_below {w w':World} {S:Nat → Prop} (h:Below w.heap.size w w'):Chg S w w':=⟨h.os,h.tape,h.output,h.size,fun k hk _ => h.block k hk⟩
theorem Chg.below {S:Nat → Prop} {n:Nat} {a w w':World} (h:Below n a w) (hc:Chg S w w') (hn:n ≤ w.heap.size) (hS:∀ k,S k → n ≤ k):Below n a w':=by
 exact ⟨hc.os.trans h.os,hc.tape.trans h.tape,hc.output.trans h.output,Nat.le_trans h.size hc.size,fun k hk => (hc.block k (by omega) fun hs => absurd (hS k hs) (by omega)).trans (h.block k hk)⟩
theorem BoxL.chg {S:Nat → Prop} {w w':World} {b:Nat} {t:TypeId} {cs:List Value} (h:BoxL w b t cs) (hc:Chg S w w') (hb:¬ S b):BoxL w' b t cs:=(hc.block b h.lt hb).trans h
section
variable {α:Type} {enc:α → Value}
theorem MapT.chg {S:Nat → Prop} {w w':World} {b n:Nat} {f:ByteArray → Option α} (h:MapT enc w b n f) (hc:Chg S w w') (hb:¬ S b):MapT enc w' b n f:=h.heap (hc.block b h.lt hb)
theorem RangeT.chg {S:Nat → Prop} {w w':World} {b r n:Nat} {f:ByteArray → Option α} {L:List ByteArray} (h:RangeT enc w b r n f L) (hc:Chg S w w') (hb:¬ S b) (hr:¬ S r):RangeT enc w' b r n f L:=h.heap (hc.block b h.map.lt hb) (hc.block r h.lt hr)
theorem Chg.left {S:Nat → Prop} {w w':World} {b r n:Nat} {f:ByteArray → Option α} {L:List ByteArray} (hc:Chg S w w') (h:RangeT enc w b r n f L) (hb:¬ S b) (hr:¬ S r):w'.rangeLeft b r = w.rangeLeft b r:=lU (hc.block b h.map.lt hb) (hc.block r h.lt hr)
end
theorem ku.chg {S:Nat → Prop} {w w':World} {b:Nat} {s:ByteArray} (h:ku w b s) (hc:Chg S w w') (hb:¬ S b):ku w' b s:=⟨Nat.lt_of_lt_of_le h.1 hc.size,by
 have:=hc.block b h.1 hb
 have e:w'.cell? ⟨b,0,none⟩ = w.cell? ⟨b,0,none⟩:=by simp [World.cell?,this]
 rw [e];exact h.2⟩
theorem Od {α:Type} {enc:α → Value} {w:World} {b n:Nat} {f:ByteArray → Option α} (h:MapT enc w b n f) {t e:TypeId} (ht:prog.underlying t = some (.map 9 e)) (ty:TypeId):∃ w',(Builtin.clear_ #[t] ty #[.map (some b)]).run prog w = .ok (.tuple #[]) w' ∧ MapT enc w' b 0 (fun _ => none) ∧ w.grownBy w' (some b):=by
 obtain ⟨D,⟨es,clock,hb,F,hs,hD⟩,_⟩:=h
 refine ⟨{ w with heap:=w.heap.setIfInBounds b (.map #[] clock) },?_,?_,?_⟩
 ·simp [Builtin.clear_,run_underlying ht,MapKept.run_getObj_map hb,MapKept.run_setObj_map _ hb,Result.andThen]
 ·exact ⟨.map [],⟨#[],clock,(MapKept.heap_set hb).1,⟨by simp,MapKept.stamped_empty clock,by simp⟩,Nat.le_refl _,rfl⟩,uD⟩
 exact ⟨rfl,rfl,rfl,by simp,fun i _ hi => (MapKept.heap_set hb).2 i (fun e => hi (by rw [e]))⟩
theorem tK {α:Type} {enc:α → Value} {w:World} {ops:Array Oper} {rest:List Oper} {o:Oper} {a:Act} {Q:Exit → Act → World → Prop} (hg:o.guard = none) (m:Operand) (t e:TypeId) (hop:o.op = Op.call { callee:=Callee.builtin Builtin.clear,args:=#[m],argTypes:=#[t] })
  (ht:prog.underlying t = some (.map 9 e)) (b n:Nat) (f:ByteArray → Option α) (hm:a.eval m = .map (some b)) (hown:MapT enc w b n f)
  (hK:∀ w',MapT enc w' b 0 (fun _ => none) → w.grownBy w' (some b) → wpList prog ops Q rest (a.put o.dst (.tuple #[])) w'):wpList prog ops Q (o :: rest) a w:=by
 refine wpList_plain hg fun K' hK' => ?_
 obtain ⟨w',hrun,r1,r2⟩:=Od hown ht o.type
 unfold Oper.wp
 simp [execOp,hop,resolve,invoke,builtin,hm,hrun,Result.andThen]
 exact hK' _ _ (hK w' r1 r2)
def hasT (l:List ByteArray) (x:ByteArray):Bool:=l.any fun y => decide (y = x)
theorem kR {l:List ByteArray} {x:ByteArray}:hasT l x = true ↔ x ∈ l:=by unfold hasT;simp
theorem FR {X Y:World} (h:X.grownBy Y none) (r:Option Nat):X.grownBy Y r:=⟨h.os,h.tape,h.output,h.size,fun k hk _ => h.block k hk (by simp)⟩
structure CpSt (w0:World) (a b r n:Nat) (f:ByteArray → Option Nat) (La dn Lr:List ByteArray) (w:World):Prop where
 rng:RangeT encP w b r n f Lr
 dst:MapT encP w a dn.length fun x => if hasT dn x = true then f x else none
 mem:∀ x,x ∈ La ↔ x ∈ dn ∨ x ∈ Lr
 len:dn.length + Lr.length = La.length
 grow:w0.grownBy w (some a)
 fresh:w0.heap.size ≤ r
theorem nY {x:ByteArray}:∀ {l:List ByteArray},l.Nodup → x ∈ l → (l.filter fun y => decide (y ≠ x)).length + 1 = l.length
 | [],_,h => by cases h
 | z :: l,hn,h => by
  rw [List.nodup_cons] at hn
  rw [List.filter_cons]
  by_cases e:z = x
  ·subst e
   rw [if_neg (by simp)]
   have:(l.filter fun y => decide (y ≠ z)) = l:=List.filter_eq_self.2 fun y hy => decide_eq_true (fun e => hn.1 (e ▸ hy))
   rw [this];rfl
  rw [if_pos (decide_eq_true e),List.length_cons,List.length_cons,nY hn.2 ((List.mem_cons.1 h).resolve_left fun h => e h.symm)]
theorem M0 (a b n:Nat) (f:ByteArray → Option Nat) (La:List ByteArray) (w:World) (hab:a ≠ b) (ha:MapT encP w a 0 fun _ => none) (hb:MapT encP w b n f) (hnd:La.Nodup) (hz:∀ x ∈ La,x.size ≤ maxLen) (hL:∀ x,x.size ≤ maxLen → ((f x).isSome = true ↔ x ∈ La)) (hl:La.length ≤ 1000000) :
  Calls prog 40 #[.map (some a),.map (some b)] w fun e w' => e = .returned (.tuple #[]) ∧ MapT encP w' b n f ∧ MapT encP w' a La.length f ∧ w.grownBy w' (some a):=by
 have HA:=ah ha
 have HBM:=ah hb
 have HND:=ah hnd
 have HZ:=ah hz
 have HL:=ah hL
 have HLL:=ah hl
 have HAB:=ah hab
 clear ha hb hnd hz hL hl hab
 go_enter func40,ntmps40
 go_wp2_with (refine l6 (enc:=encP) rfl _ 65 62 rfl underlying65 b n f La rfl HBM.out HND.out HZ.out HL.out ?_)
 intro w2 hrg2 hg2 hs2
 obtain ⟨r0,hr0⟩:∃ r0,w.heap.size = r0:=⟨_,rfl⟩
 have HS2:Hid (CpSt w a b r0 n f La [] La w2):=ah ⟨by rw [← hr0];exact hrg2,(HA.out.grown hg2 (by simp)).ext fun x _ => by rw [if_neg (by simp [hasT])],by simp,by simp,FR hg2 _,by omega⟩
 rw [hr0]
 clear hrg2 hg2 hs2 hr0
 go_upto_region 1 with fail
 go_loopw [4,5] (fun _ _ wr => ∃ dn Lr,CpSt w a b r0 n f La dn Lr wr) (fun _ _ wr => wr.rangeLeft b r0)
 case atStart => exact ⟨[],La,HS2.out⟩
 obtain ⟨wl,rfl⟩:∃ wl:World,wl = wr:=⟨_,rfl⟩
 obtain ⟨dn,Lr,hst⟩:=hrel
 have HT:=ah hst
 have hrg:=hst.rng
 clear hst
 go_wp2_with (refine nN (enc:=encP) rfl _ rfl b r0 n f Lr rfl hrg ?_ ?_)
 ·intro hL0
  subst hL0
  clear hrg
  go_wp2_with fail
  go_end0
  refine ⟨rfl,HT.out.rng.map,?_,HT.out.grow⟩
  have hlen:=HT.out.len
  have hd:=HT.out.dst
  rw [show dn.length = La.length from by simpa using hlen] at hd
  refine hd.ext fun x hx => ?_
  by_cases e:hasT dn x = true
  ·rw [if_pos e]
  rw [if_neg e]
  rw [kR] at e
  cases hf:f x with
  | none => rfl
  | some o =>
   have:=(HL.out x hx).1 (by rw [hf];rfl)
   rcases (HT.out.mem x).1 this with h | h
   ·exact absurd h e
   cases h
 intro x c w3 hxL hxz hfx hrg3 hlt3 hg3 hs3 hent
 have HT3:Hid (MapT encP w3 a dn.length fun x => if hasT dn x = true then f x else none):=ah (HT.out.dst.grown hg3 (fun e => by
  have h1:=HT.out.fresh
  have h2:=HA.out.lt
  have:=Option.some.inj e;omega))
 have HRG3:=ah hrg3
 have HLT3:=ah hlt3
 have HG3:=ah hg3
 have HFX:=ah hfx
 have HXL:=ah hxL
 have hdl:dn.length < maxLen:=by
  have h1:=HT.out.len
  have h2:=HLL.out
  unfold maxLen;omega
 clear hrg3 hlt3 hg3 hfx hxL hrg
 go_wp2_with (refine fK (enc:=encP) rfl _ _ _ 65 62 rfl underlying65 a dn.length _ rfl HT3.out x hxz c rfl rfl hdl ?_)
 intro w4 hm4 hg4 hs4
 have hra:some r0 ≠ some a:=fun e => by
  have h1:=HT.out.fresh
  have h2:=HA.out.lt
  have:=Option.some.inj e;omega
 have hba:some b ≠ some a:=fun e => HAB.out (Option.some.inj e).symm
 have HNEXT:Hid (CpSt w a b r0 n f La (x :: dn) (Lr.filter fun y => decide (y ≠ x)) w4):=ah ⟨(show RangeT encP w4 b r0 n f (Lr.filter fun y => decide (y ≠ x)) by simpa only [ne_eq,decide_not] using HRG3.out.grown hg4 hba hra),hm4.ext fun y _ => by
   by_cases e:y = x
   ·subst e;rw [if_pos rfl,if_pos (kR.2 (List.mem_cons_self ..)),HFX.out]
   ·rw [if_neg e]
    by_cases e2:hasT dn y = true
    ·rw [if_pos e2,if_pos (kR.2 (List.mem_cons_of_mem _ (kR.1 e2)))]
    rw [if_neg e2,if_neg (fun h => (List.mem_cons.1 (kR.1 h)).elim e (fun h => e2 (kR.2 h)))],fun y => by
   rw [HT.out.mem,List.mem_cons,List.mem_filter,decide_eq_true_iff]
   by_cases e:y = x
   ·subst e;exact ⟨fun _ => .inl (.inl rfl),fun _ => .inr HXL.out⟩
   ·exact ⟨fun h => h.elim (fun h => .inl (.inr h)) (fun h => .inr ⟨h,e⟩),fun h => h.elim (fun h => .inl (h.resolve_left e)) (fun h => .inr h.1)⟩,by
   have h1:=HT.out.len
   have h2:=nY HT.out.rng.nodup HXL.out
   rw [List.length_cons];omega,by
   have h0:=HT.out.fresh
   have h1:w.grownBy w3 (some a):=⟨HG3.out.os.trans HT.out.grow.os,HG3.out.tape.trans HT.out.grow.tape,HG3.out.output.trans HT.out.grow.output,Nat.le_trans HT.out.grow.size HG3.out.size,fun k hk hne => (HG3.out.block k (Nat.lt_of_lt_of_le hk HT.out.grow.size) (fun e => by have:=Option.some.inj e;omega)).trans (HT.out.grow.block k hk hne)⟩
   exact ⟨hg4.os.trans h1.os,hg4.tape.trans h1.tape,hg4.output.trans h1.output,Nat.le_trans h1.size hg4.size,fun k hk hne => (hg4.block k (Nat.lt_of_lt_of_le hk h1.size) hne).trans (h1.block k hk hne)⟩,HT.out.fresh⟩
 have HLE:Hid (w4.rangeLeft b r0 < wl.rangeLeft b r0):=ah (by
  have e:w4.rangeLeft b r0 = w3.rangeLeft b r0:=lU (hg4.block b HRG3.out.map.lt hba) (hg4.block r0 HRG3.out.lt hra)
  rw [e];exact HLT3.out)
 clear hm4 hg4 hs4 hra hba hdl
 go_wp2_with fail
 go_roundw
 case rel => exact ⟨_,_,HNEXT.out⟩
 case measure => exact HLE.out
theorem El (p a b m n:Nat) (g f:ByteArray → Option Nat) (pd:Value) (La:List ByteArray) (w:World) (hp:BoxL w p 68 [.map (some b),.map (some a),pd]) (hab:a ≠ b) (hpa:p ≠ a) (hpb:p ≠ b) (ha:MapT encP w a m g) (hb:MapT encP w b n f) (hnd:La.Nodup) (hz:∀ x ∈ La,x.size ≤ maxLen) (hL:∀ x,x.size ≤ maxLen → ((f x).isSome = true ↔ x ∈ La)) (hl:La.length ≤ 1000000) :
  Calls prog 18 #[.pointer (some ⟨p,0,none⟩)] w fun e w' => e = .returned (.tuple #[]) ∧ BoxL w' p 68 [.map (some b),.map (some a),.slice none 0 0] ∧ MapT encP w' b n f ∧ MapT encP w' a La.length f ∧ Chg (fun k => k = a ∨ k = p) w w':=by
 have HP:=ah hp
 have HM:=ah ha
 have HBM:=ah hb
 have HCP:=ah (fun W (h1:MapT encP W a 0 fun _ => none) (h2:MapT encP W b n f) => M0 a b n f La W hab h1 h2 hnd hz hL hl)
 have c1:w.cell? ⟨p,1,none⟩ = some (.map (some a)):=hp.range 1 _ rfl
 have HAB:=ah hab
 have HPA:=ah hpa
 have HPB:=ah hpb
 clear hp ha hb hnd hz hL hl hab hpa hpb
 go_enter func18,ntmps18
 go_wp2_with (refine tK (enc:=encP) rfl _ 65 62 rfl underlying65 a m g rfl HM.out ?_)
 intro w1 hm1 hg1
 have hp1:=HP.out.kept hg1 (fun e => HPA.out (Option.some.inj e))
 have d0:w1.cell? ⟨p,0,none⟩ = some (.map (some b)):=hp1.range 0 _ rfl
 have d1:w1.cell? ⟨p,1,none⟩ = some (.map (some a)):=hp1.range 1 _ rfl
 have HC1:=ah (HCP.out w1.drew (hm1.on (Below.refl _ _).drew) ((HBM.out.grown hg1 (fun e => HAB.out (Option.some.inj e).symm)).on (Below.refl _ _).drew))
 have hp1l:=hp1.lt
 have HP1:=ah (hp1.below (Below.refl _ _).drew)
 have HG1:Hid (Chg (fun k => k = a ∨ k = p) w w1.drew):=ah ((Chg.iW hg1 (fun k e => .inl (Option.some.inj e).symm)).trans (Chg.of_below (Below.refl _ _).drew))
 clear c1 hm1 hg1 hp1
 go_upto_region 1 with fail
 have hS0:w1.drew.cell? ⟨p,0,none⟩ = some (.map (some b)) ∧ w1.drew.cell? ⟨p,1,none⟩ = some (.map (some a)):=⟨HP1.out.range 0 _ rfl,HP1.out.range 1 _ rfl⟩
 refine wrL 8 (fun w' => w'.cell? ⟨p,0,none⟩ = some (.map (some b)) ∧ w'.cell? ⟨p,1,none⟩ = some (.map (some a))) ?_
 refine WL.tk 0 hS0 ?_
 refine WL.tk 1 hS0 ?_
 refine WL.tk 2 hS0 ?_
 refine WL.tk 3 hS0 ?_
 refine WL.tk 4 hS0 ?_
 refine WL.tk 5 hS0 ?_
 refine WL.tk 6 hS0 ?_
 refine WL.tk 7 hS0 ?_
 refine WL.la 8 ?_
 go_wp2_with fail
 refine HC1.out.mono ?_
 rintro e w2 ⟨rfl,hb2,ha2,hg2⟩
 have hp2:=HP1.out.kept hg2 (fun e => HPA.out (Option.some.inj e))
 have k2:w2.cell? ⟨p,2,none⟩ = some pd:=hp2.range 2 _ rfl
 have k2f:w2.frozen? ⟨p,2,none⟩ = false:=by have:=(hp2.there 2 (by simp)).2;rwa [Nat.zero_add] at this
 have HP2:=ah hp2
 have HB2:=ah hb2
 have HA2:=ah ha2
 have HG2:Hid (Chg (fun k => k = a ∨ k = p) w w2):=ah (HG1.out.trans (Chg.iW hg2 (fun k e => .inl (Option.some.inj e).symm)))
 clear hb2 ha2 hg2 hp2
 go_wp2_with fail
 go_end0
 have hset:Chg (fun k => k = p) w2 (w2.setCell ⟨p,2,none⟩ (.slice none 0 0)):=⟨rfl,rfl,rfl,by simp [World.setCell],fun k _ hk => Below.heap_setCell _ _ _ _ hk⟩
 exact ⟨rfl,HP2.out.put 2 _,HB2.out.chg hset (fun e => HPB.out e.symm),HA2.out.chg hset (fun e => HPA.out e.symm),HG2.out.trans (hset.mono fun k _ e => .inr e)⟩
def flC (f:Fl):List Value:=[.string f.dir,.string f.name,.string f.data]
def jX (w:World) (v:Value) (l:List Fl):Prop:=aK w v 3 (l.map flC)
theorem jX.below {w w':World} {v:Value} {l:List Fl} (h:jX w v l) (hb:Below w.heap.size w w'):jX w' v l:=aK.below h hb
theorem jX.open {w:World} {v:Value} {l:List Fl} (h:jX w v l):∃ ao cap,v = .slice ao l.length cap ∧ l.length ≤ maxLen ∧ (l ≠ [] → ∃ b off,ao = some ⟨b,off,none⟩ ∧ b < w.heap.size ∧ ∀ k (hk:k < l.length),w.rangeAt b (off + k * 3) (flC l[k])):=by
 obtain ⟨ao,cap,rfl,hm,h⟩:=h
 rw [List.length_map] at hm ⊢
 refine ⟨ao,cap,rfl,hm,fun hne => ?_⟩
 obtain ⟨b,off,e,hl,hc⟩:=h (by simpa using hne)
 refine ⟨b,off,e,hl,fun k hk => ?_⟩
 have:=hc k (by simpa using hk)
 rw [List.getElem_map] at this
 exact this
def FlOk (l:List Fl):Prop:=∀ f ∈ l,f.dir.size ≤ maxLen ∧ f.name.size ≤ 1000000 ∧ f.data.size ≤ 1000000
theorem NR:(prog.info? 46).map (·.size) = some 3:=by decide +kernel
def Shows (n:Nat) (w:World) (f:ByteArray → Option Nat) (dt:ByteArray → Option ByteArray):Prop:=∀ x,x.size ≤ maxLen → (f x = none ∧ dt x = none) ∨ ∃ fb s,f x = some fb ∧ dt x = some s ∧ n + 11 ≤ fb ∧ ku w fb s
theorem wU (l:List Fl) (f:Fl) (k:Nat) (x:ByteArray):datF (l ++ [f]) k x = if dO f k = true ∧ f.name = x then some f.data else datF l k x:=by unfold datF;rw [List.foldl_append];rfl
structure OfSt (q:Int) (n:Nat) (L:List Fl) (w0 w:World):Prop where
 size:n + 11 ≤ w.heap.size
 map:MapT encP w n 3 fun x => (aP x).map fun j => n + 4 + 3 * j
 dsk:BoxL w (n + 1) 60 [.map (some n),.int .i64 q,.int .i64 0,.bool false,.bool false]
 dirs:∀ j,j < 3 → BoxL w (n + 4 + 3 * j) 68 [.map (some (n + 2 + 3 * j)),.map (some (n + 3 + 3 * j)),.slice none 0 0]
 seen:∀ j,j < 3 → ∃ f k,k ≤ L.length ∧ MapT encP w (n + 2 + 3 * j) k f ∧ Shows n w f (datF L j)
 sett:∀ j,j < 3 → ∃ m g,MapT encP w (n + 3 + 3 * j) m g
 bel:Below n w0 w
theorem Shows.below {n:Nat} {w w':World} {f:ByteArray → Option Nat} {dt:ByteArray → Option ByteArray} (h:Shows n w f dt) (hb:Below w.heap.size w w'):Shows n w' f dt:=fun x hx => (h x hx).imp id fun ⟨fb,s,h1,h2,h3,h4⟩ => ⟨fb,s,h1,h2,h3,h4.below hb⟩
theorem Shows.chg {n:Nat} {S:Nat → Prop} {w w':World} {f:ByteArray → Option Nat} {dt:ByteArray → Option ByteArray} (h:Shows n w f dt) (hc:Chg S w w') (hS:∀ k,n + 11 ≤ k → ¬ S k):Shows n w' f dt:=fun x hx => (h x hx).imp id fun ⟨fb,s,h1,h2,h3,h4⟩ => ⟨fb,s,h1,h2,h3,h4.chg hc (hS fb h3)⟩
theorem OfSt.below {q:Int} {n:Nat} {L:List Fl} {w0 w w':World} (h:OfSt q n L w0 w) (hb:Below w.heap.size w w'):OfSt q n L w0 w' :=
 ⟨Nat.le_trans h.size hb.size,h.map.on hb,h.dsk.below hb,fun j hj => (h.dirs j hj).below hb,fun j hj => by
  obtain ⟨f,k,h1,h2,h3⟩:=h.seen j hj
  exact ⟨f,k,h1,h2.on hb,h3.below hb⟩,fun j hj => by
  obtain ⟨m,g,h1⟩:=h.sett j hj
  exact ⟨m,g,h1.on hb⟩,h.bel.trans (hb.mono (by have:=h.size;omega))⟩
theorem OfSt.skip {q:Int} {n:Nat} {L:List Fl} {f:Fl} {w0 w:World} (h:OfSt q n L w0 w) (hf:∀ j,dO f j = false):OfSt q n (L ++ [f]) w0 w :=
 ⟨h.size,h.map,h.dsk,h.dirs,fun j hj => by
  obtain ⟨g,k,h1,h2,h3⟩:=h.seen j hj
  have e:datF (L ++ [f]) j = datF L j:=by funext x;unfold datF;rw [List.foldl_append];show (if dO f j = true ∧ f.name = x then _ else _) = _;rw [hf,if_neg (by simp)]
  exact ⟨g,k,by simp;omega,h2,by rw [e];exact h3⟩,h.sett,h.bel⟩
theorem OfSt.put {q:Int} {n:Nat} {L:List Fl} {f:Fl} {w0 w W w':World} (h:OfSt q n L w0 w) {j:Nat} (hj:j < 3) (hf:∀ i,dO f i = decide (i = j)) {F:ByteArray → Option Nat} {k:Nat} (hk:k ≤ L.length) (hsh:Shows n w F (datF L j))
  (hW:Below w.heap.size w W) (hfile:ku W w.heap.size f.data) (hm:MapT encP w' (n + 2 + 3 * j) (k + 1) fun y => if y = f.name then some w.heap.size else F y) (hg:W.grownBy w' (some (n + 2 + 3 * j))):OfSt q n (L ++ [f]) w0 w':=by
 have h1:=h.below hW
 have hs:=h.size
 have hc:Chg (fun k => k = n + 2 + 3 * j) W w':=Chg.iW hg (fun k e => (Option.some.inj e).symm)
 refine ⟨Nat.le_trans h1.size hg.size,h1.map.chg hc (by omega),h1.dsk.chg hc (by omega),fun i hi => (h1.dirs i hi).chg hc (by omega),fun i hi => ?_,fun i hi => ?_,Chg.below h1.bel hc (by have:=h1.size;omega) (fun k e => by omega)⟩
 ·by_cases e:i = j
  ·subst e
   refine ⟨_,k + 1,by simp;omega,hm,fun x hx => ?_⟩
   rw [wU,hf i,decide_eq_true rfl]
   by_cases e2:x = f.name
   ·rw [if_pos e2,if_pos ⟨rfl,e2.symm⟩]
    exact .inr ⟨w.heap.size,f.data,rfl,rfl,hs,hfile.chg hc (by omega)⟩
   rw [if_neg e2,if_neg (fun h => e2 h.2.symm)]
   exact ((hsh.below hW).chg hc (fun k hk => by omega)) x hx
  obtain ⟨F',k',p1,p2,p3⟩:=h1.seen i hi
  refine ⟨F',k',by simp;omega,p2.chg hc (by omega),?_⟩
  have e3:datF (L ++ [f]) i = datF L i:=by funext x;rw [wU,hf i,decide_eq_false e,if_neg (by simp)]
  rw [e3]
  exact p3.chg hc (fun k hk => by omega)
 obtain ⟨m,g,p1⟩:=h1.sett i hi
 exact ⟨m,g,p1.chg hc (by omega)⟩
theorem OfSt.first {q:Int} {n:Nat} {w0 w:World} (h:NwSt n 3 w0 w) (hx:BoxL w (n + 1) 60 [.map (some n),.int .i64 q,.int .i64 0,.bool false,.bool false]):OfSt q n [] w0 w :=
 ⟨by have:=h.size;omega,h.map.ext fun x _ => by
  cases hw:aP x with
  | none => rfl
  | some j => dsimp only;rw [if_pos (dW hw).1];rfl,hx,h.dirs,fun j hj => ⟨_,0,Nat.zero_le _,(h.seen j hj).1,fun x _ => .inl ⟨rfl,rfl⟩⟩,fun j hj => ⟨_,_,(h.seen j hj).2⟩,h.bel⟩
def SetS (n r k:Nat):Prop:=k = r ∨ k = n + 3 ∨ k = n + 4 ∨ k = n + 6 ∨ k = n + 7 ∨ k = n + 9 ∨ k = n + 10
theorem OfSt.settled {q:Int} {n:Nat} {L:List Fl} {w0 W w:World} (h:OfSt q n L w0 W) (hc:Chg (SetS n W.heap.size) W w)
  (hd:∀ j,j < 3 → BoxL w (n + 4 + 3 * j) 68 [.map (some (n + 2 + 3 * j)),.map (some (n + 3 + 3 * j)),.slice none 0 0]) (hs:∀ j,j < 3 → ∃ m g,MapT encP w (n + 3 + 3 * j) m g):OfSt q n L w0 w:=by
 have hz:=h.size
 refine ⟨Nat.le_trans hz hc.size,h.map.chg hc (by unfold SetS;omega),h.dsk.chg hc (by unfold SetS;omega),hd,fun j hj => ?_,hs,Chg.below h.bel hc (by omega) (fun k hk => by unfold SetS at hk;omega)⟩
 obtain ⟨f,k,p1,p2,p3⟩:=h.seen j hj
 refine ⟨f,k,p1,p2.chg hc (by unfold SetS;omega),fun x hx => (p3 x hx).imp id ?_⟩
 rintro ⟨fb,s,e1,e2,e3,e4⟩
 exact ⟨fb,s,e1,e2,e3,e4.chg hc (by have:=e4.1;unfold SetS;omega)⟩
theorem rz {L:List Fl} {k:Nat} {x s:ByteArray} (h:datF L k x = some s):∃ f ∈ L,dO f k = true ∧ f.name = x ∧ f.data = s:=by
 have:∀ (L:List Fl) (r:Option ByteArray),L.foldl (fun r f => if dO f k = true ∧ f.name = x then some f.data else r) r = some s → r = some s ∨ ∃ f ∈ L,dO f k = true ∧ f.name = x ∧ f.data = s:=by
  intro L
  induction L with
  | nil => exact fun r h => .inl h
  | cons f L ih =>
   intro r h
   rw [List.foldl_cons] at h
   rcases ih _ h with h | ⟨g,h1,h2⟩
   ·split at h
    ·rename_i e
     exact .inr ⟨f,List.mem_cons_self ..,e.1,e.2,Option.some.inj h⟩
    exact .inl h
   exact .inr ⟨g,List.mem_cons_of_mem _ h1,h2⟩
 rcases this L none h with h | h
 ·cases h
 exact h
theorem lJ {x:ByteArray} (h:aX x = true):x.size ≤ 80:=by
 unfold aX at h
 simp only [Bool.and_eq_true,decide_eq_true_eq] at h
 exact h.2
theorem FT {f:Fl} {k:Nat} (h:dO f k = true):aX f.name = true ∧ f.data.size ≤ 1048576:=by
 unfold dO at h
 simp only [Bool.and_eq_true,decide_eq_true_eq] at h
 exact ⟨h.1.2,h.2⟩
theorem qW {L:List Fl} {k:Nat} {x:ByteArray} (h:x ∈ namF L k):aX x = true:=by
 rw [jF] at h
 obtain ⟨s,hs⟩:=Option.isSome_iff_exists.1 h
 obtain ⟨f,_,h2,h3,_⟩:=rz hs
 rw [← h3];exact (FT h2).1
theorem iX (L:List Fl) (k:Nat):(namF L k).length ≤ L.length:=by
 have hp:∀ (x:ByteArray) (l:List ByteArray),(putT x l).length ≤ l.length + 1:=by
  intro x l
  induction l with
  | nil => simp [putT]
  | cons y l ih => unfold putT;split <;> (try split) <;> simp <;> omega
 have:∀ (L:List Fl) (r:List ByteArray),(L.foldl (fun r f => if dO f k = true then putT f.name r else r) r).length ≤ r.length + L.length:=by
  intro L
  induction L with
  | nil => intro r;simp
  | cons f L ih =>
   intro r
   rw [List.foldl_cons]
   have h2:=hp f.name r
   refine Nat.le_trans (ih _) ?_
   rw [List.length_cons]
   split <;> omega
 have h:=this L []
 simpa [namF] using h
theorem OfSt.disk {q:Int} {n:Nat} {L:List Fl} {w0 w:World} (h:OfSt q n L w0 w) (hl:L.length ≤ 1000000):fu w (n + 1) (datF L):=by
 refine ⟨n,3,_,h.dsk.lt,h.dsk.range 0 _ rfl,h.dsk.range 4 _ rfl,h.map,fun x hx => ?_⟩
 cases hw:aP x with
 | none => exact .inl ⟨rfl,rfl⟩
 | some j =>
  have hj:=(dW hw).1
  obtain ⟨f,k,h1,h2,h3⟩:=h.seen j hj
  refine .inr ⟨_,j,rfl,rfl,n + 2 + 3 * j,k,f,(h.dirs j hj).lt,(h.dirs j hj).range 0 _ rfl,h2,by omega,fun y hy => (h3 y hy).imp id ?_⟩
  rintro ⟨fb,s,e1,e2,_,e4⟩
  exact ⟨fb,s,e1,e2,e4⟩
theorem wH {P:Program} {w:World} {a:Act} {op:Oper} (t:TypeId) (m x:Operand) (hop:op.op = .lookup t m x false) (mv xv v:Value) (hm:a.eval m = mv) (hx:a.eval x = xv) (h:(Instr.lookup t mv xv false).run P w = .ok v w):(execOp a.eval op).run P w = .ok (.value v) w:=by
 simp [execOp,hop,hm,hx,h,Result.andThen]
theorem FY (s:ByteArray) (z:Int) (w:World):(Instr.build 64 #[(0,.string s),(1,.int .i64 z)]).run prog w = .ok (.agg #[.string s,.int .i64 z]) w:=run_build w 64 _ _ (by kernel_rfl)
theorem AscT.nodup {l:List ByteArray} (h:AscT l):l.Nodup:=h.imp fun {x y} h e => by subst e;rw [bS] at h;cases h
structure LpSt (n:Nat) (W:World) (Lr:List ByteArray) (w:World):Prop where
 chg:Chg (SetS n W.heap.size) W w
 dirs:∀ j,j < 3 → BoxL w (n + 4 + 3 * j) 68 [.map (some (n + 2 + 3 * j)),.map (some (n + 3 + 3 * j)),.slice none 0 0]
 sett:∀ j,j < 3 → ∃ m g,MapT encP w (n + 3 + 3 * j) m g
 rng:RangeT encP w n W.heap.size 3 (fun x => (aP x).map fun j => n + 4 + 3 * j) Lr
theorem wR (q:Int) (v:Value) (l:List Fl) (w:World) (hv:jX w v l) (ho:FlOk l) (hl:l.length ≤ 1000000) (hG:Glob w):Calls prog 7 #[.int .i64 q,v] w fun e w' => e = .returned (.pointer (some ⟨w.heap.size + 1,0,none⟩)) ∧ OfSt q w.heap.size l w w':=by
 have hv0:=hv
 obtain ⟨ao,cap,rfl,hmax,hv⟩:=hv.open
 have HV:=ah hv0
 have HO:=ah ho
 have HL:=ah hl
 have HN:=ah (MQ q w hG)
 have hfb:=FY
 clear hv hv0 ho hl hG
 obtain ⟨n,hn⟩:∃ n,w.heap.size = n:=⟨_,rfl⟩
 rw [hn] at HN ⊢
 have HNS:=ah hn
 clear hn
 go_enter func7,ntmps7
 go_wp2_with fail
 refine HN.out.mono ?_
 rintro e w1 ⟨rfl,hst,hbx⟩
 have HS1:Hid (OfSt q n [] w w1):=ah (OfSt.first hst hbx)
 clear hst hbx
 go_upto_region 3 with fail
 go_loopw [8,15] (fun _ i wr => ∃ k:Nat,k ≤ l.length ∧ i = .int .i64 (k:Int) ∧ Hid (OfSt q n (l.take k) w wr)) (fun _ i _ => (l.length - intOf i).toNat)
 case atStart => exact ⟨0,by omega,rfl,HS1⟩
 obtain ⟨wo,rfl⟩:∃ wo:World,wo = wr:=⟨_,rfl⟩
 obtain ⟨k,hk,rfl,HS⟩:=hrel
 by_cases hlt:k < l.length
 ·have hbr:=HS.out.bel
  rw [← HNS.out] at hbr
  obtain ⟨ao2,cap2,e2,_,hv2⟩:=(HV.out.below hbr).open
  cases e2
  obtain ⟨g,off,rfl,hbl,hcell⟩:=hv2 (by intro e;rw [e] at hlt;simp at hlt)
  have r0:=hcell k hlt
  have k0:(0:Int) ≤ k:=by omega
  have k1:(k:Int) < l.length:=by omega
  have wk:IntKind.i64.wrap ((k:Int) + 1) = (k:Int) + 1:=IntWalk.i64_in _ (by unfold maxLen at hmax;omega)
  have HO1:=ah (HO.out l[k] (List.getElem_mem hlt))
  have HT:=ah (List.take_succ_eq_append_getElem hlt)
  generalize l[k] = f at r0 HO1 HT
  have c0:wo.cell? ⟨g,off + k * 3,none⟩ = some (.string f.dir):=r0 0 _ rfl
  have c1:wo.cell? ⟨g,off + k * 3 + 1,none⟩ = some (.string f.name):=r0 1 _ rfl
  have c2:wo.cell? ⟨g,off + k * 3 + 2,none⟩ = some (.string f.data):=r0 2 _ rfl
  clear hcell hv2 r0 hbr
  have HT1:=ah (there_alloc (n:=3) wo #[.string ⟨#[]⟩,.string ⟨#[]⟩,.string ⟨#[]⟩] 46 rfl)
  have HBX:=ah (BoxL.new wo 46 [.string ⟨#[]⟩,.string ⟨#[]⟩,.string ⟨#[]⟩])
  obtain ⟨W,hW⟩:∃ W,(wo.alloc (.cells #[.string ⟨#[]⟩,.string ⟨#[]⟩,.string ⟨#[]⟩] 46)).setCells wo.heap.size 0 (flC f) = W:=⟨_,rfl⟩
  have hbx:BoxL W wo.heap.size 46 (flC f):=by rw [← hW];exact HBX.out.set rfl
  have hbW:Below wo.heap.size wo W:=by rw [← hW];exact below_setCells _ (Nat.le_refl _) _ _ _ bal
  have HX:=ah hbx
  have HSW:=ah (HS.out.below hbW)
  have hsW:=HS.out.size
  have HW:=ah hW
  have HIF:=ah NR
  have HSZ:Hid (wo.heap.size < W.heap.size):=ah hbx.lt
  clear hW hbx hbW HBX
  go_upto_region 5 with (refine aj rfl 46 _ _ rfl wo.heap.size 0 (flC f) rfl rfl 3 rfl HT1.out HIF.out (by intro v hv;unfold flC at hv;simp at hv;rcases hv with rfl | rfl | rfl <;> rfl) ?_;rw [HW.out])
  have HLK:=ah (fun (w':World) (h:MapT encP w' n 3 fun x => (aP x).map fun j => n + 4 + 3 * j) => h.look underlying58 (Bn w') (x:=f.dir) HO1.out.1)
  have hS0:W.drew.cell? ⟨n + 1,0,none⟩ = some (.map (some n)) ∧ W.drew.cell? ⟨wo.heap.size,0,none⟩ = some (.string f.dir) ∧ MapT encP W.drew n 3 fun x => (aP x).map fun j => n + 4 + 3 * j :=
   ⟨HSW.out.dsk.range 0 _ rfl,HX.out.range 0 _ rfl,HSW.out.map.on (Below.refl _ _).drew⟩
  cases hw:aP f.dir with
  | none =>
   rw [hw] at HLK
   dsimp only [Option.map,Option.getD] at HLK
   have HEND:Hid (OfSt q n (l.take (k + 1)) w W.drew):=ah (by
    rw [HT.out]
    exact (HSW.out.below (Below.refl _ _).drew).skip fun j => by unfold dO;rw [hw];rfl)
   clear hw
   refine wrL 7 (fun w' => w'.cell? ⟨n + 1,0,none⟩ = some (.map (some n)) ∧ w'.cell? ⟨wo.heap.size,0,none⟩ = some (.string f.dir) ∧ MapT encP w' n 3 fun x => (aP x).map fun j => n + 4 + 3 * j) ?_
   refine WL.tk 0 hS0 ?_
   refine WL.tk 1 hS0 ?_
   refine WL.tk 2 hS0 ?_
   refine WL.tk 3 hS0 ?_
   refine WL.tk 4 hS0 ?_
   refine WL.tk 5 hS0 ?_
   refine WL.take (i:=6) (v:=.pointer none) rfl (by kernel_rfl) (by decide) (by decide +kernel) (by decide +kernel) (fun _ _ _ h => h) rfl (fun w' hSw => wH 58 (.tmp 22) (.tmp 24) rfl (.map (some n)) (.string f.dir) _ rfl rfl (HLK.out w' hSw.2.2)) hS0 ?_
   simp only [Act.put,nz]
   refine WL.la 7 ?_
   go_wp2_with fail
   go_roundw
   case rel => exact ⟨k + 1,by omega,by go_num,HEND⟩
   case measure => simp [intOf];omega
  | some j =>
   rw [hw] at HLK
   dsimp only [Option.map,Option.getD,encP] at HLK
   have hj:=(dW hw).1
   have HGO:Hid (∀ i,dO f i = (decide (i = j) && aX f.name)):=ah (fun i => by
    unfold dO
    rw [hw,decide_eq_true (show f.data.size ≤ 1048576 by have:=HO1.out.2.2;omega),Bool.and_true]
    congr 1
    simp only [Option.some.injEq]
    exact decide_eq_decide.2 ⟨Eq.symm,Eq.symm⟩)
   have HNA:=ah (zH f.name W.drew (by have:=HO1.out.2.1;omega))
   have e1:W.drew.cell? ⟨wo.heap.size,1,none⟩ = some (.string f.name):=HX.out.range 1 _ rfl
   clear hw
   refine wrL 7 (fun w' => w'.cell? ⟨n + 1,0,none⟩ = some (.map (some n)) ∧ w'.cell? ⟨wo.heap.size,0,none⟩ = some (.string f.dir) ∧ MapT encP w' n 3 fun x => (aP x).map fun j => n + 4 + 3 * j) ?_
   refine WL.tk 0 hS0 ?_
   refine WL.tk 1 hS0 ?_
   refine WL.tk 2 hS0 ?_
   refine WL.tk 3 hS0 ?_
   refine WL.tk 4 hS0 ?_
   refine WL.tk 5 hS0 ?_
   refine WL.take (i:=6) (v:=.pointer (some ⟨n + 4 + 3 * j,0,none⟩)) rfl (by kernel_rfl) (by decide) (by decide +kernel) (by decide +kernel) (fun _ _ _ h => h) rfl (fun w' hSw => wH 58 (.tmp 22) (.tmp 24) rfl (.map (some n)) (.string f.dir) _ rfl rfl (HLK.out w' hSw.2.2)) hS0 ?_
   simp only [Act.put,nz]
   refine WL.la 7 ?_
   cases hfn:aX f.name with
   | false =>
    rw [hfn] at HNA
    go_wp2_with fail
    refine HNA.out.mono ?_
    rintro e w2 ⟨rfl,hb2⟩
    have HEND:Hid (OfSt q n (l.take (k + 1)) w w2):=ah (by
     rw [HT.out]
     exact (HSW.out.below ((Below.refl _ _).drew.trans hb2)).skip fun j => by rw [HGO.out,hfn,Bool.and_false])
    clear hb2 hfn
    go_wp2_with fail
    go_roundw
    case rel => exact ⟨k + 1,by omega,by go_num,HEND⟩
    case measure => simp [intOf];omega
   | true =>
    rw [hfn] at HNA
    have HGO2:Hid (∀ i,dO f i = decide (i = j)):=ah (fun i => by rw [HGO.out,hfn,Bool.and_true])
    have hds:(f.data.size:Int) ≤ 1048576:=by have:=HO1.out.2.2;omega
    clear hfn
    go_wp2_with fail
    refine HNA.out.mono ?_
    rintro e w2 ⟨rfl,hb2⟩
    have HB2:Hid (Below W.heap.size W w2):=ah ((Below.refl _ _).drew.trans hb2)
    have HX2:=ah (HX.out.below HB2.out)
    have HS2:=ah (HSW.out.below HB2.out)
    have d2:w2.cell? ⟨wo.heap.size,2,none⟩ = some (.string f.data):=HX2.out.range 2 _ rfl
    clear hb2
    go_upto_region 7 with fail
    obtain ⟨F,kk,hkk,hmF,hsh⟩:=HS2.out.seen j hj
    have HSH:=ah hsh
    have HMF:=ah hmF
    have HKK:=ah hkk
    have hS1:w2.drew.cell? ⟨n + 4 + 3 * j,0,none⟩ = some (.map (some (n + 2 + 3 * j))) ∧ w2.drew.cell? ⟨wo.heap.size,1,none⟩ = some (.string f.name) ∧ w2.drew.cell? ⟨wo.heap.size,2,none⟩ = some (.string f.data) ∧ MapT encP w2.drew (n + 2 + 3 * j) kk F :=
     ⟨(HS2.out.dirs j hj).range 0 _ rfl,HX2.out.range 1 _ rfl,HX2.out.range 2 _ rfl,hmF.on (Below.refl _ _).drew⟩
    clear hsh hkk hmF
    refine wrL 13 (fun w' => w'.cell? ⟨n + 4 + 3 * j,0,none⟩ = some (.map (some (n + 2 + 3 * j))) ∧ w'.cell? ⟨wo.heap.size,1,none⟩ = some (.string f.name) ∧ w'.cell? ⟨wo.heap.size,2,none⟩ = some (.string f.data) ∧ MapT encP w' (n + 2 + 3 * j) kk F) ?_
    refine WL.tk 0 hS1 ?_
    refine WL.tk 1 hS1 ?_
    refine WL.tk 2 hS1 ?_
    refine WL.tk 3 hS1 ?_
    refine WL.tk 4 hS1 ?_
    refine WL.tk 5 hS1 ?_
    refine WL.tk 6 hS1 ?_
    refine WL.tk 7 hS1 ?_
    refine WL.tk 8 hS1 ?_
    refine WL.tk 9 hS1 ?_
    refine WL.tk 10 hS1 ?_
    refine WL.tk 11 hS1 ?_
    refine WL.on 12 ?_
    go_wp2_with fail
    have hb9:Below w2.heap.size w2 (w2.alloc (.cells #[.string f.data,.int .i64 (f.data.size:Int)] 64)).drew:=bal.drew
    have hf9:ku (w2.alloc (.cells #[.string f.data,.int .i64 (f.data.size:Int)] 64)).drew w2.heap.size f.data:=⟨by simp,(BoxL.new w2 64 [.string f.data,.int .i64 (f.data.size:Int)]).range 0 _ rfl⟩
    obtain ⟨W9,hW9⟩:∃ W,(w2.alloc (.cells #[.string f.data,.int .i64 (f.data.size:Int)] 64)).drew = W:=⟨_,rfl⟩
    rw [hW9] at hb9 hf9 ⊢
    have hS9:W9.cell? ⟨n + 4 + 3 * j,0,none⟩ = some (.map (some (n + 2 + 3 * j))) ∧ W9.cell? ⟨wo.heap.size,1,none⟩ = some (.string f.name) ∧ W9.cell? ⟨wo.heap.size,2,none⟩ = some (.string f.data) ∧ MapT encP W9 (n + 2 + 3 * j) kk F :=
     ⟨((HS2.out.dirs j hj).below hb9).range 0 _ rfl,(HX2.out.below hb9).range 1 _ rfl,(HX2.out.below hb9).range 2 _ rfl,HMF.out.on hb9⟩
    have HF9:=ah hf9
    have HB9:=ah hb9
    clear hW9 hf9 hb9
    refine ⟨hS9,?_⟩
    refine WL.la 13 ?_
    have HM9:=ah hS9.2.2.2
    have hns:f.name.size ≤ maxLen:=by have:=HO1.out.2.1;unfold maxLen;omega
    have hkm:kk < maxLen:=by have h1:=HKK.out;have h2:=HL.out;rw [List.length_take] at h1;unfold maxLen;omega
    clear hS9
    go_wp2_with (refine fK (enc:=encP) rfl _ _ _ 65 62 rfl underlying65 (n + 2 + 3 * j) kk F rfl HM9.out f.name hns w2.heap.size rfl rfl hkm ?_)
    intro w' hm hg _
    have HEND:Hid (OfSt q n (l.take (k + 1)) w w'):=ah (by
     rw [HT.out]
     exact HS2.out.put hj HGO2.out HKK.out HSH.out HB9.out HF9.out hm hg)
    clear hm hg hns hkm
    go_wp2_with fail
    go_roundw
    case rel => exact ⟨k + 1,by omega,by go_num,HEND⟩
    case measure => simp [intOf];omega
 obtain rfl:k = l.length:=by omega
 rw [List.take_length] at HS
 have d0:wo.cell? ⟨n + 1,0,none⟩ = some (.map (some n)):=HS.out.dsk.range 0 _ rfl
 have HLQ:Hid (∀ x:ByteArray,x.size ≤ maxLen → (((aP x).map fun j => n + 4 + 3 * j).isSome = true ↔ x ∈ [bV,bn,sRef])):=ah (fun x _ => by
  rw [Option.isSome_map]
  unfold aP
  by_cases h1:x = bV
  ·rw [if_pos h1];simp [h1]
  rw [if_neg h1]
  by_cases h2:x = bn
  ·rw [if_pos h2];simp [h2]
  rw [if_neg h2]
  by_cases h3:x = sRef
  ·rw [if_pos h3];simp [h3]
  rw [if_neg h3];simp [h1,h2,h3])
 go_wp2_with (refine l6 (enc:=encP) rfl _ 58 57 rfl underlying58 n 3 _ [bV,bn,sRef] rfl HS.out.map (by decide) (by decide) HLQ.out ?_)
 intro w2 hrg2 hg2 hs2
 obtain ⟨r0,hr0⟩:∃ r0,wo.heap.size = r0:=⟨_,rfl⟩
 have HC2:Hid (Chg (SetS n wo.heap.size) wo w2):=ah (Chg.iW hg2 (fun k e => by cases e))
 have HST2:Hid (LpSt n wo [bV,bn,sRef] w2):=ah ⟨HC2.out,fun j hj => (HS.out.dirs j hj).kept hg2 (by simp),fun j hj => by
  obtain ⟨m,g,h1⟩:=HS.out.sett j hj
  exact ⟨m,g,h1.grown hg2 (by simp)⟩,hrg2⟩
 rw [hr0] at HC2 ⊢
 have HR0:=ah hr0
 clear hrg2 hg2 hs2 hr0 d0
 go_upto_region 10 with fail
 go_loopw [10] (fun _ wr => ∃ Lr,Hid (LpSt n wo Lr wr)) (fun _ wr => wr.rangeLeft n r0)
 case atStart => exact ⟨_,HST2⟩
 obtain ⟨wl,rfl⟩:∃ wl:World,wl = wr:=⟨_,rfl⟩
 obtain ⟨Lr,HT⟩:=hrel
 have hrg:=HT.out.rng
 rw [HR0.out] at hrg
 go_wp2_with (refine nN (enc:=encP) rfl _ rfl n r0 3 _ Lr rfl hrg ?_ ?_)
 ·intro hL0
  clear hrg
  have HEND:Hid (OfSt q n l w wl):=ah (HS.out.settled HT.out.chg HT.out.dirs HT.out.sett)
  go_wp2_with fail
  go_ret
  exact ⟨rfl,HEND.out⟩
 intro x c w3 _ _ j hwj hcj hrg3 hlt3 hg3 _ hent
 subst hcj
 have hj:=(dW hwj).1
 have hrn:n + 11 ≤ r0:=by rw [← HR0.out];exact HS.out.size
 have hc3:Chg (SetS n wo.heap.size) wo w3:=HT.out.chg.trans (Chg.iW hg3 (fun k e => .inl (by rw [HR0.out];exact (Option.some.inj e).symm)))
 have hd3:∀ j,j < 3 → BoxL w3 (n + 4 + 3 * j) 68 [.map (some (n + 2 + 3 * j)),.map (some (n + 3 + 3 * j)),.slice none 0 0]:=fun i hi => (HT.out.dirs i hi).kept hg3 (fun e => by have:=Option.some.inj e;omega)
 have hs3:∀ j,j < 3 → ∃ m g,MapT encP w3 (n + 3 + 3 * j) m g:=fun i hi => by
  obtain ⟨m,g,h1⟩:=HT.out.sett i hi
  exact ⟨m,g,h1.grown hg3 (fun e => by have:=Option.some.inj e;omega)⟩
 have hof:=HS.out.settled hc3 hd3 hs3
 obtain ⟨f,k,hk,hmf,hsh⟩:=hof.seen j hj
 obtain ⟨m,g,hmg⟩:=hs3 j hj
 have HSE:=ah (El (n + 4 + 3 * j) (n + 3 + 3 * j) (n + 2 + 3 * j) m k g f _ (namF l j) w3 (hd3 j hj) (by omega) (by omega) (by omega) hmg hmf
  (AscT.nodup (pV l j)) (fun x hx => by have:=lJ (qW hx);unfold maxLen;omega) (fun x hx => by
   rw [jF]
   rcases hsh x hx with ⟨e1,e2⟩ | ⟨fb,s,e1,e2,_⟩
   ·rw [e1,e2];simp
   rw [e1,e2];simp) (Nat.le_trans (iX l j) HL.out))
 have HRG3:=ah hrg3
 have HLT3:=ah hlt3
 have HC3:=ah hc3
 have HD3:=ah hd3
 have HE3:=ah hs3
 have HJ:=ah hj
 have HRN:=ah hrn
 clear hrg hrg3 hlt3 hg3 hc3 hd3 hs3 hof hmf hsh hmg hk hj hrn hwj
 go_wp2_with fail
 refine HSE.out.mono ?_
 rintro e w4 ⟨rfl,hb4,hf4,ha4,hc4⟩
 have hj:=HJ.out
 have hrn:=HRN.out
 have HEND:Hid (LpSt n wo (Lr.filter fun y => decide (y ≠ x)) w4):=ah ⟨HC3.out.trans (hc4.mono fun k _ hk => by unfold SetS;omega),fun i hi => by
   by_cases e:i = j
   ·subst e;exact hb4
   ·exact (HD3.out i hi).chg hc4 (by omega),fun i hi => by
   by_cases e:i = j
   ·subst e;exact ⟨_,_,ha4⟩
   ·obtain ⟨m,g,h1⟩:=HE3.out i hi
    exact ⟨m,g,h1.chg hc4 (by omega)⟩,by
   rw [HR0.out]
   have:=HRG3.out.chg hc4 (by omega) (by omega)
   simpa only [ne_eq,decide_not] using this⟩
 have HLE:Hid (w4.rangeLeft n r0 < wl.rangeLeft n r0):=ah (by
  rw [hc4.left HRG3.out (by omega) (by omega)];exact HLT3.out)
 clear hb4 hf4 ha4 hc4 hj hrn
 go_wp2_with fail
 go_roundw
 case rel => exact ⟨_,HEND⟩
 case measure => exact HLE.out
theorem F8 (w:World):Calls prog 96 #[.slice none 0 0] w fun e w' => e = .returned (.slice none 0 0) ∧ w' = w:=by
 have hq:∀ w,(binOp .eql 130 (.slice none 0 0) (.slice none 0 0)).run prog w = .ok (.bool true) w:=fun w => by kernel_rfl
 go_enter func96,ntmps96
 go_wp2_with fail
 go_ret
 exact ⟨rfl,rfl⟩
theorem Ma (f:Value) (w:World):Calls prog 212 #[.slice none 0 0,.int .i64 0,.int .i64 0,f] w fun e w' => e = .returned (.tuple #[]) ∧ w' = w:=by
 go_enter func212,ntmps212
 go_wp2_with fail
 refine wp_loop_rounds 1 ?_
 rw [rounds_succ]
 go_wp2_with fail
 go_end0
 exact ⟨rfl,rfl⟩
theorem BJ (f:Value) (w:World):Calls prog 164 #[.slice none 0 0,.int .i64 0,f] w fun e w' => e = .returned (.tuple #[]) ∧ w' = w:=by
 have HI:=ah (Ma f w)
 go_enter func164,ntmps164
 go_wp2_with fail
 refine wp_loop_rounds 1 ?_
 rw [rounds_succ]
 go_wp2_with fail
 refine HI.out.mono ?_
 rintro e w1 ⟨rfl,rfl⟩
 go_wp2_with fail
 refine wp_loop_rounds 1 ?_
 rw [rounds_succ]
 go_wp2_with fail
 go_end0
 exact ⟨rfl,rfl⟩
theorem Ad (w:World):Calls prog 97 #[.slice none 0 0,.func (.func 98) #[] #[]] w fun e w' => e = .returned (.tuple #[]) ∧ w' = w:=by
 have HI:=ah (BJ (.func (.func 98) #[] #[]) w)
 go_enter func97,ntmps97
 go_wp2_with fail
 refine HI.out.mono ?_
 rintro e w1 ⟨rfl,rfl⟩
 go_wp2_with fail
 go_end0
 exact ⟨rfl,rfl⟩
theorem Ah (f:Value) (w:World):Calls prog 166 #[.slice none 0 0,f] w fun e w' => e = .returned (.bool true) ∧ w' = w:=by
 go_enter func166,ntmps166
 go_wp2_with fail
 refine wp_loop_rounds 1 ?_
 rw [rounds_succ]
 go_wp2_with fail
 go_ret
 exact ⟨rfl,rfl⟩
theorem Ai (f:Value) (w:World):Calls prog 167 #[.slice none 0 0,f] w fun e w' => e = .returned (.bool true) ∧ w' = w:=by
 go_enter func167,ntmps167
 go_wp2_with fail
 refine wp_loop_rounds 1 ?_
 rw [rounds_succ]
 go_wp2_with fail
 go_ret
 exact ⟨rfl,rfl⟩
theorem FJ (f:Value) (w:World):Calls prog 194 #[.slice none 0 0,f] w fun e w' => e = .returned (.int .i64 (-1)) ∧ Below w.heap.size w w':=by
 go_enter func194,ntmps194
 go_wp2_with fail
 refine wp_loop_rounds 1 ?_
 rw [rounds_succ]
 go_wp2_with fail
 go_ret
 exact ⟨rfl,Below.refl _ _⟩
theorem xU (f:Value) (w:World):Calls prog 134 #[.slice none 0 0,f] w fun e w' => e = .returned (.bool false) ∧ Below w.heap.size w w':=by
 have HI:=ah (FJ f w)
 go_enter func134,ntmps134
 go_wp2_with fail
 refine HI.out.mono ?_
 rintro e w1 ⟨rfl,hb1⟩
 go_wp2_with fail
 go_ret
 exact ⟨rfl,hb1⟩
theorem uL (g:Nat) (sv:Value) (w:World) (h:BoxL w g 201 [.slice none 0 0,sv,.slice none 0 0]):Calls prog 100 #[.pointer (some ⟨g,0,none⟩)] w fun e w' => e = .returned (.bool true) ∧ Below w.heap.size w w':=by
 have HR1:=ah (fun f W => Ah f W)
 have HR2:=ah (fun f W => Ai f W)
 have HC:=ah (fun f W => xU f W)
 have c0:w.cell? ⟨g,0,none⟩ = some (.slice none 0 0):=h.range 0 _ rfl
 have c2:w.cell? ⟨g,2,none⟩ = some (.slice none 0 0):=h.range 2 _ rfl
 clear h
 go_enter func100,ntmps100
 go_wp2_with fail
 refine (HR1.out _ _).mono ?_
 rintro e w1 ⟨rfl,rfl⟩
 go_wp2_with fail
 refine (HR2.out _ _).mono ?_
 rintro e w1 ⟨rfl,rfl⟩
 go_wp2_with fail
 refine wp_loop_rounds 1 ?_
 rw [rounds_succ]
 go_wp2_with fail
 refine (HC.out _ _).mono ?_
 rintro e w1 ⟨rfl,hb1⟩
 go_wp2_with fail
 go_ret
 exact ⟨rfl,hb1⟩
theorem JK (f:Value) (w:World):Calls prog 259 #[.slice none 0 0,.int .i64 0,.int .i64 0,f] w fun e w' => e = .returned (.tuple #[]) ∧ w' = w:=by
 go_enter func259,ntmps259
 go_wp2_with fail
 refine wp_loop_rounds 1 ?_
 rw [rounds_succ]
 go_wp2_with fail
 go_end0
 exact ⟨rfl,rfl⟩
theorem Jh (n:Int) (f:Value) (w:World):Calls prog 214 #[.slice none 0 0,.int .i64 0,.int .i64 0,.int .i64 n,f] w fun e w' => e = .returned (.tuple #[]) ∧ w' = w:=by
 have HI:=ah (JK f w)
 go_enter func214,ntmps214
 go_wp2_with fail
 refine wp_loop_rounds 1 ?_
 rw [rounds_succ]
 go_wp2_with fail
 refine HI.out.mono ?_
 rintro e w1 ⟨rfl,rfl⟩
 go_wp2_with fail
 (try simp only [Exit.inBlock,Exit.then])
 refine bodyPost_ret (results_none rfl _ _ _) rfl ?_
 exact ⟨rfl,rfl⟩
theorem Fu (w:World):Calls prog 231 #[.int .u64 0] w fun e w' => (∃ n,e = .returned (.int .i64 n)) ∧ w' = w:=by
 go_enter func231,ntmps231
 go_wp2_with fail
 go_ret
 exact ⟨⟨_,rfl⟩,rfl⟩
theorem LX (w:World):Calls prog 183 #[.int .u64 0] w fun e w' => (∃ n,e = .returned (.int .i64 n)) ∧ w' = w:=by
 have HI:=ah (Fu w)
 go_enter func183,ntmps183
 go_wp2_with fail
 refine HI.out.mono ?_
 rintro e w1 ⟨⟨n,rfl⟩,rfl⟩
 go_wp2_with fail
 go_ret
 exact ⟨⟨_,rfl⟩,rfl⟩
theorem BP (f:Value) (w:World):Calls prog 174 #[.slice none 0 0,f] w fun e w' => e = .returned (.tuple #[]) ∧ w' = w:=by
 have HI:=ah (LX w)
 have HP:=ah (fun n => Jh n f w)
 go_enter func174,ntmps174
 go_wp2_with fail
 refine HI.out.mono ?_
 rintro e w1 ⟨⟨n,rfl⟩,rfl⟩
 go_wp2_with fail
 refine (HP.out _).mono ?_
 rintro e w1 ⟨rfl,rfl⟩
 go_wp2_with fail
 go_end0
 exact ⟨rfl,rfl⟩
theorem Dp (w:World):Calls prog 103 #[.slice none 0 0] w fun e w' => e = .returned (.slice none 0 0) ∧ Below w.heap.size w w':=by
 have hmm:=@run_makeMap prog
 have HS:=ah (fun f W => BP f W)
 obtain ⟨W,hW⟩:∃ W,w.alloc (.map #[] 0) = W:=⟨_,rfl⟩
 have HM:Hid (MapG (fun v:Value => v) W w.heap.size 0 fun _ => none):=ah (by rw [← hW];exact JC w)
 have HB:Hid (Below w.heap.size w W):=ah (by rw [← hW];exact bal)
 have HW:=ah hW
 clear hW
 go_enter func103,ntmps103
 go_upto_region 2 with fail
 rw [HW.out]
 go_wp2_with fail
 refine wp_loop_rounds 1 ?_
 rw [rounds_succ]
 go_wp2_with (refine tJ (enc:=fun v:Value => v) rfl _ 279 277 rfl underlying279 w.heap.size 0 (fun _ => none) [] rfl HM.out List.nodup_nil (fun x hx => by cases hx) (fun x _ => by simp) ?_)
 intro w2 hrg2 hg2 hs2
 have HB2:Hid (Below w.heap.size w w2):=ah (HB.out.grown hg2 HB.out.size (fun j e => by cases e))
 clear hg2 hs2
 go_wp2_with fail
 refine wp_loop_rounds 1 ?_
 rw [rounds_succ]
 go_wp2_with (refine xI (enc:=fun v:Value => v) rfl _ rfl w.heap.size W.heap.size 0 (fun _ => none) [] rfl hrg2 ?_ (fun x c w' hx => by cases hx))
 refine (HS.out _ _).mono ?_
 rintro e w3 ⟨rfl,rfl⟩
 clear hrg2
 go_wp2_with fail
 go_ret
 exact ⟨rfl,HB2.out⟩
theorem yX:numB 0 = [0]:=by rw [numB];rfl
theorem D8 (g:Nat) (sv:Value) (w:World) (h:BoxL w g 201 [.slice none 0 0,sv,.slice none 0 0]) (hc:Crc w):Calls prog 104 #[.pointer (some ⟨g,0,none⟩)] w fun e w' => (∃ s,e = .returned (.string s)) ∧ Below w.heap.size w w':=by
 have HH:=ah (fun (W:World) (hb:Below w.heap.size w W) => (h.below hb).range)
 have HCR:=ah hc
 have hgl:=h.lt
 clear h hc
 go_enter func104,ntmps104
 go_wp2_with fail
 obtain ⟨W1,hW1⟩:∃ W,(w.alloc (.cells #[.pointer none,.slice none 0 0] 266)).alloc (.cells #[.string ⟨#[83,77,88,49]⟩] 9) = W:=⟨_,rfl⟩
 have hb1:Below w.heap.size w W1:=by rw [← hW1];exact bal.alloc (by simp) _
 have hwr:Wr w.heap.size w.heap.size [] W1:=by rw [← hW1];exact Wr.below (Lib.fresh_isBuilder 266 5 w) bal
 have hcg:W1.cell? ⟨w.heap.size + 1,0,none⟩ = some (.string ⟨#[83,77,88,49]⟩):=by
  rw [← hW1]
  have:=World.cell?_alloc_new (w.alloc (.cells #[.pointer none,.slice none 0 0] 266)) #[.string ⟨#[83,77,88,49]⟩] 9 0
  rw [World.size_alloc] at this
  rw [this];rfl
 have HRW:=ah (qC w.heap.size w.heap.size [] (w.heap.size + 1) ⟨#[83,77,88,49]⟩ W1 hwr hcg (by decide) hb1.size)
 have HB1:=ah hb1
 rw [hW1]
 clear hW1 hb1 hwr hcg
 refine HRW.out.mono ?_
 rintro e w2 ⟨rfl,hw2,hb2⟩
 have HB2:=ah (HB1.out.trans hb2)
 have HW2:=ah hw2
 have r2:=HH.out w2 HB2.out
 have c20:w2.cell? ⟨g,0,none⟩ = some (.slice none 0 0):=r2 0 _ rfl
 clear hw2 hb2 r2
 go_wp2_with fail
 obtain ⟨W3,hW3⟩:∃ W,w2.alloc (.cells #[.int .i64 0] 3) = W:=⟨_,rfl⟩
 have hb3:Below w2.heap.size w2 W3:=by rw [← hW3];exact bal
 have hcg3:W3.cell? ⟨w2.heap.size,0,none⟩ = some (.int .i64 ((0:Nat):Int)):=by rw [← hW3,World.cell?_alloc_new];rfl
 have HB3:=bth HB2 hb3
 have HWN:=ah (l7 w.heap.size w.heap.size _ w2.heap.size 0 W3 (HW2.out.below hb3) hcg3 (by decide) (by decide) HB3.out.size)
 rw [hW3]
 clear hW3 hb3 hcg3 c20
 refine HWN.out.mono ?_
 rintro e w4 ⟨rfl,hw4,hb4⟩
 rw [yX] at hw4
 have HB4:=ah (HB3.out.trans hb4)
 have HW4:=ah hw4
 have r4:=HH.out w4 HB4.out
 have c40:w4.cell? ⟨g,0,none⟩ = some (.slice none 0 0):=r4 0 _ rfl
 have c42:w4.cell? ⟨g,2,none⟩ = some (.slice none 0 0):=r4 2 _ rfl
 clear hw4 hb4 r4
 go_wp2_with fail
 refine wp_loop_rounds 1 ?_
 rw [rounds_succ]
 go_wp2_with fail
 obtain ⟨W5,hW5⟩:∃ W,w4.alloc (.cells #[.int .i64 0] 3) = W:=⟨_,rfl⟩
 have hb5:Below w4.heap.size w4 W5:=by rw [← hW5];exact bal
 have hcg5:W5.cell? ⟨w4.heap.size,0,none⟩ = some (.int .i64 ((0:Nat):Int)):=by rw [← hW5,World.cell?_alloc_new];rfl
 have HB5:=bth HB4 hb5
 have HWN5:=ah (l7 w.heap.size w.heap.size _ w4.heap.size 0 W5 (HW4.out.below hb5) hcg5 (by decide) (by decide) HB5.out.size)
 rw [hW5]
 clear hW5 hb5 hcg5 c40 c42
 refine HWN5.out.mono ?_
 rintro e w6 ⟨rfl,hw6,hb6⟩
 rw [yX] at hw6
 have HB6:=ah (HB5.out.trans hb6)
 have HWO:=ah (qD w.heap.size w.heap.size _ w6 hw6 (by decide))
 have r6:=HH.out w6 HB6.out
 have c62:w6.cell? ⟨g,2,none⟩ = some (.slice none 0 0):=r6 2 _ rfl
 clear hw6 hb6 r6
 go_wp2_with fail
 refine wp_loop_rounds 1 ?_
 rw [rounds_succ]
 go_wp2_with fail
 refine HWO.out.mono ?_
 rintro e w7 ⟨rfl,hb7⟩
 have HB7:=ah (HB6.out.trans hb7)
 have HSE:=ah (fun s (hs:s.size ≤ 1000000000) => BR s w7 (HCR.out.below HB7.out) hs)
 have hsz:=HSE.out (ofB ([] ++ [83,77,88,49] ++ [0] ++ [0])) (by decide)
 have HSZ:=ah hsz
 clear hb7 hsz
 go_wp2_with fail
 refine HSZ.out.mono ?_
 rintro e w8 ⟨rfl,hb8⟩
 have HB8:=bth HB7 hb8
 clear hb8
 go_wp2_with fail
 go_ret
 exact ⟨⟨_,rfl⟩,HB8.out⟩
theorem AA (w:World):(Instr.build 201 #[]).run prog w = .ok (.agg #[.slice none 0 0,.slice none 0 0,.slice none 0 0]) w:=run_build w 201 _ _ (by kernel_rfl)
theorem JD (w:World) (hc:Crc w):Calls prog 54 #[.slice none 0 0] w fun e w' => (∃ s,e = .returned (.tuple #[.string s,.int .i64 0])) ∧ Below w.heap.size w w':=by
 have hmb:=AA
 have HCL:=ah (F8 w)
 have HSS:=ah (Ad w)
 obtain ⟨W,hW⟩:∃ W,w.alloc (.cells #[.slice none 0 0,.slice none 0 0,.slice none 0 0] 201) = W:=⟨_,rfl⟩
 have HB:Hid (Below w.heap.size w W):=ah (by rw [← hW];exact bal)
 have HX:Hid (BoxL W w.heap.size 201 [.slice none 0 0,.slice none 0 0,.slice none 0 0]):=ah (by rw [← hW];exact BoxL.new w 201 [.slice none 0 0,.slice none 0 0,.slice none 0 0])
 have HW:=ah hW
 have HC:=ah hc
 clear hW hc
 go_enter func54,ntmps54
 go_wp2_with fail
 refine HCL.out.mono ?_
 rintro e w1 ⟨rfl,rfl⟩
 go_wp2_with fail
 refine HSS.out.mono ?_
 rintro e w1 ⟨rfl,rfl⟩
 go_upto_region 6 with fail
 rw [HW.out]
 go_wp2_with fail
 refine wp_loop_rounds 1 ?_
 rw [rounds_succ]
 have HR1:=ah (uL w1.heap.size (.slice none 0 0) W HX.out)
 go_wp2_with fail
 refine HR1.out.mono ?_
 rintro e w2 ⟨rfl,hb2⟩
 have HB2:=bth HB hb2
 have HX2:=ah (HX.out.below hb2)
 clear hb2
 go_wp2_with fail
 refine wp_loop_rounds 1 ?_
 rw [rounds_succ]
 have HG:=ah (Dp w2)
 go_wp2_with fail
 refine HG.out.mono ?_
 rintro e w3 ⟨rfl,hb3⟩
 have HB3:=bth HB2 hb3
 have hx3:=HX2.out.below hb3
 have k2:w3.cell? ⟨w1.heap.size,2,none⟩ = some (.slice none 0 0):=hx3.range 2 _ rfl
 have k2f:w3.frozen? ⟨w1.heap.size,2,none⟩ = false:=by have:=(hx3.there 2 (by simp)).2;rwa [Nat.zero_add] at this
 obtain ⟨W4,hW4⟩:∃ W,w3.setCell ⟨w1.heap.size,2,none⟩ (.slice none 0 0) = W:=⟨_,rfl⟩
 have HX4:Hid (BoxL W4 w1.heap.size 201 [.slice none 0 0,.slice none 0 0,.slice none 0 0]):=ah (by rw [← hW4];exact hx3.put 2 (.slice none 0 0))
 have HB4:Hid (Below w1.heap.size w1 W4):=ah (by rw [← hW4];exact HB3.out.setCell (Nat.le_refl _) _)
 have HR4:=ah (uL w1.heap.size (.slice none 0 0) W4 HX4.out)
 have HW4:=ah hW4
 clear hb3 hx3 hW4
 go_upto_region 23 with fail
 rw [HW4.out]
 clear k2 k2f
 go_wp2_with fail
 refine HR4.out.mono ?_
 rintro e w5 ⟨rfl,hb5⟩
 have HB5:=bth HB4 hb5
 have HWR:=ah (D8 w1.heap.size (.slice none 0 0) w5 (HX4.out.below hb5) (HC.out.below HB5.out))
 clear hb5
 go_wp2_with fail
 refine HWR.out.mono ?_
 rintro e w6 ⟨⟨s,rfl⟩,hb6⟩
 have HB6:=bth HB5 hb6
 clear hb6
 go_wp2_with fail
 go_ret2
 exact ⟨⟨s,rfl⟩,HB6.out⟩
end
section
open Go.RowKit
def fiC (s:ByteArray):List Value:=[.string s,.int .i64 (s.size:Int)]
def xG (w:World) (v:Value) (l:List ByteArray):Prop:=aK w v 2 (l.map fiC)
theorem xG.below {w w':World} {v:Value} {l:List ByteArray} (h:xG w v l) (hb:Below w.heap.size w w'):xG w' v l:=aK.below h hb
def fisF (l:List ByteArray):List Value:=(l.map fiC).flatten
theorem JY (l:List ByteArray) (p:ByteArray):fisF (l ++ [p]) = fisF l ++ fiC p:=by simp [fisF]
theorem xG.aS {w:World} {B:Nat} {v:Value} {l:List ByteArray} (h:w.ownsRow B 91 2 v l.length (fisF l)):xG w v l :=
 aK.aS (B:=B) (e:=91) (fun r hr => by obtain ⟨p,_,rfl⟩:=List.mem_map.1 hr;rfl) (by rw [List.length_map];exact h)
theorem OW:∃ i0:TypeInfo,prog.info? 91 = some i0 ∧ i0.zero = some (.agg #[.string ⟨#[]⟩,.int .i64 0]) ∧ i0.size = 2 ∧ i0.bytes = 24:=⟨_,rfl,by kernel_rfl,by kernel_rfl,by kernel_rfl⟩
theorem qJ {ops:Array Oper} {rest:List Oper} {o:Oper} {a:Act} {Q:Exit → Act → World → Prop} (w:World) (hg:o.guard = none) (s x:Operand) (hop:o.op = Op.call { callee:=Callee.builtin Builtin.append,args:=#[s,x],argTypes:=#[82,82] })
  (base:Nat) (v:Value) (n:Nat) (xs:List Value) (hs:a.eval s = v) (hown:w.ownsRow base 91 2 v n xs) (b:Nat) (p:ByteArray) (hx:a.eval x = .slice (some ⟨b,0,none⟩) 1 1) (hr:w.rangeAt b 0 (fiC p)) (hn:n ≤ 10000000) (hbase:base ≤ w.heap.size)
  (hK:∀ v' w',w'.ownsRow base 91 2 v' (n + 1) (xs ++ fiC p) → w.grownBy w' v.ownBlock → Fr w v v' → wpList prog ops Q rest (a.put o.dst v') w'):wpList prog ops Q (o :: rest) a w:=by
 obtain ⟨i0,hi,hz0,hz1,hz2⟩:=OW
 refine aR w hg s x 82 hop base 91 i0 _ 2 24 underlying82 hi hz0 hz1 hz2 rfl (by decide) v n xs hs hown ⟨b,0,none⟩ 1 1 (fiC p) hx rfl (fun j u hu => ?_) (fun u hu => ?_) (by unfold maxLen;omega) (by omega) hbase hK
 ·have:=hr j u hu
  rw [Addr.add_mid]
  exact this
 unfold fiC at hu
 simp at hu
 rcases hu with rfl | rfl <;> rfl
def rkC (vs vt:Nat → Value) (fv:Value) (q:Int):List Value:=[vs 0,vt 0,.slice none 0 0,vs 1,vt 1,.slice none 0 0,vs 2,vt 2,.slice none 0 0,fv,.int .i64 q,.int .i64 (-1),.bool false]
theorem IL (q:Int) (w:World):(Instr.build 89 #[(2,.int .i64 q),(3,.int .i64 (-1))]).run prog w = .ok (.agg (rkC (fun _ => .slice none 0 0) (fun _ => .slice none 0 0) (.slice none 0 0) q).toArray) w:=run_build w 89 _ _ (by kernel_rfl)
theorem Ev (q:Int) (w:World):Calls prog 22 #[.int .i64 q] w fun e w' => e = .returned (.pointer (some ⟨w.heap.size,0,none⟩)) ∧ BoxL w' w.heap.size 89 (rkC (fun _ => .slice none 0 0) (fun _ => .slice none 0 0) (.slice none 0 0) q) ∧ Below w.heap.size w w' ∧ w'.heap.size = w.heap.size + 1:=by
 have hb:=IL
 have HX:=ah (BoxL.new w 89 (rkC (fun _ => .slice none 0 0) (fun _ => .slice none 0 0) (.slice none 0 0) q))
 go_enter func22,ntmps22
 go_wp2_with fail
 go_ret
 exact ⟨rfl,HX.out,bal,by simp⟩
def updV (f:Nat → Value) (k:Nat) (v:Value):Nat → Value:=fun j => if j = k then v else f j
theorem KY {vs vt:Nat → Value} {fv:Value} {q:Int} {k:Nat} (hk:k < 3) (v:Value):(rkC vs vt fv q).set (3 * k) v = rkC (updV vs k v) vt fv q:=by
 obtain rfl | rfl | rfl:k = 0 ∨ k = 1 ∨ k = 2:=by omega
 all_goals rfl
theorem KX {vs vt:Nat → Value} {fv:Value} {q:Int} {k:Nat} (hk:k < 3) (v:Value):(rkC vs vt fv q).set (3 * k + 1) v = rkC vs (updV vt k v) fv q:=by
 obtain rfl | rfl | rfl:k = 0 ∨ k = 1 ∨ k = 2:=by omega
 all_goals rfl
theorem sS {vs vt:Nat → Value} {fv:Value} {q:Int} {k:Nat} (hk:k < 3):(rkC vs vt fv q)[3 * k]? = some (vs k):=by
 obtain rfl | rfl | rfl:k = 0 ∨ k = 1 ∨ k = 2:=by omega
 all_goals rfl
theorem Nr {vs vt:Nat → Value} {fv:Value} {q:Int} {k:Nat} (hk:k < 3):(rkC vs vt fv q)[3 * k + 1]? = some (vt k):=by
 obtain rfl | rfl | rfl:k = 0 ∨ k = 1 ∨ k = 2:=by omega
 all_goals rfl
structure RkAt (w:World) (g:Nat) (r:Rk) (q:Int) (vs vt:Nat → Value) (fv:Value):Prop where
 box:BoxL w g 89 (rkC vs vt fv q)
 names:∀ k,k < 3 → gq w (vs k) (r.seen k)
 files:xG w fv r.files
theorem RkAt.below {w w':World} {g:Nat} {r:Rk} {q:Int} {vs vt:Nat → Value} {fv:Value} (h:RkAt w g r q vs vt fv) (hb:Below w.heap.size w w'):RkAt w' g r q vs vt fv:=⟨h.box.below hb,fun k hk => (h.names k hk).below hb,h.files.below hb⟩
structure RoSt (w0:World) (r:Rk) (q:Int) (vs:Nat → Value) (fv:Value) (w:World):Prop where
 box:BoxL w w0.heap.size 89 (rkC vs (fun _ => .slice none 0 0) fv q)
 names:∀ k,k < 3 → gq w (vs k) (r.seen k)
 own:w.ownsRow (w0.heap.size + 1) 91 2 fv r.files.length (fisF r.files)
 apart:∀ k b,k < 3 → (vs k).ownBlock = some b → w0.heap.size < b ∧ b < w.heap.size ∧ fv.ownBlock ≠ some b
 bel:Below w0.heap.size w0 w
theorem RoSt.below {w0:World} {r:Rk} {q:Int} {vs:Nat → Value} {fv:Value} {w w':World} (h:RoSt w0 r q vs fv w) (hb:Below w.heap.size w w'):RoSt w0 r q vs fv w' :=
 ⟨h.box.below hb,fun k hk => (h.names k hk).below hb,own_below h.own hb,fun k b hk e => ⟨(h.apart k b hk e).1,Nat.lt_of_lt_of_le (h.apart k b hk e).2.1 hb.size,(h.apart k b hk e).2.2⟩,h.bel.trans (hb.mono h.bel.size)⟩
theorem gq.jG {w w':World} {v fv:Value} {l:List Nm} (h:gq w v l) (hg:w.grownBy w' fv.ownBlock) (hne:∀ b,v.ownBlock = some b → fv.ownBlock ≠ some b):gq w' v l:=by
 cases e:fv.ownBlock with
 | none =>
  rw [e] at hg
  exact h.below ⟨hg.os,hg.tape,hg.output,hg.size,fun k hk => hg.block k hk (by simp)⟩
 | some g =>
  rw [e] at hg
  exact aK.offG h hg fun e2 => hne g e2 e
theorem Gr (x:Nm):∀ l:List Nm,putG x false l ≠ []
 | [] => by simp [putG]
 | y :: l => by
  unfold putG
  split
  ·exact Gr x l
  split <;> simp
theorem RoSt.file {w0:World} {r:Rk} {q:Int} {vs:Nat → Value} {fv fv':Value} {w W w':World} {s:ByteArray} (h:RoSt w0 r q vs fv w) (hW:Below w.heap.size w W)
  (ho:w'.ownsRow (w0.heap.size + 1) 91 2 fv' (r.files.length + 1) (fisF r.files ++ fiC s)) (hg:W.grownBy w' fv.ownBlock) (hf:Fr W fv fv'):RoSt w0 ⟨r.seen,r.files ++ [s]⟩ q vs fv' (w'.setCell ⟨w0.heap.size,9,none⟩ fv'):=by
 have h1:=h.below hW
 have hc:Chg (fun k => k = w0.heap.size) w' (w'.setCell ⟨w0.heap.size,9,none⟩ fv'):=⟨rfl,rfl,rfl,by simp [World.setCell],fun k _ hk => Below.heap_setCell _ _ _ _ hk⟩
 have hne:∀ g,fv.ownBlock = some g → w0.heap.size < g:=fun g e => (h.own.lt g e).1
 have hx:BoxL w' w0.heap.size 89 (rkC vs (fun _ => .slice none 0 0) fv q):=h1.box.kept hg (fun e => absurd (hne _ e.symm) (Nat.lt_irrefl _))
 have hap:∀ k b,k < 3 → (vs k).ownBlock = some b → w0.heap.size < b ∧ b < w'.heap.size ∧ fv'.ownBlock ≠ some b:=fun k b hk e => by
  obtain ⟨a1,a2,a3⟩:=h1.apart k b hk e
  refine ⟨a1,Nat.lt_of_lt_of_le a2 hg.size,fun e2 => ?_⟩
  rcases hf with hf | hf
  ·rw [hf] at e2;exact a3 e2
  exact absurd (hf b e2) (by omega)
 refine ⟨hx.put 9 fv',fun k hk => ?_,?_,fun k b hk e => ⟨(hap k b hk e).1,Nat.lt_of_lt_of_le (hap k b hk e).2.1 hc.size,(hap k b hk e).2.2⟩,Chg.below (h1.bel.grown hg h1.bel.size (fun j e => Nat.le_of_lt (hne j e))) hc (Nat.le_trans h1.bel.size hg.size) (fun k e => by omega)⟩
 ·have h2:=(h1.names k hk).jG hg (fun b e => (h1.apart k b hk e).2.2)
  obtain ⟨ao,cap,e,hm,hr⟩:=h2
  refine ⟨ao,cap,e,hm,fun hne2 => ?_⟩
  obtain ⟨b,off,e3,hl,hcell⟩:=hr hne2
  refine ⟨b,off,e3,Nat.lt_of_lt_of_le hl hc.size,fun i hi => ?_⟩
  have hb0:w0.heap.size < b:=(hap k b hk (by rw [e,e3];rfl)).1
  exact dX (hcell i hi) (aI (b:=w0.heap.size) (World.grownBy.refl w' _) fv') (fun e => by have:=Option.some.inj e;omega)
 have el:(r.files ++ [s]).length = r.files.length + 1:=by simp
 show World.ownsRow _ _ _ _ _ (r.files ++ [s]).length (fisF (r.files ++ [s]))
 rw [el,JY]
 refine ⟨ho.1,ho.2.imp id ?_⟩
 rintro ⟨g,cap,cur,e1,e2,e3,e4⟩
 refine ⟨g,cap,cur,e1,e2,?_,e4⟩
 rw [Below.heap_setCell _ _ _ _ (by show g ≠ w0.heap.size;omega)];exact e3
theorem RoSt.name {w0:World} {r:Rk} {q:Int} {vs:Nat → Value} {fv v':Value} {w w':World} {j:Nat} {x:Nm} (h:RoSt w0 r q vs fv w) (hj:j < 3) (hb:Below w.heap.size w w') (hr:gq w' v' (putG x false (r.seen j))) (hf:bB w v') :
  RoSt w0 ⟨fun i => if i = j then putG x false (r.seen j) else r.seen i,r.files⟩ q (updV vs j v') fv (w'.setCell ⟨w0.heap.size,3 * j,none⟩ v'):=by
 have h1:=h.below hb
 have hc:Chg (fun k => k = w0.heap.size) w' (w'.setCell ⟨w0.heap.size,3 * j,none⟩ v'):=⟨rfl,rfl,rfl,by simp [World.setCell],fun k _ hk => Below.heap_setCell _ _ _ _ hk⟩
 have hw0:=h.box.lt
 have hnew:∀ b,v'.ownBlock = some b → w.heap.size ≤ b ∧ b < w'.heap.size:=fun b e => by
  refine ⟨hf b e,?_⟩
  obtain ⟨ao,cap,e2,_,hr2⟩:=hr.open
  obtain ⟨b2,off,e3,hl,_⟩:=hr2 (Gr _ _)
  rw [e2,e3] at e
  have:=Option.some.inj e
  dsimp only at this
  omega
 have hrow:∀ v l,gq w' v l → (∀ b,v.ownBlock = some b → w0.heap.size < b) → gq (w'.setCell ⟨w0.heap.size,3 * j,none⟩ v') v l:=fun v l hv hlt => by
  obtain ⟨ao,cap,e,hm,hr⟩:=hv
  refine ⟨ao,cap,e,hm,fun hne2 => ?_⟩
  obtain ⟨b,off,e3,hl,hcell⟩:=hr hne2
  refine ⟨b,off,e3,Nat.lt_of_lt_of_le hl hc.size,fun i hi => ?_⟩
  have hb0:w0.heap.size < b:=hlt b (by rw [e,e3];rfl)
  exact dX (hcell i hi) (aI (b:=w0.heap.size) (World.grownBy.refl w' _) v') (fun e => by have:=Option.some.inj e;omega)
 refine ⟨by have:=h1.box.put (3 * j) v';rwa [KY hj] at this,fun k hk => ?_,?_,fun k b hk e => ?_,Chg.below h1.bel hc h1.bel.size (fun k e => by omega)⟩
 ·show gq _ (if k = j then v' else vs k) (if k = j then _ else _)
  by_cases e:k = j
  ·rw [if_pos e,if_pos e]
   exact hrow _ _ hr fun b e => by have:=(hnew b e).1;omega
  rw [if_neg e,if_neg e]
  exact hrow _ _ (h1.names k hk) fun b e => (h1.apart k b hk e).1
 ·have ho:=h1.own
  refine ⟨ho.1,ho.2.imp id ?_⟩
  rintro ⟨g,cap,cur,e1,e2,e3,e4⟩
  refine ⟨g,cap,cur,e1,e2,?_,e4⟩
  rw [Below.heap_setCell _ _ _ _ (by show g ≠ w0.heap.size;omega)];exact e3
 change (if k = j then v' else vs k).ownBlock = some b at e
 by_cases e2:k = j
 ·rw [if_pos e2] at e
  obtain ⟨a1,a2⟩:=hnew b e
  refine ⟨by omega,Nat.lt_of_lt_of_le a2 hc.size,fun e3 => ?_⟩
  have:=(h.own.lt b e3).2
  omega
 rw [if_neg e2] at e
 obtain ⟨a1,a2,a3⟩:=h1.apart k b hk e
 exact ⟨a1,Nat.lt_of_lt_of_le a2 hc.size,a3⟩
theorem MI (s:ByteArray) (z:Int) (w:World):(Instr.build 91 #[(0,.string s),(1,.int .i64 z)]).run prog w = .ok (.agg #[.string s,.int .i64 z]) w:=run_build w 91 _ _ (by kernel_rfl)
theorem LG (s:ByteArray) (z:Int) (w:World):(Instr.build 94 #[(0,.string s),(1,.int .i64 z)]).run prog w = .ok (.agg #[.string s,.int .i64 z]) w:=run_build w 94 _ _ (by kernel_rfl)
theorem Rk.OL {r:Rk} {f:Fl} (h:aP f.dir = none):r.put f = r:=by unfold Rk.put;rw [h]
theorem Rk.Nv {r:Rk} {f:Fl} (h:aX f.name = false):r.put f = r:=by
 unfold Rk.put
 cases aP f.dir with
 | none => rfl
 | some k => dsimp only;rw [if_neg (by rw [h];simp)]
theorem Rk.Nu {r:Rk} {f:Fl} {k:Nat} (h:aP f.dir = some k) (h1:aX f.name = true) (h2:f.data.size ≤ 1048576):r.put f = ⟨fun j => if j = k then putG ⟨f.name,r.files.length⟩ false (r.seen k) else r.seen j,r.files ++ [f.data]⟩:=by
 unfold Rk.put
 rw [h]
 dsimp only
 rw [if_pos ⟨h1,h2⟩]
theorem Ey (l:List Fl):(rkOf l).files.length ≤ l.length:=by
 have:∀ (m:List Fl) (r:Rk),(m.foldl Rk.put r).files.length ≤ r.files.length + m.length:=by
  intro m
  induction m with
  | nil => intro r;simp
  | cons f m ih =>
   intro r
   rw [List.foldl_cons,List.length_cons]
   refine Nat.le_trans (ih _) ?_
   have:(r.put f).files.length ≤ r.files.length + 1:=by
    unfold Rk.put
    split
    ·omega
    split
    ·simp
    omega
   omega
 have h:=this l Rk.nil
 simpa [rkOf,Rk.nil] using h
theorem aK.chg {S:Nat → Prop} {w w':World} {v:Value} {sz:Nat} {rows:List (List Value)} (h:aK w v sz rows) (hc:Chg S w w') (hne:∀ b,v.ownBlock = some b → ¬ S b):aK w' v sz rows:=by
 obtain ⟨ao,cap,rfl,hm,h⟩:=h
 refine ⟨ao,cap,rfl,hm,fun hn => ?_⟩
 obtain ⟨b,off,rfl,hl,hcell⟩:=h hn
 refine ⟨b,off,rfl,Nat.lt_of_lt_of_le hl hc.size,fun i hi j v hv => ?_⟩
 rw [World.cell?_of_block (w:=w) (a:=⟨b,off + i * sz + j,none⟩) (hc.block b hl (hne b rfl))]
 exact hcell i hi j v hv
structure SeSt (n:Nat) (wo:World) (r:Rk) (q:Int) (vs:Nat → Value) (fv:Value) (vt:Nat → Value) (w:World):Prop where
 box:BoxL w n 89 (rkC vs vt fv q)
 chg:Chg (fun k => k = n) wo w
theorem SeSt.rk {n:Nat} {w0 wo:World} {r:Rk} {q:Int} {vs vt:Nat → Value} {fv:Value} {w:World} (h:SeSt n wo r q vs fv vt w) (hn:w0.heap.size = n) (hr:RoSt w0 r q vs fv wo):RkAt w n r q vs vt fv:=by
 subst hn
 exact ⟨h.box,fun k hk => aK.chg (hr.names k hk) h.chg (fun b e e2 => by have:=(hr.apart k b hk e).1;omega),aK.chg (xG.aS hr.own) h.chg (fun b e e2 => by have:=(hr.own.lt b e).1;omega)⟩
theorem SeSt.bel {n:Nat} {w0 wo:World} {r:Rk} {q:Int} {vs vt:Nat → Value} {fv:Value} {w:World} (h:SeSt n wo r q vs fv vt w) (hn:w0.heap.size = n) (hr:RoSt w0 r q vs fv wo):Below n w0 w:=by
 subst hn
 exact Chg.below hr.bel h.chg hr.bel.size (fun k e => by omega)
theorem IE (q:Int) (v:Value) (l:List Fl) (w:World) (hv:jX w v l) (ho:FlOk l) (hl:l.length ≤ 1000000) :
  Calls prog 9 #[.int .i64 q,v] w fun e w' => ∃ vs vt fv,e = .returned (.pointer (some ⟨w.heap.size,0,none⟩)) ∧ RkAt w' w.heap.size (rkOf l) q vs vt fv ∧ Below w.heap.size w w':=by
 have hv0:=hv
 obtain ⟨ao,cap,rfl,hmax,hv⟩:=hv.open
 have HV:=ah hv0
 have HO:=ah ho
 have HL:=ah hl
 have HN:=ah (Ev q w)
 have hfb:=MI
 have hnb:=LG
 clear hv hv0 ho hl
 obtain ⟨n,hn⟩:∃ n,w.heap.size = n:=⟨_,rfl⟩
 rw [hn] at HN ⊢
 have HNS:=ah hn
 clear hn
 go_enter func9,ntmps9
 go_wp2_with fail
 refine HN.out.mono ?_
 rintro e w1 ⟨rfl,hbx,hb1,hs1⟩
 have HS1:Hid (RoSt w (rkOf []) q (fun _ => .slice none 0 0) (.slice none 0 0) w1):=ah ⟨by rw [HNS.out];exact hbx,fun k _ => ⟨none,0,rfl,(show 0 ≤ maxLen from Nat.zero_le _),fun h => absurd rfl h⟩,World.ownsRow_nil _ _ _ _,fun k b _ e => (by cases e),by rw [HNS.out];exact hb1⟩
 clear hbx hb1 hs1
 go_upto_region 3 with fail
 go_loopw [6,7] (fun i _ wr => ∃ (k:Nat) (vs:Nat → Value) (fv:Value),k ≤ l.length ∧ i = .int .i64 (k:Int) ∧ Hid (RoSt w (rkOf (l.take k)) q vs fv wr)) (fun i _ _ => (l.length - intOf i).toNat)
 case atStart => exact ⟨0,_,_,by omega,rfl,HS1⟩
 obtain ⟨wo,rfl⟩:∃ wo:World,wo = wr:=⟨_,rfl⟩
 obtain ⟨k,vs,fv,hk,rfl,HS⟩:=hrel
 by_cases hlt:k < l.length
 ·obtain ⟨ao2,cap2,e2,_,hv2⟩:=HV.out.open
  cases e2
  obtain ⟨g,off,rfl,hbl,hcell⟩:=hv2 (by intro e;rw [e] at hlt;simp at hlt)
  have k0:(0:Int) ≤ k:=by omega
  have k1:(k:Int) < l.length:=by omega
  have wk:IntKind.i64.wrap ((k:Int) + 1) = (k:Int) + 1:=IntWalk.i64_in _ (by unfold maxLen at hmax;omega)
  have HR:=ah (hcell k hlt)
  have HO1:=ah (HO.out l[k] (List.getElem_mem hlt))
  have HT:=ah (show rkOf (l.take (k + 1)) = (rkOf (l.take k)).put l[k] by rw [List.take_succ_eq_append_getElem hlt,IQ])
  have HFL:Hid ((rkOf (l.take k)).files.length ≤ k):=ah (by have:=Ey (l.take k);rw [List.length_take] at this;omega)
  have HSL:Hid (∀ j,((rkOf (l.take k)).seen j).length ≤ k):=ah (fun j => by
   have h1:=congrArg List.length ((qL (l.take k)).names j)
   have h2:=iX (l.take k) j
   rw [List.length_map] at h1
   rw [List.length_take] at h2
   omega)
  generalize l[k] = f at HR HO1 HT
  generalize rkOf (l.take k) = r at HS HT HFL HSL
  have HCE:=ah (fun (W:World) (hb:Below w.heap.size w W) => au HR.out hb hbl)
  have hr0:=HCE.out wo HS.out.bel
  have c0:wo.cell? ⟨g,off + k * 3,none⟩ = some (.string f.dir):=hr0 0 _ rfl
  have HWH:=ah (ow f.dir wo)
  unfold whI at HWH
  clear hcell hv2 hr0
  cases hw:aP f.dir with
  | none =>
   rw [hw] at HWH
   dsimp only at HWH
   have HE:Hid (rkOf (l.take (k + 1)) = r):=ah (by rw [HT.out,Rk.OL hw])
   clear hw
   go_wp2_with fail
   refine HWH.out.mono ?_
   rintro e w2 ⟨rfl,hb2⟩
   have HS2:Hid (RoSt w (rkOf (l.take (k + 1))) q vs fv w2):=ah (by rw [HE.out];exact HS.out.below hb2)
   clear hb2
   go_wp2_with fail
   go_roundw
   case rel => exact ⟨k + 1,vs,fv,by omega,by go_num,HS2⟩
   case measure => simp [intOf];omega
  | some j =>
   rw [hw] at HWH
   dsimp only at HWH
   have hj:=(dW hw).1
   have j0:¬ ((j:Int) < 0):=by omega
   have HRF:=ah (fun W => yC f.name W (by have:=HO1.out.2.1;omega))
   cases hfn:aX f.name with
   | false =>
    rw [hfn] at HRF
    have HE:Hid (rkOf (l.take (k + 1)) = r):=ah (by rw [HT.out,Rk.Nv hfn])
    clear hw hfn
    go_wp2_with fail
    refine HWH.out.mono ?_
    rintro e w2 ⟨rfl,hb2⟩
    have HS2:Hid (RoSt w (rkOf (l.take (k + 1))) q vs fv w2):=ah (by rw [HE.out];exact HS.out.below hb2)
    have hr2:=HCE.out w2 HS2.out.bel
    have c1:w2.cell? ⟨g,off + k * 3 + 1,none⟩ = some (.string f.name):=hr2 1 _ rfl
    clear hb2 hr2 c0
    go_wp2_with fail
    refine (HRF.out _).mono ?_
    rintro e w3 ⟨rfl,rfl⟩
    go_wp2_with fail
    go_roundw
    case rel => exact ⟨k + 1,vs,fv,by omega,by go_num,HS2⟩
    case measure => simp [intOf];omega
   | true =>
    rw [hfn] at HRF
    have HE:Hid (rkOf (l.take (k + 1)) = ⟨fun i => if i = j then putG ⟨f.name,r.files.length⟩ false (r.seen j) else r.seen i,r.files ++ [f.data]⟩):=ah (by rw [HT.out,Rk.Nu hw hfn (by have:=HO1.out.2.2;omega)])
    have hds:¬ ((1048576:Int) < (f.data.size:Int)):=by have:=HO1.out.2.2;omega
    clear hw hfn
    go_wp2_with fail
    refine HWH.out.mono ?_
    rintro e w2 ⟨rfl,hb2⟩
    have HS2:=ah (HS.out.below hb2)
    have hr2:=HCE.out w2 HS2.out.bel
    have c1:w2.cell? ⟨g,off + k * 3 + 1,none⟩ = some (.string f.name):=hr2 1 _ rfl
    have c2:w2.cell? ⟨g,off + k * 3 + 2,none⟩ = some (.string f.data):=hr2 2 _ rfl
    clear hb2 hr2 c0
    go_wp2_with fail
    refine (HRF.out _).mono ?_
    rintro e w3 ⟨rfl,rfl⟩
    go_upto_region 7 with fail
    obtain ⟨fo,fc,rfl⟩:=ay HS2.out.own
    obtain ⟨m,hm⟩:∃ m,r.files.length = m:=⟨_,rfl⟩
    have HMM:=ah hm
    have HOW:=ah HS2.out.own
    rw [hm] at HOW HFL
    have hbx:=HS2.out.box
    rw [HNS.out,hm] at hbx
    rw [hm] at HS2
    clear hm
    have HBX:=ah hbx
    have hS0:w3.drew.cell? ⟨n,9,none⟩ = some (.slice fo m fc) ∧ w3.drew.cell? ⟨g,off + k * 3 + 2,none⟩ = some (.string f.data):=⟨hbx.range 9 _ rfl,c2⟩
    clear hbx c2
    refine wrL 21 (fun w' => w'.cell? ⟨n,9,none⟩ = some (.slice fo m fc) ∧ w'.cell? ⟨g,off + k * 3 + 2,none⟩ = some (.string f.data)) ?_
    refine WL.tk 0 hS0 ?_
    refine WL.tk 1 hS0 ?_
    refine WL.tk 2 hS0 ?_
    refine WL.tk 3 hS0 ?_
    refine WL.tk 4 hS0 ?_
    refine WL.tk 5 hS0 ?_
    refine WL.tk 6 hS0 ?_
    refine WL.tk 7 hS0 ?_
    refine WL.tk 8 hS0 ?_
    refine WL.tk 9 hS0 ?_
    refine WL.tk 10 hS0 ?_
    refine WL.tk 11 hS0 ?_
    refine WL.tk 12 hS0 ?_
    refine WL.tk 13 hS0 ?_
    refine WL.tk 14 hS0 ?_
    refine WL.tk 15 hS0 ?_
    refine WL.tk 16 hS0 ?_
    refine WL.on 17 ?_
    go_wp2_with (refine av rfl _ 82 91 rfl (fiC f.data) #[.string ⟨#[]⟩,.int .i64 0] rfl underlying82 (fun w => by kernel_rfl) (fun w => by kernel_rfl) (by simp [fiC]) (by simp [fiC]) ?_)
    have hb9:Below w3.heap.size w3 (w3.drew.alloc (.cells (fiC f.data).toArray 91)):=(Below.refl _ _).drew.alloc (Nat.le_refl _) _
    have hrn:(w3.drew.alloc (.cells (fiC f.data).toArray 91)).rangeAt w3.heap.size 0 (fiC f.data):=(BoxL.new w3.drew 91 (fiC f.data)).range
    obtain ⟨W9,hW9⟩:∃ W,w3.drew.alloc (.cells (fiC f.data).toArray 91) = W:=⟨_,rfl⟩
    rw [hW9] at hb9 hrn ⊢
    have hS9:W9.cell? ⟨n,9,none⟩ = some (.slice fo m fc) ∧ W9.cell? ⟨g,off + k * 3 + 2,none⟩ = some (.string f.data):=⟨(HBX.out.below hb9).range 9 _ rfl,(HCE.out W9 ((HS2.out.below hb9).bel)) 2 _ rfl⟩
    refine ⟨hS9,?_⟩
    have HO9:=ah (own_below HOW.out hb9)
    have HRN:=ah hrn
    have HB9:=ah hb9
    have HS9:=ah (HS2.out.below hb9)
    have hsz9:w.heap.size + 1 ≤ W9.heap.size:=Nat.lt_of_le_of_lt HS2.out.bel.size (Nat.lt_of_lt_of_le (Nat.lt_succ_self _) (by have:=hW9 ▸ (show (w3.drew.alloc (.cells (fiC f.data).toArray 91)).heap.size = w3.heap.size + 1 by simp);omega))
    clear hW9 hb9 hrn hS9
    refine WL.on 18 ?_
    have hmk:m ≤ 10000000:=by have h1:=HFL.out;have h2:=HL.out;omega
    go_wp2_with (refine qJ _ rfl _ _ rfl (w.heap.size + 1) (.slice fo m fc) m (fisF r.files) rfl HO9.out w3.heap.size f.data rfl HRN.out hmk hsz9 ?_)
    intro v10 w10 hown10 hg10 hf10
    have hne10:∀ b,(Value.slice fo m fc).ownBlock = some b → w.heap.size < b:=fun b e => (HO9.out.lt b e).1
    have HNE:=ah hne10
    have hbx10:=(HBX.out.below HB9.out).kept hg10 (fun e => absurd (hne10 n e.symm) (by have:=HNS.out;omega))
    have hS10:w10.cell? ⟨n,9,none⟩ = some (.slice fo m fc) ∧ w10.cell? ⟨g,off + k * 3 + 2,none⟩ = some (.string f.data):=⟨hbx10.range 9 _ rfl,(dX (HCE.out W9 HS9.out.bel) hg10 (fun e => absurd (hne10 g e) (by omega))) 2 _ rfl⟩
    obtain ⟨fo',fc',rfl⟩:=ay hown10
    have HSF:=ah (HS2.out.file HB9.out (by rw [HMM.out];exact hown10) hg10 hf10)
    rw [HNS.out] at HSF
    have k9:w10.frozen? ⟨n,9,none⟩ = false:=by have:=(hbx10.there 9 (by show 9 < 13;omega)).2;rwa [Nat.zero_add] at this
    have k9c:=hS10.1
    refine ⟨hS10,?_⟩
    clear hown10 hg10 hf10 hne10 hbx10
    refine WL.tk 19 hS10 ?_
    refine WL.tk 20 hS10 ?_
    refine WL.la 21 ?_
    clear hS10
    obtain ⟨w11,hw11⟩:∃ W,w10.setCell ⟨n,9,none⟩ (.slice fo' (m + 1) fc') = W:=⟨_,rfl⟩
    rw [hw11] at HSF
    have HW11:=ah hw11
    clear hw11
    go_upto_region 8 with fail
    rw [HW11.out]
    clear k9 k9c
    have hnj:=HSF.out.names j hj
    have hbx11:=HSF.out.box
    rw [HNS.out] at hbx11
    have HPT:=ah (KT (vs j) (r.seen j) ⟨f.name,m⟩ w11.drew (hnj.below (Below.refl _ _).drew) (by have h1:=HSL.out j;have h2:=HL.out;omega))
    have q0:∀ W,Below w11.heap.size w11 W → W.cell? ⟨n,j * 3,none⟩ = some (vs j):=fun W hb => by
     have:=(hbx11.below hb).range (3 * j) _ (sS hj)
     rw [Nat.zero_add,Nat.mul_comm] at this
     exact this
    have hS11:w11.drew.cell? ⟨n,j * 3,none⟩ = some (vs j) ∧ w11.drew.cell? ⟨n,9,none⟩ = some (.slice fo' (m + 1) fc') ∧ w11.drew.cell? ⟨g,off + k * 3 + 1,none⟩ = some (.string f.name) :=
     ⟨q0 _ (Below.refl _ _).drew,(hbx11.below (Below.refl _ _).drew).range 9 _ rfl,(HCE.out w11.drew (HSF.out.below (Below.refl _ _).drew).bel) 1 _ rfl⟩
    have HQ0:=ah q0
    have HB11:=ah hbx11
    have HNJ:=ah hnj
    obtain ⟨ja,jc,hvj,_,_⟩:=hnj.open
    obtain ⟨jl,hjl⟩:∃ jl,(r.seen j).length = jl:=⟨_,rfl⟩
    rw [hjl] at hvj
    rw [hvj] at HPT hS11 HQ0
    have j3:(j:Int) < 3:=by omega
    have wm:IntKind.i64.wrap (m:Int) = (m:Int):=IntWalk.i64_in _ (by have h1:=HFL.out;have h2:=HL.out;omega)
    have hmlt:m < 9223372036854775807:=by have h1:=HFL.out;have h2:=HL.out;omega
    have wm2:IntKind.i64.wrap ((m:Int) + 1 - 1) = (m:Int):=by rw [Int.add_sub_cancel];exact wm
    clear hbx11 q0 hnj hvj hjl c1
    refine wrL 26 (fun w' => w'.cell? ⟨n,j * 3,none⟩ = some (.slice ja jl jc) ∧ w'.cell? ⟨n,9,none⟩ = some (.slice fo' (m + 1) fc') ∧ w'.cell? ⟨g,off + k * 3 + 1,none⟩ = some (.string f.name)) ?_
    refine WL.tk 0 hS11 ?_
    refine WL.tk 1 hS11 ?_
    refine WL.tk 2 hS11 ?_
    refine WL.tk 3 hS11 ?_
    refine WL.tk 4 hS11 ?_
    refine WL.tk 5 hS11 ?_
    refine WL.tk 6 hS11 ?_
    refine WL.tk 7 hS11 ?_
    refine WL.tk 8 hS11 ?_
    refine WL.tk 9 hS11 ?_
    refine WL.tk 10 hS11 ?_
    refine WL.tk 11 hS11 ?_
    refine WL.tk 12 hS11 ?_
    refine WL.tk 13 hS11 ?_
    refine WL.tk 14 hS11 ?_
    refine WL.tk 15 hS11 ?_
    refine WL.tk 16 hS11 ?_
    refine WL.tk 17 hS11 ?_
    refine WL.tk 18 hS11 ?_
    refine WL.tk 19 hS11 ?_
    refine WL.tk 20 hS11 ?_
    refine WL.tk 22 hS11 ?_
    refine WL.tk 23 hS11 ?_
    refine WL.on 21 ?_
    go_wp2_with fail
    refine HPT.out.mono ?_
    rintro e w12 ⟨v',rfl,hrow,hfr,hb12⟩
    have hb12':Below w11.heap.size w11 w12:=(Below.refl _ _).drew.trans hb12
    have hbx12:=HB11.out.below hb12'
    have hS12:w12.cell? ⟨n,j * 3,none⟩ = some (.slice ja jl jc) ∧ w12.cell? ⟨n,9,none⟩ = some (.slice fo' (m + 1) fc') ∧ w12.cell? ⟨g,off + k * 3 + 1,none⟩ = some (.string f.name) :=
     ⟨HQ0.out w12 hb12',hbx12.range 9 _ rfl,(HCE.out w12 (HSF.out.below hb12').bel) 1 _ rfl⟩
    have HEND:=ah (HSF.out.name hj hb12' hrow hfr)
    have kf:w12.frozen? ⟨n,j * 3,none⟩ = false:=by have:=(hbx12.there (j * 3) (by show j * 3 < 13;omega)).2;rwa [Nat.zero_add] at this
    have kc:=hS12.1
    obtain ⟨va,vc,hvq,_,_⟩:=hrow.open
    obtain ⟨vl,hvl⟩:∃ vl,(putG ⟨f.name,m⟩ false (r.seen j)).length = vl:=⟨_,rfl⟩
    rw [hvl] at hvq
    subst hvq
    rw [HNS.out,Nat.mul_comm] at HEND
    clear hrow hfr hb12 hb12' hbx12 hvl
    go_wp2_with fail
    refine ⟨hS12,?_⟩
    refine WL.tk 24 hS12 ?_
    refine WL.tk 25 hS12 ?_
    refine WL.la 26 ?_
    clear hS12
    have HEND2:Hid (RoSt w (rkOf (l.take (k + 1))) q (updV vs j (.slice va vl vc)) (.slice fo' (m + 1) fc') (w12.setCell ⟨n,j * 3,none⟩ (.slice va vl vc))):=ah (by rw [HE.out,HMM.out];exact HEND.out)
    go_wp2_with fail
    go_roundw
    case rel => exact ⟨k + 1,_,_,by omega,by go_num,HEND2⟩
    case measure => simp [intOf];omega
 obtain rfl:k = l.length:=by omega
 rw [List.take_length] at HS
 have hbx:=HS.out.box
 rw [HNS.out] at hbx
 have HV2:=ah (fun i (hi:i < 3) => (HS.out.names i hi).open)
 have HLP:Hid (SeSt n wo (rkOf l) q vs fv (fun _ => .slice none 0 0) wo):=ah ⟨hbx,Chg.refl _ _⟩
 clear hbx
 go_upto_region 10 with fail
 go_loopw [8] (fun i wr => ∃ (k:Nat) (vt:Nat → Value),k ≤ 3 ∧ i = .int .i64 (k:Int) ∧ Hid (SeSt n wo (rkOf l) q vs fv vt wr)) (fun i _ => (3 - intOf i).toNat)
 case atStart => exact ⟨0,_,by omega,rfl,HLP⟩
 obtain ⟨wl,rfl⟩:∃ wl:World,wl = wr:=⟨_,rfl⟩
 obtain ⟨k,vt,hk3,rfl,HT⟩:=hrel
 by_cases hlt3:k < 3
 ·obtain ⟨ja,jc,hvj,_,_⟩:=HV2.out k hlt3
  obtain ⟨jl,hjl⟩:∃ jl,((rkOf l).seen k).length = jl:=⟨_,rfl⟩
  rw [hjl] at hvj
  have hbx:=HT.out.box
  have q0:wl.drew.cell? ⟨n,k * 3,none⟩ = some (.slice ja jl jc):=by
   have:=(hbx.below (Below.refl _ _).drew).range (3 * k) _ (sS hlt3)
   rw [Nat.zero_add,Nat.mul_comm,hvj] at this
   exact this
  have kc:wl.drew.cell? ⟨n,k * 3 + 1,none⟩ = some (vt k):=by
   have:=(hbx.below (Below.refl _ _).drew).range (3 * k + 1) _ (Nr hlt3)
   rw [Nat.zero_add,Nat.mul_comm] at this
   exact this
  have kf:wl.drew.frozen? ⟨n,k * 3 + 1,none⟩ = false:=by have:=((hbx.below (Below.refl _ _).drew).there (k * 3 + 1) (by show k * 3 + 1 < 13;omega)).2;rwa [Nat.zero_add] at this
  have HEND:Hid (SeSt n wo (rkOf l) q vs fv (updV vt k (.slice ja jl jc)) (wl.drew.setCell ⟨n,k * 3 + 1,none⟩ (.slice ja jl jc))):=ah (by
   refine ⟨?_,(HT.out.chg.trans (Chg.of_below (Below.refl _ _).drew)).trans ⟨rfl,rfl,rfl,by simp [World.setCell],fun i _ hi => Below.heap_setCell _ _ _ _ hi⟩⟩
   have:=(hbx.below (Below.refl _ _).drew).put (3 * k + 1) (.slice ja jl jc)
   rw [KX hlt3,Nat.mul_comm] at this
   exact this)
  have k0:(0:Int) ≤ k:=by omega
  have k3:(k:Int) < 3:=by omega
  have wk3:IntKind.i64.wrap ((k:Int) + 1) = (k:Int) + 1:=by rw [IntKind.wrap_i64];omega
  have hS0:wl.drew.cell? ⟨n,k * 3,none⟩ = some (.slice ja jl jc) ∧ wl.drew.cell? ⟨n,k * 3 + 1,none⟩ = some (vt k) ∧ wl.drew.frozen? ⟨n,k * 3 + 1,none⟩ = false:=⟨q0,kc,kf⟩
  clear hbx q0 kc kf hvj hjl
  go_upto_region 12 with fail
  refine wrL 13 (fun w' => w'.cell? ⟨n,k * 3,none⟩ = some (.slice ja jl jc) ∧ w'.cell? ⟨n,k * 3 + 1,none⟩ = some (vt k) ∧ w'.frozen? ⟨n,k * 3 + 1,none⟩ = false) ?_
  refine WL.tk 0 hS0 ?_
  refine WL.tk 1 hS0 ?_
  refine WL.tk 2 hS0 ?_
  refine WL.tk 3 hS0 ?_
  refine WL.tk 4 hS0 ?_
  refine WL.tk 5 hS0 ?_
  refine WL.tk 6 hS0 ?_
  refine WL.tk 7 hS0 ?_
  refine WL.tk 8 hS0 ?_
  refine WL.tk 9 hS0 ?_
  refine WL.tk 10 hS0 ?_
  refine WL.tk 11 hS0 ?_
  refine WL.tk 12 hS0 ?_
  refine WL.la 13 ?_
  obtain ⟨_,kc,kf⟩:=hS0
  go_wp2_with fail
  go_roundw
  case rel => exact ⟨k + 1,_,by omega,by go_num,HEND⟩
  case measure => simp [intOf];omega
 obtain rfl:k = 3:=by omega
 go_wp2_with fail
 go_ret
 exact ⟨vs,vt,fv,rfl,HT.out.rk HNS.out HS.out,HT.out.bel HNS.out HS.out⟩
def RdAt (w:World) (g:Nat) (l:List Fl):Prop:=∃ q vs vt fv,RkAt w g (rkOf l) q vs vt fv
theorem RdAt.below {w w':World} {g:Nat} {l:List Fl} (h:RdAt w g l) (hb:Below w.heap.size w w'):RdAt w' g l:=by
 obtain ⟨q,vs,vt,fv,h⟩:=h
 exact ⟨q,vs,vt,fv,h.below hb⟩
theorem rO (g:Nat) (l:List Fl) (x nm:ByteArray) (w:World) (h:RdAt w g l) (hn:nm.size ≤ 1000000):Calls prog 44 #[.pointer (some ⟨g,0,none⟩),.string x,.string nm] w (lN (datF l) x nm w):=by
 obtain ⟨q,vs,vt,fv,hr⟩:=h
 have HR:=ah hr
 have HW:=ah (ow x w)
 unfold whI at HW
 have hfit:=qL l
 clear hr
 cases hw:aP x with
 | none =>
  rw [hw] at HW
  dsimp only at HW
  have HE:Hid (rdD (datF l) x nm = (⟨#[]⟩,1)):=ah (by unfold rdD;rw [hw];split <;> simp_all)
  clear hw hfit
  go_enter func44,ntmps44
  go_wp2_with fail
  refine HW.out.mono ?_
  rintro e w1 ⟨rfl,hb1⟩
  go_wp2_with fail
  go_ret2
  exact iN HE.out hb1
 | some j =>
  rw [hw] at HW
  dsimp only at HW
  have hj:=(dW hw).1
  have j0:¬ ((j:Int) < 0):=by omega
  have j00:(0:Int) ≤ j:=by omega
  have j3:(j:Int) < 3:=by omega
  have HRF:=ah (fun W => yC nm W (by omega))
  cases hfn:aX nm with
  | false =>
   rw [hfn] at HRF
   have HE:Hid (rdD (datF l) x nm = (⟨#[]⟩,1)):=ah (by unfold rdD;rw [hfn];rfl)
   clear hw hfn hfit
   go_enter func44,ntmps44
   go_wp2_with fail
   refine HW.out.mono ?_
   rintro e w1 ⟨rfl,hb1⟩
   go_wp2_with fail
   refine (HRF.out _).mono ?_
   rintro e w2 ⟨rfl,rfl⟩
   go_wp2_with fail
   go_ret2
   exact iN HE.out hb1
  | true =>
   rw [hfn] at HRF
   have HRD:Hid (rdD (datF l) x nm = match datF l j nm with
    | none => (⟨#[]⟩,6)
    | some s => (s,0)):=ah (by unfold rdD;rw [hfn,if_pos rfl,hw];rfl)
   have hdat:=hfit.dat j nm
   unfold Rk.dat at hdat
   have HFT:=ah hfit
   clear hw hfn hfit
   go_enter func44,ntmps44
   go_wp2_with fail
   refine HW.out.mono ?_
   rintro e w1 ⟨rfl,hb1⟩
   have hr1:=HR.out.below hb1
   have c12:w1.cell? ⟨g,12,none⟩ = some (.bool false):=hr1.box.range 12 _ rfl
   have c9:w1.cell? ⟨g,9,none⟩ = some fv:=hr1.box.range 9 _ rfl
   have cj:w1.cell? ⟨g,j * 3,none⟩ = some (vs j):=by
    have:=hr1.box.range (3 * j) _ (sS hj)
    rw [Nat.zero_add,Nat.mul_comm] at this
    exact this
   have HFI:=ah (Ce (vs j) ((rkOf l).seen j) nm w1 (hr1.names j hj))
   obtain ⟨ja,jc,hvj,_,_⟩:=(hr1.names j hj).open
   obtain ⟨jl,hjl⟩:∃ jl,((rkOf l).seen j).length = jl:=⟨_,rfl⟩
   rw [hjl] at hvj
   rw [hvj] at cj HFI
   have HB1:=ah hb1
   obtain ⟨fa,fc,hfv,hfm,hfr⟩:=hr1.files
   rw [List.length_map] at hfv hfm
   rw [hfv] at c9
   have HFR:=ah hfr
   have HFM:=ah hfm
   clear hvj hjl hb1 hr1 hfr hfm
   cases hnf:bZ ((rkOf l).seen j) nm with
   | none =>
    rw [hnf] at HFI hdat
    have HE:Hid (rdD (datF l) x nm = (⟨#[]⟩,6)):=ah (by rw [HRD.out,← hdat];rfl)
    dsimp only [fnI] at HFI
    clear hnf hdat
    go_wp2_with fail
    refine (HRF.out _).mono ?_
    rintro e w2 ⟨rfl,rfl⟩
    go_wp2_with fail
    refine HFI.out.mono ?_
    rintro e w2 ⟨rfl,rfl⟩
    go_wp2_with fail
    go_ret2
    exact iN HE.out HB1.out
   | some n =>
    rw [hnf] at HFI hdat
    dsimp only [fnI] at HFI
    obtain ⟨y,hy,hyn⟩:=oH hnf
    have hlt:=HFT.out.low j y hy
    rw [hyn] at hlt
    have n0:(0:Int) ≤ n:=by omega
    have n00:¬ ((n:Int) < 0):=by omega
    have hE:rdD (datF l) x nm = ((rkOf l).files[n],0):=by
     rw [HRD.out,← hdat]
     show (match (rkOf l).files[n]? with
      | none => _
      | some s => _) = _
     rw [List.getElem?_eq_getElem hlt]
    have HE:=ah hE
    obtain ⟨b,off,rfl,hbl,hcell⟩:=HFR.out (by intro e;have:=congrArg List.length e;rw [List.length_map,List.length_nil] at this;omega)
    have hc:=hcell n (by rw [List.length_map];exact hlt)
    rw [List.getElem_map] at hc
    have cf:w1.cell? ⟨b,off + n * 2,none⟩ = some (.string (rkOf l).files[n]):=hc 0 _ rfl
    have hnl:(n:Int) < ((rkOf l).files.length:Int):=by omega
    generalize (rkOf l).files[n] = s at cf HE hE
    generalize (rkOf l).files.length = fl at c9 hnl HFM
    clear hnf hdat hcell hc hE hy hyn hlt hbl
    go_wp2_with fail
    refine (HRF.out _).mono ?_
    rintro e w2 ⟨rfl,rfl⟩
    go_wp2_with fail
    refine HFI.out.mono ?_
    rintro e w2 ⟨rfl,rfl⟩
    go_wp2_with fail
    go_ret2
    exact iN HE.out HB1.out
theorem qG {ops:Array Oper} {rest:List Oper} {o:Oper} {a:Act} {Q:Exit → Act → World → Prop} (w:World) (hg:o.guard = none) (s x:Operand) (hop:o.op = Op.call { callee:=Callee.builtin Builtin.append,args:=#[s,x],argTypes:=#[105,105] })
  (base:Nat) (v:Value) (n:Nat) (xs:List Value) (hs:a.eval s = v) (hown:w.ownsRow base 9 1 v n xs) (b:Nat) (p:ByteArray) (hx:a.eval x = .slice (some ⟨b,0,none⟩) 1 1) (hr:w.cell? ⟨b,0,none⟩ = some (.string p)) (hn:n ≤ 10000000) (hbase:base ≤ w.heap.size)
  (hK:∀ v' w',w'.ownsRow base 9 1 v' (n + 1) (xs ++ [.string p]) → w.grownBy w' v.ownBlock → Fr w v v' → wpList prog ops Q rest (a.put o.dst v') w'):wpList prog ops Q (o :: rest) a w:=by
 obtain ⟨i0,hi,hz0,hz1,hz2⟩:∃ i0:TypeInfo,prog.info? 9 = some i0 ∧ i0.zero = some (.string ⟨#[]⟩) ∧ i0.size = 1 ∧ i0.bytes = 16:=⟨_,rfl,by kernel_rfl,by kernel_rfl,by kernel_rfl⟩
 refine aR w hg s x 105 hop base 9 i0 _ 1 16 underlying105 hi hz0 hz1 hz2 rfl (by decide) v n xs hs hown ⟨b,0,none⟩ 1 1 [.string p] hx rfl (fun j u hu => ?_) (fun u hu => ?_) (by unfold maxLen;omega) (by omega) hbase hK
 ·cases j with
  | zero =>
   simp at hu
   subst hu
   rw [Addr.add_mid]
   exact hr
  | succ j => simp at hu
 simp at hu
 rw [hu];rfl
def nsV (l:List Nm):List Value:=(l.map Nm.s).map Value.string
theorem rR (g:Nat) (l:List Fl) (x:ByteArray) (j:Nat) (w:World) (h:RdAt w g l) (hj:aP x = some j) (hl:l.length ≤ 1000000):Calls prog 41 #[.pointer (some ⟨g,0,none⟩),.string x] w fun e w' => ∃ v,e = .returned v ∧ bT w' v (namF l j) ∧ Below w.heap.size w w':=by
 obtain ⟨q,vs,vt,fv,hr⟩:=h
 have HR:=ah hr
 have HW:=ah (ow x w)
 unfold whI at HW
 rw [hj] at HW
 dsimp only at HW
 have hj3:=(dW hj).1
 have j0:¬ ((j:Int) < 0):=by omega
 have j00:(0:Int) ≤ j:=by omega
 have j3:(j:Int) < 3:=by omega
 have hnames:=(qL l).names j
 have hlen:((rkOf l).seen j).length ≤ l.length:=by
  have h1:=congrArg List.length hnames
  have h2:=iX l j
  rw [List.length_map] at h1
  omega
 have HNM:=ah hnames
 have HLN:Hid (((rkOf l).seen j).length ≤ 1000000):=ah (by omega)
 clear hr hj hnames hlen hl
 go_enter func41,ntmps41
 go_wp2_with fail
 refine HW.out.mono ?_
 rintro e w1 ⟨rfl,hb1⟩
 have HR1:=ah (HR.out.below hb1)
 have HB1:=ah hb1
 have c12:w1.cell? ⟨g,12,none⟩ = some (.bool false):=HR1.out.box.range 12 _ rfl
 generalize hsn:(rkOf l).seen j = sn at HNM HLN
 have HNR:Hid (gq w1 (vs j) sn):=ah (by rw [← hsn];exact HR1.out.names j hj3)
 have HCJ:Hid (∀ W,Below w1.heap.size w1 W → W.cell? ⟨g,j * 3,none⟩ = some (vs j)):=ah (fun W hb => by
  have:=(HR1.out.box.below hb).range (3 * j) _ (sS hj3)
  rw [Nat.zero_add,Nat.mul_comm] at this
  exact this)
 obtain ⟨ja,jc,hvj,hmx,_⟩:=HNR.out.open
 rw [hvj] at HCJ HNR
 have hmx2:=hmx
 clear hvj hsn hb1 HR1
 go_wp2_with fail
 go_loopw [6,7] (fun ov i wr => ∃ k:Nat,k ≤ sn.length ∧ i = .int .i64 (k:Int) ∧ Hid (wr.ownsRow w1.heap.size 9 1 ov k (nsV (sn.take k))) ∧ Hid (Below w1.heap.size w1 wr)) (fun _ i _ => (sn.length - intOf i).toNat)
 case atStart => exact ⟨0,by omega,rfl,World.ownsRow_nil _ _ _ _,Below.refl _ _⟩
 obtain ⟨wo,rfl⟩:∃ wo:World,wo = wr:=⟨_,rfl⟩
 obtain ⟨k,hk,rfl,HOW,HBK⟩:=hrel
 obtain ⟨oa,oc,rfl⟩:=ay HOW.out
 have cj:=HCJ.out wo HBK.out
 by_cases hlt:k < sn.length
 ·obtain ⟨ao2,cap2,e2,_,hv2⟩:=(HNR.out.below HBK.out).open
  cases e2
  obtain ⟨b,off,rfl,hbl,hcell⟩:=hv2 (by intro e;rw [e] at hlt;simp at hlt)
  have r0:=hcell k hlt
  have c0:wo.cell? ⟨b,off + k * 2,none⟩ = some (.string sn[k].s):=r0 0 _ rfl
  have k0:(0:Int) ≤ k:=by omega
  have k1:(k:Int) < sn.length:=by omega
  have wk:IntKind.i64.wrap ((k:Int) + 1) = (k:Int) + 1:=IntWalk.i64_in _ (by unfold maxLen at hmx2;omega)
  have HT:Hid (nsV (sn.take (k + 1)) = nsV (sn.take k) ++ [.string sn[k].s]):=ah (by rw [List.take_succ_eq_append_getElem hlt];unfold nsV;rw [List.map_append,List.map_append];rfl)
  generalize sn[k].s = sk at c0 HT
  have hb9:Below wo.heap.size wo (wo.alloc (.cells #[.string sk] 9)):=bal
  have hcg:(wo.alloc (.cells #[.string sk] 9)).cell? ⟨wo.heap.size,0,none⟩ = some (.string sk):=by rw [World.cell?_alloc_new];rfl
  obtain ⟨W9,hW9⟩:∃ W,wo.alloc (.cells #[.string sk] 9) = W:=⟨_,rfl⟩
  rw [hW9] at hb9 hcg
  have HO9:=ah (own_below HOW.out hb9)
  have HB9:=bth HBK hb9
  have HCG:=ah hcg
  have HW9:=ah hW9
  have hkm:k ≤ 10000000:=by have:=HLN.out;omega
  clear hW9 hb9 hcg hcell hv2 r0
  go_wp2_with (rw [HW9.out];refine qG _ rfl _ _ rfl w1.heap.size (.slice oa k oc) k _ rfl HO9.out wo.heap.size sk rfl HCG.out hkm HB9.out.size ?_)
  intro v10 w10 hown10 hg10 _
  have HO10:Hid (w10.ownsRow w1.heap.size 9 1 v10 (k + 1) (nsV (sn.take (k + 1)))):=ah (by rw [HT.out];exact hown10)
  have HB10:=ah (HB9.out.grown hg10 HB9.out.size (fun b e => (HO9.out.lt b e).1))
  obtain ⟨oa2,oc2,rfl⟩:=ay hown10
  clear hown10 hg10
  go_wp2_with fail
  go_roundw
  case rel => exact ⟨k + 1,by omega,by go_num,HO10,HB10⟩
  case measure => simp [intOf];omega
 obtain rfl:k = sn.length:=by omega
 rw [List.take_length] at HOW
 unfold nsV at HOW
 rw [HNM.out] at HOW
 have HEL:Hid (sn.length = (namF l j).length):=ah (by rw [← HNM.out,List.length_map])
 go_wp2_with fail
 go_ret
 refine ⟨_,rfl,?_,HB1.out.trans (HBK.out.mono HB1.out.size)⟩
 have ho:=HOW.out
 rw [HEL.out] at ho
 rw [HEL.out]
 exact bT.aS ho
end
end Go.Proofs.YtijhemdnajlfnaaGreatDoor
