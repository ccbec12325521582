/- A part of this claim. -/
import Derived.Test.YtejamhkgjkhjdaaGreatDoorXn17
import Derived.Test.YtejamhkgjkhjdaaGreatDoorXn19
import Derived.Test.YtejamhkgjkhjdaaGreatDoorXn21
namespace Go.Proofs.YtejamhkgjkhjdaaGreatDoor
open Tryz
set_option maxHeartbeats 64000000
set_option maxRecDepth 100000
section
open Go.RowKit Go.Maps
theorem ow {H:Type} {P:Program} {k:TypeId} {R:Value→Option (DataW H×List MemPlace)} {w:World} {b n:Nat} {D:DataW H} {t e:TypeId} (h:w.ownsMap P k R b n D) (K:Keyed P k) (m:P.underlying t=some (.map k e)) (p:n<maxLen) {key val:Value} {l:Lit} {d:DataW H} {ps:List MemPlace}
  (f:keyOf P k key=some l) (o:R val=some (d,ps)):∃w',(Instr.mapUpdate t (.map (some b)) key val).run P w= .ok () w'∧w'.ownsMap P k R b (n+1) (D.put l d)∧w.grownBy w' (some b)∧w'.heap.size=w.heap.size:=by
 obtain ⟨w',g,h1,r⟩:=h.update K m p f o
 refine ⟨w',g,h1,r,?_⟩
 obtain ⟨es,j,hb,F,q,rfl⟩:=h
 obtain ⟨s,i,a,_⟩:=Maps.fit_store (R':=R) K m hb F (Nat.lt_of_le_of_lt q p) (fun _ _ _ _ u=>u) f o
 rw [g] at a
 injection a with _ e
 rw [e];simp [Go.ChangeMaps.setBlock]
theorem fQ {α:Type} {enc:α→Value} {w:World} {ops:Array Oper} {rest:List Oper} {o:Oper} {a:Act} {Q:Exit→Act→World→Prop} (z:o.guard=none) (m x v:Operand) (t e:TypeId) (j:o.op=Op.mapUpdate t m x v)
  (u:prog.underlying t=some (.map 9 e)) (b n:Nat) (f:ByteArray→Option α) (hm:a.eval m= .map (some b)) (g:aP enc w b n f) (p:ByteArray) (k:p.size≤maxLen) (c:α) (hx:a.eval x= .string p) (y:a.eval v=enc c) (A:n<maxLen)
  (B:∀w',aP enc w' b (n+1) (fun q=>if q=p then some c else f q)→w.grownBy w' (some b)→w'.heap.size=w.heap.size→wpList prog ops Q rest (a.put o.dst undef) w'):wpList prog ops Q (o::rest) a w:=by
 obtain ⟨D,g,C⟩:=g
 refine wpList_plain z fun E i=> ?_
 obtain ⟨w',h,s,r,l⟩:=ow g bZ u A (key:=.string p) (val:=enc c) (d:=.held (enc c)) (ps:=[]) (gK k) rfl
 unfold Oper.wp
 simp [execOp,j,hm,hx,y,h,Result.andThen]
 exact i _ _ (B w' ⟨_,s,pK C g.isMap p k c⟩ r l)
structure Eo (n k:Nat) (w0 w:World):Prop where
 size:w.heap.size = n + 2 + 3 * k
 map:aP aT w n k fun x => match aW x with
  | some j => if j < k then some (n + 4 + 3 * j) else none
  | none => none
 dirs:∀ j,j < k → ak w (n + 4 + 3 * j) 56 [.map (some (n + 2 + 3 * j)),.map (some (n + 3 + 3 * j)),.slice none 0 0]
 seen:∀ j,j < k → aP aT w (n + 2 + 3 * j) 0 (fun _ => none) ∧ aP aT w (n + 3 + 3 * j) 0 (fun _ => none)
 bel:Below n w0 w
theorem Kj (m:Nat) (q:Int) (w:World):(Instr.build 49 #[(0,.map (some m)),(1,.int .i64 q)]).run prog w= .ok (.agg #[.map (some m),.int .i64 q,.int .i64 0,.bool false,.bool false]) w:=run_build w 49 _ _ (by kernel_rfl)
theorem H8 (m a:Nat) (w:World):(Instr.build 56 #[(0,.map (some m)),(1,.map (some a))]).run prog w= .ok (.agg #[.map (some m),.map (some a),.slice none 0 0]) w:=run_build w 56 _ _ (by kernel_rfl)
def aU (k:Nat):ByteArray:=if k=0 then bI else if k=1 then iZ else iR
theorem bO {x:ByteArray} {j:Nat} (h:aW x=some j):j<3∧x=aU j:=by
 unfold aW at h
 split at h
 ·cases h;rename_i e;exact ⟨by decide,e⟩
 split at h
 ·cases h;rename_i e;exact ⟨by decide,e⟩
 split at h
 ·cases h;rename_i e;exact ⟨by decide,e⟩
 cases h
theorem eO:∀ {k:Nat},k<3→aW (aU k)=some k:=by
 intro k a
 obtain rfl|rfl|rfl:k=0∨k=1∨k=2:=by omega
 all_goals decide
theorem Eo.next {n k:Nat} {w0 w w':World} (h:Eo n k w0 w) (o:k<3)
  (hm:aP aT w' n (k+1) fun q=>if q=aU k then some (n+4+3*k) else (match aW q with
   | some j=>if j<k then some (n+4+3*j) else none
   | none=>none))
  (a:(((w.alloc (.map #[] 0)).alloc (.map #[] 0)).alloc (.cells #[.map (some w.heap.size),.map (some (w.heap.size+1)),.slice none 0 0] 56)).grownBy w' (some n))
  (v:w'.heap.size=w.heap.size+3) (hb:Below n w0 w'):Eo n (k+1) w0 w':=by
 have b:=h.size
 have s:Below w.heap.size w (w.alloc (.map #[] 0)):=bal
 have l:Below w.heap.size w ((w.alloc (.map #[] 0)).alloc (.map #[] 0)):=s.alloc (by simp) _
 have g:Below w.heap.size w (((w.alloc (.map #[] 0)).alloc (.map #[] 0)).alloc (.cells #[.map (some w.heap.size),.map (some (w.heap.size+1)),.slice none 0 0] 56)):=l.alloc (by rw [World.size_alloc,World.size_alloc];omega) _
 have u:aP aT (((w.alloc (.map #[] 0)).alloc (.map #[] 0)).alloc (.cells #[.map (some w.heap.size),.map (some (w.heap.size+1)),.slice none 0 0] 56)) w.heap.size 0 (fun _=>none) :=
  ((lU w).on bal).on bal
 have m:aP aT (((w.alloc (.map #[] 0)).alloc (.map #[] 0)).alloc (.cells #[.map (some w.heap.size),.map (some (w.heap.size+1)),.slice none 0 0] 56)) (w.heap.size+1) 0 (fun _=>none):=by
  have:=(lU (enc:=aT) (w.alloc (.map #[] 0)))
  rw [World.size_alloc] at this
  exact this.on bal
 have x3:ak (((w.alloc (.map #[] 0)).alloc (.map #[] 0)).alloc (.cells #[.map (some w.heap.size),.map (some (w.heap.size+1)),.slice none 0 0] 56)) (w.heap.size+2) 56 [.map (some w.heap.size),.map (some (w.heap.size+1)),.slice none 0 0]:=by
  have:=ak.new ((w.alloc (.map #[] 0)).alloc (.map #[] 0)) 56 [.map (some w.heap.size),.map (some (w.heap.size+1)),.slice none 0 0]
  rw [World.size_alloc,World.size_alloc] at this
  exact this
 refine ⟨by omega,hm.ext fun x _=> ?_,fun j f=> ?_,fun j f=> ?_,hb⟩
 ·by_cases e:x=aU k
  ·rw [if_pos e,e,eO o]
   dsimp only
   rw [if_pos (Nat.lt_succ_self k)]
  rw [if_neg e]
  cases r:aW x with
  | none=>rfl
  | some j =>
   have f:=bO r
   have:j≠k:=fun h=>e (by rw [←h];exact f.2)
   dsimp only
   by_cases d:j<k
   ·rw [if_pos d,if_pos (by omega)]
   rw [if_neg d,if_neg (by omega)]
 ·by_cases e:j=k
  ·subst e
   have:=x3.kept a (by simp;omega)
   rw [b] at this
   have t:n+2+3*j+2=n+4+3*j:=by omega
   have i:n+2+3*j+1=n+3+3*j:=by omega
   rwa [t,i] at this
  exact ((h.dirs j (by omega)).below g).kept a (by simp;omega)
 by_cases e:j=k
 ·subst e
  have a1:=u.grown a (by simp;omega)
  have a2:=m.grown a (by simp;omega)
  rw [b] at a1 a2
  have i:n+2+3*j+1=n+3+3*j:=by omega
  rw [i] at a2
  exact ⟨a1,a2⟩
 obtain ⟨h1,p⟩:=h.seen j (by omega)
 exact ⟨(h1.on g).grown a (by simp;omega),(p.on g).grown a (by simp;omega)⟩
theorem Ki (q:Int) (w:World) (S:cu w):Calls prog 16 #[.int .i64 q] w fun e w'=>e= .returned (.pointer (some ⟨w.heap.size+1,0,none⟩))∧Eo w.heap.size 3 w w'∧ak w' (w.heap.size+1) 49 [.map (some w.heap.size),.int .i64 q,.int .i64 0,.bool false,.bool false]:=by
 have X:=Kj
 have T:=@run_makeMap prog
 have U:=H8
 obtain ⟨W,o⟩:∃W,(w.alloc (.map #[] 0)).alloc (.cells #[.map (some w.heap.size),.int .i64 q,.int .i64 0,.bool false,.bool false] 49)=W:=⟨_,rfl⟩
 have l:Below w.heap.size w W:=by rw [←o];exact bal.alloc (by simp) _
 have C:Hid (ak W (w.heap.size+1) 49 [.map (some w.heap.size),.int .i64 q,.int .i64 0,.bool false,.bool false]):=ah (by
  rw [←o]
  have:=ak.new (w.alloc (.map #[] 0)) 49 [.map (some w.heap.size),.int .i64 q,.int .i64 0,.bool false,.bool false]
  rwa [World.size_alloc] at this)
 have A:Hid (Eo w.heap.size 0 w W):=ah ⟨by rw [←o];simp,by
  have h:=((lU (enc:=aT) w).on (w':=W) (by rw [←o];exact bal))
  exact h.ext fun x _=>by cases aW x with
   | none=>rfl
   | some j=>dsimp only;rw [if_neg (by omega)],fun j s=>absurd s (by omega),fun j s=>absurd s (by omega),l⟩
 have z:=ah (S.below l).ord
 have E:(prog.info? 83).map (·.size)=some ([.string bI,.string iZ,.string iR]:List Value).length:=by kernel_rfl
 have Q:=ah o
 have y:=z.out
 clear o l S
 obtain ⟨n,I⟩:∃n,w.heap.size=n:=⟨_,rfl⟩
 rw [I] at A C ⊢
 have D:=ah I
 clear I
 go_enter func16,ntmps16
 go_upto_region 2 with fail
 rw [Q.out]
 go_wp2_with (refine wpList_load_mid rfl 83 _ rfl 0 0 rfl _ _ y underlying83 rfl E ?_)
 have J:Hid (∀(k:Nat) (h:k<3) (W:World),(Instr.index 83 (.agg #[.string bI,.string iZ,.string iR]) (.int .i64 (k:Int))).run prog W= .ok (.string (aU k)) W):=ah (fun k h W=>by
  obtain rfl|rfl|rfl:k=0∨k=1∨k=2:=by omega
  all_goals kernel_rfl)
 clear y E
 rw [D.out]
 clear D Q z
 go_loopw [5,11] (fun _ i wr=> ∃k:Nat,i= .int .i64 (k:Int)∧k≤3∧Hid (Eo n k w wr)∧Hid (ak wr (n+1) 49 [.map (some n),.int .i64 q,.int .i64 0,.bool false,.bool false])) (fun _ i _=>(3-intOf i).toNat)
 case atStart=>exact ⟨0,rfl,by omega,A,C⟩
 obtain ⟨a,rfl⟩:∃a:World,a=wr:=⟨_,rfl⟩
 obtain ⟨k,rfl,Y,HS,M⟩:=hrel
 by_cases v:k<3
 ·have Z:(k:Int)<3:=by omega
  have K:=J.out k v
  have wi:IntKind.i64.wrap ((k:Int)+1)=(k:Int)+1:=by rw [IntKind.wrap_i64];omega
  have c0:a.cell? ⟨n+1,0,none⟩=some (.map (some n)):=M.out.range 0 _ rfl
  have r:=HS.out.size
  generalize m:aU k=dn at K
  have F:dn.size≤maxLen:=by
   rw [←m]
   unfold aU maxLen
   obtain rfl|rfl|rfl:k=0∨k=1∨k=2:=by omega
   all_goals decide
  have N:=ah m
  obtain ⟨O,b⟩:∃W,((a.alloc (.map #[] 0)).alloc (.map #[] 0)).alloc (.cells #[.map (some a.heap.size),.map (some (a.heap.size+1)),.slice none 0 0] 56)=W:=⟨_,rfl⟩
  have d:Below a.heap.size a O:=by rw [←b];exact (bal.alloc (by simp) _).alloc (by rw [World.size_alloc,World.size_alloc];omega) _
  have B:O.heap.size=a.heap.size+3:=by rw [←b];simp
  have H:=ah (HS.out.map.on d)
  have G:=ah (M.out.below d)
  have L:=ah (HS.out.bel.trans (d.mono (by omega)))
  have p:=ah B
  have P:=ah r
  have u:=ah b
  clear b d B m r
  go_wp2_with (rw [u.out];refine fQ rfl _ _ _ 47 46 rfl underlying47 n k _ rfl H.out dn F (a.heap.size+2) rfl rfl (by unfold maxLen;omega) ?_)
  intro w' hm R f
  have V:=ah hm
  have g:=ah R
  have t:=ah f
  clear hm R f
  go_wp2_with fail
  go_roundw
  case rel =>
   refine ⟨k+1,by go_num,by omega,HS.out.next v (V.out.ext fun q _=>by rw [N.out,P.out,show n+2+3*k+2=n+4+3*k from by omega]) (by rw [u.out];exact g.out) (by rw [t.out,p.out]) (L.out.grown g.out (by have h1:=P.out;have h2:=p.out;omega) (fun j s=>by cases s;omega)),G.out.kept g.out (by simp)⟩
  case measure=>simp [intOf];omega
 obtain rfl:k=3:=by omega
 go_wp2_with fail
 go_ret
 exact ⟨rfl,HS.out,M.out⟩
structure Chg (S:Nat → Prop) (w w':World):Prop where
 os:w'.os = w.os
 tape:w'.tape = w.tape
 output:w'.output = w.output
 size:w.heap.size ≤ w'.heap.size
 block:∀ k,k < w.heap.size → ¬ S k → w'.heap[k]? = w.heap[k]?
theorem Chg.refl (S:Nat→Prop) (w:World):Chg S w w:=⟨rfl,rfl,rfl,Nat.le_refl _,fun _ _ _=>rfl⟩
theorem Chg.trans {S:Nat→Prop} {w w' a:World} (h:Chg S w w') (b:Chg S w' a):Chg S w a :=
 ⟨b.os.trans h.os,b.tape.trans h.tape,b.output.trans h.output,Nat.le_trans h.size b.size,fun k e d=>(b.block k (Nat.lt_of_lt_of_le e h.size) d).trans (h.block k e d)⟩
theorem Chg.mono {S T:Nat→Prop} {w w':World} (h:Chg S w w') (a:∀k,k<w.heap.size→S k→T k):Chg T w w':=⟨h.os,h.tape,h.output,h.size,fun k b d=>h.block k b fun e=>d (a k b e)⟩
theorem Chg.dW {w w':World} {row:Option Nat} {S:Nat→Prop} (h:w.grownBy w' row) (a:∀k,row=some k→S k):Chg S w w':=⟨h.os,h.tape,h.output,h.size,fun k d b=>h.block k d fun e=>b (a k e.symm)⟩
theorem Chg.of_below {w w':World} {S:Nat→Prop} (h:Below w.heap.size w w'):Chg S w w':=⟨h.os,h.tape,h.output,h.size,fun k a _=>h.block k a⟩
theorem Chg.below {S:Nat→Prop} {n:Nat} {a w w':World} (h:Below n a w) (b:Chg S w w') (f:n≤w.heap.size) (hS:∀k,S k→n≤k):Below n a w':=by
 exact ⟨b.os.trans h.os,b.tape.trans h.tape,b.output.trans h.output,Nat.le_trans h.size b.size,fun k e=>(b.block k (by omega) fun d=>absurd (hS k d) (by omega)).trans (h.block k e)⟩
theorem ak.chg {S:Nat→Prop} {w w':World} {b:Nat} {t:TypeId} {cs:List Value} (h:ak w b t cs) (a:Chg S w w') (hb:¬S b):ak w' b t cs:=(a.block b h.lt hb).trans h
section
variable {α:Type} {enc:α → Value}
theorem aP.chg {S:Nat→Prop} {w w':World} {b n:Nat} {f:ByteArray→Option α} (h:aP enc w b n f) (a:Chg S w w') (hb:¬S b):aP enc w' b n f:=h.heap (a.block b h.lt hb)
theorem RangeT.chg {S:Nat→Prop} {w w':World} {b r n:Nat} {f:ByteArray→Option α} {L:List ByteArray} (h:RangeT enc w b r n f L) (a:Chg S w w') (hb:¬S b) (d:¬S r):RangeT enc w' b r n f L:=h.heap (a.block b h.map.lt hb) (a.block r h.lt d)
theorem Chg.left {S:Nat→Prop} {w w':World} {b r n:Nat} {f:ByteArray→Option α} {L:List ByteArray} (a:Chg S w w') (h:RangeT enc w b r n f L) (hb:¬S b) (d:¬S r):w'.rangeLeft b r=w.rangeLeft b r:=d9 (a.block b h.map.lt hb) (a.block r h.lt d)
end
theorem LC {α:Type} {enc:α→Value} {w:World} {b n:Nat} {f:ByteArray→Option α} (h:aP enc w b n f) {t e:TypeId} (d:prog.underlying t=some (.map 9 e)) (ty:TypeId):∃w',(Builtin.clear_ #[t] ty #[.map (some b)]).run prog w= .ok (.tuple #[]) w'∧aP enc w' b 0 (fun _=>none)∧w.grownBy w' (some b):=by
 obtain ⟨D,⟨es,a,hb,F,g,j⟩,_⟩:=h
 refine ⟨{ w with heap:=w.heap.setIfInBounds b (.map #[] a) },?_,?_,?_⟩
 ·simp [Builtin.clear_,run_underlying d,MapKept.run_getObj_map hb,MapKept.run_setObj_map _ hb,Result.andThen]
 ·exact ⟨.map [],⟨#[],a,(MapKept.heap_set hb).1,⟨by simp,MapKept.stamped_empty a,by simp⟩,Nat.le_refl _,rfl⟩,sJ⟩
 exact ⟨rfl,rfl,rfl,by simp,fun i _ hi=>(MapKept.heap_set hb).2 i (fun e=>hi (by rw [e]))⟩
theorem rZ {α:Type} {enc:α→Value} {w:World} {ops:Array Oper} {rest:List Oper} {o:Oper} {a:Act} {Q:Exit→Act→World→Prop} (p:o.guard=none) (m:Operand) (t e:TypeId) (h:o.op=Op.call { callee:=Callee.builtin Builtin.clear,args:=#[m],argTypes:=#[t] })
  (l:prog.underlying t=some (.map 9 e)) (b n:Nat) (f:ByteArray→Option α) (hm:a.eval m= .map (some b)) (d:aP enc w b n f)
  (q:∀w',aP enc w' b 0 (fun _=>none)→w.grownBy w' (some b)→wpList prog ops Q rest (a.put o.dst (.tuple #[])) w'):wpList prog ops Q (o::rest) a w:=by
 refine wpList_plain p fun r i=> ?_
 obtain ⟨w',g,k,j⟩:=LC d l o.type
 unfold Oper.wp
 simp [execOp,h,resolve,invoke,builtin,hm,g,Result.andThen]
 exact i _ _ (q w' k j)
def DK (l:List ByteArray) (x:ByteArray):Bool:=l.any fun y=>decide (y=x)
theorem jM {l:List ByteArray} {x:ByteArray}:DK l x=true↔x∈l:=by unfold DK;simp
theorem DN {X Y:World} (h:X.grownBy Y none) (r:Option Nat):X.grownBy Y r:=⟨h.os,h.tape,h.output,h.size,fun k a _=>h.block k a (by simp)⟩
structure M5 (w0:World) (a b r n:Nat) (f:ByteArray → Option Nat) (La dn Lr:List ByteArray) (w:World):Prop where
 rng:RangeT aT w b r n f Lr
 dst:aP aT w a dn.length fun x => if DK dn x = true then f x else none
 mem:∀ x,x ∈ La ↔ x ∈ dn ∨ x ∈ Lr
 len:dn.length + Lr.length = La.length
 grow:w0.grownBy w (some a)
 fresh:w0.heap.size ≤ r
theorem jo {x:ByteArray}:∀ {l:List ByteArray},l.Nodup→x∈l→(l.filter fun y=>decide (y≠x)).length+1=l.length
 | [],_,h=>by cases h
 | z::l,hn,h=>by
  rw [List.nodup_cons] at hn
  rw [List.filter_cons]
  by_cases e:z=x
  ·subst e
   rw [if_neg (by simp)]
   have:(l.filter fun y=>decide (y≠z))=l:=List.filter_eq_self.2 fun y hy=>decide_eq_true (fun e=>hn.1 (e▸hy))
   rw [this];rfl
  rw [if_pos (decide_eq_true e),List.length_cons,List.length_cons,jo hn.2 ((List.mem_cons.1 h).resolve_left fun h=>e h.symm)]
theorem Kt (a b n:Nat) (f:ByteArray→Option Nat) (La:List ByteArray) (w:World) (J:a≠b) (ha:aP aT w a 0 fun _=>none) (hb:aP aT w b n f) (F:La.Nodup) (hz:∀x∈La,x.size≤maxLen) (hL:∀x,x.size≤maxLen→((f x).isSome=true↔x∈La)) (hl:La.length≤1000000) :
  Calls prog 46 #[.map (some a),.map (some b)] w fun e w'=>e= .returned (.tuple #[])∧aP aT w' b n f∧aP aT w' a La.length f∧w.grownBy w' (some a):=by
 have S:=ah ha
 have Q:=ah hb
 have P:=ah F
 have HZ:=ah hz
 have HL:=ah hL
 have Y:=ah hl
 have ac:=ah J
 clear ha hb F hz hL hl J
 go_enter func46,ntmps46
 go_wp2_with (refine fq (enc:=aT) rfl _ 53 50 rfl underlying53 b n f La rfl Q.out P.out HZ.out HL.out ?_)
 intro w2 p u ad
 obtain ⟨i,A⟩:∃i,w.heap.size=i:=⟨_,rfl⟩
 have ab:Hid (M5 w a b i n f La [] La w2):=ah ⟨by rw [←A];exact p,(S.out.grown u (by simp)).ext fun x _=>by rw [if_neg (by simp [DK])],by simp,by simp,DN u _,by omega⟩
 rw [A]
 clear p u ad A
 go_upto_region 1 with fail
 go_loopw [4,5] (fun _ _ wr=> ∃dn Lr,M5 w a b i n f La dn Lr wr) (fun _ _ wr=>wr.rangeLeft b i)
 case atStart=>exact ⟨[],La,ab.out⟩
 obtain ⟨U,rfl⟩:∃U:World,U=wr:=⟨_,rfl⟩
 obtain ⟨dn,Lr,v⟩:=hrel
 have d:=ah v
 have B:=v.rng
 clear v
 go_wp2_with (refine gH (enc:=aT) rfl _ rfl b i n f Lr rfl B ?_ ?_)
 ·intro Z
  subst Z
  clear B
  go_wp2_with fail
  go_end0
  refine ⟨rfl,d.out.rng.map,?_,d.out.grow⟩
  have H:=d.out.len
  have hd:=d.out.dst
  rw [show dn.length=La.length from by simpa using H] at hd
  refine hd.ext fun x hx=> ?_
  by_cases e:DK dn x=true
  ·rw [if_pos e]
  rw [if_neg e]
  rw [jM] at e
  cases hf:f x with
  | none=>rfl
  | some o =>
   have:=(HL.out x hx).1 (by rw [hf];rfl)
   rcases (d.out.mem x).1 this with h|h
   ·exact absurd h e
   cases h
 intro x c w3 L X I q r s af ae
 have T:Hid (aP aT w3 a dn.length fun x=>if DK dn x=true then f x else none):=ah (d.out.dst.grown s (fun e=>by
  have h1:=d.out.fresh
  have V:=S.out.lt
  have:=Option.some.inj e;omega))
 have l:=ah q
 have K:=ah r
 have j:=ah s
 have R:=ah I
 have D:=ah L
 have M:dn.length<maxLen:=by
  have h1:=d.out.len
  have V:=Y.out
  unfold maxLen;omega
 clear q r s I L B
 go_wp2_with (refine fQ (enc:=aT) rfl _ _ _ 53 50 rfl underlying53 a dn.length _ rfl T.out x X c rfl rfl M ?_)
 intro N G g W
 have t:some i≠some a:=fun e=>by
  have h1:=d.out.fresh
  have V:=S.out.lt
  have:=Option.some.inj e;omega
 have z:some b≠some a:=fun e=>ac.out (Option.some.inj e).symm
 have C:Hid (M5 w a b i n f La (x::dn) (Lr.filter fun y=>decide (y≠x)) N):=ah ⟨(show RangeT aT N b i n f (Lr.filter fun y=>decide (y≠x)) by simpa only [ne_eq,decide_not] using l.out.grown g z t),G.ext fun y _=>by
   by_cases e:y=x
   ·subst e;rw [if_pos rfl,if_pos (jM.2 (List.mem_cons_self ..)),R.out]
   ·rw [if_neg e]
    by_cases O:DK dn y=true
    ·rw [if_pos O,if_pos (jM.2 (List.mem_cons_of_mem _ (jM.1 O)))]
    rw [if_neg O,if_neg (fun h=>(List.mem_cons.1 (jM.1 h)).elim e (fun h=>O (jM.2 h)))],fun y=>by
   rw [d.out.mem,List.mem_cons,List.mem_filter,decide_eq_true_iff]
   by_cases e:y=x
   ·subst e;exact ⟨fun _=> .inl (.inl rfl),fun _=> .inr D.out⟩
   ·exact ⟨fun h=>h.elim (fun h=> .inl (.inr h)) (fun h=> .inr ⟨h,e⟩),fun h=>h.elim (fun h=> .inl (h.resolve_left e)) (fun h=> .inr h.1)⟩,by
   have h1:=d.out.len
   have V:=jo d.out.rng.nodup D.out
   rw [List.length_cons];omega,by
   have h0:=d.out.fresh
   have h1:w.grownBy w3 (some a):=⟨j.out.os.trans d.out.grow.os,j.out.tape.trans d.out.grow.tape,j.out.output.trans d.out.grow.output,Nat.le_trans d.out.grow.size j.out.size,fun k E m=>(j.out.block k (Nat.lt_of_lt_of_le E d.out.grow.size) (fun e=>by have:=Option.some.inj e;omega)).trans (d.out.grow.block k E m)⟩
   exact ⟨g.os.trans h1.os,g.tape.trans h1.tape,g.output.trans h1.output,Nat.le_trans h1.size g.size,fun k E m=>(g.block k (Nat.lt_of_lt_of_le E h1.size) m).trans (h1.block k E m)⟩,d.out.fresh⟩
 have aa:Hid (N.rangeLeft b i<U.rangeLeft b i):=ah (by
  have e:N.rangeLeft b i=w3.rangeLeft b i:=d9 (g.block b l.out.map.lt z) (g.block i l.out.lt t)
  rw [e];exact K.out)
 clear G g W t z M
 go_wp2_with fail
 go_roundw
 case rel=>exact ⟨_,_,C.out⟩
 case measure=>exact aa.out
theorem sI (p a b m n:Nat) (g f:ByteArray→Option Nat) (pd:Value) (La:List ByteArray) (w:World) (G:ak w p 56 [.map (some b),.map (some a),pd]) (s:a≠b) (z:p≠a) (B:p≠b) (P:aP aT w a m g) (hb:aP aT w b n f) (t:La.Nodup) (O:∀x∈La,x.size≤maxLen) (Q:∀x,x.size≤maxLen→((f x).isSome=true↔x∈La)) (R:La.length≤1000000) :
  Calls prog 18 #[.pointer (some ⟨p,0,none⟩)] w fun e w'=>e= .returned (.tuple #[])∧ak w' p 56 [.map (some b),.map (some a),.slice none 0 0]∧aP aT w' b n f∧aP aT w' a La.length f∧Chg (fun k=>k=a∨k=p) w w':=by
 have U:=ah G
 have V:=ah P
 have D:=ah hb
 have K:=ah (fun W (h1:aP aT W a 0 fun _=>none) (T:aP aT W b n f)=>Kt a b n f La W s h1 T t O Q R)
 have c1:w.cell? ⟨p,1,none⟩=some (.map (some a)):=G.range 1 _ rfl
 have M:=ah s
 have o:=ah z
 have I:=ah B
 clear G P hb t O Q R s z B
 go_enter func18,ntmps18
 go_wp2_with (refine rZ (enc:=aT) rfl _ 53 50 rfl underlying53 a m g rfl V.out ?_)
 intro w1 v l
 have i:=U.out.kept l (fun e=>o.out (Option.some.inj e))
 have Z:w1.cell? ⟨p,0,none⟩=some (.map (some b)):=i.range 0 _ rfl
 have Y:w1.cell? ⟨p,1,none⟩=some (.map (some a)):=i.range 1 _ rfl
 have C:=ah (K.out w1.drew (v.on (Below.refl _ _).drew) ((D.out.grown l (fun e=>M.out (Option.some.inj e).symm)).on (Below.refl _ _).drew))
 have N:=i.lt
 have q:=ah (i.below (Below.refl _ _).drew)
 have F:Hid (Chg (fun k=>k=a∨k=p) w w1.drew):=ah ((Chg.dW l (fun k e=> .inl (Option.some.inj e).symm)).trans (Chg.of_below (Below.refl _ _).drew))
 clear c1 v l i
 go_upto_region 1 with fail
 have d:w1.drew.cell? ⟨p,0,none⟩=some (.map (some b))∧w1.drew.cell? ⟨p,1,none⟩=some (.map (some a)):=⟨q.out.range 0 _ rfl,q.out.range 1 _ rfl⟩
 refine wrL 8 (fun w'=>w'.cell? ⟨p,0,none⟩=some (.map (some b))∧w'.cell? ⟨p,1,none⟩=some (.map (some a))) ?_
 refine WL.tk 0 d ?_
 refine WL.tk 1 d ?_
 refine WL.tk 2 d ?_
 refine WL.tk 3 d ?_
 refine WL.tk 4 d ?_
 refine WL.tk 5 d ?_
 refine WL.tk 6 d ?_
 refine WL.tk 7 d ?_
 refine WL.la 8 ?_
 go_wp2_with fail
 refine C.out.mono ?_
 rintro e u ⟨rfl,y,A,r⟩
 have j:=q.out.kept r (fun e=>o.out (Option.some.inj e))
 have k2:u.cell? ⟨p,2,none⟩=some pd:=j.range 2 _ rfl
 have X:u.frozen? ⟨p,2,none⟩=false:=by have:=(j.there 2 (by simp)).2;rwa [Nat.zero_add] at this
 have H:=ah j
 have E:=ah y
 have J:=ah A
 have L:Hid (Chg (fun k=>k=a∨k=p) w u):=ah (F.out.trans (Chg.dW r (fun k e=> .inl (Option.some.inj e).symm)))
 clear y A r j
 go_wp2_with fail
 go_end0
 have h:Chg (fun k=>k=p) u (u.setCell ⟨p,2,none⟩ (.slice none 0 0)):=⟨rfl,rfl,rfl,by simp [World.setCell],fun k _ S=>Below.heap_setCell _ _ _ _ S⟩
 exact ⟨rfl,H.out.put 2 _,E.out.chg h (fun e=>I.out e.symm),J.out.chg h (fun e=>o.out e.symm),L.out.trans (h.mono fun k _ e=> .inr e)⟩
end
section
open Go.RowKit
theorem xK:∀i:Fin 16,oO (l9 i.val)=true:=by decide +kernel
theorem xC (x:List UInt8):(bJ x).all oO=true:=by
 unfold bJ
 induction x with
 | nil=>rfl
 | cons a x ih =>
  have b:=a.toNat_lt
  rw [List.flatMap_cons,List.all_append,ih,Bool.and_true]
  simp only [List.all_cons,List.all_nil,Bool.and_true,Bool.and_eq_true]
  exact ⟨xK ⟨a.toNat/16,by omega⟩,xK ⟨a.toNat%16,by omega⟩⟩
theorem G7 {x:List UInt8} (hx:x.length=32):aJ (ofB (bJ x))=true:=by
 have h:=oM x
 have e:(ofB (bJ x)).data.toList=bJ x:=by simp [ofB]
 unfold aJ
 rw [e,xC,aK,decide_eq_true (by omega),decide_eq_true (by omega)]
 rfl
theorem Gg (d:Dk) {nm:ByteArray} (h:aJ nm=true):rdD d bI nm=match d 0 nm with|none=>(⟨#[]⟩,6)|some s=>(s,0):=by
 unfold rdD
 rw [if_pos h]
 rfl
def qU (d:Dk) (x:List UInt8) (w:World) (e:Ending) (w':World):Prop :=
 (match fF d x with
 | .inl k=>e= .returned (.tuple #[.agg #[.int .i64 0,.string ⟨#[]⟩],.int .i64 (k:Int)])
 | .inr o=>e= .returned (.tuple #[.agg (obC o).toArray,.int .i64 0]))∧Below w.heap.size w w'
theorem A8 {d:Dk} {x:List UInt8} {k:Nat} {w w':World} (h:fF d x= .inl k) (hb:Below w.heap.size w w'):qU d x w (.returned (.tuple #[.agg #[.int .i64 0,.string ⟨#[]⟩],.int .i64 (k:Int)])) w':=⟨by rw [h],hb⟩
theorem GQ {d:Dk} {x:List UInt8} {o:Ob} {c:List Value} {w w':World} (h:fF d x= .inr o) (a:obC o=c) (hb:Below w.heap.size w w'):qU d x w (.returned (.tuple #[.agg c.toArray,.int .i64 0])) w':=⟨by rw [h,←a],hb⟩
theorem JA (g:Nat) (d:Dk) (x:List UInt8) (w:World) (hx:x.length=32) (hD:jy w g d) (hd:∀k nm s,d k nm=some s→s.size≤1000000) (hG:cu w):Calls prog 117 #[.pointer (some ⟨g,0,none⟩),.agg (idC x).toArray] w (qU d x w):=by
 have a2:=yO
 have t:(prog.info? 143).map (·.size)=some (idC x).length:=by rw [aA,hx];kernel_rfl
 have aq:(ofB (bJ x)).size=64:=by rw [aK,oM,hx]
 obtain ⟨W0,E⟩:∃W,(w.alloc (.cells (idC x).toArray 143)).alloc (.cells #[.int .i64 0,.string ⟨#[]⟩] 24)=W:=⟨_,rfl⟩
 have X:Hid (ak W0 w.heap.size 143 (idC x)):=ah (by
  rw [←E]
  exact (ak.new w 143 (idC x)).below bal)
 have ao:Hid (ak W0 (w.heap.size+1) 24 [.int .i64 0,.string ⟨#[]⟩]):=ah (by
  rw [←E]
  have:=ak.new (w.alloc (.cells (idC x).toArray 143)) 24 [.int .i64 0,.string ⟨#[]⟩]
  rwa [World.size_alloc] at this)
 have ar:Hid (Below w.heap.size w W0):=ah (by rw [←E];exact bal.alloc (by simp) _)
 have HG:=ah hG
 have a0:=ah hD
 have ap:=ah hd
 have J:=ah (fun W=>lW x hx W)
 have M:=ah (Gg d (G7 hx))
 have H:Hid (fF d x=match d 0 (ofB (bJ x)) with|none=> .inl 6|some b=>match dK (ofB (bJ x)) b with|none=> .inl 17|some o=> .inr o):=ah rfl
 have F:=ah bM
 have af:=ah E
 have V:=X.out.range
 clear E hD hd hG hx
 generalize ofB (bJ x)=nm at J M H aq
 generalize idC x=cx at J X af t V ⊢
 go_enter func117,ntmps117
 go_upto_region 1 with fail
 rw [af.out]
 go_wp2_with (refine wpList_load_mid rfl 143 _ rfl w.heap.size 0 rfl cx _ V underlying143 rfl t ?_)
 refine (J.out _).mono ?_
 rintro e w1 ⟨rfl,N⟩
 have T:=bth ar N
 have az:=ah (X.out.below N)
 have am:=ah (ao.out.below N)
 have O:=ah (qJ g d bI nm w1 (a0.out.below T.out) (by decide) (by omega))
 unfold En at O
 rw [M.out] at O
 clear N V
 cases p:d 0 nm with
 | none =>
  rw [p] at O
  dsimp only at O
  have U:Hid (fF d x= .inl 6):=ah (by rw [H.out,p])
  clear p H M
  go_wp2_with fail
  refine O.out.mono ?_
  rintro e w2 ⟨rfl,h⟩
  have S:=bth T h
  have K:=ah (am.out.below h)
  clear h
  go_upto_region 3 with fail
  have D:w2.there (w.heap.size+1) 0 2:=K.out.there
  have B:(prog.info? 24).map (·.size)=some ([.int .i64 0,.string ⟨#[]⟩]:List Value).length:=bM
  obtain ⟨q,a⟩:∃q,w2.setCells (w.heap.size+1) 0 [.int .i64 0,.string ⟨#[]⟩]=q:=⟨_,rfl⟩
  have A:Hid (ak q (w.heap.size+1) 24 [.int .i64 0,.string ⟨#[]⟩]):=ah (by rw [←a];exact K.out.set rfl)
  have G:Hid (Below w.heap.size w q):=ah (by rw [←a];exact below_setCells _ (Nat.le_succ _) _ _ _ S.out)
  have z:=ah a
  clear a
  go_wp2_with (refine aj rfl 24 _ _ rfl (w.heap.size+1) 0 [.int .i64 0,.string ⟨#[]⟩] rfl rfl 2 rfl D F.out (by intro v Q;simp at Q;rcases Q with rfl|rfl<;>rfl) ?_;rw [z.out])
  have u:=A.out.range
  (try simp only [Exit.inBlock,Exit.then])
  refine aD rfl (w.heap.size+1) 0 rfl [.int .i64 0,.string ⟨#[]⟩] _ u underlying24 rfl B rfl _ rfl ?_
  exact A8 U.out G.out
 | some b =>
  rw [p] at O
  dsimp only at O
  have r:Hid (fF d x=match dK nm b with|none=> .inl 17|some o=> .inr o):=ah (by rw [H.out,p])
  have aE:=ap.out _ _ _ p
  clear p H M
  go_wp2_with fail
  refine O.out.mono ?_
  rintro e w2 ⟨rfl,h⟩
  have S:=bth T h
  have K:=ah (am.out.below h)
  have aw:=ah (az.out.below h)
  have r2:=aw.out.range
  clear h O
  go_wp2_with (refine wpList_load_mid rfl 143 _ rfl w.heap.size 0 rfl cx _ r2 underlying143 rfl t ?_)
  refine (J.out _).mono ?_
  rintro e w3 ⟨rfl,Z⟩
  have ab:=bth S Z
  have ai:=ah (K.out.below Z)
  have P:=ah (lV nm b w3 aE (HG.out.below ab.out))
  unfold vw at P
  clear Z r2 t
  cases L:dK nm b with
  | none =>
   rw [L] at P r
   dsimp only at P
   have U:Hid (fF d x= .inl 17):=r
   clear L
   go_wp2_with fail
   refine P.out.mono ?_
   rintro e j ⟨rfl,m⟩
   have ad:=bth ab m
   have Y:=ah (ai.out.below m)
   clear m
   have aa:=ah (there_alloc (n:=2) j #[.int .i64 0,.string ⟨#[]⟩] 24 rfl)
   obtain ⟨R,i⟩:∃W,(j.alloc (.cells #[.int .i64 0,.string ⟨#[]⟩] 24)).setCells j.heap.size 0 [.int .i64 0,.string ⟨#[]⟩]=W:=⟨_,rfl⟩
   have l:Below j.heap.size j R:=by rw [←i];exact below_setCells _ (Nat.le_refl _) _ _ _ bal
   have C:=ah (Y.out.below l)
   have ac:=bth ad l
   have ae:=ah i
   clear i l
   go_upto_region 6 with (refine aj rfl 24 _ _ rfl j.heap.size 0 [.int .i64 0,.string ⟨#[]⟩] rfl rfl 2 rfl aa.out F.out (by intro v Q;simp at Q;rcases Q with rfl|rfl<;>rfl) ?_;rw [ae.out])
   have D:R.there (w.heap.size+1) 0 2:=C.out.there
   have B:(prog.info? 24).map (·.size)=some ([.int .i64 0,.string ⟨#[]⟩]:List Value).length:=bM
   obtain ⟨q,a⟩:∃q,R.setCells (w.heap.size+1) 0 [.int .i64 0,.string ⟨#[]⟩]=q:=⟨_,rfl⟩
   have A:Hid (ak q (w.heap.size+1) 24 [.int .i64 0,.string ⟨#[]⟩]):=ah (by rw [←a];exact C.out.set rfl)
   have G:Hid (Below w.heap.size w q):=ah (by rw [←a];exact below_setCells _ (Nat.le_succ _) _ _ _ ac.out)
   have z:=ah a
   clear a
   go_wp2_with (refine aj rfl 24 _ _ rfl (w.heap.size+1) 0 [.int .i64 0,.string ⟨#[]⟩] rfl rfl 2 rfl D F.out (by intro v Q;simp at Q;rcases Q with rfl|rfl<;>rfl) ?_;rw [z.out])
   have u:=A.out.range
   (try simp only [Exit.inBlock,Exit.then])
   refine aD rfl (w.heap.size+1) 0 rfl [.int .i64 0,.string ⟨#[]⟩] _ u underlying24 rfl B rfl _ rfl ?_
   exact A8 U.out G.out
  | some o =>
   rw [L] at P r
   dsimp only at P
   have ax:Hid (fF d x= .inr o):=r
   have y:=ah (jd o)
   have f:Hid ((obC o).length=2):=ah rfl
   clear L
   generalize ag:obC o=I at P y f
   have an:=ah ag
   clear ag
   go_wp2_with fail
   refine P.out.mono ?_
   rintro e j ⟨rfl,m⟩
   have ad:=bth ab m
   have Y:=ah (ai.out.below m)
   clear m
   have aa:=ah (there_alloc (n:=2) j #[.int .i64 0,.string ⟨#[]⟩] 24 rfl)
   obtain ⟨R,i⟩:∃W,(j.alloc (.cells #[.int .i64 0,.string ⟨#[]⟩] 24)).setCells j.heap.size 0 I=W:=⟨_,rfl⟩
   have al:Hid (ak R j.heap.size 24 I):=ah (by rw [←i];exact (ak.new j 24 [.int .i64 0,.string ⟨#[]⟩]).set (by rw [f.out];rfl))
   have l:Below j.heap.size j R:=by rw [←i];exact below_setCells _ (Nat.le_refl _) _ _ _ bal
   have C:=ah (Y.out.below l)
   have ac:=bth ad l
   have a1:(prog.info? 24).map (·.size)=some I.length:=by rw [f.out];exact bM
   have ae:=ah i
   clear i l
   go_upto_region 7 with (refine aj rfl 24 _ _ rfl j.heap.size 0 I rfl rfl 2 f.out aa.out F.out y.out ?_;rw [ae.out])
   have D:R.there (w.heap.size+1) 0 2:=C.out.there
   have B:(prog.info? 24).map (·.size)=some (I:List Value).length:=by rw [f.out];exact bM
   obtain ⟨q,a⟩:∃q,R.setCells (w.heap.size+1) 0 I=q:=⟨_,rfl⟩
   have A:Hid (ak q (w.heap.size+1) 24 I):=ah (by rw [←a];exact C.out.set (by rw [f.out];rfl))
   have G:Hid (Below w.heap.size w q):=ah (by rw [←a];exact below_setCells _ (Nat.le_succ _) _ _ _ ac.out)
   have z:=ah a
   clear a
   have r7:=al.out.range
   go_wp2_with (first
    | refine wpList_load_mid rfl 24 _ rfl j.heap.size 0 rfl I _ r7 underlying24 rfl a1 ?_
    | (refine aj rfl 24 _ _ rfl (w.heap.size+1) 0 I rfl rfl 2 f.out D F.out y.out ?_;rw [z.out]))
   have u:=A.out.range
   (try simp only [Exit.inBlock,Exit.then])
   refine aD rfl (w.heap.size+1) 0 rfl I _ u underlying24 rfl B rfl _ rfl ?_
   exact GQ ax.out an.out G.out
end
section
open Go.RowKit Go.Maps
def flC (f:Fl):List Value:=[.string f.dir,.string f.name,.string f.data]
def pq (w:World) (v:Value) (l:List Fl):Prop:=dF w v 3 (l.map flC)
theorem pq.below {w w':World} {v:Value} {l:List Fl} (h:pq w v l) (hb:Below w.heap.size w w'):pq w' v l:=dF.below h hb
theorem pq.open {w:World} {v:Value} {l:List Fl} (h:pq w v l):∃d a,v= .slice d l.length a∧l.length≤maxLen∧(l≠[]→ ∃b off,d=some ⟨b,off,none⟩∧b<w.heap.size∧ ∀k (g:k<l.length),w.rangeAt b (off+k*3) (flC l[k])):=by
 obtain ⟨d,a,rfl,hm,h⟩:=h
 rw [List.length_map] at hm ⊢
 refine ⟨d,a,rfl,hm,fun f=> ?_⟩
 obtain ⟨b,off,e,j,i⟩:=h (by simpa using f)
 refine ⟨b,off,e,j,fun k g=> ?_⟩
 have:=i k (by simpa using g)
 rw [List.getElem_map] at this
 exact this
def Nw (l:List Fl):Prop:=∀f∈l,f.dir.size≤maxLen∧f.name.size≤1000000∧f.data.size≤1000000
theorem oK:(prog.info? 32).map (·.size)=some 3:=by decide +kernel
theorem nE (l:List Fl) (f:Fl) (k:Nat) (x:ByteArray):qb (l++[f]) k x=if dP f k=true∧f.name=x then some f.data else qb l k x:=by unfold qb;rw [List.foldl_append];rfl
def vS (n r k:Nat):Prop:=k=r∨k=n+3∨k=n+4∨k=n+6∨k=n+7∨k=n+9∨k=n+10
theorem xM {L:List Fl} {k:Nat} {x s:ByteArray} (h:qb L k x=some s):∃f∈L,dP f k=true∧f.name=x∧f.data=s:=by
 have:∀(L:List Fl) (r:Option ByteArray),L.foldl (fun r f=>if dP f k=true∧f.name=x then some f.data else r) r=some s→r=some s∨ ∃f∈L,dP f k=true∧f.name=x∧f.data=s:=by
  intro L
  induction L with
  | nil=>exact fun r h=> .inl h
  | cons f L ih =>
   intro r h
   rw [List.foldl_cons] at h
   rcases ih _ h with h|⟨g,h1,a⟩
   ·split at h
    ·rename_i e
     exact .inr ⟨f,List.mem_cons_self ..,e.1,e.2,Option.some.inj h⟩
    exact .inl h
   exact .inr ⟨g,List.mem_cons_of_mem _ h1,a⟩
 rcases this L none h with h|h
 ·cases h
 exact h
theorem DX {x:ByteArray} (h:aJ x=true):x.size≤80:=by
 unfold aJ at h
 simp only [Bool.and_eq_true,decide_eq_true_eq] at h
 exact h.2
theorem DR {f:Fl} {k:Nat} (h:dP f k=true):aJ f.name=true∧f.data.size≤1048576:=by
 unfold dP at h
 simp only [Bool.and_eq_true,decide_eq_true_eq] at h
 exact ⟨h.1.2,h.2⟩
theorem Gx {L:List Fl} {k:Nat} {x:ByteArray} (h:x∈AQ L k):aJ x=true:=by
 rw [AO] at h
 obtain ⟨s,a⟩:=Option.isSome_iff_exists.1 h
 obtain ⟨f,_,d,b,_⟩:=xM a
 rw [←b];exact (DR d).1
theorem AP (L:List Fl) (k:Nat):(AQ L k).length≤L.length:=by
 have a:∀(x:ByteArray) (l:List ByteArray),(jl x l).length≤l.length+1:=by
  intro x l
  induction l with
  | nil=>simp [jl]
  | cons y l ih=>unfold jl;split<;>(try split)<;>simp<;>omega
 have:∀(L:List Fl) (r:List ByteArray),(L.foldl (fun r f=>if dP f k=true then jl f.name r else r) r).length≤r.length+L.length:=by
  intro L
  induction L with
  | nil=>intro r;simp
  | cons f L ih =>
   intro r
   rw [List.foldl_cons]
   have b:=a f.name r
   refine Nat.le_trans (ih _) ?_
   rw [List.length_cons]
   split<;>omega
 have h:=this L []
 simpa [AQ] using h
theorem uG {P:Program} {w:World} {a:Act} {op:Oper} (t:TypeId) (m x:Operand) (b:op.op= .lookup t m x false) (e d v:Value) (hm:a.eval m=e) (hx:a.eval x=d) (h:(Instr.lookup t e d false).run P w= .ok v w):(execOp a.eval op).run P w= .ok (.value v) w:=by
 simp [execOp,b,hm,hx,h,Result.andThen]
theorem DY (s:ByteArray) (z:Int) (w:World):(Instr.build 52 #[(0,.string s),(1,.int .i64 z)]).run prog w= .ok (.agg #[.string s,.int .i64 z]) w:=run_build w 52 _ _ (by kernel_rfl)
theorem jA.nodup {l:List ByteArray} (h:jA l):l.Nodup:=h.imp fun {x y} h e=>by subst e;rw [bQ] at h;cases h
theorem Eb (w:World):Calls prog 187 #[.slice none 0 0] w fun e w'=>e= .returned (.slice none 0 0)∧w'=w:=by
 have a:∀w,(binOp .eql 180 (.slice none 0 0) (.slice none 0 0)).run prog w= .ok (.bool true) w:=fun w=>by kernel_rfl
 go_enter func187,ntmps187
 go_wp2_with fail
 go_ret
 exact ⟨rfl,rfl⟩
theorem JI (f:Value) (w:World):Calls prog 274 #[.slice none 0 0,.int .i64 0,.int .i64 0,f] w fun e w'=>e= .returned (.tuple #[])∧w'=w:=by
 go_enter func274,ntmps274
 go_wp2_with fail
 refine wp_loop_rounds 1 ?_
 rw [rounds_succ]
 go_wp2_with fail
 go_end0
 exact ⟨rfl,rfl⟩
theorem zY (f:Value) (w:World):Calls prog 240 #[.slice none 0 0,.int .i64 0,f] w fun e w'=>e= .returned (.tuple #[])∧w'=w:=by
 have a:=ah (JI f w)
 go_enter func240,ntmps240
 go_wp2_with fail
 refine wp_loop_rounds 1 ?_
 rw [rounds_succ]
 go_wp2_with fail
 refine a.out.mono ?_
 rintro e w1 ⟨rfl,rfl⟩
 go_wp2_with fail
 refine wp_loop_rounds 1 ?_
 rw [rounds_succ]
 go_wp2_with fail
 go_end0
 exact ⟨rfl,rfl⟩
theorem yt (w:World):Calls prog 188 #[.slice none 0 0,.func (.func 189) #[] #[]] w fun e w'=>e= .returned (.tuple #[])∧w'=w:=by
 have a:=ah (zY (.func (.func 189) #[] #[]) w)
 go_enter func188,ntmps188
 go_wp2_with fail
 refine a.out.mono ?_
 rintro e w1 ⟨rfl,rfl⟩
 go_wp2_with fail
 go_end0
 exact ⟨rfl,rfl⟩
theorem yx (f:Value) (w:World):Calls prog 242 #[.slice none 0 0,f] w fun e w'=>e= .returned (.bool true)∧w'=w:=by
 go_enter func242,ntmps242
 go_wp2_with fail
 refine wp_loop_rounds 1 ?_
 rw [rounds_succ]
 go_wp2_with fail
 go_ret
 exact ⟨rfl,rfl⟩
theorem yA (f:Value) (w:World):Calls prog 243 #[.slice none 0 0,f] w fun e w'=>e= .returned (.bool true)∧w'=w:=by
 go_enter func243,ntmps243
 go_wp2_with fail
 refine wp_loop_rounds 1 ?_
 rw [rounds_succ]
 go_wp2_with fail
 go_ret
 exact ⟨rfl,rfl⟩
theorem Dx (f:Value) (w:World):Calls prog 149 #[.slice none 0 0,f] w fun e w'=>e= .returned (.int .i64 (-1))∧Below w.heap.size w w':=by
 go_enter func149,ntmps149
 go_wp2_with fail
 refine wp_loop_rounds 1 ?_
 rw [rounds_succ]
 go_wp2_with fail
 go_ret
 exact ⟨rfl,Below.refl _ _⟩
theorem vQ (f:Value) (w:World):Calls prog 77 #[.slice none 0 0,f] w fun e w'=>e= .returned (.bool false)∧Below w.heap.size w w':=by
 have b:=ah (Dx f w)
 go_enter func77,ntmps77
 go_wp2_with fail
 refine b.out.mono ?_
 rintro e w1 ⟨rfl,a⟩
 go_wp2_with fail
 go_ret
 exact ⟨rfl,a⟩
theorem sP (g:Nat) (sv:Value) (w:World) (h:ak w g 260 [.slice none 0 0,sv,.slice none 0 0]):Calls prog 191 #[.pointer (some ⟨g,0,none⟩)] w fun e w'=>e= .returned (.bool true)∧Below w.heap.size w w':=by
 have d:=ah (fun f W=>yx f W)
 have a:=ah (fun f W=>yA f W)
 have i:=ah (fun f W=>vQ f W)
 have j:w.cell? ⟨g,0,none⟩=some (.slice none 0 0):=h.range 0 _ rfl
 have c2:w.cell? ⟨g,2,none⟩=some (.slice none 0 0):=h.range 2 _ rfl
 clear h
 go_enter func191,ntmps191
 go_wp2_with fail
 refine (d.out _ _).mono ?_
 rintro e w1 ⟨rfl,rfl⟩
 go_wp2_with fail
 refine (a.out _ _).mono ?_
 rintro e w1 ⟨rfl,rfl⟩
 go_wp2_with fail
 refine wp_loop_rounds 1 ?_
 rw [rounds_succ]
 go_wp2_with fail
 refine (i.out _ _).mono ?_
 rintro e w1 ⟨rfl,b⟩
 go_wp2_with fail
 go_ret
 exact ⟨rfl,b⟩
theorem GX (f:Value) (w:World):Calls prog 305 #[.slice none 0 0,.int .i64 0,.int .i64 0,f] w fun e w'=>e= .returned (.tuple #[])∧w'=w:=by
 go_enter func305,ntmps305
 go_wp2_with fail
 refine wp_loop_rounds 1 ?_
 rw [rounds_succ]
 go_wp2_with fail
 go_end0
 exact ⟨rfl,rfl⟩
theorem Gm (n:Int) (f:Value) (w:World):Calls prog 276 #[.slice none 0 0,.int .i64 0,.int .i64 0,.int .i64 n,f] w fun e w'=>e= .returned (.tuple #[])∧w'=w:=by
 have a:=ah (GX f w)
 go_enter func276,ntmps276
 go_wp2_with fail
 refine wp_loop_rounds 1 ?_
 rw [rounds_succ]
 go_wp2_with fail
 refine a.out.mono ?_
 rintro e w1 ⟨rfl,rfl⟩
 go_wp2_with fail
 (try simp only [Exit.inBlock,Exit.then])
 refine bodyPost_ret (results_none rfl _ _ _) rfl ?_
 exact ⟨rfl,rfl⟩
theorem Dp (w:World):Calls prog 220 #[.int .u64 0] w fun e w'=>(∃n,e= .returned (.int .i64 n))∧w'=w:=by
 go_enter func220,ntmps220
 go_wp2_with fail
 go_ret
 exact ⟨⟨_,rfl⟩,rfl⟩
theorem JC (w:World):Calls prog 152 #[.int .u64 0] w fun e w'=>(∃n,e= .returned (.int .i64 n))∧w'=w:=by
 have a:=ah (Dp w)
 go_enter func152,ntmps152
 go_wp2_with fail
 refine a.out.mono ?_
 rintro e w1 ⟨⟨n,rfl⟩,rfl⟩
 go_wp2_with fail
 go_ret
 exact ⟨⟨_,rfl⟩,rfl⟩
theorem Aa (f:Value) (w:World):Calls prog 249 #[.slice none 0 0,f] w fun e w'=>e= .returned (.tuple #[])∧w'=w:=by
 have a:=ah (JC w)
 have b:=ah (fun n=>Gm n f w)
 go_enter func249,ntmps249
 go_wp2_with fail
 refine a.out.mono ?_
 rintro e w1 ⟨⟨n,rfl⟩,rfl⟩
 go_wp2_with fail
 refine (b.out _).mono ?_
 rintro e w1 ⟨rfl,rfl⟩
 go_wp2_with fail
 go_end0
 exact ⟨rfl,rfl⟩
theorem Bn (w:World):Calls prog 194 #[.slice none 0 0] w fun e w'=>e= .returned (.slice none 0 0)∧Below w.heap.size w w':=by
 have l:=@run_makeMap prog
 have HS:=ah (fun f W=>Aa f W)
 obtain ⟨W,d⟩:∃W,w.alloc (.map #[] 0)=W:=⟨_,rfl⟩
 have n:Hid (iU (fun v:Value=>v) W w.heap.size 0 fun _=>none):=ah (by rw [←d];exact xg w)
 have i:Hid (Below w.heap.size w W):=ah (by rw [←d];exact bal)
 have m:=ah d
 clear d
 go_enter func194,ntmps194
 go_upto_region 2 with fail
 rw [m.out]
 go_wp2_with fail
 refine wp_loop_rounds 1 ?_
 rw [rounds_succ]
 go_wp2_with (refine rY (enc:=fun v:Value=>v) rfl _ 323 321 rfl underlying323 w.heap.size 0 (fun _=>none) [] rfl n.out List.nodup_nil (fun x hx=>by cases hx) (fun x _=>by simp) ?_)
 intro k a b h
 have g:Hid (Below w.heap.size w k):=ah (i.out.grown b i.out.size (fun j e=>by cases e))
 clear b h
 go_wp2_with fail
 refine wp_loop_rounds 1 ?_
 rw [rounds_succ]
 go_wp2_with (refine vD (enc:=fun v:Value=>v) rfl _ rfl w.heap.size W.heap.size 0 (fun _=>none) [] rfl a ?_ (fun x c w' hx=>by cases hx))
 refine (HS.out _ _).mono ?_
 rintro e w3 ⟨rfl,rfl⟩
 clear a
 go_wp2_with fail
 go_ret
 exact ⟨rfl,g.out⟩
theorem wY:aM 0=[0]:=by rw [aM];rfl
theorem Ci (g:Nat) (sv:Value) (w:World) (h:ak w g 260 [.slice none 0 0,sv,.slice none 0 0]) (hc:Crc w):Calls prog 195 #[.pointer (some ⟨g,0,none⟩)] w fun e w'=>(∃s,e= .returned (.string s))∧Below w.heap.size w w':=by
 have K:=ah (fun (W:World) (hb:Below w.heap.size w W)=>(h.below hb).range)
 have ab:=ah hc
 have ac:=h.lt
 clear h hc
 go_enter func195,ntmps195
 go_wp2_with fail
 obtain ⟨I,a⟩:∃W,(w.alloc (.cells #[.pointer none,.slice none 0 0] 134)).alloc (.cells #[.string ⟨#[83,77,88,49]⟩] 9)=W:=⟨_,rfl⟩
 have o:Below w.heap.size w I:=by rw [←a];exact bal.alloc (by simp) _
 have x:Wr w.heap.size w.heap.size [] I:=by rw [←a];exact Wr.below (Lib.fresh_isBuilder 134 5 w) bal
 have u:I.cell? ⟨w.heap.size+1,0,none⟩=some (.string ⟨#[83,77,88,49]⟩):=by
  rw [←a]
  have:=World.cell?_alloc_new (w.alloc (.cells #[.pointer none,.slice none 0 0] 134)) #[.string ⟨#[83,77,88,49]⟩] 9 0
  rw [World.size_alloc] at this
  rw [this];rfl
 have aa:=ah (iA w.heap.size w.heap.size [] (w.heap.size+1) ⟨#[83,77,88,49]⟩ I x u (by decide) o.size)
 have L:=ah o
 rw [a]
 clear a o x u
 refine aa.out.mono ?_
 rintro e l ⟨rfl,H,B⟩
 have q:=ah (L.out.trans B)
 have U:=ah H
 have r2:=K.out l q.out
 have S:l.cell? ⟨g,0,none⟩=some (.slice none 0 0):=r2 0 _ rfl
 clear H B r2
 go_wp2_with fail
 obtain ⟨M,b⟩:∃W,l.alloc (.cells #[.int .i64 0] 3)=W:=⟨_,rfl⟩
 have n:Below l.heap.size l M:=by rw [←b];exact bal
 have i:M.cell? ⟨l.heap.size,0,none⟩=some (.int .i64 ((0:Nat):Int)):=by rw [←b,World.cell?_alloc_new];rfl
 have D:=bth q n
 have N:=ah (iW w.heap.size w.heap.size _ l.heap.size 0 M (U.out.below n) i (by decide) (by decide) D.out.size)
 rw [b]
 clear b n i S
 refine N.out.mono ?_
 rintro e f ⟨rfl,m,A⟩
 rw [wY] at m
 have E:=ah (D.out.trans A)
 have Y:=ah m
 have O:=K.out f E.out
 have P:f.cell? ⟨g,0,none⟩=some (.slice none 0 0):=O 0 _ rfl
 have X:f.cell? ⟨g,2,none⟩=some (.slice none 0 0):=O 2 _ rfl
 clear m A O
 go_wp2_with fail
 refine wp_loop_rounds 1 ?_
 rw [rounds_succ]
 go_wp2_with fail
 obtain ⟨R,d⟩:∃W,f.alloc (.cells #[.int .i64 0] 3)=W:=⟨_,rfl⟩
 have k:Below f.heap.size f R:=by rw [←d];exact bal
 have j:R.cell? ⟨f.heap.size,0,none⟩=some (.int .i64 ((0:Nat):Int)):=by rw [←d,World.cell?_alloc_new];rfl
 have F:=bth E k
 have G:=ah (iW w.heap.size w.heap.size _ f.heap.size 0 R (Y.out.below k) j (by decide) (by decide) F.out.size)
 rw [d]
 clear d k j P X
 refine G.out.mono ?_
 rintro e Z ⟨rfl,p,t⟩
 rw [wY] at p
 have y:=ah (F.out.trans t)
 have T:=ah (pz w.heap.size w.heap.size _ Z p (by decide))
 have r6:=K.out Z y.out
 have ad:Z.cell? ⟨g,2,none⟩=some (.slice none 0 0):=r6 2 _ rfl
 clear p t r6
 go_wp2_with fail
 refine wp_loop_rounds 1 ?_
 rw [rounds_succ]
 go_wp2_with fail
 refine T.out.mono ?_
 rintro e w7 ⟨rfl,v⟩
 have z:=ah (y.out.trans v)
 have V:=ah (fun s (hs:s.size≤1000000000)=>nU s w7 (ab.out.below z.out) hs)
 have r:=V.out (ofB ([]++[83,77,88,49]++[0]++[0])) (by decide)
 have J:=ah r
 clear v r
 go_wp2_with fail
 refine J.out.mono ?_
 rintro e w8 ⟨rfl,C⟩
 have Q:=bth z C
 clear C
 go_wp2_with fail
 go_ret
 exact ⟨⟨_,rfl⟩,Q.out⟩
theorem yR (w:World):(Instr.build 260 #[]).run prog w= .ok (.agg #[.slice none 0 0,.slice none 0 0,.slice none 0 0]) w:=run_build w 260 _ _ (by kernel_rfl)
theorem GA (w:World) (A:Crc w):Calls prog 127 #[.slice none 0 0] w fun e w'=>(∃s,e= .returned (.tuple #[.string s,.int .i64 0]))∧Below w.heap.size w w':=by
 have D:=yR
 have t:=ah (Eb w)
 have q:=ah (yt w)
 obtain ⟨W,k⟩:∃W,w.alloc (.cells #[.slice none 0 0,.slice none 0 0,.slice none 0 0] 260)=W:=⟨_,rfl⟩
 have H:Hid (Below w.heap.size w W):=ah (by rw [←k];exact bal)
 have B:Hid (ak W w.heap.size 260 [.slice none 0 0,.slice none 0 0,.slice none 0 0]):=ah (by rw [←k];exact ak.new w 260 [.slice none 0 0,.slice none 0 0,.slice none 0 0])
 have G:=ah k
 have C:=ah A
 clear k A
 go_enter func127,ntmps127
 go_wp2_with fail
 refine t.out.mono ?_
 rintro e w1 ⟨rfl,rfl⟩
 go_wp2_with fail
 refine q.out.mono ?_
 rintro e w1 ⟨rfl,rfl⟩
 go_upto_region 6 with fail
 rw [G.out]
 go_wp2_with fail
 refine wp_loop_rounds 1 ?_
 rw [rounds_succ]
 have z:=ah (sP w1.heap.size (.slice none 0 0) W B.out)
 go_wp2_with fail
 refine z.out.mono ?_
 rintro e F ⟨rfl,f⟩
 have l:=bth H f
 have n:=ah (B.out.below f)
 clear f
 go_wp2_with fail
 refine wp_loop_rounds 1 ?_
 rw [rounds_succ]
 have I:=ah (Bn F)
 go_wp2_with fail
 refine I.out.mono ?_
 rintro e w3 ⟨rfl,g⟩
 have v:=bth l g
 have b:=n.out.below g
 have k2:w3.cell? ⟨w1.heap.size,2,none⟩=some (.slice none 0 0):=b.range 2 _ rfl
 have y:w3.frozen? ⟨w1.heap.size,2,none⟩=false:=by have:=(b.there 2 (by simp)).2;rwa [Nat.zero_add] at this
 obtain ⟨o,a⟩:∃W,w3.setCell ⟨w1.heap.size,2,none⟩ (.slice none 0 0)=W:=⟨_,rfl⟩
 have i:Hid (ak o w1.heap.size 260 [.slice none 0 0,.slice none 0 0,.slice none 0 0]):=ah (by rw [←a];exact b.put 2 (.slice none 0 0))
 have x:Hid (Below w1.heap.size w1 o):=ah (by rw [←a];exact v.out.setCell (Nat.le_refl _) _)
 have r:=ah (sP w1.heap.size (.slice none 0 0) o i.out)
 have u:=ah a
 clear g b a
 go_upto_region 23 with fail
 rw [u.out]
 clear k2 y
 go_wp2_with fail
 refine r.out.mono ?_
 rintro e E ⟨rfl,d⟩
 have j:=bth x d
 have p:=ah (Ci w1.heap.size (.slice none 0 0) E (i.out.below d) (C.out.below j.out))
 clear d
 go_wp2_with fail
 refine p.out.mono ?_
 rintro e J ⟨⟨s,rfl⟩,h⟩
 have m:=bth j h
 clear h
 go_wp2_with fail
 go_ret2
 exact ⟨⟨s,rfl⟩,m.out⟩
end
section
open Go.RowKit Go.Maps Go.Shelf
theorem F9 {P:Program} {fn:Func} {R:Ending→World→Prop} {a:Act} {w:World} {p q r:Tmp} {ty:TypeId} (h:fn.results= #[.cell p ty,.tmp q,.tmp r]) (b o:Nat)
  (i:a.tmps.getD p undef= .pointer (some ⟨b,o,none⟩)) (cs:List Value) (d:TypeDesc) (j:w.rangeAt b o cs)
  (hu:P.underlying ty=some d) (hd:d.isRow=true) (hi:(P.info? ty).map (·.size)=some cs.length) (e:a.defers=[]) (u v:Value) (g:a.tmps.getD q undef=u) (f:a.tmps.getD r undef=v) (k:R (.returned (.tuple #[.agg cs.toArray,u,v])) w):bodyPost P fn R .ret a w:=by
 refine bodyPost_ret (v:=.tuple #[.agg cs.toArray,u,v]) ?_ e k
 have:=run_loadVar_mid (P:=P) w b o ty cs d j hu hd hi
 simp only [results,h]
 rw [Array.getD_eq_getD_getElem?] at i g f
 simp [asAddr,i,g,f,this]
theorem Br (w:World):Calls prog 83 #[.pointer none] w fun e w'=>e= .returned (.int .i64 3)∧w'=w:=by
 go_enter func83,ntmps83
 go_wp2_with fail
 go_ret
 exact ⟨rfl,rfl⟩
theorem Jl (m:Int) (w:World):Calls prog 86 #[.pointer none,.int .i64 m] w fun e w'=>e= .returned (.int .i64 0)∧w'=w:=by
 have d:=ah (Br w)
 go_enter func86,ntmps86
 go_wp2_with fail
 refine eZ (fun _ _ _=>False) (fun _ _ _=>0) (fun l a w b=>b.elim) ?_
 intro _
 go_wp2_with fail
 refine d.out.mono ?_
 rintro e w1 ⟨rfl,rfl⟩
 go_wp2_with fail
 rw [Exit.gB]
 go_ret
 exact ⟨rfl,rfl⟩
theorem Kc (w:World):Calls prog 37 #[.pointer none] w fun e w'=>e= .returned (.int .i64 3)∧w'=w:=by
 have a:=ah (Br w)
 go_enter func37,ntmps37
 go_wp2_with fail
 refine a.out.mono ?_
 rintro e w1 ⟨rfl,rfl⟩
 go_wp2_with fail
 go_ret
 exact ⟨rfl,rfl⟩
theorem Ea (s:ByteArray) (w:World):Calls prog 171 #[.string s,.string ⟨#[72]⟩] w fun e w'=>e= .returned (.tuple #[.string ⟨(Lib.trimPrefix s.data.toList [72]).toArray⟩,.bool (Lib.hasPrefix s.data.toList [72])])∧w'=w :=
 Any.strings_CutPrefix Tryz.lays103 s ⟨#[72]⟩ w
theorem Jb:((rd0 ⟨#[]⟩).text 65536).2=⟨#[]⟩:=by decide +kernel
theorem Co (b:Nat) (w:World) (p:Arr w b 3 (rd0 ⟨#[]⟩).c) (m:Crc w) (hb:2<b):Calls prog 130 #[.pointer (some ⟨b,0,none⟩),.string ⟨#[72]⟩] w fun e w'=>e= .returned (.pointer none)∧Chg (fun k=>k=b) w w':=by
 have l:=ah (jB b (rd0 ⟨#[]⟩) 65536 w p (dz _ (by decide)) (by decide))
 rw [Jb] at l
 have n:=ah m
 clear p m
 go_enter func130,ntmps130
 go_wp2_with fail
 refine l.out.mono ?_
 rintro e w1 ⟨rfl,_,a⟩
 have d:Crc w1:=⟨jc n.out.row a (fun e=>by have:=Option.some.inj e;omega),Nat.lt_of_lt_of_le n.out.lt a.size⟩
 have o:=ah (mJ ⟨#[]⟩ w1 d (by decide))
 rw [(iw (s:=⟨#[]⟩) (by decide)).1,(iw (s:=⟨#[]⟩) (by decide)).2] at o
 have h:Hid (Chg (fun k=>k=b) w w1):=ah (Chg.dW a (fun k e=>(Option.some.inj e).symm))
 clear a d
 go_wp2_with fail
 refine o.out.mono ?_
 rintro e j ⟨rfl,f⟩
 have i:Hid (Chg (fun k=>k=b) w j):=ah (h.out.trans (Chg.of_below f))
 have g:=ah (Ea ⟨#[]⟩ j)
 clear f
 go_wp2_with fail
 refine g.out.mono ?_
 rintro e w3 ⟨rfl,rfl⟩
 go_wp2_with fail
 go_ret
 exact ⟨rfl,i.out⟩
theorem Ii (w:World):(Instr.build 111 #[]).run prog w= .ok (.agg #[.slice none 0 0,.slice none 0 0]) w:=run_build w 111 _ _ (by kernel_rfl)
def NN (n:Nat) (w:World):Nat→Act→World→Prop
 | 0,a,w'=> ∃(v5 v6 v7 v8 v9 P Q k W z b S E R A V K C t e X M H T f F B p U G Y ab ac u D s q Z l h x J v I i y o g aa N O L r m d j ad:Value),a= { tmps:=#[.string ⟨#[]⟩,undef,.pointer (some ⟨n,0,none⟩),.int .i64 0,.int .i64 0,v5,v6,v7,v8,v9,P,Q,k,W,z,b,S,E,R,A,V,K,C,t,e,X,M,H,T,f,F,B,p,U,G,Y,ab,ac,u,D,s,q,Z,l,h,x,J,v,I,i,y,o,g,aa,N,O,L,r,m,d,j,ad],defers:=[] } ∧
   Hid (ak w' n 111 [.slice none 0 0,.slice none 0 0]∧Below n w w')
 | _,_,_=>False
theorem Gc (w:World) (P:Crc w):Calls prog 68 #[.string ⟨#[]⟩] w fun e w'=>e= .returned (.tuple #[.agg #[.slice none 0 0,.slice none 0 0],.int .i64 0,.int .i64 2])∧Below w.heap.size w w':=by
 have V:=Ii
 have Q:=ah P
 obtain ⟨n,J⟩:∃n,w.heap.size=n:=⟨_,rfl⟩
 rw [J]
 have r:=ah J
 clear P J
 go_enter func68,ntmps68
 go_wp2_with fail
 obtain ⟨W0,d⟩:∃W,w.alloc (.cells #[.slice none 0 0,.slice none 0 0] 111)=W:=⟨_,rfl⟩
 have K:Hid (ak W0 n 111 [.slice none 0 0,.slice none 0 0]):=ah (by rw [←d,←r.out];exact ak.new w 111 [.slice none 0 0,.slice none 0 0])
 have p:Hid (Below n w W0):=ah (by rw [←d,←r.out];exact bal)
 have f:Hid (W0.heap.size=n+1):=ah (by rw [←d,←r.out];simp)
 rw [d,r.out]
 clear d
 refine eZ (NN n w) (fun _ _ _=>0) ?_ ?_
 ·rintro l a w' D _
  match l,D with
  | 0,D =>
   refine ⟨_,rfl,?_⟩
   obtain ⟨v5,v6,v7,v8,v9,bo,bp,be,ac,aq,bc,a8,bj,aw,bf,a9,a6,bh,Y,a0,ba,ab,a5,br,af,a4,a3,am,ax,bk,az,ae,aE,a2,bi,ao,an,ad,T,ag,aa,bm,Z,bl,ai,ap,U,bd,bs,bn,a7,ar,X,a1,S,al,bb,rfl,hx⟩:=D
   have C:w'.there n 0 2:=hx.out.1.there
   have N:(prog.info? 111).map (·.size)=some ([.slice none 0 0,.slice none 0 0]:List Value).length:=mZ
   have E:=ah mZ
   obtain ⟨x,h⟩:∃x,w'.setCells n 0 [.slice none 0 0,.slice none 0 0]=x:=⟨_,rfl⟩
   have B:Hid (ak x n 111 [.slice none 0 0,.slice none 0 0]):=ah (by rw [←h];exact hx.out.1.set rfl)
   have G:Hid (Below n w x):=ah (by rw [←h];exact below_setCells _ (Nat.le_refl _) _ _ _ hx.out.2)
   have A:=ah h
   clear h
   go_wp2_with (refine aj rfl 111 _ _ rfl n 0 [.slice none 0 0,.slice none 0 0] rfl rfl 2 rfl C E.out (by intro v R;simp at R;rw [R];rfl) ?_;rw [A.out])
   have H:=B.out.range
   rw [Exit.gB]
   refine F9 rfl n 0 rfl [.slice none 0 0,.slice none 0 0] _ H underlying111 rfl N rfl _ _ rfl rfl ?_
   exact ⟨rfl,G.out⟩
 intro _
 have F:=ah (gJ ⟨#[]⟩ W0)
 go_wp2_with fail
 refine F.out.mono ?_
 rintro e w1 ⟨rfl,q⟩
 obtain ⟨m,hm⟩:∃m,W0.heap.size=m:=⟨_,rfl⟩
 have s:Hid (Arr w1 m 3 (rd0 ⟨#[]⟩).c):=ah (by rw [q,←hm];exact eF _ W0 _)
 have M:Hid (Below m W0 w1):=ah (by rw [q,←hm];exact bal)
 rw [hm]
 have b:=ah hm
 clear hm q
 go_upto_region 3 with fail
 obtain ⟨z,i⟩:∃W,(w1.alloc (.cells #[.slice none 0 0,.slice none 0 0] 111)).alloc (.cells #[.slice none 0 0,.slice none 0 0] 111)=W:=⟨_,rfl⟩
 have o:Below w1.heap.size w1 z:=by rw [←i];exact bal.alloc (by simp) _
 have u:m<w1.heap.size:=s.out.lt (by omega)
 have I:=ah (s.out.below o u)
 have g:Hid (Below m W0 z):=ah (M.out.trans (o.mono (by omega)))
 have t:Crc z:=(Q.out.below (by rw [r.out];exact p.out)).below (by rw [b.out];exact g.out)
 have HU:=ah (Co m z I.out t (by have h1:=(Q.out.below (by rw [r.out];exact p.out)).lt;have y:=b.out;omega))
 have O:=ah (fun W=>Jl 16 W)
 have L:=ah (fun W=>Kc W)
 rw [i]
 clear i o u t
 go_wp2_with fail
 refine HU.out.mono ?_
 rintro e w3 ⟨rfl,j⟩
 have HJ:Hid (ak w3 n 111 [.slice none 0 0,.slice none 0 0]∧Below n w w3):=ah ⟨(K.out.below (by rw [b.out];exact g.out)).chg j (by have h1:=b.out;have y:=f.out;omega),Chg.below (p.out.trans (g.out.mono (by have h1:=b.out;have y:=f.out;omega))) j (by have h1:=b.out;have y:=f.out;have:=g.out.size;omega) (fun k hk=>by have h1:=b.out;have y:=f.out;omega)⟩
 clear j
 go_wp2_with fail
 refine (O.out _).mono ?_
 rintro e w4 ⟨rfl,rfl⟩
 go_wp2_with fail
 refine wp_loop_rounds 1 ?_
 rw [rounds_succ]
 go_wp2_with fail
 refine (L.out _).mono ?_
 rintro e w5 ⟨rfl,rfl⟩
 go_wp2_with fail
 refine wp_goto ?_
 simp only [Exit.then,Exit.uf]
 exact ⟨_,_,_,_,_,_,_,_,_,_,_,_,_,_,_,_,_,_,_,_,_,_,_,_,_,_,_,_,_,_,_,_,_,_,_,_,_,_,_,_,_,_,_,_,_,_,_,_,_,_,_,_,_,_,_,_,_,rfl,HJ⟩
end
section
open Go.RowKit Go.Maps
structure qV (w:World) (vt vl:Value) (t l:List Rf):Prop where
 tab:o7 w vt t
 log:o7 w vl l
 capt:KM vt
 capl:KM vl
 ok:∀ r ∈ t ++ l,r.1.size ≤ 1000000 ∧ r.2.length = 32
theorem qV.below {w w':World} {vt vl:Value} {t l:List Rf} (h:qV w vt vl t l) (hb:Below w.heap.size w w'):qV w' vt vl t l:=⟨h.tab.below hb,h.log.below hb,h.capt,h.capl,h.ok⟩
def Mj (b:Bool) (w:World) (e:Ending) (w':World):Prop:=e= .returned (.bool b)∧Below w.heap.size w w'
theorem jh (vt vl:Value) (t l:List Rf) (w:World) (h:qV w vt vl t l):Calls prog 132 #[.agg #[vt,vl]] w (Mj (eD t l) w):=by
 obtain ⟨W,k⟩:∃W,w.alloc (.cells #[vt,vl] 111)=W:=⟨_,rfl⟩
 have d:Below w.heap.size w W:=by rw [←k];exact bal
 have hx:ak W w.heap.size 111 [vt,vl]:=by rw [←k];exact ak.new w 111 [vt,vl]
 have i:=h.below d
 have m:=ah (CQ vt vl t l l.length W i.tab i.log i.ok (Nat.le_refl _) i.capl)
 have r:=ah d
 obtain ⟨la,s,e,p,_⟩:=h.log.open
 have q:(prog.info? 111).map (·.size)=some ([vt,vl]:List Value).length:=mZ
 have n:=hx.range
 have c1:W.cell? ⟨w.heap.size,1,none⟩=some vl:=n 1 _ rfl
 subst e
 have o:=ah k
 unfold xU at m
 rw [List.take_length] at m
 clear k d hx i h
 go_enter func132,ntmps132
 go_upto_region 1 with fail
 rw [o.out]
 go_wp2_with (refine wpList_load_mid rfl 111 _ rfl w.heap.size 0 rfl _ _ n underlying111 rfl q ?_)
 refine m.out.mono ?_
 rintro e w1 ⟨a,b⟩
 have g:=bth r b
 cases f:eY t l with
 | none =>
  rw [f] at a
  dsimp only at a
  subst a
  have j:Hid (eD t l=false):=ah (by unfold eD;rw [f];rfl)
  clear f b
  go_wp2_with fail
  go_ret
  rw [j.out]
  exact ⟨rfl,g.out⟩
 | some V =>
  rw [f] at a
  obtain ⟨u,rfl,_,_⟩:=a
  have j:Hid (eD t l=decide (l.length≤100)):=ah (by unfold eD;rw [f];simp)
  generalize decide (l.length≤100)=ok at j
  clear f b
  go_wp2_with fail
  go_ret
  rw [j.out]
  exact ⟨rfl,g.out⟩
theorem rM:(prog.info? 143).map (·.size)=some 32:=by decide +kernel
theorem Hg (w:World) (p:Addr) (n:Nat) {k:Nat} (h:k≠p.block):(w.freeze p n).heap[k]? = w.heap[k]?:=by
 unfold World.freeze
 split
 ·rfl
 rw [Array.getElem?_modify,if_neg (Ne.symm h)]
theorem zo (B b:Nat) (l:List UInt8) (w:World) (h:Wr B b l w) (y:l≠[]) :
  Calls prog 161 #[.pointer (some ⟨b,0,none⟩)] w fun e w'=>e= .returned (.string (ofB l))∧Below B w w'∧zB b w w':=by
 obtain ⟨p,J,v,t,d,f⟩:∃p,Lib.BuilderAt 134 5 B b p (Lib.byteCells l) w:=by
  rcases h with h|h
  ·exact ⟨_,h⟩
  exact ⟨_,h⟩
 have o:l.length≠0:=by simpa using y
 rw [Lib.byteCells_length] at d
 obtain ⟨g,a,cur,rfl,q,z,A,m,E,s⟩:∃g a cur,v= .slice (some ⟨g,0,none⟩) l.length a∧B≤g∧w.heap[g]? = some (.cells cur 5 (0,0))∧l.length≤a∧a≤maxLen∧cur.size=a*1∧cur.toList.take (l.length*1)=Lib.byteCells l:=by
  rcases d.2 with ⟨_,D⟩|⟨g,a,cur,G,r⟩
  ·exact absurd D o
  exact ⟨g,a,cur,G,r⟩
 have c1:w.drew.cell? ⟨b,1,none⟩=some (.slice (some ⟨g,0,none⟩) l.length a):=by
  have:w.drew.heap[b]? = some (.cells #[p,.slice (some ⟨g,0,none⟩) l.length a] 134 (0,0)):=t
  rw [Lib.cell_of_heap this];rfl
 have C:(Builtin.unsafeSliceData_ #[89] 301 #[.slice (some ⟨g,0,none⟩) l.length a]).run prog w.drew= .ok (.pointer (some ⟨g,0,none⟩)) w.drew :=
  Lib.run_unsafeSliceData_row _ _ _ _ _ _ (by omega)
 have I:(Builtin.unsafeString_ #[301,3] 9 #[.pointer (some ⟨g,0,none⟩),.int .i64 l.length]).run prog w.drew= .ok (.string ⟨l.toArray⟩) (w.drew.freeze ⟨g,0,none⟩ l.length):=by
  refine Lib.run_unsafeString_row w.drew 301 3 9 5 underlying301 (by kernel_rfl) g cur.size (by have u:w.drew.heap[g]? = some (.cells cur 5 (0,0)):=z;simp [World.shape?,u]) l y (by omega) (by unfold maxLen at m;omega) ?_
  intro j x hx
  have:=d.cells (g:=g) rfl j (.int .u8 x.toNat) (by simp [Lib.byteCells,hx])
  exact this
 have F:Hid (∀n,zB b w (w.drew.freeze ⟨g,0,none⟩ n)):=ah fun n k cs ty fr _ i H=>by
  have f:k≠g:=fun e=>by
   subst e
   rw [z] at i
   injection i with i
   injection i with _ h2
   exact H h2.symm
  rw [Hg _ _ _ f]
  exact i
 go_enter func161,ntmps161
 go_wp2
 go_region
 all_goals (go_wp2;go_ret;exact ⟨rfl,Lib.below_freeze (Below.drew (Below.refl B w)) (p:=⟨g,0,none⟩) q _,F.out _⟩)
theorem Ch (B b:Nat) (l:List UInt8) (w:World) (h:Wr B b l w) (a:l≠[]) :
  Calls prog 90 #[.pointer (some ⟨b,0,none⟩)] w fun e w'=>e= .returned (.string (ofB l))∧Below B w w'∧zB b w w':=by
 have HS:=ah (zo B b l w h a)
 clear h
 go_enter func90,ntmps90
 go_wp2_with fail
 refine HS.out.mono ?_
 rintro e w1 ⟨rfl,hb⟩
 go_wp2
 go_ret
 exact ⟨rfl,hb⟩
theorem vW (B b:Nat) (L:List UInt8) (g:Nat) (x:List UInt8) (w:World) (h:Wr B b L w) (S:w.rangeAt g 0 (idC x)) (hx:x.length=32) (Q:L.length≤1000000) (E:B≤w.heap.size) :
  Calls prog 135 #[.pointer (some ⟨b,0,none⟩),.slice (some ⟨g,0,none⟩) 1 1] w fun e w'=>e= .returned (.tuple #[])∧Wr B b (L++x) w'∧Below B w w':=by
 have Z:=ah h
 have HX:=ah hx
 have f:(idC x).length=32:=by rw [aA,hx]
 obtain ⟨C,Y,hi,G,V,I,R,l⟩:=gL
 have v:(prog.info? 143).map (·.size)=some (idC x).length:=by rw [f];exact rM
 have M:=ah (there_alloc (n:=32) w C 143 l)
 obtain ⟨W,D⟩:∃W,(w.alloc (.cells C 143)).setCells w.heap.size 0 (idC x)=W:=⟨_,rfl⟩
 have a:Below w.heap.size w W:=by rw [←D];exact below_setCells _ (Nat.le_refl _) _ _ _ bal
 have u:ak W w.heap.size 143 (idC x):=by rw [←D];exact ak.set (cs:=C.toList) (by have:=ak.new w 143 C.toList;simpa using this) (by rw [f];simpa using l.symm)
 have J:∀c,(convert 89 9 (.slice (some ⟨w.heap.size,0,none⟩) 32 c)).run prog W= .ok (.string (ofB x)) W:=fun c=>by
  have:=run_convert_bytes_back (P:=prog) W 89 9 5 ⟨w.heap.size,0,none⟩ c x underlying89 underlying5 underlying9 fun j T=>by
   rw [Addr.add_mid]
   exact u.range j _ (by simp [idC,T])
  rwa [hx] at this
 have U:∃o,W.alloc (.cells #[.string (ofB x)] 9)=o:=⟨_,rfl⟩
 obtain ⟨o,k⟩:=U
 have d:Below W.heap.size W o:=by rw [←k];exact bal
 have t:o.cell? ⟨W.heap.size,0,none⟩=some (.string (ofB x)):=by rw [←k];exact (ak.new W 9 [.string (ofB x)]).range 0 _ rfl
 have m:=iA B b L W.heap.size (ofB x) o ((h.below a).below d) t (by rw [aK];omega) (by have:=a.size;have:=d.size;omega)
 rw [aS] at m
 have z:=ah m
 have N:Hid (Below B w o):=ah ((a.mono E).trans (d.mono (by have:=a.size;omega)))
 have p:=ah (bC x)
 have q:=ah D
 have O:=ah k
 have r:=rM
 clear h D a u d t k m hx G I
 generalize idC x=cx at S f v p q
 go_enter func135,ntmps135
 go_wp2_with fail
 go_loopw [5,8] (fun _ i wr=>(i= .int .i64 0∧w=wr)∨(i= .int .i64 1∧Wr B b (L++x) wr∧Below B w wr)) (fun _ i _=>(1-intOf i).toNat)
 case atStart=>exact .inl ⟨rfl,rfl⟩
 rcases hrel with ⟨rfl,rfl⟩|⟨rfl,A,s⟩
 ·go_wp2_with (first
   | refine wpList_load_mid rfl 143 _ rfl g 0 rfl cx _ S underlying143 rfl v ?_
   | refine aj rfl 143 _ _ rfl w.heap.size 0 cx rfl rfl 32 f M.out r p.out ?_;rw [q.out])
  rw [O.out]
  refine z.out.mono ?_
  rintro e w1 ⟨rfl,h1,y⟩
  have X:=ah h1
  have H:=ah (N.out.trans y)
  clear h1 y z J
  go_wp2_with fail
  go_roundw
  case rel=>exact .inr ⟨by go_num,X.out,H.out⟩
  case measure=>simp [intOf]
 have K:=ah A
 have F:=ah s
 clear A s
 go_wp2
 go_end0
 exact ⟨rfl,K.out,F.out⟩
theorem Crc.nG {B:Nat} {w w':World} (h:Crc w) (hb:Below B w w') (a:5≤B):Crc w':=⟨ay h.row hb (by omega),by have:=h.lt;have:=hb.size;omega⟩
theorem Iw {b n:Nat} {w w':World} (h:w.heap[n]? = some (.cells #[.pointer none,.slice none 0 0] 134 (0,0))) (d:zB b w w') (a:n≠b):w'.heap[n]? = some (.cells #[.pointer none,.slice none 0 0] 134 (0,0)):=d n _ _ _ a h (by decide)
theorem sS (B b:Nat) (L:List UInt8) (w:World) (h:Wr B b L w) (T:L≠[]) (Z:L.length≤100000) (l:B≤w.heap.size) (X:5≤B) (C:Crc w) :
  Calls prog 136 #[.pointer (some ⟨b,0,none⟩)] w fun e w'=>e= .returned (.string (ofB (Ga L)))∧Below B w w':=by
 obtain ⟨W,D⟩:∃W,w.alloc (.cells #[.pointer none,.slice none 0 0] 134)=W:=⟨_,rfl⟩
 have p:Below w.heap.size w W:=by rw [←D];exact bal
 have t:W.heap[w.heap.size]? = some (.cells #[.pointer none,.slice none 0 0] 134 (0,0)):=by rw [←D];exact World.alloc_heap_new w _
 have ab:=h.lt
 have HS:=ah (Ch B b L W (h.below p) T)
 have Y:=ah t
 have V:=ah (p.mono l)
 have U:=ah D
 have P:Hid (w.heap.size≠b):=ah (by omega)
 have R:=ah C
 have J:Hid (W.heap.size=w.heap.size+1):=ah (by rw [←D];simp)
 have S:=ah Z
 have f:=ah l
 have H5:=ah X
 clear h D p t C T Z l X
 go_enter func136,ntmps136
 go_wp2_with fail
 rw [U.out]
 refine HS.out.mono ?_
 rintro e w1 ⟨rfl,r,F⟩
 have d:Below B w w1:=V.out.trans r
 have x:=Iw Y.out F P.out
 have k:Crc w1:=R.out.nG d H5.out
 have aa:(ofB L).size≤100000:=by rw [aK];exact S.out
 have q:=ah (nU (ofB L) w1 k (by omega))
 have Q:=ah x
 have m:=ah d
 have o:Hid (w.heap.size+1≤w1.heap.size):=ah (by have:=r.size;have:=J.out;omega)
 rw [aS] at q
 clear r F d x k HS Y V U
 go_wp2_with fail
 refine q.out.mono ?_
 rintro e n ⟨rfl,a⟩
 have H:n.heap[w.heap.size]? = some (.cells #[.pointer none,.slice none 0 0] 134 (0,0)):=(a.block _ (by have:=o.out;omega)).trans Q.out
 obtain ⟨j,g⟩:∃j,n.alloc (.cells #[.string (ofB (bS L))] 9)=j:=⟨_,rfl⟩
 have i:Below n.heap.size n j:=by rw [←g];exact bal
 have I:j.heap[w.heap.size]? = some (.cells #[.pointer none,.slice none 0 0] 134 (0,0)):=(i.block _ (by have:=o.out;have:=a.size;omega)).trans H
 have v:Wr w.heap.size w.heap.size [] j:=by
  exact .inl ⟨Nat.le_refl _,.slice none 0 0,I,World.ownsRow_nil _ _ _ _,by simp [Value.ownBlock]⟩
 have z:j.cell? ⟨n.heap.size,0,none⟩=some (.string (ofB (bS L))):=by rw [←g];exact (ak.new n 9 [.string (ofB (bS L))]).range 0 _ rfl
 have K:=iB L
 have s:=ah (mH w.heap.size w.heap.size [] n.heap.size (ofB (bS L)) j v z (by rw [aK];have:=S.out;omega) (by simp) (by have:=o.out;have:=a.size;have:=i.size;omega))
 have M:Hid (Below B w j):=ah ((m.out.trans (a.mono (by have:=m.out.size;have:=f.out;omega))).trans (i.mono (by have:=m.out.size;have:=f.out;have:=a.size;omega)))
 rw [List.nil_append,aS,aK] at s
 have A:=ah g
 clear a H g i I v z K q
 go_wp2_with fail
 rw [A.out]
 refine s.out.mono ?_
 rintro e w4 ⟨rfl,y,E⟩
 have G:=ah (pz w.heap.size w.heap.size _ w4 y (by
  rw [aM]
  split<;>simp))
 have O:=ah (M.out.trans (E.mono f.out))
 clear y E s A
 go_wp2_with fail
 refine G.out.mono ?_
 rintro e w5 ⟨rfl,u⟩
 have N:=ah (O.out.trans (u.mono f.out))
 clear u G
 go_wp2_with fail
 go_ret
 exact ⟨rfl,N.out⟩
theorem Ja (r:Rf):r.1.size≤1000→r.2.length=32→(jk r).length≤1100:=fun h1 b=>by
 unfold jk
 have a:=jq r.1
 have:=xY (s:=r.1.data.toList) (by omega)
 rw [List.length_append];omega
theorem zf (r:Rf) (w:World) (hz:r.1.size≤1000) (h2:r.2.length=32) (h5:5≤w.heap.size) (Q:Crc w) :
  Calls prog 137 #[.agg (rfC r).toArray] w fun e w'=>e= .returned (.string (ofB (uO r)))∧Below w.heap.size w w':=by
 obtain ⟨C,d⟩:∃W,w.alloc (.cells (rfC r).toArray 191)=W:=⟨_,rfl⟩
 have ad:Below w.heap.size w C:=by rw [←d];exact bal
 have A:C.heap.size=w.heap.size+1:=by rw [←d];simp
 have G:ak C w.heap.size 191 (rfC r):=by rw [←d];exact ak.new w 191 (rfC r)
 obtain ⟨m,b⟩:∃W,C.alloc (.cells #[.pointer none,.slice none 0 0] 134)=W:=⟨_,rfl⟩
 have z:Below C.heap.size C m:=by rw [←b];exact bal
 have af:m.heap.size=w.heap.size+1+1:=by rw [←b,←A];simp
 have Y:Wr (w.heap.size+1) (w.heap.size+1) [] m:=by rw [←A,←b];exact Lib.fresh_isBuilder 134 5 C
 obtain ⟨o,k⟩:∃W,m.alloc (.cells #[.string ⟨#[69]⟩] 9)=W:=⟨_,rfl⟩
 have a:Below m.heap.size m o:=by rw [←k];exact bal
 have B:o.cell? ⟨w.heap.size+1+1,0,none⟩=some (.string ⟨#[69]⟩):=by rw [←af,←k];exact (ak.new m 9 [.string ⟨#[69]⟩]).range 0 _ rfl
 have ao:Below (w.heap.size+1) m o:=a.mono (by omega)
 have N:=ah (iA (w.heap.size+1) (w.heap.size+1) [] (w.heap.size+1+1) ⟨#[69]⟩ o (Y.below a) B (by decide) (by have:=a.size;omega))
 have O:=ah ((G.below z).below a)
 have L:Hid (Below w.heap.size w o):=ah ((ad.trans (z.mono (by omega))).trans (a.mono (by omega)))
 have az:w.heap.size+1+1<o.heap.size:=by have:=World.block_lt_of_cell? o _ B;exact this
 have HW:Hid ((w.alloc (.cells (rfC r).toArray 191)).alloc (.cells #[.pointer none,.slice none 0 0] 134)=m):=ah (by rw [d,b])
 have Z:=ah k
 have aw:=ah af
 have aq:=ah Q
 have hi:(idC r.2).length=32:=by rw [aA,h2]
 have g:(prog.info? 143).map (·.size)=some (idC r.2).length:=by rw [hi];exact rM
 have X:Hid (∀w,(sizeOf 143).run prog w= .ok (idC r.2).length w):=ah fun w=>by rw [hi];kernel_rfl
 obtain ⟨zi,i0,_,_,_,_,M,_⟩:=gL
 have v:=ah hi
 have E:Hid (∀j u,(idC r.2)[j]? = some u→(rfC r)[j+1]? = some u):=ah fun j u hu=>by unfold rfC;rw [List.getElem?_cons_succ];exact hu
 have V:Hid ((rfC r)[0]? = some (.string r.1)):=ah rfl
 clear d b k ad z a A G Y B ao Q hi
 generalize ap:rfC r=rc at O HW E V
 clear ap
 generalize P:idC r.2=F at g X v E
 have am:=ah P
 clear P
 go_enter func137,ntmps137
 go_upto_region 2 with fail
 rw [HW.out]
 go_wp2_with fail
 rw [Z.out]
 refine N.out.mono ?_
 rintro e p ⟨rfl,H,l⟩
 have D:ak p w.heap.size 191 rc:=(l.block _ (by omega)).trans O.out
 have d0:p.cell? ⟨w.heap.size,0,none⟩=some (.string r.1):=D.range 0 _ V.out
 obtain ⟨W5,i⟩:∃W,p.alloc (.cells #[.string r.1] 9)=W:=⟨_,rfl⟩
 have f:Below p.heap.size p W5:=by rw [←i];exact bal
 have ab:W5.cell? ⟨p.heap.size,0,none⟩=some (.string r.1):=by rw [←i];exact (ak.new p 9 [.string r.1]).range 0 _ rfl
 have ar:=l.size
 have HT:=ah (mH (w.heap.size+1) (w.heap.size+1) _ p.heap.size r.1 W5 (H.below f) ab (by omega) (by simp) (by have:=f.size;omega))
 have ag:=ah (D.below f)
 have an:Hid (Below (w.heap.size+1) o W5):=ah (l.trans (f.mono (by omega)))
 have ae:=ah i
 clear H l D i f ab N HW Z
 go_wp2_with fail
 rw [ae.out]
 refine HT.out.mono ?_
 rintro e q ⟨rfl,ac,t⟩
 have S:ak q w.heap.size 191 rc:=(t.block _ (by omega)).trans ag.out
 have d1:q.rangeAt w.heap.size 1 F:=fun j u hu=>by
  have:=S.range (j+1) u (E.out j u hu)
  rw [Nat.zero_add] at this
  rw [Nat.add_comm 1 j];exact this
 have x:=ah (an.out.trans t)
 have R:=ah ac
 clear ac t S d0 HT ae
 go_wp2_with (first
  | refine wpList_load_mid rfl 143 _ rfl w.heap.size 1 rfl F _ d1 underlying143 rfl g ?_
  | refine aO rfl _ 106 143 rfl F zi rfl underlying106 X.out M (by rw [v.out];omega) (by rw [v.out];omega) ?_)
 obtain ⟨W7,h⟩:∃W,q.alloc (.cells F.toArray 143)=W:=⟨_,rfl⟩
 have n:Below q.heap.size q W7:=by rw [←h];exact bal
 have J:ak W7 q.heap.size 143 F:=by rw [←h];exact ak.new q 143 F
 have ax:=x.out.size
 have HI:=ah (vW (w.heap.size+1) (w.heap.size+1) _ q.heap.size r.2 W7 (R.out.below n) (by rw [am.out];exact J.range) h2 (by
  have:=oF r.1.size (by omega)
  have:=jq r.1
  rw [List.length_append,List.length_append,List.length_append]
  simp only [List.length_nil,List.length_singleton]
  omega) (by have:=n.size;omega))
 have ai:=ah (x.out.trans (n.mono (by omega)))
 have T:=ah h
 clear h n J x R d1 g
 rw [T.out]
 refine HI.out.mono ?_
 rintro e w8 ⟨rfl,y,I⟩
 have s:=ah (ai.out.trans I)
 have HL:Hid ([]++[69]++(aM r.1.size++r.1.data.toList)++r.2=69::jk r):=ah (by unfold jk FI;rw [jq];simp)
 rw [HL.out] at y
 have al:=Ja r hz h2
 have aE:=s.out.size
 have K:=ah (sS (w.heap.size+1) (w.heap.size+1) _ w8 y (by simp) (by rw [List.length_cons];omega) (by omega) (by omega) (aq.out.nG (L.out.trans (s.out.mono (by omega))) h5))
 have aa:Hid (Below w.heap.size w w8):=ah (L.out.trans (s.out.mono (by omega)))
 clear y I HI T al
 go_wp2_with fail
 refine K.out.mono ?_
 rintro e w9 ⟨rfl,U⟩
 have HE:=ah (aa.out.trans (U.mono (by omega)))
 clear U K
 go_wp2_with fail
 go_ret
 exact ⟨rfl,HE.out⟩
def FrB (B:Nat) (v:Value):Prop:=∀g,v.ownBlock=some g→B≤g
theorem I9 {P:Program} {fn:Func} {R:Ending→World→Prop} {a:Act} {w:World} {p q r:Tmp} {ty:TypeId} (h:fn.results= #[.cell p ty,.tmp q,.tmp r]) (b o:Nat)
  (i:a.tmps.getD p undef= .pointer (some ⟨b,o,none⟩)) (cs:List Value) (d:TypeDesc) (j:w.rangeAt b o cs)
  (hu:P.underlying ty=some d) (hd:d.isRow=true) (hi:(P.info? ty).map (·.size)=some cs.length) (e:a.defers=[]) (u v:Value) (g:a.tmps.getD q undef=u) (f:a.tmps.getD r undef=v) (k:R (.returned (.tuple #[.agg cs.toArray,u,v])) w):bodyPost P fn R .ret a w:=by
 refine bodyPost_ret (v:=.tuple #[.agg cs.toArray,u,v]) ?_ e k
 have:=run_loadVar_mid (P:=P) w b o ty cs d j hu hd hi
 simp only [results,h]
 rw [Array.getD_eq_getD_getElem?] at i g f
 simp [asAddr,i,g,f,this]
section
variable {P:Program} {ops:Array Oper} {Q:Exit → Act → World → Prop} {S:World → Prop}
end
end
end Go.Proofs.YtejamhkgjkhjdaaGreatDoor
