/- YtbmiiiccnoiffaaGreatDoorC22: texts RF, SP of this claim, in one. -/
import Derived.LoopIn
import Derived.LoopNIn
import Derived.OwnWalkIn
import Derived.RangeFuncNested
import Derived.Shelf.SlIter.Collect
import Derived.Shelf.Strings.Split
import Derived.TacticsInMore
import Derived.Test.YtbmiiiccnoiffaaGreatDoorC11
import Derived.Test.YtbmiiiccnoiffaaGreatDoorC20
import Derived.Test.YtbmiiiccnoiffaaGreatDoorC7
import Derived.Test.YtbmiiiccnoiffaaGreatDoorShelf
import Derived.WalkKit
namespace Go.Proofs.YtbmiiiccnoiffaaGreatDoor
open Go.RowKit
section
variable {F:Fence} {n:Nat} {P:Program}
def Lies (B:Nat) (Bs:Option Nat) (p:World → Prop):Prop :=
 ∀ X Y row,p X → X.grownBy Y row → (∀ r,row = some r → Bs = some r ∨ (B ≤ r ∧ ∃ o:Obj,X.heap[r]? = some o ∧ o.isCells = false)) → p Y
theorem Lies.own {B:Nat} {Bs:Option Nat} {p:World → Prop} (h:Lies B Bs p) {X Y:World} (hp:p X) (hg:X.grownBy Y Bs):p Y:=h X Y _ hp hg fun _ e => .inl e
theorem Lies.put {B l:Nat} {Bs:Option Nat} {p:World → Prop} (h:Lies B Bs p) {X:World} {o:Obj} (o':Obj) (hp:p X) (hB:B ≤ l) (hl:X.heap[l]? = some o) (ho:o.isCells = false):p (X.putObj l o') :=
 h X _ (some l) hp (grownBy_putObj' X l o') fun r e => by cases e;exact .inr ⟨hB,o,hl,ho⟩
theorem Lies.alloc {B:Nat} {Bs:Option Nat} {p:World → Prop} (h:Lies B Bs p) {X:World} (o:Obj) (hp:p X):p (X.alloc o):=h X _ none hp (World.grownBy_alloc X o none) fun r e => by cases e
theorem Lies.and {B:Nat} {Bs:Option Nat} {p q:World → Prop} (hp:Lies B Bs p) (hq:Lies B Bs q):Lies B Bs (fun W => p W ∧ q W):=fun X Y row h hg hr => ⟨hp X Y row h.1 hg hr,hq X Y row h.2 hg hr⟩
theorem Lies.pure (B:Nat) (Bs:Option Nat) (p:Prop):Lies B Bs (fun _ => p):=fun _ _ _ h _ _ => h
theorem lies_cell {B k off:Nat} {Bs:Option Nat} {v:Value} (hne:Bs ≠ some k):Lies B Bs (fun W => W.cell? ⟨k,off,none⟩ = some v):=fun X Y row h hg hr => by
 obtain ⟨o,ho,hc⟩:=cells_of_cell h
 have hb:=hg.block k (Array.getElem?_eq_some_iff.1 ho).1 fun e => by
  rcases hr k e.symm with h1 | ⟨_,o',ho',hc'⟩
  ·exact hne h1
  ·rw [show X.heap[k]? = some o from ho] at ho'
   obtain rfl:=Option.some.inj ho'
   rw [hc] at hc';cases hc'
 exact (World.cell?_of_block (a:=⟨k,off,none⟩) hb).trans h
theorem lies_range {B k off:Nat} {Bs:Option Nat} {cs:List Value} (hne:Bs ≠ some k):Lies B Bs (fun W => W.rangeAt k off cs):=fun X Y row h hg hr j u hu => lies_cell hne X Y row (h j u hu) hg hr
theorem below_put {n₀:Nat} {w:World} (hn:n₀ ≤ w.heap.size) (W:World) (l:Nat) (o o':Obj) (hl:w.heap.size ≤ l) (h:W.heap[l]? = some o) (_:o.isCells = false):Below n₀ W (W.putObj l o') :=
 (Below.refl n₀ W).grown (grownBy_putObj' W l o') (by have:=(Array.getElem?_eq_some_iff.1 h).1;omega) (fun k e => by cases e;omega)
theorem lies_boxed {B k:Nat} {Bs:Option Nat} {t:TypeId} {v:Value} (hne:Bs ≠ some k):Lies B Bs (fun W => Boxed W k t v):=fun X Y row h hg hr =>
 h.kept hg fun e => by
  rcases hr k e.symm with h1 | ⟨_,o',ho',hc'⟩
  ·exact hne h1
  ·rw [show X.heap[k]? = _ from h] at ho'
   obtain rfl:=Option.some.inj ho'
   cases hc'
theorem lies_size {B n:Nat} {Bs:Option Nat}:Lies B Bs (fun W => n ≤ W.heap.size):=fun _ _ _ h hg _ => Nat.le_trans h hg.size
theorem lies_own {B base size k:Nat} {Bs:Option Nat} {e:TypeId} {v:Value} {xs:List Value} (hne:∀ b,Bs = some b → b < base):Lies B Bs (fun W => W.ownsRow base e size v k xs):=fun X Y row h hg hr => by
 refine h.kept hg ?_
 rcases h.2 with ⟨rfl,_⟩ | ⟨g,cap,cur,rfl,hb,hgb,_⟩
 ·exact .inl rfl
 ·refine .inr fun e' => ?_
  rcases hr g (by simpa [Value.ownBlock] using e'.symm) with h1 | ⟨_,o,ho,hc⟩
  ·have:=hne g h1;omega
  ·rw [hgb] at ho
   obtain rfl:=Option.some.inj ho
   cases hc
theorem lies_ex {β:Type} {B:Nat} {Bs:Option Nat} {p:β → World → Prop} (h:∀ x,Lies B Bs (p x)):Lies B Bs (fun W => ∃ x,p x W):=fun X Y row hx hg hr => by
 obtain ⟨x,hx⟩:=hx
 exact ⟨x,h x X Y row hx hg hr⟩
theorem grown_any {X Y:World} (h:X.grownBy Y none) (r:Option Nat):X.grownBy Y r:=⟨h.os,h.tape,h.output,h.size,fun k hk _ => h.block k hk (by simp)⟩
theorem lies_below {B n₀:Nat} {Bs:Option Nat} {w₀:World} (hn:n₀ ≤ w₀.heap.size) (hB:n₀ ≤ B) (hBs:∀ b,Bs = some b → n₀ ≤ b):Lies B Bs (fun W => Below n₀ w₀ W):=fun X Y row h hg hr => by
 refine ⟨hg.os.trans h.os,hg.tape.trans h.tape,hg.output.trans h.output,Nat.le_trans h.size hg.size,fun k hk => ?_⟩
 have hsz:=h.size
 refine (hg.block k (by omega) fun e => ?_).trans (h.block k hk)
 rcases hr k e.symm with h1 | ⟨h1,_⟩
 ·have:=hBs k h1;omega
 ·omega
def SeqCell {α:Type} (F:Fence) (n:Nat) (P:Program) (g:Nat) (lb:Array Value) (encs:α → Array Value) (Kp:World → World → Prop) (Bs:Option Nat) (L:List α) (w:World):Prop :=
 ∀ (l:Nat) (J:List α → World → Prop) (Jx:World → Prop) (W:World),Below w.heap.size w W →
  (∀ s X Y,J s X → X.grownBy Y Bs → J s Y) → (∀ X Y,Jx X → X.grownBy Y Bs → Jx Y) →
  (∀ pre x rest W1,L = pre ++ x :: rest → J pre W1 → YieldAt F (n - 1) P l (encs x) W1 fun e W' =>
   (e = .returned (.bool true) ∧ J (pre ++ [x]) W' ∧ Kp W1 W') ∨ (e = .returned (.bool false) ∧ Jx W')) →
  J [] W →
  CallsIn F n P g (#[.func (.yield l) #[] #[]] ++ lb) W fun e W' => (∃ v,e = .returned v) ∧ (J L W' ∨ Jx W')
def cellPost (B:Nat) (Kp:World → World → Prop) (I:World → Prop) (Ix:Code → World → Prop) (W:World):Exit → Act → World → Prop
 | .normal,_,W' => KeepsFrom B W W' ∧ Kp W W' ∧ I W'
 | .ret,_,W' => KeepsFrom B W W' ∧ Ix .ret W'
 | .exit id,_,W' => KeepsFrom B W W' ∧ Ix (.exit id) W'
 | .goto t,_,W' => KeepsFrom B W W' ∧ Ix (.goto t) W'
 | .panic _,_,_ => False
 | .outgrown,_,_ => False
theorem keeps_of_below {B:Nat} {W W':World} (h:Below W.heap.size W W'):KeepsFrom B W W':=⟨h.size,fun k _ _ hk _ => (h.block k (Array.getElem?_eq_some_iff.1 hk).1).trans hk⟩
theorem wpIn_rangeFunc_cell {α:Type} {g:Operand} {ps:Array Tmp} {assign body:Code} {Q:Exit → Act → World → Prop} {a:Act} {w:World}
  (hro:F.round = none) (h1:1 ≤ n) {gf:Nat} {lb:Array Value} (hg:a.eval g = .func (.func gf) #[] lb) (hFg:F.fn gf) (eg:∀ args w,(callFunc gf args).run P w = .ok (.enter gf args) w)
  {encs:α → Array Value} {Kp:World → World → Prop} {Bs:Option Nat} {L:List α} {w0:World} (hseq:SeqCell F (n - 1) P gf lb encs Kp Bs L w0)
  (hKt:∀ {A B C:World},Kp A B → Kp B C → Kp A C) (hKb:∀ (W:World) (l:Nat) (o o':Obj),w.heap.size ≤ l → W.heap[l]? = some o → o.isCells = false → Kp W (W.putObj l o')) (hb0:Below w0.heap.size w0 w) (hBs:∀ b,Bs = some b → b < w.heap.size) (hps:∀ x,(encs x).size = ps.size)
  (I:List α → World → Prop) (Ix:Code → World → Prop) (hI:∀ s,Lies w.heap.size Bs (I s)) (hIx:∀ c,Lies w.heap.size Bs (Ix c)) (h0:I [] w) (Ax:α → Act → World → Prop) (hAx:∀ x a',Lies w.heap.size Bs (Ax x a'))
  (hassign:∀ (l:Nat) (pre:List α) (x:α) (W:World) (K:Act → World → Prop),I pre W → (∀ a' W',KeepsFrom w.heap.size W W' → Kp W W' → I pre W' → Ax x a' W' → K a' W') →
   assign.wpIn (F.inRound l) (n - 1 - 1) P (Exit.then K (fun _ _ _ => False)) { tmps:=(ps.zip (encs x)).foldl (fun t (p,v) => t.setIfInBounds p v) a.tmps,defers:=[] } W)
  (hbody:∀ (l:Nat) (pre:List α) (x:α) (rest:List α) (a':Act) (W:World),L = pre ++ x :: rest → I pre W → Ax x a' W → body.wpIn (F.inRound l) (n - 1 - 1) P (cellPost w.heap.size Kp (I (pre ++ [x])) Ix W) a' W)
  (hdone:∀ (D:Nat) (W:World),w.heap.size ≤ D → I L W → W.heap[D]? = some (.deferred (some [])) → Q .normal { a with defers:={ target:=.collected D,args:=#[] } :: a.defers } W)
  (hstop:∀ (D:Nat) (c:Code) (W:World),w.heap.size ≤ D → Ix c W → W.heap[D]? = some (.deferred (some [])) → c.wpIn F n P Q { a with defers:={ target:=.collected D,args:=#[] } :: a.defers } W) :
  (Code.rangeFunc g ps assign body).wpIn F n P Q a w:=by
 refine wpIn_rangeFunc fun fn hfn => ?_
 rw [hro]
 obtain ⟨r,hr⟩:∃ r:LoopState → Option Code → Loop,r = fun st pe => { state:=st,pending:=pe,fn,tmps:=a.tmps,params:=ps,assign,body,defers:=w.heap.size }:=⟨_,rfl⟩
 obtain ⟨D,hD⟩:∃ D,D = w.heap.size:=⟨_,rfl⟩
 obtain ⟨W1,hW1⟩:∃ W1,(w.alloc (.deferred (some []))).alloc (.loop (r .ready none)) = W1:=⟨_,rfl⟩
 have hbW:Below w.heap.size w W1:=by rw [← hW1];exact ((Below.refl _ w).alloc (Nat.le_refl _) _).alloc (by simp) _
 have hL1:W1.heap[w.heap.size + 1]? = some (.loop (r .ready none)):=by
  have h:=World.alloc_heap_new (w.alloc (.deferred (some []))) (.loop (r .ready none))
  rw [World.size_alloc,hW1] at h
  exact h
 have hK1:W1.heap[w.heap.size]? = some (.deferred (some [])):=by rw [← hW1];exact (Below.heap_alloc _ _ _ (by simp)).trans (World.alloc_heap_new w _)
 have hI1:I [] W1:=by rw [← hW1];exact (hI _).alloc _ ((hI _).alloc _ h0)
 refine ⟨w.heap.size + 1,[{ target:=.collected w.heap.size,args:=#[] }],W1,{ target:=.fn (.func gf) lb,args:=#[.func (.yield (w.heap.size + 1)) #[] #[]] },W1,gf,
  #[.func (.yield (w.heap.size + 1)) #[] #[]] ++ lb,W1,?_,?_,?_,?_,fun _ => h1,?_⟩
 ·rw [← hW1,hr];exact run_enterLoop_outer _ _ _ _ _
 ·simp only [resolve,hg]
  simp [go_sem]
 ·intro f' hf';simp [Target.leads] at hf';subst hf';exact hFg
 ·simp [invoke,go_sem,eg]
 -- the two blocks of the loop's book
 have book:∀ {X Y:World} {k:Nat} {o:Obj},w.heap.size ≤ k → X.heap[k]? = some o → X.grownBy Y Bs → Y.heap[k]? = some o:=fun hk hX hg' =>
  (hg'.block _ (Array.getElem?_eq_some_iff.1 hX).1 fun e => by have:=hBs _ e.symm;omega).trans hX
 refine (hseq (w.heap.size + 1)
  (fun pre W => I pre W ∧ W.heap[w.heap.size + 1]? = some (.loop (r .ready none)) ∧ W.heap[w.heap.size]? = some (.deferred (some [])))
  (fun W => ∃ c,Ix c W ∧ W.heap[w.heap.size + 1]? = some (.loop (r .done (some c))) ∧ W.heap[w.heap.size]? = some (.deferred (some [])))
  W1 (hb0.trans (hbW.mono hb0.size)) (fun s X Y h hg' => ⟨(hI s).own h.1 hg',book (by omega) h.2.1 hg',book (Nat.le_refl _) h.2.2 hg'⟩)
  (fun X Y h hg' => by
   obtain ⟨c,h1,h2,h3⟩:=h
   exact ⟨c,(hIx c).own h1 hg',book (by omega) h2 hg',book (Nat.le_refl _) h3 hg'⟩) ?_ ⟨hI1,hL1,hK1⟩).mono ?_
 ·rintro pre x rest W hsp ⟨hi,hl,hk⟩
  have hy:=run_yield (P:=P) (args:=encs x) hl (by rw [hr];exact hps x)
  rw [hr] at hy
  refine ⟨fn,_,assign,body,hy,roundIn_of_wpIn hfn (hassign _ pre x W _ hi ?_)⟩
  clear hy
  intro a' V hkf hkb hiV hax
  have hlV:=hkf.same _ _ (by omega) hl rfl
  have hkV:=hkf.same _ _ (Nat.le_refl _) hk rfl
  have hsz:w.heap.size + 1 < V.heap.size:=(Array.getElem?_eq_some_iff.1 hlV).1
  refine ⟨_,run_beginRound hlV (by rw [hr]),?_⟩
  obtain ⟨U,hU⟩:∃ U,V.putObj (w.heap.size + 1) (.loop { r .ready none with state:=.busy }) = U:=⟨_,rfl⟩
  have hlU:U.heap[w.heap.size + 1]? = some (.loop { r .ready none with state:=.busy }):=by rw [← hU];exact World.putObj_heap_same hsz
  have hkU:U.heap[w.heap.size]? = some (.deferred (some [])):=by rw [← hU];exact (World.putObj_heap_other (by omega)).trans hkV
  have hbU:Kp V U:=by rw [← hU];exact hKb _ _ _ _ (by omega) hlV rfl
  have hiU:I pre U:=by rw [← hU];exact (hI _).put _ hiV (by omega) hlV rfl
  have haU:Ax x a' U:=by rw [← hU];exact (hAx x a').put _ hax (by omega) hlV rfl
  rw [hU]
  refine wpIn_mono (hbody _ pre x rest a' U hsp hiU haU) ?_
  have fin:∀ (jump:Option Code) (Z:World),KeepsFrom w.heap.size U Z → ∃ Z',Z.putObj (w.heap.size + 1) (.loop (r (if jump.isNone then .ready else .done) jump)) = Z' ∧
    (Instr.endRound (w.heap.size + 1) jump).run P Z = .ok (.bool jump.isNone) Z' ∧ Z.heap[w.heap.size + 1]? = some (.loop { r .ready none with state:=.busy }) ∧
    Z'.heap[w.heap.size + 1]? = some (.loop (r (if jump.isNone then .ready else .done) jump)) ∧ Z'.heap[w.heap.size]? = some (.deferred (some [])) ∧ Kp Z Z':=fun jump Z hkz => by
   have hlZ:=hkz.same _ _ (by omega) hlU rfl
   have hkZ:=hkz.same _ _ (Nat.le_refl _) hkU rfl
   have hend:=run_endRound (P:=P) jump hlZ
   refine ⟨_,rfl,?_,hlZ,World.putObj_heap_same (Array.getElem?_eq_some_iff.1 hlZ).1,(World.putObj_heap_other (by omega)).trans hkZ,hKb _ _ _ _ (by omega) hlZ rfl⟩
   rw [hr] at hend ⊢
   exact hend
  rintro e a3 Z hp
  cases e with
  | normal =>
   obtain ⟨h1,h2,h3⟩:=hp
   obtain ⟨Z',hZ',hrun,hlZ,hl',hk',hb'⟩:=fin none Z h1
   exact ⟨_,_,hrun,.inl ⟨rfl,⟨by rw [← hZ'];exact (hI _).put _ h3 (by omega) hlZ rfl,hl',hk'⟩,hKt hkb (hKt hbU (hKt h2 hb'))⟩⟩
  | ret =>
   obtain ⟨h1,h3⟩:=hp
   obtain ⟨Z',hZ',hrun,hlZ,hl',hk',_⟩:=fin (some .ret) Z h1
   exact ⟨_,_,hrun,.inr ⟨rfl,_,by rw [← hZ'];exact (hIx _).put _ h3 (by omega) hlZ rfl,hl',hk'⟩⟩
  | exit id =>
   obtain ⟨h1,h3⟩:=hp
   obtain ⟨Z',hZ',hrun,hlZ,hl',hk',_⟩:=fin (some (.exit id)) Z h1
   exact ⟨_,_,hrun,.inr ⟨rfl,_,by rw [← hZ'];exact (hIx _).put _ h3 (by omega) hlZ rfl,hl',hk'⟩⟩
  | goto t =>
   obtain ⟨h1,h3⟩:=hp
   obtain ⟨Z',hZ',hrun,hlZ,hl',hk',_⟩:=fin (some (.goto t)) Z h1
   exact ⟨_,_,hrun,.inr ⟨rfl,_,by rw [← hZ'];exact (hIx _).put _ h3 (by omega) hlZ rfl,hl',hk'⟩⟩
  | panic ch => exact hp.elim
  | outgrown => exact hp.elim
 ·rintro e W2 ⟨⟨v,rfl⟩,(⟨hi,hl,hk⟩ | ⟨c,hi,hl,hk⟩)⟩
  ·refine ⟨none,W2.putObj (w.heap.size + 1) (.loop { r .ready none with state:=.exhausted }),?_,hdone _ _ (Nat.le_refl _) ((hI _).put _ hi (by omega) hl rfl) ((World.putObj_heap_other (by omega)).trans hk)⟩
   have h:=run_endLoop (P:=P) hl (by rw [hr];simp)
   rw [hr] at h ⊢
   exact h
  ·refine ⟨some c,W2.putObj (w.heap.size + 1) (.loop { r .done (some c) with state:=.exhausted }),?_,hstop _ c _ (Nat.le_refl _) ((hIx c).put _ hi (by omega) hl rfl) ((World.putObj_heap_other (by omega)).trans hk)⟩
   have h:=run_endLoop (P:=P) hl (by rw [hr];simp)
   rw [hr] at h ⊢
   exact h
end
end Go.Proofs.YtbmiiiccnoiffaaGreatDoor
namespace Go.Proofs.YtbmiiiccnoiffaaGreatDoor
open Go.RowKit Go.Shelf
set_option maxRecDepth 100000
structure SpAt (B:Nat) (cur:ByteArray) (W:World):Prop where
 s:Boxed W B 9 (.string cur)
 sep:W.cell? ⟨B + 1,0,none⟩ = some (.string ⟨#[47]⟩)
 save:W.cell? ⟨B + 2,0,none⟩ = some (.int .i64 0)
 mx:MaxAt W
 ne:0 < B
def KpS (B:Nat) (W W':World):Prop:=∀ k,k = 0 ∨ (B ≤ k ∧ k < B + 3) → W'.heap[k]? = W.heap[k]?
theorem SpAt.kept {B:Nat} {cur:ByteArray} {W W':World} (h:SpAt B cur W) (hk:KpS B W W'):SpAt B cur W':=by
 obtain ⟨m,hm⟩:=h.mx
 exact ⟨(hk B (.inr ⟨Nat.le_refl _,by omega⟩)).trans h.s,(World.cell?_of_block (a:=⟨B + 1,0,none⟩) (hk (B + 1) (.inr ⟨by omega,by omega⟩))).trans h.sep,
  (World.cell?_of_block (a:=⟨B + 2,0,none⟩) (hk (B + 2) (.inr ⟨by omega,by omega⟩))).trans h.save,⟨m,(World.cell?_of_block (a:=⟨0,0,none⟩) (hk _ (.inl rfl))).trans hm⟩,h.ne⟩
theorem SpAt.lt {B:Nat} {cur:ByteArray} {W:World} (h:SpAt B cur W):B + 2 < W.heap.size:=World.block_lt_of_cell? W ⟨B + 2,0,none⟩ h.save
theorem SpAt.below {B:Nat} {cur:ByteArray} {W W':World} (h:SpAt B cur W) (hb:Below W.heap.size W W'):SpAt B cur W':=by
 have:=h.lt
 have:=h.ne
 exact h.kept fun k hk => hb.block k (by omega)
theorem SpAt.put {B:Nat} {cur:ByteArray} {W:World} (h:SpAt B cur W) (x:ByteArray):SpAt B x (W.setCell ⟨B,0,none⟩ (.string x)):=by
 have hg:=grownBy_setCell' W B (.string x)
 have hne:=h.ne
 obtain ⟨m,hm⟩:=h.mx
 have hc:∀ {k:Nat} {v:Value},k ≠ B → W.cell? ⟨k,0,none⟩ = some v → (W.setCell ⟨B,0,none⟩ (.string x)).cell? ⟨k,0,none⟩ = some v:=fun {k v} hk hv =>
  (World.cell?_of_block (a:=⟨k,0,none⟩) (hg.block k (World.block_lt_of_cell? W _ hv) (fun e => hk (Option.some.inj e)))).trans hv
 exact ⟨h.s.set _,hc (by omega) h.sep,hc (by omega) h.save,⟨m,hc (by omega) hm⟩,hne⟩
theorem kpS_t {B:Nat} {X Y Z:World} (h:KpS B X Y) (k:KpS B Y Z):KpS B X Z:=fun j hj => (k j hj).trans (h j hj)
def leftS (B:Nat) (W:World):Nat:=match W.cell? ⟨B,0,none⟩ with
 | some (.string x) => x.size + 1
 | _ => 0
theorem SpAt.left {B:Nat} {cur:ByteArray} {W:World} (h:SpAt B cur W):leftS B W = cur.size + 1:=by unfold leftS;rw [h.s.cell]
theorem nms_none {s : ByteArray} (h : Lib.index s.data.toList [47] = -1) : nms s = [s] := by
  unfold nms
  rw [(spl_index s.data.toList).1 h]
  exact congrArg (· :: []) (ba_ext (ofL_data _))
theorem nms_some {s:ByteArray} {i:Nat} (h:Lib.index s.data.toList [47] = (i:Int)):nms s = s.extract 0 i :: nms (s.extract (i + 1) s.size):=by
 unfold nms
 rw [(spl_index s.data.toList).2 i h,List.map_cons]
 congr 1
 ·refine ba_ext ?_
  rw [ofL_data,ByteArray.data_extract,Array.toList_extract,List.extract_eq_take_drop]
  simp
 ·congr 2
  rw [ByteArray.data_extract,Array.toList_extract,List.extract_eq_take_drop,List.take_of_length_le]
  simp only [List.length_drop,Array.length_toList]
  show s.data.size - (i + 1) ≤ s.data.size - (i + 1)
  omega
theorem index_lt:∀ (l:List UInt8) (i:Nat),Lib.index l [47] = (i:Int) → i < l.length
 | [],i,h => by
  have e:Lib.index [] [47] = -1:=by decide
  rw [e] at h;omega
 | b :: l,i,h => by
  rw [index_byte] at h
  by_cases hb:b = 47
  ·rw [if_pos hb] at h
   have:i = 0:=by omega
   rw [this];simp
  ·rw [if_neg hb] at h
   by_cases hn:Lib.index l [47] = -1
   ·rw [if_pos hn] at h;omega
   ·rw [if_neg hn] at h
    have:=index_lt l (i - 1) (by omega)
    simp;omega
set_option maxHeartbeats 2000000 in
theorem split1_in (n:Nat) (hn:1 ≤ n) (B:Nat) (s:ByteArray) (hs:s.size ≤ 1000000) (w:World) (h0:SpAt B s w) :
  SeqCell Fence.wide n Tryz.prog 174 #[.pointer (some ⟨B + 1,0,none⟩),.pointer (some ⟨B,0,none⟩),.pointer (some ⟨B + 2,0,none⟩)] (fun x:ByteArray => #[.string x]) (KpS B) (some B) (nms s) w:=fun l J Jx W hW hJ hJx hY hj0 => by
 have hS:=h0.below hW
 have c0:=hS.s.cell
 have c1:=hS.sep
 have HJ:=Lib.hid hJ
 have HY:=Lib.hid hY
 clear hJ hY h0 hW
 change CallsIn Fence.wide n Tryz.prog 174 #[.func (.yield l) #[] #[],.pointer (some ⟨B + 1,0,none⟩),.pointer (some ⟨B,0,none⟩),.pointer (some ⟨B + 2,0,none⟩)] W _
 refine callsIn_of_wp Tryz.func174 rfl trivial ?_ rfl
 simp only [Tryz.ntmps174,List.size_toArray,List.length_cons,List.length_nil,Nat.reduceAdd,Nat.reduceSub,Array.replicate_succ,Array.replicate_zero,List.push_toArray,List.append_toArray,List.nil_append,List.cons_append]
 gi_wp2
 gi_loopw [7,8] (fun _ _ wr => ∃ (pre:List ByteArray) (cur:ByteArray),Hid (nms s = pre ++ nms cur) ∧ cur.size ≤ 1000000 ∧ SpAt B cur wr ∧ J pre wr) (fun _ _ wr => leftS B wr)
 case atStart => exact ⟨[],s,Lib.hid rfl,hs,hS,hj0⟩
 case round =>
  obtain ⟨pre,cur,hL,hcs,hSr,hJr⟩:=hrel
  have HL:=Lib.hid hL.out
  have HS:=Lib.hid hSr
  have hlft:=hSr.left
  have c0:=hSr.s.cell
  have c1:=hSr.sep
  have c2:=hSr.save
  obtain ⟨m,hm⟩:=hSr.mx
  have HIX:=Lib.hid (Any.strings_Index (ρ:=Tryz.lays146_ren) { Tryz.lays146 with } cur ⟨#[47]⟩ m wr (by omega) hm)
  have hge:=Lib.index_ge cur.data.toList [47]
  have HNN:=Lib.hid (fun h => nms_none (s:=cur) h)
  have HNS:=Lib.hid (fun i h => nms_some (s:=cur) (i:=i) h)
  have HLT:=Lib.hid (index_lt cur.data.toList)
  have HIXV:Hid ((⟨#[47]⟩:ByteArray).data.toList = [47]):=Lib.hid rfl
  clear hm
  by_cases hix:Lib.index cur.data.toList [47] = -1
  · -- the last name
   have HN1:=Lib.hid (HNN.out hix)
   have HLL:Hid (nms s = pre ++ cur :: []):=Lib.hid (by rw [← HN1.out];exact HL.out)
   obtain ⟨fn,tmps,assign,body,hy,hR⟩:=HY.out pre cur [] wr HLL.out hJr
   have HR:=Lib.hid hR
   have HJR:=Lib.hid hJr
   clear hR hJr hL hSr
   gi_wp2_with (first
    | (refine ⟨trivial,?_⟩;gi_at_call 176;refine (callsIn_wide.2 HIX.out).mono ?_;rintro e w' ⟨rfl,rfl⟩;rw [HIXV.out,hix])
    | gi_in)
   refine HR.out.mono ?_
   rintro e w4 (⟨rfl,hJ4,hk4⟩ | ⟨rfl,hJx4⟩)
   ·have HEND:Hid (J (nms s) w4):=Lib.hid (by rw [HLL.out];exact hJ4)
    clear hk4
    gi_wp2
    go_end0
    exact ⟨⟨_,rfl⟩,.inl HEND.out⟩
   ·gi_wp2
    go_end0
    exact ⟨⟨_,rfl⟩,.inr hJx4⟩
  ·obtain ⟨i,hi⟩:∃ i:Nat,Lib.index cur.data.toList [47] = (i:Int):=⟨(Lib.index cur.data.toList [47]).toNat,by omega⟩
   have hlt:i < cur.size:=by have:=HLT.out i hi;rwa [show cur.data.toList.length = cur.size from Array.length_toList] at this
   obtain ⟨hd,hhd⟩:∃ x,cur.extract 0 i = x:=⟨_,rfl⟩
   obtain ⟨tl,htl⟩:∃ x,cur.extract (i + 1) cur.size = x:=⟨_,rfl⟩
   have hts:tl.size + (i + 1) = cur.size:=by rw [← htl,ByteArray.size_extract];omega
   have HN1:Hid (nms cur = hd :: nms tl):=Lib.hid (by rw [← hhd,← htl];exact HNS.out i hi)
   have HLL:Hid (nms s = pre ++ hd :: nms tl):=Lib.hid (by rw [← HN1.out];exact HL.out)
   have HL2:Hid (nms s = (pre ++ [hd]) ++ nms tl):=Lib.hid (by rw [List.append_assoc];exact HLL.out)
   obtain ⟨fn,tmps,assign,body,hy,hR⟩:=HY.out pre hd (nms tl) wr HLL.out hJr
   rw [← hhd] at hy
   have HR:=Lib.hid hR
   have HHD:=Lib.hid hhd
   have HTL:=Lib.hid htl
   have l1:(0:Int) ≤ i:=by omega
   have l2:(i:Int) ≤ cur.size:=by omega
   have l3:(i:Int) + 1 ≤ cur.size:=by omega
   have l4:(0:Int) ≤ (i:Int) + 1:=by omega
   have l5:IntKind.i64.wrap ((i:Int) + 1) = (i:Int) + 1:=IntWalk.i64_in _ (by omega)
   have l6:IntKind.i64.wrap (i:Int) = (i:Int):=IntWalk.i64_in _ (by omega)
   have l7:((i:Int) + 1).toNat = i + 1:=by omega
   have l8:decide ((i:Int) < 0) = false:=decide_eq_false (by omega)
   clear hR hL hJr hhd htl hix
   gi_wp2_with (first
    | (refine ⟨trivial,?_⟩;gi_at_call 176;refine (callsIn_wide.2 HIX.out).mono ?_;rintro e w' ⟨rfl,rfl⟩;rw [HIXV.out,hi])
    | gi_in)
   refine HR.out.mono ?_
   rintro e w4 (⟨rfl,hJ4,hk4⟩ | ⟨rfl,hJx4⟩)
   ·have hS4:=HS.out.kept hk4
    have HS5:=Lib.hid (hS4.put tl)
    have HJ5:=Lib.hid (HJ.out _ _ _ hJ4 (grownBy_setCell' w4 B (.string tl)))
    have b0:=hS4.s.cell
    have b1:=hS4.sep
    have b2:=hS4.s.frozen
    clear hk4 hS4 hJ4
    gi_wp2
    rw [HTL.out]
    refine ⟨⟨pre ++ [hd],tl,Lib.hid HL2.out,by omega,HS5.out,HJ5.out⟩,?_⟩
    rw [HS5.out.left,hlft]
    omega
   ·gi_wp2
    refine bodyPost_ret (results_none rfl _ _ _) rfl ?_
    exact ⟨⟨_,rfl⟩,.inr hJx4⟩
theorem split0_any (s:ByteArray) (w:World):Calls Tryz.prog 133 #[.string s,.string ⟨#[47]⟩,.int .i64 0] w fun e w' =>
  e = .returned (.func (.func 174) #[] #[.pointer (some ⟨w.heap.size + 1,0,none⟩),.pointer (some ⟨w.heap.size,0,none⟩),.pointer (some ⟨w.heap.size + 2,0,none⟩)]) ∧
  w' = ((w.alloc (.cells #[.string s] 9)).alloc (.cells #[.string ⟨#[47]⟩] 9)).alloc (.cells #[.int .i64 0] 3):=by
 go_enter Tryz.func133,Tryz.ntmps133
 go_wp2
 go_ret
 exact ⟨rfl,rfl⟩
theorem split_any (s:ByteArray) (w:World) (hm:MaxAt w):Calls Tryz.prog 82 #[.string s,.string ⟨#[47]⟩] w fun e w' =>
  e = .returned (.func (.func 174) #[] #[.pointer (some ⟨w.heap.size + 1,0,none⟩),.pointer (some ⟨w.heap.size,0,none⟩),.pointer (some ⟨w.heap.size + 2,0,none⟩)]) ∧
  SpAt w.heap.size s w' ∧ w'.heap.size = w.heap.size + 3 ∧ Below w.heap.size w w':=by
 have HC:=Lib.hid (split0_any s w)
 have HA:Hid (SpAt w.heap.size s (((w.alloc (.cells #[.string s] 9)).alloc (.cells #[.string ⟨#[47]⟩] 9)).alloc (.cells #[.int .i64 0] 3))):=by
  have e1:(w.alloc (.cells #[.string s] 9)).heap.size = w.heap.size + 1:=by simp
  have e2:((w.alloc (.cells #[.string s] 9)).alloc (.cells #[.string ⟨#[47]⟩] 9)).heap.size = w.heap.size + 2:=by simp
  refine Lib.hid ⟨((Boxed.new w _ _).alloc _).alloc _,?_,?_,hm.below (((Below.refl _ _).alloc (Nat.le_refl _) _).alloc (by simp) _ |>.alloc (by simp;omega) _) hm.lt,hm.lt⟩
  ·have:=((Boxed.new (w.alloc (.cells #[.string s] 9)) 9 (.string ⟨#[47]⟩)).alloc (.cells #[.int .i64 0] 3)).cell
   rwa [e1] at this
  ·have:=(Boxed.new ((w.alloc (.cells #[.string s] 9)).alloc (.cells #[.string ⟨#[47]⟩] 9)) 3 (.int .i64 0)).cell
   rwa [e2] at this
 have HB:Hid (Below w.heap.size w (((w.alloc (.cells #[.string s] 9)).alloc (.cells #[.string ⟨#[47]⟩] 9)).alloc (.cells #[.int .i64 0] 3))):=Lib.hid ((((Below.refl _ _).alloc (Nat.le_refl _) _).alloc (by simp) _).alloc (by simp;omega) _)
 have HSZ:Hid ((((w.alloc (.cells #[.string s] 9)).alloc (.cells #[.string ⟨#[47]⟩] 9)).alloc (.cells #[.int .i64 0] 3)).heap.size = w.heap.size + 3):=Lib.hid (by simp)
 clear hm
 go_enter Tryz.func82,Tryz.ntmps82
 go_wp2_with fail
 refine HC.out.mono ?_
 rintro e w1 ⟨rfl,hw1⟩
 rw [← hw1] at HA HB HSZ
 clear hw1 HC
 go_wp2
 go_ret
 exact ⟨rfl,HA.out,HSZ.out,HB.out⟩
end Go.Proofs.YtbmiiiccnoiffaaGreatDoor
