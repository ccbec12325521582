/- A part of this claim. -/
import Derived.DeepKeys4
import Derived.Lib.BytesEntry
import Derived.Lib.LazyBuf
import Derived.Test.YtejamhkgjkhjdaaGreatDoorXn1
import Derived.Test.YtejamhkgjkhjdaaGreatDoorXn10
import Derived.Test.YtejamhkgjkhjdaaGreatDoorXn8
import Derived.WideKeyArr
import Derived.WideKeyEntry
namespace Go.Proofs.YtejamhkgjkhjdaaGreatDoor
open Tryz
set_option maxHeartbeats 64000000
set_option maxRecDepth 100000
section
open Go.RowKit
theorem pF {P:Program} (w:World) {ops:Array Oper} {rest:List Oper} {o:Oper} {a:Act} {Q:Exit→Act→World→Prop} (s:o.guard=none) (d x:Operand) (k n:TypeId)
  (i:o.op=Op.call { callee:=Callee.builtin Builtin.copy,args:=#[d,x],argTypes:=#[k,n] }) (f:TypeId) (hu:P.underlying k=some (.slice f)) (u:∀w,(Go.sizeOf f).run P w= .ok 1 w)
  (b off e g:Nat) (hd:a.eval d= .slice (some ⟨b,off,none⟩) e g) (t:ByteArray) (hx:a.eval x= .string t) (l:t.size≤e)
  (p:∀j,j<t.size→(w.cell? ⟨b,off+j,none⟩).isSome=true) (q:∀j,j<t.size→w.frozen? ⟨b,off+j,none⟩=false)
  (r:wpList P ops Q rest (a.put o.dst (goInt t.size)) (w.setCells b off (t.data.toList.map fun x=>Value.int .u8 (x.toNat:Int)))):wpList P ops Q (o::rest) a w:=by
 refine wpList_plain s fun K m=> ?_
 have h:=Go.run_copy_string (P:=P) w k n o.type f b off e g t hu u l p q
 unfold Oper.wp
 simp [execOp,i,resolve,invoke,builtin,hd,hx,h,Result.andThen]
 exact m _ _ r
theorem xW (b:Nat) (r:Rd) (w:World) (hA:Arr w b 3 r.c) (Y:r.fine) :
  Calls prog 196 #[.pointer (some ⟨b,0,none⟩)] w fun e w'=>e= .returned (idV r.id.2)∧Arr w' b 3 r.id.1.c∧w.grownBy w' (some b):=by
 have aa:b<w.heap.size:=hA.lt (by omega)
 have S:=ah (fun W (hA:Arr W b 3 r.c)=>rX b r 32 W hA Y (by omega))
 have O:=Rd.kY r 32
 have C:Hid (idV r.id.2= .agg ((kM (r.raw 32).2).map fun b=>Value.int .u8 (b.toNat:Int)).toArray):=ah rfl
 have T:Hid (r.id.1=(r.raw 32).1):=ah rfl
 have HA:=ah hA
 have HO:=ah (Arr.new w 32 (.int .u8 0) 143)
 generalize r.raw 32=x at S O C T
 obtain ⟨r1,s⟩:=x
 dsimp only at S O C T
 clear hA Y
 go_enter func196,ntmps196
 go_wp2_with fail
 have y:(prog.info? 143).map (·.size)=some 32:=by kernel_rfl
 have X:True:=trivial
 have D:=ah ((HA.out.alloc (by omega) (.cells (Array.replicate 32 (.int .u8 0)) 143)).alloc (by omega) (.cells (Array.replicate 32 (.int .u8 0)) 143))
 have P:=Arr.new (w.alloc (.cells (Array.replicate 32 (.int .u8 0)) 143)) 32 (.int .u8 0) 143
 rw [World.size_alloc] at P
 have HX:=ah P
 have M:=ah (HO.out.alloc (by omega) (.cells (Array.replicate 32 (.int .u8 0)) 143))
 have K:=ah ((((Below.refl w.heap.size w).alloc (Nat.le_refl _) (.cells (Array.replicate 32 (.int .u8 0)) 143))).alloc (by simp) (.cells (Array.replicate 32 (.int .u8 0)) 143))
 clear P
 refine wrL 3 (fun _=>True) ?_
 refine WL.tk 0 X ?_
 refine WL.tk 1 X ?_
 refine WL.on 2 ?_
 go_wp2_with fail
 refine (S.out _ D.out.drew).mono ?_
 rintro e w1 ⟨rfl,q,A⟩
 have L:=ah q
 have g:=DL A
 have p:=ah (HX.out.grown g (by omega))
 have N:=ah (M.out.grown g (by omega))
 have H:=ah (zw K.out g)
 clear q A g
 go_wp2
 refine ⟨trivial,?_⟩
 refine WL.la 3 ?_
 refine pF _ rfl (.tmp 4) (.tmp 6) 89 9 rfl 5 underlying89 (fun w=>by kernel_rfl) (w.heap.size+1) 0 32 32 rfl s rfl O (fun j hj=>by rw [Nat.zero_add,p.out.cell j (by omega)];rfl) (fun j hj=>by rw [Nat.zero_add];exact p.out.free j (by omega)) ?_
 have t:(s.data.toList.map fun x=>Value.int .u8 (x.toNat:Int)).length=s.size:=by rw [List.length_map];simp
 have o:=(p.out.setCells 0 (s.data.toList.map fun x=>Value.int .u8 (x.toNat:Int)) (by omega)).congr (d:=idB s s.size) (fun k hk=>by
  unfold idB
  rw [t,Nat.zero_add,Nat.sub_zero]
  by_cases h:k<s.size
  ·rw [if_pos ⟨by omega,h⟩,if_pos h]
   unfold blk
   have Z:k<s.data.toList.length:=by simpa using h
   rw [List.getD_eq_getElem?_getD,List.getElem?_map,List.getElem?_eq_getElem Z,List.getD_eq_getElem?_getD,List.getElem?_eq_getElem Z];rfl
  rw [if_neg (fun h'=>h h'.2),if_neg h])
 have Q:Below w1.heap.size w1 w1:=Below.refl _ _
 have m:=ah (N.out.fG (show w.heap.size+1≠w.heap.size by omega) (s.data.toList.map fun x=>Value.int .u8 (x.toNat:Int)) 0)
 have v:=ah (L.out.fG (show w.heap.size+1≠b by omega) (s.data.toList.map fun x=>Value.int .u8 (x.toNat:Int)) 0)
 have z:Hid (w.grownBy (w1.setCells (w.heap.size+1) 0 (s.data.toList.map fun x=>Value.int .u8 (x.toNat:Int))) (some b)):=ah (lH (Below.refl _ _) H.out (below_setCells (B:=w.heap.size) (a:=w1) (w.heap.size+1) (by omega) _ 0 w1 (Below.refl _ _)))
 clear Q
 generalize w1.setCells (w.heap.size+1) 0 (s.data.toList.map fun x=>Value.int .u8 (x.toNat:Int))=I at o m v z
 have U:=o.range
 have V:(List.range 32).map (idB s s.size)=(kM s).map fun b=>Value.int .u8 (b.toNat:Int):=by
  unfold kM;rw [List.map_map]
  exact List.map_congr_left fun k _=>EU s k
 rw [V] at U
 have f:((kM s).map fun b=>Value.int .u8 (b.toNat:Int)).length=32:=by rw [List.length_map];exact dX s
 have i:=yX (kM s)
 generalize (kM s).map (fun b=>Value.int .u8 (b.toNat:Int))=us at U f i C
 have l:(prog.info? 143).map (·.size)=some us.length:=by rw [f];exact y
 have n:=m.out.there
 have E:=ah (World.rangeAt_setCells_same I w.heap.size 0 us (by rw [f];exact n))
 have R:=ah n
 have J:=ah f
 have G:=ah i
 have u:=ah (lH (Below.refl _ _) z.out (below_setCells (B:=w.heap.size) (a:=I) w.heap.size (Nat.le_refl _) us 0 I (Below.refl _ _)))
 have F:=ah (v.out.fG (show w.heap.size≠b by omega) us 0)
 clear o V n f i t
 go_wp2_with (first|(refine wpList_load_mid rfl 143 _ rfl (w.heap.size+1) 0 rfl us _ U underlying143 rfl l ?_)|(refine aj rfl 143 _ _ rfl w.heap.size 0 us rfl rfl 32 J.out R.out y G.out ?_))
 refine kW rfl w.heap.size 0 rfl us _ E.out underlying143 rfl l rfl ⟨by rw [C.out],by rw [T.out];exact F.out,u.out⟩
end
section
open Go.RowKit Go.Maps Go.WideMaps
theorem mapM_some {α β:Type} (f:α→Option β) (g:α→β):∀l:List α,(∀i∈l,f i=some (g i))→l.mapM f=some (l.map g)
 | [],_=>rfl
 | a::l,h=>by
  rw [List.mapM_cons,h a (by simp),mapM_some f g l (fun i hi=>h i (List.mem_cons_of_mem _ hi))];rfl
theorem L6:ArrKey prog 143 5 32:=⟨underlying143,by kernel_rfl,by kernel_rfl,by kernel_rfl⟩
theorem jX:Keyed prog 143:=Keyed.of_law (ArrKey.law L6)
theorem Ct:∃m,prog.types.size=m+1:=⟨prog.types.size-1,by kernel_rfl⟩
theorem GN (d:Nat) (b:UInt8):Program.keyLits prog (d+1) 5 [Value.int .u8 (b.toNat:Int)]=some [.int .u8 (b.toNat:Int)]:=by
 have a:(Lit.int .u8 (b.toNat:Int)).wf=true:=by
  have:=b.toNat_lt
  simp only [Lit.wf,Bool.and_eq_true,decide_eq_true_eq]
  have e:IntKind.u8.min=0:=by decide
  have f:IntKind.u8.max=255:=by decide
  rw [e,f];omega
 unfold Program.keyLits
 rw [underlying5]
 simp [a]
theorem JH (x:List UInt8) (hx:x.length=32):∃l,keyOf prog 143 (.agg (idC x).toArray)=some l:=by
 have j:=L6.keyType Ct
 obtain ⟨m,hm⟩:=Ct
 have o:(idC x).length=32:=by rw [aA,hx]
 have a:Program.cellsOf prog 143=32:=by kernel_rfl
 have f:Program.cellsOf prog 5=1:=by kernel_rfl
 have b:Value.formed prog 143 (.agg (idC x).toArray)=true:=by
  unfold Value.formed
  rw [underlying143]
  simp [o,a]
 obtain ⟨n,rfl⟩:∃n,m=n+1:=⟨m-1,by
  have:1<prog.types.size:=of_decide_eq_true (by kernel_rfl)
  omega⟩
 have d:∃ls,Program.keyLits prog (prog.types.size+1) 143 (idC x)=some ls:=by
  rw [hm]
  unfold Program.keyLits
  rw [underlying143]
  dsimp only
  rw [if_pos (by rw [o,a]),f]
  rw [mapM_some _ (fun i=>[Lit.int .u8 ((x.getD i 0).toNat:Int)])]
  ·exact ⟨_,rfl⟩
  intro i hi
  have hi:=List.mem_range.1 hi
  have e:((idC x).drop (i*1)).take 1=[Value.int .u8 ((x.getD i 0).toNat:Int)]:=by
   rw [Nat.mul_one]
   have h:i<x.length:=by omega
   have g:i<(idC x).length:=by omega
   rw [List.drop_eq_getElem_cons g]
   simp [idC,h]
  rw [e];exact GN _ _
 obtain ⟨ls,k⟩:=d
 unfold keyOf
 rw [underlying143]
 dsimp only
 rw [if_pos (by rw [j,b];rfl)]
 exact ⟨_,by show ((Program.keyLits prog _ _ (idC x).toArray.toList).map _)=_;rw [List.toList_toArray,k];rfl⟩
noncomputable def pX (x:List UInt8):Lit:=(keyOf prog 143 (.agg (idC x).toArray)).getD .nil
theorem lX {x:List UInt8} (hx:x.length=32):keyOf prog 143 (.agg (idC x).toArray)=some (pX x):=by
 obtain ⟨l,a⟩:=JH x hx
 unfold pX;rw [a];rfl
theorem ET:∀ {x y:List UInt8},idC x=idC y→x=y
 | [],[],_=>rfl
 | [],_::_,h=>by simp [idC] at h
 | _::_,[],h=>by simp [idC] at h
 | a::x,b::y,h=>by
  unfold idC at h
  simp only [List.map_cons,List.cons.injEq] at h
  obtain ⟨h1,d⟩:=h
  injection h1 with _ h3
  rw [ET (x:=x) (y:=y) d,UInt8.toNat_inj.1 (show a.toNat=b.toNat by omega)]
theorem Bb {x y:List UInt8} (hx:x.length=32) (hy:y.length=32) (h:pX x=pX y):x=y:=by
 have a:=jX.inj ((lX hx).trans (congrArg some h)) (lX hy)
 injection a with h3
 exact ET (by injection h3)
def eX (v:Value):Option (DataW Value×List MemPlace):=some (.held v,[])
end
section
open Go.RowKit
theorem FN (n:W32):wn (iX n)=if (wn n%2==1)=true then bits .xor .u32 (wn n/(2:Int)) (3988292384:Int) else wn n/(2:Int):=by
 have h1:wn n/(2:Int)=wn (n >>> 1):=E8 n 1
 have a:(3988292384:Int)=wn kJ:=rfl
 have hb:n.getLsbD 0=(wn n%2==1):=by
  unfold wn
  rw [BitVec.getLsbD,Nat.testBit_zero]
  by_cases h:n.toNat%2=1
  ·rw [decide_eq_true h];exact (beq_iff_eq.2 (by omega)).symm
  rw [decide_eq_false h];exact (beq_eq_false_iff_ne.2 (by omega)).symm
 rw [h1,a,qh]
 unfold iX
 rw [hb]
 cases (wn n%2==1)
 ·simp
 simp
def Eu:Nat→W32→W32
 | 0,n=>n
 | k+1,n=>iX (Eu k n)
theorem Bq (n:W32) (b:UInt8):uF n b=Eu 8 (n ^^^ bw b):=rfl
theorem F4 (n:W32) (w:World):Calls prog 169 #[.int .u32 (wn n)] w fun e w' => e = .returned (.int .u32 (wn (iX n))) ∧ w' = w:=by
 have h0:=vE n
 have h1:=nN n
 rw [FN]
 obtain ⟨x,hx⟩:∃ x,wn n = x:=⟨_,rfl⟩
 rw [hx] at h0 h1 ⊢
 clear hx
 cases hb:(x % 2 == 1) with
 | true =>
  go_enter func169,ntmps169
  go_wp2
  go_ret
  exact ⟨rfl,rfl⟩
 | false =>
  go_enter func169,ntmps169
  go_wp2
  go_ret
  exact ⟨rfl,rfl⟩
theorem F8 (n:W32) (b:UInt8) (w:World):Calls prog 97 #[.int .u32 (wn n),.int .u8 (b.toNat:Int)] w fun e w' => e = .returned (.int .u32 (wn (uF n b))) ∧ w' = w:=by
 have hb:((b.toNat:Nat):Int) < 256:=by have:=b.toNat_lt;omega
 have wb:IntKind.u32.wrap ((b.toNat:Nat):Int) = ((b.toNat:Nat):Int):=by rw [IntKind.wrap_u32];omega
 have hx:bits .xor .u32 (wn n) ((b.toNat:Nat):Int) = wn (n ^^^ bw b):=by rw [kH,qh]
 have HS:=ah (fun m => F4 m w)
 have HF:=ah (Bq n b)
 generalize n ^^^ bw b = m at hx HF
 go_enter func97,ntmps97
 go_wp2_with fail
 go_loopw [0,5] (fun v i wr => ∃ k:Nat,v = .int .u32 (wn (Eu k m)) ∧ i = .int .i64 (k:Int) ∧ k ≤ 8 ∧ wr = w) (fun _ i _ => (8 - intOf i).toNat)
 case atStart => exact ⟨0,rfl,rfl,by omega,rfl⟩
 obtain ⟨k,rfl,rfl,hk,rfl⟩:=hrel
 by_cases hlt:k < 8
 ·have d1:decide ((k:Int) < 8) = true:=decide_eq_true (by omega)
  have HC:=ah (HS.out (Eu k m))
  go_wp2_with fail
  refine HC.out.mono ?_
  rintro e w2 ⟨rfl,rfl⟩
  go_wp2_with fail
  go_roundw
  case rel => exact ⟨k + 1,rfl,by go_num,by omega,by first | rfl | trivial⟩
  case measure => simp [intOf];omega
 obtain rfl:k = 8:=by omega
 go_wp2_with fail
 go_ret
 exact ⟨by rw [HF.out];rfl,by first | rfl | trivial⟩
theorem wC (s:ByteArray) {k:Nat} (h:k<s.size):s.data.toList.take (k+1)=s.data.toList.take k++[s[k]]:=by
 rw [List.take_succ_eq_append_getElem (by simpa using h)];rfl
theorem I8 (s:ByteArray) (w:World) (hs:s.size ≤ 1000000000):Calls prog 47 #[.string s] w fun e w' => e = .returned (.int .u32 (wn (dS s.data.toList))) ∧ w' = w:=by
 have HS:=ah (fun m b => F8 m b w)
 have hn:∀ m:W32,((4294967295:Int) - wn m) % (4294967296:Int) = wn (~~~ m):=fun m => by
  have:=nN m
  have:=vE m
  unfold wn at *
  rw [BitVec.toNat_not]
  omega
 go_enter func47,ntmps47
 go_wp2_with fail
 go_loopw [3,4] (fun v i wr => ∃ k:Nat,v = .int .u32 (wn (l7 (~~~ 0#32) (s.data.toList.take k))) ∧ i = .int .i64 (k:Int) ∧ k ≤ s.size ∧ wr = w) (fun _ i _ => (s.size - intOf i).toNat)
 case atStart => exact ⟨0,rfl,rfl,by omega,rfl⟩
 obtain ⟨k,rfl,rfl,hk,rfl⟩:=hrel
 by_cases hlt:k < s.size
 ·have d1:decide ((k:Int) < s.size) = true:=decide_eq_true (by omega)
  have HN:=ah (wE (~~~ 0#32) (s.data.toList.take k) s[k])
  have HT:=ah (wC s hlt)
  have HC:=ah (HS.out (l7 (~~~ 0#32) (s.data.toList.take k)) s[k])
  rw [← HT.out] at HN
  generalize l7 (~~~ 0#32) (s.data.toList.take k) = m at HN HC ⊢
  go_wp2_with fail
  refine HC.out.mono ?_
  rintro e w2 ⟨rfl,rfl⟩
  rw [← HN.out]
  go_wp2_with fail
  go_roundw
  case rel => exact ⟨k + 1,rfl,by go_num,by omega,by first | rfl | trivial⟩
  case measure => simp [intOf];omega
 obtain rfl:k = s.size:=by omega
 have HTK:Hid (dS s.data.toList = ~~~ l7 (~~~ 0#32) (s.data.toList.take s.size)):=ah (by unfold dS;rw [List.take_of_length_le (by simp)])
 generalize l7 (~~~ 0#32) (s.data.toList.take s.size) = m at HTK ⊢
 have HNM:=ah (hn m)
 go_wp2_with fail
 go_ret
 exact ⟨by rw [HTK.out,← HNM.out];rfl,by first | rfl | trivial⟩
theorem xQ (n:W32):wn n%256=((dD n 0).toNat:Int)∧wn n/256%256=((dD n 1).toNat:Int)∧wn n/65536%256=((dD n 2).toNat:Int)∧wn n/16777216=((dD n 3).toNat:Int):=by
 have h:=n.isLt
 unfold wn dD
 simp only [UInt8.toNat_ofNat']
 refine ⟨?_,?_,?_,?_⟩<;>omega
theorem xO (W:World) (a b c d:UInt8) (e:TypeId) :
  (convert 89 9 (.slice (some ⟨W.heap.size,0,none⟩) 4 4)).run prog (W.alloc (.cells #[.int .u8 (a.toNat:Int),.int .u8 (b.toNat:Int),.int .u8 (c.toNat:Int),.int .u8 (d.toNat:Int)] e))= .ok (.string (ofB [a,b,c,d])) (W.alloc (.cells #[.int .u8 (a.toNat:Int),.int .u8 (b.toNat:Int),.int .u8 (c.toNat:Int),.int .u8 (d.toNat:Int)] e)) :=
 run_convert_bytes_back (P:=prog) _ 89 9 5 ⟨W.heap.size,0,none⟩ 4 [a,b,c,d] underlying89 underlying5 underlying9 fun j g=>by
  have f:j<4:=by simpa using g
  rw [Addr.add_mid,Nat.zero_add,World.cell?_alloc_new]
  rcases (show j=0∨j=1∨j=2∨j=3 by omega) with rfl|rfl|rfl|rfl<;>rfl
theorem Ab (s:ByteArray):s++ofB (zU s.data.toList)=ofB (bS s.data.toList):=by unfold bS;rw [dh,mY]
theorem wL (s:ByteArray) (w:World) (n:s.size≤1000000000):Calls prog 19 #[.string s] w fun e w'=>e= .returned (.string (ofB (bS s.data.toList)))∧Below w.heap.size w w':=by
 have HS:=ah (I8 s w n)
 obtain ⟨j,h1,k,m⟩:=xQ (dS s.data.toList)
 have p:=vE (dS s.data.toList)
 have g1:=nN (dS s.data.toList)
 have h:=ah (Ab s)
 unfold zU at h
 have i:(ofB [dD (dS s.data.toList) 0,dD (dS s.data.toList) 1,dD (dS s.data.toList) 2,dD (dS s.data.toList) 3]).size=4:=by rw [aK];rfl
 obtain ⟨x,hx⟩:∃x,wn (dS s.data.toList)=x:=⟨_,rfl⟩
 obtain ⟨q,g⟩:∃b,dD (dS s.data.toList) 0=b:=⟨_,rfl⟩
 obtain ⟨t,d⟩:∃b,dD (dS s.data.toList) 1=b:=⟨_,rfl⟩
 obtain ⟨o,f⟩:∃b,dD (dS s.data.toList) 2=b:=⟨_,rfl⟩
 obtain ⟨l,a⟩:∃b,dD (dS s.data.toList) 3=b:=⟨_,rfl⟩
 rw [g,d,f,a] at h i
 rw [hx] at j h1 k m p g1 HS
 rw [g] at j
 rw [d] at h1
 rw [f] at k
 rw [a] at m
 have v:x/16777216%256=(l.toNat:Int):=by omega
 have r:=xO w q t o l 5
 clear hx g d f a
 go_enter func19,ntmps19
 go_wp2_with fail
 refine HS.out.mono ?_
 rintro e u ⟨rfl,rfl⟩
 go_wp2_with fail
 go_ret
 exact ⟨fA h.out,bal⟩
def unS (s:ByteArray):ByteArray:=ofB ((bH s.data.toList).getD [])
def gV (s:ByteArray):Bool:=(bH s.data.toList).isSome
theorem iw {s:ByteArray} (h:s.size<4):unS s=⟨#[]⟩∧gV s=false:=by
 have:bH s.data.toList=none:=by unfold bH;rw [if_neg (by simp;intro a;exact absurd a (by have:s.data.size=s.size:=rfl;omega))]
 unfold unS gV
 rw [this]
 exact ⟨rfl,rfl⟩
theorem qm {s:ByteArray} (h:4≤s.size):bH s.data.toList=if bS (s.data.toList.take (s.size-4))=s.data.toList then some (s.data.toList.take (s.size-4)) else none:=by
 have b:s.data.toList.length=s.size:=by simp
 unfold bH
 rw [b]
 by_cases a:bS (s.data.toList.take (s.size-4))=s.data.toList
 ·rw [if_pos ⟨h,a⟩,if_pos a]
 rw [if_neg (fun x=>a x.2),if_neg a]
theorem ko (s:ByteArray) (n:Nat):(s.extract 0 n).data.toList=s.data.toList.take n:=by
 rw [ByteArray.data_extract];simp
theorem jT (l:List UInt8) (s:ByteArray):ofB l=s↔l=s.data.toList:=⟨fun h=>by rw [←h,aS],fun h=>by rw [h,mY]⟩
theorem Ac (s:ByteArray) (w:World) (r:s.size≤1000000000):Calls prog 14 #[.string s] w fun e w'=>e= .returned (.tuple #[.string (unS s),.bool (gV s)])∧Below w.heap.size w w':=by
 by_cases o:s.size<4
 ·obtain ⟨d,f⟩:=iw o
  rw [d,f]
  have n:decide ((s.size:Int)<4)=true:=decide_eq_true (by omega)
  clear d f
  go_enter func14,ntmps14
  go_wp2
  go_ret2
  exact ⟨rfl,Below.refl _ _⟩
 have n:decide ((s.size:Int)<4)=false:=decide_eq_false (by omega)
 have w1:IntKind.i64.wrap ((s.size:Int)-4)=((s.size-4:Nat):Int):=by rw [IntKind.wrap_i64];omega
 have b:=qm (s:=s) (by omega)
 have q:s.size-4≤s.size:=by omega
 obtain ⟨t,p⟩:∃t,s.extract 0 (s.size-4)=t:=⟨_,rfl⟩
 have a:t.data.toList=s.data.toList.take (s.size-4):=by rw [←p,ko]
 have k:t.size≤1000000000:=by
  have:t.size=t.data.toList.length:=by simp
  rw [this,a,List.length_take]
  have:s.data.toList.length=s.size:=by simp
  omega
 have j:=ah (wL t w k)
 rw [←a] at b
 have u:=ah a
 clear a k
 by_cases i:bS t.data.toList=s.data.toList
 ·have l:((ofB (bS t.data.toList)).toList==s.toList)=true:=by rw [lK];exact decide_eq_true ((jT _ _).2 i)
  rw [if_pos i] at b
  have d:unS s=t:=by unfold unS;rw [b];exact mY t
  have f:gV s=true:=by unfold gV;rw [b];rfl
  rw [d,f]
  clear i b d f
  go_enter func14,ntmps14
  go_wp2_with fail
  refine j.out.mono ?_
  rintro e m ⟨rfl,g⟩
  go_wp2_with fail
  go_ret2
  exact ⟨rfl,g⟩
 have l:((ofB (bS t.data.toList)).toList==s.toList)=false:=by rw [lK];exact decide_eq_false fun h=>i ((jT _ _).1 h)
 rw [if_neg i] at b
 have d:unS s=⟨#[]⟩:=by unfold unS;rw [b];rfl
 have f:gV s=false:=by unfold gV;rw [b];rfl
 rw [d,f]
 clear i b d f
 go_enter func14,ntmps14
 go_wp2_with fail
 refine j.out.mono ?_
 rintro e m ⟨rfl,g⟩
 go_wp2_with fail
 go_ret2
 exact ⟨rfl,g⟩
structure Crc (w:World):Prop where
 row:w.rangeAt 2 0 (gM.map fun x => Value.int .u32 (wn x))
 lt:2 < w.heap.size
theorem Crc.below {w w':World} (h:Crc w) (hb:Below w.heap.size w w'):Crc w':=⟨ay h.row hb h.lt,Nat.lt_of_lt_of_le h.lt hb.size⟩
theorem Crc.cell {w:World} (h:Crc w) {j:Nat} (b:j<16):w.cell? ⟨2,j,none⟩=some (.int .u32 (wn (gM.getD j 0#32))):=by
 have h1:=h.row j (.int .u32 (wn (gM.getD j 0#32))) (by
  have a:j<gM.length:=b
  rw [List.getElem?_map,List.getElem?_eq_getElem a,List.getD_eq_getElem?_getD,List.getElem?_eq_getElem a];rfl)
 rw [Nat.zero_add] at h1
 exact h1
def AL:Nat→W32→W32
 | 0,n=>n
 | k+1,n=>Gv (AL k n)
theorem D6 (n:W32) (b:UInt8):uF n b=AL 2 (n ^^^ bw b):=by unfold uF AL AL AL;rw [Jo,Jo]
theorem J5 (n:W32) (b:UInt8) (w:World) (hc:Crc w):Calls prog 226 #[.int .u32 (wn n),.int .u8 (b.toNat:Int)] w fun e w' => e = .returned (.int .u32 (wn (uF n b))) ∧ w' = w:=by
 have hb:((b.toNat:Nat):Int) < 256:=by have:=b.toNat_lt;omega
 have wb:IntKind.u32.wrap ((b.toNat:Nat):Int) = ((b.toNat:Nat):Int):=by rw [IntKind.wrap_u32];omega
 have hx:bits .xor .u32 (wn n) ((b.toNat:Nat):Int) = wn (n ^^^ bw b):=by rw [kH,qh]
 have HF:=ah (D6 n b)
 have HC:=ah (fun j (hj:j < 16) => hc.cell hj)
 clear hc
 generalize n ^^^ bw b = m at hx HF
 go_enter func226,ntmps226
 go_wp2_with fail
 go_loopw [0,9] (fun v i wr => ∃ k:Nat,v = .int .u32 (wn (AL k m)) ∧ i = .int .i64 (k:Int) ∧ k ≤ 2 ∧ wr = w) (fun _ i _ => (2 - intOf i).toNat)
 case atStart => exact ⟨0,rfl,rfl,by omega,rfl⟩
 obtain ⟨k,rfl,rfl,hk,rfl⟩:=hrel
 by_cases hlt:k < 2
 ·have d1:decide ((k:Int) < 2) = true:=decide_eq_true (by omega)
  obtain ⟨q,hq⟩:∃ q,AL k m = q:=⟨_,rfl⟩
  have HN:Hid (AL (k + 1) m = Gv q):=ah (by rw [← hq];rfl)
  rw [hq]
  clear hq
  obtain ⟨j,hj⟩:∃ j,(q &&& 15#32).toNat = j:=⟨_,rfl⟩
  have hj16:j < 16:=by rw [← hj,Me];omega
  have ha:bits .and .u32 (wn q) 15 = (j:Int):=by rw [← hj];exact LV q 15#32
  have hs:wn q / (16:Int) = wn (q >>> 4):=E8 q 4
  have hy:bits .xor .u32 (wn (q >>> 4)) (wn (gM.getD j 0#32)) = wn (Gv q):=by rw [qh,← hj];rfl
  have hcell:=HC.out j hj16
  have hj16z:(j:Int) < 16:=by omega
  generalize gM.getD j 0#32 = z at hcell hy
  generalize q >>> 4 = q4 at hs hy
  generalize Gv q = q5 at hy HN
  have h0:=vE q
  have h1:=nN q
  clear hj
  go_wp2_with fail
  exact ⟨⟨k + 1,by rw [HN.out],by go_num,by omega,by first | rfl | trivial⟩,by simp [intOf];omega⟩
 obtain rfl:k = 2:=by omega
 go_wp2_with fail
 go_ret
 exact ⟨by rw [HF.out];rfl,by first | rfl | trivial⟩
theorem LU (m:W32) (s:ByteArray) (w:World) (hc:Crc w) (hs:s.size ≤ 1000000000):Calls prog 162 #[.int .u32 (wn m),.string s] w fun e w' => e = .returned (.int .u32 (wn (~~~ l7 (~~~ m) s.data.toList))) ∧ w' = w:=by
 have HS:=ah (fun m b => J5 m b w hc)
 have hn:=Cm m
 clear hc
 go_enter func162,ntmps162
 go_wp2_with fail
 go_loopw [5,6,11] (fun v _ i wr => ∃ k:Nat,v = .int .u32 (wn (l7 (~~~ m) (s.data.toList.take k))) ∧ i = .int .i64 (k:Int) ∧ k ≤ s.size ∧ wr = w) (fun _ _ i _ => (s.size - intOf i).toNat)
 case atStart => exact ⟨0,rfl,rfl,by omega,rfl⟩
 obtain ⟨k,rfl,rfl,hk,rfl⟩:=hrel
 by_cases hlt:k < s.size
 ·have d1:decide ((k:Int) < s.size) = true:=decide_eq_true (by omega)
  have HN:=ah (wE (~~~ m) (s.data.toList.take k) s[k])
  have HT:=ah (wC s hlt)
  have HC:=ah (HS.out (l7 (~~~ m) (s.data.toList.take k)) s[k])
  rw [← HT.out] at HN
  generalize l7 (~~~ m) (s.data.toList.take k) = q at HN HC ⊢
  go_wp2_with fail
  refine HC.out.mono ?_
  rintro e w2 ⟨rfl,rfl⟩
  rw [← HN.out]
  go_wp2_with fail
  go_roundw
  case rel => exact ⟨k + 1,rfl,by go_num,by omega,by first | rfl | trivial⟩
  case measure => simp [intOf];omega
 obtain rfl:k = s.size:=by omega
 have HTK:Hid (l7 (~~~ m) s.data.toList = l7 (~~~ m) (s.data.toList.take s.size)):=ah (by rw [List.take_of_length_le (l:=s.data.toList) (by simp)])
 generalize l7 (~~~ m) (s.data.toList.take s.size) = q at HTK ⊢
 have hq:=Cm q
 go_wp2_with fail
 go_ret
 exact ⟨by rw [HTK.out];rfl,by first | rfl | trivial⟩
theorem zX (b:Nat) (s:ByteArray) (w:World) (a:Crc w) (hb:w.cell? ⟨b,0,none⟩=some (.string s)) (d:s.size≤1000000000):Calls prog 91 #[.slice (some ⟨b,0,none⟩) 1 1] w fun e w'=>e= .returned (.int .u32 (wn (dS s.data.toList)))∧w'=w:=by
 have HS:Hid (Calls prog 162 #[.int .u32 0,.string s] w fun e w'=>e= .returned (.int .u32 (wn (dS s.data.toList)))∧w'=w):=ah (LU 0#32 s w a d)
 clear a
 go_enter func91,ntmps91
 go_wp2_with fail
 refine wp_loop_rounds 2 ?_
 rw [rounds_succ]
 go_wp2_with fail
 refine HS.out.mono ?_
 rintro e f ⟨rfl,rfl⟩
 go_wp2_with fail
 rw [rounds_succ]
 go_wp2_with fail
 go_ret
 exact ⟨rfl,by first|rfl|trivial⟩
theorem nU (s:ByteArray) (w:World) (o:Crc w) (y:s.size≤1000000000):Calls prog 40 #[.string s] w fun e w'=>e= .returned (.string (ofB (bS s.data.toList)))∧Below w.heap.size w w':=by
 obtain ⟨W,k⟩:∃W,w.alloc (.cells #[.string s] 9)=W:=⟨_,rfl⟩
 have f:Below w.heap.size w W:=by rw [←k];exact bal
 have a:W.cell? ⟨w.heap.size,0,none⟩=some (.string s):=by rw [←k,World.cell?_alloc_new];rfl
 have HS:=ah (zX w.heap.size s W (o.below f) a y)
 have u:=ah k
 have j:=ah f
 clear k f a o
 obtain ⟨n,h1,p,r⟩:=xQ (dS s.data.toList)
 have A:=vE (dS s.data.toList)
 have g1:=nN (dS s.data.toList)
 have m:=ah (Ab s)
 unfold zU at m
 have l:(ofB [dD (dS s.data.toList) 0,dD (dS s.data.toList) 1,dD (dS s.data.toList) 2,dD (dS s.data.toList) 3]).size=4:=by rw [aK];rfl
 obtain ⟨x,hx⟩:∃x,wn (dS s.data.toList)=x:=⟨_,rfl⟩
 obtain ⟨B,d⟩:∃b,dD (dS s.data.toList) 0=b:=⟨_,rfl⟩
 obtain ⟨z,i⟩:∃b,dD (dS s.data.toList) 1=b:=⟨_,rfl⟩
 obtain ⟨t,g⟩:∃b,dD (dS s.data.toList) 2=b:=⟨_,rfl⟩
 obtain ⟨q,h⟩:∃b,dD (dS s.data.toList) 3=b:=⟨_,rfl⟩
 rw [d,i,g,h] at m l
 rw [hx] at n h1 p r A g1 HS
 rw [d] at n
 rw [i] at h1
 rw [g] at p
 rw [h] at r
 have D:x/16777216%256=(q.toNat:Int):=by omega
 have v:=xO W B z t q 138
 clear hx d i g h
 go_enter func40,ntmps40
 go_wp2_with fail
 rw [u.out]
 refine HS.out.mono ?_
 rintro e C ⟨rfl,rfl⟩
 go_wp2_with fail
 refine wp_loop_rounds 5 ?_
 rw [rounds_succ]
 go_wp2_with fail
 rw [rounds_succ]
 go_wp2_with fail
 rw [rounds_succ]
 go_wp2_with fail
 rw [rounds_succ]
 go_wp2_with fail
 rw [rounds_succ]
 go_wp2_with fail
 go_ret
 exact ⟨fA m.out,j.out.trans (bal.mono j.out.size)⟩
theorem mJ (s:ByteArray) (w:World) (l:Crc w) (v:s.size≤1000000000):Calls prog 102 #[.string s] w fun e w'=>e= .returned (.tuple #[.string (unS s),.bool (gV s)])∧Below w.heap.size w w':=by
 have n:=ah l
 clear l
 by_cases q:s.size<4
 ·obtain ⟨d,f⟩:=iw q
  rw [d,f]
  have p:decide ((s.size:Int)<4)=true:=decide_eq_true (by omega)
  clear d f
  go_enter func102,ntmps102
  go_wp2
  go_ret2
  exact ⟨rfl,Below.refl _ _⟩
 have p:decide ((s.size:Int)<4)=false:=decide_eq_false (by omega)
 have w1:IntKind.i64.wrap ((s.size:Int)-4)=((s.size-4:Nat):Int):=by rw [IntKind.wrap_i64];omega
 have b:=qm (s:=s) (by omega)
 have u:s.size-4≤s.size:=by omega
 obtain ⟨t,r⟩:∃t,s.extract 0 (s.size-4)=t:=⟨_,rfl⟩
 have a:t.data.toList=s.data.toList.take (s.size-4):=by rw [←r,ko]
 have k:t.size≤1000000000:=by
  have:t.size=t.data.toList.length:=by simp
  rw [this,a,List.length_take]
  have:s.data.toList.length=s.size:=by simp
  omega
 have j:=ah (nU t w n.out k)
 rw [←a] at b
 have x:=ah a
 clear a k
 by_cases i:bS t.data.toList=s.data.toList
 ·have m:((ofB (bS t.data.toList)).toList==s.toList)=true:=by rw [lK];exact decide_eq_true ((jT _ _).2 i)
  rw [if_pos i] at b
  have d:unS s=t:=by unfold unS;rw [b];exact mY t
  have f:gV s=true:=by unfold gV;rw [b];rfl
  rw [d,f]
  clear i b d f
  go_enter func102,ntmps102
  go_wp2_with fail
  refine j.out.mono ?_
  rintro e o ⟨rfl,g⟩
  go_wp2_with fail
  go_ret2
  exact ⟨rfl,g⟩
 have m:((ofB (bS t.data.toList)).toList==s.toList)=false:=by rw [lK];exact decide_eq_false fun h=>i ((jT _ _).1 h)
 rw [if_neg i] at b
 have d:unS s=⟨#[]⟩:=by unfold unS;rw [b];rfl
 have f:gV s=false:=by unfold gV;rw [b];rfl
 rw [d,f]
 clear i b d f
 go_enter func102,ntmps102
 go_wp2_with fail
 refine j.out.mono ?_
 rintro e o ⟨rfl,g⟩
 go_wp2_with fail
 go_ret2
 exact ⟨rfl,g⟩
def fU:List UInt8:=[83,76,79,49]
def jL (b:ByteArray):Option Ob:=match bH b.data.toList with
 | none=>none
 | some s=>if s.take 4=fU then aR (s.drop 4) else none
def dK (nm b:ByteArray):Option Ob:=match jL b with
 | none=>none
 | some o=>if ofB (bJ (idO o))=nm then some o else none
abbrev Dk:=Nat→ByteArray→Option ByteArray
def fF (d:Dk) (x:List UInt8):Sum Nat Ob:=match d 0 (ofB (bJ x)) with
 | none=> .inl 6
 | some b=>match dK (ofB (bJ x)) b with
  | none=> .inl 17
  | some o=> .inr o
theorem uo:∀x:List UInt8,(bJ x).length=2*x.length
 | []=>rfl
 | b::x=>by
  have:=uo x
  unfold bJ at this ⊢
  rw [List.flatMap_cons,List.length_append,this]
  show 2+2*x.length=2*(x.length+1)
  omega
theorem G5 (b:UInt8) (x:List UInt8):bJ (b::x)=l9 (b.toNat/16)::l9 (b.toNat%16)::bJ x:=rfl
theorem JX {x:List UInt8} (h:x.length=32):aJ (ofB (bJ x))=true:=by
 have hd:∀i:Fin 16,oO (l9 i.val)=true:=by decide +kernel
 have a:∀x:List UInt8,(bJ x).all oO=true:=by
  intro x
  induction x with
  | nil=>rfl
  | cons b x ih =>
   have:=b.toNat_lt
   rw [G5,List.all_cons,List.all_cons,ih,hd ⟨_,(by omega:b.toNat/16<16)⟩,hd ⟨_,(by omega:b.toNat%16<16)⟩];rfl
 unfold aJ
 rw [aS,a,aK,uo,h];rfl
end
section
theorem jq (s:ByteArray):s.data.toList.length=s.size:=Array.length_toList
theorem JD (r:Rd):r.left.length=r.s.size-r.pos:=by unfold Rd.left;rw [List.length_drop];rfl
theorem GR (r:Rd) (n:Nat) {x rest:List UInt8} (a:r.left=x++rest) (hx:x.length=n):({ r with pos:=r.pos+n }:Rd).left=rest:=by
 show r.s.data.toList.drop (r.pos+n)=rest
 rw [←List.drop_drop]
 show r.left.drop n=rest
 rw [a,←hx,List.drop_left]
theorem Rd.Jc (r:Rd) (x rest:List UInt8) (e:r.err=0) (d:r.left=x++rest):∃b,r.raw x.length=({ r with pos:=r.pos+x.length },b)∧b.data.toList=x:=by
 have a:=JD r
 rw [d,List.length_append] at a
 refine ⟨r.s.extract r.pos (r.pos+x.length),?_,?_⟩
 ·unfold Rd.raw
  rw [if_neg (by simp [e]),if_neg (by omega)]
 rw [ByteArray.data_extract,Array.toList_extract,List.extract_eq_take_drop,Nat.add_sub_cancel_left]
 show r.left.take x.length=x
 rw [d,List.take_left]
theorem Dc (l:List UInt8) (a:Nat) (rest:List UInt8):∀f i N m,l.drop i=aM m++rest→N+m*128^i≤a→N+m*128^i≤1099511627775→(0<i→0<m)→m<128^(f+1)→bD l a (f+1) i N= .inr (N+m*128^i,i+(aM m).length):=by
 intro f
 induction f with
 | zero =>
  intro i N m hd h1 o k g
  have hm:m<128:=by simpa using g
  rw [dw hm] at hd ⊢
  have b:l[i]? = some (UInt8.ofNat m):=by
   have:=congrArg (fun x=>x[0]?) hd
   simpa [List.getElem?_drop] using this
  have d:(UInt8.ofNat m).toNat=m:=by rw [UInt8.toNat_ofNat'];omega
  have e:m%128=m:=Nat.mod_eq_of_lt hm
  unfold bD
  rw [b]
  dsimp only
  rw [d,if_neg (by omega),if_neg (fun h=>by have:=k h.2;omega),e,if_neg (by omega)]
  rfl
 | succ f ih =>
  intro i N m hd h1 o k g
  by_cases hm:m<128
  ·rw [dw hm] at hd ⊢
   have b:l[i]? = some (UInt8.ofNat m):=by
    have:=congrArg (fun x=>x[0]?) hd
    simpa [List.getElem?_drop] using this
   have d:(UInt8.ofNat m).toNat=m:=by rw [UInt8.toNat_ofNat'];omega
   have e:m%128=m:=Nat.mod_eq_of_lt hm
   unfold bD
   rw [b]
   dsimp only
   rw [d,if_neg (by omega),if_neg (fun h=>by have:=k h.2;omega),e,if_neg (by omega)]
   rfl
  have hm:128≤m:=by omega
  rw [gu hm] at hd ⊢
  have b:l[i]? = some (UInt8.ofNat (m%128+128)):=by
   have:=congrArg (fun x=>x[0]?) hd
   simpa [List.getElem?_drop] using this
  have j:l.drop (i+1)=aM (m/128)++rest:=by
   have:=congrArg List.tail hd
   simpa [List.tail_drop] using this
  have d:(UInt8.ofNat (m%128+128)).toNat=m%128+128:=by rw [UInt8.toNat_ofNat'];omega
  have e:(m%128+128)%128=m%128:=by omega
  have n:N+m%128*128^i+m/128*128^(i+1)=N+m*128^i:=by
   rw [Nat.pow_succ,Nat.add_assoc,Nat.mul_comm (128^i) 128,←Nat.mul_assoc,←Nat.add_mul]
   congr 2
   omega
  unfold bD
  rw [b]
  dsimp only
  rw [d,if_pos (by omega),e,ih (i+1) _ (m/128) j (by rw [n];exact h1) (by rw [n];exact o) (fun _=>by omega) (by
   rw [Nat.pow_succ] at g
   exact Nat.div_lt_of_lt_mul (by rw [Nat.mul_comm];exact g)),n,List.length_cons]
  congr 2
  omega
theorem Rd.Jk (r:Rd) (a n:Nat) (rest:List UInt8) (d:r.err=0) (hm:n≤a) (e:n≤1099511627775) (b:r.left=aM n++rest):r.num a=({ r with pos:=r.pos+(aM n).length },n):=by
 have h:=Dc r.left a rest 5 0 0 n (by rw [List.drop_zero];exact b) (by omega) (by omega) (fun h=>by omega) (by omega)
 unfold Rd.num
 rw [if_neg (by simp [d]),h]
 simp
theorem Rd.FK (r:Rd) (a:Nat) (x:ByteArray) (rest:List UInt8) (d:r.err=0) (hm:x.size≤a) (hx:x.size≤1099511627775) (i:r.left=aM x.size++(x.data.toList++rest)):r.text a=({ r with pos:=r.pos+(aM x.size).length+x.size },x):=by
 have h1:=r.Jk a x.size _ d hm hx i
 have g:({ r with pos:=r.pos+(aM x.size).length }:Rd).left=x.data.toList++rest:=GR r _ i rfl
 obtain ⟨b,hb,h⟩:=Rd.Jc { r with pos:=r.pos+(aM x.size).length } x.data.toList rest d g
 have f:=jq x
 rw [f] at hb
 have e:b=x:=Ej h
 subst e
 unfold Rd.text
 rw [if_neg (by simp [d]),h1]
 dsimp only
 rw [hb,if_neg (by show ¬r.err≠0;simp [d])]
theorem yH {o:Ob} (h:av o=true):aR (bA o)=some o:=by
 have hb:o.body.size≤4096:=by
  unfold av at h
  rw [Bool.and_eq_true,decide_eq_true_eq] at h
  exact h.1
 have f:o.kind=1∨o.kind=2∨o.kind=3:=by
  unfold av at h
  rw [Bool.and_eq_true] at h
  by_cases h1:o.kind=1
  ·exact .inl h1
  by_cases b:o.kind=2
  ·exact .inr (.inl b)
  by_cases d:o.kind=3
  ·exact .inr (.inr d)
  rw [if_neg h1,if_neg b,if_neg d] at h;exact absurd h.2 (by decide)
 have i:ofB (aM o.body.size++o.body.data.toList)=ofB (aM o.body.size++o.body.data.toList):=rfl
 have g:=Rd.FK (Rd.mk (ofB (aM o.body.size++o.body.data.toList)) 0 0) 4096 o.body [] rfl hb (by omega) (by unfold Rd.left;rw [List.drop_zero,aS,List.append_nil])
 have e:(ofB (aM o.body.size++o.body.data.toList)).size=(aM o.body.size).length+o.body.size:=by rw [aK,List.length_append,jq]
 have a:(dN (dB o.kind):Int)=o.kind∧dN (dB o.kind)≠0:=by
  rcases f with h|h|h<;>rw [h]<;>decide
 unfold aR bA
 dsimp only
 rw [if_neg a.2,g]
 dsimp only
 rw [if_neg (by
  unfold Rd.fin
  dsimp only
  rw [if_neg (by simp),e,if_neg (by omega)];simp),a.1]
 exact if_pos h
theorem ql (l:List UInt8):bH (bS l)=some l:=by
 have h:=iB l
 have a:(bS l).take ((bS l).length-4)=l:=by
  rw [h,Nat.add_sub_cancel]
  unfold bS
  exact List.take_left
 unfold bH
 rw [a,if_pos ⟨by omega,rfl⟩]
def aZ (o:Ob):ByteArray:=ofB (bS (fU++bA o))
theorem jJ {o:Ob} (h:o.body.size<128^3):(aZ o).size≤o.body.size+12:=by
 have a:(aM o.body.size).length≤3:=by
  rw [aM]
  split
  ·simp
  rw [aM]
  split
  ·simp
  rw [aM]
  split
  ·simp
  exfalso;omega
 unfold aZ bA
 rw [aK,iB,List.length_append,List.length_cons,List.length_append,jq]
 show 4+((aM o.body.size).length+o.body.size+1)+4≤_
 omega
theorem pV {o:Ob} (h:av o=true):jL (aZ o)=some o:=by
 unfold jL aZ
 rw [aS,ql]
 dsimp only
 rw [if_pos (by show (fU++bA o).take fU.length=fU;exact List.take_left)]
 show aR ((fU++bA o).drop fU.length)=_
 rw [List.drop_left]
 exact yH h
theorem Gf {o:Ob} (h:av o=true):dK (ofB (bJ (idO o))) (aZ o)=some o:=by
 unfold dK
 rw [pV h]
 dsimp only
 exact if_pos rfl
end
section
open Go.RowKit Go.Maps Go.WideMaps
theorem AU {α β:Type} (f:α→Option β):∀(l:List α) (r:List β),l.mapM f=some r→ ∀a∈l,∃y,f a=some y
 | [],_,_,a,d=>by cases d
 | b::l,r,h,a,d=>by
  rw [List.mapM_cons] at h
  cases hb:f b with
  | none=>rw [hb] at h;cases h
  | some y =>
   rw [hb] at h
   rcases List.mem_cons.1 d with rfl|d
   ·exact ⟨y,hb⟩
   cases e:l.mapM f with
   | none=>rw [e] at h;cases h
   | some r'=>exact AU f l r' e a d
theorem Kz {d:Nat} {v:Value} {ls:List Lit} (h:Program.keyLits prog (d+1) 5 [v]=some ls):∃b:UInt8,v= .int .u8 (b.toNat:Int):=by
 unfold Program.keyLits at h
 rw [underlying5] at h
 cases v with
 | int q n =>
  dsimp only at h
  by_cases e:q= .u8∧(Lit.int .u8 n).wf=true
  ·obtain ⟨rfl,a⟩:=e
   simp only [Lit.wf,Bool.and_eq_true,decide_eq_true_eq] at a
   have f:IntKind.u8.min=0:=by decide
   have g:IntKind.u8.max=255:=by decide
   rw [f,g] at a
   refine ⟨UInt8.ofNat n.toNat,?_⟩
   have:(UInt8.ofNat n.toNat).toNat=n.toNat:=by
    rw [UInt8.toNat_ofNat'];omega
   rw [this]
   congr 1
   omega
  rw [if_neg e] at h;cases h
 | _=>cases h
theorem JQ:∀cs:List Value,(∀v∈cs,∃b:UInt8,v= .int .u8 (b.toNat:Int))→ ∃x,idC x=cs
 | [],_=>⟨[],rfl⟩
 | v::cs,h=>by
  obtain ⟨b,rfl⟩:=h v (by simp)
  obtain ⟨x,hx⟩:=JQ cs fun v a=>h v (List.mem_cons_of_mem _ a)
  exact ⟨b::x,by rw [←hx];rfl⟩
theorem oJ {v:Value} {o:Lit} (h:keyOf prog 143 v=some o):∃x:List UInt8,x.length=32∧v= .agg (idC x).toArray:=by
 have d:Program.cellsOf prog 143=32:=by kernel_rfl
 have k:Program.cellsOf prog 5=1:=by kernel_rfl
 obtain ⟨m,hm⟩:=Ct
 obtain ⟨l,rfl⟩:∃l,m=l+1:=⟨m-1,by
  have:1<prog.types.size:=of_decide_eq_true (by kernel_rfl)
  omega⟩
 unfold keyOf at h
 rw [underlying143] at h
 dsimp only at h
 split at h
 ·rename_i n
  rw [Bool.and_eq_true] at n
  have a:=n.2
  unfold Value.formed at a
  rw [underlying143] at a
  cases v with
  | agg cs =>
   dsimp only at a
   have j:cs.size=32:=by rw [d] at a;simpa using a
   cases f:Program.keyLits prog (prog.types.size+1) 143 (Value.agg cs).cells.toList with
   | none=>rw [f] at h;cases h
   | some ls =>
    rw [hm] at f
    unfold Program.keyLits at f
    rw [underlying143] at f
    dsimp only at f
    have q:(Value.agg cs).cells.toList.length=32:=by show cs.toList.length=32;simpa using j
    rw [if_pos (by rw [q,d]),k] at f
    cases g:(List.range 32).mapM fun i=>Program.keyLits prog (l+1+1) 5 (((Value.agg cs).cells.toList.drop (i*1)).take 1) with
    | none=>rw [g] at f;cases f
    | some r =>
     have key:∀v∈cs.toList,∃b:UInt8,v= .int .u8 (b.toNat:Int):=fun v p=>by
      obtain ⟨i,hi,rfl⟩:=List.getElem_of_mem p
      obtain ⟨y,hy⟩:=AU _ _ _ g i (List.mem_range.2 (by simpa [j] using hi))
      have e:((Value.agg cs).cells.toList.drop (i*1)).take 1=[cs.toList[i]]:=by
       show (cs.toList.drop (i*1)).take 1=_
       rw [Nat.mul_one,List.drop_eq_getElem_cons hi];rfl
      rw [e] at hy
      exact Kz hy
     obtain ⟨x,hx⟩:=JQ _ key
     refine ⟨x,?_,?_⟩
     ·rw [←aA x,hx];simpa using j
     rw [hx]
  | _=>cases a
 cases h
section
variable {α:Type} {enc:α → Value}
def KJ (enc:α→Value) (D:DataW Value) (f:Idl→Option α):Prop :=
 ∀x,x.length=32→Maps.has D (pX x)=(f x).isSome∧ ∀o,f x=some o→ ∀zd,D.atKey (pX x) zd= .held (enc o)
def iU (enc:α→Value) (w:World) (b n:Nat) (f:Idl→Option α):Prop:=∃D:DataW Value,w.ownsMap prog 143 eX b n D∧KJ enc D f
theorem CJ:KJ enc (.map []) fun _=>none:=fun _ _=>⟨rfl,fun _ h=>by cases h⟩
theorem iU.lt {w:World} {b n:Nat} {f:Idl→Option α} (h:iU enc w b n f):b<w.heap.size:=by obtain ⟨D,h,_⟩:=h;exact h.lt
theorem iU.heap {w w':World} {b n:Nat} {f:Idl→Option α} (h:iU enc w b n f) (hb:w'.heap[b]? = w.heap[b]?):iU enc w' b n f:=by
 obtain ⟨D,⟨es,a,h1,e⟩,d⟩:=h
 exact ⟨D,⟨es,a,hb.trans h1,e⟩,d⟩
theorem iU.below {w w':World} {b n B:Nat} {f:Idl→Option α} (h:iU enc w b n f) (hb:Below B w w') (a:b<B):iU enc w' b n f:=h.heap (hb.block b a)
theorem iU.on {w w':World} {b n:Nat} {f:Idl→Option α} (h:iU enc w b n f) (hb:Below w.heap.size w w'):iU enc w' b n f:=h.below hb h.lt
theorem xg (w:World):iU enc (w.alloc (.map #[] 0)) w.heap.size 0 fun _=>none:=⟨_,World.ownsMap_made _ _ _ _,CJ⟩
theorem iU.ext {w:World} {b n:Nat} {f g:Idl→Option α} (h:iU enc w b n f) (a:∀x,x.length=32→f x=g x):iU enc w b n g:=by
 obtain ⟨D,h1,d⟩:=h
 exact ⟨D,h1,fun x hx=>by rw [←a x hx];exact d x hx⟩
structure bN (enc:α → Value) (w:World) (b r n:Nat) (f:Idl → Option α) (L:List Idl):Prop where
 run:∃ (D:DataW Value) (left:Lit → Bool) (cnt:Nat),w.ranges prog 143 eX b r n D left cnt ∧ KJ enc D f ∧ ∀ x,x.length = 32 → (left (pX x) = true ↔ x ∈ L)
 nodup:L.Nodup
 len:∀ x ∈ L,x.length = 32
 there:∀ x ∈ L,(f x).isSome = true
theorem bN.map {w:World} {b r n:Nat} {f:Idl→Option α} {L:List Idl} (h:bN enc w b r n f L):iU enc w b n f:=by
 obtain ⟨D,left,cnt,h1,a,_⟩:=h.run
 exact ⟨D,h1.owns,a⟩
theorem bN.lt {w:World} {b r n:Nat} {f:Idl→Option α} {L:List Idl} (h:bN enc w b r n f L):r<w.heap.size:=by
 obtain ⟨D,left,cnt,h1,_⟩:=h.run;exact h1.lt
theorem bN.heap {w w':World} {b r n:Nat} {f:Idl→Option α} {L:List Idl} (h:bN enc w b r n f L) (hb:w'.heap[b]? = w.heap[b]?) (l:w'.heap[r]? = w.heap[r]?):bN enc w' b r n f L:=by
 obtain ⟨⟨D,left,cnt,⟨es,d,a,seen,j,h1,F,e,m,i,rest⟩,k,g⟩,k1,k2,k3⟩:=h
 exact ⟨⟨D,left,cnt,⟨es,d,a,seen,j,hb.trans h1,F,e,m,l.trans i,rest⟩,k,g⟩,k1,k2,k3⟩
theorem bN.on {w w':World} {b r n:Nat} {f:Idl→Option α} {L:List Idl} (h:bN enc w b r n f L) (hb:Below w.heap.size w w'):bN enc w' b r n f L:=h.heap (hb.block b h.map.lt) (hb.block r h.lt)
theorem tu {w w':World} {b r:Nat} (hb:w'.heap[b]? = w.heap[b]?) (a:w'.heap[r]? = w.heap[r]?):w'.rangeLeft b r=w.rangeLeft b r:=by unfold World.rangeLeft;rw [hb,a]
theorem rY {w:World} {ops:Array Oper} {rest:List Oper} {o:Oper} {a:Act} {Q:Exit→Act→World→Prop} (p:o.guard=none) (m:Operand) (t e:TypeId) (g:o.op=Op.range t m) (l:prog.underlying t=some (.map 143 e))
  (b n:Nat) (f:Idl→Option α) (L:List Idl) (hm:a.eval m= .map (some b)) (d:iU enc w b n f) (q:L.Nodup) (h:∀x∈L,x.length=32) (i:∀x,x.length=32→((f x).isSome=true↔x∈L))
  (r:∀w',bN enc w' b w.heap.size n f L→w.grownBy w' none→w'.heap.size=w.heap.size+1→wpList prog ops Q rest (a.put o.dst (.pointer (some ⟨w.heap.size,0,none⟩))) w') :
  wpList prog ops Q (o::rest) a w:=by
 obtain ⟨D,d,j⟩:=d
 exact wpList_range_own w p m t g 143 e jX l eX b n D hm d fun w' h1 k s=>r w' ⟨⟨D,_,_,h1,j,fun x hx=>by rw [(j x hx).1];exact i x hx⟩,q,h,fun x hx=>(i x (h x hx)).2 hx⟩ k s
theorem vD {w:World} {ops:Array Oper} {rest:List Oper} {o:Oper} {a:Act} {Q:Exit→Act→World→Prop} (T:o.guard=none) (K:Operand) (I:o.op=Op.next K false) (b r n:Nat) (f:Idl→Option α) (L:List Idl)
  (H:a.eval K= .pointer (some ⟨r,0,none⟩)) (h:bN enc w b r n f L)
  (m:L=[]→wpList prog ops Q rest (a.put o.dst (.tuple #[.bool false])) w)
  (p:∀(x:Idl) (c:α) (w':World),x∈L→x.length=32→f x=some c→bN enc w' b r n f (L.erase x)→w'.rangeLeft b r<w.rangeLeft b r→w.grownBy w' (some r)→w'.heap.size=w.heap.size →
   (Instr.entry (.pointer (some ⟨r,0,none⟩))).run prog w'= .ok (.tuple #[.agg (idC x).toArray,enc c]) w'→wpList prog ops Q rest (a.put o.dst (.tuple #[.bool true,.agg (idC x).toArray,enc c])) w') :
  wpList prog ops Q (o::rest) a w:=by
 obtain ⟨⟨D,left,cnt,s,R,d⟩,O,i,g⟩:=h
 refine wpList_next_ranges (α:={ x:Idl // x.length=32 }) (β:=Value) w T K I 143 jX eX (fun x=> .agg (idC x.1).toArray) id (fun key P E=>by
  obtain ⟨x,hx,e⟩:=oJ E
  exact ⟨⟨x,hx⟩,e⟩) (fun v _ _=>⟨v,rfl⟩) b r n D left cnt H s ?_ ?_
 ·intro _ U
  refine m (List.eq_nil_iff_forall_not_mem.2 fun x hx=> ?_)
  have h1:=(d x (i x hx)).2 hx
  rw [U] at h1;cases h1
 rintro ⟨x,hx⟩ c P y w' q k M B C j J G F u
 dsimp only at k u ⊢
 obtain rfl:pX x=P:=Option.some.inj ((lX hx).symm.trans k)
 have t:=(d x hx).1 M
 obtain ⟨o,N⟩:=Option.isSome_iff_exists.1 (g x t)
 have S:c=enc o:=by
  have h1:=C (.held (.bool false))
  rw [(R x hx).2 o N] at h1
  unfold eX at B
  injection B with B
  rw [←B] at h1
  exact (DataW.held.inj h1).symm
 subst S
 refine p x o w' t hx N ⟨⟨D,_,q,j,R,fun z l=> ?_⟩,O.erase x,fun z l=>i z (List.mem_of_mem_erase l),fun z l=>g z (List.mem_of_mem_erase l)⟩ (by rw [j.left_eq,s.left_eq];exact J) G F u
 rw [O.mem_erase_iff,Bool.and_eq_true,d z l]
 constructor
 ·rintro ⟨h1,A⟩
  refine ⟨fun e=> ?_,h1⟩
  subst e
  have E:=jX.key (lX l)
  rw [show (pX z).sameKey (pX z)=true from WideAt.sameKey_self E] at A
  cases A
 rintro ⟨h1,A⟩
 exact ⟨A,by rw [sameKey_ne (fun e=>h1 (Bb l hx e))];rfl⟩
end
end
section
open Go.RowKit
def baL (x:Idl):ByteArray:=⟨x.toArray⟩
def cmpL (x y:Idl):Int:=Extern.BytealgCompare.cmp (baL x) (baL y)
theorem jf (x:Idl) (i:Nat) (h:i<x.length):(baL x)[i]! = x[i]:=by
 have a:i<(baL x).size:=by simpa [baL,ByteArray.size] using h
 rw [getElem!_pos (baL x) i a]
 rfl
theorem Ca (x:Idl):(baL x).size=x.length:=by simp [baL,ByteArray.size]
theorem Ju:∀ {x y:Idl} {i:Nat} (hx:i<x.length) (hy:i<y.length),x.take i=y.take i→x[i]≠y[i]→ltB x y=decide (x[i].toNat<y[i].toNat)
 | [],_,_,hx,_,_,_=>by simp at hx
 | _::_,[],_,_,hy,_,_=>by simp at hy
 | a::x,b::y,0,_,_,_,hne=>by
  simp only [List.getElem_cons_zero] at hne ⊢
  have:a.toNat≠b.toNat:=fun e=>hne (UInt8.toNat_inj.1 e)
  unfold ltB
  by_cases h:a.toNat<b.toNat
  ·rw [if_pos h,decide_eq_true h]
  rw [if_neg h,if_pos (by omega),decide_eq_false h]
 | a::x,b::y,i+1,hx,hy,d,hne=>by
  simp only [List.take_succ_cons,List.cons.injEq] at d
  obtain ⟨rfl,d⟩:=d
  simp only [List.getElem_cons_succ] at hne ⊢
  unfold ltB
  rw [if_neg (by omega),if_neg (by omega)]
  exact Ju (by simpa using hx) (by simpa using hy) d hne
theorem LB {x y:Idl} (f:x.length=y.length):decide (cmpL x y<0)=ltB x y:=by
 unfold cmpL Extern.BytealgCompare.cmp
 rw [Ca,Ca,←f,Nat.min_self]
 cases b:(List.range x.length).find? fun i=>(baL x)[i]! != (baL y)[i]! with
 | none =>
  have k:x=y:=by
   apply List.ext_getElem f
   intro i h1 a
   have:=List.find?_eq_none.1 b i (List.mem_range.2 h1)
   rw [jf x i h1,jf y i a] at this
   simpa using this
  subst k
  rw [bQ]
  simp
 | some i =>
  have hm:=List.mem_of_find?_eq_some b
  have h1:i<x.length:=List.mem_range.1 hm
  have a:i<y.length:=by omega
  have g:=List.find?_some b
  rw [jf x i h1,jf y i a] at g
  have d:x[i]≠y[i]:=by simpa using g
  have m:x.take i=y.take i:=by
   apply List.ext_getElem
   ·simp;omega
   intro j k1 k2
   have l:j<i:=by simp at k1;omega
   rw [List.getElem_take,List.getElem_take]
   have e:=List.find?_range_eq_some.1 b
   have:=e.2.2 j l
   rw [jf x j (by omega),jf y j (by omega)] at this
   simpa using this
  show decide ((if (baL x)[i]! < (baL y)[i]! then (-1:Int) else 1)<0)=ltB x y
  rw [jf x i h1,jf y i a,Ju h1 a m d]
  by_cases h:x[i]<y[i]
  ·rw [if_pos h,decide_eq_true (show x[i].toNat<y[i].toNat from h)];rfl
  rw [if_neg h,decide_eq_false (show ¬x[i].toNat<y[i].toNat from h)];rfl
def wW (l:Idl):List Int:=l.map fun x=>(x.toNat:Int)
theorem yP (l:Idl):(wW l).length=l.length:=by simp [wW]
theorem vR (l:Idl):Lib.bytesOf (wW l)=l:=by
 unfold Lib.bytesOf wW
 rw [List.map_map]
 conv=>rhs;rw [←List.map_id l]
 apply List.map_congr_left
 intro x _
 show UInt8.ofNat ((x.toNat:Int)).toNat=x
 rw [Int.toNat_natCast]
 exact UInt8.toNat_inj.1 (by rw [UInt8.toNat_ofNat',Nat.mod_eq_of_lt x.toNat_lt])
theorem qx (w:World) (x:Idl) (b o:Nat) (h:w.rangeAt b o (idC x)):(Extern.Bytes.bytesOf (.slice (some ⟨b,o,none⟩) x.length x.length)).run prog w= .ok (baL x) w:=by
 have d:=Lib.run_loadBytesX (P:=prog) w (wW x) ⟨b,o,none⟩ .empty (fun j u a=>by
  rw [Addr.add_mid]
  refine h j _ ?_
  unfold wW at a
  unfold idC
  rw [List.getElem?_map] at a ⊢
  cases hx:x[j]? with
  | none=>rw [hx] at a;cases a
  | some c=>rw [hx] at a;cases a;rfl)
 rw [yP,vR] at d
 have e:(⟨ByteArray.empty.data++x.toArray⟩:ByteArray)=baL x:=by
  apply ByteArray.ext
  show (#[]:Array UInt8)++x.toArray=x.toArray
  simp
 rw [e] at d
 exact d
theorem q9 (w:World) (x y:Idl) (d f a b:Nat) (h1:w.rangeAt d f (idC x)) (g:w.rangeAt a b (idC y)) :
  (Extern.BytealgCompare.compare #[.slice (some ⟨d,f,none⟩) x.length x.length,.slice (some ⟨a,b,none⟩) y.length y.length]).run prog w= .ok (.int .i64 (cmpL x y)) w:=by
 have e:Extern.BytealgCompare.compare #[.slice (some ⟨d,f,none⟩) x.length x.length,.slice (some ⟨a,b,none⟩) y.length y.length]=(do pure (goInt (Extern.BytealgCompare.cmp (←Extern.Bytes.bytesOf (.slice (some ⟨d,f,none⟩) x.length x.length)) (←Extern.Bytes.bytesOf (.slice (some ⟨a,b,none⟩) y.length y.length)))):Sem Value):=rfl
 rw [e]
 simp only [Sem.run_bind,qx w x d f h1,qx w y a b g,Result.andThen_ok,Sem.run_pure]
 rfl
theorem zx (w:World) (x y:Idl) (f g b d:Nat) (hx:x.length=32) (hy:y.length=32) (h1:w.rangeAt f g (idC x)) (h:w.rangeAt b d (idC y)) :
  Calls prog 208 #[.slice (some ⟨f,g,none⟩) 32 32,.slice (some ⟨b,d,none⟩) 32 32] w fun e w'=>e= .returned (.int .i64 (cmpL x y))∧w=w':=by
 have a:=q9 w x y f g b d h1 h
 rw [hx,hy] at a
 generalize cmpL x y=c at a
 clear h1 h hx hy
 go_enter func208,ntmps208
 go_wp2
 rw [run_callFunc_extern func259 (by kernel_rfl) (by kernel_rfl) (by kernel_rfl) (e:=Extern.BytealgCompare.compare) (by kernel_rfl),a]
 simp only [Result.andThen]
 rw [Oper.upon_value]
 go_wp2
 go_ret
 exact ⟨rfl,rfl⟩
end
section
open Go.RowKit Go.Maps
section
variable {P:Program} {w:World} {ops:Array Oper} {rest:List Oper} {o:Oper} {a:Act} {Q:Exit → Act → World → Prop}
theorem qg (d:o.guard=none) (v:Value) (h:(execOp a.eval o).run P w= .ok (.value v) w) (e:wpList P ops Q rest (a.put o.dst v) w):wpList P ops Q (o::rest) a w:=by
 refine wpList_plain d fun K b=> ?_
 unfold Oper.wp
 rw [h]
 exact b _ _ e
end
theorem Ll (w:World):dY w (.slice none 0 0) []:=⟨none,0,rfl,by simp,fun h=>absurd rfl h⟩
theorem pY (x:Idl) (l:List Idl):dx (x::l)=idC x++dx l:=by simp [dx]
theorem Bc (l:List Idl) (h:∀x∈l,x.length=32):(dx l).length=l.length*32:=by
 induction l with
 | nil=>rfl
 | cons a l ih =>
  rw [pY,List.length_append,aA,h a (by simp),ih (fun x hx=>h x (List.mem_cons_of_mem _ hx)),List.length_cons];omega
theorem gY.row {w:World} {B:Nat} {v:Value} {l:List Idl} (h:gY w B 32 v l.length (dx l)) (e:∀x∈l,x.length=32):dY w v l:=by
 have f:=h.1
 rcases h.2 with ⟨rfl,o⟩|⟨g,off,b,rfl,_,p,s,n,_,k⟩
 ·obtain rfl:l=[]:=List.eq_nil_of_length_eq_zero o
  exact Ll w
 refine ⟨some ⟨g,off,none⟩,b,by rw [List.length_map],by rw [List.length_map];omega,fun _=>⟨g,off,rfl,p,fun i hi j u hu=> ?_⟩⟩
 rw [List.length_map] at hi
 rw [List.getElem_map] at hu
 have r:j<32:=by
  have:=(List.getElem?_eq_some_iff.1 hu).1
  rwa [aA,e _ (List.getElem_mem hi)] at this
 have key:∀(m:List Idl) (i:Nat) (hi:i<m.length),(∀x∈m,x.length=32)→(idC m[i])[j]? = some u→(dx m)[i*32+j]? = some u:=by
  intro m
  induction m with
  | nil=>intro i hi;simp at hi
  | cons a m ih =>
   intro i hi hm d
   have q:(idC a).length=32:=by rw [aA];exact hm a (by simp)
   rw [pY]
   cases i with
   | zero=>rw [List.getElem?_append_left (by omega)];simpa using d
   | succ i =>
    rw [List.getElem?_append_right (by omega),q,show (i+1)*32+j-32=i*32+j from by omega]
    exact ih i (by simpa using hi) (fun x hx=>hm x (List.mem_cons_of_mem _ hx)) (by simpa using d)
 have:=k _ u (key l i hi e hu)
 rwa [Nat.add_assoc]
variable {cm:Idl → Option Cmt}
end
section
def lq (b:ByteArray):Option Ob:=if b.size<8 then none else match aR ((b.data.toList.take (b.size-4)).drop 4) with
 | none=>none
 | some o=>if aZ o=b then some o else none
theorem yI {s:List UInt8} {o:Ob} (i:s.length≤1000000) (h:aR s=some o):bA o=s:=by
 unfold aR at h
 match s,i,h with
 | c::l,i,h =>
 dsimp only at h
 by_cases d:dN c=0
 ·rw [if_pos d] at h;cases h
 rw [if_neg d] at h
 by_cases j:((Rd.mk (ofB l) 0 0).text 4096).1.fin≠0
 ·rw [if_pos j] at h;cases h
 rw [if_neg j] at h
 have a:((Rd.mk (ofB l) 0 0).text 4096).1.fin=0:=by
  apply Classical.byContradiction
  exact j
 unfold Rd.fin at a
 have k:((Rd.mk (ofB l) 0 0).text 4096).1.err=0:=by
  apply Classical.byContradiction
  intro f
  rw [if_pos f] at a
  exact f a
 rw [if_neg (by simp [k])] at a
 have m:¬((Rd.mk (ofB l) 0 0).text 4096).1.pos<((Rd.mk (ofB l) 0 0).text 4096).1.s.size:=by
  intro f
  rw [if_pos f] at a
  cases a
 obtain ⟨_,g,_,_⟩:=Rd.mK (Rd.mk (ofB l) 0 0) 4096 ⟨Nat.zero_le _,by show (ofB l).size≤_;rw [aK];rw [List.length_cons] at i;omega,Nat.zero_le _⟩ k
 have b:((Rd.mk (ofB l) 0 0).text 4096).1.left=[]:=by
  unfold Rd.left
  apply List.drop_eq_nil_of_le
  rw [jq]
  omega
 rw [b,List.append_nil] at g
 unfold Rd.left at g
 rw [List.drop_zero,aS] at g
 split at h
 ·obtain rfl:=Option.some.inj h
  unfold bA
  dsimp only
  rw [←g]
  congr 1
  unfold dN at d ⊢
  split
  ·next e=>rw [e];rfl
  split
  ·next e=>rw [e];rfl
  split
  ·next e=>rw [e];rfl
  next h1 h2 h3=>rw [if_neg h1,if_neg h2,if_neg h3] at d;exact absurd rfl d
 cases h
theorem K3 (b:ByteArray):ofB b.data.toList=b:=gU (by rw [aS])
theorem EH (b:ByteArray) (hb:b.size≤1000000):lq b=jL b:=by
 have a:b.data.toList.length=b.size:=jq b
 unfold lq jL
 by_cases g:b.size<8
 ·rw [if_pos g]
  unfold bH
  split
  ·rfl
  next s hs =>
  split at hs
  ·obtain rfl:=Option.some.inj hs
   rw [if_neg]
   intro e
   have:=congrArg List.length e
   rw [List.length_take,List.length_take,a] at this
   have h:fU.length=4:=rfl
   rw [h] at this
   omega
  cases hs
 rw [if_neg g]
 cases d:aR ((b.data.toList.take (b.size-4)).drop 4) with
 | none =>
  dsimp only
  unfold bH
  split
  ·rfl
  next s hs =>
  split at hs
  ·obtain rfl:=Option.some.inj hs
   rw [a,d]
   split<;>rfl
  cases hs
 | some o =>
  dsimp only
  have f:=yI (by rw [List.length_drop,List.length_take,a];omega) d
  by_cases hb:aZ o=b
  ·rw [if_pos hb]
   have h1:b.data.toList=bS (fU++bA o):=by
    rw [←hb];unfold aZ;rw [aS]
   rw [h1,ql]
   dsimp only
   rw [if_pos (by show (fU++bA o).take fU.length=fU;exact List.take_left)]
   show some o=aR ((fU++bA o).drop fU.length)
   rw [List.drop_left,f,d]
  rw [if_neg hb]
  unfold bH
  split
  ·rfl
  next s hs =>
  split at hs
  ·next hh =>
   obtain rfl:=Option.some.inj hs
   split
   ·next he =>
    exfalso
    apply hb
    rw [a] at he hh
    have i:b.data.toList.take (b.size-4)=fU++bA o:=by
     rw [f,←he,List.take_append_drop]
    unfold aZ
    rw [←i,hh.2,K3]
   rfl
  cases hs
end
section
open Go.RowKit Go.Maps Go.WideMaps
def Nq (b:Bool):Value:=.bool b
def I5 (l:List Idl) (x:Idl):Option Bool:=if x∈l then some true else none
def vT (w:World) (b n:Nat) (l:List Idl):Prop:=iU Nq w b n (I5 l)∧l.Nodup∧ ∀x∈l,x.length=32
theorem FY {l:List Idl} {x:Idl}:(I5 l x).isSome=true↔x∈l:=by
 unfold I5;split<;>simp_all
theorem vT.on {w w':World} {b n:Nat} {l:List Idl} (h:vT w b n l) (hb:Below w.heap.size w w'):vT w' b n l:=⟨h.1.on hb,h.2⟩
theorem wI (w:World):vT (w.alloc (.map #[] 0)) w.heap.size 0 []:=⟨(xg w).ext fun x _=>by unfold I5;simp,List.nodup_nil,fun _ h=>by cases h⟩
end
end Go.Proofs.YtejamhkgjkhjdaaGreatDoor
