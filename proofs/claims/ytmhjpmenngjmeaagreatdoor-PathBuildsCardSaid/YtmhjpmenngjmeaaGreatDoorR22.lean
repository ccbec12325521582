/- YtmhjpmenngjmeaaGreatDoorR22: texts HC of this claim, in one. -/
import Derived.Laws.Externs
import Derived.Lib.BytesEntry
import Derived.Test.YtmhjpmenngjmeaaGreatDoorR11
import Derived.Test.YtmhjpmenngjmeaaGreatDoorR19
namespace Go.Proofs.YtmhjpmenngjmeaaGreatDoor
open Go.RowKit

def baL (x:Idl):ByteArray:=⟨x.toArray⟩
def cmpL (x y:Idl):Int:=Extern.BytealgCompare.cmp (baL x) (baL y)
theorem baL_get (x:Idl) (i:Nat) (h:i < x.length):(baL x)[i]! = x[i]:=by
 have hs:i < (baL x).size:=by simpa [baL,ByteArray.size] using h
 rw [getElem!_pos (baL x) i hs]
 rfl
theorem baL_size (x:Idl):(baL x).size = x.length:=by simp [baL,ByteArray.size]
theorem ltB_at:∀ {x y:Idl} {i:Nat} (hx:i < x.length) (hy:i < y.length),x.take i = y.take i → x[i] ≠ y[i] → ltB x y = decide (x[i].toNat < y[i].toNat)
 | [],_,_,hx,_,_,_ => by simp at hx
 | _ :: _,[],_,_,hy,_,_ => by simp at hy
 | a :: x,b :: y,0,_,_,_,hne => by
  simp only [List.getElem_cons_zero] at hne ⊢
  have:a.toNat ≠ b.toNat:=fun e => hne (UInt8.toNat_inj.1 e)
  unfold ltB
  by_cases h:a.toNat < b.toNat
  ·rw [if_pos h,decide_eq_true h]
  ·rw [if_neg h,if_pos (by omega),decide_eq_false h]
 | a :: x,b :: y,i + 1,hx,hy,ht,hne => by
  simp only [List.take_succ_cons,List.cons.injEq] at ht
  obtain ⟨rfl,ht⟩:=ht
  simp only [List.getElem_cons_succ] at hne ⊢
  unfold ltB
  rw [if_neg (by omega),if_neg (by omega)]
  exact ltB_at (by simpa using hx) (by simpa using hy) ht hne
theorem cmpL_lt {x y:Idl} (hl:x.length = y.length):decide (cmpL x y < 0) = ltB x y:=by
 unfold cmpL Extern.BytealgCompare.cmp
 rw [baL_size,baL_size,← hl,Nat.min_self]
 cases hf:(List.range x.length).find? fun i => (baL x)[i]! != (baL y)[i]! with
 | none =>
  have he:x = y:=by
   apply List.ext_getElem hl
   intro i h1 h2
   have:=List.find?_eq_none.1 hf i (List.mem_range.2 h1)
   rw [baL_get x i h1,baL_get y i h2] at this
   simpa using this
  subst he
  rw [ltB_irrefl]
  simp
 | some i =>
  have hm:=List.mem_of_find?_eq_some hf
  have h1:i < x.length:=List.mem_range.1 hm
  have h2:i < y.length:=by omega
  have hp:=List.find?_some hf
  rw [baL_get x i h1,baL_get y i h2] at hp
  have hne:x[i] ≠ y[i]:=by simpa using hp
  have ht:x.take i = y.take i:=by
   apply List.ext_getElem
   ·simp;omega
   ·intro j k1 k2
    have hj:j < i:=by simp at k1;omega
    rw [List.getElem_take,List.getElem_take]
    have hjn:=List.find?_range_eq_some.1 hf
    have:=hjn.2.2 j hj
    rw [baL_get x j (by omega),baL_get y j (by omega)] at this
    simpa using this
  show decide ((if (baL x)[i]! < (baL y)[i]! then (-1:Int) else 1) < 0) = ltB x y
  rw [baL_get x i h1,baL_get y i h2,ltB_at h1 h2 ht hne]
  by_cases h:x[i] < y[i]
  ·rw [if_pos h,decide_eq_true (show x[i].toNat < y[i].toNat from h)];rfl
  ·rw [if_neg h,decide_eq_false (show ¬ x[i].toNat < y[i].toNat from h)];rfl
def numsI (l:Idl):List Int:=l.map fun x => (x.toNat:Int)
theorem numsI_length (l:Idl):(numsI l).length = l.length:=by simp [numsI]
theorem bytesOf_numsI (l:Idl):Lib.bytesOf (numsI l) = l:=by
 unfold Lib.bytesOf numsI
 rw [List.map_map]
 conv => rhs;rw [← List.map_id l]
 apply List.map_congr_left
 intro x _
 show UInt8.ofNat ((x.toNat:Int)).toNat = x
 rw [Int.toNat_natCast]
 exact UInt8.toNat_inj.1 (by rw [UInt8.toNat_ofNat',Nat.mod_eq_of_lt x.toNat_lt])
theorem run_load_id (w:World) (x:Idl) (b o:Nat) (h:w.rangeAt b o (idC x)):(Extern.Bytes.bytesOf (.slice (some ⟨b,o,none⟩) x.length x.length)).run Tryz.prog w = .ok (baL x) w:=by
 have hl:=Lib.run_loadBytesX (P:=Tryz.prog) w (numsI x) ⟨b,o,none⟩ .empty (fun j u hj => by
  rw [Addr.add_mid]
  refine h j _ ?_
  unfold numsI at hj
  unfold idC
  rw [List.getElem?_map] at hj ⊢
  cases hx:x[j]? with
  | none => rw [hx] at hj;cases hj
  | some c => rw [hx] at hj;cases hj;rfl)
 rw [numsI_length,bytesOf_numsI] at hl
 have he:(⟨ByteArray.empty.data ++ x.toArray⟩:ByteArray) = baL x:=by
  apply ByteArray.ext
  show (#[]:Array UInt8) ++ x.toArray = x.toArray
  simp
 rw [he] at hl
 exact hl
theorem run_compare_ids (w:World) (x y:Idl) (b1 o1 b2 o2:Nat) (h1:w.rangeAt b1 o1 (idC x)) (h2:w.rangeAt b2 o2 (idC y)) :
  (Extern.BytealgCompare.compare #[.slice (some ⟨b1,o1,none⟩) x.length x.length,.slice (some ⟨b2,o2,none⟩) y.length y.length]).run Tryz.prog w = .ok (.int .i64 (cmpL x y)) w:=by
 have e:Extern.BytealgCompare.compare #[.slice (some ⟨b1,o1,none⟩) x.length x.length,.slice (some ⟨b2,o2,none⟩) y.length y.length] = (do pure (goInt (Extern.BytealgCompare.cmp (← Extern.Bytes.bytesOf (.slice (some ⟨b1,o1,none⟩) x.length x.length)) (← Extern.Bytes.bytesOf (.slice (some ⟨b2,o2,none⟩) y.length y.length)))):Sem Value):=rfl
 rw [e]
 simp only [Sem.run_bind,run_load_id w x b1 o1 h1,run_load_id w y b2 o2 h2,Result.andThen_ok,Sem.run_pure]
 rfl
set_option maxRecDepth 100000 in
theorem bcompare_any (w:World) (x y:Idl) (b1 o1 b2 o2:Nat) (hx:x.length = 32) (hy:y.length = 32) (h1:w.rangeAt b1 o1 (idC x)) (h2:w.rangeAt b2 o2 (idC y)) :
  Calls Tryz.prog 17 #[.slice (some ⟨b1,o1,none⟩) 32 32,.slice (some ⟨b2,o2,none⟩) 32 32] w fun e w' => e = .returned (.int .i64 (cmpL x y)) ∧ w = w':=by
 have hr:=run_compare_ids w x y b1 o1 b2 o2 h1 h2
 rw [hx,hy] at hr
 generalize cmpL x y = c at hr
 clear h1 h2 hx hy
 go_enter Tryz.func17,Tryz.ntmps17
 go_wp2
 rw [run_callFunc_extern Tryz.func36 (by kernel_rfl) (by kernel_rfl) (by kernel_rfl) (e:=Extern.BytealgCompare.compare) (by kernel_rfl),hr]
 simp only [Result.andThen]
 rw [Oper.upon_value]
 go_wp2
 go_ret
 exact ⟨rfl,rfl⟩
end Go.Proofs.YtmhjpmenngjmeaaGreatDoor
