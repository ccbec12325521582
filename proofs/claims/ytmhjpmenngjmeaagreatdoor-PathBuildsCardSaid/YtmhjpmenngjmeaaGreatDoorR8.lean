/- YtmhjpmenngjmeaaGreatDoorR8: texts JJ of this claim, in one. -/
import Derived.Laws.Concat
import Derived.Laws.Cover1
import Derived.Laws.Strings
import Derived.Laws.Strings2
import Derived.Laws.Strings3
import Derived.Lib.SplitLaws
import Derived.Sort.Statements
import Derived.Test.YtmhjpmenngjmeaaGreatDoorChecked
import Derived.Test.YtmhjpmenngjmeaaGreatDoorR3
namespace Go.Proofs.YtmhjpmenngjmeaaGreatDoor
open Go Go.Sort
theorem bl_irr:∀ x:List UInt8,Op.bytesLess x x = false
 | [] => rfl
 | a :: x => by simp [Op.bytesLess,bl_irr x]
def cmpB (x y:List UInt8):Int:=if Op.bytesLess x y = true then -1 else if x = y then 0 else 1
theorem cmpB_zero (x y:List UInt8):cmpB x y = 0 ↔ x = y:=by
 unfold cmpB
 constructor
 ·intro h;split at h
  ·simp at h
  ·split at h
   ·assumption
   ·simp at h
 ·rintro rfl;rw [bl_irr];simp
theorem cmpB_neg (x y:List UInt8):cmpB x y < 0 ↔ Op.bytesLess x y = true:=by
 unfold cmpB
 split
 ·simp_all
 ·split <;> simp_all
def spl:List UInt8 → List (List UInt8)
 | [] => [[]]
 | b :: l => if b = 47 then [] :: spl l else match spl l with
  | [] => [[b]]
  | h :: t => (b :: h) :: t
theorem spl_cons (b:UInt8) (l:List UInt8):spl (b :: l) = if b = 47 then [] :: spl l else match spl l with
  | [] => [[b]]
  | h :: t => (b :: h) :: t:=rfl
theorem spl_ne : ∀ l, spl l ≠ []
  | [] => by simp [spl]
  | b :: l => by unfold spl; split; · simp
                 · split <;> simp
def glue (c:List UInt8):List (List UInt8) → List (List UInt8)
 | [] => [c]
 | h :: t => (c ++ h) :: t
theorem glue_nil (l:List UInt8):glue [] (spl l) = spl l:=by
 cases h:spl l with
 | nil => exact absurd h (spl_ne l)
 | cons => simp [glue]
theorem glue_sep (c l:List UInt8):glue c (spl (47 :: l)) = c :: spl l:=by simp [spl,glue]
theorem glue_byte (c:List UInt8) (b:UInt8) (l:List UInt8) (hb:b ≠ 47):glue c (spl (b :: l)) = glue (c ++ [b]) (spl l):=by
 rw [spl_cons,if_neg hb]
 cases h:spl l with
 | nil => exact absurd h (spl_ne l)
 | cons => simp [glue]
theorem glue_end (c:List UInt8):glue c (spl []) = [c]:=by simp [spl,glue]
theorem ba_ext {p q:ByteArray} (h:p.data.toList = q.data.toList):p = q:=by
 cases p;cases q;simp at h;rw [h]
abbrev Lf:=ByteArray × ByteArray
theorem index_byte (b:UInt8) (l:List UInt8):Lib.index (b :: l) [47] = if b = 47 then 0 else if Lib.index l [47] = -1 then -1 else Lib.index l [47] + 1:=by
 by_cases h:b = 47
 ·subst h;simp [Lib.index]
 ·rw [if_neg h]
  have h':¬ (47:UInt8) = b:=fun e => h e.symm
  simp [Lib.index,h']
theorem spl_index:∀ (l:List UInt8) ,(Lib.index l [47] = -1 → spl l = [l]) ∧ (∀ i:Nat,Lib.index l [47] = i → spl l = l.take i :: spl (l.drop (i + 1)))
 | [] => by
  have h:Lib.index [] [47] = -1:=by decide
  exact ⟨fun _ => rfl,fun i hi => by rw [h] at hi;omega⟩
 | b :: l => by
  obtain ⟨ih1,ih2⟩:=spl_index l
  have hb:=index_byte b l
  by_cases h:b = 47
  ·subst h
   rw [if_pos rfl] at hb
   refine ⟨fun h => by omega,fun i hi => ?_⟩
   obtain rfl:i = 0:=by omega
   simp [spl]
  ·rw [if_neg h] at hb
   refine ⟨fun hi => ?_,fun i hi => ?_⟩
   ·rw [hb] at hi
    have hge:=Lib.index_ge l [47]
    split at hi
    ·rename_i h1;rw [spl_cons,if_neg h,ih1 h1]
    ·omega
   ·rw [hb] at hi
    have hge:=Lib.index_ge l [47]
    split at hi
    ·omega
    ·obtain ⟨j,hj⟩:∃ j:Nat,Lib.index l [47] = j:=⟨(Lib.index l [47]).toNat,by omega⟩
     obtain rfl:i = j + 1:=by omega
     have:=ih2 j hj
     rw [spl_cons,if_neg h,this]
     rfl
end Go.Proofs.YtmhjpmenngjmeaaGreatDoor
namespace Go.Proofs.YtmhjpmenngjmeaaGreatDoor
open Go.RowKit
theorem StrRow.below {w w':World} {v:Value} {ss:List ByteArray} (h:StrRow w v ss) (hb:Below w.heap.size w w'):StrRow w' v ss:=by
 obtain ⟨ao,cap,rfl,hm,h⟩:=h
 refine ⟨ao,cap,rfl,hm,fun hne => ?_⟩
 obtain ⟨b,off,e,hl,hc⟩:=h hne
 exact ⟨b,off,e,Nat.lt_of_lt_of_le hl hb.size,fun i hi => by rw [hb.cell (p:=⟨b,off + i,none⟩) hl];exact hc i hi⟩
theorem StrRow.of_own {w:World} {B:Nat} {e:TypeId} {v:Value} {o:List ByteArray} (h:w.ownsRow B e 1 v o.length (o.map Value.string)):StrRow w v o:=by
 rcases h.2 with ⟨h1,h2⟩ | ⟨g,cap,cur,hv,hg,hh,hn,hm,hc,ht⟩
 ·obtain rfl:=List.eq_nil_of_length_eq_zero h2
  exact ⟨none,0,h1,by simp,fun h => absurd rfl h⟩
 ·refine ⟨some ⟨g,0,none⟩,cap,hv,Nat.le_trans hn hm,fun _ => ⟨g,0,rfl,(Array.getElem?_eq_some_iff.1 hh).1,fun i hi => ?_⟩⟩
  have:=h.cells (g:=g) (by rw [hv];rfl) i (.string o[i]) (by simp [hi])
  rw [Addr.add_mid] at this
  exact this
theorem StrRow.nil (w:World):StrRow w (.slice none 0 0) []:=⟨none,0,rfl,by simp,fun h => absurd rfl h⟩
def leafC (f:Lf):List Value:=[.string f.1,.string f.2]
def apC (f:ByteArray × Nat):List Value:=[.string f.1,.int .i64 f.2]
def LeafRow (w:World) (v:Value) (l:List Lf):Prop:=RowOf w v 2 (l.map leafC)
def ApRow (w:World) (v:Value) (l:List (ByteArray × Nat)):Prop:=RowOf w v 2 (l.map apC)
theorem LeafRow.below {w w':World} {v:Value} {l:List Lf} (h:LeafRow w v l) (hb:Below w.heap.size w w'):LeafRow w' v l:=RowOf.below h hb
theorem ApRow.below {w w':World} {v:Value} {l:List (ByteArray × Nat)} (h:ApRow w v l) (hb:Below w.heap.size w w'):ApRow w' v l:=RowOf.below h hb
theorem LeafRow.open {w:World} {v:Value} {l:List Lf} (h:LeafRow w v l):∃ ao cap,v = .slice ao l.length cap ∧ l.length ≤ maxLen ∧ (l ≠ [] → ∃ b off,ao = some ⟨b,off,none⟩ ∧ b < w.heap.size ∧ ∀ k (hk:k < l.length),w.cell? ⟨b,off + k * 2,none⟩ = some (.string l[k].1) ∧ w.cell? ⟨b,off + k * 2 + 1,none⟩ = some (.string l[k].2)):=by
 obtain ⟨ao,cap,rfl,hm,h⟩:=h
 rw [List.length_map] at hm ⊢
 refine ⟨ao,cap,rfl,hm,fun hne => ?_⟩
 obtain ⟨b,off,e,hl,hc⟩:=h (by simpa using hne)
 refine ⟨b,off,e,hl,fun k hk => ?_⟩
 have:=hc k (by simpa using hk)
 rw [List.getElem_map] at this
 exact ⟨this 0 _ rfl,this 1 _ rfl⟩
theorem ApRow.open {w:World} {v:Value} {l:List (ByteArray × Nat)} (h:ApRow w v l):∃ ao cap,v = .slice ao l.length cap ∧ l.length ≤ maxLen ∧ (l ≠ [] → ∃ b off,ao = some ⟨b,off,none⟩ ∧ b < w.heap.size ∧ ∀ k (hk:k < l.length),w.cell? ⟨b,off + k * 2,none⟩ = some (.string l[k].1) ∧ w.cell? ⟨b,off + k * 2 + 1,none⟩ = some (.int .i64 l[k].2)):=by
 obtain ⟨ao,cap,rfl,hm,h⟩:=h
 rw [List.length_map] at hm ⊢
 refine ⟨ao,cap,rfl,hm,fun hne => ?_⟩
 obtain ⟨b,off,e,hl,hc⟩:=h (by simpa using hne)
 refine ⟨b,off,e,hl,fun k hk => ?_⟩
 have:=hc k (by simpa using hk)
 rw [List.getElem_map] at this
 exact ⟨this 0 _ rfl,this 1 _ rfl⟩
theorem ba_beq (p q:ByteArray):(p.toList == q.toList) = decide (p = q):=by
 rw [ByteArray.toList_eq,ByteArray.toList_eq]
 by_cases h:p = q
 ·subst h;simp
 ·rw [decide_eq_false h,beq_eq_false_iff_ne]
  exact fun e => h (ba_ext e)
def grGo:List Lf → Nat → Bool
 | [],_ => false
 | f :: l,n => decide (12000 < n + f.2.size) || decide (300 < f.1.size) || grGo l (n + f.2.size)
def gr26 (l:List Lf):Bool:=decide (320 < l.length) || grGo l 0
theorem grGo_step (l:List Lf) (n k:Nat) (h:k < l.length):grGo (l.drop k) n = (decide (12000 < n + l[k].2.size) || decide (300 < l[k].1.size) || grGo (l.drop (k + 1)) (n + l[k].2.size)):=by
 rw [List.drop_eq_getElem_cons h];rfl
set_option maxHeartbeats 1000000 in
theorem great26_any (v:Value) (l:List Lf) (w:World) (hz:∀ f ∈ l,f.2.size ≤ 1000000000000000) (hv:LeafRow w v l) :
  Calls Tryz.prog 5 #[v] w fun e w' => e = .returned (.bool (gr26 l)) ∧ Below w.heap.size w w':=by
 obtain ⟨ao,cap,rfl,hmax,hv⟩:=hv.open
 unfold maxLen at hmax
 have HZ:=Lib.hid hz
 clear hz
 by_cases hg:320 < l.length
 ·go_enter Tryz.func5,Tryz.ntmps5
  go_wp2
  go_ret
  exact ⟨by unfold gr26;rw [decide_eq_true hg];rfl,Below.refl _ _⟩
 ·have hgl:=decide_eq_false hg
  have HG:=Lib.hid hgl
  go_enter Tryz.func5,Tryz.ntmps5
  go_wp2
  go_loopw [3,4] (fun n i wr => ∃ k m:Nat,k ≤ l.length ∧ i = .int .i64 k ∧ n = .int .i64 m ∧ m ≤ 12000 ∧ Hid (grGo (l.drop k) m = grGo l 0) ∧ Below w.heap.size w wr) (fun _ i _ => (l.length - intOf i).toNat)
  case atStart => exact ⟨0,0,by omega,rfl,rfl,by omega,rfl,Below.refl _ _⟩
  case round =>
   obtain ⟨k,m,hk,rfl,rfl,hm,hf,hb⟩:=hrel
   by_cases hlt:k < l.length
   ·obtain ⟨b,off,rfl,hbl,hcell⟩:=hv (by intro e;rw [e] at hlt;simp at hlt)
    obtain ⟨c1,c2⟩:=hcell k hlt
    have hs:=grGo_step l m k hlt
    rw [hf.out] at hs
    have c1':=below_load c1 hb hbl
    have c2':=below_load c2 hb hbl
    have hzt:=HZ.out l[k] (List.getElem_mem hlt)
    clear hcell c1 c2 hf
    generalize l[k].1 = q at c1' hs hzt
    generalize l[k].2 = t at c2' hs hzt
    have hwr:IntKind.i64.wrap ((m:Int) + t.size) = (m:Int) + t.size:=IntWalk.i64_in _ (by omega)
    by_cases h1:12000 < m + t.size
    ·rw [decide_eq_true h1] at hs
     have HS:=Lib.hid hs
     have h1':(12000:Int) < (m:Int) + t.size:=by omega
     clear hs
     go_wp2
     go_ret
     exact ⟨by unfold gr26;rw [HG.out,HS.out];rfl,hb⟩
    ·rw [decide_eq_false h1] at hs
     have h1':decide ((12000:Int) < (m:Int) + t.size) = false:=decide_eq_false (by omega)
     by_cases h2:300 < q.size
     ·rw [decide_eq_true h2] at hs
      have HS:=Lib.hid hs
      have h2':(300:Int) < q.size:=by omega
      clear hs
      go_wp2
      go_ret
      exact ⟨by unfold gr26;rw [HG.out,HS.out];rfl,hb⟩
     ·rw [decide_eq_false h2] at hs
      have HS:=Lib.hid hs
      have h2':decide ((300:Int) < q.size) = false:=decide_eq_false (by omega)
      clear hs
      go_wp2
      go_roundw
      case rel => exact ⟨k + 1,m + t.size,by omega,by go_num,by go_num,by omega,by rw [HS.out];rfl,hb⟩
      case measure => simp [intOf];omega
   ·obtain rfl:k = l.length:=by omega
    have hs:grGo l 0 = false:=by rw [← hf.out];simp [grGo]
    have HS:=Lib.hid hs
    clear hf hs
    go_wp2
    go_ret
    exact ⟨by unfold gr26;rw [HG.out,HS.out];rfl,hb⟩
end Go.Proofs.YtmhjpmenngjmeaaGreatDoor
namespace Go.Proofs.YtmhjpmenngjmeaaGreatDoor
open Go.RowKit
def ofL (l:List UInt8):ByteArray:=⟨l.toArray⟩
theorem ofL_data (l:List UInt8):(ofL l).data.toList = l:=by simp [ofL]
def nms (s:ByteArray):List ByteArray:=(spl s.data.toList).map ofL
theorem nms_data (s:ByteArray):(nms s).map (·.data.toList) = spl s.data.toList:=by
 unfold nms;rw [List.map_map]
 conv => rhs;rw [← List.map_id (spl s.data.toList)]
 congr 1
theorem map_data_inj:∀ {l m:List ByteArray},l.map (·.data.toList) = m.map (·.data.toList) → l = m
 | [],[],_ => rfl
 | [],_ :: _,h => by simp at h
 | _ :: _,[],h => by simp at h
 | x :: l,y :: m,h => by
  simp only [List.map_cons,List.cons.injEq] at h
  rw [ba_ext h.1,map_data_inj h.2]
theorem nms_of {s:ByteArray} {l:List ByteArray} (h:l.map (·.data.toList) = spl s.data.toList):l = nms s:=map_data_inj (by rw [h,nms_data])
theorem drop_byte (s:ByteArray) (k:Nat) (h:k < s.size):s.data.toList.drop k = s[k] :: s.data.toList.drop (k + 1):=by
 rw [List.drop_eq_getElem_cons (by simpa using h)];rfl
theorem extract_one (s:ByteArray) (k:Nat) (h:k < s.size):(s.extract k (k + 1)).data.toList = [s[k]]:=by
 rw [Lib.extract_data]
 rw [drop_byte s k h]
 simp [List.take_succ_cons]
theorem infoS:(Tryz.prog.info? 9).map (fun i => (i.zero,i.size,i.bytes)) = some (some (.string ByteArray.empty),1,16):=by kernel_rfl
theorem isNaN_any (x:ByteArray) (w:World):Calls Tryz.prog 97 #[.string x] w fun e w' => e = .returned (.bool false) ∧ w' = w:=by
 go_enter Tryz.func97,Tryz.ntmps97
 go_wp2
 go_ret
 exact ⟨by simp,rfl⟩
theorem compare_any (x y:ByteArray) (w:World):Calls Tryz.prog 56 #[.string x,.string y] w fun e w' => e = .returned (.int .i64 (cmpB x.data.toList y.data.toList)) ∧ w' = w:=by
 cases hl:Op.bytesLess x.toList y.toList
 ·by_cases he:x.toList = y.toList
  ·have hr:cmpB x.data.toList y.data.toList = 0:=by rw [cmpB_zero,← ByteArray.toList_eq,← ByteArray.toList_eq,he]
   rw [hr]
   have he':(x.toList == y.toList) = true:=beq_iff_eq.2 he
   clear hr he
   go_enter Tryz.func56,Tryz.ntmps56
   go_wp2_with (go_at_call 97;refine (isNaN_any _ _).mono ?_;rintro e w1 ⟨rfl,hw1⟩;rw [hw1];clear hw1)
   go_ret
   exact ⟨rfl,rfl⟩
  ·have hr:cmpB x.data.toList y.data.toList = 1:=by
    unfold cmpB;rw [← ByteArray.toList_eq,← ByteArray.toList_eq,hl,if_neg (by simp),if_neg he]
   rw [hr]
   have he':(x.toList == y.toList) = false:=beq_eq_false_iff_ne.2 he
   clear hr he
   go_enter Tryz.func56,Tryz.ntmps56
   go_wp2_with (go_at_call 97;refine (isNaN_any _ _).mono ?_;rintro e w1 ⟨rfl,hw1⟩;rw [hw1];clear hw1)
   go_ret
   exact ⟨rfl,rfl⟩
 ·have hr:cmpB x.data.toList y.data.toList = -1:=by
   unfold cmpB;rw [← ByteArray.toList_eq,← ByteArray.toList_eq,hl,if_pos rfl]
  rw [hr]
  clear hr
  go_enter Tryz.func56,Tryz.ntmps56
  go_wp2_with (go_at_call 97;refine (isNaN_any _ _).mono ?_;rintro e w1 ⟨rfl,hw1⟩;rw [hw1];clear hw1)
  go_ret
  exact ⟨rfl,rfl⟩
end Go.Proofs.YtmhjpmenngjmeaaGreatDoor
