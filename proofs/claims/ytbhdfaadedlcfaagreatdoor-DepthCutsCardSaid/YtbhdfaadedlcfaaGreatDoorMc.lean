/- Texts of this claim, laid together: SortP, IdPl, GidE, GidCl, Kept, GidDf, GidCo, InsP, Cmp, ShelfS, GidSt, GidX, StrId, Unhex0, Less, GoB. -/
import Derived.Test.YtbhdfaadedlcfaaGreatDoorMb
import Derived.Test.YtbhdfaadedlcfaaGreatDoorProg
import Derived.Below
import Derived.Laws.Cover1
import Derived.Lib.Bytealg
import Derived.Lib.SliceRun
import Derived.Lib.Hide
import Derived.Deep.CutBlock
import Derived.Shelf.SlSortCmp.WholeK
import Derived.Laws.OwnMore
namespace Go.Proofs.YtbhdfaadedlcfaaGreatDoor
open Go.RowKit
section
theorem zBn (a:List UInt8):Op.bytesLess a a=false:=by
 induction a with
 | nil=>rfl
 | cons x a ih=>rw [Op.bytesLess,ih];simp
theorem zCl : ∀ {a b:List UInt8},Op.bytesLess a b=true→Op.bytesLess b a=false
 | a,[],h=>by cases a<;>simp [Op.bytesLess] at h
 | [],y::b,_=>rfl
 | x::a,y::b,h=>by
   rw [Op.bytesLess] at h ⊢
   simp only [Bool.or_eq_true,Bool.and_eq_true,decide_eq_true_eq,beq_iff_eq,UInt8.lt_iff_toNat_lt] at h
   simp only [Bool.or_eq_false_iff,Bool.and_eq_false_iff,decide_eq_false_iff_not,UInt8.lt_iff_toNat_lt]
   rcases h with h | ⟨rfl,h⟩
   ·refine ⟨by omega, .inl ?_⟩
    rw [beq_eq_false_iff_ne]
    rintro rfl
    omega
   ·exact ⟨by omega, .inr (zCl h)⟩
theorem zBg : ∀ {a b:List UInt8},Op.bytesLess a b=false→a≠b→Op.bytesLess b a=true
 | [],[],_,hne=>absurd rfl hne
 | x::a,[],_,_=>rfl
 | [],y::b,h,_=>by simp [Op.bytesLess] at h
 | x::a,y::b,h,hne=>by
   rw [Op.bytesLess] at h ⊢
   simp only [Bool.or_eq_false_iff,Bool.and_eq_false_iff,decide_eq_false_iff_not,UInt8.lt_iff_toNat_lt] at h
   simp only [Bool.or_eq_true,Bool.and_eq_true,decide_eq_true_eq,beq_iff_eq,UInt8.lt_iff_toNat_lt]
   by_cases hxy:x=y
   ·subst hxy
    refine .inr ⟨rfl,zBg (h.2.resolve_left (by simp)) (fun e=>hne (by rw [e]))⟩
   ·have:x.toNat≠y.toNat:=fun e=>hxy (UInt8.toNat_inj.1 e)
    exact .inl (by omega)
theorem zBB : ∀ {a b c:List UInt8},Op.bytesLess a b=true→Op.bytesLess b c=true→Op.bytesLess a c=true
 | a,b,[],_,h=>by cases b<;>simp [Op.bytesLess] at h
 | a,[],z::c,h,_=>by cases a<;>simp [Op.bytesLess] at h
 | [],y::b,z::c,_,_=>rfl
 | x::a,y::b,z::c,h1,h2=>by
   rw [Op.bytesLess] at h1 h2 ⊢
   simp only [Bool.or_eq_true,Bool.and_eq_true,decide_eq_true_eq,beq_iff_eq,UInt8.lt_iff_toNat_lt] at h1 h2 ⊢
   rcases h1 with h1 | ⟨rfl,h1⟩
   ·rcases h2 with h2 | ⟨rfl,h2⟩
    ·exact .inl (by omega)
    ·exact .inl h1
   ·rcases h2 with h2 | ⟨rfl,h2⟩
    ·exact .inl h2
    ·exact .inr ⟨rfl,zBB h1 h2⟩
theorem cmp_neg : ∀ (a b:List UInt8),(decide (Lib.compareBytes a b<0))=Op.bytesLess a b
 | [],[]=>rfl
 | [],_::_=>rfl
 | _::_,[]=>rfl
 | x::a,y::b=>by
   have ih:=cmp_neg a b
   simp only [Lib.compareBytes,Op.bytesLess]
   by_cases h1:x<y
   ·simp [h1]
   ·by_cases h2:x>y
    ·have hne:(x==y)=false:=by
      rw [beq_eq_false_iff_ne]
      rintro rfl
      exact h1 h2
     simp [h1,h2,hne]
    ·have he:x=y:=UInt8.toNat_inj.1 (by rw [UInt8.lt_iff_toNat_lt] at h1;rw [gt_iff_lt,UInt8.lt_iff_toNat_lt] at h2;omega)
     subst he
     simp only [h1,if_false,decide_false,Bool.false_or,beq_self_eq_true,Bool.true_and]
     exact ih
theorem cmp_zero : ∀ (a b:List UInt8),(decide (Lib.compareBytes a b=0))=(a==b)
 | [],[]=>rfl
 | [],_::_=>rfl
 | _::_,[]=>rfl
 | x::a,y::b=>by
   have ih:=cmp_zero a b
   simp only [Lib.compareBytes]
   by_cases h1:x<y
   ·have hne:(x==y)=false:=by
     rw [beq_eq_false_iff_ne]
     rintro rfl
     rw [UInt8.lt_iff_toNat_lt] at h1
     omega
    simp [h1,hne]
   ·by_cases h2:x>y
    ·have hne:(x==y)=false:=by
      rw [beq_eq_false_iff_ne]
      rintro rfl
      exact h1 h2
     simp [h1,h2,hne]
    ·have he:x=y:=UInt8.toNat_inj.1 (by rw [UInt8.lt_iff_toNat_lt] at h1;rw [gt_iff_lt,UInt8.lt_iff_toNat_lt] at h2;omega)
     subst he
     simp only [h1,h2,if_false]
     rw [ih]
     simp
def hitAt {α:Type} (cmp:α→Int) (l:List α) (p:Nat):Bool:=match l[p]? with | some x=>decide (cmp x=0) | none=>false
theorem zD3 {α:Type} {cmp:α→Int} {l:List α} {p:Nat} {x:α} (h:l[p]?=some x):hitAt cmp l p=decide (cmp x=0):=by unfold hitAt;rw [h]
theorem zEi {α:Type} {cmp:α→Int} {l:List α} {p:Nat} (h:l.length≤p):hitAt cmp l p=false:=by unfold hitAt;rw [List.getElem?_eq_none h]
section
variable {α:Type} (key:α→List UInt8)
def SortedK (l:List α):Prop:=l.Pairwise (fun a b=>Op.bytesLess (key a) (key b)=true)
def posK (l:List α) (n:List UInt8):Nat:=(l.takeWhile (fun r=>Op.bytesLess (key r) n)).length
def hasK (l:List α) (n:List UInt8):Bool:=l.any (fun r=>key r==n)
def dropK (l:List α) (n:List UInt8):List α:=l.filter (fun r => !(key r==n))
def insK (l:List α) (x:α):List α:=l.take (posK key l (key x))++[x]++l.drop (posK key l (key x))
def putK (l:List α) (x:α):List α:=if hasK key l (key x) then l.set (posK key l (key x)) x else insK key l x
def setK (x:α):Bool→List α→List α
 | d,[]=>if d then [] else [x]
 | d,y::r=>(if !d && !Op.bytesLess (key y) (key x) then [x] else [])++(if key y==key x then [] else [y])++setK x (d || !Op.bytesLess (key y) (key x)) r
end
section
variable {α:Type} {key:α→List UInt8} {l:List α} {n:List UInt8} {x y:α}
theorem posK_le : posK key l n≤l.length:=(List.takeWhile_sublist _).length_le
theorem zCc (h:Op.bytesLess (key y) n=true):posK key (y::l) n=posK key l n+1:=by simp [posK,List.takeWhile_cons,h]
theorem zBs (h:Op.bytesLess (key y) n=false):posK key (y::l) n=0:=by simp [posK,List.takeWhile_cons,h]
theorem zB1 (h:SortedK key (y::l)):SortedK key l:=(List.pairwise_cons.1 h).2
theorem zCC (h:SortedK key (y::l)) : ∀ z∈l,Op.bytesLess (key y) (key z)=true:=(List.pairwise_cons.1 h).1
theorem zEC (hs:SortedK key (y::l)) (hy:Op.bytesLess (key y) n=false) : ∀ z∈y::l,Op.bytesLess (key z) n=false:=by
 intro z hz
 rcases List.mem_cons.1 hz with rfl | hz
 ·exact hy
 ·cases h:Op.bytesLess (key z) n with
  | false=>rfl
  | true=>
    have:=zBB (zCC hs z hz) h
    rw [hy] at this;cases this
theorem zDA (hs:SortedK key l) {i:Nat} (hy:l[i]?=some y):Op.bytesLess (key y) n=decide (i<posK key l n):=by
 induction l generalizing i with
 | nil=>simp at hy
 | cons z l ih=>
   cases hz:Op.bytesLess (key z) n with
   | true=>
     rw [zCc hz]
     cases i with
     | zero=>simp at hy;subst hy;rw [hz];simp
     | succ i=>rw [ih (zB1 hs) (by simpa using hy)];simp
   | false=>
     rw [zBs hz]
     have:=zEC hs hz y (List.mem_of_getElem? hy)
     rw [this];simp
theorem less_ne {a b:List UInt8} (h:Op.bytesLess a b=true):(a==b)=false:=by
 rw [beq_eq_false_iff_ne]
 rintro rfl
 rw [zBn] at h;cases h
theorem hasK_at (hs:SortedK key l):hasK key l n=(match l[posK key l n]? with | some y=>key y==n | none=>false):=by
 induction l with
 | nil=>rfl
 | cons z l ih=>
   cases hz:Op.bytesLess (key z) n with
   | true=>
     rw [zCc hz]
     have:=ih (zB1 hs)
     simp only [hasK,List.any_cons,less_ne hz,Bool.false_or] at this ⊢
     rw [this]
     simp
   | false=>
     rw [zBs hz]
     simp only [hasK,List.any_cons,List.getElem?_cons_zero]
     cases he:(key z==n) with
     | true=>rfl
     | false=>
       rw [Bool.false_or,List.any_eq_false]
       intro y hy hk
       have h1:=zCC hs y hy
       have h2:key y=n:=by simpa using hk
       rw [h2] at h1
       rw [hz] at h1;cases h1
theorem hasK_mem (h:hasK key l n=false) : ∀ y∈l,(key y==n)=false:=by
 intro y hy
 have:=List.any_eq_false.1 h y hy
 simpa using this
theorem setK_true : setK key x true l=dropK key l (key x):=by
 induction l with
 | nil=>rfl
 | cons y l ih=>
   simp only [setK,dropK,List.filter_cons,Bool.not_true,Bool.false_and,Bool.false_eq_true,if_false,List.nil_append,Bool.true_or]
   rw [ih]
   cases key y==key x<;>simp [dropK]
theorem dropK_none (h:hasK key l n=false):dropK key l n=l:=List.filter_eq_self.2 fun y hy=>by rw [hasK_mem h y hy];rfl
theorem zEQ (h : ∀ z∈l,Op.bytesLess n (key z)=true):hasK key l n=false:=List.any_eq_false.2 fun z hz=>by
 have:=less_ne (h z hz)
 rw [beq_eq_false_iff_ne] at this
 simpa using fun e=>this e.symm
theorem setK_false (hs:SortedK key l):setK key x false l=putK key l x:=by
 induction l with
 | nil=>rfl
 | cons z l ih=>
   cases hz:Op.bytesLess (key z) (key x) with
   | true=>
     have hne:=less_ne hz
     have h2:hasK key (z::l) (key x)=hasK key l (key x):=by simp [hasK,hne]
     simp only [setK,hz,hne,Bool.not_true,Bool.and_false,Bool.false_eq_true,if_false,List.nil_append,Bool.or_false]
     rw [ih (zB1 hs)]
     unfold putK insK
     rw [h2,zCc hz]
     cases hasK key l (key x)<;>simp
   | false=>
     simp only [setK,hz,Bool.not_false,Bool.and_self,if_true,Bool.or_true]
     rw [setK_true]
     unfold putK insK
     rw [zBs hz]
     cases he:(key z==key x) with
     | true=>
       have hzn:key z=key x:=by simpa using he
       have h0:hasK key l (key x)=false:=zEQ (by rw [←hzn];exact zCC hs)
       rw [dropK_none h0]
       simp [hasK,he]
     | false=>
       have h0:hasK key (z::l) (key x)=false:=by
        rw [hasK_at hs,zBs hz]
        simpa using he
       have h1:hasK key l (key x)=false:=by
        simp only [hasK,List.any_cons,he,Bool.false_or] at h0 ⊢
        exact h0
       rw [dropK_none h1,h0]
       simp
theorem sorted_drop (hs:SortedK key l):SortedK key (dropK key l n):=List.Pairwise.filter _ hs
theorem mem_setK {d:Bool} (h:y∈setK key x d l):y∈l∨y=x:=by
 induction l generalizing d with
 | nil=>cases d<;>simp [setK] at h;exact .inr h
 | cons z l ih=>
   simp only [setK,List.mem_append] at h
   rcases h with (h1 | h1) | h1
   ·split at h1
    ·simp at h1;exact .inr h1
    ·simp at h1
   ·split at h1
    ·simp at h1
    ·simp at h1;exact .inl (by simp [h1])
   ·rcases ih h1 with h2 | h2
    ·exact .inl (by simp [h2])
    ·exact .inr h2
theorem dropK_mem (h:y∈dropK key l n):y∈l∧key y≠n:=by
 simp only [dropK,List.mem_filter] at h
 exact ⟨h.1,by simpa using h.2⟩
theorem sorted_setK (hs:SortedK key l):SortedK key (setK key x false l):=by
 induction l with
 | nil=>exact List.pairwise_singleton _ _
 | cons z l ih=>
   cases hz:Op.bytesLess (key z) (key x) with
   | true=>
     have hne:=less_ne hz
     simp only [setK,hz,hne,Bool.not_true,Bool.and_false,Bool.false_eq_true,if_false,List.nil_append,Bool.or_false,List.singleton_append]
     refine List.pairwise_cons.2 ⟨fun y hy=>?_,ih (zB1 hs)⟩
     rcases mem_setK hy with h1 | rfl
     ·exact zCC hs y h1
     ·exact hz
   | false=>
     have hall:=zEC hs hz
     have hd:setK key x false (z::l)=x::dropK key (z::l) (key x):=by
      simp only [setK,hz,Bool.not_false,Bool.and_self,if_true,Bool.or_true]
      rw [setK_true]
      cases hne:(key z==key x)<;>simp [dropK,List.filter_cons,hne]
     rw [hd]
     refine List.pairwise_cons.2 ⟨fun y hy=>?_,sorted_drop hs⟩
     obtain ⟨h1,h2⟩:=dropK_mem hy
     exact zBg (hall y h1) h2
theorem zEh (hs:SortedK key l):SortedK key (putK key l x):=by rw [←setK_false hs];exact sorted_setK hs
theorem find_at (hs:SortedK key l):l.find? (fun r=>key r==n)=if hasK key l n then l[posK key l n]? else none:=by
 induction l with
 | nil=>rfl
 | cons z l ih=>
   cases hz:Op.bytesLess (key z) n with
   | true=>
     have hne:=less_ne hz
     have h2:hasK key (z::l) n=hasK key l n:=by simp [hasK,hne]
     rw [h2,zCc hz,List.find?_cons,hne]
     simpa using ih (zB1 hs)
   | false=>
     cases he:(key z==n) with
     | true=>rw [zBs hz,List.find?_cons,he];simp [hasK,he]
     | false=>
       have h0:hasK key (z::l) n=false:=by
        rw [hasK_at hs,zBs hz]
        simpa using he
       rw [h0]
       simp only [Bool.false_eq_true,if_false,List.find?_eq_none]
       intro y hy
       rw [hasK_mem h0 y hy];simp
theorem hasK_hit (hs:SortedK key l):hasK key l n=hitAt (fun x=>Lib.compareBytes (key x) n) l (posK key l n):=by
 rw [hasK_at hs]
 unfold hitAt
 cases l[posK key l n]? with
 | none=>rfl
 | some x=>exact (cmp_zero _ _).symm
theorem putK_len : (putK key l x).length≤l.length+1:=by
 unfold putK insK
 split
 ·simp
 ·simp;omega
theorem putK_mem (h:y∈putK key l x):y∈l∨y=x:=by
 unfold putK insK at h
 split at h
 ·rcases List.mem_or_eq_of_mem_set h with h | h
  ·exact .inl h
  ·exact .inr h
 ·simp only [List.mem_append,List.mem_singleton] at h
  rcases h with (h | h) | h
  ·exact .inl (List.mem_of_mem_take h)
  ·exact .inr h
  ·exact .inl (List.mem_of_mem_drop h)
end
end
def RiseL (l:List (List UInt8)):Prop:=l.Pairwise fun a b=>Op.bytesLess a b=true
theorem zCY : ∀ {a b:List (List UInt8)},RiseL a→RiseL b→(∀ x,x∈a↔x∈b)→a=b
 | [],[],_,_,_=>rfl
 | [],y::b,_,_,h=>by have:=(h y).2 (by simp);simp at this
 | x::a,[],_,_,h=>by have:=(h x).1 (by simp);simp at this
 | x::a,y::b,ha,hb,h=>by
   obtain ⟨ha1,ha2⟩:=List.pairwise_cons.1 ha
   obtain ⟨hb1,hb2⟩:=List.pairwise_cons.1 hb
   have e:x=y:=by
    rcases List.mem_cons.1 ((h x).1 (by simp)) with e | hx
    ·exact e
    ·rcases List.mem_cons.1 ((h y).2 (by simp)) with e | hy
     ·exact e.symm
     ·have h1:=hb1 x hx
      have h2:=zCl (ha1 y hy)
      rw [h1] at h2
      exact absurd h2 (by simp)
   subst e
   congr 1
   refine zCY ha2 hb2 fun z=>⟨fun hz=>?_,fun hz=>?_⟩
   ·rcases List.mem_cons.1 ((h z).1 (by simp [hz])) with e | hx
    ·subst e
     have:=ha1 z hz
     rw [zBn] at this
     exact absurd this (by simp)
    ·exact hx
   ·rcases List.mem_cons.1 ((h z).2 (by simp [hz])) with e | hx
    ·subst e
     have:=hb1 z hz
     rw [zBn] at this
     exact absurd this (by simp)
    ·exact hx
def compT (l:List (List UInt8)):Nat→List (List UInt8)
 | 0=>[]
 | j+1=>if j≠0∧l.getD j []=l.getD (j-1) [] then compT l j else compT l j++[l.getD j []]
theorem compT_law {l:List (List UInt8)} (hs : ∀ i j,i<j→j<l.length→Op.bytesLess (l.getD j []) (l.getD i [])=false) : ∀ j,j≤l.length→RiseL (compT l j)∧(∀ x,x∈compT l j↔x∈l.take j)∧(0<j → ∀ x∈compT l j,x=l.getD (j-1) []∨Op.bytesLess x (l.getD (j-1) [])=true)
 | 0,_=>⟨List.Pairwise.nil,fun x=>by simp [compT],fun h=>by omega⟩
 | j+1,hj=>by
   obtain ⟨h1,h2,h3⟩:=compT_law hs j (by omega)
   have hg:l[j]?=some (l.getD j []):=by rw [List.getElem?_eq_getElem (by omega),List.getD_eq_getElem?_getD,List.getElem?_eq_getElem (by omega)];rfl
   have ht : ∀ x,x∈l.take (j+1)↔x∈l.take j∨x=l.getD j []:=fun x=>by rw [List.take_add_one,hg];simp
   unfold compT
   split
   ·rename_i hc
    refine ⟨h1,fun x=>?_,fun _ x hx=>?_⟩
    ·rw [ht,←h2 x]
     refine ⟨.inl,fun h=>h.elim id fun e=>?_⟩
     rw [e,hc.2,h2]
     have hg':l[j-1]?=some (l.getD (j-1) []):=by rw [List.getElem?_eq_getElem (by omega),List.getD_eq_getElem?_getD,List.getElem?_eq_getElem (by omega)];rfl
     refine List.mem_of_getElem? (i:=j-1) ?_
     rw [List.getElem?_take_of_lt (by omega)]
     exact hg'
    ·rw [Nat.add_sub_cancel,hc.2]
     exact h3 (by omega) x hx
   ·rename_i hc
    have hlt : ∀ x∈compT l j,Op.bytesLess x (l.getD j [])=true:=fun x hx=>by
     by_cases hj0:j=0
     ·subst hj0;simp [compT] at hx
     ·have hne:l.getD (j-1) []≠l.getD j []:=fun e=>hc ⟨hj0,e.symm⟩
      have hl:=zBg (hs (j-1) j (by omega) (by omega)) hne.symm
      rcases h3 (by omega) x hx with e | e
      ·rw [e];exact hl
      ·exact zBB e hl
    refine ⟨?_,fun x=>?_,fun _ x hx=>?_⟩
    ·refine List.pairwise_append.2 ⟨h1,List.pairwise_singleton _ _,fun a ha b hb=>?_⟩
     rw [List.mem_singleton.1 hb]
     exact hlt a ha
    ·rw [ht,←h2 x];simp
    ·rw [Nat.add_sub_cancel]
     rcases List.mem_append.1 hx with h | h
     ·exact .inr (hlt x h)
     ·exact .inl (List.mem_singleton.1 h)
def posL (out:List (List UInt8)) (x:List UInt8):Nat→Nat
 | 0=>0
 | k+1=>if Op.bytesLess x (out.getD k [])=true then posL out x k else k+1
def freshB (out:List (List UInt8)) (x:List UInt8):Nat→Bool
 | 0=>true
 | k+1 => !decide (out.getD k []=x)
def insU (out:List (List UInt8)) (x:List UInt8):List (List UInt8):=if freshB out x (posL out x out.length)=true then out.take (posL out x out.length)++[x]++out.drop (posL out x out.length) else out
def sortU (l:List (List UInt8)):List (List UInt8):=l.foldl insU []
theorem posL_le (out:List (List UInt8)) (x:List UInt8) : ∀ k,posL out x k≤k
 | 0=>Nat.le_refl _
 | k+1=>by
   unfold posL
   split
   ·exact Nat.le_succ_of_le (posL_le out x k)
   ·exact Nat.le_refl _
theorem posL_right (out:List (List UInt8)) (x:List UInt8) : ∀ k i,posL out x k≤i→i<k→Op.bytesLess x (out.getD i [])=true
 | 0,i,_,h=>by omega
 | k+1,i,h1,h2=>by
   unfold posL at h1
   split at h1
   ·rename_i hx
    by_cases hi:i=k
    ·rw [hi];exact hx
    ·exact posL_right out x k i h1 (by omega)
   ·omega
theorem posL_left (out:List (List UInt8)) (x:List UInt8) : ∀ k,0<posL out x k→Op.bytesLess x (out.getD (posL out x k-1) [])=false
 | 0,h=>by simp [posL] at h
 | k+1,h=>by
   unfold posL at h ⊢
   split
   ·rename_i hx
    rw [if_pos hx] at h
    exact posL_left out x k h
   ·rename_i hx
    rw [Nat.add_sub_cancel]
    cases hb:Op.bytesLess x (out.getD k [])
    ·rfl
    ·exact absurd hb hx
theorem insU_mem {out:List (List UInt8)} {x y:List UInt8} (h:y∈insU out x):y∈out∨y=x:=by
 unfold insU at h
 split at h
 ·simp only [List.mem_append,List.mem_singleton] at h
  rcases h with (h | h) | h
  ·exact .inl (List.mem_of_mem_take h)
  ·exact .inr h
  ·exact .inl (List.mem_of_mem_drop h)
 ·exact .inl h
theorem insU_len (out:List (List UInt8)) (x:List UInt8):(insU out x).length≤out.length+1:=by
 unfold insU
 split
 ·simp;omega
 ·omega
theorem sortU_more {l:List (List UInt8)} {k:Nat} {x:List UInt8} (hx:l[k]?=some x):sortU (l.take (k+1))=insU (sortU (l.take k)) x:=by
 unfold sortU
 rw [List.take_add_one,hx,List.foldl_append]
 rfl
theorem rise_get {l:List (List UInt8)} (h:RiseL l) {i j:Nat} (hij:i<j) (hj:j<l.length):Op.bytesLess (l.getD i []) (l.getD j [])=true:=by
 have:=List.pairwise_iff_getElem.1 h i j (by omega) hj hij
 rw [List.getD_eq_getElem?_getD,List.getD_eq_getElem?_getD,List.getElem?_eq_getElem hj,List.getElem?_eq_getElem (by omega)]
 exact this
theorem zDx {out:List (List UInt8)} (h:RiseL out) (x:List UInt8):RiseL (insU out x) ∧ ∀ y,y∈insU out x↔y∈out∨y=x:=by
 have hle:=posL_le out x out.length
 have hr:=posL_right out x out.length
 have hl:=posL_left out x out.length
 unfold insU
 generalize posL out x out.length=p at *
 have hgd : ∀ i,i<out.length→out[i]?=some (out.getD i []):=fun i hi=>by rw [List.getD_eq_getElem?_getD,List.getElem?_eq_getElem hi];rfl
 have hdr : ∀ y∈out.drop p,Op.bytesLess x y=true:=fun y hy=>by
  obtain ⟨j,hj,rfl⟩:=List.mem_drop_iff_getElem.1 hy
  have:=hr (p+j) (by omega) (by omega)
  rwa [List.getD_eq_getElem?_getD,List.getElem?_eq_getElem (by omega)] at this
 split
 ·rename_i hf
  have hta : ∀ y∈out.take p,Op.bytesLess y x=true:=fun y hy=>by
   obtain ⟨j,hj,rfl⟩:=List.mem_take_iff_getElem.1 hy
   cases p with
   | zero=>omega
   | succ p=>
     have h1:=hl (by omega)
     rw [Nat.add_sub_cancel] at h1
     have h2 : ¬ out.getD p []=x:=by simpa [freshB] using hf
     have h3:=zBg h1 (fun e=>h2 e.symm)
     by_cases hjp:j=p
     ·subst hjp
      rwa [List.getD_eq_getElem?_getD,List.getElem?_eq_getElem (by omega)] at h3
     ·have h4:=rise_get h (show j<p by omega) (by omega)
      have h5:=zBB h4 h3
      rwa [List.getD_eq_getElem?_getD,List.getElem?_eq_getElem (by omega)] at h5
  have hp2:RiseL (out.take p++out.drop p):=by rw [List.take_append_drop];exact h
  obtain ⟨q1,q2,q3⟩:=List.pairwise_append.1 hp2
  refine ⟨?_,fun y=>?_⟩
  ·refine List.pairwise_append.2 ⟨List.pairwise_append.2 ⟨q1,List.pairwise_singleton _ _,fun a ha b hb=>?_⟩,q2,fun a ha b hb=>?_⟩
   ·rw [List.mem_singleton.1 hb];exact hta a ha
   ·rcases List.mem_append.1 ha with ha | ha
    ·exact q3 a ha b hb
    ·rw [List.mem_singleton.1 ha];exact hdr b hb
  ·have:y∈out↔y∈out.take p∨y∈out.drop p:=by rw [←List.mem_append,List.take_append_drop]
   rw [this]
   simp only [List.mem_append,List.mem_singleton]
   constructor
   ·rintro ((h | h) | h)
    ·exact .inl (.inl h)
    ·exact .inr h
    ·exact .inl (.inr h)
   ·rintro ((h | h) | h)
    ·exact .inl (.inl h)
    ·exact .inr h
    ·exact .inl (.inr h)
 ·rename_i hf
  refine ⟨h,fun y=>⟨.inl,fun hy=>hy.elim id fun e=>?_⟩⟩
  cases p with
  | zero=>exact absurd rfl hf
  | succ p=>
    have h2:out.getD p []=x:=by
     by_cases e:out.getD p []=x
     ·exact e
     ·exact absurd (by simp only [freshB,decide_eq_false e,Bool.not_false]) hf
    rw [e,←h2]
    exact List.mem_of_getElem? (hgd p (by omega))
theorem zBz (l:List (List UInt8)):RiseL (sortU l) ∧ ∀ y,y∈sortU l↔y∈l:=by
 have : ∀ (l a:List (List UInt8)),RiseL a→RiseL (l.foldl insU a) ∧ ∀ y,y∈l.foldl insU a↔y∈a∨y∈l:=by
  intro l
  induction l with
  | nil=>exact fun a ha=>⟨ha,fun y=>by simp⟩
  | cons x l ih=>
    intro a ha
    obtain ⟨h1,h2⟩:=zDx ha x
    obtain ⟨h3,h4⟩:=ih _ h1
    refine ⟨h3,fun y=>?_⟩
    rw [List.foldl_cons,h4,h2,List.mem_cons]
    constructor
    ·rintro ((h | h) | h)
     ·exact .inl h
     ·exact .inr (.inl h)
     ·exact .inr (.inr h)
    ·rintro (h | h | h)
     ·exact .inl (.inl h)
     ·exact .inl (.inr h)
     ·exact .inr h
 obtain ⟨h1,h2⟩:=this l [] List.Pairwise.nil
 exact ⟨h1,fun y=>by rw [sortU,h2];simp⟩
theorem zDI : ∀ (l:List (List UInt8)),(sortU l).length≤l.length:=by
 have : ∀ (l a:List (List UInt8)),(l.foldl insU a).length≤a.length+l.length:=by
  intro l
  induction l with
  | nil=>intro a;simp
  | cons x l ih=>
    intro a
    have h1:=ih (insU a x)
    have h2:=insU_len a x
    rw [List.foldl_cons,List.length_cons];omega
 intro l
 have:=this l []
 rw [sortU];simpa using this
theorem compT_sortU {l d:List (List UInt8)} (hp:d.Perm l) (hs : ∀ i j,i<j→j<d.length→Op.bytesLess (d.getD j []) (d.getD i [])=false):compT d d.length=sortU l:=by
 obtain ⟨h1,h2,_⟩:=compT_law hs d.length (Nat.le_refl _)
 obtain ⟨h3,h4⟩:=zBz l
 refine zCY h1 h3 fun x=>?_
 rw [h2,h4,List.take_length]
 exact hp.mem_iff
abbrev GidOk (l:Txt):Prop:=l.length=32
def zGid : Value := .agg (idC noId).toArray
theorem zGid_one : ∀ u∈zGid.cells.toList,u.oneCell'=true:=fun u hu=>idC_one noId u (by simpa [zGid,Value.cells] using hu)
theorem Tryz.gidTy : SliceTy Tryz.prog 34 46 zGid 32 32:=by
 have:zGid = .agg (u8s noId):=by simp [zGid,idC]
 rw [this]
 exact Tryz.idsTy
theorem zBU {W:World} {ops:Array Oper} {rest:List Oper} {o:Oper} {a:Act} {Q:Exit→Act→World→Prop} (hgd:o.guard=none) (x y:Operand) (ho:o.op = .store 46 x y)
 (r:Txt) (hr:GidOk r) (zs:Array Value) (hx:a.eval x = .pointer (some ⟨W.heap.size,0,none⟩)) (hy:a.eval y = .agg (idC r).toArray) (hz:zs.size=32)
 (h : ∀ W1,Blk W1 W.heap.size 46 (idC r).toArray→Below W.heap.size W W1→wpList Tryz.prog ops Q rest (a.put o.dst undef) W1):wpList Tryz.prog ops Q (o::rest) a (W.alloc (.cells zs 46)):=
 zBk hgd _ x y ho (idC r).toArray zs hx hy (by rw [List.size_toArray,idC_len hr];exact sz32) (hz.trans (by simp [idC_len hr])) (Array.all_eq_true_iff_forall_mem.2 fun u hu=>idC_one r u (by simpa using hu)) h
theorem run_ldvGI {w:World} {g o:Nat} {x:Txt} (h:w.rangeAt g o (idC x)) (hx:GidOk x):(ldvI ⟨g,o,none⟩).run Tryz.prog w = .ok (.agg (idC x).toArray) w:=by
 rw [show (idC x).toArray=u8s x from by simp [idC]]
 exact zAb (show World.rangeAt w g o (u8s x).toList from h) hx
def GidsOk (l:List Txt):Prop := ∀ r∈l,GidOk r
theorem gidK {l:List Txt} (h:GidsOk l) : ∀ x∈l,(idC x).length=32:=fun x hx=>idC_len (h x hx)
theorem gidOne (l:List Txt) : ∀ u∈rowsOf idC l,u.oneCell'=true:=zAJ fun x _=>idC_one x
theorem szGid : (Tryz.prog.info? 46).map (·.size)=some 32:=by kernel_rfl
theorem zB6 {r:Txt} (h:GidOk r):(Tryz.prog.info? 46).map (·.size)=some (idC r).length:=by rw [idC_len h];exact szGid
abbrev Gids (w:World) (v:Value) (l:List Txt):Prop:=SliceAt w 32 idC v l
abbrev OwnGids (w:World) (base:Nat) (v:Value) (l:List Txt):Prop:=w.ownsRow base 46 32 v l.length (rowsOf idC l)
theorem OwnGids.refs {w:World} {base:Nat} {v:Value} {l:List Txt} (hok:GidsOk l) (h:OwnGids w base v l):Gids w v l:=SliceAt.of_own (gidK hok) h
theorem zEH {w:World} {g:Nat} {r:Txt} (h:Blk w g 46 (idC r).toArray):w.rangeAt g 0 (idC r):=by
 have:=zAi h
 rwa [List.toList_toArray] at this
theorem gidsOk_take {s:List Txt} (h:GidsOk s) (n:Nat):GidsOk (s.take n):=fun y hy=>h y (List.mem_of_mem_take hy)
theorem gidsOk_set {s:List Txt} (h:GidsOk s) (i:Nat) {x:Txt} (hx:GidOk x):GidsOk (s.set i x):=by
 intro y hy
 rcases List.mem_or_eq_of_mem_set hy with h1 | rfl
 ·exact h y h1
 ·exact hx
theorem OwnGids.of_row {w:World} {base g cap:Nat} {l:List Txt} (hok:GidsOk l) (h:Row w g 46 32 idC cap l) (hg:base≤g) {n:Nat} (hn:n=l.length):OwnGids w base (.slice (some ⟨g,0,none⟩) n cap) l:=by
 subst hn
 exact h.own (gidK hok) hg
theorem zGid_cells : zGid.cells.size=32:=rfl
theorem zGid_info : (Tryz.prog.info? 46).map (·.zero)=some (some zGid):=by
 obtain ⟨i,h1,h2,_⟩:=Tryz.gidTy.hi
 rw [h1]
 simp [h2]
set_option maxRecDepth 100000 in
set_option maxHeartbeats 400000 in
theorem zCT (l:List Txt) (hok:GidsOk l) (hbig:l.length≤1000000) (v:Value) (w:World) (hv:Gids w v l) :
 Calls Tryz.prog 43 #[v] w fun e w' => ∃ v',e = .returned v'∧OwnGids w' w.heap.size v' l∧Below w.heap.size w w':=by
 have hv0:=hv
 have q22:=fun (w:World) (a:Option Addr) (n c n' c':Nat)=>Lib.run_eql_slice_nil (P:=Tryz.prog) w 34 _ a n c n' c' Tryz.underlying34
 obtain ⟨A,cap,rfl,hcap1,hcap2,hat⟩:=hv
 cases A with
 | none=>
   obtain rfl:l=[]:=by
    cases l with
    | nil=>rfl
    | cons x l=>obtain ⟨g,o,h,_⟩:=hat (by simp);cases h
   clear hat hv0
   go_enter Tryz.func43,Tryz.ntmps43
   go_wp2
   go_ret
   exact ⟨_,rfl,World.ownsRow_nil _ _ _ _,Below.refl _ _⟩
 | some ad=>
   have hb0:Below w.heap.size w (w.alloc (.cells #[] 46)):=(Below.refl _ _).alloc (Nat.le_refl _) _
   have hnews:=(hv0.below hb0).news (gidK hok) rfl
   have hown0:(w.alloc (.cells #[] 46)).ownsRow w.heap.size 46 32 (.slice (some ⟨w.heap.size,0,none⟩) 0 0) 0 []:=
    World.ownsRow_lit (size:=32) w #[] 0 (Nat.le_refl _) (by simp [maxLen]) rfl
   have hone:=gidOne l
   have hl:=zAn (gidK hok)
   clear hat hv0
   go_enter Tryz.func43,Tryz.ntmps43
   go_wp2_with (first
    | (at_builtin
       refine zDp rfl (.tmp 5) (.tmp 6) _ rfl 46 _ 32 32 Tryz.gidTy w.heap.size _ 0 [] rfl hown0 ad l.length cap (rowsOf idC l) rfl hl hnews hone (by omega) (by omega) w hb0 hb0.size ?_
       intro v' w' hown3 hbel3))
   go_ret
   refine ⟨_,rfl,?_,hbel3⟩
   rw [Nat.zero_add,List.nil_append] at hown3
   exact hown3
def idxOf {α:Type} (p:α→Bool) (l:List α):Int:=match l.findIdx? p with | some i=>(i:Int) | none => -1
theorem idxOf_found {α:Type} {p:α→Bool} {l:List α} {k:Nat} {x:α} (hn:(l.take k).all (fun y => !p y)=true) (hx:l[k]?=some x) (hp:p x=true):idxOf p l=(k:Int):=by
 have:l.findIdx? p=some k:=by
  rw [List.findIdx?_eq_some_iff_getElem]
  obtain ⟨hk,he⟩:=List.getElem?_eq_some_iff.1 hx
  refine ⟨hk,by rw [he];exact hp,fun j hj=>?_⟩
  have hm:l[j]∈l.take k:=by
   rw [List.mem_take_iff_getElem]
   exact ⟨j,by omega,rfl⟩
  have:=List.all_eq_true.1 hn _ hm
  simpa using this
 simp [idxOf,this]
theorem idxOf_none {α:Type} {p:α→Bool} {l:List α} (hn:l.all (fun y => !p y)=true):idxOf p l = -1:=by
 have:l.findIdx? p=none:=by
  rw [List.findIdx?_eq_none_iff]
  intro x hx
  have:=List.all_eq_true.1 hn x hx
  simpa using this
 simp [idxOf,this]
theorem none_step {α:Type} {p:α→Bool} {l:List α} {k:Nat} {x:α} (hn:(l.take k).all (fun y => !p y)=true) (hx:l[k]?=some x) (hp:p x=false):(l.take (k+1)).all (fun y => !p y)=true:=by
 rw [List.take_add_one,List.all_append,hn,hx]
 simp [hp]
theorem idx_cases {α:Type} (p:α→Bool) (l:List α) :
 (∃ k x,l[k]?=some x∧k<l.length∧idxOf p l=(k:Int)∧p x=true∧(l.take k).all (fun y => !p y)=true)∨(idxOf p l = -1∧l.all (fun y => !p y)=true):=by
 cases h:l.findIdx? p with
 | some k=>
   obtain ⟨hk,hp,hn⟩:=List.findIdx?_eq_some_iff_getElem.1 h
   refine .inl ⟨k,l[k],List.getElem?_eq_getElem hk,hk,by simp [idxOf,h],hp,?_⟩
   rw [List.all_eq_true]
   intro y hy
   obtain ⟨j,hj,rfl⟩:=List.mem_take_iff_getElem.1 hy
   have:=hn j (by omega)
   simpa using this
 | none=>
   refine .inr ⟨by simp [idxOf,h],?_⟩
   rw [List.all_eq_true]
   intro y hy
   have:=List.findIdx?_eq_none_iff.1 h y hy
   simpa using this
def keptOf {α:Type} (p:α→Bool) (l:List α) (j:Nat):List α:=(l.take j).filter (fun y => !p y)
theorem kept_keep {α:Type} {p:α→Bool} {l:List α} {j:Nat} {x:α} (hx:l[j]?=some x) (hp:p x=false):keptOf p l (j+1)=keptOf p l j++[x]:=by
 simp [keptOf,List.take_add_one,hx,hp]
theorem kept_drop {α:Type} {p:α→Bool} {l:List α} {j:Nat} {x:α} (hx:l[j]?=some x) (hp:p x=true):keptOf p l (j+1)=keptOf p l j:=by
 simp [keptOf,List.take_add_one,hx,hp]
theorem kept_all {α:Type} {p:α→Bool} {l:List α} {j:Nat} (h:(l.take j).all (fun y => !p y)=true):keptOf p l j=l.take j:=by
 rw [keptOf,List.filter_eq_self]
 exact fun y hy=>List.all_eq_true.1 h y hy
theorem kept_end {α:Type} {p:α→Bool} {l:List α} {j:Nat} (h:l.length≤j):keptOf p l j=l.filter (fun y => !p y):=by
 rw [keptOf,List.take_of_length_le h]
theorem set_take {α:Type} {s:List α} {i:Nat} (hi:i<s.length) (x:α):(s.set i x).take (i+1)=s.take i++[x]:=by
 rw [List.take_add_one,List.getElem?_set_self hi,List.take_set_of_le (Nat.le_refl _)]
 rfl
theorem set_drop {α:Type} {s:List α} {i j:Nat} (hi:i<j) (x:α):(s.set i x).drop j=s.drop j:=List.drop_set_of_lt hi
theorem drop_at {α:Type} {s l:List α} {j:Nat} (h:s.drop j=l.drop j) {x:α} (hx:l[j]?=some x):s[j]?=some x:=by
 have:=congrArg (fun q=>q[0]?) h
 simp only [List.getElem?_drop,Nat.add_zero] at this
 rw [this]
 exact hx
theorem drop_next {α:Type} {s l:List α} {j:Nat} (h:s.drop j=l.drop j):s.drop (j+1)=l.drop (j+1):=by
 rw [←List.drop_drop,←List.drop_drop,h]
set_option maxRecDepth 100000 in
set_option maxHeartbeats 400000 in
theorem zDn (l:List Txt) (hok:GidsOk l) (v:Value) (w:World) (hv:Gids w v l) (f:FuncId) (hf : ∀ (a:Array Value) (W:World),(callFunc f a).run Tryz.prog W = .ok (.enter f a) W) (c:Value) (p:Txt→Bool)
 (hcl : ∀ (W:World) (x:Txt),x∈l→Below w.heap.size w W→Calls Tryz.prog f #[.agg (idC x).toArray,c] W fun e w'=>e = .returned (.bool (p x))∧Below W.heap.size W w') :
 Calls Tryz.prog 69 #[v, .func (.func f) #[] #[c]] w fun e w'=>e = .returned (.int .i64 (idxOf p l))∧Below w.heap.size w w':=by
 have hlen:=hv.len
 obtain ⟨A,cap,rfl,hcap1,hcap2,hat⟩:=hv
 go_enter Tryz.func69,Tryz.ntmps69
 go_wp2
 go_loopw [8] (fun i wr => ∃ k:Nat,i = .int .i64 k∧k≤l.length∧Hid ((l.take k).all (fun y => !p y)=true)∧Below w.heap.size w wr) (fun i _=>l.length-(intOf i).toNat)
 case atStart=>exact ⟨0,rfl,by omega,by show _=_;simp,Below.refl _ _⟩
 case round=>
  obtain ⟨k,rfl,hk,hall,hbel⟩:=hrel
  by_cases hlt:k<l.length
  ·have hki:(k:Int)<(l.length:Int):=by omega
   obtain ⟨gs,os,rfl,hgs,hcell⟩:=hat (by omega)
   obtain ⟨x,hx⟩ : ∃ x,l[k]?=some x:=⟨_,List.getElem?_eq_getElem hlt⟩
   have hxm:=List.mem_of_getElem? hx
   have hxok:GidOk x:=hok x hxm
   have hx0:=zAc (hcell k x hx) hgs hbel
   have hxh:=Lib.hid hx
   clear hx
   have hc:=Lib.hid (hcl wr x hxm hbel)
   clear hcl hat hcell
   cases hp:p x
   ·have hst:=Lib.hid (none_step hall.out hxh.out hp)
    rw [hp] at hc
    clear hp
    go_wp2_with (first
     | (refine wpList_load_mid rfl 46 (.tmp 14) rfl gs (os+k*32) rfl (idC x) _ hx0 Tryz.underlying46 rfl (zB6 hxok) ?_)
     | ((with_reducible refine hc.out.mono ?_);rintro e w1 ⟨rfl,hb1⟩))
    go_roundw
    case rel=>exact ⟨k+1,by go_num,by omega,hst,bthen hbel hbel.size hb1⟩
    case measure=>simp [intOf];omega
   ·have hst:=Lib.hid (idxOf_found hall.out hxh.out hp)
    rw [hp] at hc
    clear hp
    go_wp2_with (first
     | (refine wpList_load_mid rfl 46 (.tmp 14) rfl gs (os+k*32) rfl (idC x) _ hx0 Tryz.underlying46 rfl (zB6 hxok) ?_)
     | ((with_reducible refine hc.out.mono ?_);rintro e w1 ⟨rfl,hb1⟩))
    go_ret
    exact ⟨by rw [hst.out];rfl,bthen hbel hbel.size hb1⟩
  ·have hki : ¬ (k:Int)<(l.length:Int):=by omega
   have hst:Hid (idxOf p l = -1):=by
    have:=hall.out
    rw [List.take_of_length_le (by omega)] at this
    exact idxOf_none this
   clear hall hat hcl
   go_wp2
   go_ret
   exact ⟨by rw [hst.out];rfl,hbel⟩
theorem zDe {w:World} {g i n cap:Nat} {s:List Txt} (h:Row w g 46 32 idC cap s) (hn:s.length=n) (hi:i<n) (ty:TypeId) (m c:Nat) (hm:m=n-i) :
 (Builtin.clear_ #[34] ty #[.slice (some ⟨g,i*32,none⟩) m c]).run Tryz.prog w = .ok (.tuple #[]) (w.setCells g (i*32) (Builtin.zeroCells zGid.cells (n-i)).toList):=by
 subst hm
 refine run_clear_rows w _ ty _ zGid g (i*32) (n-i) c Tryz.underlying34 zGid_info (by omega) ?_ (zeroCells_one zGid_one _)
 rw [size_zeroCells,zGid_cells]
 refine h.there ?_
 have:=h.le
 rw [←Nat.add_mul]
 exact Nat.mul_le_mul_right _ (by omega)
set_option maxRecDepth 100000 in
set_option maxHeartbeats 2000000 in
theorem zDd (l:List Txt) (hok:GidsOk l) (v:Value) (w:World) (base:Nat) (hbase:base≤w.heap.size) (hv:OwnGids w base v l) (f:FuncId) (hf : ∀ (a:Array Value) (W:World),(callFunc f a).run Tryz.prog W = .ok (.enter f a) W) (c:Value) (p:Txt→Bool)
 (hcl : ∀ (W:World) (x:Txt),x∈l→Below base w W→Calls Tryz.prog f #[.agg (idC x).toArray,c] W fun e w'=>e = .returned (.bool (p x))∧Below W.heap.size W w') :
 Calls Tryz.prog 42 #[v, .func (.func f) #[] #[c]] w fun e w' => ∃ v',e = .returned v'∧OwnGids w' base v' (l.filter (fun y => !p y))∧Below base w w':=by
 have hix:=Lib.hid (zDn l hok v w (hv.refs hok) f hf c p (fun W x hx hb=>hcl W x hx (hb.mono hbase)))
 rcases idx_cases p l with ⟨k,x,hx,hk,hi,hp,hall⟩ | ⟨hi,hall⟩
 ·rw [hi] at hix
  have hkl:(k:Int) ≠ -1:=by omega
  rcases Row.of_own (gidK hok) hv with ⟨_,rfl⟩ | ⟨g,cap,rfl,hg,hrow⟩
  ·simp at hk
  have hrl:=hrow.le
  have hr63:=hrow.top63
  have hkk:keptOf p l (k+1)=l.take k:=by rw [kept_drop hx hp,kept_all hall]
  clear hi hv hall
  go_enter Tryz.func42,Tryz.ntmps42
  go_wp2_with (first
   | (go_at_call 69;go_must (refine hix.out.mono ?_);rintro e w1 ⟨rfl,hb1⟩
      have hbel1:Below base w w1:=hb1.mono hbase
      have hrow1:=hrow.below hb1))
  clear hrow hb1
  go_loopw [5,6] (fun vi vj wr => ∃ (j i:Nat) (s:List Txt),vj = .int .i64 j∧vi = .int .i64 i∧j≤l.length∧Hid (i=(keptOf p l j).length)∧i+1≤j∧s.length=l.length∧GidsOk s∧Hid (s.take i=keptOf p l j)∧Hid (s.drop j=l.drop j)∧Row wr g 46 32 idC cap s∧Below base w wr) (fun _ vj _=>l.length-(intOf vj).toNat)
  case atStart=>
   have hkl:(keptOf p l (k+1)).length=k:=by rw [hkk];simp;omega
   refine ⟨k+1,k,l,?_,rfl,by omega,Lib.hid hkl.symm,by omega,rfl,hok,?_,?_,hrow1,hbel1⟩
   ·go_num
   ·show _=_
    rw [hkk]
   ·show _=_
    rfl
  case round=>
   clear hrow1 hbel1 hx hp hkk hix hkl hk
   obtain ⟨j,i,s,rfl,rfl,hj,hi,hij,hsl,hsok,htake,hdrop,hrow1,hbel1⟩:=hrel
   by_cases hlt:j<l.length
   ·have hji:(j:Int)<(l.length:Int):=by omega
    obtain ⟨y,hy⟩ : ∃ y,l[j]?=some y:=⟨_,List.getElem?_eq_getElem hlt⟩
    have hym:=List.mem_of_getElem? hy
    have hyok:GidOk y:=hok y hym
    have hy0:=hrow1.at_ j y (drop_at hdrop.out hy)
    have hyh:=Lib.hid hy
    clear hy
    have hil:i<s.length:=by omega
    have hii:(i:Int)<(l.length:Int):=by omega
    have hbs:=Nat.le_trans hbase hbel1.size
    cases hp:p y
    ·have hkp:=Lib.hid (kept_keep hyh.out hp)
     have hcl':=fun W hb=>Lib.hid (hcl W y hym hb)
     rw [hp] at hcl'
     have hroom:i*32+(idC y).toArray.size≤cap*32:=by
      rw [List.size_toArray,idC_len hyok];omega
     clear hp hcl
     go_wp2_with (first
      | (refine wpList_load_mid rfl 46 (.tmp 24) rfl g (j*32) rfl (idC y) _ hy0 Tryz.underlying46 rfl (zB6 hyok) ?_)
      | (refine zBU rfl (.tmp 7) (.tmp 25) rfl y hyok _ rfl rfl rfl ?_;intro W1 hn1 hbl1
         have hrow2:=hrow1.below hbl1
         have hbel2:=bthen hbel1 hbs hbl1
         have hbs2:=Nat.le_trans hbase hbel2.size
         have hc2:=hcl' W1 hbel2
         clear hy0)
      | (refine wpList_load_row rfl 46 (.tmp 7) rfl wr.heap.size rfl _ _ _ _ hn1 Tryz.underlying46 rfl (zB6 hyok) ?_)
      | ((with_reducible refine hc2.out.mono ?_);rintro e w2 ⟨rfl,hb2⟩
         have hrow3:=hrow2.below hb2
         have hn2:=hn1.below hb2 hn1.lt
         have hbel3:=bthen hbel2 hbs2 hb2
         have hbs3:=Nat.le_trans hbase hbel3.size
         clear hn1 hc2 hrow2 hrow1)
      | (refine wpList_load_row rfl 46 (.tmp 7) rfl wr.heap.size rfl _ _ _ _ hn2 Tryz.underlying46 rfl (zB6 hyok) ?_)
      | (refine wpList_store_mid rfl 46 (.tmp 33) (.tmp 32) rfl g (i*32) (idC y).toArray rfl rfl (hrow3.there hroom) (by rw [List.size_toArray];exact zB6 hyok) (all_oneCell_toArray (idC_one y)) ?_))
     have hrow4:=hrow3.set (gidK hsok) hil (idC_len hyok)
     have hbel4:=zAF (idC y) (i*32) w w2 hbel3 hg
     have ht2:Hid ((s.set i y).take (i+1)=keptOf p l (j+1)):=by
      show _=_
      rw [hkp.out,set_take hil,htake.out]
     have hd2:Hid ((s.set i y).drop (j+1)=l.drop (j+1)):=by
      show _=_
      rw [set_drop (by omega),drop_next hdrop.out]
     have hi2:Hid (i+1=(keptOf p l (j+1)).length):=by
      show _=_
      rw [hkp.out,hi.out];simp
     have hsl2:(s.set i y).length=l.length:=by rw [List.length_set,hsl]
     have hsok2:=gidsOk_set hsok i hyok
     clear hrow3 hbel3 htake hdrop hi hkp
     go_roundw
     case rel=>
      (repeat apply Exists.intro)
      exact ⟨⟨j+1,i+1,s.set i y,by go_num,by go_num,by omega,hi2,by omega,hsl2,hsok2,ht2,hd2,hrow4,hbel4⟩,rfl⟩
     case measure=>simp [intOf];omega
    ·have hkp:=Lib.hid (kept_drop hyh.out hp)
     have hcl':=fun W hb=>Lib.hid (hcl W y hym hb)
     rw [hp] at hcl'
     clear hp hcl
     go_wp2_with (first
      | (refine wpList_load_mid rfl 46 (.tmp 24) rfl g (j*32) rfl (idC y) _ hy0 Tryz.underlying46 rfl (zB6 hyok) ?_)
      | (refine zBU rfl (.tmp 7) (.tmp 25) rfl y hyok _ rfl rfl rfl ?_;intro W1 hn1 hbl1
         have hrow2:=hrow1.below hbl1
         have hbel2:=bthen hbel1 hbs hbl1
         have hbs2:=Nat.le_trans hbase hbel2.size
         have hc2:=hcl' W1 hbel2
         clear hy0)
      | (refine wpList_load_row rfl 46 (.tmp 7) rfl wr.heap.size rfl _ _ _ _ hn1 Tryz.underlying46 rfl (zB6 hyok) ?_)
      | ((with_reducible refine hc2.out.mono ?_);rintro e w2 ⟨rfl,hb2⟩
         have hrow3:=hrow2.below hb2
         have hn2:=hn1.below hb2 hn1.lt
         have hbel3:=bthen hbel2 hbs2 hb2
         have hbs3:=Nat.le_trans hbase hbel3.size
         clear hn1 hc2 hrow2 hrow1))
     have ht2:Hid (s.take i=keptOf p l (j+1)):=by
      show _=_
      rw [hkp.out,htake.out]
     have hd2:=Lib.hid (drop_next hdrop.out)
     have hi2:Hid (i=(keptOf p l (j+1)).length):=by
      show _=_
      rw [hkp.out];exact hi.out
     clear hbel2 htake hdrop hi hkp
     go_roundw
     case rel=>
      (repeat apply Exists.intro)
      exact ⟨⟨j+1,i,s,by go_num,rfl,by omega,hi2,by omega,hsl,hsok,ht2,hd2,hrow3,hbel3⟩,rfl⟩
     case measure=>simp [intOf];omega
   ·have hji : ¬ (j:Int)<(l.length:Int):=by omega
    have hii:(i:Int)≤(l.length:Int):=by omega
    have hci : ¬ (cap=i):=by omega
    have hclr:=fun ty m c hm=>zDe hrow1 hsl (i:=i) (by omega) ty m c hm
    obtain ⟨ZS,hZS⟩ : ∃ ZS,ZS=(Builtin.zeroCells zGid.cells (l.length-i)).toList:=⟨_,rfl⟩
    rw [←hZS] at hclr
    clear hZS
    clear hcl
    go_wp2_with (first
     | (at_builtin
        refine zCH _ rfl (.tmp 38) _ rfl _ rfl (hclr _ _ _ rfl) ?_))
    go_ret
    obtain rfl:j=l.length:=by omega
    have hfin:s.take i=l.filter (fun y => !p y):=by rw [htake.out,kept_end (Nat.le_refl _)]
    have hrow5:=hrow1.shed (gidK hsok) i ZS
    have hbel5:=zAF ZS (i*32) w wr hbel1 hg
    have hlen5:(s.take i).length=i:=by simp;omega
    rw [←hfin]
    have hown5:=hrow5.own (gidK (gidsOk_take hsok i)) hg
    rw [hlen5] at hown5
    have hown6:OwnGids (wr.setCells g (i*32) ZS) base (.slice (some ⟨g,0,none⟩) i cap) (s.take i):=by
     unfold OwnGids
     rw [hlen5]
     exact hown5
    exact ⟨_,rfl,hown6,hbel5⟩
 ·have hfl:l.filter (fun y => !p y)=l:=List.filter_eq_self.2 fun y hy=>List.all_eq_true.1 hall y hy
  rw [hi] at hix
  rw [hfl]
  clear hall hi hcl hfl
  go_enter Tryz.func42,Tryz.ntmps42
  go_wp2_with (first
   | (go_at_call 69;go_must (refine hix.out.mono ?_);rintro e w1 ⟨rfl,hb1⟩))
  go_ret
  exact ⟨_,rfl,zAf hv hb1,hb1.mono hbase⟩
section
attribute [local go_sem ↓] ldvI_eq
theorem zET {l:List Txt} {j:Nat} {x y:Txt} (hx:l[j+1]?=some x) (hy:l[j]?=some y):compT l (j+2)=if x=y then compT l (j+1) else compT l (j+1)++[x]:=by
 have e1:l.getD (j+1) []=x:=by rw [List.getD_eq_getElem?_getD,hx];rfl
 have e2:l.getD j []=y:=by rw [List.getD_eq_getElem?_getD,hy];rfl
 show (if j+1≠0∧l.getD (j+1) []=l.getD (j+1-1) [] then _ else _)=_
 rw [Nat.add_sub_cancel,e1,e2]
 by_cases h:x=y
 ·rw [if_pos ⟨by omega,h⟩,if_pos h]
 ·rw [if_neg (fun q=>h q.2),if_neg h]
theorem drop_get {s l:List Txt} {j i:Nat} (h:s.drop j=l.drop j) (hi:j≤i) {x:Txt} (hx:l[i]?=some x):s[i]?=some x:=by
 have:=congrArg (fun q=>q[i-j]?) h
 simp only [List.getElem?_drop] at this
 rw [show j+(i-j)=i from by omega] at this
 rw [this];exact hx
theorem drop_more {s l:List Txt} {j i:Nat} (h:s.drop j=l.drop j) (hi:j≤i):s.drop i=l.drop i:=by
 have:=congrArg (List.drop (i-j)) h
 rwa [List.drop_drop,List.drop_drop,show j+(i-j)=i from by omega] at this
set_option maxRecDepth 100000 in
set_option maxHeartbeats 4000000 in
theorem zCI (l:List Txt) (hok : ∀ x∈l,x.length=32) (hbig:l.length≤1000000) (v:Value) (w:World) (base:Nat) (hbase:base≤w.heap.size) (hv:OwnIds w base v l) :
 Calls Tryz.prog 73 #[v] w fun e w' => ∃ v',e = .returned v'∧OwnIds w' base v' (compT l l.length)∧Below base w w':=by
 by_cases h2:l.length<2
 ·have hl:compT l l.length=l:=by
   match l,h2 with
   | [],_=>rfl
   | [x],_=>simp [compT]
  rw [hl]
  have h2i:(l.length:Int)<2:=by omega
  obtain ⟨A,c,rfl⟩:=zAm hv
  clear hl
  go_enter Tryz.func73,Tryz.ntmps73
  go_wp2
  go_ret
  exact ⟨_,rfl,hv,Below.refl _ _⟩
 ·have h2i : ¬ (l.length:Int)<2:=by omega
  rcases Row.of_own (gidK hok) hv with ⟨_,rfl⟩ | ⟨g,cap,rfl,hg,hrow⟩
  ·simp at h2
  have hrl:=hrow.le
  have hr63:=hrow.top63
  clear hv
  go_enter Tryz.func73,Tryz.ntmps73
  go_wp2
  go_loopw [3] (fun vk wr => ∃ k:Nat,vk = .int .i64 k∧1≤k∧k≤l.length∧Hid (compT l k=l.take k)∧Row wr g 46 32 idC cap l∧Below base w wr) (fun vk _=>l.length-(intOf vk).toNat)
  case atStart=>exact ⟨1,by go_num,by omega,by omega,Lib.hid (by cases l with | nil=>simp at h2 | cons x l=>simp [compT]),hrow,Below.refl _ _⟩
  case round=>
   obtain ⟨j,rfl,hj1,hj,hck,hrow1,hbel⟩:=hrel
   clear hrow
   obtain ⟨m,hm⟩ : ∃ m,Hid (j=m+1):=⟨j-1,Lib.hid (by omega)⟩
   have hw1:IntKind.i64.wrap ((j:Int)-1)=(m:Int):=by rw [IntWalk.i64_in _ (by omega)];have:=hm.out;omega
   by_cases hlt:j<l.length
   ·have hki:(j:Int)<(l.length:Int):=by omega
    have hki3:(m:Int)<(l.length:Int):=by have:=hm.out;omega
    obtain ⟨x,hx⟩ : ∃ x,l[j]?=some x:=⟨_,List.getElem?_eq_getElem hlt⟩
    obtain ⟨y,hy⟩ : ∃ y,l[m]?=some y:=⟨_,List.getElem?_eq_getElem (by omega)⟩
    have hxi:=hok x (List.mem_of_getElem? hx)
    have hyi:=hok y (List.mem_of_getElem? hy)
    have hlx : ∀ W,Below wr.heap.size wr W→(ldvI ⟨g,j*32,none⟩).run Tryz.prog W = .ok (.agg (u8s x)) W:=fun W hW=>zAb (show World.rangeAt W g (j*32) (u8s x).toList from (hrow1.below hW).at_ _ x hx) hxi
    have hly : ∀ W,Below wr.heap.size wr W→(ldvI ⟨g,m*32,none⟩).run Tryz.prog W = .ok (.agg (u8s y)) W:=fun W hW=>zAb (show World.rangeAt W g (m*32) (u8s y).toList from (hrow1.below hW).at_ _ y hy) hyi
    have heq:=fun W=>zBD W x y hxi hyi
    have hst1:decide (x=y)=false→Hid (compT l (j+1)=l.take (j+1)):=fun hp=>Lib.hid (by
     rw [hm.out] at hx hck ⊢
     rw [zET hx hy,if_neg (by simpa using hp),hck.out,List.take_add_one (i:=m+1),hx];rfl)
    have hst2:decide (x=y)=true→Hid (compT l (j+1)=l.take j):=fun hp=>Lib.hid (by
     rw [hm.out] at hx hck ⊢
     rw [zET hx hy,if_pos (by simpa using hp),hck.out])
    generalize decide (x=y)=bo at *
    clear hx hy
    go_wp2
    refine zAd (C:=fun W=>Below wr.heap.size wr W) (by kernel_rfl) (by kernel_rfl) (Below.refl _ _).drew ?_
    repeat
     first
      | ((with_reducible refine zAl ?_ ?_)
         ·(go_simp;done)
         apply Exists.intro
         refine ⟨fun W hW=>?_,?_⟩
         ·first
           | (have q0:=hlx W hW
              have q1:=hly W hW
              have q2:=heq W
              go_simp
              first
               | rfl
               | (simp only [Sem.run_bind,run_eqGuard_agg _ _ _ _ _ _ _ Tryz.eqGuardType46,q2,Result.andThen_ok];rfl))
         simp only [Act.put,zA,zB,zC])
      | ((with_reducible refine zAh ?_ ?_)
         ·(first | rfl | (go_simp;done))
         simp only [Act.put,zA,zB,zC])
    with_reducible refine wpQuiet_nil ?_
    intro w5 hW5
    clear heq hlx hly
    have hrow5:=hrow1.below hW5
    have b5:Below base w w5:=hbel.trans (hW5.mono (Nat.le_trans hbase hbel.size))
    cases bo
    ·have hst:=hst1 rfl
     clear hst1 hst2 hck
     go_wp2
     go_roundw
     case rel=>exact ⟨j+1,by go_num,by omega,by omega,hst,hrow5,b5⟩
     case measure=>simp [intOf];omega
    ·have hst:=hst2 rfl
     clear hst1 hst2 hck hrow1 hW5 hbel hw1 hki3 hm hxi hyi
     have hcj : ¬ (cap=j):=by omega
     have hji:(j:Int)≤(l.length:Int):=by omega
     have hjl:(compT l (j+1)).length=j:=by rw [hst.out,List.length_take];omega
     replace hjl:=Lib.hid hjl
     go_wp2
     go_loopw [3,5] (fun vk vq wr => ∃ (kk q:Nat) (s:List Txt),vk = .int .i64 kk∧vq = .int .i64 q∧1≤q∧j+q≤l.length∧Hid ((compT l (j+q)).length=kk)∧kk+1≤j+q∧s.length=l.length∧GidsOk s∧Hid (s.take kk=compT l (j+q))∧Hid (s.drop (j+q-1)=l.drop (j+q-1))∧Row wr g 46 32 idC cap s∧Below base w wr) (fun _ vq _=>l.length-(intOf vq).toNat)
     case atStart=>exact ⟨j,1,l,rfl,by go_num,by omega,by omega,hjl,by omega,rfl,hok,Lib.hid hst.out.symm,Lib.hid rfl,hrow5,b5⟩
     case round=>
      clear hrow5 b5 hst hjl
      obtain ⟨kk,q,s,rfl,rfl,hq1,hjq,hkl,hkq,hsl,hsok,htake,hdrop,hrow1,hbel⟩:=hrel
      obtain ⟨m,hm⟩ : ∃ m,Hid (q=m+1):=⟨q-1,Lib.hid (by omega)⟩
      have hw1:IntKind.i64.wrap ((q:Int)-1)=(m:Int):=by rw [IntWalk.i64_in _ (by omega)];have:=hm.out;omega
      by_cases hlt:q<l.length-j
      ·have hki:(q:Int)<((l.length-j:Nat):Int):=by omega
       have hki3:(m:Int)<((l.length-j:Nat):Int):=by have:=hm.out;omega
       obtain ⟨x,hx⟩ : ∃ x,l[j+q]?=some x:=⟨_,List.getElem?_eq_getElem (by omega)⟩
       obtain ⟨y,hy⟩ : ∃ y,l[j+m]?=some y:=⟨_,List.getElem?_eq_getElem (by have:=hm.out;omega)⟩
       have hxi:=hok x (List.mem_of_getElem? hx)
       have hyi:=hok y (List.mem_of_getElem? hy)
       have hlx : ∀ W,Below wr.heap.size wr W→(ldvI ⟨g,j*32+q*32,none⟩).run Tryz.prog W = .ok (.agg (u8s x)) W:=fun W hW=>by
        have h:=(hrow1.below hW).at_ _ x (drop_get hdrop.out (by omega) hx)
        rw [Nat.add_mul] at h
        exact zAb (show World.rangeAt W g (j*32+q*32) (u8s x).toList from h) hxi
       have hly : ∀ W,Below wr.heap.size wr W→(ldvI ⟨g,j*32+m*32,none⟩).run Tryz.prog W = .ok (.agg (u8s y)) W:=fun W hW=>by
        have h:=(hrow1.below hW).at_ _ y (drop_get hdrop.out (by have:=hm.out;omega) hy)
        rw [Nat.add_mul] at h
        exact zAb (show World.rangeAt W g (j*32+m*32) (u8s y).toList from h) hyi
       have heq:=fun W=>zC3 W x y hxi hyi
       have hx':l[j+m+1]?=some x:=by rw [show j+m+1=j+q from by have:=hm.out;omega];exact hx
       have hjm:j+q+1=j+m+2:=by have:=hm.out;omega
       have hjm1:j+q=j+m+1:=by have:=hm.out;omega
       have hst1:decide (x=y)=false→Hid (compT l (j+(q+1))=compT l (j+q)++[x]):=fun hp=>Lib.hid (by
        rw [←Nat.add_assoc,hjm,zET hx' hy,if_neg (by simpa using hp),hjm1])
       have hst2:decide (x=y)=true→Hid (compT l (j+(q+1))=compT l (j+q)):=fun hp=>Lib.hid (by
        rw [←Nat.add_assoc,hjm,zET hx' hy,if_pos (by simpa using hp),hjm1])
       generalize decide (x=y)=bo at *
       have hd2:Hid (s.drop (j+q)=l.drop (j+q)):=Lib.hid (drop_more hdrop.out (by omega))
       clear hx hy hx' hjm hjm1 hdrop
       go_wp2
       refine zAd (C:=fun W=>Below wr.heap.size wr W) (by kernel_rfl) (by kernel_rfl) (Below.refl _ _).drew ?_
       repeat
        first
         | ((with_reducible refine zAl ?_ ?_)
            ·(go_simp;done)
            apply Exists.intro
            refine ⟨fun W hW=>?_,?_⟩
            ·first
              | (have q0:=hlx W hW
                 have q1:=hly W hW
                 have q2:=heq W
                 go_simp
                 first
                  | rfl
                  | (simp only [Sem.run_bind,run_eqGuard_agg _ _ _ _ _ _ _ Tryz.eqGuardType46,q2,Result.andThen_ok];rfl))
            simp only [Act.put,zA,zB,zC])
         | ((with_reducible refine zAh ?_ ?_)
            ·(first | rfl | (go_simp;done))
            simp only [Act.put,zA,zB,zC])
       with_reducible refine wpQuiet_nil ?_
       intro w5 hW5
       clear heq hly
       have hrow5:=hrow1.below hW5
       have b5:Below base w w5:=hbel.trans (hW5.mono (Nat.le_trans hbase hbel.size))
       cases bo
       ·have hst:=hst1 rfl
        have hl5:=hlx w5 hW5
        have hkki:(kk:Int)<(l.length:Int):=by omega
        have hkks:kk<s.length:=by omega
        have hth:w5.there g (kk*32) (u8s x).size:=hrow5.there (by rw [zAj,hxi];have:=hrow5.le;omega)
        clear hst1 hst2 hlx hW5 hrow1 hbel
        go_wp2_with (first
         | (refine wpList_store_mid rfl 46 (.tmp 51) (.tmp 50) rfl g (kk*32) (u8s x) rfl rfl hth (by rw [zAj,hxi];exact sz32) (u8s_one x) ?_))
        have hrow6:=hrow5.set (gidK hsok) hkks (idC_len hxi)
        have b6:=zAF (idC x) (kk*32) w w5 b5 hg
        have ht2:Hid ((s.set kk x).take (kk+1)=compT l (j+(q+1))):=Lib.hid (by rw [hst.out,set_take hkks,htake.out])
        have hd3:Hid ((s.set kk x).drop (j+(q+1)-1)=l.drop (j+(q+1)-1)):=Lib.hid (by rw [show j+(q+1)-1=j+q from by omega,set_drop (by omega),hd2.out])
        have hk2:Hid ((compT l (j+(q+1))).length=kk+1):=Lib.hid (by rw [hst.out,List.length_append,hkl.out];rfl)
        have hsl2:(s.set kk x).length=l.length:=by rw [List.length_set,hsl]
        have hsok2:=gidsOk_set hsok kk (x:=x) hxi
        clear hrow5 b5 htake hd2 hkl hst hth hl5
        go_roundw
        case rel=>
         exact ⟨kk+1,q+1,s.set kk x,by go_num,by go_num,by omega,by omega,hk2,by omega,hsl2,hsok2,ht2,hd3,hrow6,b6⟩
        case measure=>simp [intOf];omega
       ·have hst:=hst2 rfl
        clear hst1 hst2 hlx hW5 hrow1 hbel
        have ht2:Hid (s.take kk=compT l (j+(q+1))):=Lib.hid (by rw [hst.out,htake.out])
        have hd3:Hid (s.drop (j+(q+1)-1)=l.drop (j+(q+1)-1)):=Lib.hid (by rw [show j+(q+1)-1=j+q from by omega,hd2.out])
        have hk2:Hid ((compT l (j+(q+1))).length=kk):=Lib.hid (by rw [hst.out,hkl.out])
        clear htake hd2 hkl hst
        go_wp2
        go_roundw
        case rel=>
         exact ⟨kk,q+1,s,rfl,by go_num,by omega,by omega,hk2,by omega,hsl,hsok,ht2,hd3,hrow5,b5⟩
        case measure=>simp [intOf];omega
      ·have hki : ¬ ((q:Int)<((l.length-j:Nat):Int)):=by omega
       have hjq2:j+q=l.length:=by omega
       have hki2:(kk:Int)≤(l.length:Int):=by omega
       have hck : ¬ (cap=kk):=by omega
       have hclr:=fun ty m c hm=>zDe hrow1 hsl (i:=kk) (by omega) ty m c hm
       obtain ⟨ZS,hZS⟩ : ∃ ZS,ZS=(Builtin.zeroCells zGid.cells (l.length-kk)).toList:=⟨_,rfl⟩
       rw [←hZS] at hclr
       have hfin:Hid (s.take kk=compT l l.length):=Lib.hid (by rw [htake.out,hjq2])
       clear hZS htake hdrop hkl hjq2 hw1 hm
       go_wp2_with (first
        | (at_builtin
           refine zCH _ rfl (.tmp 56) _ rfl _ rfl (hclr _ _ _ rfl) ?_))
       go_ret
       have hrow6:=hrow1.shed (gidK hsok) kk ZS
       have b6:=zAF ZS (kk*32) w wr hbel hg
       have hlen6:(s.take kk).length=kk:=by simp;omega
       rw [←hfin.out]
       have hown6:=hrow6.own (gidK (gidsOk_take hsok kk)) hg
       rw [hlen6] at hown6
       have hown7:OwnGids (wr.setCells g (kk*32) ZS) base (.slice (some ⟨g,0,none⟩) kk cap) (s.take kk):=by
        unfold OwnGids
        rw [hlen6]
        exact hown6
       exact ⟨_,rfl,hown7,b6⟩
   ·have hki : ¬ ((j:Int)<(l.length:Int)):=by omega
    have hkl:j=l.length:=by omega
    have hfin:=hck.out
    rw [hkl,List.take_length] at hfin
    have hown:=hrow1.own (gidK hok) hg
    replace hfin:=Lib.hid hfin
    clear hck hrow1
    go_wp2
    go_ret
    rw [hfin.out]
    exact ⟨_,rfl,hown,hbel⟩
end
theorem ins_place {α:Type} {l:List α} {i:Nat} (hi:i<l.length) (x:α) :
 (l.take (i+1)++l.drop i++l.drop (i+1+(l.drop i).length)).set i x=l.take i++[x]++l.drop i:=by
 rw [List.drop_of_length_le (i:=i+1+(l.drop i).length) (by rw [List.length_drop];omega),List.append_nil,List.set_eq_take_append_cons_drop,if_pos (by simp;omega)]
 rw [List.take_append_of_le_length (by simp;omega),List.take_take,Nat.min_eq_left (by omega)]
 rw [List.drop_append_of_le_length (by simp;omega),List.drop_of_length_le (l:=l.take (i+1)) (by simp;omega)]
 simp
theorem zAE {w:World} {g o:Nat} {cs:List Value} (h:w.rangeAt g o cs) : ∀ j u,cs[j]?=some u→w.cell? ((⟨g,o,none⟩:Addr).add j)=some u:=fun j u hu=>by rw [Addr.add_mid];exact h j u hu
theorem Row.range_from {α:Type} {w:World} {g:Nat} {e:TypeId} {k cap:Nat} {enc:α→List Value} {l:List α} (hk : ∀ x∈l,(enc x).length=k) (h:Row w g e k enc cap l) (i:Nat):w.rangeAt g (i*k) (rowsOf enc (l.drop i)):=fun j u hu=>by
 obtain ⟨a,x,q,h1,h2,h3⟩:=rowsOf_find (fun x hx=>hk x (List.mem_of_mem_drop hx)) hu
 rw [List.getElem?_drop] at h1
 have:=h.at_ _ x h1 q u h2
 rw [h3,show i*k+(a*k+q)=(i+a)*k+q from by rw [Nat.add_mul,Nat.add_assoc]]
 exact this
theorem zEo {w w':World} {row:Option Nat} (h:w.grownBy w' row):w.grownBy w'.drew row:=⟨h.os,h.tape,h.output,h.size,h.block⟩
theorem zBE {w w':World} {g:Nat} (h:w.grownBy w' (some g)) (o:Nat) (vs:List Value):w.grownBy (w'.setCells g o vs) (some g):=
 (Far.cells (S:=[some g]) (w:=w) (.inl (by simp)) vs o w' (Far.of_grown h)).grown fun k hk=>by simpa using hk
theorem zDq (w:World) (row:Option Nat):w.grownBy w row:=⟨rfl,rfl,rfl,Nat.le_refl _,fun _ _ _=>rfl⟩
set_option maxRecDepth 100000 in
theorem isNaN_calls (x:Nat) (w:World):Calls Tryz.prog 143 #[.int .u8 x] w fun e w'=>e = .returned (.bool false)∧w'=w:=by
 go_enter Tryz.func143,Tryz.ntmps143
 go_wp2
 go_ret
 exact ⟨rfl,rfl⟩
def cmpB (x y:UInt8):Int:=if x<y then -1 else if y<x then 1 else 0
set_option maxRecDepth 100000 in
set_option maxHeartbeats 1000000 in
theorem cmpByte_calls (x y:UInt8) (w:World):Calls Tryz.prog 114 #[.int .u8 (x.toNat:Nat), .int .u8 (y.toNat:Nat)] w fun e w'=>e = .returned (.int .i64 (cmpB x y))∧w'=w:=by
 have h1:=Lib.hid (isNaN_calls x.toNat w)
 have h2:=Lib.hid (isNaN_calls y.toNat w)
 obtain ⟨r,hr⟩ : ∃ r,Hid (cmpB x y=r):=⟨_,Lib.hid rfl⟩
 rw [hr.out]
 by_cases hxy:x<y
 ·have hrr:Hid (r = -1):=by show _=_;rw [←hr.out];unfold cmpB;rw [if_pos hxy]
  have i1:(x.toNat:Int)<(y.toNat:Int):=by rw [UInt8.lt_iff_toNat_lt] at hxy;omega
  clear hxy hr
  go_enter Tryz.func114,Tryz.ntmps114
  go_wp2_with (first
   | ((with_reducible refine h1.out.mono ?_);rintro e w1 ⟨rfl,rfl⟩)
   | ((with_reducible refine h2.out.mono ?_);rintro e w2 ⟨rfl,rfl⟩))
  all_goals try (exfalso;omega)
  go_ret
  exact ⟨by rw [hrr.out];rfl,rfl⟩
 ·by_cases hyx:y<x
  ·have hrr:Hid (r=1):=by show _=_;rw [←hr.out];unfold cmpB;rw [if_neg hxy,if_pos hyx]
   have i1:(y.toNat:Int)<(x.toNat:Int):=by rw [UInt8.lt_iff_toNat_lt] at hyx;omega
   have i2 : ¬ (x.toNat:Int)<(y.toNat:Int):=by omega
   clear hxy hyx hr
   go_enter Tryz.func114,Tryz.ntmps114
   go_wp2_with (first
    | ((with_reducible refine h1.out.mono ?_);rintro e w1 ⟨rfl,rfl⟩)
    | ((with_reducible refine h2.out.mono ?_);rintro e w2 ⟨rfl,rfl⟩))
   all_goals try (exfalso;omega)
   go_ret
   exact ⟨by rw [hrr.out];rfl,rfl⟩
  ·have hrr:Hid (r=0):=by show _=_;rw [←hr.out];unfold cmpB;rw [if_neg hxy,if_neg hyx]
   have i1 : ¬ (y.toNat:Int)<(x.toNat:Int):=by rw [UInt8.lt_iff_toNat_lt] at hyx;omega
   have i2 : ¬ (x.toNat:Int)<(y.toNat:Int):=by rw [UInt8.lt_iff_toNat_lt] at hxy;omega
   clear hxy hyx hr
   go_enter Tryz.func114,Tryz.ntmps114
   go_wp2_with (first
    | ((with_reducible refine h1.out.mono ?_);rintro e w1 ⟨rfl,rfl⟩)
    | ((with_reducible refine h2.out.mono ?_);rintro e w2 ⟨rfl,rfl⟩))
   all_goals try (exfalso;omega)
   go_ret
   exact ⟨by rw [hrr.out];rfl,rfl⟩
theorem cmp_cons (x y:UInt8) (a b:List UInt8):Lib.compareBytes (x::a) (y::b)=if cmpB x y=0 then Lib.compareBytes a b else cmpB x y:=by
 unfold cmpB
 rw [Lib.compareBytes]
 by_cases h1:x<y
 ·simp [h1]
 ·by_cases h2:y<x
  ·simp [h1,h2]
  ·simp [h1,h2]
set_option maxRecDepth 100000 in
set_option maxHeartbeats 2000000 in
theorem zCW (a b:List UInt8) (ha:a.length=32) (hb:b.length=32) (g1 o1 g2 o2:Nat) (w:World) (h1:w.rangeAt g1 o1 (u8s a).toList) (h2:w.rangeAt g2 o2 (u8s b).toList) :
 Calls Tryz.prog 83 #[.slice (some ⟨g1,o1,none⟩) 32 32, .slice (some ⟨g2,o2,none⟩) 32 32] w fun e w'=>e = .returned (.int .i64 (Lib.compareBytes a b))∧w'=w:=by
 have hR:Hid (Lib.compareBytes (a.drop 0) (b.drop 0)=Lib.compareBytes a b):=rfl
 generalize Lib.compareBytes a b=R at *
 go_enter Tryz.func83,Tryz.ntmps83
 go_wp2
 go_loopw [11] (fun vi wr => ∃ k:Nat,vi = .int .i64 k∧k≤32∧Hid (Lib.compareBytes (a.drop k) (b.drop k)=R)∧wr=w) (fun vi _=>32-(intOf vi).toNat)
 case atStart=>exact ⟨0,rfl,by omega,hR,rfl⟩
 case round=>
  obtain ⟨k,rfl,hk,hrel,rfl⟩:=hrel
  by_cases hlt:k<32
  ·have hki:(k:Int)<32:=by omega
   obtain ⟨x,hx⟩ : ∃ x,a[k]?=some x:=⟨_,List.getElem?_eq_getElem (by omega)⟩
   obtain ⟨y,hy⟩ : ∃ y,b[k]?=some y:=⟨_,List.getElem?_eq_getElem (by omega)⟩
   have c1:wr.cell? ⟨g1,o1+k,none⟩=some (.int .u8 (x.toNat:Nat)):=h1 k _ (by rw [Array.getElem?_toList,u8s_get a k (by omega)];simp [List.getD,hx])
   have c2:wr.cell? ⟨g2,o2+k,none⟩=some (.int .u8 (y.toNat:Nat)):=h2 k _ (by rw [Array.getElem?_toList,u8s_get b k (by omega)];simp [List.getD,hy])
   have hda:a.drop k=x::a.drop (k+1):=by
    rw [List.drop_eq_getElem_cons (by omega)]
    congr 1
    rw [List.getElem?_eq_getElem (by omega)] at hx
    injection hx
   have hdb:b.drop k=y::b.drop (k+1):=by
    rw [List.drop_eq_getElem_cons (by omega)]
    congr 1
    rw [List.getElem?_eq_getElem (by omega)] at hy
    injection hy
   have hR2:=hrel.out
   rw [hda,hdb,cmp_cons] at hR2
   have hcb:=Lib.hid (cmpByte_calls x y wr)
   generalize cmpB x y=z at *
   by_cases hz:z=0
   ·rw [if_pos hz] at hR2
    have hR2:=Lib.hid hR2
    have hz1:(z==0)=true:=by simp [hz]
    have hz2:(z != 0)=false:=by simp [hz]
    clear hda hdb hx hy hrel hz
    go_wp2_with (first
     | ((with_reducible refine hcb.out.mono ?_);rintro e w2 ⟨rfl,rfl⟩))
    all_goals try (exfalso;simp at *;omega)
    go_roundw
    case rel=>exact ⟨k+1,by go_num,by omega,hR2,by first | trivial | rfl⟩
    case measure=>simp [intOf];omega
   ·rw [if_neg hz] at hR2
    have hR2:=Lib.hid hR2
    have hz1:(z==0)=false:=by simp [hz]
    have hz2:(z != 0)=true:=by simp [hz]
    clear hda hdb hx hy hrel hz
    go_wp2_with (first
     | ((with_reducible refine hcb.out.mono ?_);rintro e w2 ⟨rfl,rfl⟩))
    all_goals try (exfalso;simp at *;omega)
    go_ret
    exact ⟨by rw [←hR2.out];rfl,rfl⟩
  ·have hki : ¬ (k:Int)<32:=by omega
   have hR2:Hid (R=0):=by
    show _=_
    rw [←hrel.out,List.drop_eq_nil_of_le (by omega),List.drop_eq_nil_of_le (by omega)]
    rfl
   clear hrel
   go_wp2
   go_ret
   exact ⟨by rw [hR2.out];rfl,rfl⟩
end Go.Proofs.YtbhdfaadedlcfaaGreatDoor
namespace Go.Proofs
open Go.Shelf
def Tryz.sortId_ren : Go.Shelf.Ren:=⟨fun | 6=>71 | 15=>100 | 14=>99 | 28=>132 | 29=>133 | 20=>124 | 21=>125 | 22=>126 | 23=>127 | 24=>128 | 25=>129 | 26=>130 | 27=>131 | 46=>147 | 47=>148 | 48=>149 | 49=>150 | 50=>151 | 57=>159 | n=>n,fun | 22=>34 | 24=>46 | 25=>125 | 3=>3 | 39=>164 | 0=>0 | 53=>57 | 55=>167 | 4=>4 | 46=>196 | 45=>195 | 50=>112 | 5=>5 | 9=>9 | 66=>221 | 70=>224 | 76=>232 | 77=>233 | n=>n,fun | n=>n⟩
theorem Tryz.sortId : Go.Proofs.SlLaysF0.n6 Tryz.prog Tryz.sortId_ren:={
 mixed:=by kernel_rfl
 f6:=⟨Tryz.f71.name,by decide,Tryz.func71.trans (congrArg some (by kernel_rfl))⟩
 f14:=⟨Tryz.f99.name,by decide,Tryz.func99.trans (congrArg some (by kernel_rfl))⟩
 f15:=Tryz.func100.trans (congrArg some (by kernel_rfl))
 f20:=⟨Tryz.f124.name,by decide,Tryz.func124.trans (congrArg some (by kernel_rfl))⟩
 f21:=⟨Tryz.f125.name,by decide,Tryz.func125.trans (congrArg some (by kernel_rfl))⟩
 f22:=⟨Tryz.f126.name,by decide,Tryz.func126.trans (congrArg some (by kernel_rfl))⟩
 f23:=⟨Tryz.f127.name,by decide,Tryz.func127.trans (congrArg some (by kernel_rfl))⟩
 f24:=⟨Tryz.f128.name,by decide,Tryz.func128.trans (congrArg some (by kernel_rfl))⟩
 f25:=⟨Tryz.f129.name,by decide,Tryz.func129.trans (congrArg some (by kernel_rfl))⟩
 f26:=⟨Tryz.f130.name,by decide,Tryz.func130.trans (congrArg some (by kernel_rfl))⟩
 f27:=⟨Tryz.f131.name,by decide,Tryz.func131.trans (congrArg some (by kernel_rfl))⟩
 f28:=Tryz.func132.trans (congrArg some (by kernel_rfl))
 f29:=Tryz.func133.trans (congrArg some (by kernel_rfl))
 f46:=⟨Tryz.f147.name,by decide,Tryz.func147.trans (congrArg some (by kernel_rfl))⟩
 f47:=Tryz.func148.trans (congrArg some (by kernel_rfl))
 f48:=Tryz.func149.trans (congrArg some (by kernel_rfl))
 f49:=⟨Tryz.f150.name,by decide,Tryz.func150.trans (congrArg some (by kernel_rfl))⟩
 f50:=⟨Tryz.f151.name,by decide,Tryz.func151.trans (congrArg some (by kernel_rfl))⟩
 f57:=⟨Tryz.f159.name,by decide,Tryz.func159.trans (congrArg some (by kernel_rfl))⟩
 t0:=Tryz.underlying0
 a0:=Tryz.isAgg0
 z0:=Tryz.sizeOf0
 v0:=Tryz.zeroValue0
 t3:=Tryz.underlying3
 a3:=Tryz.isAgg3
 z3:=Tryz.sizeOf3
 v3:=Tryz.zeroValue3
 t4:=Tryz.underlying4
 a4:=Tryz.isAgg4
 z4:=Tryz.sizeOf4
 v4:=Tryz.zeroValue4
 t5:=Tryz.underlying5
 a5:=Tryz.isAgg5
 z5:=Tryz.sizeOf5
 v5:=Tryz.zeroValue5
 t9:=Tryz.underlying9
 a9:=Tryz.isAgg9
 z9:=Tryz.sizeOf9
 v9:=Tryz.zeroValue9
 t22:=Tryz.underlying34
 a22:=Tryz.isAgg34
 z22:=Tryz.sizeOf34
 v22:=Tryz.zeroValue34
 t25:=Tryz.underlying125
 a25:=Tryz.isAgg125
 z25:=Tryz.sizeOf125
 v25:=Tryz.zeroValue125
 t39:=Tryz.underlying164
 a39:=Tryz.isAgg164
 z39:=Tryz.sizeOf164
 v39:=Tryz.zeroValue164
 t45:=Tryz.underlying195
 a45:=Tryz.isAgg195
 z45:=Tryz.sizeOf195
 v45:=Tryz.zeroValue195
 t46:=Tryz.underlying196
 a46:=Tryz.isAgg196
 z46:=Tryz.sizeOf196
 v46:=Tryz.zeroValue196
 t50:=Tryz.underlying112
 a50:=Tryz.isAgg112
 z50:=Tryz.sizeOf112
 v50:=Tryz.zeroValue112
 t53:=Tryz.underlying57
 a53:=Tryz.isAgg57
 z53:=Tryz.sizeOf57
 v53:=Tryz.zeroValue57
 t55:=Tryz.underlying167
 a55:=Tryz.isAgg167
 z55:=Tryz.sizeOf167
 v55:=Tryz.zeroValue167
 t66:=Tryz.underlying221
 a66:=Tryz.isAgg221
 z66:=Tryz.sizeOf221
 v66:=Tryz.zeroValue221
 t70:=Tryz.underlying224
 a70:=Tryz.isAgg224
 z70:=Tryz.sizeOf224
 v70:=Tryz.zeroValue224
 t76:=Tryz.underlying232
 a76:=Tryz.isAgg232
 z76:=Tryz.sizeOf232
 v76:=Tryz.zeroValue232
 t77:=Tryz.underlying233
 a77:=Tryz.isAgg233
 z77:=Tryz.sizeOf233
 v77:=Tryz.zeroValue233 }
end Go.Proofs
namespace Go.Proofs.YtbhdfaadedlcfaaGreatDoor
open Go.RowKit
section
open Go.Sort hiding Below
abbrev Id32 : Type:={ l:Txt // l.length=32 }
instance : Inhabited Id32:=⟨⟨List.replicate 32 0,by simp⟩⟩
def encS (x:Id32):List Value:=idC x.1
def cmpS (x y:Id32):Int:=Lib.compareBytes x.1 y.1
theorem encS_len (x:Id32):(encS x).length=32:=idC_len x.2
theorem encS_one (x:Id32) : ∀ v∈encS x,v.oneCell'=true:=idC_one x.1
theorem ltS (x y:Id32):ltOf cmpS x y=Op.bytesLess x.1 y.1:=cmp_neg x.1 y.1
theorem swoS : SWO (ltOf cmpS) where
 irrefl x:=by rw [ltS];exact zBn _
 trans x y z h1 h2:=by rw [ltS] at *;exact zBB h1 h2
 ntrans x y z h1 h2:=by
  rw [ltS] at *
  cases hb:Op.bytesLess x.1 z.1
  ·rfl
  ·by_cases e:x.1=y.1
   ·rw [e,h2] at hb;exact absurd hb (by simp)
   ·have h3:=zBg h1 e
    rw [zBB h3 hb] at h2
    exact absurd h2 (by simp)
def lisS (d:Array Id32):List Txt:=d.toList.map Subtype.val
theorem lisS_ok (d:Array Id32) : ∀ x∈lisS d,x.length=32:=by
 intro x hx
 obtain ⟨y,_,rfl⟩:=List.mem_map.1 hx
 exact y.2
theorem zBy (d:Array Id32):(lisS d).length=d.size:=by simp [lisS]
theorem lisS_get (d:Array Id32) {i:Nat} (hi:i<d.size):(lisS d)[i]?=some (d[i]!).1:=by
 rw [lisS,List.getElem?_map,Array.getElem?_toList,Array.getElem?_eq_getElem hi,getElem!_pos d i hi]
 rfl
theorem lisS_of {l:List Txt} (h : ∀ x∈l,x.length=32) : ∃ d:Array Id32,lisS d=l:=by
 refine ⟨(l.attachWith _ h).toArray,?_⟩
 simp [lisS]
theorem flat_rows (d:Array Id32):(flatK encS 32 d).toList=rowsOf idC (lisS d):=by
 refine List.ext_getElem? fun t=>?_
 by_cases ht:t<d.size*32
 ·have h1:t / 32<d.size:=by omega
  have h2:(rowsOf idC (lisS d))[t / 32*32+t%32]?=some (idC (d[t / 32]!).1)[t%32]!:=by
   refine zBQ (fun x hx=>idC_len (lisS_ok d x hx)) (lisS_get d h1) ?_
   have:t%32<(idC (d[t / 32]!).1).length:=by rw [idC_len (d[t / 32]!).2];omega
   rw [List.getElem?_eq_getElem this,getElem!_pos (idC (d[t / 32]!).1) (t%32) this]
  rw [show t / 32*32+t%32=t from by omega] at h2
  rw [h2,Array.getElem?_toList,Array.getElem?_eq_getElem (by rw [size_flatK];exact ht)]
  have h3:=get_flatK encS 32 d t ht
  rw [getElem!_pos _ t (by rw [size_flatK];exact ht)] at h3
  rw [h3]
  rfl
 ·rw [List.getElem?_eq_none (by rw [Array.length_toList,size_flatK];omega),List.getElem?_eq_none (by rw [zAn (fun x hx=>idC_len (lisS_ok d x hx)),zBy];omega)]
theorem holds_row {w:World} {g cap:Nat} {d:Array Id32} (h:Row w g 46 32 idC cap (lisS d)):HoldsK encS 32 w g 0 d:=by
 intro j hj
 rw [size_flatK] at hj
 have hle:=h.le
 rw [zBy] at hle
 have ht:=h.there (o:=0) (n:=d.size*32) (by rw [Nat.zero_add];exact Nat.mul_le_mul_right _ hle) j hj
 refine ⟨?_,ht.2⟩
 have hr:=h.range_from (fun x hx=>idC_len (lisS_ok d x hx)) 0
 rw [List.drop_zero,Nat.zero_mul] at hr
 refine hr j _ ?_
 rw [←flat_rows,Array.getElem?_toList,Array.getElem?_eq_getElem (by rw [size_flatK];exact hj),getElem!_pos _ j (by rw [size_flatK];exact hj)]
 rfl
theorem zEc {base:Nat} {w0 w:World} (h:Below base w0 w) (hb:base≤w.heap.size) (os:Array Obj):Below base w0 (grow w os):=by
 refine h.trans ⟨rfl,rfl,rfl,?_,fun k hk=>?_⟩
 ·show _≤(w.heap++os).size
  rw [Array.size_append];omega
 ·show (w.heap++os)[k]?=_
  rw [Array.getElem?_append_left (by omega)]
theorem put_cells {w:World} {g:Nat} {d d':Array Id32} (h:HoldsK encS 32 w g 0 d) (hs:d'.size=d.size):putRowK encS 32 w g 0 d'=w.setCells g 0 (rowsOf idC (lisS d')):=by
 have h1:=setCells_putRow w g 0 (rowsOf idC (lisS d')) 0 (flatK encS 32 d) (by rw [zAn (fun x hx=>idC_len (lisS_ok d' x hx)),zBy,size_flatK,hs,Nat.zero_add];exact Nat.le_refl _)
 have h2:putRow id w g 0 (flatK encS 32 d)=w:=putRow_self id w g 0 _ h
 rw [h2] at h1
 rw [Nat.add_zero] at h1
 rw [h1]
 unfold putRowK
 congr 1
 have hl:=zAn (fun x hx=>idC_len (lisS_ok d' x hx)) (l:=lisS d') (enc:=idC) (k:=32)
 rw [zBy] at hl
 refine ext_get! (by rw [size_setMany,size_flatK,size_flatK,hs]) fun t ht=>?_
 rw [size_flatK] at ht
 rw [get_setMany _ _ _ t (by rw [size_flatK,←hs];exact ht),if_pos ⟨Nat.zero_le _,by omega⟩,Nat.sub_zero,←flat_rows]
 rw [getElem!_pos _ t (by rw [size_flatK];exact ht),getElem!_pos _ t (by rw [Array.length_toList,size_flatK];exact ht)]
 rfl
theorem sort_row {w:World} {g cap n:Nat} {d d':Array Id32} {os:Array Obj} (h:Row w g 46 32 idC cap (lisS d)) (hs:d'.size=d.size) {base:Nat} (hb:base≤w.heap.size) (hg:base≤g) :
 Row (sortWorldK encS 32 w g 0 n d' os) g 46 32 idC cap (lisS d')∧Below base w (sortWorldK encS 32 w g 0 n d' os):=by
 unfold sortWorldK
 have hd:Below w.heap.size w (Sort.ahead w n):=⟨rfl,rfl,rfl,Nat.le_refl _,fun _ _=>rfl⟩
 have h1:=h.below hd
 have hk : ∀ x∈lisS d,(idC x).length=32:=fun x hx=>idC_len (lisS_ok d x hx)
 have hk' : ∀ x∈lisS d',(idC x).length=32:=fun x hx=>idC_len (lisS_ok d' x hx)
 rw [put_cells (holds_row h1) hs]
 have h2:=h1.put hk hk' (i:=0) (Nat.zero_le _) (by rw [zBy,hs,Nat.zero_add,←zBy];exact h.le)
 have e:(lisS d).take 0++lisS d'++(lisS d).drop (0+(lisS d').length)=lisS d':=by
  rw [List.take_zero,List.nil_append,List.drop_eq_nil_of_le (by rw [zBy,zBy,hs];omega),List.append_nil]
 rw [e,Nat.zero_mul] at h2
 have b2:=zAF (rowsOf idC (lisS d')) 0 w (Sort.ahead w n) (hd.mono hb) hg
 have hsz:=b2.size
 refine ⟨h2.below (zEc (Below.refl _ _) (Nat.le_refl _) os),zEc b2 ?_ os⟩
 exact Nat.le_trans hb hsz
set_option maxRecDepth 100000 in
set_option maxHeartbeats 1000000 in
theorem zCe (a b:Txt) (ha:a.length=32) (hb:b.length=32) (w:World) :
 Calls Tryz.prog 72 #[.agg (u8s a), .agg (u8s b)] w fun e w'=>e = .returned (.int .i64 (Lib.compareBytes a b)) ∧ ∃ q os,w'=grow (w.drewN q) os:=by
 obtain ⟨W1,hW1⟩ : ∃ W1,w.alloc (.cells (u8s a) 46)=W1:=⟨_,rfl⟩
 have x1:Blk W1 w.heap.size 46 (u8s a):=by rw [←hW1];exact Blk.new _ _ _
 obtain ⟨W2,hW2⟩ : ∃ W2,W1.alloc (.cells (u8s b) 46)=W2:=⟨_,rfl⟩
 have bb2:Below W1.heap.size W1 W2:=by rw [←hW2];exact (Below.refl _ _).alloc (Nat.le_refl _) _
 have x2:=x1.below bb2 x1.lt
 have n2:Blk W2 W1.heap.size 46 (u8s b):=by rw [←hW2];exact Blk.new _ _ _
 have hgr:Hid (∀ q, ∃ q' os,W2.drewN q=grow (w.drewN q') os):=Lib.hid fun q=>⟨q, #[_,_],by rw [←hW2,←hW1,alloc_eq_grow,alloc_eq_grow,grow_grow];rfl⟩
 have hc:=fun (W:World) (hW:Below W2.heap.size W2 W)=>zCW a b ha hb w.heap.size 0 W1.heap.size 0 W (zAc (zAi x2) x2.lt hW) (zAc (zAi n2) n2.lt hW)
 obtain ⟨NC,hNC⟩ : ∃ NC,u8s b=NC:=⟨_,rfl⟩
 obtain ⟨XC,hXC⟩ : ∃ XC,u8s a=XC:=⟨_,rfl⟩
 rw [hXC] at hW1 ⊢
 rw [hNC] at hW2 ⊢
 clear hNC hXC x1 x2 n2 bb2
 go_enter Tryz.func72,Tryz.ntmps72
 go_wp2
 refine zAd (C:=fun W=>Below W2.heap.size W2 W ∧ ∃ q,W=W2.drewN q) (by kernel_rfl) (by kernel_rfl) ⟨(Below.refl _ _).drew,1,rfl⟩ ?_
 repeat
  first
   | ((with_reducible refine zAl ?_ ?_)
      ·(go_simp;done)
      apply Exists.intro
      refine ⟨fun W hW=>?_,?_⟩
      ·first
        | (have hkeep:=(hc W hW.1).mono fun e w' (h:e = .returned (.int .i64 (Lib.compareBytes a b))∧w'=W)=>(⟨h.1,h.2.symm▸hW⟩:e = .returned (.int .i64 (Lib.compareBytes a b))∧(Below W2.heap.size W2 w' ∧ ∃ q,w'=W2.drewN q))
           go_simp
           first
            | rfl
            | (with_reducible exact hkeep))
      simp only [Act.put,zA,zB,zC])
   | ((with_reducible refine zAh ?_ ?_)
      ·(first | rfl | (go_simp;done))
      simp only [Act.put,zA,zB,zC])
 with_reducible refine wpQuiet_nil ?_
 intro w5 hW5
 go_wp2
 go_ret
 obtain ⟨_,q,rfl⟩:=hW5
 exact ⟨rfl,hgr.out q⟩
theorem zEn (a:Array Value) (W:World):(callFunc 72 a).run Tryz.prog W = .ok (.enter 72 a) W:=by kernel_rfl
set_option maxRecDepth 100000 in
theorem sortIds_calls (l:List Txt) (hok : ∀ x∈l,x.length=32) (hbig:l.length≤1000000) (w:World) (g cap base:Nat) (hb:base≤w.heap.size) (hg:base≤g) (h:Row w g 46 32 idC cap l) :
 Calls Tryz.prog 71 #[.slice (some ⟨g,0,none⟩) l.length cap, .func (.func 72) #[] #[]] w fun e w'=>
  e = .returned (.tuple #[]) ∧ ∃ l',l'.Perm l∧(∀ i j,i<j→j<l'.length→Op.bytesLess (l'.getD j []) (l'.getD i [])=false)∧(∀ x∈l',x.length=32)∧Row w' g 46 32 idC cap l'∧Below base w w':=by
 obtain ⟨d,rfl⟩:=lisS_of hok
 have hcmp:CmpLays Tryz.prog 72 #[] encS 32 cmpS g 0 d.size w:=fun m os dk _ x y=>by
  have h:=zCe x.1 y.1 x.2 y.2 (sortWorldK encS 32 w g 0 m dk os)
  have e1:(encS x).toArray=u8s x.1:=by simp [encS,idC]
  have e2:(encS y).toArray=u8s y.1:=by simp [encS,idC]
  rw [e1,e2]
  exact h
 have hcon:=AnyQ.slices_SortFunc Tryz.sortId 32 Tryz.isAgg46 Tryz.sizeOf46 encS encS_len encS_one cmpS swoS 72 #[] g 0 cap d w zEn hcmp (holds_row h) h.lt (by rw [zBy] at hbig;omega)
 change Calls Tryz.prog 71 _ _ _ at hcon
 rw [zBy]
 refine hcon.mono ?_
 rintro e w' ⟨rfl,d',n,os,hp,hs,rfl⟩
 obtain ⟨hr,hbl⟩:=sort_row (n:=n) (os:=os) h hp.1 hb hg
 refine ⟨rfl,lisS d',?_,fun i j hij hj=>?_,lisS_ok d',hr,hbl⟩
 ·have h2:=hp.2.2
  have e1:(d'.extract 0 d.size)=d':=by rw [←hp.1];simp
  have e2:(d.extract 0 d.size)=d:=by simp
  rw [e1,e2] at h2
  exact h2.map _
 ·rw [zBy] at hj
  have h2:=hs i j (Nat.zero_le _) hij (by rw [←hp.1];exact hj)
  rw [ltS] at h2
  rw [List.getD_eq_getElem?_getD,List.getD_eq_getElem?_getD,lisS_get d' hj,lisS_get d' (by omega)]
  exact h2
end
section
attribute [local go_sem ↓] ldvI_eq
theorem inL_idx (l:List Txt) (n:Txt):inL l n=decide (0≤idxOf (fun x=>decide (n=x)) l):=by
 rcases idx_cases (fun x=>decide (n=x)) l with ⟨k,x,hx,hk,hi,hp,_⟩ | ⟨hi,hall⟩
 ·rw [hi,decide_eq_true (by omega)]
  have:n=x:=by simpa using hp
  exact inL_iff.2 (this▸List.mem_of_getElem? hx)
 ·rw [hi,decide_eq_false (by omega)]
  cases hb:inL l n
  ·rfl
  ·have:=List.all_eq_true.1 hall n (inL_iff.1 hb)
   simp at this
set_option maxRecDepth 100000 in
set_option maxHeartbeats 2000000 in
theorem gidIndex_calls (l:List Txt) (hok : ∀ x∈l,x.length=32) (v:Value) (n:Txt) (hn:n.length=32) (w:World) (hv:Ids w v l) :
 Calls Tryz.prog 70 #[v, .agg (u8s n)] w fun e w'=>e = .returned (.int .i64 (idxOf (fun x=>decide (n=x)) l))∧Below w.heap.size w w':=by
 obtain ⟨W1,hW1⟩ : ∃ W1,w.alloc (.cells (u8s n) 46)=W1:=⟨_,rfl⟩
 have n1:Blk W1 w.heap.size 46 (u8s n):=by rw [←hW1];exact Blk.new _ _ _
 have b1:Below w.heap.size w W1:=by rw [←hW1];exact (Below.refl _ _).alloc (Nat.le_refl _) _
 have lnn:=fun W (hW:Below W1.heap.size W1 W)=>zAb (zAi (n1.below hW n1.lt)) hn
 obtain ⟨A,cap,rfl,hcap1,hcap2,hat⟩:=hv
 go_enter Tryz.func70,Tryz.ntmps70
 go_wp2
 go_loopw [8] (fun vi wr => ∃ k:Nat,vi = .int .i64 k∧k≤l.length∧Hid ((l.take k).all (fun y => !decide (n=y))=true)∧Below W1.heap.size W1 wr) (fun vi _=>l.length-(intOf vi).toNat)
 case atStart=>exact ⟨0,rfl,by omega,Lib.hid (by simp),Below.refl _ _⟩
 case round=>
  obtain ⟨k,rfl,hk,hall,hbel⟩:=hrel
  clear hW1
  by_cases hlt:k<l.length
  ·have hki:(k:Int)<(l.length:Int):=by omega
   obtain ⟨ga,oa,rfl,hga,hca⟩:=hat (by omega)
   obtain ⟨x,hx⟩ : ∃ x,l[k]?=some x:=⟨_,List.getElem?_eq_getElem hlt⟩
   have hxi:=hok x (List.mem_of_getElem? hx)
   have hlx : ∀ W,Below W1.heap.size W1 W→(ldvI ⟨ga,oa+k*32,none⟩).run Tryz.prog W = .ok (.agg (u8s x)) W:=fun W hW=>by
    have hr:=zAc (hca k x hx) hga (bthen b1 b1.size hW)
    exact zAb (show World.rangeAt W ga (oa+k*32) (u8s x).toList from hr) hxi
   have heq:=fun W=>zBD W n x hn hxi
   have hst1:decide (n=x)=false→Hid ((l.take (k+1)).all (fun y => !decide (n=y))=true):=fun hp=>Lib.hid (none_step hall.out hx hp)
   have hst2:decide (n=x)=true→Hid (idxOf (fun y=>decide (n=y)) l=(k:Int)):=fun hp=>Lib.hid (idxOf_found hall.out hx hp)
   generalize decide (n=x)=bo at *
   clear hx hca hat hok hall
   go_wp2
   refine zAd (C:=fun W=>Below W1.heap.size W1 W) (by kernel_rfl) (by kernel_rfl) hbel.drew ?_
   repeat
    first
     | ((with_reducible refine zAl ?_ ?_)
        ·(go_simp;done)
        apply Exists.intro
        refine ⟨fun W hW=>?_,?_⟩
        ·first
          | (have q0:=lnn W hW
             have q1:=hlx W hW
             have q2:=heq W
             go_simp
             first
              | rfl
              | (simp only [Sem.run_bind,run_eqGuard_agg _ _ _ _ _ _ _ Tryz.eqGuardType46,q2,Result.andThen_ok];rfl))
        simp only [Act.put,zA,zB,zC])
     | ((with_reducible refine zAh ?_ ?_)
        ·(first | rfl | (go_simp;done))
        simp only [Act.put,zA,zB,zC])
   with_reducible refine wpQuiet_nil ?_
   intro w5 hW5
   clear heq hlx
   have b5:=hW5
   cases bo
   ·have hst:=hst1 rfl
    clear hst1 hst2
    go_wp2
    go_roundw
    case rel=>exact ⟨k+1,by go_num,by omega,hst,b5⟩
    case measure=>simp [intOf];omega
   ·have hst:=hst2 rfl
    clear hst1 hst2
    go_wp2
    go_ret
    exact ⟨by rw [hst.out];rfl,bthen b1 b1.size b5⟩
  ·have hki : ¬ (k:Int)<(l.length:Int):=by omega
   have hst:Hid (idxOf (fun y=>decide (n=y)) l = -1):=by
    have:=hall.out
    rw [List.take_of_length_le (by omega)] at this
    exact idxOf_none this
   clear hall hat
   go_wp2
   go_ret
   exact ⟨by rw [hst.out];rfl,bthen b1 b1.size hbel⟩
set_option maxRecDepth 100000 in
set_option maxHeartbeats 2000000 in
theorem zEt (l:List Txt) (hok : ∀ x∈l,x.length=32) (v:Value) (n:Txt) (hn:n.length=32) (w:World) (hv:Ids w v l) :
 Calls Tryz.prog 45 #[v, .agg (u8s n)] w fun e w'=>e = .returned (.bool (inL l n))∧Below w.heap.size w w':=by
 obtain ⟨W1,hW1⟩ : ∃ W1,w.alloc (.cells (u8s n) 46)=W1:=⟨_,rfl⟩
 have n1:Blk W1 w.heap.size 46 (u8s n):=by rw [←hW1];exact Blk.new _ _ _
 have b1:Below w.heap.size w W1:=by rw [←hW1];exact (Below.refl _ _).alloc (Nat.le_refl _) _
 have lnn:=zAb (zAi n1) hn
 have hc:=Lib.hid (gidIndex_calls l hok v n hn W1 (hv.below b1))
 rw [inL_idx]
 obtain ⟨A,cap,rfl,_⟩:=hv
 generalize idxOf (fun x=>decide (n=x)) l=I at *
 clear hok n1
 go_enter Tryz.func45,Tryz.ntmps45
 go_wp2_with (first
  | ((with_reducible refine hc.out.mono ?_);rintro e w2 ⟨rfl,hb2⟩))
 go_ret
 exact ⟨rfl,bthen b1 b1.size hb2⟩
set_option maxRecDepth 100000 in
set_option maxHeartbeats 1000000 in
theorem next1_calls (l:List Txt) (hok : ∀ x∈l,x.length=32) (v:Value) (b:Nat) (n:Txt) (hn:n.length=32) (w:World) (hb:b<w.heap.size) (hc0:w.cell? ⟨b,0,none⟩=some v) (hv:Ids w v l) :
 Calls Tryz.prog 44 #[.agg (idC n).toArray, .pointer (some ⟨b,0,none⟩)] w fun e w'=>e = .returned (.bool (inL l n))∧Below w.heap.size w w':=by
 have hag:(idC n).toArray=u8s n:=by simp [idC]
 rw [hag]
 obtain ⟨W1,hW1⟩ : ∃ W1,w.alloc (.cells (u8s n) 46)=W1:=⟨_,rfl⟩
 have n1:Blk W1 w.heap.size 46 (u8s n):=by rw [←hW1];exact Blk.new _ _ _
 have b1:Below w.heap.size w W1:=by rw [←hW1];exact (Below.refl _ _).alloc (Nat.le_refl _) _
 have lnn:=zAb (zAi n1) hn
 have c1:W1.cell? ⟨b,0,none⟩=some v:=by rw [←hW1];exact (World.cell?_alloc_lt w _ ⟨b,0,none⟩ hb).trans hc0
 have hc:=Lib.hid (zEt l hok v n hn W1 (hv.below b1))
 obtain ⟨A,cap,rfl,_⟩:=hv
 clear hok n1 hc0 hag
 go_enter Tryz.func44,Tryz.ntmps44
 go_wp2_with (first
  | ((with_reducible refine hc.out.mono ?_);rintro e w2 ⟨rfl,hb2⟩))
 go_ret
 exact ⟨rfl,bthen b1 b1.size hb2⟩
theorem next1_func (a:Array Value) (W:World):(callFunc 44 a).run Tryz.prog W = .ok (.enter 44 a) W:=by kernel_rfl
end
theorem str_of_blk (w:World) {t:TypeId} {g:Nat} {l:List UInt8} (h:Blk w g t (u8s l)) :
 (convert 23 9 (.slice (some ⟨g,0,none⟩) l.length l.length)).run Tryz.prog w = .ok (.string (B l)) w:=by
 rw [run_convert_bytes_arg w 23 5 Tryz.underlying23 Tryz.underlying5 g 0 l.length l.length (l.map fun c=>(c.toNat:Int)) (by simp) (fun i hi=>by
  rw [Nat.zero_add,h.cell,u8s_get l i hi]
  simp [List.getD,List.getElem?_map,List.getElem?_eq_getElem hi]) 9 Tryz.underlying9]
 have hl:(l.map fun c=>(c.toNat:Int)).map (fun n=>UInt8.ofNat n.toNat)=l:=by
  rw [List.map_map]
  exact (List.map_congr_left (g:=id) (fun c _=>by simp)).trans (List.map_id l)
 rw [strOfNums,hl]
 rfl
theorem str_of_id (w:World) {t:TypeId} {g:Nat} {l:List UInt8} (hl:l.length=32) (h:Blk w g t (u8s l)) (n:Nat) :
 (convert 23 9 (.slice (some ⟨g,0,none⟩) 32 32)).run Tryz.prog (w.drewN n) = .ok (.string (B l)) (w.drewN n):=by
 have:=str_of_blk (w.drewN n) (h.drewN n)
 rwa [hl] at this
theorem blk_at2 (w:World) (o:Obj) (t:TypeId) (cs:Array Value):Blk ((w.alloc o).alloc (.cells cs t)) (w.heap.size+1) t cs:=by
 have:=Blk.new (w.alloc o) t cs
 rwa [show (w.alloc o).heap.size=w.heap.size+1 from by simp] at this
theorem zAe {P:Program} {fn:Func} {p q:Tmp} {ty:TypeId} (h:fn.results = #[.cell p ty, .tmp q]) (tmps:Array Value) (w:World) (g:Nat) (t:TypeId) (cs:Array Value) (fr:Nat×Nat) (d:TypeDesc)
 (hp:tmps.getD p undef = .pointer (some ⟨g,0,none⟩)) (hg:w.heap[g]?=some (.cells cs t fr))
 (hu:P.underlying ty=some d) (hd:(match d with | .struct _ | .array _ _=>true | _=>false)=true) (hi:(P.info? ty).map (·.size)=some cs.size) :
 (results fn tmps).run P w = .ok (.tuple #[.agg cs,tmps.getD q undef]) w:=by
 have hp':tmps[p]?.getD undef = .pointer (some ⟨g,0,none⟩):=by simpa using hp
 simp [results,h,hp',asAddr,run_loadVar_row w g t ty cs fr d hg hu hd hi]
theorem bytesLess_at {a b:List UInt8} (k:Nat) (ha:k<a.length) (hb:k<b.length) (he:a.take k=b.take k) (hne:a.getD k 0≠b.getD k 0) :
 Op.bytesLess a b=decide (((a.getD k 0).toNat:Int)<((b.getD k 0).toNat:Int)):=by
 induction k generalizing a b with
 | zero=>
   cases a with
   | nil=>simp at ha
   | cons x a=>
     cases b with
     | nil=>simp at hb
     | cons y b=>
       have hxy:x≠y:=hne
       rw [Op.bytesLess,Bool.eq_iff_iff]
       simp only [Bool.or_eq_true,Bool.and_eq_true,decide_eq_true_eq,beq_iff_eq,hxy,false_and,or_false,List.getD_cons_zero,UInt8.lt_iff_toNat_lt]
       omega
 | succ k ih=>
   cases a with
   | nil=>simp at ha
   | cons x a=>
     cases b with
     | nil=>simp at hb
     | cons y b=>
       simp only [List.take_succ_cons,List.cons.injEq] at he
       obtain ⟨rfl,he⟩:=he
       have:=ih (a:=a) (b:=b) (by simpa using ha) (by simpa using hb) he hne
       rw [Op.bytesLess]
       simp only [List.getD_cons_succ,beq_self_eq_true,Bool.true_and,UInt8.lt_irrefl,decide_false,Bool.false_or]
       exact this
theorem bytesLess_self (a:List UInt8):Op.bytesLess a a=false:=by
 induction a with
 | nil=>rfl
 | cons x a ih=>rw [Op.bytesLess,ih];simp
set_option maxRecDepth 100000 in
set_option maxHeartbeats 1000000 in
theorem less_calls (a b:List UInt8) (ha:a.length=32) (hb:b.length=32) (w:World) :
 Calls Tryz.prog 182 #[.agg (u8s a), .agg (u8s b)] w fun e w'=>e = .returned (.bool (Op.bytesLess a b))∧Below w.heap.size w w':=by
 have h0:Blk ((w.alloc (.cells (u8s a) 46)).alloc (.cells (u8s b) 46)) w.heap.size 46 (u8s a):=(Blk.new w _ _).alloc _
 have h1:Blk ((w.alloc (.cells (u8s a) 46)).alloc (.cells (u8s b) 46)) (w.heap.size+1) 46 (u8s b):=blk_at2 _ _ _ _
 have bb:Below w.heap.size w ((w.alloc (.cells (u8s a) 46)).alloc (.cells (u8s b) 46)):=((Below.refl _ _).alloc (Nat.le_refl _) _).alloc (by simp) _
 have s0:=fun n=>str_of_id _ ha h0 n
 have s1:=fun n=>str_of_id _ hb h1 n
 go_enter Tryz.func182,Tryz.ntmps182
 go_wp2
 go_quiet (fail)
 go_wp2
 go_ret
 exact ⟨rfl,bdrewN bb nq⟩
set_option maxRecDepth 100000 in
set_option maxHeartbeats 1000000 in
theorem zD1 (a b:List UInt8) (ha:a.length=32) (hb:b.length=32) (w:World) :
 Calls Tryz.prog 32 #[.agg (u8s a), .agg (u8s b)] w fun e w'=>e = .returned (.bool (Op.bytesLess a b))∧Below w.heap.size w w':=by
 have h0:Blk ((w.alloc (.cells (u8s a) 46)).alloc (.cells (u8s b) 46)) w.heap.size 46 (u8s a):=(Blk.new w _ _).alloc _
 have h1:Blk ((w.alloc (.cells (u8s a) 46)).alloc (.cells (u8s b) 46)) (w.heap.size+1) 46 (u8s b):=blk_at2 _ _ _ _
 have bb:Below w.heap.size w ((w.alloc (.cells (u8s a) 46)).alloc (.cells (u8s b) 46)):=((Below.refl _ _).alloc (Nat.le_refl _) _).alloc (by simp) _
 obtain ⟨r,hr⟩ : ∃ r,Hid (Op.bytesLess a b=r):=⟨_,rfl⟩
 rw [hr.out]
 go_enter Tryz.func32,Tryz.ntmps32
 go_wp2
 go_loopw [5] (fun i wr => ∃ k:Nat,i = .int .i64 k∧k≤32∧Hid (a.take k=b.take k)∧Blk wr w.heap.size 46 (u8s a)∧Blk wr (w.heap.size+1) 46 (u8s b)∧Below w.heap.size w wr) (fun i _=>32-(intOf i).toNat)
 case atStart=>exact ⟨0,rfl,by omega,rfl,h0,h1,bb⟩
 case round=>
  clear h0 h1 bb
  obtain ⟨k,rfl,hk,hek,h0,h1,hbel⟩:=hrel
  have hbs:=h1.lt
  by_cases hlt:k<32
  ·have hki:(k:Int)<32:=by omega
   have hat:=fun hne=>Lib.hid (bytesLess_at k (by omega) (by omega) hek.out (a:=a) (b:=b) hne)
   have hc0:wr.cell? ⟨w.heap.size,k,none⟩=some (.int .u8 ((a.getD k 0).toNat:Nat)):=by rw [h0.cell,u8s_get a k (by omega)]
   have hc1:wr.cell? ⟨w.heap.size+1,k,none⟩=some (.int .u8 ((b.getD k 0).toNat:Nat)):=by rw [h1.cell,u8s_get b k (by omega)]
   have hnx:Hid (a.getD k 0=b.getD k 0→a.take (k+1)=b.take (k+1)):=by
    intro he
    rw [List.take_add_one,List.take_add_one,hek.out]
    congr 1
    simp only [List.getD,List.getElem?_eq_getElem (show k<a.length by omega),List.getElem?_eq_getElem (show k<b.length by omega),Option.getD_some] at he
    rw [List.getElem?_eq_getElem (show k<a.length by omega),List.getElem?_eq_getElem (show k<b.length by omega),he]
   generalize a.getD k 0=x at *
   generalize b.getD k 0=y at *
   by_cases hxy:x=y
   ·have hn:=Lib.hid (hnx.out hxy)
    have hx1:((x.toNat:Int) != (y.toNat:Int))=false:=by rw [hxy];simp
    clear hat hnx hxy
    go_wp2
    go_quiet (fail)
    go_wp2
    go_roundw
    case rel=>exact ⟨k+1,by go_num,by omega,hn,h0.drewN nq,h1.drewN nq,bdrewN hbel nq⟩
    case measure=>simp [intOf];omega
   ·have hx1:((x.toNat:Int) != (y.toNat:Int))=true:=by
     simp only [bne_iff_ne,ne_eq]
     exact fun h=>hxy (UInt8.toNat_inj.1 (by omega))
    have hres:=hat hxy
    have hrr:Hid (r=decide (x.toNat<y.toNat)):=by show _=_;rw [←hr.out,hres.out];exact decide_eq_decide.2 Int.ofNat_lt
    clear hat hnx hxy hres
    go_wp2
    go_quiet (fail)
    have hc0':(wr.drewN nq).cell? ⟨w.heap.size,k,none⟩=some (.int .u8 (x.toNat:Nat)):=hc0
    have hc1':(wr.drewN nq).cell? ⟨w.heap.size+1,k,none⟩=some (.int .u8 (y.toNat:Nat)):=hc1
    have hbel':=bdrewN hbel nq
    clear hc0 hc1 h0 h1 hbel
    generalize wr.drewN nq=wo at *
    go_wp2
    go_quiet (fail)
    go_wp2
    go_ret
    exact ⟨by rw [hrr.out];rfl,bdrewN hbel' nq⟩
  ·have hk32:k=32:=by omega
   have hki : ¬ (k:Int)<32:=by omega
   have hrr:Hid (r=false):=by
    have:=hek.out
    rw [hk32,List.take_of_length_le (by omega),List.take_of_length_le (by omega)] at this
    show _=_
    rw [←hr.out,this,bytesLess_self]
   clear hk32
   go_wp2
   go_ret
   exact ⟨by rw [hrr.out];rfl,hbel⟩
section
def SrcAt (size:Nat) (w:World) (v:Value) (m:Nat) (ys:List Value):Prop:=(∃ ad c,v = .slice (some ad) m c∧ys.length=m*size∧(∀ j u,ys[j]?=some u→w.cell? (ad.add j)=some u))∨(∃ c,v = .slice none 0 c∧m=0∧ys=[])
theorem SrcAt.of {size:Nat} {α:Type} {enc:α→List Value} {w:World} {v:Value} {l:List α} (hk : ∀ x∈l,(enc x).length=size) (h:SliceAt w size enc v l):SrcAt size w v l.length (rowsOf enc l):=by
 have h0:=h
 obtain ⟨A,c,rfl,_,_,h3⟩:=h
 cases A with
 | none=>
   cases l with
   | nil=>exact .inr ⟨c,rfl,rfl,rfl⟩
   | cons x l=>obtain ⟨g,o,h4,_⟩:=h3 (by simp);cases h4
 | some ad=>exact .inl ⟨ad,c,rfl,zAn hk,h0.news hk rfl⟩
theorem zEk {P:Program} {w:World} (base:Nat) (t ty e:TypeId) (i:TypeInfo) (size c:Nat) (ht:P.underlying t=some (.slice e)) (hi:P.info? e=some i)
 (v:Value) (n:Nat) (xs:List Value) (hown:w.ownsRow base e size v n xs) :
 (Builtin.append_ #[t,t] ty #[v, .slice none 0 c]).run P w = .ok v w:=by
 rcases hown.2 with ⟨rfl,rfl⟩ | ⟨g,cap,cur,rfl,_,_,hnc,_⟩
 ·simp [Builtin.append_,run_underlying ht,sizeOf,typeInfo,hi,Builtin.lenOf,Builtin.firstCells]
 ·simp [Builtin.append_,run_underlying ht,sizeOf,typeInfo,hi,Builtin.lenOf,Builtin.firstCells,hnc,storeCells]
section
variable {P:Program} {ops:Array Oper} {w0:World} {rows:List (Option Nat)} {pres:Pres} {sps:List Sp} {E:Act→Facts→Prop} {i:Nat} {o:Oper} {rest:List Oper} {s:Sp} {ss:List Sp} {a:Act} {D D':Facts} {w:World}
theorem claim_less (hD : ∀ q∈D',q∈D) (h:claim P ops w0 rows pres sps i o s a D'):claim P ops w0 rows pres sps i o s a D:=by
 have hH : ∀ w,Have ops pres i D w→Have ops pres i D' w:=fun w h=>h.of fun q _ hq=>hD q hq
 cases s with
 | det f=>exact fun w hw hh=>h w hw (hH w hh)
 | new r=>exact ⟨h.1,fun w hw hh=>h.2 w hw (hH w hh)⟩
 | der j r=>exact ⟨h.1,h.2.1,h.2.2.1,fun w F hw hF hh hp=>h.2.2.2 w F hw hF (hH w hh) fun p hq=>hp p (hD _ hq)⟩
 | al T Z=>exact h
 | st j T n=>
   obtain ⟨h1,h2,h3,h4,x,y,h5,h6,h7⟩:=h
   exact ⟨h1,h2,h3,h4,x,y,h5,hD _ h6,fun w hw hh=>h7 w hw (hH w hh)⟩
 | wr r=>
   obtain ⟨h1,row,p0,h3,h4⟩:=h
   exact ⟨h1,row,p0,h3,fun w hw hh hp=>h4 w hw (hH w hh) hp⟩
 | ov j r=>exact ⟨h.1,h.2.1,h.2.2.1,fun w F hw hF hh hp=>h.2.2.2 w F hw hF (hH w hh) fun p hq=>hp p (hD _ hq)⟩
theorem LxL_less (hE : ∀ a D D',(∀ q∈D',q∈D)→E a D'→E a D) : ∀ (l:List Oper) (ss:List Sp) (i:Nat) (a:Act) (D D':Facts),(∀ q∈D',q∈D)→LxL P ops w0 rows pres sps E i l ss a D'→LxL P ops w0 rows pres sps E i l ss a D
 | [],[],_,a,D,D',hD,h=>hE a D D' hD h
 | [],_::_,_,a,D,D',hD,h=>hE a D D' hD h
 | o::l,[],_,_,_,_,_,h=>h.elim
 | o::l,s::ss,i,a,D,D',hD,h=>by
   unfold LxL at h ⊢
   split at h
   ·rename_i hw
    rw [if_pos hw]
    refine ⟨claim_less hD h.1,fun v hv=>LxL_less hE l ss _ _ _ _ (fun q hq=>?_) (h.2 v hv)⟩
    rcases List.mem_append.1 hq with hq | hq
    ·exact List.mem_append_left _ hq
    ·refine List.mem_append_right _ ?_
     cases s<;>first | exact hD q hq | exact List.mem_filter.2 ⟨hD q (List.mem_filter.1 hq).1,(List.mem_filter.1 hq).2⟩
   ·rename_i hw
    rw [if_neg hw]
    exact LxL_less hE l ss _ _ _ _ hD h
theorem zBx {W:World} {Q:Exit→Act→World→Prop} (a:Act) (D D':Facts) (hD : ∀ q∈D',q∈D) (h:End0 ops W sps Q a D'):End0 ops W sps Q a D:=⟨h.1,fun w hw hq=>h.2 w hw fun q hh=>hq q (hD q hh)⟩
theorem zCj {w:World} {B:Nat} {t rt e:TypeId} {z:Value} {size bytes:Nat} (hT:SliceTy P t e z size bytes) {v v2:Value} {n m:Nat} {xs ys:List Value} (hown:w.ownsRow B e size v n xs) (hs:SrcAt size w v2 m ys) (h1 : ∀ u∈ys,u.oneCell'=true) (h63:n+m≤9223372036854775807) (hby:(n+m)*bytes≤140737488355328) (hB:B≤w.heap.size) :
 ∃ v' w',(Builtin.append_ #[t,t] rt #[v,v2]).run P w = .ok v' w'∧w'.ownsRow B e size v' (n+m) (xs++ys)∧w.grownBy w' v.ownBlock∧(v'.ownBlock=v.ownBlock∨v'.ownBlock=some w.heap.size):=by
 obtain ⟨it,i1,i2,i3,i4⟩:=hT.hi
 rcases hs with ⟨ad,c,rfl,hl,hn⟩ | ⟨c,rfl,rfl,rfl⟩
 ·obtain ⟨v',w',hrun,hown',hg,_,hat⟩:=run_append_own_at (P:=P) w B t rt e it z size bytes hT.ht i1 i2 i3 i4 hT.hzs hT.hsz v n xs hown ad m c ys hl hn h1 (by simp only [maxLen];omega) hby hB
  exact ⟨v',w',hrun,hown',hg,hat⟩
 ·refine ⟨v,w,zEk B t rt e it size c hT.ht i1 v n xs hown,?_,⟨rfl,rfl,rfl,Nat.le_refl _,fun _ _ _=>rfl⟩, .inl rfl⟩
  rw [List.append_nil];exact hown
theorem lx_appC {d:Option Tmp} {rt:TypeId} {pos:String} {af:Array Edge} {sl x:Operand} {t e:TypeId} {z:Value} {size bytes:Nat} (hT:SliceTy P t e z size bytes) (j n m:Nat) (Ψ Ψ':List Value→Prop) (h63:n+m≤9223372036854775807) (hby:(n+m)*bytes≤140737488355328)
 (hE : ∀ a D D',(∀ q∈D',q∈D)→E a D'→E a D) (hj:waitsT ops i j=true) (hv:isVal (spAt sps j)=true) (D2:Facts) (hD2 : ∀ q∈D2,q∈D∧(gAt sps q.1 != gAt sps i)=true) (hs:s = .ov j fun _=>appR w0.heap.size e size (n+m) Ψ')
 (h : ∃ v1 v2,a.eval sl=v1∧a.eval x=v2∧(j,appR w0.heap.size e size n Ψ v1)∈D∧(∀ w,Far rows w0 w→Have ops pres i D w → ∃ ys,SrcAt size w v2 m ys∧(∀ u∈ys,u.oneCell'=true) ∧ ∀ xs,Ψ xs→Ψ' (xs++ys)) ∧ ∀ v,LxL P ops w0 rows pres sps E (i+1) rest ss (a.put d v) ((i,appR w0.heap.size e size (n+m) Ψ' v)::D2)) :
 LxL P ops w0 rows pres sps E i ({ dst:=d,op := .call { callee := .builtin .append,args := #[sl,x],argTypes := #[t,t] },type:=rt,pos:=pos,after:=af,guard:=none }::rest) (s::ss) a D:=by
 obtain ⟨_,_,rfl,rfl,hm,hc,h⟩:=h
 refine lx_ov j (fun _=>appR w0.heap.size e size (n+m) Ψ') hs (by simp [Region.wanted]) (fun _=>zDY _ e size (n+m) Ψ') hj hv (fun w F hw hF hh hp=>?_) fun v=>LxL_less hE _ _ _ _ _ _ (fun q hq=>?_) (h v)
 ·obtain ⟨xs,hxs,hown,hfo⟩:=hp _ hm
  obtain ⟨ys,hsrc,h1,hps⟩:=hc w hw hh
  have hsz:=hw.size
  obtain ⟨v',w',hrun,hown',hg,hat⟩:=zCj (rt:=rt) hT hown hsrc h1 h63 hby hsz
  refine zBO (v:=v') (w':=w') ?_ ⟨hg.os,hg.tape,hg.output,hg.size,fun k hk hn=>hg.block k hk fun e=>?_,fun F' hF1 hF2=>⟨_,hps xs hxs,hown',fun k hk=>?_⟩⟩
  ·unfold execOp
   simp only [resolve,invoke,builtin,Sem.run_bind,Sem.run_pure,Result.andThen_ok,List.map_toArray,List.map_cons,List.map_nil,hrun]
  ·have:=(hn (hfo k e.symm)).1
   have:=(World.ownsRow.lt hown k e.symm).1
   omega
  ·rcases hat with hat | hat
   ·rw [hat] at hk;exact hF1 k (hfo k hk)
   ·rw [hat] at hk
    injection hk with hk
    subst hk
    exact hF2 _ (Nat.le_refl _) (World.ownsRow.lt hown' _ hat).2
 ·rcases List.mem_cons.1 hq with hq | hq
  ·rw [hq];exact List.mem_cons_self
  ·exact List.mem_cons_of_mem _ (List.mem_filter.2 (hD2 q hq))
theorem does_slice0 {post:Value→World→Prop} {d:Option Tmp} {rt:TypeId} {pos:String} {af:Array Edge} {gd:Option (Nat×Bool)} {t e:TypeId} {z:Value} {size bytes:Nat} (hT:SliceTy P t e z size bytes)
 (h:post (.slice (some ⟨w.heap.size,0,none⟩) 0 0) (w.alloc (.cells #[] e))):doesAt P { dst:=d,op := .buildSlice t 0 #[],type:=rt,pos:=pos,after:=af,guard:=gd } a w post:=by
 have hrun:(Instr.buildSlice t 0 #[]).run P w = .ok (.slice (some ⟨w.heap.size,0,none⟩) 0 0) (w.alloc (.cells #[] e)):=by
  obtain ⟨it,hi,hz,hs,hb⟩:=hT.hi
  have h0:=hT.hsz
  simp [Instr.buildSlice,run_underlying hT.ht,sizeOf,typeInfo,zeroValue,hi,hz,newRow,Instr.fill]
  rw [Array.eq_empty_of_size_eq_zero (xs:=Array.range 0) (by simp),Array.map_empty]
 refine zBO (v := .slice (some ⟨w.heap.size,0,none⟩) 0 0) (w':=w.alloc (.cells #[] e)) ?_ h
 unfold execOp
 simp only [Sem.run_bind,List.map_toArray,List.map_nil,hrun,Result.andThen_ok]
 rfl
theorem lx_slice0 {d:Option Tmp} {rt:TypeId} {pos:String} {af:Array Edge} {t e:TypeId} {z:Value} {size bytes:Nat} (hT:SliceTy P t e z size bytes) (hs:s = .new fun _=>appR w0.heap.size e size 0 fun xs=>xs=[])
 (h : ∀ v,LxL P ops w0 rows pres sps E (i+1) rest ss (a.put d v) ((i,appR w0.heap.size e size 0 (fun xs=>xs=[]) v)::D)) :
 LxL P ops w0 rows pres sps E i ({ dst:=d,op := .buildSlice t 0 #[],type:=rt,pos:=pos,after:=af,guard:=none }::rest) (s::ss) a D:=by
 refine lx_new (fun _=>appR w0.heap.size e size 0 fun xs=>xs=[]) hs (by simp [Region.wanted]) (fun _=>zDY _ e size 0 _) (fun w hw hh=>?_) h
 refine does_slice0 hT ⟨(Below.refl _ _).alloc (Nat.le_refl _) _,fun F _ _ h3=>⟨[],rfl,World.ownsRow_lit w #[] 0 hw.size (by simp [maxLen]) (by simp),fun k hk=>h3 k ?_ ?_⟩⟩
 ·simp only [Value.ownBlock] at hk;injection hk with hk;omega
 ·simp only [Value.ownBlock] at hk;injection hk with hk;rw [zA4];omega
def sliN (e:TypeId) (N:Nat) (Φ:Array Value→Prop) (v:Value) (F:Foot) (w:World):Prop := ∃ g cs,v = .slice (some ⟨g,0,none⟩) 1 1∧F g∧Blk w g e cs∧Φ cs∧N≤g
theorem sliN_stab (e:TypeId) (N:Nat) (Φ:Array Value→Prop) (v:Value):Stab (sliN e N Φ v):=fun _ _ _ _ hf ha ⟨g,cs,h1,h2,h3,h4⟩=>⟨g,cs,h1,hf g h2,(ha.same g h3.lt h2).trans h3,h4⟩
theorem lx_slice1N {d:Option Tmp} {rt:TypeId} {pos:String} {af:Array Edge} {x:Operand} {t e:TypeId} {z:Value} {size bytes:Nat} (hT:SliceTy P t e z size bytes) (N:Nat) (hN:N≤w0.heap.size) (Φ:Array Value→Prop) (hsm:size≤1000) (hs:s = .new fun _=>sliN e N Φ)
 (h : ∃ v,a.eval x=v∧(∀ w,Far rows w0 w→Have ops pres i D w → ∃ cs:Array Value,v = .agg cs∧cs.size=size∧Φ cs) ∧ ∀ v,LxL P ops w0 rows pres sps E (i+1) rest ss (a.put d v) ((i,sliN e N Φ v)::D)) :
 LxL P ops w0 rows pres sps E i ({ dst:=d,op := .buildSlice t 1 #[(0,x)],type:=rt,pos:=pos,after:=af,guard:=none }::rest) (s::ss) a D:=by
 obtain ⟨_,rfl,hc,h⟩:=h
 refine lx_new (fun _=>sliN e N Φ) hs (by simp [Region.wanted]) (fun _=>sliN_stab e N Φ) (fun w hw hh=>?_) h
 obtain ⟨cs,hx,hcs,hp⟩:=hc w hw hh
 refine does_slice1 hT cs hcs hsm hx ⟨(Below.refl _ _).alloc (Nat.le_refl _) _,fun F _ _ h3=>⟨w.heap.size,cs,rfl,h3 _ (Nat.le_refl _) (by rw [zA4];omega),Blk.new _ _ _,hp,Nat.le_trans hN hw.size⟩⟩
end
end
end Go.Proofs.YtbhdfaadedlcfaaGreatDoor
