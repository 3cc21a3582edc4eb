/- Texts of this claim, laid together: GraD, Less, IdSo, IdSm, DocI, HexP, DocP, GsE, GsC. -/
import Derived.Test.YtbcbmjdmlcldjaaGreatDoorMg
import Derived.Deep.CutBlock
import Derived.Lib.Bytealg
import Derived.Great.FillDense
namespace Go.Proofs.YtbcbmjdmlcldjaaGreatDoor
open Go.RowKit
section
attribute [local go_sem ↓] ldvI_eq ldvO_eq ldvS_eq
theorem dec_kind4 {t:Txt} {o:ObjL} (h:decO t=some o):o.kind=1∨o.kind=2∨o.kind=3∨o.kind=4:=by
 have h1:=(zDg h).1
 unfold encO at h1
 split at h1
 ·rename_i h2
  exact zCB h2.1
 ·cases h1
def linksS (S:List StL) (n:Txt):List LinkL:=match objS S n with
 | some o=>linksL o
 | none=>[]
theorem linksS_len (S:List StL) (n:Txt):(linksS S n).length≤70:=by
 unfold linksS objS
 cases hg:getS S n with
 | none=>simp
 | some s=>
   simp only
   cases hd:decO s.text with
   | none=>simp
   | some o=>exact links_len (dec_small hd)
def keptK (c:Bool) (L:List LinkL) (j:Nat):List Txt:=(L.take (if c=true then Nat.min j 1 else j)).map LinkL.id
theorem keptK_more {c:Bool} {L:List LinkL} {j:Nat} {y:LinkL} (hy:L[j]?=some y) (h:c=false∨j=0):keptK c L (j+1)=keptK c L j++[y.id]:=by
 unfold keptK
 cases c with
 | false=>simp [List.take_add_one,hy]
 | true=>
   rcases h with h | rfl
   ·cases h
   ·cases L with
    | nil=>simp at hy
    | cons z L=>simp at hy;subst hy;rfl
theorem keptK_less {L:List LinkL} {j:Nat} (h:0<j):keptK true L (j+1)=keptK true L j:=by
 unfold keptK
 simp only [if_true]
 rw [show Nat.min (j+1) 1=1 from Nat.min_eq_right (by omega),show Nat.min j 1=1 from Nat.min_eq_right (by omega)]
theorem keptK_len (c:Bool) (L:List LinkL) (j:Nat):(keptK c L j).length≤j:=by
 unfold keptK
 rw [List.length_map,List.length_take]
 split
 ·exact Nat.le_trans (Nat.min_le_left _ _) (Nat.min_le_left _ _)
 ·exact Nat.min_le_left _ _
theorem keptK_end {S:List StL} {cut:List Txt} {n:Txt} {b:Bool} (hb:b=(decide (kindS S n=3)&&inL cut n)):keptK b (linksS S n) (linksS S n).length=nextS S cut n:=by
 have hk:kindS S n=match objS S n with | some o=>o.kind | none=>0:=by
  unfold kindS objS
  cases getS S n with
  | none=>rfl
  | some s=>rfl
 rw [hk] at hb
 unfold linksS nextS keptK
 cases ho:objS S n with
 | none=>simp
 | some o=>
   rw [ho] at hb
   simp only at hb ⊢
   unfold nextO cutO
   by_cases hc:o.kind=3∧inL cut n=true
   ·rw [if_pos hc]
    have:b=true:=by rw [hb];simp [hc.1,hc.2]
    subst this
    have h3:linksL o=⟨o.tree,2⟩::zA7 o.pars:=zDu hc.1
    have h4:linksL { o with pars:=[] }=[⟨o.tree,2⟩]:=by rw [zDu (o:={ o with pars:=[] }) hc.1];rfl
    rw [h3,h4]
    simp only [if_true,List.length_cons]
    rw [show Nat.min ((zA7 o.pars).length+1) 1=1 from Nat.min_eq_right (by omega)]
    rfl
   ·rw [if_neg hc]
    have:b=false:=by
     rw [hb]
     cases h:inL cut n
     ·simp
     ·have : ¬ o.kind=3:=fun e=>hc ⟨e,h⟩
      simp [this]
    subst this
    simp
section
variable {w:World} {vm:Value} {es:List DiL}
set_option maxRecDepth 100000 in
set_option maxHeartbeats 1000000 in
theorem docLinks_calls (h:DocSt w vm es) (n:Txt) (hn:n.length=32) :
 Calls Tryz.prog 114 #[.agg #[vm], .agg (u8s n)] w fun e w' => ∃ v',e = .returned v'∧zAE w' w.heap.size v' (linksS (es.map (·.st)) n)∧Below w.heap.size w w':=by
 obtain ⟨W1,W2,hW1,hW2,b2,hl1,hl2,hf⟩:=boxSt (w:=w) vm n hn
 obtain ⟨c2,r2,q2⟩:=hf W2 (Below.refl _ _)
 have l2:=zAC r2
 have ho:=zCP (h.below b2) n hn
 have hsz:=b2.size
 have hob:Hid (Calls Tryz.prog 35 #[.agg #[vm], .agg (u8s n)] W2 fun e w'=>(∃ vo,e = .returned vo∧Calls Tryz.prog 142 #[vo] w' fun e w'' => ∃ v',e = .returned v'∧zAE w'' w'.heap.size v' (linksS (es.map (·.st)) n)∧Below w'.heap.size w' w'')∧Below W2.heap.size W2 w'):=Lib.hid (by
  refine ho.mono fun e w' ⟨h1,h2⟩=>⟨?_,h2⟩
  unfold ObjG at h1
  unfold linksS
  cases hg:getS (es.map (·.st)) n with
  | none=>
    rw [hg] at h1
    rw [zCY hg]
    exact ⟨_,h1,zDo zeroO zero_small none none 0 0 w' (zero_ok w')⟩
  | some s=>
    rw [hg] at h1
    obtain ⟨o,A1,A2,k1,k2,hd,he,hv⟩:=h1
    rw [zCM hg hd]
    exact ⟨_,he,zDo o (dec_small hd) A1 A2 k1 k2 w' hv⟩)
 generalize linksS (es.map (·.st)) n=L at *
 clear ho c2 r2 hf
 obtain ⟨NC,hNC⟩ : ∃ NC,u8s n=NC:=⟨_,rfl⟩
 rw [hNC] at hW2 hob q2 ⊢
 clear hNC h
 go_enter Tryz.func114,Tryz.ntmps114
 go_wp2_with (first
  | ((with_reducible refine hob.out.mono ?_);rintro e w3 ⟨⟨vo,rfl,hli⟩,hb3⟩
     have b3:=bthen b2 hsz hb3)
  | ((with_reducible refine hli.mono ?_);rintro e w4 ⟨v4,rfl,ho4,hb4⟩))
 go_ret
 exact ⟨_,rfl,own_low ho4 b3.size,bthen b3 b3.size hb4⟩
set_option maxRecDepth 100000 in
set_option maxHeartbeats 4000000 in
theorem docNext_calls (h:DocSt w vm es) (n:Txt) (hn:n.length=32) (cut:List Txt) (hcok : ∀ x∈cut,x.length=32) (vc:Value) (hvc:Ids w vc cut) (hlok : ∀ y∈linksS (es.map (·.st)) n,LinkOk y) :
 Calls Tryz.prog 76 #[.agg #[vm], .agg (u8s n),vc] w fun e w' => ∃ v',e = .returned v'∧OwnIds w' w.heap.size v' (nextS (es.map (·.st)) cut n)∧Below w.heap.size w w':=by
 obtain ⟨W1,W2,hW1,hW2,b2,hl1,hl2,hf⟩:=boxSt (w:=w) vm n hn
 have hfs:=fun W (hW:Below W2.heap.size W2 W)=>zAC (hf W hW).2.1
 have hfn:=fun W (hW:Below W2.heap.size W2 W)=>(hf W hW).2.2
 have hsz:=b2.size
 have hli:=fun W (hW:Below W2.heap.size W2 W)=>Lib.hid (docLinks_calls (h.below (bthen b2 hsz hW)) n hn)
 have hki:=fun W (hW:Below W2.heap.size W2 W)=>Lib.hid (zAM (h.below (bthen b2 hsz hW)) n hn)
 have hin:=fun W (hW:Below W2.heap.size W2 W)=>Lib.hid (zBC cut hcok vc n hn W (hvc.below (bthen b2 hsz hW)))
 obtain ⟨b,hb⟩ : ∃ b,b=(decide (kindS (es.map (·.st)) n=3)&&inL cut n):=⟨_,rfl⟩
 have hend:=Lib.hid (keptK_end hb)
 have hL70:=linksS_len (es.map (·.st)) n
 have hkb:Hid ((kindS (es.map (·.st)) n==3)=decide (kindS (es.map (·.st)) n=3)):=Lib.hid rfl
 generalize linksS (es.map (·.st)) n=L at *
 generalize nextS (es.map (·.st)) cut n=R at *
 generalize kindS (es.map (·.st)) n=K at *
 generalize inL cut n=bi at *
 obtain ⟨Ac,cc,rfl,_⟩:=hvc
 have l20:=hfs W2 (Below.refl _ _)
 have l21:=hfn W2 (Below.refl _ _)
 have hli2:=hli W2 (Below.refl _ _)
 obtain ⟨NC,hNC⟩ : ∃ NC,u8s n=NC:=⟨_,rfl⟩
 rw [hNC] at hW2 hli2 hki hin hfn l21 ⊢
 clear hNC h hf hli
 go_enter Tryz.func76,Tryz.ntmps76
 go_wp2_with (first
  | ((with_reducible refine hli2.out.mono ?_);rintro e w3 ⟨v3,rfl,ho3,hb3⟩
     have l31:=hfn w3 hb3
     have hi3:=hin w3 hb3)
  | ((with_reducible refine hi3.out.mono ?_);rintro e w4 ⟨rfl,hb4⟩
     have b24:=bthen hb3 hb3.size hb4
     have l40:=hfs w4 b24
     have l41:=hfn w4 b24
     have hk4:=hki w4 b24)
  | ((with_reducible refine hk4.out.mono ?_);rintro e w5 ⟨rfl,hb5⟩))
 have b25:=bthen b24 b24.size hb5
 have b05:=bthen b2 hsz b25
 have hol5:=zAd (zAd ho3 hb4) hb5
 obtain ⟨Al,cl,rfl⟩:=zAl hol5
 clear hli2 hi3 hk4 hki hin hfs hfn l20 l21 l31 l40 l41 ho3 hb3 hb4 hb5 b24
 go_loopg [10,11] L.length (fun f vo vj wr => ∃ j:Nat,vj = .int .i64 j∧j+f=L.length∧OwnIds wr w.heap.size vo (keptK b L j)∧zAE wr W2.heap.size (.slice Al L.length cl) L∧Ap vo (.slice Al L.length cl)∧Below w.heap.size w wr)
 case atStart=>exact ⟨0,rfl,by omega,by unfold keptK;simp only [Nat.zero_min,ite_self,List.take_zero,List.map_nil];exact World.ownsRow_nil _ _ _ _,hol5, .nil_l _ _ _,b05⟩
 case round=>
  clear hol5 b05 b25 b2
  obtain ⟨j,rfl,hjf,hown,hol,hap,hbel⟩:=hrel
  have hbs:=hbel.size
  cases gk with
  | zero=>
    have hki : ¬ (j:Int)<(L.length:Int):=by omega
    obtain rfl:j=L.length:=by omega
    rw [hend.out] at hown
    obtain ⟨Ao,co,rfl⟩:=zAl hown
    clear hol hap
    go_wp2_with (fail)
    go_ret
    exact ⟨_,rfl,hown,hbel⟩
  | succ f=>
    have hki:(j:Int)<(L.length:Int):=by omega
    have hjl:j<L.length:=by omega
    obtain ⟨gl,ol,cl',hle,hgl,hra⟩:=(zAE.links hlok hol).at_ hjl
    injection hle with e1 e2 e3
    subst e1 e3
    obtain ⟨y,hy⟩ : ∃ y,L[j]?=some y:=⟨_,List.getElem?_eq_getElem hjl⟩
    have hyg:L[j]=y:=by rw [List.getElem?_eq_getElem hjl] at hy;injection hy
    rw [hyg] at hra
    have hyok:LinkOk y:=hlok y (List.mem_of_getElem? hy)
    have hyi:y.id.length=32:=hyok
    have hld:(ldvI ⟨gl,ol+j*33,none⟩).run Tryz.prog wr = .ok (.agg (u8s y.id)) wr:=zAb (link_idR hra) hyi
    have hy32:(u8s y.id).size=32:=by rw [zAh,hyi]
    have hy132:(u8s y.id).size=1*32:=hy32
    have hy1 : ∀ u∈(u8s y.id).toList,u.oneCell'=true:=idC_one y.id
    have hle:=keptK_len b L j
    have hmore:b=false∨j=0→Hid (keptK b L (j+1)=keptK b L j++[y.id]):=fun h=>Lib.hid (keptK_more hy h)
    have hless:b=true→0<j→Hid (keptK b L (j+1)=keptK b L j):=fun h h0=>Lib.hid (by rw [h];exact keptK_less h0)
    obtain ⟨T,hT⟩ : ∃ T,keptK b L j=T:=⟨_,rfl⟩
    rw [hT] at hle hmore hless hown
    obtain ⟨Ao,co,rfl⟩:=zAl hown
    have hTk:T.length+1≤9223372036854775807:=by omega
    have hTb:(T.length+1)*32≤140737488355328:=by omega
    have hlen2:Hid ((T++[y.id]).length=T.length+1):=Lib.hid (by rw [List.length_append];rfl)
    have hrow2:Hid (rowsOf idC (T++[y.id])=rowsOf idC T++(u8s y.id).toList):=Lib.hid (by rw [zAo,zAp];rfl)
    clear hy hyg hT hra
    by_cases hsk:b=true∧0<j
    ·have hst:=hless hsk.1 hsk.2
     have hK3:(K==3)=true:=by
      have:=hb.symm.trans hsk.1
      simp only [Bool.and_eq_true,decide_eq_true_eq] at this
      simp [this.1]
     have hbi:bi=true:=by
      have:=hb.symm.trans hsk.1
      simp only [Bool.and_eq_true] at this
      exact this.2
     have hj0:(0:Int)<(j:Int):=by omega
     subst hbi
     clear hmore hless hb hsk
     go_wp2_with (fail)
     go_roundg f
     case rel=>exact ⟨j+1,by go_num,by omega,by rw [hst.out];exact hown,hol,hap,hbel⟩
     case measure=>omega
    ·have hst:=hmore (by
      cases b with
      | false=>exact .inl rfl
      | true=>exact .inr (by have : ¬ 0<j:=fun h=>hsk ⟨rfl,h⟩;omega))
     have hcond:(K==3)=false∨((K==3)=true∧bi=false)∨((K==3)=true∧bi=true ∧ ¬ (0:Int)<(j:Int)):=by
      cases hK:(K==3) with
      | false=>exact .inl rfl
      | true=>
        cases hbv:bi with
        | false=>exact .inr (.inl ⟨rfl,rfl⟩)
        | true=>
          refine .inr (.inr ⟨rfl,rfl,?_⟩)
          have hK2:K=3:=by simpa using hK
          rw [hbv,decide_eq_true hK2] at hb
          have hbt:b=true:=by simpa using hb
          have : ¬ 0<j:=fun h0=>hsk ⟨hbt,h0⟩
          omega
     clear hmore hless hb hsk hkb hend
     rcases hcond with hK3 | ⟨hK3,rfl⟩ | ⟨hK3,rfl,hj0⟩
     ·skip
      go_wp2_with (first
       | ((with_reducible refine zAq (.tmp 41) Tryz.idsTy (u8s y.id) hy32 (by omega) ?_ ?_);rfl)
       | ((with_reducible refine zAn (.tmp 36) (.tmp 42) 1 _ Tryz.idsTy hown (u8s y.id) hy132 hy1 hTk hTb hbs ?_ ?_ ?_);rfl;rfl
          intro v8 w8 ho8 hb8 hg8 hn8))
      have ho9:OwnIds w8 w.heap.size v8 (keptK b L (j+1)):=by rw [hst.out];unfold OwnIds;rw [hlen2.out,hrow2.out];exact ho8
      have hol8:=(Far.of_grown hg8).own hol fun k hk hm=>hap k (List.mem_singleton.1 hm).symm hk
      have hap8:=hap.newer hn8 (own_lt hol)
      clear hown hol hld ho8 hap
      go_roundg f
      case rel=>exact ⟨j+1,by go_num,by omega,ho9,hol8,hap8,hbel.trans hb8⟩
      case measure=>omega
     ·skip
      go_wp2_with (first
       | ((with_reducible refine zAq (.tmp 41) Tryz.idsTy (u8s y.id) hy32 (by omega) ?_ ?_);rfl)
       | ((with_reducible refine zAn (.tmp 36) (.tmp 42) 1 _ Tryz.idsTy hown (u8s y.id) hy132 hy1 hTk hTb hbs ?_ ?_ ?_);rfl;rfl
          intro v8 w8 ho8 hb8 hg8 hn8))
      have ho9:OwnIds w8 w.heap.size v8 (keptK b L (j+1)):=by rw [hst.out];unfold OwnIds;rw [hlen2.out,hrow2.out];exact ho8
      have hol8:=(Far.of_grown hg8).own hol fun k hk hm=>hap k (List.mem_singleton.1 hm).symm hk
      have hap8:=hap.newer hn8 (own_lt hol)
      clear hown hol hld ho8 hap
      go_roundg f
      case rel=>exact ⟨j+1,by go_num,by omega,ho9,hol8,hap8,hbel.trans hb8⟩
      case measure=>omega
     ·skip
      go_wp2_with (first
       | ((with_reducible refine zAq (.tmp 41) Tryz.idsTy (u8s y.id) hy32 (by omega) ?_ ?_);rfl)
       | ((with_reducible refine zAn (.tmp 36) (.tmp 42) 1 _ Tryz.idsTy hown (u8s y.id) hy132 hy1 hTk hTb hbs ?_ ?_ ?_);rfl;rfl
          intro v8 w8 ho8 hb8 hg8 hn8))
      have ho9:OwnIds w8 w.heap.size v8 (keptK b L (j+1)):=by rw [hst.out];unfold OwnIds;rw [hlen2.out,hrow2.out];exact ho8
      have hol8:=(Far.of_grown hg8).own hol fun k hk hm=>hap k (List.mem_singleton.1 hm).symm hk
      have hap8:=hap.newer hn8 (own_lt hol)
      clear hown hol hld ho8 hap
      go_roundg f
      case rel=>exact ⟨j+1,by go_num,by omega,ho9,hol8,hap8,hbel.trans hb8⟩
      case measure=>omega
end
end
theorem bytesLess_at {a b:List UInt8} (k:Nat) (ha:k<a.length) (hb:k<b.length) (he:a.take k=b.take k) (hne:a.getD k 0≠b.getD k 0) :
 Op.bytesLess a b=decide (((a.getD k 0).toNat:Int)<((b.getD k 0).toNat:Int)):=by
 induction k generalizing a b with
 | zero=>
   cases a with
   | nil=>simp at ha
   | cons x a=>
     cases b with
     | nil=>simp at hb
     | cons y b=>
       have hxy:x≠y:=hne
       rw [Op.bytesLess,Bool.eq_iff_iff]
       simp only [Bool.or_eq_true,Bool.and_eq_true,decide_eq_true_eq,beq_iff_eq,hxy,false_and,or_false,List.getD_cons_zero,UInt8.lt_iff_toNat_lt]
       omega
 | succ k ih=>
   cases a with
   | nil=>simp at ha
   | cons x a=>
     cases b with
     | nil=>simp at hb
     | cons y b=>
       simp only [List.take_succ_cons,List.cons.injEq] at he
       obtain ⟨rfl,he⟩:=he
       have:=ih (a:=a) (b:=b) (by simpa using ha) (by simpa using hb) he hne
       rw [Op.bytesLess]
       simp only [List.getD_cons_succ,beq_self_eq_true,Bool.true_and,UInt8.lt_irrefl,decide_false,Bool.false_or]
       exact this
theorem bytesLess_self (a:List UInt8):Op.bytesLess a a=false:=by
 induction a with
 | nil=>rfl
 | cons x a ih=>rw [Op.bytesLess,ih];simp
set_option maxRecDepth 100000 in
set_option maxHeartbeats 1000000 in
theorem less_calls (a b:List UInt8) (ha:a.length=32) (hb:b.length=32) (w:World) :
 Calls Tryz.prog 187 #[.agg (u8s a), .agg (u8s b)] w fun e w'=>e = .returned (.bool (Op.bytesLess a b))∧Below w.heap.size w w':=by
 have h0:Blk ((w.alloc (.cells (u8s a) 53)).alloc (.cells (u8s b) 53)) w.heap.size 53 (u8s a):=(Blk.new w _ _).alloc _
 have h1:Blk ((w.alloc (.cells (u8s a) 53)).alloc (.cells (u8s b) 53)) (w.heap.size+1) 53 (u8s b):=blk_at2 _ _ _ _
 have bb:Below w.heap.size w ((w.alloc (.cells (u8s a) 53)).alloc (.cells (u8s b) 53)):=((Below.refl _ _).alloc (Nat.le_refl _) _).alloc (by simp) _
 have s0:=fun n=>str_of_id _ ha h0 n
 have s1:=fun n=>str_of_id _ hb h1 n
 go_enter Tryz.func187,Tryz.ntmps187
 go_wp2
 go_quiet (fail)
 go_wp2
 go_ret
 exact ⟨rfl,bdrewN bb nq⟩
set_option maxRecDepth 100000 in
set_option maxHeartbeats 1000000 in
theorem zCD (a b:List UInt8) (ha:a.length=32) (hb:b.length=32) (w:World) :
 Calls Tryz.prog 51 #[.agg (u8s a), .agg (u8s b)] w fun e w'=>e = .returned (.bool (Op.bytesLess a b))∧Below w.heap.size w w':=by
 have h0:Blk ((w.alloc (.cells (u8s a) 53)).alloc (.cells (u8s b) 53)) w.heap.size 53 (u8s a):=(Blk.new w _ _).alloc _
 have h1:Blk ((w.alloc (.cells (u8s a) 53)).alloc (.cells (u8s b) 53)) (w.heap.size+1) 53 (u8s b):=blk_at2 _ _ _ _
 have bb:Below w.heap.size w ((w.alloc (.cells (u8s a) 53)).alloc (.cells (u8s b) 53)):=((Below.refl _ _).alloc (Nat.le_refl _) _).alloc (by simp) _
 obtain ⟨r,hr⟩ : ∃ r,Hid (Op.bytesLess a b=r):=⟨_,rfl⟩
 rw [hr.out]
 go_enter Tryz.func51,Tryz.ntmps51
 go_wp2
 go_loopw [5] (fun i wr => ∃ k:Nat,i = .int .i64 k∧k≤32∧Hid (a.take k=b.take k)∧Blk wr w.heap.size 53 (u8s a)∧Blk wr (w.heap.size+1) 53 (u8s b)∧Below w.heap.size w wr) (fun i _=>32-(intOf i).toNat)
 case atStart=>exact ⟨0,rfl,by omega,rfl,h0,h1,bb⟩
 case round=>
  clear h0 h1 bb
  obtain ⟨k,rfl,hk,hek,h0,h1,hbel⟩:=hrel
  have hbs:=h1.lt
  by_cases hlt:k<32
  ·have hki:(k:Int)<32:=by omega
   have hat:=fun hne=>Lib.hid (bytesLess_at k (by omega) (by omega) hek.out (a:=a) (b:=b) hne)
   have hc0:wr.cell? ⟨w.heap.size,k,none⟩=some (.int .u8 ((a.getD k 0).toNat:Nat)):=by rw [h0.cell,u8s_get a k (by omega)]
   have hc1:wr.cell? ⟨w.heap.size+1,k,none⟩=some (.int .u8 ((b.getD k 0).toNat:Nat)):=by rw [h1.cell,u8s_get b k (by omega)]
   have hnx:Hid (a.getD k 0=b.getD k 0→a.take (k+1)=b.take (k+1)):=by
    intro he
    rw [List.take_add_one,List.take_add_one,hek.out]
    congr 1
    simp only [List.getD,List.getElem?_eq_getElem (show k<a.length by omega),List.getElem?_eq_getElem (show k<b.length by omega),Option.getD_some] at he
    rw [List.getElem?_eq_getElem (show k<a.length by omega),List.getElem?_eq_getElem (show k<b.length by omega),he]
   generalize a.getD k 0=x at *
   generalize b.getD k 0=y at *
   by_cases hxy:x=y
   ·have hn:=Lib.hid (hnx.out hxy)
    have hx1:((x.toNat:Int) != (y.toNat:Int))=false:=by rw [hxy];simp
    clear hat hnx hxy
    go_wp2
    go_quiet (fail)
    go_wp2
    go_roundw
    case rel=>exact ⟨k+1,by go_num,by omega,hn,h0.drewN nq,h1.drewN nq,bdrewN hbel nq⟩
    case measure=>simp [intOf];omega
   ·have hx1:((x.toNat:Int) != (y.toNat:Int))=true:=by
     simp only [bne_iff_ne,ne_eq]
     exact fun h=>hxy (UInt8.toNat_inj.1 (by omega))
    have hres:=hat hxy
    have hrr:Hid (r=decide (x.toNat<y.toNat)):=by show _=_;rw [←hr.out,hres.out];exact decide_eq_decide.2 Int.ofNat_lt
    clear hat hnx hxy hres
    go_wp2
    go_quiet (fail)
    have hc0':(wr.drewN nq).cell? ⟨w.heap.size,k,none⟩=some (.int .u8 (x.toNat:Nat)):=hc0
    have hc1':(wr.drewN nq).cell? ⟨w.heap.size+1,k,none⟩=some (.int .u8 (y.toNat:Nat)):=hc1
    have hbel':=bdrewN hbel nq
    clear hc0 hc1 h0 h1 hbel
    generalize wr.drewN nq=wo at *
    go_wp2
    go_quiet (fail)
    go_wp2
    go_ret
    exact ⟨by rw [hrr.out];rfl,bdrewN hbel' nq⟩
  ·have hk32:k=32:=by omega
   have hki : ¬ (k:Int)<32:=by omega
   have hrr:Hid (r=false):=by
    have:=hek.out
    rw [hk32,List.take_of_length_le (by omega),List.take_of_length_le (by omega)] at this
    show _=_
    rw [←hr.out,this,bytesLess_self]
   clear hk32
   go_wp2
   go_ret
   exact ⟨by rw [hrr.out];rfl,hbel⟩
section
attribute [local go_sem ↓] ldvI_eq
theorem keepQ {w W:World} {f:FuncId} {args:Array Value} {v:Value} (h:Calls Tryz.prog f args W fun e w'=>e = .returned v∧Below W.heap.size W w') (hW:Below w.heap.size w W) :
 Calls Tryz.prog f args W fun e w'=>e = .returned v∧Below w.heap.size w w':=h.mono fun _ _ ⟨he,hb⟩=>⟨he,hW.trans (hb.mono hW.size)⟩
theorem idsK {l:List Txt} (h : ∀ x∈l,x.length=32) : ∀ x∈l,(idC x).length=32:=fun x hx=>idC_len (h x hx)
def IdForm (w:World) (base:Nat) (A:Option Addr) (c:Nat) (l:List Txt):Prop:=(A=none∧c=0∧l=[]) ∨ ∃ g,A=some ⟨g,0,none⟩∧base≤g∧Row w g 53 32 idC c l
theorem ids_form {w:World} {base:Nat} {v:Value} {l:List Txt} (hok : ∀ x∈l,x.length=32) (h:OwnIds w base v l) : ∃ A c,v = .slice A l.length c∧IdForm w base A c l:=by
 rcases Row.of_own (idsK hok) h with ⟨rfl,rfl⟩ | ⟨g,cap,rfl,hg,hr⟩
 ·exact ⟨none,0,rfl, .inl ⟨rfl,rfl,rfl⟩⟩
 ·exact ⟨_,cap,rfl, .inr ⟨g,rfl,hg,hr⟩⟩
theorem src_take {w:World} {g c n:Nat} {l:List Txt} (hk : ∀ x∈l,(idC x).length=32) (h:Row w g 53 32 idC c l) (hn:n≤l.length):SrcAt 32 w (.slice (some ⟨g,0,none⟩) n c) n (rowsOf idC (l.take n)):=by
 have hk2 : ∀ x∈l.take n,(idC x).length=32:=fun x hx=>hk x (List.mem_of_mem_take hx)
 have hl:(l.take n).length=n:=by simp;omega
 refine .inl ⟨_,c,rfl,by rw [zAz hk2,hl],?_⟩
 have:=zAI ((h.cut n).range_from hk2 0)
 rwa [Nat.zero_mul] at this
theorem zC1 {w:World} {g c c' n m:Nat} {ad:Addr} {l:List Txt} (hk : ∀ x∈l,(idC x).length=32) (h:Row w g 53 32 idC c l) (had:ad=⟨g,n*32,none⟩∨l.length≤n) (hm:m=l.length-n):SrcAt 32 w (.slice (some ad) m c') m (rowsOf idC (l.drop n)):=by
 subst hm
 have hk2 : ∀ x∈l.drop n,(idC x).length=32:=fun x hx=>hk x (List.mem_of_mem_drop hx)
 refine .inl ⟨_,c',rfl,by rw [zAz hk2,List.length_drop],?_⟩
 rcases had with rfl | he
 ·exact zAI (h.range_from hk n)
 ·intro j u hu
  rw [List.drop_eq_nil_of_le he] at hu
  simp [rowsOf] at hu
set_option maxRecDepth 100000 in
set_option maxHeartbeats 4000000 in
theorem zDp (l:List Txt) (hok : ∀ x∈l,x.length=32) (hbig:l.length≤1000000) (v:Value) (w:World) (hv:Ids w v l) :
 Calls Tryz.prog 26 #[v] w fun e w' => ∃ v',e = .returned v'∧OwnIds w' w.heap.size v' (sortU l)∧Below w.heap.size w w':=by
 obtain ⟨S,hS⟩ : ∃ S,S=sortU l:=⟨_,rfl⟩
 have hfin:Hid (S=sortU (l.take l.length)):=Lib.hid (by rw [hS,List.take_length])
 rw [←hS]
 obtain ⟨A,cap,rfl,hcap1,hcap2,hat⟩:=hv
 clear hS
 go_enter Tryz.func26,Tryz.ntmps26
 go_wp2
 go_loopg [3,4] l.length (fun f vo vi wr => ∃ (k:Nat) (acc:List Txt),vi = .int .i64 k∧k+f≤l.length∧l.length≤k+f∧acc.length≤k∧Hid (acc=sortU (l.take k))∧Hid (∀ x∈acc,x.length=32)∧OwnIds wr w.heap.size vo acc∧Below w.heap.size w wr)
 case atStart=>exact ⟨0,[],rfl,by omega,by omega,by simp,Lib.hid rfl,Lib.hid (fun x hx=>by simp at hx),World.ownsRow_nil _ _ _ _,Below.refl _ _⟩
 case round=>
  obtain ⟨k,acc,rfl,hk1,hk2,hal,hacc,hall,hown,hbel⟩:=hrel
  cases gk with
  | succ f=>
    have hki:(k:Int)<(l.length:Int):=by omega
    obtain ⟨ga,oa,rfl,hga,hca⟩:=hat (by omega)
    obtain ⟨x,hx⟩ : ∃ x,l[k]?=some x:=⟨_,List.getElem?_eq_getElem (by omega)⟩
    have hxi:=hok x (List.mem_of_getElem? hx)
    have hnext:Hid (insU acc x=sortU (l.take (k+1))):=Lib.hid (by rw [sortU_more hx,hacc.out])
    have hnok:Hid (∀ y∈insU acc x,y.length=32):=Lib.hid fun y hy=>by
     rcases insU_mem hy with h | h
     ·exact hall.out y h
     ·rw [h];exact hxi
    have hnl:=insU_len acc x
    have hins:Hid (insU acc x=if freshB acc x (posL acc x acc.length)=true then acc.take (posL acc x acc.length)++[x]++acc.drop (posL acc x acc.length) else acc):=rfl
    have hPle:=posL_le acc x acc.length
    obtain ⟨PP,hPP⟩ : ∃ PP,posL acc x acc.length=PP:=⟨_,rfl⟩
    rw [hPP] at hPle hins
    replace hPP:=Lib.hid hPP
    obtain ⟨fb,hfb⟩ : ∃ fb,Hid (freshB acc x PP=fb):=⟨_,Lib.hid rfl⟩
    rw [hfb.out] at hins
    generalize insU acc x=NX at *
    have hlx : ∀ W,Below wr.heap.size wr W→(ldvI ⟨ga,oa+k*32,none⟩).run Tryz.prog W = .ok (.agg (u8s x)) W:=fun W hW=>by
     have hr:=zAc (hca k x hx) hga (hbel.trans (hW.mono hbel.size))
     exact zAb (show World.rangeAt W ga (oa+k*32) (u8s x).toList from hr) hxi
    obtain ⟨A3,c3,rfl,hform⟩:=ids_form hall.out hown
    have hlo:Hid (∀ m y,acc[m]?=some y → ∃ g3,A3=some ⟨g3,0,none⟩ ∧ ∀ W,Below wr.heap.size wr W→(ldvI ⟨g3,m*32,none⟩).run Tryz.prog W = .ok (.agg (u8s y)) W):=Lib.hid fun m y hy=>by
     rcases hform with ⟨_,_,rfl⟩ | ⟨g3,h1,h2,hr⟩
     ·simp at hy
     ·refine ⟨g3,h1,fun W hW=>?_⟩
      have hr2:=(hr.below hW).at_ m y hy
      exact zAb (show World.rangeAt W g3 (m*32) (u8s y).toList from hr2) (hall.out y (List.mem_of_getElem? hy))
    replace hform:=Lib.hid hform
    clear hx hca hat hok
    rename World=>wo
    go_upto_block 2 with (fail)
    go_cut [5] from 6 to 58 (fun s5 wx=>s5 = .int .i64 PP∧Below wo.heap.size wo wx)
    case first=>
     clear hfb hins hnext hnok hform hown hk1 hk2
     go_wp2_with (fail)
     go_loopg [5] acc.length (fun f vm wq=>vm = .int .i64 f∧f≤acc.length∧Hid (posL acc x f=PP)∧Below wo.heap.size wo wq)
     case atStart=>exact ⟨rfl,Nat.le_refl _,hPP,Below.refl _ _⟩
     case round=>
      obtain ⟨rfl,hm,hpm,hbq⟩:=hrel
      clear hPP
      cases gk with
      | zero=>
        obtain rfl:0=PP:=by rw [←hpm.out];rfl
        clear hpm hlx hlo
        go_simp
        go_step
        go_step
        refine zAe (C:=fun W=>Below wo.heap.size wo W) (by kernel_rfl) (by kernel_rfl) hbq.drew ?_
        repeat
         first
          | ((with_reducible refine zAm ?_ ?_)
             ·(go_simp;done)
             apply Exists.intro
             refine ⟨fun W hW=>?_,?_⟩
             ·first
               | (go_simp
                  rfl)
             simp only [Act.put,zA,zB,zC])
          | ((with_reducible refine zAj ?_ ?_)
             ·(first | rfl | (go_simp;done))
             simp only [Act.put,zA,zB,zC])
        with_reducible refine wpQuiet_nil ?_
        intro w5 hW5
        go_wp2_with (fail)
        go_meet
        case rel=>exact ⟨rfl,hW5⟩
      | succ m=>
        obtain ⟨y,hy⟩ : ∃ y,acc[m]?=some y:=⟨_,List.getElem?_eq_getElem (by omega)⟩
        have hyi:=hall.out y (List.mem_of_getElem? hy)
        obtain ⟨g3,rfl,hly⟩:=hlo.out m y hy
        have hyx:Hid (posL acc x (m+1)=if Op.bytesLess x y=true then posL acc x m else m+1):=Lib.hid (by rw [posL,List.getD_eq_getElem?_getD,hy];rfl)
        have hls:=fun W=>zCD x y hxi hyi W
        generalize Op.bytesLess x y=b at *
        have hmi:(m:Int)<(acc.length:Int):=by omega
        have hw1:IntKind.i64.wrap ((m:Nat):Int)=(m:Int):=IntWalk.i64_in _ (by omega)
        clear hy hlo
        go_simp
        go_step
        go_step
        refine zAe (C:=fun W=>Below wo.heap.size wo W) (by kernel_rfl) (by kernel_rfl) hbq.drew ?_
        repeat
         first
          | ((with_reducible refine zAm ?_ ?_)
             ·(go_simp;done)
             apply Exists.intro
             refine ⟨fun W hW=>?_,?_⟩
             ·first
               | (have q0:=hlx W hW
                  have q1:=hly W hW
                  have q2:=hls W
                  go_simp
                  first
                   | rfl
                   | (with_reducible exact keepQ q2 hW))
             simp only [Act.put,zA,zB,zC])
          | ((with_reducible refine zAj ?_ ?_)
             ·(first | rfl | (go_simp;done))
             simp only [Act.put,zA,zB,zC])
        with_reducible refine wpQuiet_nil ?_
        intro w5 hW5
        cases b
        ·obtain rfl:m+1=PP:=by rw [←hpm.out,hyx.out];rfl
         clear hpm hyx hls hly hlx
         go_wp2_with (fail)
         go_meet
         case rel=>exact ⟨rfl,hW5⟩
        ·have hpm2:Hid (posL acc x m=PP):=Lib.hid (by rw [←hpm.out,hyx.out];rfl)
         clear hpm hyx hls hly hlx
         go_wp2_with (fail)
         go_roundg m
         case rel=>exact ⟨by go_num,by omega,hpm2,hW5⟩
         case measure=>omega
    case rest=>
     obtain ⟨rfl,hbc⟩:=hcut
     clear hPP
     go_upto_region 8 with (fail)
     go_cut [5,43] from 6 to 58 (fun s5 s43 wx=>s5 = .int .i64 PP∧s43 = .bool fb∧Below wo.heap.size wo wx)
     case first=>
      clear hins hnext hnok hform hown hk1 hk2
      cases PP with
      | zero=>
        obtain rfl:true=fb:=hfb.out
        clear hfb hlx hlo
        refine zAe (C:=fun W=>Below wo.heap.size wo W) (by kernel_rfl) (by kernel_rfl) hbc.drew ?_
        repeat
         first
          | ((with_reducible refine zAm ?_ ?_)
             ·(go_simp;done)
             apply Exists.intro
             refine ⟨fun W hW=>?_,?_⟩
             ·first
               | (go_simp
                  rfl)
             simp only [Act.put,zA,zB,zC])
          | ((with_reducible refine zAj ?_ ?_)
             ·(first | rfl | (go_simp;done))
             simp only [Act.put,zA,zB,zC])
        with_reducible refine wpQuiet_nil ?_
        intro w5 hW5
        go_wp2_with (fail)
        go_meet
        case rel=>exact ⟨rfl,rfl,hW5⟩
      | succ p=>
        obtain ⟨y,hy⟩ : ∃ y,acc[p]?=some y:=⟨_,List.getElem?_eq_getElem (by omega)⟩
        have hyi:=hall.out y (List.mem_of_getElem? hy)
        obtain ⟨g3,rfl,hly⟩:=hlo.out p y hy
        have hyx:fb = !decide (y=x):=by rw [←hfb.out,freshB,List.getD_eq_getElem?_getD,hy];rfl
        have heq:=fun W=>zEd W y x hyi hxi
        rw [←hyx] at heq
        have hmi:(p:Int)<(acc.length:Int):=by omega
        have hw1:IntKind.i64.wrap ((p:Nat):Int)=(p:Int):=IntWalk.i64_in _ (by omega)
        have hp1:(((p+1:Nat):Int)==0)=false:=by simp;omega
        have hp2:((p:Int)+1==0)=false:=by simp;omega
        clear hy hlo hfb hyx
        refine zAe (C:=fun W=>Below wo.heap.size wo W) (by kernel_rfl) (by kernel_rfl) hbc.drew ?_
        repeat
         first
          | ((with_reducible refine zAm ?_ ?_)
             ·(go_simp;done)
             apply Exists.intro
             refine ⟨fun W hW=>?_,?_⟩
             ·first
               | (have q0:=hlx W hW
                  have q1:=hly W hW
                  have q2:=heq W
                  go_simp
                  first
                   | rfl
                   | (simp only [Sem.run_bind,run_eqGuard_agg _ _ _ _ _ _ _ Tryz.eqGuardType53,q2,Result.andThen_ok];rfl))
             simp only [Act.put,zA,zB,zC])
          | ((with_reducible refine zAj ?_ ?_)
             ·(first | rfl | (go_simp;done))
             simp only [Act.put,zA,zB,zC])
        with_reducible refine wpQuiet_nil ?_
        intro w5 hW5
        go_wp2_with (fail)
        go_meet
        case rel=>exact ⟨rfl,rfl,hW5⟩
     case rest=>
      obtain ⟨rfl,rfl,hb8⟩:=hcut
      clear hfb hlo hbc
      cases fb with
      | false=>
        have hNX:NX=acc:=by simpa using hins.out
        rw [hNX] at hnext hnok
        have hown2:=zAd hown hb8
        have hbel2:=hbel.trans (hb8.mono hbel.size)
        clear hins hlx hform hown
        go_wp2_with (fail)
        go_roundg f
        case rel=>exact ⟨k+1,acc,by go_num,by omega,by omega,by omega,hnext,hnok,hown2,hbel2⟩
        case measure=>omega
      | true=>
        have hNX:NX=acc.take PP++[x]++acc.drop PP:=by simpa using hins.out
        have hNl:NX.length=0+PP+1+(acc.length-PP):=by rw [hNX];simp only [List.length_append,List.length_take,List.length_drop,List.length_singleton];omega
        have hrow:Hid (rowsOf idC (acc.take PP)++idC x++rowsOf idC (acc.drop PP)=rowsOf idC NX):=by show _=_;rw [hNX,zAo,zAo,zAp]
        have hbel8:=hbel.trans (hb8.mono hbel.size)
        have hidx:(idC x).length=32:=idC_len hxi
        have hk32:=idsK hall.out
        replace hNl:=Lib.hid hNl
        clear hown hins hNX
        rcases hform.out with ⟨rfl,rfl,rfl⟩ | ⟨g3,rfl,hg3,hr3⟩
        ·obtain rfl:PP=0:=by simpa using hPle
         clear hform
         go_upto_region 9 with (fail)
         refine zAr 16 (by kernel_rfl) (by kernel_rfl) (by kernel_rfl) (by kernel_rfl) ?_
         simp only [exSp]
         iterate 16 apply Exists.intro
         repeat
          first
           | ((with_reducible apply lx0_ex)
              ·(go_simp;done)
              apply Exists.intro
              apply And.intro
              ·apply Eq.refl
              apply And.intro
              ·intro W hW hD
               have q1:=hlx W (hb8.trans (hW.mono hb8.size))
               go_simp
               rfl
              simp only [Act.put,zA,zB,zC])
           | ((with_reducible apply zAJ)
              ·(first | rfl | (go_simp;done))
              ·apply Eq.refl
              simp only [Act.put,zA,zB,zC])
           | (first | (with_reducible apply zBc) | (with_reducible apply zAK)
              ·apply Eq.refl
              apply Exists.intro
              apply And.intro
              ·(go_simp;rfl)
              simp only [Act.put,zA,zB,zC])
           | ((with_reducible apply zDD Tryz.idsTy)
              ·apply Eq.refl
              intro v
              simp only [Act.put,zA,zB,zC])
           | ((with_reducible apply zCW Tryz.idsTy (fun cs=>cs=u8s x) (by omega))
              ·apply Eq.refl
              apply Exists.intro
              apply And.intro
              ·(go_simp;rfl)
              refine ⟨fun W hF hD=>?_,?_⟩
              ·exact ⟨u8s x,rfl,by rw [zAh,hxi],rfl⟩
              intro v
              simp only [Act.put,zA,zB,zC])
           | ((with_reducible apply lx_appC Tryz.idsTy 0 0 0 (fun xs=>xs=[]) (fun xs=>xs=rowsOf idC (([]:List Txt).take 0)) (by omega) (by omega) zBa (by kernel_rfl) (by kernel_rfl) [] (fun q hq=>absurd hq (List.not_mem_nil)))
              ·apply Eq.refl
              apply Exists.intro
              apply Exists.intro
              apply And.intro
              ·(go_simp;rfl)
              apply And.intro
              ·(go_simp;rfl)
              refine ⟨(by first | exact List.Mem.head _ | exact List.Mem.tail _ (List.Mem.head _) | exact List.Mem.tail _ (List.Mem.tail _ (List.Mem.head _)) | exact List.Mem.tail _ (List.Mem.tail _ (List.Mem.tail _ (List.Mem.head _)))),fun W hF hD=>?_,?_⟩
              ·first
                | exact ⟨_,src_take hk32 (hr3.below (far_nil hF)) hPle,zAH fun x _=>idC_one x,by rintro _ rfl;rfl⟩
                | exact ⟨[], .inr ⟨0,rfl,rfl,rfl⟩,fun u hu=>by simp at hu,by rintro _ rfl;rfl⟩
              intro v
              simp only [Act.put,zA,zB,zC])
           | ((with_reducible apply lx_appC Tryz.idsTy 4 (0+0) 1 (fun xs=>xs=rowsOf idC (([]:List Txt).take 0)) (fun xs=>xs=rowsOf idC (([]:List Txt).take 0)++idC x) (by omega) (by omega) zBa (by kernel_rfl) (by kernel_rfl) [] (fun q hq=>absurd hq (List.not_mem_nil)))
              ·apply Eq.refl
              apply Exists.intro
              apply Exists.intro
              apply And.intro
              ·(go_simp;rfl)
              apply And.intro
              ·(go_simp;rfl)
              refine ⟨(by first | exact List.Mem.head _ | exact List.Mem.tail _ (List.Mem.head _) | exact List.Mem.tail _ (List.Mem.tail _ (List.Mem.head _)) | exact List.Mem.tail _ (List.Mem.tail _ (List.Mem.tail _ (List.Mem.head _)))),fun W hF hD=>?_,?_⟩
              ·obtain ⟨F,g5,cs,rfl,_,hk5,rfl⟩:=hD.at 0 rfl (by kernel_rfl)
               refine ⟨idC x, .inl ⟨_,1,rfl,by rw [hidx],zAI (zAk hk5)⟩,idC_one x,?_⟩
               rintro _ rfl
               rfl
              intro v
              simp only [Act.put,zA,zB,zC])
           | ((with_reducible apply lx_appC Tryz.idsTy 10 (0+0+1) (([]:List Txt).length-0) (fun xs=>xs=rowsOf idC (([]:List Txt).take 0)++idC x) (fun xs=>xs=rowsOf idC (([]:List Txt).take 0)++idC x++rowsOf idC (([]:List Txt).drop 0)) (by omega) (by omega) zBa (by kernel_rfl) (by kernel_rfl) [] (fun q hq=>absurd hq (List.not_mem_nil)))
              ·apply Eq.refl
              apply Exists.intro
              apply Exists.intro
              apply And.intro
              ·(go_simp;rfl)
              apply And.intro
              ·(go_simp;rfl)
              refine ⟨(by first | exact List.Mem.head _ | exact List.Mem.tail _ (List.Mem.head _) | exact List.Mem.tail _ (List.Mem.tail _ (List.Mem.head _)) | exact List.Mem.tail _ (List.Mem.tail _ (List.Mem.tail _ (List.Mem.head _)))),fun W hF hD=>?_,?_⟩
              ·first
                | exact ⟨_,zC1 hk32 (hr3.below (far_nil hF)) (.inl rfl) rfl,zAH fun x _=>idC_one x,by rintro _ rfl;rfl⟩
                | exact ⟨_,zC1 hk32 (hr3.below (far_nil hF)) (.inr (by omega)) (by omega),zAH fun x _=>idC_one x,by rintro _ rfl;rfl⟩
                | exact ⟨[], .inr ⟨0,rfl,rfl,rfl⟩,fun u hu=>by simp at hu,by rintro _ rfl;rfl⟩
              intro v
              simp only [Act.put,zA,zB,zC])
         refine lx0_nil ?_ fun w5 hW5 hD5=>?_
         ·exact List.nodup_nil
         obtain ⟨F5,xs5,rfl,ho5,_⟩:=hD5 _ (.head _)
         have hown5:OwnIds w5 w.heap.size v NX:=by
          unfold OwnIds
          rw [hNl.out,←hrow.out]
          exact zAx ho5 hbel8.size
         have hbel5:=hbel8.trans (hW5.mono hbel8.size)
         clear ho5 hD5 hlx
         go_wp2_with (fail)
         go_roundg f
         case rel=>exact ⟨k+1,NX,by go_num,by omega,by omega,by omega,hnext,hnok,hown5,hbel5⟩
         case measure=>omega
        ·replace hr3:=hr3.below hb8
         have hcl:=hr3.le
         have hc63:=hr3.top63
         have hPi:(PP:Int)≤(acc.length:Int):=by omega
         by_cases hcP:c3=PP
         ·replace hcP:=hcP.symm
          subst hcP
          clear hform
          go_upto_region 9 with (fail)
          refine zAr 16 (by kernel_rfl) (by kernel_rfl) (by kernel_rfl) (by kernel_rfl) ?_
          simp only [exSp]
          iterate 16 apply Exists.intro
          repeat
           first
            | ((with_reducible apply lx0_ex)
               ·(go_simp;done)
               apply Exists.intro
               apply And.intro
               ·apply Eq.refl
               apply And.intro
               ·intro W hW hD
                have q1:=hlx W (hb8.trans (hW.mono hb8.size))
                go_simp
                rfl
               simp only [Act.put,zA,zB,zC])
            | ((with_reducible apply zAJ)
               ·(first | rfl | (go_simp;done))
               ·apply Eq.refl
               simp only [Act.put,zA,zB,zC])
            | (first | (with_reducible apply zBc) | (with_reducible apply zAK)
               ·apply Eq.refl
               apply Exists.intro
               apply And.intro
               ·(go_simp;rfl)
               simp only [Act.put,zA,zB,zC])
            | ((with_reducible apply zDD Tryz.idsTy)
               ·apply Eq.refl
               intro v
               simp only [Act.put,zA,zB,zC])
            | ((with_reducible apply zCW Tryz.idsTy (fun cs=>cs=u8s x) (by omega))
               ·apply Eq.refl
               apply Exists.intro
               apply And.intro
               ·(go_simp;rfl)
               refine ⟨fun W hF hD=>?_,?_⟩
               ·exact ⟨u8s x,rfl,by rw [zAh,hxi],rfl⟩
               intro v
               simp only [Act.put,zA,zB,zC])
            | ((with_reducible apply lx_appC Tryz.idsTy 0 0 PP (fun xs=>xs=[]) (fun xs=>xs=rowsOf idC (acc.take PP)) (by omega) (by omega) zBa (by kernel_rfl) (by kernel_rfl) [] (fun q hq=>absurd hq (List.not_mem_nil)))
               ·apply Eq.refl
               apply Exists.intro
               apply Exists.intro
               apply And.intro
               ·(go_simp;rfl)
               apply And.intro
               ·(go_simp;rfl)
               refine ⟨(by first | exact List.Mem.head _ | exact List.Mem.tail _ (List.Mem.head _) | exact List.Mem.tail _ (List.Mem.tail _ (List.Mem.head _)) | exact List.Mem.tail _ (List.Mem.tail _ (List.Mem.tail _ (List.Mem.head _)))),fun W hF hD=>?_,?_⟩
               ·first
                 | exact ⟨_,src_take hk32 (hr3.below (far_nil hF)) hPle,zAH fun x _=>idC_one x,by rintro _ rfl;rfl⟩
                 | exact ⟨[], .inr ⟨0,rfl,rfl,rfl⟩,fun u hu=>by simp at hu,by rintro _ rfl;rfl⟩
               intro v
               simp only [Act.put,zA,zB,zC])
            | ((with_reducible apply lx_appC Tryz.idsTy 4 (0+PP) 1 (fun xs=>xs=rowsOf idC (acc.take PP)) (fun xs=>xs=rowsOf idC (acc.take PP)++idC x) (by omega) (by omega) zBa (by kernel_rfl) (by kernel_rfl) [] (fun q hq=>absurd hq (List.not_mem_nil)))
               ·apply Eq.refl
               apply Exists.intro
               apply Exists.intro
               apply And.intro
               ·(go_simp;rfl)
               apply And.intro
               ·(go_simp;rfl)
               refine ⟨(by first | exact List.Mem.head _ | exact List.Mem.tail _ (List.Mem.head _) | exact List.Mem.tail _ (List.Mem.tail _ (List.Mem.head _)) | exact List.Mem.tail _ (List.Mem.tail _ (List.Mem.tail _ (List.Mem.head _)))),fun W hF hD=>?_,?_⟩
               ·obtain ⟨F,g5,cs,rfl,_,hk5,rfl⟩:=hD.at 0 rfl (by kernel_rfl)
                refine ⟨idC x, .inl ⟨_,1,rfl,by rw [hidx],zAI (zAk hk5)⟩,idC_one x,?_⟩
                rintro _ rfl
                rfl
               intro v
               simp only [Act.put,zA,zB,zC])
            | ((with_reducible apply lx_appC Tryz.idsTy 10 (0+PP+1) 0 (fun xs=>xs=rowsOf idC (acc.take PP)++idC x) (fun xs=>xs=rowsOf idC (acc.take PP)++idC x++rowsOf idC (acc.drop PP)) (by omega) (by omega) zBa (by kernel_rfl) (by kernel_rfl) [] (fun q hq=>absurd hq (List.not_mem_nil)))
               ·apply Eq.refl
               apply Exists.intro
               apply Exists.intro
               apply And.intro
               ·(go_simp;rfl)
               apply And.intro
               ·(go_simp;rfl)
               refine ⟨(by first | exact List.Mem.head _ | exact List.Mem.tail _ (List.Mem.head _) | exact List.Mem.tail _ (List.Mem.tail _ (List.Mem.head _)) | exact List.Mem.tail _ (List.Mem.tail _ (List.Mem.tail _ (List.Mem.head _)))),fun W hF hD=>?_,?_⟩
               ·first
                 | exact ⟨_,zC1 hk32 (hr3.below (far_nil hF)) (.inl rfl) rfl,zAH fun x _=>idC_one x,by rintro _ rfl;rfl⟩
                 | exact ⟨_,zC1 hk32 (hr3.below (far_nil hF)) (.inr (by omega)) (by omega),zAH fun x _=>idC_one x,by rintro _ rfl;rfl⟩
                 | exact ⟨[], .inr ⟨0,rfl,rfl,rfl⟩,fun u hu=>by simp at hu,by rintro _ rfl;rfl⟩
               intro v
               simp only [Act.put,zA,zB,zC])
          refine lx0_nil ?_ fun w5 hW5 hD5=>?_
          ·exact List.nodup_nil
          obtain ⟨F5,xs5,rfl,ho5,_⟩:=hD5 _ (.head _)
          have hown5:OwnIds w5 w.heap.size v NX:=by
           unfold OwnIds
           rw [hNl.out,←hrow.out,show acc.length-PP=0 from by omega]
           exact zAx ho5 hbel8.size
          have hbel5:=hbel8.trans (hW5.mono hbel8.size)
          clear ho5 hD5 hlx
          go_wp2_with (fail)
          go_roundg f
          case rel=>exact ⟨k+1,NX,by go_num,by omega,by omega,by omega,hnext,hnok,hown5,hbel5⟩
          case measure=>omega
         ·have hPc:(PP:Int)≤(c3:Int):=by omega
          clear hform
          go_upto_region 9 with (fail)
          refine zAr 16 (by kernel_rfl) (by kernel_rfl) (by kernel_rfl) (by kernel_rfl) ?_
          simp only [exSp]
          iterate 16 apply Exists.intro
          repeat
           first
            | ((with_reducible apply lx0_ex)
               ·(go_simp;done)
               apply Exists.intro
               apply And.intro
               ·apply Eq.refl
               apply And.intro
               ·intro W hW hD
                have q1:=hlx W (hb8.trans (hW.mono hb8.size))
                go_simp
                rfl
               simp only [Act.put,zA,zB,zC])
            | ((with_reducible apply zAJ)
               ·(first | rfl | (go_simp;done))
               ·apply Eq.refl
               simp only [Act.put,zA,zB,zC])
            | (first | (with_reducible apply zBc) | (with_reducible apply zAK)
               ·apply Eq.refl
               apply Exists.intro
               apply And.intro
               ·(go_simp;rfl)
               simp only [Act.put,zA,zB,zC])
            | ((with_reducible apply zDD Tryz.idsTy)
               ·apply Eq.refl
               intro v
               simp only [Act.put,zA,zB,zC])
            | ((with_reducible apply zCW Tryz.idsTy (fun cs=>cs=u8s x) (by omega))
               ·apply Eq.refl
               apply Exists.intro
               apply And.intro
               ·(go_simp;rfl)
               refine ⟨fun W hF hD=>?_,?_⟩
               ·exact ⟨u8s x,rfl,by rw [zAh,hxi],rfl⟩
               intro v
               simp only [Act.put,zA,zB,zC])
            | ((with_reducible apply lx_appC Tryz.idsTy 0 0 PP (fun xs=>xs=[]) (fun xs=>xs=rowsOf idC (acc.take PP)) (by omega) (by omega) zBa (by kernel_rfl) (by kernel_rfl) [] (fun q hq=>absurd hq (List.not_mem_nil)))
               ·apply Eq.refl
               apply Exists.intro
               apply Exists.intro
               apply And.intro
               ·(go_simp;rfl)
               apply And.intro
               ·(go_simp;rfl)
               refine ⟨(by first | exact List.Mem.head _ | exact List.Mem.tail _ (List.Mem.head _) | exact List.Mem.tail _ (List.Mem.tail _ (List.Mem.head _)) | exact List.Mem.tail _ (List.Mem.tail _ (List.Mem.tail _ (List.Mem.head _)))),fun W hF hD=>?_,?_⟩
               ·first
                 | exact ⟨_,src_take hk32 (hr3.below (far_nil hF)) hPle,zAH fun x _=>idC_one x,by rintro _ rfl;rfl⟩
                 | exact ⟨[], .inr ⟨0,rfl,rfl,rfl⟩,fun u hu=>by simp at hu,by rintro _ rfl;rfl⟩
               intro v
               simp only [Act.put,zA,zB,zC])
            | ((with_reducible apply lx_appC Tryz.idsTy 4 (0+PP) 1 (fun xs=>xs=rowsOf idC (acc.take PP)) (fun xs=>xs=rowsOf idC (acc.take PP)++idC x) (by omega) (by omega) zBa (by kernel_rfl) (by kernel_rfl) [] (fun q hq=>absurd hq (List.not_mem_nil)))
               ·apply Eq.refl
               apply Exists.intro
               apply Exists.intro
               apply And.intro
               ·(go_simp;rfl)
               apply And.intro
               ·(go_simp;rfl)
               refine ⟨(by first | exact List.Mem.head _ | exact List.Mem.tail _ (List.Mem.head _) | exact List.Mem.tail _ (List.Mem.tail _ (List.Mem.head _)) | exact List.Mem.tail _ (List.Mem.tail _ (List.Mem.tail _ (List.Mem.head _)))),fun W hF hD=>?_,?_⟩
               ·obtain ⟨F,g5,cs,rfl,_,hk5,rfl⟩:=hD.at 0 rfl (by kernel_rfl)
                refine ⟨idC x, .inl ⟨_,1,rfl,by rw [hidx],zAI (zAk hk5)⟩,idC_one x,?_⟩
                rintro _ rfl
                rfl
               intro v
               simp only [Act.put,zA,zB,zC])
            | ((with_reducible apply lx_appC Tryz.idsTy 10 (0+PP+1) (acc.length-PP) (fun xs=>xs=rowsOf idC (acc.take PP)++idC x) (fun xs=>xs=rowsOf idC (acc.take PP)++idC x++rowsOf idC (acc.drop PP)) (by omega) (by omega) zBa (by kernel_rfl) (by kernel_rfl) [] (fun q hq=>absurd hq (List.not_mem_nil)))
               ·apply Eq.refl
               apply Exists.intro
               apply Exists.intro
               apply And.intro
               ·(go_simp;rfl)
               apply And.intro
               ·(go_simp;rfl)
               refine ⟨(by first | exact List.Mem.head _ | exact List.Mem.tail _ (List.Mem.head _) | exact List.Mem.tail _ (List.Mem.tail _ (List.Mem.head _)) | exact List.Mem.tail _ (List.Mem.tail _ (List.Mem.tail _ (List.Mem.head _)))),fun W hF hD=>?_,?_⟩
               ·first
                 | exact ⟨_,zC1 hk32 (hr3.below (far_nil hF)) (.inl rfl) rfl,zAH fun x _=>idC_one x,by rintro _ rfl;rfl⟩
                 | exact ⟨_,zC1 hk32 (hr3.below (far_nil hF)) (.inr (by omega)) (by omega),zAH fun x _=>idC_one x,by rintro _ rfl;rfl⟩
                 | exact ⟨[], .inr ⟨0,rfl,rfl,rfl⟩,fun u hu=>by simp at hu,by rintro _ rfl;rfl⟩
               intro v
               simp only [Act.put,zA,zB,zC])
          refine lx0_nil ?_ fun w5 hW5 hD5=>?_
          ·exact List.nodup_nil
          obtain ⟨F5,xs5,rfl,ho5,_⟩:=hD5 _ (.head _)
          have hown5:OwnIds w5 w.heap.size v NX:=by
           unfold OwnIds
           rw [hNl.out,←hrow.out]
           exact zAx ho5 hbel8.size
          have hbel5:=hbel8.trans (hW5.mono hbel8.size)
          clear ho5 hD5 hlx
          go_wp2_with (fail)
          go_roundg f
          case rel=>exact ⟨k+1,NX,by go_num,by omega,by omega,by omega,hnext,hnok,hown5,hbel5⟩
          case measure=>omega
  | zero=>
    have hki : ¬ (k:Int)<(l.length:Int):=by omega
    have hkl:k=l.length:=by omega
    subst hkl
    go_wp2_with (fail)
    go_ret
    refine ⟨_,rfl,?_,hbel⟩
    rw [hfin.out,←hacc.out]
    exact hown
end
section
attribute [local go_sem ↓] ldvI_eq
structure TwoC (w:World) (ga oa gb ob:Nat) (x:Txt) (w':World):Prop where
 a_:w'.rangeAt ga oa (idC x)
 b_:w'.rangeAt gb ob (idC x)
 bel:Below w.heap.size w w'
theorem TwoC.drew {w:World} {ga oa gb ob:Nat} {x:Txt} {w':World} (h:TwoC w ga oa gb ob x w'):TwoC w ga oa gb ob x w'.drew:=⟨h.a_,h.b_,h.bel.drew⟩
theorem quiet_neq_idC {C:World→Prop} {W:World} {a:Act} {d:Option Tmp} {rt t':TypeId} {pos:String} {af:Array Edge} {gd:Option (Nat×Bool)} {x y:Operand} (p:Txt) (hp:p.length=32)
 (hx:a.eval x = .agg (idC p).toArray) (hy:a.eval y = .agg (idC p).toArray):Oper.quietUpon Tryz.prog C W (.bool false) ((execOp a.eval { dst:=d,op := .binOp .neq 53 x y t',type:=rt,pos:=pos,after:=af,guard:=gd }).run Tryz.prog W):=by
 have e:(idC p).toArray=u8s p:=by simp [idC]
 rw [e] at hx hy
 unfold execOp
 simp only [hx,hy,Sem.run_bind,run_eqGuard_agg _ _ _ _ _ _ _ Tryz.eqGuardType53,zEd W p p hp hp,Result.andThen_ok,decide_true,Bool.not_true]
 exact ⟨rfl,rfl⟩
set_option maxRecDepth 100000 in
set_option maxHeartbeats 2000000 in
theorem refSame02_calls (l:List Txt) (hok : ∀ x∈l,x.length=32) (va vb:Value) (w:World) (ha:Ids w va l) (hb:Ids w vb l) :
 Calls Tryz.prog 8 #[va,vb] w fun e w'=>e = .returned (.bool true)∧Below w.heap.size w w':=by
 have hla:=ha.len
 obtain ⟨A,capa,rfl,ha1,ha2,hata⟩:=ha
 obtain ⟨B',capb,rfl,hb1,hb2,hatb⟩:=hb
 go_enter Tryz.func8,Tryz.ntmps8
 go_wp2
 go_loopw [5] (fun i wr => ∃ k:Nat,i = .int .i64 k∧k≤l.length∧Below w.heap.size w wr) (fun i _=>l.length-(intOf i).toNat)
 case atStart=>exact ⟨0,rfl,by omega,Below.refl _ _⟩
 case round=>
  obtain ⟨k,rfl,hk,hbel⟩:=hrel
  by_cases hlt:k<l.length
  ·have hki:(k:Int)<(l.length:Int):=by omega
   obtain ⟨ga,oa,rfl,hga,hca⟩:=hata (by omega)
   obtain ⟨gb,ob,rfl,hgb,hcb⟩:=hatb (by omega)
   obtain ⟨x,hx⟩ : ∃ x,l[k]?=some x:=⟨_,List.getElem?_eq_getElem hlt⟩
   have hxok:=hok x (List.mem_of_getElem? hx)
   have hS:TwoC w ga (oa+k*32) gb (ob+k*32) x wr:=⟨zAc (hca k x hx) hga hbel,zAc (hcb k x hx) hgb hbel,hbel⟩
   have hsz:(Tryz.prog.info? 53).map (·.size)=some (idC x).length:=by rw [idC_len hxok];exact sz32
   clear hx hata hatb hca hcb hbel hok
   go_wp2
   refine zAe (C:=TwoC w ga (oa+k*32) gb (ob+k*32) x) (by kernel_rfl) (by kernel_rfl) hS.drew ?_
   repeat
    first
     | ((with_reducible refine zAm ?_ ?_)
        ·(go_simp;done)
        apply Exists.intro
        refine ⟨fun W hW=>?_,?_⟩
        ·first
          | exact zAB _ _ rfl ga (oa+k*32) rfl (idC x) _ hW.a_ Tryz.underlying53 rfl hsz rfl
          | exact zAB _ _ rfl gb (ob+k*32) rfl (idC x) _ hW.b_ Tryz.underlying53 rfl hsz rfl
          | ((with_reducible refine quiet_neq_idC x hxok ?_ ?_)<;>rfl)
          | (go_simp
             first
              | rfl)
        simp only [Act.put,zA,zB,zC])
     | ((with_reducible refine zAj ?_ ?_)
        ·(first | rfl | (go_simp;done))
        simp only [Act.put,zA,zB,zC])
   with_reducible refine wpQuiet_nil ?_
   intro w5 hW5
   go_wp2
   go_roundw
   case rel=>exact ⟨k+1,by go_num,by omega,hW5.bel⟩
   case measure=>simp [intOf];omega
  ·have hki : ¬ (k:Int)<(l.length:Int):=by omega
   go_wp2
   go_ret
   exact ⟨rfl,hbel⟩
end
section
attribute [local go_sem ↓] ldvI_eq
end
end Go.Proofs.YtbcbmjdmlcldjaaGreatDoor
namespace Go.Proofs.YtbcbmjdmlcldjaaGreatDoor
def figN (c:UInt8):Nat:=if 48≤c.toNat∧c.toNat≤57 then c.toNat-48 else if 97≤c.toNat∧c.toNat≤102 then c.toNat-87 else 16
def fg (s:List UInt8) (i:Nat):Nat:=figN (s.getD i 0)
def Figs (s:List UInt8) (i:Nat):Prop := ∀ j,j<i→fg s j<16
theorem Figs.step {s:List UInt8} {i:Nat} (h:Figs s i) (hi:fg s i<16):Figs s (i+1):=fun j hj=>by
 rcases Nat.lt_or_ge j i with h1 | h1
 ·exact h j h1
 ·rw [show j=i from by omega];exact hi
end Go.Proofs.YtbcbmjdmlcldjaaGreatDoor
namespace Go.Proofs.YtbcbmjdmlcldjaaGreatDoor
open Go.RowKit
theorem zBn {P:Program} {fn:Func} {p q r:Tmp} {ty ty':TypeId} (h:fn.results = #[.cell p ty, .cell q ty', .tmp r]) (tmps:Array Value) (w:World) (g g':Nat) (t t':TypeId) (cs cs':Array Value) (fr fr':Nat×Nat) (d d':TypeDesc)
 (hp:tmps.getD p undef = .pointer (some ⟨g,0,none⟩)) (hg:w.heap[g]?=some (.cells cs t fr)) (hq:tmps.getD q undef = .pointer (some ⟨g',0,none⟩)) (hg':w.heap[g']?=some (.cells cs' t' fr'))
 (hu:P.underlying ty=some d) (hd:(match d with | .struct _ | .array _ _=>true | _=>false)=true) (hi:(P.info? ty).map (·.size)=some cs.size)
 (hu':P.underlying ty'=some d') (hd':(match d' with | .struct _ | .array _ _=>true | _=>false)=true) (hi':(P.info? ty').map (·.size)=some cs'.size) :
 (results fn tmps).run P w = .ok (.tuple #[.agg cs, .agg cs',tmps.getD r undef]) w:=by
 have hp':tmps[p]?.getD undef = .pointer (some ⟨g,0,none⟩):=by simpa using hp
 have hq':tmps[q]?.getD undef = .pointer (some ⟨g',0,none⟩):=by simpa using hq
 simp [results,h,hp',hq',asAddr,run_loadVar_row w g t ty cs fr d hg hu hd hi,run_loadVar_row w g' t' ty' cs' fr' d' hg' hu' hd' hi']
theorem built_docSt (A:Option Addr) (n c:Nat):Tryz.prog.built 29 [(0, .slice A n c)]=some #[.slice A n c]:=by kernel_rfl
set_option maxRecDepth 100000 in
theorem built_dit {w:World} (e:DiL) (he:DitOk w e):Tryz.prog.built 70 [(0, .agg (u8s e.st.id)),(1, .string (B e.st.text)),(2, .agg (objC e.o e.ve e.vp).toArray)]=some (ditC e).toArray:=by
 obtain ⟨it,hi,hz,hs,hb⟩:=Tryz.ditTy.hi
 have hpl:(match Tryz.prog.underlying 70 with | some (.struct fields)=>fields.toList.mapM (fun f=>(Tryz.prog.info? f.type).map fun i=>(f.offset,i.size)) | _=>none)=some [(0,32),(32,1),(33,72)]:=by kernel_rfl
 have hu:=Tryz.underlying70
 rw [hu] at hpl
 unfold Program.built
 rw [hi,hu]
 simp only [hz]
 simp only at hpl
 rw [hpl]
 have hid:=he.id
 have hO:=zAy he.val.ok e.ve e.vp
 have e0:(Value.agg (u8s e.st.id)).cells=u8s e.st.id:=rfl
 have e1:(Value.string (B e.st.text)).cells = #[.string (B e.st.text)]:=rfl
 have e2:(Value.agg (objC e.o e.ve e.vp).toArray).cells=(objC e.o e.ve e.vp).toArray:=rfl
 have f1 : ∀ c:Array Value,Array.foldl (fun cs (x:Value×Nat)=>cs.setIfInBounds (32+x.snd) x.fst) c (#[.string (B e.st.text)]:Array Value).zipIdx=c.setIfInBounds 32 (.string (B e.st.text)):=fun c=>rfl
 have f0 : ∀ c:Array Value,Array.foldl (fun cs (x:Value×Nat)=>cs.setIfInBounds (0+x.snd) x.fst) c (u8s e.st.id).zipIdx=(u8s e.st.id).toList.zipIdx.foldl (fun cs (x:Value×Nat)=>cs.setIfInBounds (0+x.snd) x.fst) c:=fun c=>by
  rw [←Array.foldl_toList,Array.toList_zipIdx]
 have f2 : ∀ c:Array Value,Array.foldl (fun cs (x:Value×Nat)=>cs.setIfInBounds (33+x.snd) x.fst) c (objC e.o e.ve e.vp).toArray.zipIdx=(objC e.o e.ve e.vp).zipIdx.foldl (fun cs (x:Value×Nat)=>cs.setIfInBounds (33+x.snd) x.fst) c:=fun c=>by
  rw [←Array.foldl_toList,Array.toList_zipIdx,List.toList_toArray]
 have g0:(#[(0,32),(32,1),(33,72)]:Array (Nat×Nat))[0]?=some (0,32):=rfl
 have g1:(#[(0,32),(32,1),(33,72)]:Array (Nat×Nat))[1]?=some (32,1):=rfl
 have g2:(#[(0,32),(32,1),(33,72)]:Array (Nat×Nat))[2]?=some (33,72):=rfl
 obtain ⟨Z,hZ⟩ : ∃ Z,Z=zDit.cells:=⟨_,rfl⟩
 have hZl:Z.size=105:=by rw [hZ];rfl
 have hidl:(u8s e.st.id).toList.length=32:=by rw [zAO,hid]
 have h1:(u8s e.st.id).toList.zipIdx.foldl (fun cs (x:Value×Nat)=>cs.setIfInBounds (0+x.snd) x.fst) Z=([]++((u8s e.st.id).toList++Z.toList.drop 32)).toArray:=by
  refine fold_mid 0 _ [] (u8s e.st.id).toList (Z.toList.drop 32) rfl (by rw [List.length_drop,hidl,Array.length_toList,hZl]) (fun i hi=>absurd hi (by omega)) (fun i=>?_)
  rw [hidl,List.getElem?_drop,Array.getElem?_toList,Nat.zero_add]
 have hd32:Z.toList.drop 32=Z.toList[32]'(by rw [Array.length_toList,hZl];omega)::Z.toList.drop 33:=List.drop_eq_getElem_cons (by rw [Array.length_toList,hZl];omega)
 have h2:(([]:List Value)++((u8s e.st.id).toList++Z.toList.drop 32)).toArray.setIfInBounds 32 (.string (B e.st.text))=((u8s e.st.id).toList++Value.string (B e.st.text)::Z.toList.drop 33).toArray:=by
  rw [List.nil_append,List.setIfInBounds_toArray,List.set_append_right _ _ (by omega),hidl,hd32]
  rfl
 have h3:(objC e.o e.ve e.vp).zipIdx.foldl (fun cs (x:Value×Nat)=>cs.setIfInBounds (33+x.snd) x.fst) ((u8s e.st.id).toList++Value.string (B e.st.text)::Z.toList.drop 33).toArray=(((u8s e.st.id).toList++[Value.string (B e.st.text)])++(objC e.o e.ve e.vp++[])).toArray:=by
  refine fold_mid 33 _ ((u8s e.st.id).toList++[Value.string (B e.st.text)]) (objC e.o e.ve e.vp) [] (by rw [List.length_append,hidl];rfl) ?_ (fun i hi=>?_) (fun i=>?_)
  ·rw [List.size_toArray,List.length_append,hidl,List.length_cons,List.length_drop,Array.length_toList,hZl,hO];rfl
  ·rw [List.getElem?_toArray,show (u8s e.st.id).toList++Value.string (B e.st.text)::Z.toList.drop 33=((u8s e.st.id).toList++[Value.string (B e.st.text)])++Z.toList.drop 33 from by simp,List.getElem?_append_left (by rw [List.length_append,hidl];exact hi)]
  ·rw [List.getElem?_toArray,hO,List.getElem?_eq_none (by rw [List.length_append,hidl,List.length_cons,List.length_drop,Array.length_toList,hZl];omega)]
   rfl
 simp only [Instr.fill,g0,g1,g2,e0,e1,e2]
 rw [←hZ,f0,if_neg (by simp [zAh,hid,hZl]),h1,f1,if_neg (by simp [hidl,hZl]),h2,f2,if_neg (by simp [hidl,hZl,hO]),h3]
 congr 1
 unfold ditC
 simp
def accL (es:List DiL) (nw:DiL) (p k:Nat):List DiL:=if p<k then es.take p++[nw]++(es.take k).drop p else es.take k
theorem acc_before {es:List DiL} {nw x:DiL} {p k:Nat} (hx:es[k]?=some x) (h:k<p):accL es nw p (k+1)=accL es nw p k++[x]:=by
 unfold accL
 rw [if_neg (by omega),if_neg (by omega),List.take_add_one,hx]
 rfl
theorem acc_at {es:List DiL} {nw x:DiL} {p:Nat} (hx:es[p]?=some x):accL es nw p (p+1)=accL es nw p p++[nw]++[x]:=by
 have hlt:=(List.getElem?_eq_some_iff.1 hx).1
 unfold accL
 rw [if_pos (by omega),if_neg (by omega),List.take_add_one,hx]
 congr 1
 rw [List.drop_append,List.drop_eq_nil_of_le (by rw [List.length_take];omega),List.length_take,Nat.min_eq_left (by omega),Nat.sub_self]
 rfl
theorem acc_behind {es:List DiL} {nw x:DiL} {p k:Nat} (hx:es[k]?=some x) (h:p<k):accL es nw p (k+1)=accL es nw p k++[x]:=by
 have hlt:=(List.getElem?_eq_some_iff.1 hx).1
 unfold accL
 rw [if_pos (by omega),if_pos h,List.take_add_one,hx,List.drop_append_of_le_length (by rw [List.length_take];omega),List.append_assoc,List.append_assoc,List.append_assoc]
 rfl
theorem acc_end {es:List DiL} {nw:DiL} {p:Nat} (h:p<es.length):accL es nw p es.length=es.take p++[nw]++es.drop p:=by
 unfold accL
 rw [if_pos h,List.take_length]
theorem acc_last {es:List DiL} {nw:DiL}:accL es nw es.length es.length++[nw]=es.take es.length++[nw]++es.drop es.length:=by
 unfold accL
 rw [if_neg (by omega),List.drop_length,List.append_nil]
theorem acc_len (es:List DiL) (nw:DiL) (p k:Nat):(accL es nw p k).length≤es.length+1:=by
 unfold accL
 split
 ·simp only [List.length_append,List.length_take,List.length_drop,List.length_cons,List.length_nil];omega
 ·rw [List.length_take];omega
theorem OwnDits.more {w:World} {B:Nat} {v:Value} {l:List DiL} {x:DiL} (h:w.ownsRow B 70 105 v (l.length+1) (rowsOf ditC l++(ditC x).toArray.toList)):OwnDits w B v (l++[x]):=by
 unfold OwnDits
 rw [zAo,zAp,List.length_append]
 rwa [List.toList_toArray] at h
section
attribute [local go_sem ↓] ldvO_eq
theorem fold_at (q:Nat) (c0:Array Value) (pre:List Value) (l:List Value) (hq:pre.length=q) (h0:c0.size=q+l.length) (hp : ∀ i,i<q→c0[i]?=pre[i]?) :
 (l.zipIdx 0).foldl (fun cs (x:Value×Nat)=>cs.setIfInBounds (q+x.2) x.1) c0=(pre++l).toArray:=by
 obtain ⟨h1,h2⟩:=Great.foldl_set q l 0 c0
 apply Array.ext_getElem?
 intro k
 rw [h2 k]
 by_cases hk:k<q
 ·rw [if_neg (by omega),hp k hk]
  simp [List.getElem?_append_left (show k<pre.length by omega)]
 ·by_cases hk2:k<q+l.length
  ·rw [if_pos ⟨by omega,by omega,by omega⟩]
   simp [List.getElem?_append_right (show pre.length≤k by omega),hq]
  ·rw [if_neg (by omega),Array.getElem?_eq_none (by omega)]
   symm
   rw [Array.getElem?_eq_none (by simp;omega)]
theorem zEnt_cells : zEnt.cells.size=34:=rfl
set_option maxRecDepth 100000 in
theorem built_entry (n:Txt) (k:Int) (id:Txt) (hid:id.length=32):Tryz.prog.built 138 [(1, .int .i64 k),(0, .string (B n)),(2, .agg (u8s id))]=some (entC ⟨n,k,id⟩).toArray:=by
 obtain ⟨it,hi,hz,hs,hb⟩:=Tryz.entTy.hi
 have hpl:(match Tryz.prog.underlying 138 with | some (.struct fields)=>fields.toList.mapM (fun f=>(Tryz.prog.info? f.type).map fun i=>(f.offset,i.size)) | _=>none)=some [(0,1),(1,1),(2,32)]:=by kernel_rfl
 have hu:=Tryz.underlying138
 rw [hu] at hpl
 unfold Program.built
 rw [hi,hu]
 simp only [hz]
 simp only at hpl
 rw [hpl]
 have h34:=zEnt_cells
 have e0:(Value.string (B n)).cells = #[.string (B n)]:=rfl
 have e1:(Value.int .i64 k).cells = #[.int .i64 k]:=rfl
 have e2:(Value.agg (u8s id)).cells=u8s id:=rfl
 have f0 : ∀ c:Array Value,Array.foldl (fun cs (x:Value×Nat)=>cs.setIfInBounds (0+x.snd) x.fst) c (#[.string (B n)]:Array Value).zipIdx=c.setIfInBounds 0 (.string (B n)):=fun c=>rfl
 have f1 : ∀ c:Array Value,Array.foldl (fun cs (x:Value×Nat)=>cs.setIfInBounds (1+x.snd) x.fst) c (#[.int .i64 k]:Array Value).zipIdx=c.setIfInBounds 1 (.int .i64 k):=fun c=>rfl
 have f2 : ∀ c:Array Value,Array.foldl (fun cs (x:Value×Nat)=>cs.setIfInBounds (2+x.snd) x.fst) c (u8s id).zipIdx=(id.map u8v).zipIdx.foldl (fun cs (x:Value×Nat)=>cs.setIfInBounds (2+x.snd) x.fst) c:=fun c=>by
  rw [←Array.foldl_toList,Array.toList_zipIdx]
  rfl
 have g0:(#[(0,1),(1,1),(2,32)]:Array (Nat×Nat))[0]?=some (0,1):=rfl
 have g1:(#[(0,1),(1,1),(2,32)]:Array (Nat×Nat))[1]?=some (1,1):=rfl
 have g2:(#[(0,1),(1,1),(2,32)]:Array (Nat×Nat))[2]?=some (2,32):=rfl
 have hfin:(id.map u8v).zipIdx.foldl (fun cs (x:Value×Nat)=>cs.setIfInBounds (2+x.snd) x.fst) ((zEnt.cells.setIfInBounds 1 (.int .i64 k)).setIfInBounds 0 (.string (B n)))=(entC ⟨n,k,id⟩).toArray:=by
  rw [fold_at 2 _ [.string (B n), .int .i64 k] (id.map u8v) rfl (by rw [Array.size_setIfInBounds,Array.size_setIfInBounds,h34,List.length_map,hid]) (fun i hi=>by
   rw [Array.getElem?_setIfInBounds,Array.getElem?_setIfInBounds]
   match i,hi with
   | 0,_=>simp [h34]
   | 1,_=>simp [h34])]
  unfold entC
  rw [show (u8s id).toList=id.map u8v from by simp [u8s]]
  rfl
 simp only [Instr.fill,g0,g1,g2,e0,e1,e2]
 rw [f1,if_neg (by simp [h34]),f0,if_neg (by simp [h34]),f2,if_neg (by simp [zAh,hid,h34]),hfin]
theorem zA8 (s:Txt):(takeN s).2≤s.length∧(takeN s).1.length≤s.length:=by
 by_cases h:(getN s).2=0
 ·rw [takeN_zero h];simp
 ·by_cases h2:s.length-(getN s).2<(getN s).1
  ·rw [takeN_short h h2];simp
  ·rw [takeN_yes h (by omega)]
   have:=getN_le s
   simp
   omega
structure GsI (w:World) (W:World):Prop where
 z:Blk W w.heap.size 68 zObj
 bel:Below w.heap.size w W
theorem GsI.below {w W W':World} (h:GsI w W) (hb:Below W.heap.size W W'):GsI w W':=⟨h.z.below hb h.z.lt,bthen h.bel h.bel.size hb⟩
theorem GsI.low {w W W':World} {B0:Nat} (h:GsI w W) (hB:w.heap.size<B0) (hb:Below B0 W W'):GsI w W':=⟨(hb.block _ hB).trans h.z,h.bel.trans (hb.mono (Nat.le_of_lt hB))⟩
theorem GsI.set_ {w W:World} (h:GsI w W) {g o:Nat} (hg:w.heap.size<g) (v:Value):GsI w (W.setCell ⟨g,o,none⟩ v):=⟨h.z.far (by simp;omega) v,h.bel.setCell (Nat.le_of_lt hg) v⟩
theorem GsI.cells_ {w W:World} (h:GsI w W) {g o:Nat} (hg:w.heap.size<g) (vs:List Value):GsI w (W.setCells g o vs):=
 ⟨(Far.cells (S:=[some g]) (g:=g) (.inl (by simp)) vs o W (Far.refl _ W)).blk h.z (by simp;omega),h.bel.trans ((Far.cells (S:=[some g]) (g:=g) (.inl (by simp)) vs o W (Far.refl _ W)).below h.bel.size (fun k hk=>by simp at hk;omega))⟩
def GsR (o:ObjL) (w:World) (e:Ending) (w':World):Prop:=(∃ A1 A2 k1 k2,e = .returned (.agg (objC o (.slice A1 o.ents.length k1) (.slice A2 o.pars.length k2)).toArray)∧ObjV w' (.slice A1 o.ents.length k1) (.slice A2 o.pars.length k2) o∧OwnEnts w' w.heap.size (.slice A1 o.ents.length k1) o.ents∧OwnIds w' w.heap.size (.slice A2 o.pars.length k2) o.pars)∧Below w.heap.size w w'
theorem GsR.of {w W:World} {B0:Nat} {o:ObjL} {ve vp:Value} (ho:ObjOk o) (hz:GsI w W) (he:OwnEnts W B0 ve o.ents) (hp:OwnIds W B0 vp o.pars) (hB:w.heap.size<B0) :
 GsR o w (.returned (.agg (objC o ve vp).toArray)) (W.setRow w.heap.size (objC o ve vp).toArray):=by
 have hv:=zCE ho he hp hB (objC o ve vp).toArray
 obtain ⟨A1,k1,e1,_⟩:=hv.ents
 obtain ⟨A2,k2,e2,_⟩:=hv.pars
 subst e1 e2
 exact ⟨⟨A1,A2,k1,k2,rfl,hv,zAx (own_row he hB _) (Nat.le_of_lt hB),zAx (own_row hp hB _) (Nat.le_of_lt hB)⟩,zAa hz.bel (Nat.le_refl _) _⟩
theorem zero_smallG : Small zeroO:=⟨by decide,by simp [zeroO],by decide,by decide,by decide,by decide⟩
theorem zero_okG (w:World):ObjV w (.slice none 0 0) (.slice none 0 0) zeroO:=⟨⟨zAi,zAi,by simp [zeroO],by simp [zeroO],by decide,by decide,by decide,by decide,by decide,by decide,by decide,by decide⟩,SliceAt.nil,SliceAt.nil⟩
theorem zBY (o:ObjL) {ve vp:Value} {W:World} {B0:Nat} (he:OwnEnts W B0 ve o.ents) (hp:OwnIds W B0 vp o.pars):(objC o ve vp).toArray.all (·.oneCell')=true:=by
 obtain ⟨A1,k1,rfl⟩:=zAl he
 obtain ⟨A2,k2,rfl⟩:=zAl hp
 exact zAv o A1 A2 _ k1 _ k2
end
section
attribute [local go_sem ↓] ldvO_eq
theorem ObjB.drewN {w:World} {g:Nat} {o:ObjL} {ve vp:Value} (h:ObjB w g o ve vp) (n:Nat):ObjB (w.drewN n) g o ve vp:=⟨h.blk.drewN n,h.tr,h.ta⟩
theorem GsI.drewN {w W:World} (h:GsI w W) (n:Nat):GsI w (W.drewN n):=⟨h.z.drewN n,bdrewN h.bel n⟩
theorem plainO_ok (n:Int) (hn:0≤n) (hn2:n<256) (t:Txt) (ht:t.length≤5000):ObjOk ⟨n,t,[],noId,[],0,[],noId,0,[]⟩:=
 ⟨zAi,zAi,(fun _ h=>by cases h),(fun _ h=>by cases h),by show t.length≤_;omega,by simp,by simp,by simp,by show _≤n;omega,by show n≤_;omega,by simp,by simp⟩
theorem tagO_ok (i:Txt) (hi:i.length=32) (n:Int) (hn:0≤n) (hn2:n<256) (t:Txt) (ht:t.length≤5000):ObjOk ⟨4,[],[],noId,[],0,[],i,n,t⟩:=
 ⟨zAi,hi,(fun _ h=>by cases h),(fun _ h=>by cases h),by simp,by simp,by show t.length≤_;omega,by simp,by simp,by simp,by show _≤n;omega,by show n≤_;omega⟩
set_option maxRecDepth 100000 in
set_option maxHeartbeats 4000000 in
theorem guess_blob (c:UInt8) (q:Txt) (hl:q.length≤5000) (hk:c.toNat=1) (hn0 : ¬ (takeN q).2=0) (w:World):Calls Tryz.prog 111 #[.string (B (c::q))] w fun e w'=>GsR ⟨1,(takeN q).1,[],noId,[],0,[],noId,0,[]⟩ w e w':=by
 have HK:=Lib.hid hk
 clear hk
 have hzv:=zeroObj
 have hzl:zObj.size=72:=zAF
 have htl:(takeN q).1.length≤q.length:=(zA8 q).2
 have htk : ∀ W,Calls Tryz.prog 137 #[.string (B q)] W fun e w'=>e = .returned (.tuple #[.string (B (takeN q).1), .int .i64 (takeN q).2])∧W=w':=fun W=>(zAN q (by omega) W).mono fun _ _ h=>⟨h.1,h.2.symm⟩
 generalize (takeN q).1=t at *
 generalize (takeN q).2=kn at *
 have hki:((kn:Int)==0)=false:=by simp;omega
 have hex:(B (c::q)).extract 1 (q.length+1)=B q:=by
  rw [zA3]
  simp
 obtain ⟨W1,hW1⟩ : ∃ W1,w.alloc (.cells zObj 68)=W1:=⟨_,rfl⟩
 have hx1:Blk W1 w.heap.size 68 zObj:=by rw [←hW1];exact Blk.new _ _ _
 have b1:Below w.heap.size w W1:=by rw [←hW1];exact (Below.refl _ _).alloc (Nat.le_refl _) _
 have hs1:w.heap.size<W1.heap.size:=by rw [←hW1];simp
 have htk:=Lib.hid htk
 have hc0:0≤(c.toNat:Int):=by omega
 have hc1:(c.toNat:Int)<256:=by have:=c.toNat_lt;omega
 have hbd:=zBv (c.toNat:Int)
 have e72:(objC ⟨c.toNat,[],[],noId,[],0,[],noId,0,[]⟩ (.slice none 0 0) (.slice none 0 0)).toArray.size=72:=by rw [List.size_toArray];unfold objC;simp only [List.length_cons,List.length_append,u8s_len,zAi,List.length_nil]
 have eone:(objC ⟨c.toNat,[],[],noId,[],0,[],noId,0,[]⟩ (.slice none 0 0) (.slice none 0 0)).toArray.all (·.oneCell')=true:=by kernel_rfl
 obtain ⟨X,hX⟩ : ∃ X,Hid ((⟨1,t,[],noId,[],0,[],noId,0,[]⟩:ObjL)=X):=⟨_,Lib.hid rfl⟩
 rw [hX.out]
 go_enter Tryz.func111,Tryz.ntmps111
 go_upto_if 26 with (first
  | ((with_reducible refine zAU hbd ?_ ?_);rfl)
  | ((with_reducible refine lit_new 68 (.tmp 3) (.tmp 18) (objC ⟨c.toNat,[],[],noId,[],0,[],noId,0,[]⟩ (.slice none 0 0) (.slice none 0 0)).toArray 72 szObj e72 eone _ ?_ ?_ ?_ ?_)
     ·first | exact hzl | rfl
     ·rfl
     ·rfl
     intro W2 hb2 hbl2
     have hO2:ObjB W2 W1.heap.size ⟨c.toNat,[],[],noId,[],0,[],noId,0,[]⟩ (.slice none 0 0) (.slice none 0 0):=⟨hb2,zAi,zAi⟩
     have hI2:GsI w W2:=⟨hx1.below hbl2 hx1.lt,bthen b1 b1.size hbl2⟩
     have hgOB:W1.heap.size<W2.heap.size:=hb2.lt
     have tk2:=htk.out W2
     have tk2:=Lib.hid tk2
     clear hx1 b1 hb2 hbl2)
  | ((with_reducible refine tk2.out.mono ?_);rintro e w3 ⟨rfl,rfl⟩
     clear tk2))
 have ck:=hO2.kind
 simp only at ck
 have hsO:=hs1
 clear hW1 hbd e72 eone hs1
 generalize W1.heap.size=gO at *
 obtain ⟨BB,hBB⟩ : ∃ BB,BB=W2.heap.size:=⟨_,rfl⟩
 rw [←hBB] at hgOB
 have hnE:OwnEnts W2 BB (.slice none 0 0) []:=World.ownsRow_nil _ _ _ _
 have hnP:OwnIds W2 BB (.slice none 0 0) []:=World.ownsRow_nil _ _ _ _
 have hBs:BB≤W2.heap.size:=by omega
 have hwB:w.heap.size<BB:=by omega
 clear hBB
 rw [HK.out] at hO2 ck
 have hki2:(c.toNat:Int)=1:=by rw [HK.out];rfl
 clear hc0 hc1
 have f1:=hO2.fr 1
 have d1:=hO2.data
 have hO3:ObjB _ gO ⟨1,t,[],noId,[],0,[],noId,0,[]⟩ _ _:=hO2.setData t
 have hI3:=hI2.set_ (o:=1) hsO (.string (B t))
 have hnE3:=own_set (p:=⟨gO,1,none⟩) hnE hgOB (.string (B t))
 have hnP3:=own_set (p:=⟨gO,1,none⟩) hnP hgOB (.string (B t))
 have hok:ObjOk (⟨1,t,[],noId,[],0,[],noId,0,[]⟩:ObjL):=plainO_ok 1 (by omega) (by omega) t (by omega)
 have hzF:=hI3.z
 have hfin:=Lib.hid (GsR.of hok hI3 hnE3 hnP3 hwB)
 have hq:=zAX hO3 hok
 have hc72:(objC (⟨1,t,[],noId,[],0,[],noId,0,[]⟩:ObjL) (.slice none 0 0) (.slice none 0 0)).toArray.size=72:=by rw [List.size_toArray,zAy hok]
 have hcone:=zBY (⟨1,t,[],noId,[],0,[],noId,0,[]⟩:ObjL) hnE3 hnP3
 clear hI3 hI2 hO2 hO3 hnE hnP hnE3 hnP3
 generalize hcs:(objC (⟨1,t,[],noId,[],0,[],noId,0,[]⟩:ObjL) (.slice none 0 0) (.slice none 0 0)).toArray=cs at *
 have HC:=Lib.hid hcs
 clear hcs
 have hcsz:(Tryz.prog.info? 68).map (·.size)=some cs.size:=by rw [hc72];exact szObj
 go_wp2_with (first
  | (refine wpList_store_row rfl 68 (.tmp 2) (.tmp 138) rfl w.heap.size cs rfl rfl _ _ hzF hcsz (by rw [hzl,hc72]) hcone ?_))
 exact bodyPost_ret (results_cell_row rfl _ _ w.heap.size _ _ _ _ rfl (setRow_heap _ _ _ _ _ _ hzF) Tryz.underlying68 rfl hcsz) rfl (by rw [←hX.out];exact hfin.out)
set_option maxRecDepth 100000 in
set_option maxHeartbeats 4000000 in
theorem guess_other (c:UInt8) (q:Txt) (hl:q.length≤5000) (hk:c.toNat≠1∧c.toNat≠2∧c.toNat≠3∧c.toNat≠4) (hn0 : ¬ (takeN q).2=0) (w:World):Calls Tryz.prog 111 #[.string (B (c::q))] w fun e w'=>GsR (nObj c.toNat) w e w':=by
 have HK:=Lib.hid hk
 clear hk
 have hzv:=zeroObj
 have hzl:zObj.size=72:=zAF
 have htl:(takeN q).1.length≤q.length:=(zA8 q).2
 have htk : ∀ W,Calls Tryz.prog 137 #[.string (B q)] W fun e w'=>e = .returned (.tuple #[.string (B (takeN q).1), .int .i64 (takeN q).2])∧W=w':=fun W=>(zAN q (by omega) W).mono fun _ _ h=>⟨h.1,h.2.symm⟩
 generalize (takeN q).1=t at *
 generalize (takeN q).2=kn at *
 have hki:((kn:Int)==0)=false:=by simp;omega
 have hex:(B (c::q)).extract 1 (q.length+1)=B q:=by
  rw [zA3]
  simp
 obtain ⟨W1,hW1⟩ : ∃ W1,w.alloc (.cells zObj 68)=W1:=⟨_,rfl⟩
 have hx1:Blk W1 w.heap.size 68 zObj:=by rw [←hW1];exact Blk.new _ _ _
 have b1:Below w.heap.size w W1:=by rw [←hW1];exact (Below.refl _ _).alloc (Nat.le_refl _) _
 have hs1:w.heap.size<W1.heap.size:=by rw [←hW1];simp
 have htk:=Lib.hid htk
 have hc0:0≤(c.toNat:Int):=by omega
 have hc1:(c.toNat:Int)<256:=by have:=c.toNat_lt;omega
 have hbd:=zBv (c.toNat:Int)
 have e72:(objC ⟨c.toNat,[],[],noId,[],0,[],noId,0,[]⟩ (.slice none 0 0) (.slice none 0 0)).toArray.size=72:=by rw [List.size_toArray];unfold objC;simp only [List.length_cons,List.length_append,u8s_len,zAi,List.length_nil]
 have eone:(objC ⟨c.toNat,[],[],noId,[],0,[],noId,0,[]⟩ (.slice none 0 0) (.slice none 0 0)).toArray.all (·.oneCell')=true:=by kernel_rfl
 obtain ⟨X,hX⟩ : ∃ X,Hid (nObj c.toNat=X):=⟨_,Lib.hid rfl⟩
 rw [hX.out]
 go_enter Tryz.func111,Tryz.ntmps111
 go_upto_if 26 with (first
  | ((with_reducible refine zAU hbd ?_ ?_);rfl)
  | ((with_reducible refine lit_new 68 (.tmp 3) (.tmp 18) (objC ⟨c.toNat,[],[],noId,[],0,[],noId,0,[]⟩ (.slice none 0 0) (.slice none 0 0)).toArray 72 szObj e72 eone _ ?_ ?_ ?_ ?_)
     ·first | exact hzl | rfl
     ·rfl
     ·rfl
     intro W2 hb2 hbl2
     have hO2:ObjB W2 W1.heap.size ⟨c.toNat,[],[],noId,[],0,[],noId,0,[]⟩ (.slice none 0 0) (.slice none 0 0):=⟨hb2,zAi,zAi⟩
     have hI2:GsI w W2:=⟨hx1.below hbl2 hx1.lt,bthen b1 b1.size hbl2⟩
     have hgOB:W1.heap.size<W2.heap.size:=hb2.lt
     have tk2:=htk.out W2
     have tk2:=Lib.hid tk2
     clear hx1 b1 hb2 hbl2)
  | ((with_reducible refine tk2.out.mono ?_);rintro e w3 ⟨rfl,rfl⟩
     clear tk2))
 have ck:=hO2.kind
 simp only at ck
 have hsO:=hs1
 clear hW1 hbd e72 eone hs1
 generalize W1.heap.size=gO at *
 obtain ⟨BB,hBB⟩ : ∃ BB,BB=W2.heap.size:=⟨_,rfl⟩
 rw [←hBB] at hgOB
 have hnE:OwnEnts W2 BB (.slice none 0 0) []:=World.ownsRow_nil _ _ _ _
 have hnP:OwnIds W2 BB (.slice none 0 0) []:=World.ownsRow_nil _ _ _ _
 have hBs:BB≤W2.heap.size:=by omega
 have hwB:w.heap.size<BB:=by omega
 clear hBB
 have k1:((c.toNat:Int)==1)=false:=by have:=HK.out.1;simp;omega
 have k2:((c.toNat:Int)==2)=false:=by have:=HK.out.2.1;simp;omega
 have k3:((c.toNat:Int)==3)=false:=by have:=HK.out.2.2.1;simp;omega
 have k4:((c.toNat:Int)==4)=false:=by have:=HK.out.2.2.2;simp;omega
 have hok:ObjOk (⟨c.toNat,[],[],noId,[],0,[],noId,0,[]⟩:ObjL):=plainO_ok c.toNat hc0 hc1 [] (by simp)
 have hzF:=hI2.z
 have hfin:=Lib.hid (GsR.of hok hI2 hnE hnP hwB)
 have hq:=zAX hO2 hok
 have hc72:(objC (⟨c.toNat,[],[],noId,[],0,[],noId,0,[]⟩:ObjL) (.slice none 0 0) (.slice none 0 0)).toArray.size=72:=by rw [List.size_toArray,zAy hok]
 have hcone:=zBY (⟨c.toNat,[],[],noId,[],0,[],noId,0,[]⟩:ObjL) hnE hnP
 clear hI2 hO2 hnE hnP
 generalize hcs:(objC (⟨c.toNat,[],[],noId,[],0,[],noId,0,[]⟩:ObjL) (.slice none 0 0) (.slice none 0 0)).toArray=cs at *
 have HC:=Lib.hid hcs
 clear hcs
 have hcsz:(Tryz.prog.info? 68).map (·.size)=some cs.size:=by rw [hc72];exact szObj
 go_wp2_with (first
  | (refine wpList_store_row rfl 68 (.tmp 2) (.tmp 138) rfl w.heap.size cs rfl rfl _ _ hzF hcsz (by rw [hzl,hc72]) hcone ?_))
 exact bodyPost_ret (results_cell_row rfl _ _ w.heap.size _ _ _ _ rfl (setRow_heap _ _ _ _ _ _ hzF) Tryz.underlying68 rfl hcsz) rfl (by rw [←hX.out];exact hfin.out)
set_option maxRecDepth 100000 in
set_option maxHeartbeats 4000000 in
theorem guess_tag (c:UInt8) (q:Txt) (hl:q.length≤5000) (hk:c.toNat=4) (hn0 : ¬ (takeN q).2=0) (w:World):Calls Tryz.prog 111 #[.string (B (c::q))] w fun e w'=>GsR (gTag (takeN q).1) w e w':=by
 have HK:=Lib.hid hk
 clear hk
 have hzv:=zeroObj
 have hzl:zObj.size=72:=zAF
 have htl:(takeN q).1.length≤q.length:=(zA8 q).2
 have htk : ∀ W,Calls Tryz.prog 137 #[.string (B q)] W fun e w'=>e = .returned (.tuple #[.string (B (takeN q).1), .int .i64 (takeN q).2])∧W=w':=fun W=>(zAN q (by omega) W).mono fun _ _ h=>⟨h.1,h.2.symm⟩
 generalize (takeN q).1=t at *
 generalize (takeN q).2=kn at *
 have hki:((kn:Int)==0)=false:=by simp;omega
 have hex:(B (c::q)).extract 1 (q.length+1)=B q:=by
  rw [zA3]
  simp
 obtain ⟨W1,hW1⟩ : ∃ W1,w.alloc (.cells zObj 68)=W1:=⟨_,rfl⟩
 have hx1:Blk W1 w.heap.size 68 zObj:=by rw [←hW1];exact Blk.new _ _ _
 have b1:Below w.heap.size w W1:=by rw [←hW1];exact (Below.refl _ _).alloc (Nat.le_refl _) _
 have hs1:w.heap.size<W1.heap.size:=by rw [←hW1];simp
 have htk:=Lib.hid htk
 have hc0:0≤(c.toNat:Int):=by omega
 have hc1:(c.toNat:Int)<256:=by have:=c.toNat_lt;omega
 have hbd:=zBv (c.toNat:Int)
 have e72:(objC ⟨c.toNat,[],[],noId,[],0,[],noId,0,[]⟩ (.slice none 0 0) (.slice none 0 0)).toArray.size=72:=by rw [List.size_toArray];unfold objC;simp only [List.length_cons,List.length_append,u8s_len,zAi,List.length_nil]
 have eone:(objC ⟨c.toNat,[],[],noId,[],0,[],noId,0,[]⟩ (.slice none 0 0) (.slice none 0 0)).toArray.all (·.oneCell')=true:=by kernel_rfl
 obtain ⟨X,hX⟩ : ∃ X,Hid (gTag t=X):=⟨_,Lib.hid rfl⟩
 rw [hX.out]
 go_enter Tryz.func111,Tryz.ntmps111
 go_upto_if 26 with (first
  | ((with_reducible refine zAU hbd ?_ ?_);rfl)
  | ((with_reducible refine lit_new 68 (.tmp 3) (.tmp 18) (objC ⟨c.toNat,[],[],noId,[],0,[],noId,0,[]⟩ (.slice none 0 0) (.slice none 0 0)).toArray 72 szObj e72 eone _ ?_ ?_ ?_ ?_)
     ·first | exact hzl | rfl
     ·rfl
     ·rfl
     intro W2 hb2 hbl2
     have hO2:ObjB W2 W1.heap.size ⟨c.toNat,[],[],noId,[],0,[],noId,0,[]⟩ (.slice none 0 0) (.slice none 0 0):=⟨hb2,zAi,zAi⟩
     have hI2:GsI w W2:=⟨hx1.below hbl2 hx1.lt,bthen b1 b1.size hbl2⟩
     have hgOB:W1.heap.size<W2.heap.size:=hb2.lt
     have tk2:=htk.out W2
     have tk2:=Lib.hid tk2
     clear hx1 b1 hb2 hbl2)
  | ((with_reducible refine tk2.out.mono ?_);rintro e w3 ⟨rfl,rfl⟩
     clear tk2))
 have ck:=hO2.kind
 simp only at ck
 have hsO:=hs1
 clear hW1 hbd e72 eone hs1
 generalize W1.heap.size=gO at *
 obtain ⟨BB,hBB⟩ : ∃ BB,BB=W2.heap.size:=⟨_,rfl⟩
 rw [←hBB] at hgOB
 have hnE:OwnEnts W2 BB (.slice none 0 0) []:=World.ownsRow_nil _ _ _ _
 have hnP:OwnIds W2 BB (.slice none 0 0) []:=World.ownsRow_nil _ _ _ _
 have hBs:BB≤W2.heap.size:=by omega
 have hwB:w.heap.size<BB:=by omega
 clear hBB
 rw [HK.out] at hO2 ck
 have hki2:(c.toNat:Int)=4:=by rw [HK.out];rfl
 clear hc0 hc1
 have hXX:Hid ((⟨4,[],[],noId,[],0,[],idG (t.drop 1),(t.headD 0).toNat,(takeN ((t.drop 1).drop 32)).1⟩:ObjL)=X):=hX.out
 clear hX
 have hX:=hXX
 clear hXX
 have hc8:(t.headD 0).toNat<256:=(t.headD 0).toNat_lt
 have hb1 : ∀ W,Calls Tryz.prog 138 #[.string (B t), .int .i64 1] W fun e w'=>e = .returned (.string (B (t.drop 1))) ∧ ∃ nq,w'=W.drewN nq:=fun W=>zA4 t 1 (by omega) (by omega) W
 have hd1:(t.drop 1).length≤t.length:=by rw [List.length_drop];omega
 have hd2:((t.drop 1).drop 32).length≤t.length:=by rw [List.length_drop,List.length_drop];omega
 have hb2 : ∀ W,Calls Tryz.prog 138 #[.string (B (t.drop 1)), .int .i64 32] W fun e w'=>e = .returned (.string (B ((t.drop 1).drop 32))) ∧ ∃ nq,w'=W.drewN nq:=fun W=>zA4 (t.drop 1) 32 (by omega) (by omega) W
 have hgi:=fun W=>Lib.hid (zD5 (t.drop 1) (by omega) W)
 have hi32:=idG_len (t.drop 1)
 have htk2 : ∀ W,Calls Tryz.prog 137 #[.string (B ((t.drop 1).drop 32))] W fun e w'=>e = .returned (.tuple #[.string (B (takeN ((t.drop 1).drop 32)).1), .int .i64 (takeN ((t.drop 1).drop 32)).2])∧W=w':=fun W=>(zAN ((t.drop 1).drop 32) (by omega) W).mono fun _ _ h=>⟨h.1,h.2.symm⟩
 have hnl:=(zA8 ((t.drop 1).drop 32)).2
 have hb1:=Lib.hid hb1
 have hb2:=Lib.hid hb2
 have htk2:=Lib.hid htk2
 generalize takeN ((t.drop 1).drop 32)=NM at *
 generalize (t.drop 1).drop 32=R2 at *
 generalize idG (t.drop 1)=ID at *
 generalize t.drop 1=R1 at *
 cases t with
 | nil=>
   go_upto_region 35 with (first
    | ((with_reducible refine (hb1.out _).mono ?_);rintro e w3 ⟨rfl,nq,rfl⟩
       have hO3:=(hO2).drewN nq
       have hI3:=(hI2).drewN nq)
    | ((with_reducible refine (hgi _).out.mono ?_);rintro e w4 ⟨rfl,hb4⟩
       have hO4:=hO3.below hb4
       have hI4:=hI3.below hb4
       have ht4:=hO4.there 38 32 (by omega)
       clear hO3 hI3)
    | ((with_reducible refine zBt (.tmp 130) (.tmp 129) gO 38 ID hi32 ht4 ?_ ?_ ?_);rfl;rfl
       have hO5:=hO4.setTarget ID hi32
       have hI5:=hI4.cells_ (o:=38) hsO (u8s ID).toList
       clear hO4 hI4 ht4)
    | ((with_reducible refine (hb2.out _).mono ?_);rintro e w6 ⟨rfl,nq2,rfl⟩
       have hO6:=hO5.drewN nq2
       have hI6:=hI5.drewN nq2
       have f71:=hO6.fr 71
       have c71:=hO6.name
       clear hO5 hI5)
    | ((with_reducible refine (htk2.out _).mono ?_);rintro e w7 ⟨rfl,rfl⟩
       have hO7:=hO6.setName NM.1
       have hI7:=hI6.set_ (o:=71) hsO (.string (B NM.1))
       clear hO6 hI6))
   have hE7 : ∀ W,OwnEnts W BB (.slice none 0 0) []:=fun W=>World.ownsRow_nil _ _ _ _
   have hP7 : ∀ W,OwnIds W BB (.slice none 0 0) []:=fun W=>World.ownsRow_nil _ _ _ _
   have hok:ObjOk (⟨4,[],[],noId,[],0,[],ID,0,NM.1⟩:ObjL):=tagO_ok ID hi32 0 (by omega) (by omega) NM.1 (by omega)
   have hzF:=hI7.z
   have hfin:=Lib.hid (GsR.of hok hI7 (hE7 _) (hP7 _) hwB)
   have hq:=zAX hO7 hok
   have hc72:(objC (⟨4,[],[],noId,[],0,[],ID,0,NM.1⟩:ObjL) (.slice none 0 0) (.slice none 0 0)).toArray.size=72:=by rw [List.size_toArray,zAy hok]
   have hcone:=zBY (⟨4,[],[],noId,[],0,[],ID,0,NM.1⟩:ObjL) (hE7 W2) (hP7 W2)
   clear hI7 hO7 hE7 hP7
   generalize hcs:(objC (⟨4,[],[],noId,[],0,[],ID,0,NM.1⟩:ObjL) (.slice none 0 0) (.slice none 0 0)).toArray=cs at *
   have HC:=Lib.hid hcs
   clear hcs
   have hcsz:(Tryz.prog.info? 68).map (·.size)=some cs.size:=by rw [hc72];exact szObj
   go_wp2_with (first
    | (refine wpList_store_row rfl 68 (.tmp 2) (.tmp 138) rfl w.heap.size cs rfl rfl _ _ hzF hcsz (by rw [hzl,hc72]) hcone ?_))
   exact bodyPost_ret (results_cell_row rfl _ _ w.heap.size _ _ _ _ rfl (setRow_heap _ _ _ _ _ _ hzF) Tryz.underlying68 rfl hcsz) rfl (by rw [←hX.out];exact hfin.out)
 | cons d t1=>
   have f70:=hO2.fr 70
   have c70:=hO2.of_
   have hd0:0≤(d.toNat:Int):=by omega
   have hd1:(d.toNat:Int)<256:=by have:=d.toNat_lt;omega
   have hOa:=hO2.setOf d.toNat
   have hIa:=hI2.set_ (o:=70) hsO (.int .i64 d.toNat)
   go_upto_region 35 with (first
    | ((with_reducible refine (hb1.out _).mono ?_);rintro e w3 ⟨rfl,nq,rfl⟩
       have hO3:=(hOa).drewN nq
       have hI3:=(hIa).drewN nq)
    | ((with_reducible refine (hgi _).out.mono ?_);rintro e w4 ⟨rfl,hb4⟩
       have hO4:=hO3.below hb4
       have hI4:=hI3.below hb4
       have ht4:=hO4.there 38 32 (by omega)
       clear hO3 hI3)
    | ((with_reducible refine zBt (.tmp 130) (.tmp 129) gO 38 ID hi32 ht4 ?_ ?_ ?_);rfl;rfl
       have hO5:=hO4.setTarget ID hi32
       have hI5:=hI4.cells_ (o:=38) hsO (u8s ID).toList
       clear hO4 hI4 ht4)
    | ((with_reducible refine (hb2.out _).mono ?_);rintro e w6 ⟨rfl,nq2,rfl⟩
       have hO6:=hO5.drewN nq2
       have hI6:=hI5.drewN nq2
       have f71:=hO6.fr 71
       have c71:=hO6.name
       clear hO5 hI5)
    | ((with_reducible refine (htk2.out _).mono ?_);rintro e w7 ⟨rfl,rfl⟩
       have hO7:=hO6.setName NM.1
       have hI7:=hI6.set_ (o:=71) hsO (.string (B NM.1))
       clear hO6 hI6))
   have hE7 : ∀ W,OwnEnts W BB (.slice none 0 0) []:=fun W=>World.ownsRow_nil _ _ _ _
   have hP7 : ∀ W,OwnIds W BB (.slice none 0 0) []:=fun W=>World.ownsRow_nil _ _ _ _
   have hok:ObjOk (⟨4,[],[],noId,[],0,[],ID,d.toNat,NM.1⟩:ObjL):=tagO_ok ID hi32 d.toNat hd0 hd1 NM.1 (by omega)
   have hzF:=hI7.z
   have hfin:=Lib.hid (GsR.of hok hI7 (hE7 _) (hP7 _) hwB)
   have hq:=zAX hO7 hok
   have hc72:(objC (⟨4,[],[],noId,[],0,[],ID,d.toNat,NM.1⟩:ObjL) (.slice none 0 0) (.slice none 0 0)).toArray.size=72:=by rw [List.size_toArray,zAy hok]
   have hcone:=zBY (⟨4,[],[],noId,[],0,[],ID,d.toNat,NM.1⟩:ObjL) (hE7 W2) (hP7 W2)
   clear hI7 hO7 hE7 hP7
   generalize hcs:(objC (⟨4,[],[],noId,[],0,[],ID,d.toNat,NM.1⟩:ObjL) (.slice none 0 0) (.slice none 0 0)).toArray=cs at *
   have HC:=Lib.hid hcs
   clear hcs
   have hcsz:(Tryz.prog.info? 68).map (·.size)=some cs.size:=by rw [hc72];exact szObj
   go_wp2_with (first
    | (refine wpList_store_row rfl 68 (.tmp 2) (.tmp 138) rfl w.heap.size cs rfl rfl _ _ hzF hcsz (by rw [hzl,hc72]) hcone ?_))
   exact bodyPost_ret (results_cell_row rfl _ _ w.heap.size _ _ _ _ rfl (setRow_heap _ _ _ _ _ _ hzF) Tryz.underlying68 rfl hcsz) rfl (by rw [←hX.out];exact hfin.out)
end
end Go.Proofs.YtbcbmjdmlcldjaaGreatDoor
