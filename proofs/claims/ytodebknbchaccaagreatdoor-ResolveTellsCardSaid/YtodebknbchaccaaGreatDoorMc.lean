/- Texts of this claim, laid together: RsH, DlaP, TakeP, ShaP, ShaR, PkP, SortP, StitE, ObjP, RdP, StoP, RsP, Zero, Unhex0, Far2, Splice, PkW, PkR, Take, PkA, PkB, PkS, Sha, ShaB. -/
import Derived.Test.YtodebknbchaccaaGreatDoorMb
import Derived.Below
import Derived.Laws.Cover1
import Derived.Lib.Bytealg
import Derived.Deep.MidRow
import Derived.Lib.Hide
import Derived.Lib.BufferWrite
import Derived.Deep.CutBlock
import Derived.StillTailTactics
import Derived.Deep.RegionHeld3
import Derived.Deep.DrawnRows
import Derived.Laws.CopyRow
import Derived.Lib.SlBuf
namespace Go.Proofs.YtodebknbchaccaaGreatDoor
open Go.RowKit
set_option maxRecDepth 100000 in
set_option maxHeartbeats 4000000 in
theorem zDo (b t:Txt) (hb:b.length≤5000) (ht:t.length≤5000) (w:World) :
 Calls Tryz.prog 69 #[.string (B b), .string (B t)] w fun e w'=>TextLe (t.length+60) e∧Below w.heap.size w w':=by
 go_enter Tryz.func69,Tryz.ntmps69
 go_wp2_with (fail)
 go_loopw [5] (fun n wr => ∃ k:Nat,n = .int .i64 k∧k≤b.length∧k≤t.length∧Below w.heap.size w wr) (fun n _=>b.length-(intOf n).toNat)
 case atStart=>exact ⟨0,rfl,by omega,by omega,Below.refl _ _⟩
 case round=>
  obtain ⟨k,rfl,hk,hk2,hbel⟩:=hrel
  obtain ⟨C,hC⟩ : ∃ C,(decide (k<b.length)&&(decide (k<t.length)&&(List.take 1 (List.drop k b)==List.take 1 (List.drop k t))))=C:=⟨_,rfl⟩
  go_upto_region 2 with (fail)
  go_cut [29] from 7 to 31 (fun s29 wx=>s29 = .bool C∧Below w.heap.size w wx)
  case first=>
   have hC:=Lib.hid hC
   by_cases hlt:k<b.length
   ·have hl1:(k:Int)<(b.length:Int):=by omega
    by_cases hlt2:k<t.length
    ·have hl2:(k:Int)<(t.length:Int):=by omega
     have hw1:IntKind.i64.wrap ((k:Int)+1)=((k+1:Nat):Int):=by rw [IntWalk.i64_in _ (by omega)];omega
     have hl3:((k+1:Nat):Int)≤(b.length:Int):=by omega
     have hl4:((k+1:Nat):Int)≤(t.length:Int):=by omega
     have hl5:(k:Int)+1≤(b.length:Int):=by omega
     have hl6:(k:Int)+1≤(t.length:Int):=by omega
     have hC2:Hid ((List.take 1 (List.drop k b)==List.take 1 (List.drop k t))=C):=Lib.hid (by rw [←hC.out];simp [hlt,hlt2])
     go_wp2_with (fail)
     all_goals try (exfalso;omega)
     go_quiet (fail)
     go_wp2_with (fail)
     go_meet
     case rel=>exact ⟨by rw [←hC2.out],bdrewN hbel _⟩
    ·have hl2 : ¬ (k:Int)<(t.length:Int):=by omega
     have hC2:Hid (C=false):=Lib.hid (by rw [←hC.out];simp [hlt2])
     go_wp2_with (fail)
     all_goals try (exfalso;omega)
     go_quiet (fail)
     go_wp2_with (fail)
     go_meet
     case rel=>exact ⟨by rw [hC2.out],bdrewN hbel _⟩
   ·have hl1 : ¬ (k:Int)<(b.length:Int):=by omega
    have hC2:Hid (C=false):=Lib.hid (by rw [←hC.out];simp [hlt])
    go_wp2_with (fail)
    all_goals try (exfalso;omega)
    go_quiet (fail)
    go_wp2_with (fail)
    go_meet
    case rel=>exact ⟨by rw [hC2.out],bdrewN hbel _⟩
  case rest=>
   obtain ⟨rfl,hbc⟩:=hcut
   clear hbel
   cases C with
   | true=>
     simp only [Bool.and_eq_true,decide_eq_true_eq] at hC
     obtain ⟨h1,h2,_⟩:=hC
     go_wp2_with (fail)
     all_goals try (exfalso;omega)
     go_roundw
     case rel=>exact ⟨k+1,by go_num,by omega,by omega,hbc⟩
     case measure=>simp [intOf];omega
   | false=>
     have hcN:=built_stepN k
     have hcT:=built_stepT (t.drop k)
     have hbN:=fun W=>run_build (P:=Tryz.prog) W _ _ _ hcN
     have hbT:=fun W=>run_build (P:=Tryz.prog) W _ _ _ hcT
     have h3:(#[Value.int .i64 0, .int .i64 (k:Int), .string ⟨#[]⟩]:Array Value).size=1*3:=rfl
     have h4:(#[Value.int .i64 0, .int .i64 0, .string (B (t.drop k))]:Array Value).size=1*3:=rfl
     have h5 : ∀ u∈(#[Value.int .i64 0, .int .i64 (k:Int), .string ⟨#[]⟩]:Array Value).toList,u.oneCell'=true:=stepC_one ⟨0,k,[]⟩
     have h6 : ∀ u∈(#[Value.int .i64 0, .int .i64 0, .string (B (t.drop k))]:Array Value).toList,u.oneCell'=true:=stepC_one ⟨0,0,t.drop k⟩
     have hbs:=hbc.size
     have o1:zCK wc w.heap.size (.slice none 0 0) []:=World.ownsRow_nil _ _ _ _
     have hdl:(t.drop k).length=t.length-k:=List.length_drop
     have hfin:=fun (L:List StepL) (h : ∀ x∈L,StepOk x) (hl:L.length≤100) v W (hv:Steps W v L)=>delta06_calls b.length t.length (by omega) (by omega) L h hl v W hv
     clear hC
     go_upto_if 33 with (fail)
     go_cut [6] from 33 (fun s6 wx => ∃ (v:Value) (L:List StepL),v=s6∧zCK wx w.heap.size v L∧stepB L≤20∧L.length≤1∧(∀ x∈L,StepOk x)∧Below w.heap.size w wx)
     case first=>
      by_cases h0:0<k
      ·have h0i:(0:Int)<(k:Int):=by omega
       clear hcN hcT hbT h4 h6 hfin
       go_wp2_with (first
        | (at_builtin
           (with_reducible refine zAl (.tmp 34) (.tmp 37) 1 _ Tryz.stepTy o1 #[.int .i64 0, .int .i64 (k:Int), .string ⟨#[]⟩] h3 h5 (by simp) (by simp) hbs ?_ ?_ ?_);rfl;rfl
           intro v2 w2 hv2 hb2 hg2 hn2
           have b2:=hbc.trans hb2
           clear hg2 hn2))
       all_goals try (exfalso;omega)
       go_meet
       case rel=>
        refine ⟨v2,[⟨0,k,[]⟩],rfl,?_,by simp [stepB],by simp,fun x hx=>?_,b2⟩
        ·unfold zCK
         exact hv2
        ·rw [List.mem_singleton.1 hx];exact ⟨by simp,by show k≤_;omega,by simp⟩
      ·have h0i : ¬ (0:Int)<(k:Int):=by omega
       clear hcN hcT hbT h4 h6 hfin hbN h3 h5
       go_wp2_with (fail)
       all_goals try (exfalso;omega)
       go_meet
       case rel=>exact ⟨_,[],rfl,o1,by decide,by decide,fun x hx=>by simp at hx,hbc⟩
     case rest=>
      rename World=>wd
      obtain ⟨v6,L,rfl,o6,hLB,hL1,hLok,hbd⟩:=hcut
      obtain ⟨A6,k6,rfl⟩:=zAm o6
      have hds:=hbd.size
      clear o1 hbc hbs
      go_upto_if 42 with (fail)
      go_cut [6] from 42 (fun s6 wx => ∃ (v:Value) (M:List StepL),v=s6∧zCK wx w.heap.size v M∧stepB M≤40+t.length∧M.length≤2∧(∀ x∈M,StepOk x)∧Below w.heap.size w wx)
      case first=>
       by_cases h0:k<t.length
       ·have h0i:(k:Int)<(t.length:Int):=by omega
        have hMB:stepB (L++[⟨0,0,t.drop k⟩])≤40+t.length:=by rw [stepB_app];simp only;omega
        have hM2:(L++[(⟨0,0,t.drop k⟩:StepL)]).length≤2:=by rw [List.length_append,List.length_singleton];omega
        have hMok : ∀ x∈L++[(⟨0,0,t.drop k⟩:StepL)],StepOk x:=fun x hx=>by
         rcases List.mem_append.1 hx with hx | hx
         ·exact hLok x hx
         ·rw [List.mem_singleton.1 hx];exact ⟨by simp,by simp,by show (t.drop k).length≤_;omega⟩
        have m1:L.length+1≤9223372036854775807:=by omega
        have m2:(L.length+1)*32≤140737488355328:=by omega
        have hown : ∀ (W:World) (v:Value),W.ownsRow w.heap.size 197 3 v (L.length+1) (rowsOf stepC L++[.int .i64 0, .int .i64 0, .string (B (t.drop k))])→zCK W w.heap.size v (L++[⟨0,0,t.drop k⟩]):=fun W v h=>by
         unfold zCK
         rw [List.length_append,List.length_singleton,zAo,zAx]
         exact h
        have hown:=Lib.hid hown
        clear hcN hcT hbN h3 h5 hfin
        go_wp2_with (first
         | (at_builtin
            (with_reducible refine zAl (.tmp 43) (.tmp 48) 1 _ Tryz.stepTy o6 #[.int .i64 0, .int .i64 0, .string (B (t.drop k))] h4 h6 m1 m2 hds ?_ ?_ ?_);rfl;rfl
            intro v2 w2 hv2 hb2 hg2 hn2
            have b2:=hbd.trans hb2
            clear hg2 hn2))
        all_goals try (exfalso;omega)
        go_meet
        case rel=>exact ⟨v2,_,rfl,hown.out _ _ hv2,hMB,hM2,hMok,b2⟩
       ·have h0i : ¬ (k:Int)<(t.length:Int):=by omega
        clear hcN hcT hbN hbT h3 h4 h5 h6 hfin
        go_wp2_with (fail)
        all_goals try (exfalso;omega)
        go_meet
        case rel=>exact ⟨_,L,rfl,o6,by omega,by omega,hLok,hbd⟩
      case rest=>
       rename World=>we
       obtain ⟨v7,M,rfl,o7,hMB,hM2,hMok,hbe⟩:=hcut
       obtain ⟨A7,k7,rfl⟩:=zAm o7
       have hc:=Lib.hid (hfin M hMok (by omega) _ we (SliceAt.of_own (stepK M) o7))
       clear hcN hcT hbN hbT h3 h4 h5 h6 hfin o6 hbd hds
       go_wp2_with (first
        | ((with_reducible refine hc.out.mono ?_);rintro e w8 ⟨⟨d,rfl,hd⟩,hb8⟩
           have b8:=bthen hbe hbe.size hb8))
       go_ret
       exact ⟨⟨d,rfl,by omega⟩,b8⟩
section
def stpD (b d:Txt):Option (Txt×Txt):=
 match get d with
 | none=>none
 | some (n,k)=>
   if n / 2=0 then none
   else if n%2=0 then (if (d.drop k).length<n / 2 then none else some ((d.drop k).take (n / 2),(d.drop k).drop (n / 2)))
   else match get (d.drop k) with
    | none=>none
    | some (p,m)=>if b.length<p∨b.length-p<n / 2 then none else some ((b.drop p).take (n / 2),(d.drop k).drop m)
section
variable {b d:Txt} {n k p m:Nat}
theorem stpD_none (h:get d=none):stpD b d=none:=by simp [stpD,h]
theorem stpD_zero (h:get d=some (n,k)) (h2:n / 2=0):stpD b d=none:=by simp only [stpD,h];rw [if_pos h2]
theorem stpD_short (h:get d=some (n,k)) (h2:n / 2≠0) (h3:n%2=0) (h4:(d.drop k).length<n / 2):stpD b d=none:=by simp only [stpD,h];rw [if_neg h2,if_pos h3,if_pos h4]
theorem stpD_text (h:get d=some (n,k)) (h2:n / 2≠0) (h3:n%2=0) (h4:n / 2≤(d.drop k).length):stpD b d=some ((d.drop k).take (n / 2),(d.drop k).drop (n / 2)):=by simp only [stpD,h];rw [if_neg h2,if_pos h3,if_neg (by omega)]
theorem stpD_non2 (h:get d=some (n,k)) (h2:n / 2≠0) (h3:n%2=1) (h4:get (d.drop k)=none):stpD b d=none:=by simp only [stpD,h,h4];rw [if_neg h2,if_neg (by omega)]
theorem zEf (h:get d=some (n,k)) (h2:n / 2≠0) (h3:n%2=1) (h4:get (d.drop k)=some (p,m)) (h5:b.length<p∨b.length-p<n / 2):stpD b d=none:=by simp only [stpD,h,h4];rw [if_neg h2,if_neg (by omega),if_pos h5]
theorem stpD_copy (h:get d=some (n,k)) (h2:n / 2≠0) (h3:n%2=1) (h4:get (d.drop k)=some (p,m)) (h5:p≤b.length) (h6:n / 2≤b.length-p):stpD b d=some ((b.drop p).take (n / 2),(d.drop k).drop m):=by simp only [stpD,h,h4];rw [if_neg h2,if_neg (by omega),if_neg (by omega)]
end
theorem zCZ {b d t r:Txt} (h:stpD b d=some (t,r)):0<t.length∧r.length<d.length∧t.length≤9223372036854775807∧(t.length≤d.length∨t.length≤b.length):=by
 unfold stpD at h
 split at h
 ·cases h
 ·rename_i n k hg
  obtain ⟨h1,h2,h3⟩:=zAH hg
  have hd:(d.drop k).length=d.length-k:=List.length_drop
  split at h
  ·cases h
  ·split at h
   ·split at h
    ·cases h
    ·simp only [Option.some.injEq,Prod.mk.injEq] at h
     obtain ⟨rfl,rfl⟩:=h
     have e1:((d.drop k).take (n / 2)).length=min (n / 2) (d.drop k).length:=List.length_take
     have e2:((d.drop k).drop (n / 2)).length=(d.drop k).length-n / 2:=List.length_drop
     exact ⟨by omega,by omega,by omega, .inl (by omega)⟩
   ·split at h
    ·cases h
    ·rename_i p m hg2
     obtain ⟨h4,h5,h6⟩:=zAH hg2
     split at h
     ·cases h
     ·simp only [Option.some.injEq,Prod.mk.injEq] at h
      obtain ⟨rfl,rfl⟩:=h
      have e1:((b.drop p).take (n / 2)).length=min (n / 2) (b.drop p).length:=List.length_take
      have e2:(b.drop p).length=b.length-p:=List.length_drop
      have e3:((d.drop k).drop m).length=(d.drop k).length-m:=List.length_drop
      exact ⟨by omega,by omega,by omega, .inr (by omega)⟩
def apF : Nat→Txt→Txt→Txt→Nat→Option Txt
 | 0,_,_,out,size=>if out.length=size then some out else none
 | f+1,b,d,out,size=>
   if d=[] then (if out.length=size then some out else none) else
   match stpD b d with
   | none=>none
   | some (t,r)=>if size-out.length<t.length then none else apF f b r (out++t) size
theorem apF_end (f:Nat) (b out:Txt):apF f b [] out out.length=some out:=by cases f<;>simp [apF]
theorem apF_short {f size:Nat} {b out:Txt} (h:out.length≠size):apF f b [] out size=none:=by cases f<;>simp [apF,h]
section
variable {f size:Nat} {b d out t r:Txt}
theorem apF_bad (hs:d≠[]) (h:stpD b d=none):apF (f+1) b d out size=none:=by rw [apF,if_neg hs];simp only [h]
theorem apF_big (hs:d≠[]) (h:stpD b d=some (t,r)) (hb:size-out.length<t.length):apF (f+1) b d out size=none:=by rw [apF,if_neg hs];simp only [h];rw [if_pos hb]
theorem zDt (hs:d≠[]) (h:stpD b d=some (t,r)) (hb:t.length≤size-out.length):apF (f+1) b d out size=apF f b r (out++t) size:=by rw [apF,if_neg hs];simp only [h];rw [if_neg (by omega)]
end
theorem apF_len : ∀ (f:Nat) {b d out t:Txt} {size:Nat},apF f b d out size=some t→t.length=size
 | 0,b,d,out,t,size,h=>by
   rw [apF] at h
   split at h
   ·cases h;assumption
   ·cases h
 | f+1,b,d,out,t,size,h=>by
   rw [apF] at h
   split at h
   ·split at h
    ·cases h;assumption
    ·cases h
   ·split at h
    ·cases h
    ·split at h
     ·cases h
     ·exact apF_len f h
def headD (d:Txt):Option (Nat×Nat×Txt):=
 match get d with
 | none=>none
 | some (h,k)=>match get (d.drop k) with
   | none=>none
   | some (s,m)=>some (h,s,(d.drop k).drop m)
theorem headD_non {d:Txt} (h:get d=none):headD d=none:=by simp [headD,h]
theorem headD_non2 {d:Txt} {n k:Nat} (h:get d=some (n,k)) (h2:get (d.drop k)=none):headD d=none:=by simp [headD,h,h2]
theorem headD_yes {d:Txt} {n k s m:Nat} (h:get d=some (n,k)) (h2:get (d.drop k)=some (s,m)):headD d=some (n,s,(d.drop k).drop m):=by simp [headD,h,h2]
theorem headD_bounds {d r:Txt} {n s:Nat} (h:headD d=some (n,s,r)):n≤18446744073709551615∧s≤18446744073709551615∧r.length≤d.length:=by
 unfold headD at h
 split at h
 ·cases h
 ·rename_i n k hg
  obtain ⟨h1,_,_⟩:=zAH hg
  split at h
  ·cases h
  ·rename_i s m hg2
   obtain ⟨h4,_,_⟩:=zAH hg2
   simp only [Option.some.injEq,Prod.mk.injEq] at h
   obtain ⟨rfl,rfl,rfl⟩:=h
   exact ⟨h1,h4,by rw [List.length_drop,List.length_drop];omega⟩
def apD (b d:Txt):Txt×Nat:=
 match headD d with
 | none=>([],2)
 | some (h,s,r)=>
   if h≠b.length then ([],6) else if 4096<s then ([],3) else
   match apF r.length b r [] s with
   | none=>([],2)
   | some t=>(t,0)
section
variable {b d r t:Txt} {h s:Nat}
theorem apD_none (hh:headD d=none):apD b d=([],2):=by simp [apD,hh]
theorem apD_base (hh:headD d=some (h,s,r)) (hb:h≠b.length):apD b d=([],6):=by simp only [apD,hh];rw [if_pos hb]
theorem apD_big (hh:headD d=some (h,s,r)) (hb:h=b.length) (hs:4096<s):apD b d=([],3):=by simp only [apD,hh];rw [if_neg (by omega),if_pos hs]
theorem apD_go (hh:headD d=some (h,s,r)) (hb:h=b.length) (hs:s≤4096):apD b d=match apF r.length b r [] s with | none=>([],2) | some t=>(t,0):=by simp only [apD,hh];rw [if_neg (by omega),if_neg (by omega)]
end
theorem apD_len (b d:Txt):(apD b d).1.length≤4096:=by
 unfold apD
 split
 ·exact Nat.zero_le _
 ·split
  ·exact Nat.zero_le _
  ·split
   ·exact Nat.zero_le _
   ·split
    ·exact Nat.zero_le _
    ·rename_i h;have:=apF_len _ h;simp only;omega
end
def textE (s:Txt):Txt:=put s.length++s
def takeP (s:Txt):Option (Txt×Txt):=match get s with | none=>none | some (n,k)=>if n≤(s.drop k).length then some ((s.drop k).take n,(s.drop k).drop n) else none
theorem takeP_none {s:Txt} (h:get s=none):takeP s=none:=by unfold takeP;rw [h]
theorem takeP_short {s:Txt} {n k:Nat} (h:get s=some (n,k)) (hl:(s.drop k).length<n):takeP s=none:=by unfold takeP;rw [h];simp only;rw [if_neg (by omega)]
theorem takeP_yes {s:Txt} {n k:Nat} (h:get s=some (n,k)) (hl:n≤(s.drop k).length):takeP s=some ((s.drop k).take n,(s.drop k).drop n):=by unfold takeP;rw [h];simp only;rw [if_pos hl]
def getN (s:Txt):Nat×Nat:=(get s).getD (0,0)
def takeN (s:Txt):Txt×Nat:=if (getN s).2=0∨s.length-(getN s).2<(getN s).1 then ([],0) else ((s.drop (getN s).2).take (getN s).1,(getN s).2+(getN s).1)
theorem takeN_zero {s:Txt} (h:(getN s).2=0):takeN s=([],0):=by unfold takeN;rw [if_pos (.inl h)]
theorem takeN_short {s:Txt} (_ : ¬ (getN s).2=0) (h2:s.length-(getN s).2<(getN s).1):takeN s=([],0):=by unfold takeN;rw [if_pos (.inr h2)]
theorem takeN_yes {s:Txt} (h : ¬ (getN s).2=0) (h2:(getN s).1≤s.length-(getN s).2):takeN s=((s.drop (getN s).2).take (getN s).1,(getN s).2+(getN s).1):=by
 unfold takeN
 rw [if_neg]
 rintro (h3 | h3)
 ·exact h h3
 ·omega
theorem getN_le (s:Txt):(getN s).2≤s.length:=by
 unfold getN
 cases h:get s with
 | none=>simp
 | some p=>obtain ⟨n,k⟩:=p;exact (zAH h).2.2
theorem getN_num (s:Txt):(getN s).1≤18446744073709551615:=by
 unfold getN
 cases h:get s with
 | none=>simp
 | some p=>obtain ⟨n,k⟩:=p;exact (zAH h).1
def rotr (x n:Nat):Nat:=x / 2 ^ n+x*2 ^ (32-n)%4294967296
theorem rotr_lt {x n:Nat} (hx:x<4294967296) (h0:1≤n) (h1:n≤31):rotr x n<4294967296:=by
 have hp:(2:Nat) ^ (32-n)*2 ^ n=4294967296:=by rw [←Nat.pow_add,show 32-n+n=32 from by omega]
 have hd:x / 2 ^ n<2 ^ (32-n):=Nat.div_lt_of_lt_mul (by rw [Nat.mul_comm,hp];exact hx)
 have hm:x*2 ^ (32-n)%4294967296=2 ^ (32-n)*(x%2 ^ n):=by
  rw [←hp,Nat.mul_comm x,Nat.mul_mod_mul_left]
 have hr:x%2 ^ n+1≤2 ^ n:=Nat.mod_lt _ (Nat.two_pow_pos n)
 have h2:=Nat.mul_le_mul_left (2 ^ (32-n)) hr
 rw [hp,Nat.mul_add,Nat.mul_one] at h2
 rw [rotr,hm]
 omega
def sig0 (x:Nat):Nat:=rotr x 7 ^^^ rotr x 18 ^^^ x / 8
def sig1 (x:Nat):Nat:=rotr x 17 ^^^ rotr x 19 ^^^ x / 1024
def sum0 (a:Nat):Nat:=rotr a 2 ^^^ rotr a 13 ^^^ rotr a 22
def sum1 (e:Nat):Nat:=rotr e 6 ^^^ rotr e 11 ^^^ rotr e 25
theorem xor_lt {a b:Nat} (ha:a<4294967296) (hb:b<4294967296):a ^^^ b<4294967296:=Nat.xor_lt_two_pow (n:=32) ha hb
theorem and_lt {a b:Nat} (hb:b<4294967296):a &&& b<4294967296:=Nat.and_lt_two_pow (n:=32) a hb
def byteAt (b:List UInt8) (i:Nat):Nat:=(b.getD i 0).toNat
theorem zA4 (b:List UInt8) (i:Nat):byteAt b i<256:=(b.getD i 0).toNat_lt
def be4 (b:List UInt8) (j:Nat):Nat:=byteAt b (4*j)*16777216+byteAt b (4*j+1)*65536+byteAt b (4*j+2)*256+byteAt b (4*j+3)
theorem be4_lt (b:List UInt8) (j:Nat):be4 b j<4294967296:=by
 have:=zA4 b (4*j);have:=zA4 b (4*j+1);have:=zA4 b (4*j+2);have:=zA4 b (4*j+3)
 unfold be4;omega
def part4 (b:List UInt8) (i j:Nat):Nat:=
 if i≤4*j then 0 else if i=4*j+1 then byteAt b (4*j) else if i=4*j+2 then byteAt b (4*j)*256+byteAt b (4*j+1)
 else if i=4*j+3 then byteAt b (4*j)*65536+byteAt b (4*j+1)*256+byteAt b (4*j+2) else be4 b j
theorem part4_here (b:List UInt8) (i:Nat):part4 b (i+1) (i / 4)=part4 b i (i / 4)*256+byteAt b i∧part4 b i (i / 4)<16777216:=by
 obtain ⟨j,r,hr,rfl⟩ : ∃ j r,r<4∧i=4*j+r:=⟨i / 4,i%4,by omega,by omega⟩
 have hj:(4*j+r) / 4=j:=by omega
 rw [hj]
 have:=zA4 b (4*j);have:=zA4 b (4*j+1);have:=zA4 b (4*j+2);have:=zA4 b (4*j+3)
 match r,hr with
 | 0,_=>
   unfold part4
   rw [if_neg (by omega),if_pos (by omega),if_pos (by omega)]
   simp
 | 1,_=>
   unfold part4
   rw [if_neg (by omega),if_neg (by omega),if_pos (by omega),if_neg (by omega),if_pos (by omega)]
   omega
 | 2,_=>
   unfold part4
   rw [if_neg (by omega),if_neg (by omega),if_neg (by omega),if_pos (by omega),if_neg (by omega),if_neg (by omega),if_pos (by omega)]
   omega
 | 3,_=>
   unfold part4
   rw [if_neg (by omega),if_neg (by omega),if_neg (by omega),if_neg (by omega),if_neg (by omega),if_neg (by omega),if_neg (by omega),if_pos (by omega)]
   unfold be4
   omega
theorem part4_else (b:List UInt8) (i j:Nat) (h:j≠i / 4):part4 b (i+1) j=part4 b i j:=by
 unfold part4
 rcases Nat.lt_or_ge i (4*j) with hlt | hge
 ·rw [if_pos (by omega),if_pos (by omega)]
 ·rw [if_neg (by omega),if_neg (by omega),if_neg (by omega),if_neg (by omega),if_neg (by omega),if_neg (by omega),if_neg (by omega),if_neg (by omega)]
def parts (b:List UInt8) (i:Nat):List Nat:=(List.range 64).map (part4 b i)
theorem parts_length (b:List UInt8) (i:Nat):(parts b i).length=64:=by simp [parts]
theorem parts_get (b:List UInt8) (i j:Nat) (h:j<64):(parts b i).getD j 0=part4 b i j:=by
 simp [parts,List.getD,h]
theorem parts_zero (b:List UInt8):parts b 0=List.replicate 64 0:=by
 apply List.ext_getElem
 ·simp [parts]
 ·intro j h1 h2
  rw [List.getElem_replicate]
  simp [parts,part4]
theorem parts_step (b:List UInt8) (i:Nat):(parts b i).set (i / 4) ((parts b i).getD (i / 4) 0*256%4294967296+byteAt b i)=parts b (i+1):=by
 apply List.ext_getElem
 ·simp [parts]
 ·intro j h1 h2
  have hj:j<64:=by simpa [parts] using h2
  rw [List.getElem_set]
  split
  ·rename_i he
   subst he
   have:=part4_here b i
   rw [parts_get b i _ hj,Nat.mod_eq_of_lt (by omega)]
   simp [parts,this.1]
  ·rename_i hne
   simp [parts,part4_else b i j (fun h=>hne h.symm)]
def first (b:List UInt8) (k:Nat):List Nat:=(List.range k).map (be4 b)
theorem zBz (b:List UInt8) (k:Nat):(first b k).length=k:=by simp [first]
theorem parts_all (b:List UInt8):parts b 64=first b 16++List.replicate 48 0:=by
 apply List.ext_getElem
 ·simp [parts,first]
 ·intro j h1 h2
  have hj:j<64:=by simpa [parts] using h1
  rw [List.getElem_append]
  split
  ·rename_i h
   have h16:j<16:=by simpa [first] using h
   simp only [parts,first,List.getElem_map,List.getElem_range]
   unfold part4
   rw [if_neg (by omega),if_neg (by omega),if_neg (by omega)]
   split
   ·omega
   ·rfl
  ·rename_i h
   have h16 : ¬ j<16:=by simpa [first] using h
   simp only [parts,List.getElem_map,List.getElem_range,List.getElem_replicate]
   unfold part4
   rw [if_pos (by omega)]
def nextW (l:List Nat):Nat:=(l.getD (l.length-16) 0+l.getD (l.length-7) 0+sig0 (l.getD (l.length-15) 0)+sig1 (l.getD (l.length-2) 0))%4294967296
def sched : Nat→List Nat→List Nat
 | 0,l=>l
 | n+1,l=>sched n (l++[nextW l])
def wordsOf (b:List UInt8):List Nat:=sched 48 (first b 16)
def Fit32 (l:List Nat):Prop := ∀ i,l.getD i 0<4294967296
theorem Fit32.append {l:List Nat} (h:Fit32 l) {x:Nat} (hx:x<4294967296):Fit32 (l++[x]):=by
 intro i
 rcases Nat.lt_or_ge i l.length with hl | hl
 ·have:=h i
  simpa [List.getD,List.getElem?_append_left hl] using this
 ·rcases Nat.eq_or_lt_of_le hl with he | hg
  ·subst he;simpa [List.getD] using hx
  ·simp [List.getD,List.getElem?_eq_none (show (l++[x]).length≤i by simp;omega)]
theorem nextW_lt (l:List Nat):nextW l<4294967296:=Nat.mod_lt _ (by omega)
theorem first_fit (b:List UInt8) (k:Nat):Fit32 (first b k):=by
 intro i
 rcases Nat.lt_or_ge i k with h | h
 ·simp [first,List.getD,h,be4_lt]
 ·simp [first,List.getD,List.getElem?_eq_none (show ((List.range k).map (be4 b)).length≤i by simpa using h)]
theorem getD_left {l r:List Nat} {i:Nat} (h:i<l.length):(l++r).getD i 0=l.getD i 0:=by simp [List.getD,List.getElem?_append_left h]
theorem zDF (l:List Nat) (k x:Nat) (hk:0<k):(l++List.replicate k 0).set l.length x=(l++[x])++List.replicate (k-1) 0:=by
 obtain ⟨m,rfl⟩ : ∃ m,k=m+1:=⟨k-1,by omega⟩
 rw [List.set_append_right _ _ (Nat.le_refl _),Nat.sub_self,List.replicate_succ,List.set_cons_zero,List.append_assoc]
 rfl
theorem sched_length (n:Nat) (l:List Nat):(sched n l).length=l.length+n:=by
 induction n generalizing l with
 | zero=>rfl
 | succ n ih=>rw [sched,ih,List.length_append,List.length_singleton];omega
theorem sched_fit (n:Nat) (l:List Nat) (h:Fit32 l):Fit32 (sched n l):=by
 induction n generalizing l with
 | zero=>exact h
 | succ n ih=>exact ih _ (h.append (nextW_lt l))
theorem zB4 (b:List UInt8):(wordsOf b).length=64:=by rw [wordsOf,sched_length,zBz]
theorem wordsOf_fit (b:List UInt8):Fit32 (wordsOf b):=sched_fit _ _ (first_fit b 16)
structure H8 where
 a:Nat
 b:Nat
 c:Nat
 d:Nat
 e:Nat
 f:Nat
 g:Nat
 h:Nat
def H8.list (s:H8):List Nat:=[s.a,s.b,s.c,s.d,s.e,s.f,s.g,s.h]
structure H8.Fit (s:H8):Prop where
 a:s.a<4294967296
 b:s.b<4294967296
 c:s.c<4294967296
 d:s.d<4294967296
 e:s.e<4294967296
 f:s.f<4294967296
 g:s.g<4294967296
 h:s.h<4294967296
def rndX (s:H8) (k w:Nat):Nat:=(s.h+sum1 s.e+((s.e &&& s.f) ^^^ ((4294967295 ^^^ s.e) &&& s.g))+k+w)%4294967296
def rndY (s:H8):Nat:=(sum0 s.a+((s.a &&& s.b) ^^^ (s.a &&& s.c) ^^^ (s.b &&& s.c)))%4294967296
def rnd (s:H8) (k w:Nat):H8:=⟨(rndX s k w+rndY s)%4294967296,s.a,s.b,s.c,(s.d+rndX s k w)%4294967296,s.e,s.f,s.g⟩
def K256 : List Nat:=[1116352408,1899447441,3049323471,3921009573,961987163,1508970993,2453635748,2870763221,3624381080,310598401,607225278,1426881987,1925078388,2162078206,2614888103,3248222580,3835390401,4022224774,264347078,604807628,770255983,1249150122,1555081692,1996064986,2554220882,2821834349,2952996808,3210313671,3336571891,3584528711,113926993,338241895,666307205,773529912,1294757372,1396182291,1695183700,1986661051,2177026350,2456956037,2730485921,2820302411,3259730800,3345764771,3516065817,3600352804,4094571909,275423344,430227734,506948616,659060556,883997877,958139571,1322822218,1537002063,1747873779,1955562222,2024104815,2227730452,2361852424,2428436474,2756734187,3204031479,3329325298]
theorem zBl : K256.length=64:=rfl
theorem K256_fit : Fit32 K256:=by
 intro i
 rcases Nat.lt_or_ge i 64 with h | h
 ·have : ∀ j:Fin 64,K256.getD j.val 0<4294967296:=by decide +kernel
  exact this ⟨i,h⟩
 ·rw [List.getD,List.getElem?_eq_none (by rw [zBl];exact h)]
  decide
def after (ws:List Nat) (s:H8):Nat→H8
 | 0=>s
 | t+1=>rnd (after ws s t) (K256.getD t 0) (ws.getD t 0)
def add32 (x y:Nat):Nat:=(x+y)%4294967296
def H8.plus (v s:H8):H8:=⟨add32 v.a s.a,add32 v.b s.b,add32 v.c s.c,add32 v.d s.d,add32 v.e s.e,add32 v.f s.f,add32 v.g s.g,add32 v.h s.h⟩
def blockOf (s:H8) (b:List UInt8):H8:=(after (wordsOf b) s 64).plus s
def mixed (v s:List Nat) (i:Nat):List Nat:=(List.zipWith add32 v s).take i++v.drop i
theorem zD0 (v s:List Nat) (h:s.length=v.length) (i:Nat) (hi:i≤v.length):(mixed v s i).length=v.length:=by
 simp [mixed,h];omega
theorem mixed_get (v s:List Nat) (h:s.length=v.length) (i:Nat) (hi:i<v.length):(mixed v s i).getD i 0=v.getD i 0:=by
 have hl:((List.zipWith add32 v s).take i).length=i:=by simp [h];omega
 simp only [mixed,List.getD]
 rw [List.getElem?_append_right (by omega),hl,Nat.sub_self,List.getElem?_drop,Nat.add_zero]
theorem mixed_step (v s:List Nat) (h:s.length=v.length) (i:Nat) (hi:i<v.length):(mixed v s i).set i (add32 (v.getD i 0) (s.getD i 0))=mixed v s (i+1):=by
 have hl:((List.zipWith add32 v s).take i).length=i:=by simp [h];omega
 have hz:i<(List.zipWith add32 v s).length:=by simp [h];omega
 unfold mixed
 rw [List.set_append_right _ _ (by omega),hl,Nat.sub_self,List.drop_eq_getElem_cons hi,List.set_cons_zero,List.take_add_one,List.getElem?_eq_getElem hz,List.getElem_zipWith,List.append_assoc]
 simp [List.getD,List.getElem?_eq_getElem hi,List.getElem?_eq_getElem (show i<s.length by omega)]
theorem mixed_all (v s:H8):mixed v.list s.list 8=(v.plus s).list:=rfl
theorem zBZ (x y:Nat):add32 x y<4294967296:=Nat.mod_lt _ (by omega)
theorem plus_fit (v s:H8):(v.plus s).Fit:=⟨zBZ _ _,zBZ _ _,zBZ _ _,zBZ _ _,zBZ _ _,zBZ _ _,zBZ _ _,zBZ _ _⟩
def H0 : H8:=⟨1779033703,3144134277,1013904242,2773480762,1359893119,2600822924,528734635,1541459225⟩
theorem H0_fit : H0.Fit:=by constructor<;>decide
def padLen (n:Nat):Nat:=(128-8-(n+1)%64)%64
def zAV (n:Nat):List UInt8:=(List.range 8).map fun i=>(8*n / 2 ^ (56-8*i)%256).toUInt8
def padded (l:List UInt8):List UInt8:=l++[128]++List.replicate (padLen l.length) 0++zAV l.length
def blocks : Nat→H8→List UInt8→H8
 | 0,s,_=>s
 | n+1,s,l=>blocks n (blockOf s (l.take 64)) (l.drop 64)
def stateOf (l:List UInt8):H8:=blocks ((padded l).length / 64) H0 (padded l)
def idOf (s:H8):List UInt8:=(List.range 32).map fun i=>(s.list.getD (i / 4) 0 / 2 ^ (24-8*(i%4))%256).toUInt8
def shaOf (l:List UInt8):List UInt8:=idOf (stateOf l)
theorem zAQ (l:List UInt8):(shaOf l).length=32:=by simp [shaOf,idOf]
structure PItL where
 kind:Int
 back:Int
 base:Txt
 data:Txt
def noId' : Txt:=List.replicate 32 0
abbrev Pl := PItL×Nat×Nat
theorem zA5 : noId'.length=32:=by simp [noId']
section
theorem less_irrefl (a:List UInt8):Op.bytesLess a a=false:=by
 induction a with
 | nil=>rfl
 | cons x a ih=>rw [Op.bytesLess,ih];simp
theorem zDO : ∀ {a b:List UInt8},Op.bytesLess a b=true→Op.bytesLess b a=false
 | a,[],h=>by cases a<;>simp [Op.bytesLess] at h
 | [],y::b,_=>rfl
 | x::a,y::b,h=>by
   rw [Op.bytesLess] at h ⊢
   simp only [Bool.or_eq_true,Bool.and_eq_true,decide_eq_true_eq,beq_iff_eq,UInt8.lt_iff_toNat_lt] at h
   simp only [Bool.or_eq_false_iff,Bool.and_eq_false_iff,decide_eq_false_iff_not,UInt8.lt_iff_toNat_lt]
   rcases h with h | ⟨rfl,h⟩
   ·refine ⟨by omega, .inl ?_⟩
    rw [beq_eq_false_iff_ne]
    rintro rfl
    omega
   ·exact ⟨by omega, .inr (zDO h)⟩
theorem zCM : ∀ {a b:List UInt8},Op.bytesLess a b=false→a≠b→Op.bytesLess b a=true
 | [],[],_,hne=>absurd rfl hne
 | x::a,[],_,_=>rfl
 | [],y::b,h,_=>by simp [Op.bytesLess] at h
 | x::a,y::b,h,hne=>by
   rw [Op.bytesLess] at h ⊢
   simp only [Bool.or_eq_false_iff,Bool.and_eq_false_iff,decide_eq_false_iff_not,UInt8.lt_iff_toNat_lt] at h
   simp only [Bool.or_eq_true,Bool.and_eq_true,decide_eq_true_eq,beq_iff_eq,UInt8.lt_iff_toNat_lt]
   by_cases hxy:x=y
   ·subst hxy
    refine .inr ⟨rfl,zCM (h.2.resolve_left (by simp)) (fun e=>hne (by rw [e]))⟩
   ·have:x.toNat≠y.toNat:=fun e=>hxy (UInt8.toNat_inj.1 e)
    exact .inl (by omega)
theorem less_trans : ∀ {a b c:List UInt8},Op.bytesLess a b=true→Op.bytesLess b c=true→Op.bytesLess a c=true
 | a,b,[],_,h=>by cases b<;>simp [Op.bytesLess] at h
 | a,[],z::c,h,_=>by cases a<;>simp [Op.bytesLess] at h
 | [],y::b,z::c,_,_=>rfl
 | x::a,y::b,z::c,h1,h2=>by
   rw [Op.bytesLess] at h1 h2 ⊢
   simp only [Bool.or_eq_true,Bool.and_eq_true,decide_eq_true_eq,beq_iff_eq,UInt8.lt_iff_toNat_lt] at h1 h2 ⊢
   rcases h1 with h1 | ⟨rfl,h1⟩
   ·rcases h2 with h2 | ⟨rfl,h2⟩
    ·exact .inl (by omega)
    ·exact .inl h1
   ·rcases h2 with h2 | ⟨rfl,h2⟩
    ·exact .inl h2
    ·exact .inr ⟨rfl,less_trans h1 h2⟩
theorem cmp_neg : ∀ (a b:List UInt8),(decide (Lib.compareBytes a b<0))=Op.bytesLess a b
 | [],[]=>rfl
 | [],_::_=>rfl
 | _::_,[]=>rfl
 | x::a,y::b=>by
   have ih:=cmp_neg a b
   simp only [Lib.compareBytes,Op.bytesLess]
   by_cases h1:x<y
   ·simp [h1]
   ·by_cases h2:x>y
    ·have hne:(x==y)=false:=by
      rw [beq_eq_false_iff_ne]
      rintro rfl
      exact h1 h2
     simp [h1,h2,hne]
    ·have he:x=y:=UInt8.toNat_inj.1 (by rw [UInt8.lt_iff_toNat_lt] at h1;rw [gt_iff_lt,UInt8.lt_iff_toNat_lt] at h2;omega)
     subst he
     simp only [h1,if_false,decide_false,Bool.false_or,beq_self_eq_true,Bool.true_and]
     exact ih
theorem cmp_zero : ∀ (a b:List UInt8),(decide (Lib.compareBytes a b=0))=(a==b)
 | [],[]=>rfl
 | [],_::_=>rfl
 | _::_,[]=>rfl
 | x::a,y::b=>by
   have ih:=cmp_zero a b
   simp only [Lib.compareBytes]
   by_cases h1:x<y
   ·have hne:(x==y)=false:=by
     rw [beq_eq_false_iff_ne]
     rintro rfl
     rw [UInt8.lt_iff_toNat_lt] at h1
     omega
    simp [h1,hne]
   ·by_cases h2:x>y
    ·have hne:(x==y)=false:=by
      rw [beq_eq_false_iff_ne]
      rintro rfl
      exact h1 h2
     simp [h1,h2,hne]
    ·have he:x=y:=UInt8.toNat_inj.1 (by rw [UInt8.lt_iff_toNat_lt] at h1;rw [gt_iff_lt,UInt8.lt_iff_toNat_lt] at h2;omega)
     subst he
     simp only [h1,h2,if_false]
     rw [ih]
     simp
def hitAt {α:Type} (cmp:α→Int) (l:List α) (p:Nat):Bool:=match l[p]? with | some x=>decide (cmp x=0) | none=>false
theorem hitAt_some {α:Type} {cmp:α→Int} {l:List α} {p:Nat} {x:α} (h:l[p]?=some x):hitAt cmp l p=decide (cmp x=0):=by unfold hitAt;rw [h]
theorem hitAt_none {α:Type} {cmp:α→Int} {l:List α} {p:Nat} (h:l.length≤p):hitAt cmp l p=false:=by unfold hitAt;rw [List.getElem?_eq_none h]
section
variable {α:Type} (key:α→List UInt8)
def SortedK (l:List α):Prop:=l.Pairwise (fun a b=>Op.bytesLess (key a) (key b)=true)
def posK (l:List α) (n:List UInt8):Nat:=(l.takeWhile (fun r=>Op.bytesLess (key r) n)).length
def hasK (l:List α) (n:List UInt8):Bool:=l.any (fun r=>key r==n)
def dropK (l:List α) (n:List UInt8):List α:=l.filter (fun r => !(key r==n))
def insK (l:List α) (x:α):List α:=l.take (posK key l (key x))++[x]++l.drop (posK key l (key x))
def putK (l:List α) (x:α):List α:=if hasK key l (key x) then l.set (posK key l (key x)) x else insK key l x
def setK (x:α):Bool→List α→List α
 | d,[]=>if d then [] else [x]
 | d,y::r=>(if !d && !Op.bytesLess (key y) (key x) then [x] else [])++(if key y==key x then [] else [y])++setK x (d || !Op.bytesLess (key y) (key x)) r
end
section
variable {α:Type} {key:α→List UInt8} {l:List α} {n:List UInt8} {x y:α}
theorem posK_le : posK key l n≤l.length:=(List.takeWhile_sublist _).length_le
theorem zBX (h:Op.bytesLess (key y) n=true):posK key (y::l) n=posK key l n+1:=by simp [posK,List.takeWhile_cons,h]
theorem zBn (h:Op.bytesLess (key y) n=false):posK key (y::l) n=0:=by simp [posK,List.takeWhile_cons,h]
theorem zBT (h:SortedK key (y::l)):SortedK key l:=(List.pairwise_cons.1 h).2
theorem zCl (h:SortedK key (y::l)) : ∀ z∈l,Op.bytesLess (key y) (key z)=true:=(List.pairwise_cons.1 h).1
theorem zDZ (hs:SortedK key (y::l)) (hy:Op.bytesLess (key y) n=false) : ∀ z∈y::l,Op.bytesLess (key z) n=false:=by
 intro z hz
 rcases List.mem_cons.1 hz with rfl | hz
 ·exact hy
 ·cases h:Op.bytesLess (key z) n with
  | false=>rfl
  | true=>
    have:=less_trans (zCl hs z hz) h
    rw [hy] at this;cases this
theorem sorted_at (hs:SortedK key l) {i:Nat} (hy:l[i]?=some y):Op.bytesLess (key y) n=decide (i<posK key l n):=by
 induction l generalizing i with
 | nil=>simp at hy
 | cons z l ih=>
   cases hz:Op.bytesLess (key z) n with
   | true=>
     rw [zBX hz]
     cases i with
     | zero=>simp at hy;subst hy;rw [hz];simp
     | succ i=>rw [ih (zBT hs) (by simpa using hy)];simp
   | false=>
     rw [zBn hz]
     have:=zDZ hs hz y (List.mem_of_getElem? hy)
     rw [this];simp
theorem less_ne {a b:List UInt8} (h:Op.bytesLess a b=true):(a==b)=false:=by
 rw [beq_eq_false_iff_ne]
 rintro rfl
 rw [less_irrefl] at h;cases h
theorem hasK_at (hs:SortedK key l):hasK key l n=(match l[posK key l n]? with | some y=>key y==n | none=>false):=by
 induction l with
 | nil=>rfl
 | cons z l ih=>
   cases hz:Op.bytesLess (key z) n with
   | true=>
     rw [zBX hz]
     have:=ih (zBT hs)
     simp only [hasK,List.any_cons,less_ne hz,Bool.false_or] at this ⊢
     rw [this]
     simp
   | false=>
     rw [zBn hz]
     simp only [hasK,List.any_cons,List.getElem?_cons_zero]
     cases he:(key z==n) with
     | true=>rfl
     | false=>
       rw [Bool.false_or,List.any_eq_false]
       intro y hy hk
       have h1:=zCl hs y hy
       have h2:key y=n:=by simpa using hk
       rw [h2] at h1
       rw [hz] at h1;cases h1
theorem hasK_mem (h:hasK key l n=false) : ∀ y∈l,(key y==n)=false:=by
 intro y hy
 have:=List.any_eq_false.1 h y hy
 simpa using this
theorem setK_true : setK key x true l=dropK key l (key x):=by
 induction l with
 | nil=>rfl
 | cons y l ih=>
   simp only [setK,dropK,List.filter_cons,Bool.not_true,Bool.false_and,Bool.false_eq_true,if_false,List.nil_append,Bool.true_or]
   rw [ih]
   cases key y==key x<;>simp [dropK]
theorem dropK_none (h:hasK key l n=false):dropK key l n=l:=List.filter_eq_self.2 fun y hy=>by rw [hasK_mem h y hy];rfl
theorem zD3 (h : ∀ z∈l,Op.bytesLess n (key z)=true):hasK key l n=false:=List.any_eq_false.2 fun z hz=>by
 have:=less_ne (h z hz)
 rw [beq_eq_false_iff_ne] at this
 simpa using fun e=>this e.symm
theorem setK_false (hs:SortedK key l):setK key x false l=putK key l x:=by
 induction l with
 | nil=>rfl
 | cons z l ih=>
   cases hz:Op.bytesLess (key z) (key x) with
   | true=>
     have hne:=less_ne hz
     have h2:hasK key (z::l) (key x)=hasK key l (key x):=by simp [hasK,hne]
     simp only [setK,hz,hne,Bool.not_true,Bool.and_false,Bool.false_eq_true,if_false,List.nil_append,Bool.or_false]
     rw [ih (zBT hs)]
     unfold putK insK
     rw [h2,zBX hz]
     cases hasK key l (key x)<;>simp
   | false=>
     simp only [setK,hz,Bool.not_false,Bool.and_self,if_true,Bool.or_true]
     rw [setK_true]
     unfold putK insK
     rw [zBn hz]
     cases he:(key z==key x) with
     | true=>
       have hzn:key z=key x:=by simpa using he
       have h0:hasK key l (key x)=false:=zD3 (by rw [←hzn];exact zCl hs)
       rw [dropK_none h0]
       simp [hasK,he]
     | false=>
       have h0:hasK key (z::l) (key x)=false:=by
        rw [hasK_at hs,zBn hz]
        simpa using he
       have h1:hasK key l (key x)=false:=by
        simp only [hasK,List.any_cons,he,Bool.false_or] at h0 ⊢
        exact h0
       rw [dropK_none h1,h0]
       simp
theorem sorted_drop (hs:SortedK key l):SortedK key (dropK key l n):=List.Pairwise.filter _ hs
theorem mem_setK {d:Bool} (h:y∈setK key x d l):y∈l∨y=x:=by
 induction l generalizing d with
 | nil=>cases d<;>simp [setK] at h;exact .inr h
 | cons z l ih=>
   simp only [setK,List.mem_append] at h
   rcases h with (h1 | h1) | h1
   ·split at h1
    ·simp at h1;exact .inr h1
    ·simp at h1
   ·split at h1
    ·simp at h1
    ·simp at h1;exact .inl (by simp [h1])
   ·rcases ih h1 with h2 | h2
    ·exact .inl (by simp [h2])
    ·exact .inr h2
theorem dropK_mem (h:y∈dropK key l n):y∈l∧key y≠n:=by
 simp only [dropK,List.mem_filter] at h
 exact ⟨h.1,by simpa using h.2⟩
theorem sorted_setK (hs:SortedK key l):SortedK key (setK key x false l):=by
 induction l with
 | nil=>exact List.pairwise_singleton _ _
 | cons z l ih=>
   cases hz:Op.bytesLess (key z) (key x) with
   | true=>
     have hne:=less_ne hz
     simp only [setK,hz,hne,Bool.not_true,Bool.and_false,Bool.false_eq_true,if_false,List.nil_append,Bool.or_false,List.singleton_append]
     refine List.pairwise_cons.2 ⟨fun y hy=>?_,ih (zBT hs)⟩
     rcases mem_setK hy with h1 | rfl
     ·exact zCl hs y h1
     ·exact hz
   | false=>
     have hall:=zDZ hs hz
     have hd:setK key x false (z::l)=x::dropK key (z::l) (key x):=by
      simp only [setK,hz,Bool.not_false,Bool.and_self,if_true,Bool.or_true]
      rw [setK_true]
      cases hne:(key z==key x)<;>simp [dropK,List.filter_cons,hne]
     rw [hd]
     refine List.pairwise_cons.2 ⟨fun y hy=>?_,sorted_drop hs⟩
     obtain ⟨h1,h2⟩:=dropK_mem hy
     exact zCM (hall y h1) h2
theorem sorted_put (hs:SortedK key l):SortedK key (putK key l x):=by rw [←setK_false hs];exact sorted_setK hs
theorem find_at (hs:SortedK key l):l.find? (fun r=>key r==n)=if hasK key l n then l[posK key l n]? else none:=by
 induction l with
 | nil=>rfl
 | cons z l ih=>
   cases hz:Op.bytesLess (key z) n with
   | true=>
     have hne:=less_ne hz
     have h2:hasK key (z::l) n=hasK key l n:=by simp [hasK,hne]
     rw [h2,zBX hz,List.find?_cons,hne]
     simpa using ih (zBT hs)
   | false=>
     cases he:(key z==n) with
     | true=>rw [zBn hz,List.find?_cons,he];simp [hasK,he]
     | false=>
       have h0:hasK key (z::l) n=false:=by
        rw [hasK_at hs,zBn hz]
        simpa using he
       rw [h0]
       simp only [Bool.false_eq_true,if_false,List.find?_eq_none]
       intro y hy
       rw [hasK_mem h0 y hy];simp
theorem hasK_hit (hs:SortedK key l):hasK key l n=hitAt (fun x=>Lib.compareBytes (key x) n) l (posK key l n):=by
 rw [hasK_at hs]
 unfold hitAt
 cases l[posK key l n]? with
 | none=>rfl
 | some x=>exact (cmp_zero _ _).symm
theorem putK_len : (putK key l x).length≤l.length+1:=by
 unfold putK insK
 split
 ·simp
 ·simp;omega
theorem putK_mem (h:y∈putK key l x):y∈l∨y=x:=by
 unfold putK insK at h
 split at h
 ·rcases List.mem_or_eq_of_mem_set h with h | h
  ·exact .inl h
  ·exact .inr h
 ·simp only [List.mem_append,List.mem_singleton] at h
  rcases h with (h | h) | h
  ·exact .inl (List.mem_of_mem_take h)
  ·exact .inr h
  ·exact .inl (List.mem_of_mem_drop h)
end
end
structure StL where
 id:List UInt8
 text:List UInt8
def stitC (r:StL):List Value:=(u8s r.id).toList++[.string (B r.text)]
def StitOk (r:StL):Prop:=r.id.length=32∧r.text.length≤9223372036854775807
theorem zAW (l:List UInt8):(u8s l).toList.length=l.length:=by simp [u8s]
theorem zA8 {r:StL} (h:StitOk r):(stitC r).length=33:=by unfold stitC;rw [List.length_append,zAW,h.1];rfl
theorem zDf (r:StL) : ∀ u∈stitC r,u.oneCell'=true:=by
 intro u hu
 simp only [stitC,List.mem_append,List.mem_cons,List.not_mem_nil,or_false] at hu
 rcases hu with hu | rfl
 ·simp only [u8s,List.toList_toArray,List.mem_map] at hu
  obtain ⟨c,_,rfl⟩:=hu
  rfl
 ·rfl
def zStit : Value := .agg (stitC ⟨List.replicate 32 0,[]⟩).toArray
theorem Tryz.stitTy : SliceTy Tryz.prog 157 165 zStit 33 48:=⟨Tryz.underlying157,info_parts (by kernel_rfl),by kernel_rfl,by omega⟩
theorem stitC_id {w:World} {g o:Nat} {r:StL} (h:w.rangeAt g o (stitC r)):w.rangeAt g o (u8s r.id).toList:=fun j u hu=>h j u (by
 unfold stitC
 rw [List.getElem?_append_left (List.getElem?_eq_some_iff.1 hu).1]
 exact hu)
theorem stitC_text {w:World} {g o:Nat} {r:StL} (hr:r.id.length=32) (h:w.rangeAt g o (stitC r)):w.cell? ⟨g,o+32,none⟩=some (.string (B r.text)):=h 32 _ (by
 unfold stitC
 rw [List.getElem?_append_right (by rw [zAW,hr];omega),zAW,hr]
 rfl)
structure EntL where
 name:Txt
 kind:Int
 id:Txt
structure ObjL where
 kind:Int
 data:Txt
 ents:List EntL
 tree:Txt
 pars:List Txt
 time:Nat
 text:Txt
 target:Txt
 of_:Int
 name:Txt
def noId : Txt:=List.replicate 32 0
def nameB (s:Txt):Bool:=decide (1≤s.length)&&decide (s.length≤40)&&s.all (fun c => !(c==0) && !(c==47))
def kindB (n:Int):Bool:=decide (1≤n)&&decide (n≤4)
def entB (e:EntL):Bool:=nameB e.name&&(e.kind==1||e.kind==2)
def entAt (l:List EntL) (i:Nat):Bool:=match l[i]? with | none=>true | some e=>entB e&&(match i with | 0=>true | k+1=>match l[k]? with | none=>true | some p=>Op.bytesLess p.name e.name)
def entsB (l:List EntL):Bool:=(List.range l.length).all (entAt l)&&decide (l.length≤64)
def blobN (o:ObjL):Bool:=o.data.isEmpty
def treeN (o:ObjL):Bool:=o.ents.length==0
def commitN (o:ObjL):Bool:=decide (o.tree=noId)&&o.pars.length==0&&o.time==0&&o.text.isEmpty
def tagN (o:ObjL):Bool:=decide (o.target=noId)&&o.of_==0&&o.name.isEmpty
def aloneB (o:ObjL):Bool:=if o.kind=1 then treeN o&&commitN o&&tagN o else if o.kind=2 then blobN o&&commitN o&&tagN o else if o.kind=3 then blobN o&&treeN o&&tagN o else blobN o&&treeN o&&commitN o
def mayB (o:ObjL):Bool:=if o.kind=2 then aloneB o&&entsB o.ents else if o.kind=3 then aloneB o&&decide (o.pars.length≤8) else if o.kind=4 then aloneB o&&kindB o.of_&&nameB o.name else o.kind==1&&aloneB o
def byteK (n:Int):UInt8:=UInt8.ofNat (n%256).toNat
def entE (e:EntL):Txt:=byteK e.kind::(textE e.name++e.id)
def entsE (l:List EntL):Txt:=(l.map entE).flatten
def commitE (o:ObjL):Txt:=o.tree++put o.pars.length++o.pars.flatten++put o.time++textE o.text
def tagE (o:ObjL):Txt:=byteK o.of_::(o.target++textE o.name)
def bodyO (o:ObjL):Txt:=if o.kind=1 then o.data else if o.kind=2 then entsE o.ents else if o.kind=3 then commitE o else if o.kind=4 then tagE o else []
def bodyR (o:ObjL):Txt:=o.data++entsE o.ents++(if o.kind=3 then commitE o else if o.kind=4 then tagE o else [])
def wholeO (o:ObjL):Txt:=byteK o.kind::textE (bodyO o)
def encO (o:ObjL):Option Txt:=if mayB o=true∧(wholeO o).length≤4096 then some (wholeO o) else none
theorem zEb {o:ObjL} (h:mayB o=true):o.kind=1∨o.kind=2∨o.kind=3∨o.kind=4:=by
 unfold mayB at h
 split at h
 ·exact .inr (.inl ‹_›)
 ·split at h
  ·exact .inr (.inr (.inl ‹_›))
  ·split at h
   ·exact .inr (.inr (.inr ‹_›))
   ·simp at h;exact .inl h.1
theorem may_alone {o:ObjL} (h:mayB o=true):aloneB o=true:=by
 unfold mayB at h
 split at h
 ·simp at h;exact h.1
 ·split at h
  ·simp at h;exact h.1
  ·split at h
   ·simp at h;exact h.1.1
   ·simp at h;exact h.2
theorem zBH {o:ObjL} (h:blobN o=true):o.data=[]:=by unfold blobN at h;exact List.isEmpty_iff.1 h
theorem zBJ {o:ObjL} (h:treeN o=true):o.ents=[]:=by unfold treeN at h;simpa using h
theorem entsE_nil : entsE []=[]:=rfl
theorem body_same {o:ObjL} (h:mayB o=true):bodyR o=bodyO o:=by
 have ha:=may_alone h
 unfold aloneB at ha
 unfold bodyR bodyO
 rcases zEb h with hk | hk | hk | hk
 ·rw [hk] at ha ⊢
  simp at ha
  rw [zBJ ha.1.1]
  simp [entsE_nil]
 ·rw [hk] at ha ⊢
  simp at ha
  rw [zBH ha.1.1]
  simp
 ·rw [hk] at ha ⊢
  simp at ha
  rw [zBH ha.1.1,zBJ ha.1.2]
  simp [entsE_nil]
 ·rw [hk] at ha ⊢
  simp at ha
  rw [zBH ha.1.1,zBJ ha.1.2]
  simp [entsE_nil]
theorem entsE_snoc (l:List EntL) (e:EntL):entsE (l++[e])=entsE l++entE e:=by simp [entsE]
theorem take_snoc {α:Type} {l:List α} {k:Nat} {x:α} (h:l[k]?=some x):l.take (k+1)=l.take k++[x]:=by rw [List.take_add_one,h];rfl
theorem entsE_take {l:List EntL} {k:Nat} {e:EntL} (h:l[k]?=some e):entsE (l.take (k+1))=entsE (l.take k)++entE e:=by rw [take_snoc h,entsE_snoc]
theorem flat_take {l:List Txt} {k:Nat} {x:Txt} (h:l[k]?=some x):(l.take (k+1)).flatten=(l.take k).flatten++x:=by rw [take_snoc h];simp
theorem zEk {s:Txt} (h:nameB s=true):s.length≤40:=by unfold nameB at h;simp at h;exact h.1.2
theorem ents_fine {l:List EntL} (h:entsB l=true):l.length≤64 ∧ ∀ e∈l,nameB e.name=true∧(e.kind=1∨e.kind=2):=by
 unfold entsB at h
 rw [Bool.and_eq_true,List.all_eq_true] at h
 refine ⟨of_decide_eq_true h.2,fun e he=>?_⟩
 obtain ⟨i,hi,rfl⟩:=List.getElem_of_mem he
 have h1:=h.1 i (by simpa using hi)
 unfold entAt at h1
 rw [List.getElem?_eq_getElem hi] at h1
 simp only [Bool.and_eq_true] at h1
 have h2:=h1.1
 unfold entB at h2
 simp at h2
 exact h2
theorem flat_len {l:List Txt} (h : ∀ x∈l,x.length=32):l.flatten.length=32*l.length:=by
 induction l with
 | nil=>rfl
 | cons x l ih=>
   have h1:=h x (by simp)
   have h2:=ih fun x hx=>h x (by simp [hx])
   simp only [List.flatten_cons,List.length_append,List.length_cons]
   omega
abbrev Rd := Txt×Bool
def rBytes (n:Nat) (r:Rd):Txt×Rd:=if r.2=true∨r.1.length<n then ([],(r.1,true)) else (r.1.take n,(r.1.drop n,false))
def rNum (r:Rd):Nat×Rd:=if r.2=true then (0,(r.1,true)) else match get r.1 with | none=>(0,(r.1,true)) | some (n,k)=>(n,(r.1.drop k,false))
def rText (r:Rd):Txt×Rd:=if r.2=true then ([],(r.1,true)) else match takeP r.1 with | none=>([],(r.1,true)) | some (t,q)=>(t,(q,false))
def idOr (b:Txt):Txt:=if b=[] then noId else b
def rId (r:Rd):Txt×Rd:=(idOr (rBytes 32 r).1,(rBytes 32 r).2)
def rKind (r:Rd):Nat×Rd:=(if (rBytes 1 r).2.2=true then 0 else ((rBytes 1 r).1.headD 0).toNat,(rBytes 1 r).2)
def rEnt (r:Rd):EntL×Rd:=(⟨(rText (rKind r).2).1,(rKind r).1,(rId (rText (rKind r).2).2).1⟩,(rId (rText (rKind r).2).2).2)
def rTree : Nat→Rd→List EntL→List EntL×Rd
 | 0,r,acc=>(acc,r)
 | f+1,r,acc=>if r.2=true∨r.1=[] then (acc,r) else rTree f (rEnt r).2 (acc++[(rEnt r).1])
def rPars : Nat→Rd→List Txt→List Txt×Rd
 | 0,r,acc=>(acc,r)
 | n+1,r,acc=>if r.2=true then (acc,r) else rPars n (rId r).2 (acc++[(rId r).1])
def nObj (k:Nat):ObjL:=⟨k,[],[],noId,[],0,[],noId,0,[]⟩
def badIf (b:Bool) (r:Rd):Rd:=if b=true then (r.1,true) else r
def rCommit (k:Nat) (r:Rd):ObjL×Rd:=
 let i:=rId r
 let n:=rNum i.2
 let p:=rPars n.1 (badIf (decide (8<n.1)) n.2) []
 let t:=rNum p.2
 let x:=rText (badIf (decide (4294967295<t.1)) t.2)
 (⟨k,[],[],i.1,p.1,t.1%4294967296,x.1,noId,0,[]⟩,x.2)
def rTag (k:Nat) (r:Rd):ObjL×Rd:=
 let f:=rKind r
 let i:=rId f.2
 let x:=rText i.2
 (⟨k,[],[],noId,[],0,[],i.1,f.1,x.1⟩,x.2)
def rBlob (k:Nat) (r:Rd):ObjL×Rd:=(⟨k,(rBytes r.1.length r).1,[],noId,[],0,[],noId,0,[]⟩,(rBytes r.1.length r).2)
def rTr (k:Nat) (r:Rd):ObjL×Rd:=(⟨k,[],(rTree r.1.length r []).1,noId,[],0,[],noId,0,[]⟩,(rTree r.1.length r []).2)
def readO (k:Nat) (r:Rd):ObjL×Rd:=if k=2 then rTr k r else if k=3 then rCommit k r else if k=4 then rTag k r else rBlob k r
def decO (s:Txt):Option ObjL:=match s with
 | []=>none
 | c::q=>if 4096<(c::q).length then none else match takeP q with
   | none=>none
   | some (t,b)=>if b≠[] then none else if (readO c.toNat (t,false)).2.2=true∨(readO c.toNat (t,false)).2.1≠[]∨mayB (readO c.toNat (t,false)).1=false then none else some (readO c.toNat (t,false)).1
def StIs (x:StL):Prop:=x.id=shaOf x.text ∧ ∃ o,decO x.text=some o
structure StoOk (s:List StL):Prop where
 each : ∀ x∈s,StIs x
 sorted:SortedK StL.id s
 few:s.length≤500000
theorem zB1 {t:Txt} {o:ObjL} (h:decO t=some o):1≤t.length∧t.length≤4096:=by
 unfold decO at h
 split at h
 ·cases h
 ·split at h
  ·cases h
  ·rename_i h2
   exact ⟨by simp,by omega⟩
theorem StIs.ok {x:StL} (h:StIs x):StitOk x:=by
 obtain ⟨o,ho⟩:=h.2
 have:=zB1 ho
 exact ⟨by rw [h.1];exact zAQ _,by omega⟩
theorem StoOk.ok {s:List StL} (h:StoOk s) : ∀ x∈s,StitOk x:=fun x hx=>(h.each x hx).ok
theorem StoOk.nil : StoOk []:=⟨fun x hx=>by simp at hx,List.Pairwise.nil,by simp⟩
def putS (s:List StL) (t:Txt):List StL:=match decO t with
 | none=>s
 | some _=>if hasK StL.id s (shaOf t) then s else insK StL.id s ⟨shaOf t,t⟩
def putI (t:Txt):Txt:=match decO t with
 | none=>List.replicate 32 0
 | some _=>shaOf t
def putC (t:Txt):Nat:=match decO t with
 | none=>2
 | some _=>0
theorem putS_eq (s:List StL) {t:Txt} (h:hasK StL.id s (shaOf t)=false):insK StL.id s ⟨shaOf t,t⟩=putK StL.id s ⟨shaOf t,t⟩:=by unfold putK;rw [h];rfl
theorem StoOk.put {s:List StL} (h:StoOk s) (t:Txt) (hf:s.length<500000):StoOk (putS s t):=by
 unfold putS
 split
 ·exact h
 ·rename_i o ho
  split
  ·exact h
  ·rename_i hh
   rw [putS_eq s (by simpa using hh)]
   refine ⟨fun x hx=>?_,sorted_put h.sorted,Nat.le_trans putK_len (by omega)⟩
   rcases putK_mem hx with h1 | h1
   ·exact h.each x h1
   ·subst h1
    exact ⟨rfl,o,ho⟩
def getS (s:List StL) (n:Txt):Option StL:=s.find? fun r=>r.id==n
theorem hasK_atS {s:List StL} {n:Txt} {P:Nat} (h:hasK StL.id s n=true) (hG:getS s n=s[P]?):(s[P]?).isSome=true:=by
 rw [←hG]
 unfold getS
 unfold hasK at h
 rw [List.any_eq_true] at h
 obtain ⟨y,hy,hk⟩:=h
 rw [List.find?_isSome]
 exact ⟨y,hy,hk⟩
theorem getS_at {s:List StL} (h:StoOk s) (n:Txt):getS s n=if hasK StL.id s n then s[posK StL.id s n]? else none:=find_at h.sorted
section
abbrev Ahd := Txt×Nat
def baseR (s:List StL) (a:List Ahd) (x:PItL):Ahd ⊕ Nat:=
 if x.kind=2 then (match getS s x.base with | none => .inr 6 | some e => .inl (e.text,1))
 else if x.kind≠1∨x.back<1∨(a.length:Int)<x.back then .inr 2
 else match a[a.length-x.back.toNat]? with
  | none => .inr 2
  | some (t,n)=>if 8≤n then .inr 3 else .inl (t,n+1)
def oneR (s:List StL) (a:List Ahd) (x:PItL):Ahd ⊕ Nat:=
 if x.kind=0 then (if (decO x.data).isSome then .inl (x.data,0) else .inr 2)
 else match baseR s a x with
  | .inr e => .inr e
  | .inl (b,n)=>if (apD b x.data).2≠0 then .inr (apD b x.data).2 else if (decO (apD b x.data).1).isSome then .inl ((apD b x.data).1,n) else .inr 2
def resR (s:List StL):List PItL→List Ahd→List Ahd ⊕ Nat
 | [],a => .inl a
 | x::l,a=>match oneR s a x with
   | .inr e => .inr e
   | .inl t=>resR s l (a++[t])
def resV (r:List Ahd ⊕ Nat):List Txt×Nat:=match r with
 | .inl a=>(a.map (·.1),0)
 | .inr e=>([],e)
section
variable {s:List StL} {a:List Ahd} {x:PItL}
theorem zDB (h:x.kind=2):baseR s a x=match getS s x.base with | none => .inr 6 | some e => .inl (e.text,1):=by unfold baseR;rw [if_pos h]
theorem baseR_bad (h:x.kind≠2) (h2:x.kind≠1∨x.back<1∨(a.length:Int)<x.back):baseR s a x = .inr 2:=by unfold baseR;rw [if_neg h,if_pos h2]
theorem baseR_ofs {t:Txt} {n:Nat} (h:x.kind=1) (h1:1≤x.back) (h2:x.back≤a.length) (h3:a[a.length-x.back.toNat]?=some (t,n)):baseR s a x=if 8≤n then .inr 3 else .inl (t,n+1):=by
 unfold baseR
 rw [if_neg (by omega),if_neg (by omega),h3]
theorem oneR_full (h:x.kind=0):oneR s a x=if (decO x.data).isSome then .inl (x.data,0) else .inr 2:=by unfold oneR;rw [if_pos h]
theorem zEm {e:Nat} (h:x.kind≠0) (hb:baseR s a x = .inr e):oneR s a x = .inr e:=by unfold oneR;rw [if_neg h,hb]
theorem zCq {b:Txt} {n:Nat} (h:x.kind≠0) (hb:baseR s a x = .inl (b,n)):oneR s a x=if (apD b x.data).2≠0 then .inr (apD b x.data).2 else if (decO (apD b x.data).1).isSome then .inl ((apD b x.data).1,n) else .inr 2:=by unfold oneR;rw [if_neg h,hb]
theorem resR_err {e:Nat} {l:List PItL} (h:oneR s a x = .inr e):resR s (x::l) a = .inr e:=by rw [resR,h]
theorem resR_step {t:Ahd} {l:List PItL} (h:oneR s a x = .inl t):resR s (x::l) a=resR s l (a++[t]):=by rw [resR,h]
end
def AhdOk (a:List Ahd):Prop := ∀ t∈a,(decO t.1).isSome=true∧t.2≤8
theorem decO_le {t:Txt} (h:(decO t).isSome=true):t.length≤4096:=by
 obtain ⟨o,ho⟩:=Option.isSome_iff_exists.1 h
 exact (zB1 ho).2
theorem baseR_ok {s:List StL} (hs:StoOk s) {a:List Ahd} (ha:AhdOk a) {x:PItL} {b:Txt} {n:Nat} (h:baseR s a x = .inl (b,n)):b.length≤4096∧n≤8:=by
 unfold baseR at h
 split at h
 ·split at h
  ·cases h
  ·rename_i e he
   cases h
   obtain ⟨o,ho⟩:=(hs.each e (List.mem_of_find?_eq_some he)).2
   exact ⟨(zB1 ho).2,by omega⟩
 ·split at h
  ·cases h
  ·split at h
   ·cases h
   ·rename_i t m hm
    split at h
    ·cases h
    ·cases h
     have:=ha _ (List.mem_of_getElem? hm)
     exact ⟨decO_le this.1,by omega⟩
theorem oneR_ok {s:List StL} (hs:StoOk s) {a:List Ahd} (ha:AhdOk a) {x:PItL} {t:Ahd} (h:oneR s a x = .inl t):(decO t.1).isSome=true∧t.2≤8:=by
 unfold oneR at h
 split at h
 ·split at h
  ·cases h;exact ⟨by assumption,by simp⟩
  ·cases h
 ·split at h
  ·cases h
  ·rename_i b n hb
   split at h
   ·cases h
   ·split at h
    ·cases h;exact ⟨by assumption,(baseR_ok hs ha hb).2⟩
    ·cases h
theorem AhdOk.snoc {a:List Ahd} (h:AhdOk a) {t:Ahd} (ht:(decO t.1).isSome=true∧t.2≤8):AhdOk (a++[t]):=fun u hu=>by
 rcases List.mem_append.1 hu with hu | hu
 ·exact h u hu
 ·rw [List.mem_singleton.1 hu];exact ht
structure Trk (l:List PItL) (a:List Ahd):Prop where
 le:a.length≤l.length
 each : ∀ (j:Nat) (t:Ahd),a[j]?=some t → ∃ x:PItL,l[j]?=some x∧((x.kind=1∧1≤x.back∧x.back≤(j:Int) ∧ ∃ u:Ahd,a[j-x.back.toNat]?=some u∧t.2=u.2+1)∨(x.kind=2∧t.2=1)∨(x.kind=0∧t.2=0))
theorem oneR_trk {s:List StL} {a:List Ahd} {x:PItL} {t:Ahd} (h:oneR s a x = .inl t):(x.kind=1∧1≤x.back∧x.back≤(a.length:Int) ∧ ∃ u:Ahd,a[a.length-x.back.toNat]?=some u∧t.2=u.2+1)∨(x.kind=2∧t.2=1)∨(x.kind=0∧t.2=0):=by
 unfold oneR at h
 split at h
 ·split at h
  ·cases h;exact .inr (.inr ⟨by assumption,rfl⟩)
  ·cases h
 ·split at h
  ·cases h
  ·rename_i b n hb
   have ht:t.2=n:=by
    split at h
    ·cases h
    ·split at h
     ·cases h;rfl
     ·cases h
   unfold baseR at hb
   split at hb
   ·split at hb
    ·cases hb
    ·cases hb;exact .inr (.inl ⟨by assumption,ht⟩)
   ·split at hb
    ·cases hb
    ·split at hb
     ·cases hb
     ·rename_i u m hu
      split at hb
      ·cases hb
      ·cases hb
       exact .inl ⟨by omega,by omega,by omega,_,hu,ht⟩
theorem Trk.nil (l:List PItL):Trk l []:=⟨Nat.zero_le _,fun j t h=>by simp at h⟩
theorem Trk.ext {l:List PItL} {a:List Ahd} (h:Trk l a) {x:PItL} (hx:l[a.length]?=some x) {t:Ahd} (ht:(x.kind=1∧1≤x.back∧x.back≤(a.length:Int) ∧ ∃ u:Ahd,a[a.length-x.back.toNat]?=some u∧t.2=u.2+1)∨(x.kind=2∧t.2=1)∨(x.kind=0∧t.2=0)):Trk l (a++[t]):=by
 have hlt:=(List.getElem?_eq_some_iff.1 hx).1
 refine ⟨by rw [List.length_append,List.length_singleton];omega,fun j u hu=>?_⟩
 by_cases hj:j<a.length
 ·rw [List.getElem?_append_left hj] at hu
  obtain ⟨y,hy,h1 | h1 | h1⟩:=h.each j u hu
  ·obtain ⟨k1,k2,k3,v,hv,k4⟩:=h1
   exact ⟨y,hy, .inl ⟨k1,k2,k3,v,by rw [List.getElem?_append_left (by omega)];exact hv,k4⟩⟩
  ·exact ⟨y,hy, .inr (.inl h1)⟩
  ·exact ⟨y,hy, .inr (.inr h1)⟩
 ·have hj2:=(List.getElem?_eq_some_iff.1 hu).1
  rw [List.length_append,List.length_singleton] at hj2
  obtain rfl:j=a.length:=by omega
  rw [List.getElem?_append_right (Nat.le_refl _),Nat.sub_self] at hu
  simp only [List.getElem?_cons_zero,Option.some.injEq] at hu
  subst hu
  rcases ht with h1 | h1 | h1
  ·obtain ⟨k1,k2,k3,v,hv,k4⟩:=h1
   exact ⟨x,hx, .inl ⟨k1,k2,k3,v,by rw [List.getElem?_append_left (by omega)];exact hv,k4⟩⟩
  ·exact ⟨x,hx, .inr (.inl h1)⟩
  ·exact ⟨x,hx, .inr (.inr h1)⟩
theorem Trk.snoc {l:List PItL} {a:List Ahd} (h:Trk l a) {s:List StL} {x:PItL} (hx:l[a.length]?=some x) {t:Ahd} (ht:oneR s a x = .inl t):Trk l (a++[t]):=h.ext hx (oneR_trk ht)
end
theorem zDE : (#[.int .u8 0, .int .u8 0, .int .u8 0, .int .u8 0, .int .u8 0, .int .u8 0, .int .u8 0, .int .u8 0, .int .u8 0, .int .u8 0, .int .u8 0, .int .u8 0, .int .u8 0, .int .u8 0, .int .u8 0, .int .u8 0, .int .u8 0, .int .u8 0, .int .u8 0, .int .u8 0, .int .u8 0, .int .u8 0, .int .u8 0, .int .u8 0, .int .u8 0, .int .u8 0, .int .u8 0, .int .u8 0, .int .u8 0, .int .u8 0, .int .u8 0, .int .u8 0]:Array Value)=u8s (List.replicate 32 0):=by kernel_rfl
theorem zAK (l:List UInt8) (hl:l.length=32) (w:World) :
 (Op.equalIn 10000 28 (.agg (u8s l)) (.agg #[.int .u8 0, .int .u8 0, .int .u8 0, .int .u8 0, .int .u8 0, .int .u8 0, .int .u8 0, .int .u8 0, .int .u8 0, .int .u8 0, .int .u8 0, .int .u8 0, .int .u8 0, .int .u8 0, .int .u8 0, .int .u8 0, .int .u8 0, .int .u8 0, .int .u8 0, .int .u8 0, .int .u8 0, .int .u8 0, .int .u8 0, .int .u8 0, .int .u8 0, .int .u8 0, .int .u8 0, .int .u8 0, .int .u8 0, .int .u8 0, .int .u8 0, .int .u8 0])).run Tryz.prog w = .ok (decide (l=List.replicate 32 0)) w:=by
 rw [zDE]
 exact zBw w 9998 Tryz.underlying28 (by kernel_rfl) Tryz.underlying5 (by kernel_rfl) (Option.isSome_iff_exists.1 (by kernel_rfl)) l (List.replicate 32 0) hl (by simp)
theorem blk_at2 (w:World) (o:Obj) (t:TypeId) (cs:Array Value):Blk ((w.alloc o).alloc (.cells cs t)) (w.heap.size+1) t cs:=by
 have:=Blk.new (w.alloc o) t cs
 rwa [show (w.alloc o).heap.size=w.heap.size+1 from by simp] at this
theorem zAe {P:Program} {fn:Func} {p q:Tmp} {ty:TypeId} (h:fn.results = #[.cell p ty, .tmp q]) (tmps:Array Value) (w:World) (g:Nat) (t:TypeId) (cs:Array Value) (fr:Nat×Nat) (d:TypeDesc)
 (hp:tmps.getD p undef = .pointer (some ⟨g,0,none⟩)) (hg:w.heap[g]?=some (.cells cs t fr))
 (hu:P.underlying ty=some d) (hd:(match d with | .struct _ | .array _ _=>true | _=>false)=true) (hi:(P.info? ty).map (·.size)=some cs.size) :
 (results fn tmps).run P w = .ok (.tuple #[.agg cs,tmps.getD q undef]) w:=by
 have hp':tmps[p]?.getD undef = .pointer (some ⟨g,0,none⟩):=by simpa using hp
 simp [results,h,hp',asAddr,run_loadVar_row w g t ty cs fr d hg hu hd hi]
section
section
variable {S T:List (Option Nat)} {w w0 w1 w2 w':World} {g B:Nat} {t:TypeId} {cs:Array Value}
theorem Far.row (h:Far S w w') (hg:some g∈S∨w.heap.size≤g) (cs:Array Value):Far S w (w'.setRow g cs):=
 h.then_ (T:=[some g]) ⟨rfl,rfl,rfl,by simp,fun k _ hn=>setRow_other _ _ _ _ (fun e=>hn (by rw [e];simp))⟩ fun k hk=>by
  simp only [List.mem_singleton,Option.some.injEq] at hk
  exact hk▸hg
theorem Far.low (h:Far S w w1) (hb:Below w.heap.size w1 w2):Far S w w2:=
 ⟨hb.os.trans h.os,hb.tape.trans h.tape,hb.output.trans h.output,Nat.le_trans h.size hb.size,fun k hk hn=>(hb.block k hk).trans (h.block k hk hn)⟩
end
end
section
section
variable {w:World} {g:Nat} {t:TypeId}
theorem Blk.splice : ∀ (vs:List Value) (o:Nat) (w:World) (pre mid post:List Value),Blk w g t (pre++(mid++post)).toArray→pre.length=o→mid.length=vs.length→Blk (w.setCells g o vs) g t (pre++(vs++post)).toArray
 | [],o,w,pre,mid,post,h,_,hm=>by
   have:mid=[]:=List.length_eq_zero_iff.1 (by simpa using hm)
   subst this
   exact h
 | v::r,o,w,pre,[],post,_,_,hm=>by simp at hm
 | v::r,o,w,pre,m::mid,post,h,hp,hm=>by
   have h1:=h.set_ o v
   have e:(pre++(m::mid++post)).toArray.setIfInBounds o v=((pre++[v])++(mid++post)).toArray:=by
    rw [List.setIfInBounds_toArray]
    congr 1
    rw [List.set_append_right _ _ (by omega),hp,Nat.sub_self]
    simp
   rw [e] at h1
   have h2:=Blk.splice r (o+1) _ (pre++[v]) mid post h1 (by simp [hp]) (by simpa using hm)
   have e2:(pre++[v])++(r++post)=pre++(v::r++post):=by simp
   rwa [e2] at h2
theorem Blk.there {cs:Array Value} (h:Blk w g t cs) {o n:Nat} (hn:o+n≤cs.size):w.there g o n:=fun j hj=>by
 refine ⟨?_,h.frozen _⟩
 rw [h.cell,Array.getElem?_eq_getElem (by omega)]
 rfl
end
end
section
def pitC (x:PItL):List Value := .int .i64 x.kind :: .int .i64 x.back::((u8s x.base).toList++[.string (B x.data)])
def plC (p:Pl):List Value:=[.int .i64 p.2.1, .int .i64 p.2.2]
theorem zAT (l:Txt):(u8s l).toList.length=l.length:=by simp [u8s]
theorem zEq {x:PItL} (h:x.base.length=32):(pitC x).length=35:=by unfold pitC;simp [zAh,h]
theorem pitC_one (x:PItL) : ∀ u∈pitC x,u.oneCell'=true:=by
 intro u hu
 unfold pitC at hu
 simp only [List.mem_cons,List.mem_append,u8s,List.toList_toArray,List.mem_map,List.mem_nil_iff,or_false] at hu
 rcases hu with rfl | rfl | ⟨c,_,rfl⟩ | rfl<;>rfl
theorem zB0 (x:PItL):(pitC x).toArray.all (·.oneCell')=true:=all_oneCell_toArray (pitC_one x)
theorem zAG {x:PItL} (h:x.base.length=32):(pitC x).toArray.size=35:=by rw [List.size_toArray,zEq h]
def zPit : PItL:=⟨0,0,noId',[]⟩
theorem Tryz.pitTy : SliceTy Tryz.prog 44 30 (.agg (pitC zPit).toArray) 35 64:=⟨Tryz.underlying44,info_parts (by kernel_rfl),by kernel_rfl,by omega⟩
theorem szPit : (Tryz.prog.info? 30).map (·.size)=some 35:=by kernel_rfl
theorem zeroPit (W:World):(zeroValue 30).run Tryz.prog W = .ok (.agg (pitC zPit).toArray) W:=by
 have h:(Tryz.prog.info? 30).map (·.zero)=some (some (.agg (pitC zPit).toArray)):=by kernel_rfl
 obtain ⟨i,h1,h2⟩:=Option.map_eq_some_iff.1 h
 simp [zeroValue,typeInfo,h1,h2]
def ldvP (p:Addr):Sem Value:=loadVar 30 p
theorem ldvP_eq (p:Addr):loadVar 30 p=ldvP p:=rfl
theorem run_ldvP {w:World} {g o:Nat} {x:PItL} (h:w.rangeAt g o (pitC x)) (hx:x.base.length=32):(ldvP ⟨g,o,none⟩).run Tryz.prog w = .ok (.agg (pitC x).toArray) w:=
 run_loadVar_mid (P:=Tryz.prog) w g o 30 (pitC x) _ h Tryz.underlying30 rfl (by rw [zEq hx];exact szPit)
structure PitB (w:World) (g:Nat) (x:PItL):Prop where
 blk:Blk w g 30 (pitC x).toArray
 base:x.base.length=32
section
variable {w w':World} {g:Nat} {x:PItL}
theorem PitB.below (h:PitB w g x) (hb:Below w.heap.size w w'):PitB w' g x:=⟨h.blk.below hb h.blk.lt,h.base⟩
theorem PitB.drewN (h:PitB w g x) (n:Nat):PitB (w.drewN n) g x:=⟨h.blk.drewN n,h.base⟩
theorem PitB.far {S:List (Option Nat)} (h:PitB w g x) (hf:Far S w w') (hg:some g ∉ S):PitB w' g x:=⟨hf.blk h.blk hg,h.base⟩
theorem PitB.range (h:PitB w g x):w.rangeAt g 0 (pitC x):=by
 have:=zAj h.blk
 simpa using this
theorem PitB.load (h:PitB w g x):(ldvP ⟨g,0,none⟩).run Tryz.prog w = .ok (.agg (pitC x).toArray) w:=run_ldvP h.range h.base
theorem PitB.kind (h:PitB w g x):w.cell? ⟨g,0,none⟩=some (.int .i64 x.kind):=by rw [h.blk.cell];rfl
theorem PitB.back (h:PitB w g x):w.cell? ⟨g,1,none⟩=some (.int .i64 x.back):=by rw [h.blk.cell];rfl
theorem PitB.data (h:PitB w g x):w.cell? ⟨g,34,none⟩=some (.string (B x.data)):=by
 rw [h.blk.cell,List.getElem?_toArray]
 show ((u8s x.base).toList++[Value.string (B x.data)])[32]?=_
 rw [List.getElem?_append_right (by rw [zAT,h.base];omega),zAT,h.base];rfl
theorem PitB.fr (h:PitB w g x) (i:Nat):w.frozen? ⟨g,i,none⟩=false:=h.blk.frozen i
theorem PitB.baseR (h:PitB w g x):w.rangeAt g 2 (u8s x.base).toList:=fun j u hu=>by
 have:=h.range (2+j) u (by
  unfold pitC
  rw [show 2+j=(j+1)+1 from by omega,List.getElem?_cons_succ,List.getElem?_cons_succ,List.getElem?_append_left (List.getElem?_eq_some_iff.1 hu).1]
  exact hu)
 rwa [Nat.zero_add] at this
theorem PitB.setBack (h:PitB w g x) (n:Int):PitB (w.setCell ⟨g,1,none⟩ (.int .i64 n)) g { x with back:=n }:=by
 refine ⟨?_,h.base⟩
 have:=h.blk.set_ 1 (.int .i64 n)
 rwa [List.setIfInBounds_toArray] at this
theorem PitB.setData (h:PitB w g x) (s:Txt):PitB (w.setCell ⟨g,34,none⟩ (.string (B s))) g { x with data:=s }:=by
 refine ⟨?_,h.base⟩
 have:=h.blk.set_ 34 (.string (B s))
 rw [List.setIfInBounds_toArray] at this
 have e:(pitC x).set 34 (.string (B s))=pitC { x with data:=s }:=by
  show _::_::((u8s x.base).toList++[Value.string (B x.data)]).set 32 _=_
  rw [List.set_append_right _ _ (by rw [zAT,h.base];omega),zAT,h.base]
  rfl
 rwa [e] at this
theorem PitB.setBase (h:PitB w g x) (i:Txt) (hi:i.length=32):PitB (w.setCells g 2 (u8s i).toList) g { x with base:=i }:=by
 refine ⟨?_,hi⟩
 have hb:Blk w g 30 ([Value.int .i64 x.kind,Value.int .i64 x.back]++((u8s x.base).toList++[Value.string (B x.data)])).toArray:=h.blk
 exact Blk.splice (u8s i).toList 2 w _ _ _ hb rfl (by rw [zAT,zAT,h.base,hi])
theorem PitB.there (h:PitB w g x) (i n:Nat) (hn:i+n≤35):w.there g i n:=h.blk.there (by rw [zAG h.base];exact hn)
end
end
section
def ritC (p:Pl):List Value := .int .i64 p.1.kind :: .int .i64 p.1.back::((u8s p.1.base).toList++[.string (B p.1.data), .int .i64 p.2.1, .int .i64 p.2.2])
theorem ritC_len {p:Pl} (h:p.1.base.length=32):(ritC p).length=37:=by unfold ritC;simp [zAh,h]
theorem ritC_one (p:Pl) : ∀ u∈ritC p,u.oneCell'=true:=by
 intro u hu
 unfold ritC at hu
 simp only [List.mem_cons,List.mem_append,u8s,List.toList_toArray,List.mem_map,List.mem_nil_iff,or_false] at hu
 rcases hu with rfl | rfl | ⟨c,_,rfl⟩ | rfl | rfl | rfl<;>rfl
theorem ritC_all (p:Pl):(ritC p).toArray.all (·.oneCell')=true:=all_oneCell_toArray (ritC_one p)
theorem zBO {p:Pl} (h:p.1.base.length=32):(ritC p).toArray.size=37:=by rw [List.size_toArray,ritC_len h]
def zRit : Pl:=(zPit,0,0)
theorem Tryz.ritTy : SliceTy Tryz.prog 31 50 (.agg (ritC zRit).toArray) 37 80:=⟨Tryz.underlying31,info_parts (by kernel_rfl),by kernel_rfl,by omega⟩
theorem szRit : (Tryz.prog.info? 50).map (·.size)=some 37:=by kernel_rfl
def ldvR15 (p:Addr):Sem Value:=loadVar 50 p
theorem zDs (p:Addr):loadVar 50 p=ldvR15 p:=rfl
theorem run_ldvR15 {w:World} {g o:Nat} {p:Pl} (h:w.rangeAt g o (ritC p)) (hx:p.1.base.length=32):(ldvR15 ⟨g,o,none⟩).run Tryz.prog w = .ok (.agg (ritC p).toArray) w:=
 run_loadVar_mid (P:=Tryz.prog) w g o 50 (ritC p) _ h Tryz.underlying50 rfl (by rw [ritC_len hx];exact szRit)
structure RitB (w:World) (g:Nat) (p:Pl):Prop where
 blk:Blk w g 50 (ritC p).toArray
 base:p.1.base.length=32
section
variable {w w':World} {g:Nat} {p:Pl}
theorem RitB.below (h:RitB w g p) (hb:Below w.heap.size w w'):RitB w' g p:=⟨h.blk.below hb h.blk.lt,h.base⟩
theorem RitB.drewN (h:RitB w g p) (n:Nat):RitB (w.drewN n) g p:=⟨h.blk.drewN n,h.base⟩
theorem RitB.far {S:List (Option Nat)} (h:RitB w g p) (hf:Far S w w') (hg:some g ∉ S):RitB w' g p:=⟨hf.blk h.blk hg,h.base⟩
theorem RitB.range (h:RitB w g p):w.rangeAt g 0 (ritC p):=by
 have:=zAj h.blk
 simpa using this
theorem RitB.load (h:RitB w g p):(ldvR15 ⟨g,0,none⟩).run Tryz.prog w = .ok (.agg (ritC p).toArray) w:=run_ldvR15 h.range h.base
theorem RitB.kind (h:RitB w g p):w.cell? ⟨g,0,none⟩=some (.int .i64 p.1.kind):=by rw [h.blk.cell];rfl
theorem RitB.back (h:RitB w g p):w.cell? ⟨g,1,none⟩=some (.int .i64 p.1.back):=by rw [h.blk.cell];rfl
theorem RitB.tail (h:RitB w g p) (i:Nat):w.cell? ⟨g,34+i,none⟩=[Value.string (B p.1.data), .int .i64 p.2.1, .int .i64 p.2.2][i]?:=by
 rw [h.blk.cell,List.getElem?_toArray]
 unfold ritC
 rw [show 34+i=(32+i+1)+1 from by omega,List.getElem?_cons_succ,List.getElem?_cons_succ,List.getElem?_append_right (by rw [zAT,h.base];omega),zAT,h.base,Nat.add_sub_cancel_left]
theorem RitB.data (h:RitB w g p):w.cell? ⟨g,34,none⟩=some (.string (B p.1.data)):=h.tail 0
theorem RitB.at_ (h:RitB w g p):w.cell? ⟨g,35,none⟩=some (.int .i64 p.2.1):=h.tail 1
theorem RitB.len (h:RitB w g p):w.cell? ⟨g,36,none⟩=some (.int .i64 p.2.2):=h.tail 2
theorem RitB.fr (h:RitB w g p) (i:Nat):w.frozen? ⟨g,i,none⟩=false:=h.blk.frozen i
theorem RitB.baseR (h:RitB w g p):w.rangeAt g 2 (u8s p.1.base).toList:=fun j u hu=>by
 have:=h.range (2+j) u (by
  unfold ritC
  rw [show 2+j=(j+1)+1 from by omega,List.getElem?_cons_succ,List.getElem?_cons_succ,List.getElem?_append_left (List.getElem?_eq_some_iff.1 hu).1]
  exact hu)
 rwa [Nat.zero_add] at this
theorem RitB.setBack (h:RitB w g p) (n:Int):RitB (w.setCell ⟨g,1,none⟩ (.int .i64 n)) g ({ p.1 with back:=n },p.2):=by
 refine ⟨?_,h.base⟩
 have:=h.blk.set_ 1 (.int .i64 n)
 rwa [List.setIfInBounds_toArray] at this
theorem RitB.setTail (h:RitB w g p) (i:Nat) (v:Value) {q:Pl} (hq:p.1.kind=q.1.kind∧p.1.back=q.1.back∧p.1.base=q.1.base) (he:[Value.string (B p.1.data), .int .i64 p.2.1, .int .i64 p.2.2].set i v=[Value.string (B q.1.data), .int .i64 q.2.1, .int .i64 q.2.2]):RitB (w.setCell ⟨g,34+i,none⟩ v) g q:=by
 refine ⟨?_,hq.2.2▸h.base⟩
 have:=h.blk.set_ (34+i) v
 rw [List.setIfInBounds_toArray] at this
 have e:(ritC p).set (34+i) v=ritC q:=by
  unfold ritC
  rw [←he,←hq.1,←hq.2.1,←hq.2.2,show 34+i=(32+i+1)+1 from by omega,List.set_cons_succ,List.set_cons_succ,List.set_append_right _ _ (by rw [zAT,h.base];omega),zAT,h.base,Nat.add_sub_cancel_left]
 rwa [e] at this
theorem RitB.setData (h:RitB w g p) (s:Txt):RitB (w.setCell ⟨g,34,none⟩ (.string (B s))) g ({ p.1 with data:=s },p.2):=h.setTail 0 _ ⟨rfl,rfl,rfl⟩ rfl
theorem RitB.there (h:RitB w g p) (i n:Nat) (hn:i+n≤37):w.there g i n:=h.blk.there (by rw [zBO h.base];exact hn)
end
end
def takeV (s:Txt):Value:=match takeP s with
 | some (t,q) => .tuple #[.string (B t), .string (B q), .int .i64 0]
 | none => .tuple #[.string (B []), .string (B []), .int .i64 2]
theorem zCb {s t q:Txt} (h:takeP s=some (t,q)):takeV s = .tuple #[.string (B t), .string (B q), .int .i64 0]:=by unfold takeV;rw [h]
theorem zCQ {s:Txt} (h:takeP s=none):takeV s = .tuple #[.string (B []), .string (B []), .int .i64 2]:=by unfold takeV;rw [h]
set_option maxRecDepth 100000 in
set_option maxHeartbeats 800000 in
theorem zDN (s:Txt) (hs:s.length≤4611686018427387904) (w:World):Calls Tryz.prog 105 #[.string (B s)] w fun e w'=>e = .returned (takeV s) ∧ ∃ n,w'=w.drewN n:=by
 have hget:=zC6 s hs w
 obtain ⟨r,hr⟩ : ∃ r,Hid (takeV s=r):=⟨_,Lib.hid rfl⟩
 rw [hr.out]
 cases h:get s with
 | none=>
   rw [h] at hget
   have hget:Calls Tryz.prog 132 #[.string (B s)] w fun e w'=>e = .returned (.tuple #[.int .u64 0, .string (B []), .int .i64 2]) ∧ ∃ n,w'=w.drewN n:=hget
   have hget:=Lib.hid hget
   have hrr:Hid (_=r):=(zCQ (takeP_none h)).symm.trans hr.out
   clear h hr
   go_enter Tryz.func105,Tryz.ntmps105
   go_wp2_with (first
    | ((with_reducible refine hget.out.mono ?_);rintro e w1 ⟨rfl,nq,rfl⟩))
   go_ret3
   exact ⟨by rw [←hrr.out];rfl,nq,rfl⟩
 | some p=>
   obtain ⟨n,k⟩:=p
   rw [h] at hget
   have hget:Calls Tryz.prog 132 #[.string (B s)] w fun e w'=>e = .returned (.tuple #[.int .u64 n, .string (B (s.drop k)), .int .i64 0]) ∧ ∃ n,w'=w.drewN n:=hget
   have hget:=Lib.hid hget
   have hle:(s.drop k).length≤s.length:=by rw [List.length_drop];omega
   by_cases hlt:(s.drop k).length<n
   ·have hrr:Hid (_=r):=(zCQ (takeP_short h hlt)).symm.trans hr.out
    generalize s.drop k=R at *
    have hi:(R.length:Int)<(n:Int):=by omega
    clear h hr
    go_enter Tryz.func105,Tryz.ntmps105
    go_wp2_with (first
     | ((with_reducible refine hget.out.mono ?_);rintro e w1 ⟨rfl,nq,rfl⟩))
    all_goals try (exfalso;omega)
    go_ret3
    exact ⟨by rw [←hrr.out];rfl,nq,rfl⟩
   ·have hrr:Hid (_=r):=(zCb (takeP_yes h (by omega))).symm.trans hr.out
    generalize s.drop k=R at *
    have hi : ¬ (R.length:Int)<(n:Int):=by omega
    have hle2:(n:Int)≤(R.length:Int):=by omega
    have hle3:n≤R.length:=by omega
    have x1:(B R).extract 0 n=B (R.take n):=zCy R n
    have x2:(B R).extract n R.length=B (R.drop n):=zB5 R n
    clear h hr
    go_enter Tryz.func105,Tryz.ntmps105
    go_wp2_with (first
     | ((with_reducible refine hget.out.mono ?_);rintro e w1 ⟨rfl,nq,rfl⟩))
    all_goals try (exfalso;omega)
    go_quiet (fail)
    go_wp2
    go_ret3
    exact ⟨by rw [←hrr.out];rfl,_,World.drewN_drewN _ _ _⟩
def takeNV (s:Txt):Value := .tuple #[.string (B (takeN s).1), .int .i64 (takeN s).2]
set_option maxRecDepth 100000 in
set_option maxHeartbeats 800000 in
theorem zAI (s:Txt) (hs:s.length≤4611686018427387904) (w:World):Calls Tryz.prog 83 #[.string (B s)] w fun e w'=>e = .returned (takeNV s)∧w'=w:=by
 have hget:=zBC s hs w
 have hgg:getPair (get s) = .tuple #[.int .u64 (getN s).1, .int .i64 (getN s).2]:=by
  unfold getN
  cases get s<;>rfl
 rw [hgg] at hget
 have hget:=Lib.hid hget
 have hb1:=getN_le s
 have hb2:=getN_num s
 obtain ⟨r,hr⟩ : ∃ r,Hid (takeNV s=r):=⟨_,Lib.hid rfl⟩
 rw [hr.out]
 have hr0 := @takeN_zero s
 have hr1 := @takeN_short s
 have hr2 := @takeN_yes s
 unfold takeNV at hr
 generalize (getN s).1=n at *
 generalize (getN s).2=k at *
 by_cases h0:k=0
 ·have hrr:Hid (_=r):=(by rw [←hr.out,hr0 h0];rfl:Value.tuple #[.string (B []), .int .i64 0]=r)
  have i0:(k:Int)=0:=by omega
  clear hr hr0 hr1 hr2 hgg
  subst h0
  go_enter Tryz.func83,Tryz.ntmps83
  go_wp2_with (first
   | ((with_reducible refine hget.out.mono ?_);rintro e w1 ⟨rfl,rfl⟩))
  all_goals try (exfalso;omega)
  go_ret2
  exact ⟨by rw [←hrr.out];rfl,rfl⟩
 ·have i0 : ¬ (k:Int)=0:=by omega
  have i1:1≤k:=by omega
  have x0:IntKind.u64.wrap ((s.length:Int)-(k:Int))=((s.length-k:Nat):Int):=by
   rw [IntWalk.u64_in _ (by omega)];omega
  by_cases hlt:s.length-k<n
  ·have hrr:Hid (_=r):=(by rw [←hr.out,hr1 h0 hlt];rfl:Value.tuple #[.string (B []), .int .i64 0]=r)
   have hi:((s.length-k:Nat):Int)<(n:Int):=by omega
   have hj:(s.length:Int)-(k:Int)<(n:Int):=by omega
   clear hr hr0 hr1 hr2 hgg h0 hlt x0
   go_enter Tryz.func83,Tryz.ntmps83
   go_wp2_with (first
    | ((with_reducible refine hget.out.mono ?_);rintro e w1 ⟨rfl,rfl⟩))
   all_goals try (exfalso;omega)
   go_ret2
   exact ⟨by rw [←hrr.out];rfl,rfl⟩
  ·have hrr:Hid (_=r):=(by rw [←hr.out,hr2 h0 (by omega)];rfl:Value.tuple #[.string (B ((s.drop k).take n)), .int .i64 ((k:Int)+(n:Int))]=r)
   have hi : ¬ ((s.length-k:Nat):Int)<(n:Int):=by omega
   have hj : ¬ (s.length:Int)-(k:Int)<(n:Int):=by omega
   have y0:k+n≤s.length:=by omega
   have x1:(B s).extract k (k+n)=B ((s.drop k).take n):=by rw [zAR];rw [Nat.add_sub_cancel_left]
   clear hr hr0 hr1 hr2 hgg h0 hlt x0
   go_enter Tryz.func83,Tryz.ntmps83
   go_wp2_with (first
    | ((with_reducible refine hget.out.mono ?_);rintro e w1 ⟨rfl,rfl⟩))
   all_goals try (exfalso;omega)
   go_ret2
   refine ⟨?_,rfl⟩
   rw [←hrr.out]
   show Ending.returned (.tuple #[.string (B ((s.drop k).take (k+n-k))), .int .i64 ((k:Int)+(n:Int))])=_
   rw [Nat.add_sub_cancel_left]
section
attribute [local go_sem ↓] ldvP_eq
def stvP (p:Addr) (v:Value):Sem Unit:=storeVar 30 p v
theorem stvP_eq (p:Addr) (v:Value):storeVar 30 p v=stvP p v:=rfl
attribute [local go_sem ↓] stvP_eq
end
section
attribute [local go_sem ↓] ldvP_eq
end
section
attribute [local go_sem ↓] zDs
end
theorem and31 (k:Int) (h0 : -31≤k) (h1:k ≤ -1):bits .and .u64 (IntKind.u64.wrap k) 31=32+k:=by
 have h : ∀ m:Fin 31,bits .and .u64 (IntKind.u64.wrap (-((m.val:Int)+1))) 31=31-(m.val:Int):=by decide +kernel
 have:=h ⟨(-k-1).toNat,by omega⟩
 simp only at this
 rw [show -((((-k-1).toNat:Nat):Int)+1)=k from by omega] at this
 rw [this]
 omega
theorem rot_bits (x n:Nat) (hx:x<4294967296) (h0:1≤n) (h1:n≤31):bits .or .u32 ((x:Int)*2 ^ (32-n)%4294967296) ((x:Int) / 2 ^ n)=((rotr x n:Nat):Int):=by
 have hp:(2:Nat) ^ (32-n)*2 ^ n=4294967296:=by rw [←Nat.pow_add,show 32-n+n=32 from by omega]
 have e1:(x:Int)*2 ^ (32-n)%4294967296=((x*2 ^ (32-n)%4294967296:Nat):Int):=by simp
 have e2:(x:Int) / 2 ^ n=((x / 2 ^ n:Nat):Int):=by simp
 have hd:x / 2 ^ n<2 ^ (32-n):=Nat.div_lt_of_lt_mul (by rw [Nat.mul_comm,hp];exact hx)
 have hm:x*2 ^ (32-n)%4294967296=2 ^ (32-n)*(x%2 ^ n):=by
  rw [←hp,Nat.mul_comm x,Nat.mul_mod_mul_left]
 have hlt:x / 2 ^ n<4294967296:=Nat.lt_of_le_of_lt (Nat.div_le_self _ _) hx
 rw [e1,e2,u32_or_nat _ _ (Nat.mod_lt _ (by omega)) hlt,rotr,hm,←Nat.two_pow_add_eq_or_of_lt hd,Nat.add_comm]
set_option maxRecDepth 100000 in
set_option maxHeartbeats 800000 in
theorem rot_calls (x:Nat) (k:Int) (hx:x<4294967296) (h0 : -31≤k) (h1:k ≤ -1) (w:World) :
 Calls Tryz.prog 130 #[.int .u32 x, .int .i64 k] w fun e w'=>e = .returned (.int .u32 (rotr x (-k).toNat))∧w=w':=by
 have hb:=and31 k h0 h1
 have hs0:0≤32+k:=by omega
 have hs1:32+k≤32:=by omega
 go_enter Tryz.func130,Tryz.ntmps130
 go_wp2
 go_ret
 refine ⟨congrArg (fun n:Int=>Ending.returned (.int .u32 n)) ?_,rfl⟩
 have:=rot_bits x (-k).toNat hx (by omega) (by omega)
 rw [show 32-(-k).toNat=(32+k).toNat from by omega,show (-k).toNat=(32-(32+k)).toNat from by omega] at this
 rw [show (-k).toNat=(32-(32+k)).toNat from by omega]
 exact this
theorem rot_at (x:Nat) (k:Int) (n:Nat) (hk:k = -(n:Int)) (hx:x<4294967296) (h0:1≤n) (h1:n≤31) (w:World) :
 Calls Tryz.prog 130 #[.int .u32 x, .int .i64 k] w fun e w'=>e = .returned (.int .u32 (rotr x n))∧w=w':=by
 subst hk
 have:=rot_calls x (-(n:Int)) hx (by omega) (by omega) w
 rwa [show (- -(n:Int)).toNat=n from by omega] at this
def u32s (l:List Nat):Array Value:=(l.map fun n=>Value.int .u32 (n:Nat)).toArray
theorem zBe (l:List Nat):(u32s l).size=l.length:=by simp [u32s]
theorem zA0 (l:List Nat) (i:Nat) (h:i<l.length):(u32s l)[i]?=some (.int .u32 (l.getD i 0:Nat)):=by
 simp [u32s,List.getD,List.getElem?_eq_getElem h]
theorem zB2 (l:List Nat) (i x:Nat):(u32s l).setIfInBounds i (.int .u32 (x:Nat))=u32s (l.set i x):=by
 apply Array.ext'
 simp [u32s,List.map_set]
theorem or_byte (x:Nat) (c:UInt8) (hx:x<16777216):bits .or .u32 ((x:Int)*256) ((c.toNat:Int)%4294967296)=((x*256%4294967296+c.toNat:Nat):Int):=by
 have hc:=c.toNat_lt
 have e1:(x:Int)*256=((2 ^ 8*x:Nat):Int):=by omega
 have e2:(c.toNat:Int)%4294967296=((c.toNat:Nat):Int):=by omega
 rw [e1,e2,u32_or_nat _ _ (by omega) (by omega),←Nat.two_pow_add_eq_or_of_lt (by omega)]
 omega
theorem zEs {w:World} {g i j:Nat} {v x:Value} (h:w.cell? ⟨g,j,none⟩=some v) (hne:j≠i):((w.setCell ⟨g,i,none⟩ x).drew).cell? ⟨g,j,none⟩=some v:=by
 have:(w.setCell ⟨g,i,none⟩ x).cell? ⟨g,j,none⟩=w.cell? ⟨g,j,none⟩:=World.cell?_setCell_other w _ _ _ (fun e=>hne (by injection e with _ e;exact e.symm))
 exact this.trans h
theorem blk_new2 (w:World) (o:Obj) (t:TypeId) (cs:Array Value):Blk ((w.alloc o).alloc (.cells cs t)) (w.heap.size+1) t cs:=by
 have:=Blk.new (w.alloc o) t cs
 rwa [show (w.alloc o).heap.size=w.heap.size+1 from by simp] at this
theorem sz64 : (Tryz.prog.info? 129).map (·.size)=some 64:=by kernel_rfl
set_option maxRecDepth 100000 in
set_option maxHeartbeats 2000000 in
theorem words_calls (b:List UInt8) (hb:b.length=64) (w:World) :
 Calls Tryz.prog 131 #[.string (B b)] w fun e w'=>e = .returned (.agg (u32s (wordsOf b)))∧Below w.heap.size w w':=by
 go_enter Tryz.func131,Tryz.ntmps131
 go_wp2
 go_loopw [9] (fun i wr => ∃ k:Nat,i = .int .i64 k∧k≤64∧Blk wr (w.heap.size+1) 129 (u32s (parts b k))∧Blk wr w.heap.size 129 (u32s (List.replicate 64 0))∧Below w.heap.size w wr) (fun i _=>64-(intOf i).toNat)
 case atStart=>exact ⟨0,rfl,by omega,by rw [parts_zero];exact blk_new2 _ _ _ _,(Blk.new w _ _).alloc _,((Below.refl _ _).alloc (Nat.le_refl _) _).alloc (by simp) _⟩
 case round=>
  obtain ⟨k,rfl,hk,h1,h2,hbel⟩:=hrel
  have hbs:=h1.lt
  by_cases hlt:k<64
  ·have hki:(k:Int)<64:=by omega
   have hq0:(0:Int)≤(k:Int) / 4:=by omega
   have hq1:(k:Int) / 4<64:=by omega
   have hq2:(k:Int)<(b.length:Int):=by omega
   have hc:=h1.cell (k / 4)
   rw [zA0 _ _ (by rw [parts_length];omega),parts_get _ _ _ (by omega)] at hc
   have hf:=h1.frozen (k / 4)
   have hbk:b[k]'(by omega)=b.getD k 0:=by simp [List.getD,List.getElem?_eq_getElem (show k<b.length by omega)]
   have hst:=parts_step b k
   rw [parts_get _ _ _ (by omega)] at hst
   unfold byteAt at hst
   have hx:=(part4_here b k).2
   generalize part4 b k (k / 4)=x at *
   generalize b.getD k 0=c at *
   have hor:=or_byte x c hx
   generalize x*256%4294967296+c.toNat=y at *
   have hsth:=Lib.hid hst
   clear hst
   go_wp2
   go_region
   have hn1:Blk ((wr.setCell ⟨w.heap.size+1,k / 4,none⟩ (.int .u32 (y:Int))).drew) (w.heap.size+1) 129 (u32s (parts b (k+1))):=by
    have:=(h1.set_ (k / 4) (.int .u32 (y:Int)))
    rw [zB2,hsth.out] at this
    exact this.drew
   have hn2:=(h2.far (p:=⟨w.heap.size+1,k / 4,none⟩) (by simp) (.int .u32 (y:Int))).drew
   have hn3:=(hbel.setCell (p:=⟨w.heap.size+1,k / 4,none⟩) (by simp) (.int .u32 (y:Int))).drew
   go_wp2
   go_roundw
   case rel=>exact ⟨k+1,by go_num,by omega,hn1,hn2,hn3⟩
   case measure=>simp [intOf];omega
  ·have hk64:k=64:=by omega
   have hki : ¬ (k:Int)<64:=by omega
   rw [hk64,parts_all] at h1
   clear hk64
   have hgoal:Hid (sched 48 (first b 16)=wordsOf b):=rfl
   go_wp2
   go_loopw [6] (fun i wr => ∃ (t:Nat) (l:List Nat),i = .int .i64 t∧16≤t∧t≤64∧Hid (l.length=t)∧Hid (Fit32 l)∧Hid (sched (64-t) l=wordsOf b)∧Blk wr (w.heap.size+1) 129 (u32s (l++List.replicate (64-t) 0))∧Blk wr w.heap.size 129 (u32s (List.replicate 64 0))∧Below w.heap.size w wr) (fun i _=>64-(intOf i).toNat)
   case atStart=>exact ⟨16,first b 16,rfl,by omega,by omega,zBz b 16,first_fit b 16,hgoal,h1,h2,hbel⟩
   case round=>
    obtain ⟨t,l,rfl,ht0,ht1,hlen,hfit,hsc,h1,h2,hbel⟩:=hrel
    by_cases hlt:t<64
    ·have hti:(t:Int)<64:=by omega
     have get (j:Nat) (hj:j<t):wr.cell? ⟨w.heap.size+1,j,none⟩=some (.int .u32 (l.getD j 0:Nat)):=by
      rw [h1.cell,zA0 _ _ (by rw [List.length_append,hlen.out,List.length_replicate];omega),getD_left (by rw [hlen.out];exact hj)]
     have c16:=get (t-16) (by omega)
     have c15:=get (t-15) (by omega)
     have c7:=get (t-7) (by omega)
     have c2:=get (t-2) (by omega)
     have ct:wr.cell? ⟨w.heap.size+1,t,none⟩=some (.int .u32 ((l++List.replicate (64-t) 0).getD t 0:Nat)):=by
      rw [h1.cell,zA0 _ _ (by rw [List.length_append,hlen.out,List.length_replicate];omega)]
     have hft:=h1.frozen t
     have b16:=hfit.out (t-16)
     have b15:=hfit.out (t-15)
     have b7:=hfit.out (t-7)
     have b2:=hfit.out (t-2)
     have hnext:Hid (nextW l=(l.getD (t-16) 0+l.getD (t-7) 0+sig0 (l.getD (t-15) 0)+sig1 (l.getD (t-2) 0))%4294967296):=by
      unfold nextW;rw [hlen.out];rfl
     clear get
     generalize l.getD (t-16) 0=x16 at *
     generalize l.getD (t-15) 0=x15 at *
     generalize l.getD (t-7) 0=x7 at *
     generalize l.getD (t-2) 0=x2 at *
     generalize (l++List.replicate (64-t) 0).getD t 0=old at *
     obtain ⟨u16,i16,v16⟩ : ∃ u:Nat,IntKind.i64.wrap ((t:Int)-16)=(u:Int)∧u=t-16:=⟨t-16,by rw [IntWalk.i64_in _ (by omega)];omega,rfl⟩
     rw [←v16] at c16
     have m16:(u16:Int)<64:=by omega
     have n16:u16<64:=by omega
     have v16h:=Lib.hid v16
     clear v16
     obtain ⟨u15,i15,v15⟩ : ∃ u:Nat,IntKind.i64.wrap ((t:Int)-15)=(u:Int)∧u=t-15:=⟨t-15,by rw [IntWalk.i64_in _ (by omega)];omega,rfl⟩
     rw [←v15] at c15
     have m15:(u15:Int)<64:=by omega
     have n15:u15<64:=by omega
     have v15h:=Lib.hid v15
     clear v15
     obtain ⟨u7,i7,v7⟩ : ∃ u:Nat,IntKind.i64.wrap ((t:Int)-7)=(u:Int)∧u=t-7:=⟨t-7,by rw [IntWalk.i64_in _ (by omega)];omega,rfl⟩
     rw [←v7] at c7
     have m7:(u7:Int)<64:=by omega
     have n7:u7<64:=by omega
     have v7h:=Lib.hid v7
     clear v7
     obtain ⟨u2,i2,v2⟩ : ∃ u:Nat,IntKind.i64.wrap ((t:Int)-2)=(u:Int)∧u=t-2:=⟨t-2,by rw [IntWalk.i64_in _ (by omega)];omega,rfl⟩
     rw [←v2] at c2
     have m2:(u2:Int)<64:=by omega
     have n2:u2<64:=by omega
     have v2h:=Lib.hid v2
     clear v2
     go_wp2
     go_quiet (fail)
     go_wp2
     have r1:=rotr_lt (n:=7) b15 (by omega) (by omega)
     have r2:=rotr_lt (n:=18) b15 (by omega) (by omega)
     have r3:=rotr_lt (n:=17) b2 (by omega) (by omega)
     have r4:=rotr_lt (n:=19) b2 (by omega) (by omega)
     have e1:bits .xor .u32 (rotr x15 7:Int) (rotr x15 18:Int)=((rotr x15 7 ^^^ rotr x15 18:Nat):Int):=u32_xor_nat _ _ r1 r2
     have e2:bits .xor .u32 ((rotr x15 7 ^^^ rotr x15 18:Nat):Int) ((x15:Int) / 8)=((sig0 x15:Nat):Int):=by
      rw [show (x15:Int) / 8=((x15 / 8:Nat):Int) from by omega];exact u32_xor_nat _ _ (xor_lt r1 r2) (by omega)
     have e3:bits .xor .u32 (rotr x2 17:Int) (rotr x2 19:Int)=((rotr x2 17 ^^^ rotr x2 19:Nat):Int):=u32_xor_nat _ _ r3 r4
     have e4:bits .xor .u32 ((rotr x2 17 ^^^ rotr x2 19:Nat):Int) ((x2:Int) / 1024)=((sig1 x2:Nat):Int):=by
      rw [show (x2:Int) / 1024=((x2 / 1024:Nat):Int) from by omega];exact u32_xor_nat _ _ (xor_lt r3 r4) (by omega)
     have c16d:(wr.drewN nq).cell? ⟨w.heap.size+1,u16,none⟩=some (.int .u32 (x16:Int)):=c16
     have c7d:(wr.drewN nq).cell? ⟨w.heap.size+1,u7,none⟩=some (.int .u32 (x7:Int)):=c7
     have ctd:(wr.drewN nq).cell? ⟨w.heap.size+1,t,none⟩=some (.int .u32 (old:Int)):=ct
     have h1d:=h1.drewN nq
     have h2d:=h2.drewN nq
     have hbeld:=bdrewN hbel nq
     have hftd:(wr.drewN nq).frozen? ⟨w.heap.size+1,t,none⟩=false:=hft
     clear h1 h2 hbel hft c16 c15 c7 c2 ct
     generalize wr.drewN nq=wo at *
     obtain ⟨nx,hval,hnx⟩ : ∃ nx:Nat,IntKind.u32.wrap (IntKind.u32.wrap (IntKind.u32.wrap ((x16:Int)+(x7:Int))+((sig0 x15:Nat):Int))+((sig1 x2:Nat):Int))=(nx:Int)∧nx=nextW l:=by
      refine ⟨nextW l,?_,rfl⟩
      rw [hnext.out,IntKind.wrap_u32,IntKind.wrap_u32,IntKind.wrap_u32]
      omega
     have hnxh:=Lib.hid hnx
     clear hnx
     have ne16:u16≠t:=by have:=v16h.out;omega
     have ne7:u7≠t:=by have:=v7h.out;omega
     go_region_held3 (fun w'=>w'.cell? ⟨w.heap.size+1,u16,none⟩=some (.int .u32 (x16:Int))∧w'.cell? ⟨w.heap.size+1,u7,none⟩=some (.int .u32 (x7:Int))) (first | exact ⟨c16d,c7d⟩ | exact ⟨zEs c16d ne16,zEs c7d ne7⟩ | go_keep)
      (first
        | (go_at_call 130;(with_reducible refine (rot_at x15 (-7) 7 rfl b15 (by omega) (by omega) _).mono ?_);rintro e w1 ⟨rfl,rfl⟩)
        | (go_at_call 130;(with_reducible refine (rot_at x15 (-18) 18 rfl b15 (by omega) (by omega) _).mono ?_);rintro e w1 ⟨rfl,rfl⟩)
        | (go_at_call 130;(with_reducible refine (rot_at x2 (-17) 17 rfl b2 (by omega) (by omega) _).mono ?_);rintro e w1 ⟨rfl,rfl⟩)
        | (go_at_call 130;(with_reducible refine (rot_at x2 (-19) 19 rfl b2 (by omega) (by omega) _).mono ?_);rintro e w1 ⟨rfl,rfl⟩))
     have hn1:Blk ((wo.setCell ⟨w.heap.size+1,t,none⟩ (.int .u32 (nx:Int))).drew) (w.heap.size+1) 129 (u32s ((l++[nx])++List.replicate (64-(t+1)) 0)):=by
      have:=(h1d.set_ t (.int .u32 (nx:Int)))
      have hs:=zDF l (64-t) nx (by omega)
      rw [hlen.out] at hs
      rw [zB2,hs,show 64-t-1=64-(t+1) from by omega] at this
      exact this.drew
     have hn2:=(h2d.far (p:=⟨w.heap.size+1,t,none⟩) (by simp) (.int .u32 (nx:Int))).drew
     have hn3:=(hbeld.setCell (p:=⟨w.heap.size+1,t,none⟩) (by simp) (.int .u32 (nx:Int))).drew
     have hnlen:Hid ((l++[nx]).length=t+1):=by rw [List.length_append,hlen.out];rfl
     have hnfit:Hid (Fit32 (l++[nx])):=hfit.out.append (by rw [hnxh.out];exact nextW_lt l)
     have hnsc:Hid (sched (64-(t+1)) (l++[nx])=wordsOf b):=by
      rw [←hsc.out,show 64-t=(64-(t+1))+1 from by omega,sched,←hnxh.out];rfl
     go_wp2
     go_roundw
     case rel=>exact ⟨t+1,l++[nx],by go_num,by omega,by omega,hnlen,hnfit,hnsc,hn1,hn2,hn3⟩
     case measure=>simp [intOf];omega
    ·have ht64:t=64:=by omega
     have hti : ¬ (t:Int)<64:=by omega
     have hl:l=wordsOf b:=by have:=hsc.out;rw [ht64] at this;exact this
     rw [ht64,hl,List.replicate_zero,List.append_nil] at h1
     clear ht64 hl hsc hfit hlen
     have hwf : ∀ v∈u32s (wordsOf b),v.oneCell'=true:=by
      intro v hv
      obtain ⟨n, -,rfl⟩:=by simpa [u32s] using hv
      rfl
     have hsz:(u32s (wordsOf b)).size=64:=by rw [zBe,zB4]
     have hi:=sz64
     rw [←hsz] at hi
     have hi':=Lib.hid hi
     clear hi
     have hold:(u32s (List.replicate 64 0)).size=(u32s (wordsOf b)).size:=by rw [hsz,zBe];simp
     have hall:=Array.all_eq_true_iff_forall_mem.2 hwf
     have hsz':=Lib.hid hsz
     clear hsz
     go_wp2_with (first
      | (refine wpList_load_row rfl 129 (.tmp 3) rfl (w.heap.size+1) rfl _ _ _ _ h1 Tryz.underlying129 rfl hi'.out ?_)
      | (refine wpList_store_row rfl 129 (.tmp 2) (.tmp 71) rfl w.heap.size (u32s (wordsOf b)) rfl rfl _ _ h2 hi'.out hold hall ?_))
     exact bodyPost_ret (results_cell_row rfl _ _ w.heap.size _ _ _ _ rfl (setRow_heap _ _ _ _ _ _ h2) Tryz.underlying129 rfl hi'.out) rfl ⟨rfl,zAa hbel (Nat.le_refl _) _⟩
section
attribute [local go_sem ↓] Go.wp_at_zero Go.wp_at_succ
structure TabK (w:World):Prop where
 pos:0<w.heap.size
 at_ : ∀ t,t<64→w.cell? ⟨0,t,none⟩=some (.int .u32 (K256.getD t 0:Nat))
theorem TabK.below {w w':World} (h:TabK w) (hb:Below w.heap.size w w'):TabK w':=
 ⟨Nat.lt_of_lt_of_le h.pos hb.size,fun t ht=>(hb.cell (p:=⟨0,t,none⟩) h.pos).trans (h.at_ t ht)⟩
theorem run_index_words (l:List Nat) (hl:l.length=64) (t:Nat) (ht:t<64) (w:World) :
 (Instr.index 129 (.agg (u32s l)) (.int .i64 (t:Int))).run Tryz.prog w = .ok (.int .u32 (l.getD t 0:Nat)) w:=by
 have hu:Tryz.prog.underlying 129=some (.array 64 72):=by kernel_rfl
 have h0:(0:Int)≤(t:Int)∧(t:Int)<((64:Nat):Int):=by omega
 have h64 : ¬ 64≤t:=by omega
 have hg:=zA0 l t (by omega)
 have ha:(isAgg 72).run Tryz.prog w = .ok false w:=by kernel_rfl
 have hz:(sizeOf 72).run Tryz.prog w = .ok 1 w:=by kernel_rfl
 simp only [Instr.index,asIntOf,Sem.run_bind,Sem.run_pure,Result.andThen_ok,run_underlying hu]
 rw [if_pos h0]
 simp only [Sem.run_bind,Sem.run_pure,Result.andThen_ok,hz,part,ha,Int.toNat_natCast,Nat.mul_one,hg]
 rfl
theorem blk_new3 (w:World) (o1 o2:Obj) (t:TypeId) (cs:Array Value):Blk (((w.alloc o1).alloc o2).alloc (.cells cs t)) (w.heap.size+2) t cs:=by
 have:=Blk.new ((w.alloc o1).alloc o2) t cs
 rwa [show ((w.alloc o1).alloc o2).heap.size=w.heap.size+2 from by simp] at this
theorem sz8 : (Tryz.prog.info? 128).map (·.size)=some 8:=by kernel_rfl
theorem zBr (l:List Nat):(u32s l).all (·.oneCell')=true:=by
 refine Array.all_eq_true_iff_forall_mem.2 fun v hv=>?_
 obtain ⟨n, -,rfl⟩:=by simpa [u32s] using hv
 rfl
theorem zAp (s:H8):(u32s s.list).size=8:=rfl
theorem copy_up (wp:World) (g xa xb xc xd xe xf xg xh:Nat) (h:Blk wp g 128 (u32s [xa,xb,xc,xd,xe,xf,xg,xh])) :
 (Builtin.copy_ #[229,229] 3 #[.slice (some ⟨g,1,none⟩) 7 7, .slice (some ⟨g,0,none⟩) 7 8]).run Tryz.prog wp = .ok (goInt 7) (wp.setRow g (u32s [xa,xa,xb,xc,xd,xe,xf,xg])):=by
 have:=run_copy_row (P:=Tryz.prog) wp 229 229 3 72 g 1 7 7 ⟨g,0,none⟩ 7 8 (u32s [xa,xb,xc,xd,xe,xf,xg,xh]) 128 (u32s [xa,xb,xc,xd,xe,xf,xg]).toList (by kernel_rfl) (by kernel_rfl) h rfl (fun j v hj=>by
  rw [Addr.add_mid,Nat.zero_add,h.cell]
  have hlt:j<7:=by
   have:=(List.getElem?_eq_some_iff.1 hj).1
   simpa [u32s] using this
  rw [←hj]
  match j,hlt with
  | 0,_ | 1,_ | 2,_ | 3,_ | 4,_ | 5,_ | 6,_=>rfl) (by simp [u32s]) (fun v hv=>by
  obtain ⟨n, -,rfl⟩:=by simpa only [u32s,List.mem_map] using hv
  rfl)
 exact this
set_option maxRecDepth 100000 in
set_option maxHeartbeats 2000000 in
theorem block_calls (s0:H8) (hs0:s0.Fit) (b:List UInt8) (hb:b.length=64) (w:World) (hK:TabK w) :
 Calls Tryz.prog 101 #[.agg (u32s s0.list), .string (B b)] w fun e w'=>e = .returned (.agg (u32s (blockOf s0 b).list))∧Below w.heap.size w w':=by
 go_enter Tryz.func101,Tryz.ntmps101
 have hbox:Blk ((w.alloc (.cells (u32s s0.list) 128)).alloc (.cells (u32s (List.replicate 8 0)) 128)) w.heap.size 128 (u32s s0.list):=(Blk.new w _ _).alloc _
 have hv0:=blk_new3 w (.cells (u32s s0.list) 128) (.cells (u32s (List.replicate 8 0)) 128) 128 (u32s (List.replicate 8 0))
 have hi8:(Tryz.prog.info? 128).map (·.size)=some (u32s s0.list).size:=by rw [zAp];exact sz8
 have hall:=zBr s0.list
 have hold:(u32s (List.replicate 8 0)).size=(u32s s0.list).size:=by rw [zAp];rfl
 obtain ⟨R,hR⟩ : ∃ R,Hid (blockOf s0 b=R):=⟨_,rfl⟩
 go_wp2_with (first
  | (refine wpList_load_row rfl 128 (.tmp 2) rfl w.heap.size rfl _ _ _ _ hbox Tryz.underlying128 rfl hi8 ?_)
  | (refine wpList_store_row rfl 128 (.tmp 6) (.tmp 14) rfl (w.heap.size+2) (u32s s0.list) rfl rfl _ _ hv0 hi8 hold hall ?_)
  | (go_at_call 131;go_must (refine (words_calls b hb _).mono ?_);rintro e w1 ⟨rfl,hb1⟩))
 have hv1:Blk w1 (w.heap.size+1+1) 128 (u32s s0.list):=Blk.below (w:=World.setRow _ (w.heap.size+2) _) (setRow_heap _ _ _ _ _ _ hv0) hb1 (by simp)
 have hbx1:Blk w1 w.heap.size 128 (u32s s0.list):=Blk.below (w:=World.setRow _ (w.heap.size+2) _) (by unfold Blk;rw [setRow_other _ _ _ _ (by omega)];exact hbox.alloc _) hb1 (by simp;omega)
 have hr1:Blk w1 (w.heap.size+1) 128 (u32s (List.replicate 8 0)):=Blk.below (w:=World.setRow _ (w.heap.size+2) _) (by unfold Blk;rw [setRow_other _ _ _ _ (by omega)];exact (blk_new2 w _ _ _).alloc _) hb1 (by simp)
 have hbl1:Below w.heap.size w w1:=(zAa ((((Below.refl _ _).alloc (Nat.le_refl _) _).alloc (by simp) _).alloc (by simp;omega) _) (by omega) _).trans (hb1.mono (by simp;omega))
 clear hb1 hbox hv0
 go_loopw [17] (fun i wr => ∃ (t:Nat) (s:H8),i = .int .i64 t∧t≤64∧Hid (s=after (wordsOf b) s0 t)∧s.Fit∧Blk wr (w.heap.size+1+1) 128 (u32s s.list)∧Blk wr w.heap.size 128 (u32s s0.list)∧Blk wr (w.heap.size+1) 128 (u32s (List.replicate 8 0))∧Below w.heap.size w wr) (fun i _=>64-(intOf i).toNat)
 case atStart=>exact ⟨0,s0,rfl,by omega,rfl,hs0,hv1,hbx1,hr1,hbl1⟩
 case round=>
  obtain ⟨t,s,rfl,ht,hst,hfit,h1,h2,h3,hbel⟩:=hrel
  have hbs:=h1.lt
  by_cases hlt:t<64
  ·have hti:(t:Int)<64:=by omega
   have hidx:=run_index_words (wordsOf b) (zB4 b) t hlt
   have hnext:Hid (after (wordsOf b) s0 (t+1)=rnd s (K256.getD t 0) ((wordsOf b).getD t 0)):=by rw [hst.out];rfl
   have bw:=wordsOf_fit b t
   have bk:=K256_fit t
   have ck:wr.cell? ⟨0,t,none⟩=some (.int .u32 (K256.getD t 0:Nat)):=(hbel.cell (p:=⟨0,t,none⟩) hK.pos).trans (hK.at_ t hlt)
   generalize (wordsOf b).getD t 0=wt at *
   generalize K256.getD t 0=kt at *
   obtain ⟨xa,xb,xc,xd,xe,xf,xg,xh⟩:=s
   obtain ⟨ba,bb,bc,bd,be,bf,bg,bh⟩:=hfit
   simp only at ba bb bc bd be bf bg bh
   have c0:wr.cell? ⟨w.heap.size+1+1,0,none⟩=some (.int .u32 (xa:Int)):=h1.cell 0
   have c1:wr.cell? ⟨w.heap.size+1+1,1,none⟩=some (.int .u32 (xb:Int)):=h1.cell 1
   have c2:wr.cell? ⟨w.heap.size+1+1,2,none⟩=some (.int .u32 (xc:Int)):=h1.cell 2
   have c3:wr.cell? ⟨w.heap.size+1+1,3,none⟩=some (.int .u32 (xd:Int)):=h1.cell 3
   have c4:wr.cell? ⟨w.heap.size+1+1,4,none⟩=some (.int .u32 (xe:Int)):=h1.cell 4
   have c5:wr.cell? ⟨w.heap.size+1+1,5,none⟩=some (.int .u32 (xf:Int)):=h1.cell 5
   have c6:wr.cell? ⟨w.heap.size+1+1,6,none⟩=some (.int .u32 (xg:Int)):=h1.cell 6
   have c7:wr.cell? ⟨w.heap.size+1+1,7,none⟩=some (.int .u32 (xh:Int)):=h1.cell 7
   go_wp2
   go_quiet (fail)
   go_wp2
   obtain ⟨wo,hwo⟩ : ∃ wo:World,wo=wr.drewN nq:=⟨_,rfl⟩
   rw [←hwo]
   have d0:wo.cell? ⟨w.heap.size+1+1,0,none⟩=some (.int .u32 (xa:Int)):=by rw [hwo];exact c0
   have d1:wo.cell? ⟨w.heap.size+1+1,1,none⟩=some (.int .u32 (xb:Int)):=by rw [hwo];exact c1
   have d2:wo.cell? ⟨w.heap.size+1+1,2,none⟩=some (.int .u32 (xc:Int)):=by rw [hwo];exact c2
   have d3:wo.cell? ⟨w.heap.size+1+1,3,none⟩=some (.int .u32 (xd:Int)):=by rw [hwo];exact c3
   have d4:wo.cell? ⟨w.heap.size+1+1,4,none⟩=some (.int .u32 (xe:Int)):=by rw [hwo];exact c4
   have d5:wo.cell? ⟨w.heap.size+1+1,5,none⟩=some (.int .u32 (xf:Int)):=by rw [hwo];exact c5
   have d6:wo.cell? ⟨w.heap.size+1+1,6,none⟩=some (.int .u32 (xg:Int)):=by rw [hwo];exact c6
   have d7:wo.cell? ⟨w.heap.size+1+1,7,none⟩=some (.int .u32 (xh:Int)):=by rw [hwo];exact c7
   have dk:wo.cell? ⟨0,t,none⟩=some (.int .u32 (kt:Int)):=by rw [hwo];exact ck
   have h1d:=h1.drewN nq
   have h2d:=h2.drewN nq
   have h3d:=h3.drewN nq
   have hbeld:=bdrewN hbel nq
   rw [←hwo] at h1d h2d h3d hbeld
   clear h1 h2 h3 hbel c0 c1 c2 c3 c4 c5 c6 c7 ck hwo
   have r6:=rotr_lt (n:=6) be (by omega) (by omega)
   have r11:=rotr_lt (n:=11) be (by omega) (by omega)
   have r25:=rotr_lt (n:=25) be (by omega) (by omega)
   have r2:=rotr_lt (n:=2) ba (by omega) (by omega)
   have r13:=rotr_lt (n:=13) ba (by omega) (by omega)
   have r22:=rotr_lt (n:=22) ba (by omega) (by omega)
   have e1:bits .xor .u32 (rotr xe 6:Int) (rotr xe 11:Int)=((rotr xe 6 ^^^ rotr xe 11:Nat):Int):=u32_xor_nat _ _ r6 r11
   have e2:bits .xor .u32 ((rotr xe 6 ^^^ rotr xe 11:Nat):Int) (rotr xe 25:Int)=((sum1 xe:Nat):Int):=u32_xor_nat _ _ (xor_lt r6 r11) r25
   have e3:bits .and .u32 (xe:Int) (xf:Int)=((xe &&& xf:Nat):Int):=u32_and_nat _ _ be bf
   have e4:bits .xor .u32 IntKind.u32.max (xe:Int)=((4294967295 ^^^ xe:Nat):Int):=u32_xor_nat 4294967295 _ (by omega) be
   have bn:4294967295 ^^^ xe<4294967296:=xor_lt (by omega) be
   have e5:bits .and .u32 ((4294967295 ^^^ xe:Nat):Int) (xg:Int)=(((4294967295 ^^^ xe) &&& xg:Nat):Int):=u32_and_nat _ _ bn bg
   have e6:bits .xor .u32 ((xe &&& xf:Nat):Int) (((4294967295 ^^^ xe) &&& xg:Nat):Int)=(((xe &&& xf) ^^^ ((4294967295 ^^^ xe) &&& xg):Nat):Int):=u32_xor_nat _ _ (and_lt bf) (and_lt bg)
   obtain ⟨X,hX,hXe⟩ : ∃ X:Nat,IntKind.u32.wrap (IntKind.u32.wrap (IntKind.u32.wrap (IntKind.u32.wrap ((xh:Int)+((sum1 xe:Nat):Int))+(((xe &&& xf) ^^^ ((4294967295 ^^^ xe) &&& xg):Nat):Int))+(kt:Int))+(wt:Int))=(X:Int)∧X=rndX ⟨xa,xb,xc,xd,xe,xf,xg,xh⟩ kt wt:=by
    refine ⟨_,?_,rfl⟩
    unfold rndX
    generalize ((xe &&& xf) ^^^ ((4294967295 ^^^ xe) &&& xg))=ch
    simp only [IntKind.wrap_u32]
    omega
   have hXh:=Lib.hid hXe
   clear hXe
   have f1:bits .xor .u32 (rotr xa 2:Int) (rotr xa 13:Int)=((rotr xa 2 ^^^ rotr xa 13:Nat):Int):=u32_xor_nat _ _ r2 r13
   have f2:bits .xor .u32 ((rotr xa 2 ^^^ rotr xa 13:Nat):Int) (rotr xa 22:Int)=((sum0 xa:Nat):Int):=u32_xor_nat _ _ (xor_lt r2 r13) r22
   have f3:bits .and .u32 (xa:Int) (xb:Int)=((xa &&& xb:Nat):Int):=u32_and_nat _ _ ba bb
   have f4:bits .and .u32 (xa:Int) (xc:Int)=((xa &&& xc:Nat):Int):=u32_and_nat _ _ ba bc
   have f5:bits .and .u32 (xb:Int) (xc:Int)=((xb &&& xc:Nat):Int):=u32_and_nat _ _ bb bc
   have f6:bits .xor .u32 ((xa &&& xb:Nat):Int) ((xa &&& xc:Nat):Int)=(((xa &&& xb) ^^^ (xa &&& xc):Nat):Int):=u32_xor_nat _ _ (and_lt bb) (and_lt bc)
   have f7:bits .xor .u32 (((xa &&& xb) ^^^ (xa &&& xc):Nat):Int) ((xb &&& xc:Nat):Int)=(((xa &&& xb) ^^^ (xa &&& xc) ^^^ (xb &&& xc):Nat):Int):=u32_xor_nat _ _ (xor_lt (and_lt bb) (and_lt bc)) (and_lt bc)
   obtain ⟨Y,hY,hYe⟩ : ∃ Y:Nat,IntKind.u32.wrap (((sum0 xa:Nat):Int)+(((xa &&& xb) ^^^ (xa &&& xc) ^^^ (xb &&& xc):Nat):Int))=(Y:Int)∧Y=rndY ⟨xa,xb,xc,xd,xe,xf,xg,xh⟩:=by
    refine ⟨_,?_,rfl⟩
    unfold rndY
    generalize (xa &&& xb) ^^^ (xa &&& xc) ^^^ (xb &&& xc)=mj
    simp only [IntKind.wrap_u32]
    omega
   have hYh:=Lib.hid hYe
   clear hYe
   go_region_held3 (fun w'=>w'.cell? ⟨w.heap.size+1+1,7,none⟩=some (.int .u32 (xh:Int))∧w'.cell? ⟨w.heap.size+1+1,5,none⟩=some (.int .u32 (xf:Int))∧w'.cell? ⟨w.heap.size+1+1,6,none⟩=some (.int .u32 (xg:Int))∧w'.cell? ⟨0,t,none⟩=some (.int .u32 (kt:Int))) (first | exact ⟨d7,d5,d6,dk⟩ | go_keep)
    (first
      | (go_at_call 130;(with_reducible refine (rot_at xe (-6) 6 rfl be (by omega) (by omega) _).mono ?_);rintro e w1 ⟨rfl,rfl⟩)
      | (go_at_call 130;(with_reducible refine (rot_at xe (-11) 11 rfl be (by omega) (by omega) _).mono ?_);rintro e w1 ⟨rfl,rfl⟩)
      | (go_at_call 130;(with_reducible refine (rot_at xe (-25) 25 rfl be (by omega) (by omega) _).mono ?_);rintro e w1 ⟨rfl,rfl⟩))
   go_wp2
   have d1':wo.drew.cell? ⟨w.heap.size+1+1,1,none⟩=some (.int .u32 (xb:Int)):=d1
   have d2':wo.drew.cell? ⟨w.heap.size+1+1,2,none⟩=some (.int .u32 (xc:Int)):=d2
   go_region_held3 (fun w'=>w'.cell? ⟨w.heap.size+1+1,1,none⟩=some (.int .u32 (xb:Int))∧w'.cell? ⟨w.heap.size+1+1,2,none⟩=some (.int .u32 (xc:Int))) (first | exact ⟨d1',d2'⟩ | exact ⟨d1,d2⟩ | go_keep)
    (first
      | (go_at_call 130;(with_reducible refine (rot_at xa (-2) 2 rfl ba (by omega) (by omega) _).mono ?_);rintro e w1 ⟨rfl,rfl⟩)
      | (go_at_call 130;(with_reducible refine (rot_at xa (-13) 13 rfl ba (by omega) (by omega) _).mono ?_);rintro e w1 ⟨rfl,rfl⟩)
      | (go_at_call 130;(with_reducible refine (rot_at xa (-22) 22 rfl ba (by omega) (by omega) _).mono ?_);rintro e w1 ⟨rfl,rfl⟩))
   go_wp2
   have g1:=h1d.drew.drew
   have g2:=h2d.drew.drew
   have g3:=h3d.drew.drew
   have gbel:=hbeld.drew.drew
   have gsz:w.heap.size+1+1<wo.drew.drew.heap.size:=g1.lt
   clear h1d h2d h3d hbeld d0 d1 d2 d3 d4 d5 d6 d7 dk d1' d2' e1 e2 e3 e4 e5 e6 f1 f2 f3 f4 f5 f6 f7 hX hY r2 r13 r22 r6 r11 r25
   generalize wo.drew.drew=wp at *
   obtain ⟨wq,hcp,hwq⟩ : ∃ wq,(Builtin.copy_ #[229,229] 3 #[.slice (some ⟨w.heap.size+1+1,1,none⟩) 7 7, .slice (some ⟨w.heap.size+1+1,0,none⟩) 7 8]).run Tryz.prog wp.drew = .ok (goInt 7) wq∧wq=wp.drew.setRow (w.heap.size+1+1) (u32s [xa,xa,xb,xc,xd,xe,xf,xg]):=⟨_,copy_up _ _ _ _ _ _ _ _ _ _ g1.drew,rfl⟩
   have q1:Blk wq (w.heap.size+1+1) 128 (u32s [xa,xa,xb,xc,xd,xe,xf,xg]):=by rw [hwq];exact setRow_heap _ _ _ _ _ _ g1.drew
   have q2:Blk wq w.heap.size 128 (u32s s0.list):=by rw [hwq];unfold Blk;rw [setRow_other _ _ _ _ (by omega)];exact g2.drew
   have q3:Blk wq (w.heap.size+1) 128 (u32s (List.replicate 8 0)):=by rw [hwq];unfold Blk;rw [setRow_other _ _ _ _ (by omega)];exact g3.drew
   have qbel:Below w.heap.size w wq:=by rw [hwq];exact zAa gbel.drew (by omega) _
   clear g1 g2 g3 gbel hwq
   go_region
   clear hcp
   have c4:wq.cell? ⟨w.heap.size+1+1,4,none⟩=some (.int .u32 (xd:Int)):=q1.cell 4
   have c0:wq.cell? ⟨w.heap.size+1+1,0,none⟩=some (.int .u32 (xa:Int)):=q1.cell 0
   have z4:=q1.frozen 4
   have z0:=q1.frozen 0
   obtain ⟨D,hD,hDe⟩ : ∃ D:Nat,IntKind.u32.wrap ((xd:Int)+(X:Int))=(D:Int)∧D=(xd+X)%4294967296:=⟨_,by rw [IntKind.wrap_u32];omega,rfl⟩
   obtain ⟨A0,hA,hAe⟩ : ∃ A0:Nat,IntKind.u32.wrap ((X:Int)+(Y:Int))=(A0:Int)∧A0=(X+Y)%4294967296:=⟨_,by rw [IntKind.wrap_u32];omega,rfl⟩
   have hDh:=Lib.hid hDe
   have hAh:=Lib.hid hAe
   clear hDe hAe
   go_wp2
   go_roundw
   case rel=>
    refine ⟨t+1,⟨A0,xa,xb,xc,D,xe,xf,xg⟩,by go_num,by omega,?_,⟨?_,ba,bb,bc,?_,be,bf,bg⟩,?_,?_,?_,?_⟩
    ·show _=_
     rw [hnext.out,rnd,←hXh.out,←hYh.out,←hDh.out,←hAh.out]
    ·have:=hAh.out;show A0<_;omega
    ·have:=hDh.out;show D<_;omega
    ·have:=((q1.set_ 4 (.int .u32 (D:Int))).set_ 0 (.int .u32 (A0:Int)))
     rw [zB2,zB2] at this
     exact this
    ·exact (q2.far (p:=⟨w.heap.size+1+1,4,none⟩) (by simp;omega) _).far (p:=⟨w.heap.size+1+1,0,none⟩) (by simp;omega) _
    ·exact (q3.far (p:=⟨w.heap.size+1+1,4,none⟩) (by simp) _).far (p:=⟨w.heap.size+1+1,0,none⟩) (by simp) _
    ·exact (qbel.setCell (p:=⟨w.heap.size+1+1,4,none⟩) (by simp;omega) _).setCell (p:=⟨w.heap.size+1+1,0,none⟩) (by simp;omega) _
   case measure=>simp [intOf];omega
  ·have ht64:t=64:=by omega
   have hti : ¬ (t:Int)<64:=by omega
   have hsv:Hid (R=s.plus s0):=by show _=_;rw [←hR.out,blockOf,←ht64,←hst.out]
   clear ht64 hst
   go_wp2
   go_loopw [96] (fun i wr => ∃ i':Nat,i = .int .i64 i'∧i'≤8∧Blk wr (w.heap.size+1+1) 128 (u32s (mixed s.list s0.list i'))∧Blk wr w.heap.size 128 (u32s s0.list)∧Blk wr (w.heap.size+1) 128 (u32s (List.replicate 8 0))∧Below w.heap.size w wr) (fun i _=>8-(intOf i).toNat)
   case atStart=>exact ⟨0,rfl,by omega,h1,h2,h3,hbel⟩
   case round=>
    obtain ⟨i,rfl,hi,h1,h2,h3,hbel⟩:=hrel
    have hbs:=h1.lt
    by_cases hi8:i<8
    ·have hii:(i:Int)<8:=by omega
     have ml:(mixed s.list s0.list i).length=8:=zD0 s.list s0.list rfl i hi
     have cv:wr.cell? ⟨w.heap.size+1+1,i,none⟩=some (.int .u32 (s.list.getD i 0:Nat)):=by
      rw [h1.cell,zA0 _ _ (by omega),mixed_get s.list s0.list rfl i hi8]
     have cs:wr.cell? ⟨w.heap.size,i,none⟩=some (.int .u32 (s0.list.getD i 0:Nat)):=by
      rw [h2.cell,zA0 _ _ hi8]
     have zv:=h1.frozen i
     have hms:=Lib.hid (mixed_step s.list s0.list rfl i hi8)
     unfold add32 at hms
     generalize s.list.getD i 0=xv at *
     generalize s0.list.getD i 0=xs at *
     obtain ⟨N,hN,hNe⟩ : ∃ N:Nat,IntKind.u32.wrap ((xv:Int)+(xs:Int))=(N:Int)∧N=(xv+xs)%4294967296:=⟨_,by rw [IntKind.wrap_u32];omega,rfl⟩
     have hNh:=Lib.hid hNe
     clear hNe
     go_wp2
     go_region
     go_wp2
     go_roundw
     case rel=>
      refine ⟨i+1,by go_num,by omega,?_,?_,?_,?_⟩
      ·have:=(h1.set_ i (.int .u32 (N:Int))).drew
       rw [zB2,hNh.out,hms.out] at this
       rw [hNh.out]
       exact this
      ·exact (h2.far (p:=⟨w.heap.size+1+1,i,none⟩) (by simp;omega) _).drew
      ·exact (h3.far (p:=⟨w.heap.size+1+1,i,none⟩) (by simp) _).drew
      ·exact (hbel.setCell (p:=⟨w.heap.size+1+1,i,none⟩) (by simp;omega) _).drew
     case measure=>simp [intOf];omega
    ·have hi8':i=8:=by omega
     have hii : ¬ (i:Int)<8:=by omega
     rw [hi8',mixed_all,←hsv.out] at h1
     clear hi8'
     have hi':(Tryz.prog.info? 128).map (·.size)=some (u32s R.list).size:=by rw [zAp];exact sz8
     have hall':=zBr R.list
     have hold':(u32s (List.replicate 8 0)).size=(u32s R.list).size:=by rw [zAp];rfl
     go_wp2_with (first
      | (refine wpList_load_row rfl 128 (.tmp 6) rfl (w.heap.size+1+1) rfl _ _ _ _ h1 Tryz.underlying128 rfl hi' ?_)
      | (refine wpList_store_row rfl 128 (.tmp 4) (.tmp 108) rfl (w.heap.size+1) (u32s R.list) rfl rfl _ _ h3 hi' hold' hall' ?_))
     exact bodyPost_ret (results_cell_row rfl _ _ (w.heap.size+1) _ _ _ _ rfl (setRow_heap _ _ _ _ _ _ h3) Tryz.underlying128 rfl hi') rfl ⟨by rw [hR.out],zAa hbel (by omega) _⟩
end
end Go.Proofs.YtodebknbchaccaaGreatDoor
