/- Texts of this claim, laid together: ObjN, Varint, ObjA, ObjB, ObjE, ObjM, ObjR, Bldr, ObjY, ObjZ, ObjC, ObjD, ObjS, ObjF. -/
import Derived.Test.YtbcbmjdmlcldjaaGreatDoorMc
import Derived.Deep.DeepCutAuto
import Derived.BigQuiet
namespace Go.Proofs.YtbcbmjdmlcldjaaGreatDoor
open Go.RowKit
theorem idx_mem (c:UInt8) : ∀ s:Txt,(c ∉ s∧Lib.indexByte s c = -1)∨(c∈s∧0≤Lib.indexByte s c)
 | [] => .inl ⟨by simp,rfl⟩
 | x::r=>by
   by_cases hx:x=c
   ·exact .inr ⟨by simp [hx],by simp [Lib.indexByte,hx]⟩
   ·have hb:(x==c)=false:=by simpa using hx
    rcases idx_mem c r with ⟨h1,h2⟩ | ⟨h1,h2⟩
    ·exact .inl ⟨by simp [h1];exact fun e=>hx e.symm,by simp [Lib.indexByte,hb,h2]⟩
    ·refine .inr ⟨by simp [h1],?_⟩
     have hne:(Lib.indexByte r c == -1)=false:=by rw [beq_eq_false_iff_ne];omega
     simp only [Lib.indexByte,hb,hne]
     simp
     omega
theorem name_all {s:Txt} (h0:(0:UInt8) ∉ s) (h47:(47:UInt8) ∉ s):s.all (fun c => !(c==0) && !(c==47))=true:=by
 rw [List.all_eq_true]
 intro c hc
 have h1:c≠0:=fun e=>h0 (e▸hc)
 have h2:c≠47:=fun e=>h47 (e▸hc)
 simp [h1,h2]
theorem name_no {s:Txt} (h:(0:UInt8)∈s∨(47:UInt8)∈s):nameB s=false:=by
 unfold nameB
 rw [Bool.and_eq_false_iff]
 refine .inr (List.all_eq_false.2 ?_)
 rcases h with h | h
 ·exact ⟨0,h,by simp⟩
 ·exact ⟨47,h,by simp⟩
theorem zCV (s:Txt) (c:Int) (k:UInt8) (hk:c.toNat.toUInt8=k) (w:World):Calls Tryz.prog 143 #[.string (B s), .int .u8 c] w fun e w'=>e = .returned (.int .i64 (Lib.indexByte s k))∧w'=w:=by
 have:=Tryz.strings_IndexByte (B s) c w
 rw [hk,show (B s).data.toList=s by simp [B]] at this
 exact this
set_option maxRecDepth 100000 in
set_option maxHeartbeats 1000000 in
theorem name_calls (s:Txt) (w:World):Calls Tryz.prog 124 #[.string (B s)] w fun e w'=>e = .returned (.bool (nameB s))∧w'=w:=by
 obtain ⟨r,hr⟩ : ∃ r,Hid (r=nameB s):=⟨_,Lib.hid rfl⟩
 rw [←hr.out]
 have x0:=Lib.hid (zCV s 0 0 rfl w)
 have x47:=Lib.hid (zCV s 47 47 rfl w)
 by_cases hz:s=[]
 ·subst hz
  have hf:Hid (r=false):=hr
  clear x0 x47
  go_enter Tryz.func124,Tryz.ntmps124
  go_wp2
  go_ret
  exact ⟨by rw [hf.out];rfl,rfl⟩
 ·have hb0:List.isEmpty s=false:=by
   cases s with
   | nil=>exact absurd rfl hz
   | cons _ _=>rfl
  have h1:1≤s.length:=List.length_pos_iff.2 hz
  by_cases h40:s.length≤40
  ·have i40:(s.length:Int)≤40:=by omega
   rcases idx_mem 0 s with ⟨m0,e0⟩ | ⟨m0,e0⟩
   ·rw [e0] at x0
    rcases idx_mem 47 s with ⟨m7,e7⟩ | ⟨m7,e7⟩
    ·rw [e7] at x47
     have hf:Hid (r=true):=by show r=true;rw [hr.out];unfold nameB;rw [name_all m0 m7];simp [h1,h40]
     clear e0 e7 m0 m7 hr h1 h40
     go_enter Tryz.func124,Tryz.ntmps124
     go_wp2_with (first
      | ((with_reducible refine x0.out.mono ?_);rintro e w1 ⟨rfl,rfl⟩)
      | ((with_reducible refine x47.out.mono ?_);rintro e w1 ⟨rfl,rfl⟩))
     go_ret
     exact ⟨by rw [hf.out];rfl,rfl⟩
    ·have hf:Hid (r=false):=by show r=false;rw [hr.out];exact name_no (.inr m7)
     have e7' : ¬ Lib.indexByte s 47<0:=by omega
     generalize Lib.indexByte s 47=q at *
     clear e0 e7 m0 m7 hr h1 h40
     go_enter Tryz.func124,Tryz.ntmps124
     go_wp2_with (first
      | ((with_reducible refine x0.out.mono ?_);rintro e w1 ⟨rfl,rfl⟩)
      | ((with_reducible refine x47.out.mono ?_);rintro e w1 ⟨rfl,rfl⟩))
     go_ret
     exact ⟨by rw [hf.out];simp [e7'],rfl⟩
   ·have hf:Hid (r=false):=by show r=false;rw [hr.out];exact name_no (.inl m0)
    have e0' : ¬ Lib.indexByte s 0<0:=by omega
    generalize Lib.indexByte s 0=q at *
    clear e0 m0 hr h1 h40 x47
    go_enter Tryz.func124,Tryz.ntmps124
    go_wp2_with (first
     | ((with_reducible refine x0.out.mono ?_);rintro e w1 ⟨rfl,rfl⟩))
    go_ret
    exact ⟨by rw [hf.out];rfl,rfl⟩
  ·have i40 : ¬ (s.length:Int)≤40:=by omega
   have hf:Hid (r=false):=by show r=false;rw [hr.out];unfold nameB;simp [h40]
   clear x0 x47 hr h1 h40
   go_enter Tryz.func124,Tryz.ntmps124
   go_wp2
   go_ret
   exact ⟨by rw [hf.out];rfl,rfl⟩
theorem all_take {s:Txt} {p:UInt8→Bool} {k:Nat} {c:UInt8} (h:(s.take k).all p=true) (hc:s[k]?=some c) (hp:p c=true):(s.take (k+1)).all p=true:=by
 rw [List.take_add_one,List.all_append,h,hc]
 simp [hp]
set_option maxRecDepth 100000 in
set_option maxHeartbeats 1000000 in
theorem zD6 (s:Txt) (hs:s.length≤9223372036854775807) (w:World):Calls Tryz.prog 108 #[.string (B s)] w fun e w'=>e = .returned (.bool (nameB s))∧w'=w:=by
 obtain ⟨b,hb⟩ : ∃ b,Hid (b=nameB s):=⟨_,Lib.hid rfl⟩
 rw [←hb.out]
 go_enter Tryz.func108,Tryz.ntmps108
 go_wp2
 go_loop [3] (fun vi => ∃ k:Nat,vi = .int .i64 k∧k≤s.length∧Hid ((s.take k).all (fun c => !(c==0) && !(c==47))=true)) (fun vi=>s.length-(intOf vi).toNat)
 case atStart=>exact ⟨0,rfl,by omega,Lib.hid rfl⟩
 case round=>
  obtain ⟨k,rfl,hk,hall⟩:=hrel
  by_cases hlt:k<s.length
  ·have hki:(k:Int)<(s.length:Int):=by omega
   obtain ⟨c,hc⟩ : ∃ c,s[k]=c:=⟨_,rfl⟩
   have hck:s[k]?=some c:=by rw [List.getElem?_eq_getElem hlt,hc]
   have hm:=List.mem_of_getElem? hck
   obtain ⟨n,hn⟩ : ∃ n,c.toNat=n:=⟨_,rfl⟩
   by_cases g1:n=0
   ·have e1:c=0:=UInt8.toNat_inj.1 (by rw [hn,g1];rfl)
    have hf:Hid (b=false):=by show b=false;rw [hb.out];exact name_no (.inl (e1▸hm))
    subst g1
    clear hb hall hck hm e1
    go_wp2
    go_ret
    exact ⟨by rw [hf.out];rfl,rfl⟩
   ·have i1:((n:Int)==0)=false:=by rw [beq_eq_false_iff_ne];omega
    have e1:c≠0:=fun e=>g1 (by rw [←hn,e];rfl)
    by_cases g2:n=47
    ·have e2:c=47:=UInt8.toNat_inj.1 (by rw [hn,g2];rfl)
     have hf:Hid (b=false):=by show b=false;rw [hb.out];exact name_no (.inr (e2▸hm))
     subst g2
     clear hb hall hck hm e2 e1
     go_wp2
     go_ret
     exact ⟨by rw [hf.out];rfl,rfl⟩
    ·have i2:((n:Int)==47)=false:=by rw [beq_eq_false_iff_ne];omega
     have e2:c≠47:=fun e=>g2 (by rw [←hn,e];rfl)
     have hst:=Lib.hid (all_take hall.out hck (by simp [e1,e2]))
     clear hall hck hm e1 e2 g1 g2
     go_wp2
     go_round
     case rel=>exact ⟨k+1,by go_num,by omega,hst⟩
     case measure=>simp [intOf];omega
  ·have hki : ¬ (k:Int)<(s.length:Int):=by omega
   have hf:Hid (b=(decide (1≤s.length)&&decide (s.length≤40))):=by
    show b=_
    have:=hall.out
    rw [List.take_of_length_le (by omega)] at this
    rw [hb.out]
    unfold nameB
    rw [this,Bool.and_true]
   clear hb hall
   by_cases h1:1≤s.length
   ·have i1:(1:Int)≤(s.length:Int):=by omega
    by_cases h40:s.length≤40
    ·have i40:(s.length:Int)≤40:=by omega
     go_wp2
     go_ret
     exact ⟨by rw [hf.out];simp [h1,h40],rfl⟩
    ·have i40 : ¬ (s.length:Int)≤40:=by omega
     go_wp2
     go_ret
     exact ⟨by rw [hf.out];simp [h1,h40],rfl⟩
   ·have i1 : ¬ (1:Int)≤(s.length:Int):=by omega
    go_wp2
    go_ret
    exact ⟨by rw [hf.out];simp [h1],rfl⟩
def getPair : Option (Nat×Nat)→Value
 | some (n,k) => .tuple #[.int .u64 n, .int .i64 k]
 | none => .tuple #[.int .u64 0, .int .i64 0]
def getTriple (l:List UInt8):Option (Nat×Nat)→Value
 | some (n,k) => .tuple #[.int .u64 n, .string (B (l.drop k)), .int .i64 0]
 | none => .tuple #[.int .u64 0, .string (B []), .int .i64 2]
set_option maxRecDepth 100000 in
set_option maxHeartbeats 400000 in
theorem zCO (n:Nat) (hn:n≤18446744073709551615) (w:World) :
 Calls Tryz.prog 109 #[.int .u64 n] w fun e w'=>e = .returned (.string (B (put n)))∧Below w.heap.size w w':=by
 have hc:=fun (wx:World) (x:Int)=>Tryz.str_of_one wx x
 go_enter Tryz.func109,Tryz.ntmps109
 go_wp2
 go_loopw [0,3] (fun m s wr => ∃ (f k:Nat) (acc:List UInt8),m = .int .u64 k∧s = .string (B acc)∧Hid (acc++putF f k=put n)∧acc.length≤9∧acc.length+f≤9∧Hid (Fits f k)∧Below w.heap.size w wr) (fun m _ _=>(intOf m).toNat)
 case atStart=>exact ⟨9,n,[],rfl,rfl,rfl,by simp,by simp,Lib.hid (Fits.of64 hn),Below.refl _ _⟩
 case round=>
  obtain ⟨f,k,acc,rfl,rfl,h1,h3,h4,h2,hb⟩:=hrel
  have hle:=h2.out.le (by omega)
  go_wp2
  ·have hk:128≤k:=by omega
   obtain ⟨f,rfl⟩:=h2.out.pos hk
   go_roundw
   case rel=>exact ⟨f,k / 128,acc++[UInt8.ofNat (128+k%128)],by go_num,by rw [ofNat_add_u8];rfl,Lib.hid (by rw [←h1.out,putF_big f k hk];simp),by simp;omega,by simp;omega,Lib.hid h2.out.next,hb.alloc hb.size _⟩
   case measure=>simp [intOf];omega
  ·have hk:k<128:=by omega
   go_ret
   refine ⟨?_,hb.alloc hb.size _⟩
   rw [←h1.out,zEf f k hk]
   rfl
set_option maxRecDepth 100000 in
set_option maxHeartbeats 800000 in
theorem zCN (l:List UInt8) (hl:l.length≤4611686018427387904) (w:World) :
 Calls Tryz.prog 140 #[.string (B l)] w fun e w'=>e = .returned (getPair (get l))∧w'=w:=by
 go_enter Tryz.func140,Tryz.ntmps140
 go_wp2
 go_loop [4] (fun e => ∃ k:Nat,e = .int .i64 k∧k≤10∧k≤l.length∧Hid (k≤lead l)) (fun e=>10-(intOf e).toNat)
 case atStart=>exact ⟨0,rfl,by omega,by omega,Nat.zero_le _⟩
 case round=>
  obtain ⟨e,rfl,h1,h2,h3⟩:=hrel
  by_cases ha:e<l.length
  ·by_cases hb:e<10
   ·obtain ⟨c,hc⟩ : ∃ c,l[e]=c:=⟨_,rfl⟩
    by_cases hd:128≤c.toNat
    ·have hn:Hid (e+1≤lead l):=lead_next h3.out ha (by rw [hc];exact hd)
     go_wp2
     go_round
     case rel=>exact ⟨e+1,by go_num,by omega,by omega,hn⟩
     case measure=>simp [intOf];omega
    ·have hle:Hid (lead l=e):=zD4 h3.out ha (by rw [hc];omega)
     by_cases h9:e=9∧1<c.toNat
     ·obtain ⟨rfl,h9'⟩:=h9
      have hfin:Hid (get l=none):=get_nine ha hle.out (by rw [hc];exact h9')
      go_wp2
      all_goals first | (exfalso;omega) | (go_ret2;exact ⟨by rw [hfin.out];rfl,rfl⟩)
     ·by_cases h0:0<e∧c.toNat=0
      ·obtain ⟨h0',h0c⟩:=h0
       have hfin:Hid (get l=none):=get_zero ha hle.out h0' (by rw [hc];exact h0c)
       have h0d:((c.toNat:Int)==0)=true:=by simp [h0c]
       have h9' : ¬ 1<c.toNat:=by omega
       have h0c':=Lib.hid h0c
       clear h9 h0c
       by_cases he9:e=9
       ·subst he9
        go_wp2
        all_goals first | (exfalso;omega) | (go_ret2;exact ⟨by rw [hfin.out];rfl,rfl⟩)
       ·go_wp2
        all_goals first | (exfalso;omega) | (go_ret2;exact ⟨by rw [hfin.out];rfl,rfl⟩)
      ·obtain ⟨V,hfin0,hV00,hVs0,hVb⟩:=get_seq ha hle.out hb (fun h=>by rw [hc];omega) (fun h=>by rw [hc];omega)
       have hfin:=Lib.hid hfin0
       have hV0:=Lib.hid hV00
       have hVs:=Lib.hid hVs0
       clear hfin0 hV00 hVs0
       have hVb':=Lib.hid hVb
       clear hVb
       have hcz:0<e→((c.toNat:Int)==0)=false:=by intro h;simp;omega
       by_cases he9:e=9
       ·subst he9
        have hcz':=hcz (by omega)
        have hc1 : ¬ 1<c.toNat:=by omega
        clear hcz
        go_wp2
        all_goals first | (exfalso;omega) | (exfalso;simp at ha;done) | (exfalso;rename_i hnil _;subst hnil;simp at ha;done) | skip
        all_goals
         go_loop [5,6] (fun n i => ∃ j:Nat,j≤9+1∧i = .int .i64 ((j:Int)-1)∧n = .int .u64 (V j)) (fun _ i=>(intOf i+1).toNat)
         case atStart=>exact ⟨9+1,by omega,by go_num,by rw [hV0.out];rfl⟩
         case round=>
          obtain ⟨j,hj,rfl,rfl⟩:=hrel
          cases j with
          | zero=>
            go_wp2
            all_goals first | (exfalso;omega) | skip
            go_ret2
            exact ⟨by rw [hfin.out];rfl,rfl⟩
          | succ m=>
            have hm:m<l.length:=by omega
            have hs:=hVs.out m hm (by omega)
            have hb1:=hVb'.out m
            have hji:((m+1:Nat):Int)-1=(m:Int):=by omega
            have hx:128*(V (m+1):Int)+((l[m]).toNat:Int)%128≤18446744073709551615:=by omega
            have hs':Hid ((V m:Int)=128*(V (m+1):Int)+((l[m]).toNat:Int)%128):=by rw [hs];show (_:Int)=_;omega
            clear hs
            rw [hji]
            generalize V (m+1)=N at *
            go_wp2
            all_goals first | (exfalso;omega) | skip
            go_round
            case rel=>exact ⟨m,by omega,by go_num,by rw [hs'.out]⟩
            case measure=>simp [intOf]
       ·by_cases he0:e=0
        ·subst he0
         clear hcz
         go_wp2
         all_goals first | (exfalso;omega) | (exfalso;simp at ha;done) | (exfalso;rename_i hnil _;subst hnil;simp at ha;done) | skip
         all_goals
          go_loop [5,6] (fun n i => ∃ j:Nat,j≤0+1∧i = .int .i64 ((j:Int)-1)∧n = .int .u64 (V j)) (fun _ i=>(intOf i+1).toNat)
          case atStart=>exact ⟨0+1,by omega,by go_num,by rw [hV0.out];rfl⟩
          case round=>
           obtain ⟨j,hj,rfl,rfl⟩:=hrel
           cases j with
           | zero=>
             go_wp2
             all_goals first | (exfalso;omega) | skip
             go_ret2
             exact ⟨by rw [hfin.out];rfl,rfl⟩
           | succ m=>
             have hm:m<l.length:=by omega
             have hs:=hVs.out m hm (by omega)
             have hb1:=hVb'.out m
             have hji:((m+1:Nat):Int)-1=(m:Int):=by omega
             have hx:128*(V (m+1):Int)+((l[m]).toNat:Int)%128≤18446744073709551615:=by omega
             have hs':Hid ((V m:Int)=128*(V (m+1):Int)+((l[m]).toNat:Int)%128):=by rw [hs];show (_:Int)=_;omega
             clear hs
             rw [hji]
             generalize V (m+1)=N at *
             go_wp2
             all_goals first | (exfalso;omega) | skip
             go_round
             case rel=>exact ⟨m,by omega,by go_num,by rw [hs'.out]⟩
             case measure=>simp [intOf]
        ·have hcz':=hcz (by omega)
         clear hcz
         go_wp2
         all_goals first | (exfalso;omega) | (exfalso;simp at ha;done) | (exfalso;rename_i hnil _;subst hnil;simp at ha;done) | skip
         all_goals
          go_loop [5,6] (fun n i => ∃ j:Nat,j≤e+1∧i = .int .i64 ((j:Int)-1)∧n = .int .u64 (V j)) (fun _ i=>(intOf i+1).toNat)
          case atStart=>exact ⟨e+1,by omega,by go_num,by rw [hV0.out];rfl⟩
          case round=>
           obtain ⟨j,hj,rfl,rfl⟩:=hrel
           cases j with
           | zero=>
             go_wp2
             all_goals first | (exfalso;omega) | skip
             go_ret2
             exact ⟨by rw [hfin.out];rfl,rfl⟩
           | succ m=>
             have hm:m<l.length:=by omega
             have hs:=hVs.out m hm (by omega)
             have hb1:=hVb'.out m
             have hji:((m+1:Nat):Int)-1=(m:Int):=by omega
             have hx:128*(V (m+1):Int)+((l[m]).toNat:Int)%128≤18446744073709551615:=by omega
             have hs':Hid ((V m:Int)=128*(V (m+1):Int)+((l[m]).toNat:Int)%128):=by rw [hs];show (_:Int)=_;omega
             clear hs
             rw [hji]
             generalize V (m+1)=N at *
             go_wp2
             all_goals first | (exfalso;omega) | skip
             go_round
             case rel=>exact ⟨m,by omega,by go_num,by rw [hs'.out]⟩
             case measure=>simp [intOf]
   ·have hfin:Hid (get l=none):=get_ten (by have:=h3.out;omega)
    have hb':e=10:=by omega
    subst hb'
    go_wp2
    all_goals first | (exfalso;omega) | (go_ret2;exact ⟨by rw [hfin.out];rfl,rfl⟩)
  ·have hfin:Hid (get l=none):=get_end (by have:=h3.out;omega)
   go_wp2
   all_goals first | (exfalso;omega) | (go_ret2;exact ⟨by rw [hfin.out];rfl,rfl⟩)
set_option maxRecDepth 100000 in
set_option maxHeartbeats 1000000 in
theorem one_calls (n:Int) (w:World):Calls Tryz.prog 69 #[.int .i64 n] w fun e w'=>e = .returned (.string (B [byteK n]))∧Below w.heap.size w w':=by
 have hc:=fun (wx:World) (x:Int)=>Tryz.str_of_one wx x
 go_enter Tryz.func69,Tryz.ntmps69
 go_wp2
 go_ret
 exact ⟨rfl,(Below.refl _ _).alloc (Nat.le_refl _) _⟩
set_option maxRecDepth 100000 in
set_option maxHeartbeats 1000000 in
theorem zCz (l:Txt) (hl:l.length=32) (w:World):Calls Tryz.prog 110 #[.agg (u8s l)] w fun e w'=>e = .returned (.string (B l))∧Below w.heap.size w w':=by
 have hc:=str_of_blk (w.alloc (.cells (u8s l) 53)) (Blk.new w _ (u8s l))
 rw [hl] at hc
 go_enter Tryz.func110,Tryz.ntmps110
 go_wp2
 go_ret
 exact ⟨rfl,(Below.refl _ _).alloc (Nat.le_refl _) _⟩
set_option maxRecDepth 100000 in
set_option maxHeartbeats 1000000 in
theorem kind_calls (n:Int) (w:World):Calls Tryz.prog 123 #[.int .i64 n] w fun e w'=>e = .returned (.bool (kindB n))∧w'=w:=by
 obtain ⟨b,hb⟩ : ∃ b,Hid (b=kindB n):=⟨_,Lib.hid rfl⟩
 rw [←hb.out]
 have hb2:=hb.out
 unfold kindB at hb2
 by_cases h1:1≤n
 ·by_cases h4:n≤4
  ·have hf:Hid (b=true):=by show b=true;rw [hb2];simp [h1,h4]
   clear hb hb2
   go_enter Tryz.func123,Tryz.ntmps123
   go_wp2
   go_ret
   exact ⟨by rw [hf.out];simp [h4],rfl⟩
  ·have hf:Hid (b=false):=by show b=false;rw [hb2];simp [h4]
   clear hb hb2
   go_enter Tryz.func123,Tryz.ntmps123
   go_wp2
   go_ret
   exact ⟨by rw [hf.out];simp [h4],rfl⟩
 ·have hf:Hid (b=false):=by show b=false;rw [hb2];simp [h1]
  clear hb hb2
  go_enter Tryz.func123,Tryz.ntmps123
  go_wp2
  go_ret
  exact ⟨by rw [hf.out];simp [h1],rfl⟩
set_option maxRecDepth 100000 in
set_option maxHeartbeats 1000000 in
theorem zBU (s:Txt) (hs:s.length≤1000000000) (w:World):Calls Tryz.prog 70 #[.string (B s)] w fun e w'=>e = .returned (.string (B (textE s)))∧Below w.heap.size w w':=by
 have hp:=Lib.hid (zCO s.length (by omega) w)
 have hpl:=zAT s.length
 have hte:Hid (textE s=put s.length++s):=Lib.hid rfl
 generalize put s.length=P at *
 have hn : ¬ 9223372036854775807<P.length+s.length:=by omega
 go_enter Tryz.func70,Tryz.ntmps70
 go_wp2_with (first
  | ((with_reducible refine hp.out.mono ?_);rintro e w1 ⟨rfl,hb1⟩))
 go_ret
 exact ⟨by rw [hte.out];rfl,hb1⟩
section
attribute [local go_sem ↓] ldvI_eq
theorem boxed {w:World} {ve vp:Value} {o:ObjL} (ho:ObjOk o):ObjB (w.alloc (.cells (objC o ve vp).toArray 68)) w.heap.size o ve vp:=⟨Blk.new w _ _,ho.tree,ho.target⟩
theorem int_eq0 (n:Nat):((n:Int)==0)=(n==0):=by
 rw [Bool.eq_iff_iff,beq_iff_eq,beq_iff_eq];omega
set_option maxRecDepth 100000 in
set_option maxHeartbeats 4000000 in
theorem alone_calls (o:ObjL) (ho:ObjOk o) (A1 A2:Option Addr) (k1 k2:Nat) (w:World):Calls Tryz.prog 121 #[.agg (objC o (.slice A1 o.ents.length k1) (.slice A2 o.pars.length k2)).toArray] w fun e w'=>e = .returned (.bool (aloneB o))∧Below w.heap.size w w':=by
 have hO:=boxed (w:=w) (ve := .slice A1 o.ents.length k1) (vp := .slice A2 o.pars.length k2) ho
 have b0:Below w.heap.size w (w.alloc (.cells (objC o (.slice A1 o.ents.length k1) (.slice A2 o.pars.length k2)).toArray 68)):=(Below.refl _ _).alloc (Nat.le_refl _) _
 generalize (objC o (.slice A1 o.ents.length k1) (.slice A2 o.pars.length k2)).toArray=cs at *
 obtain ⟨W0,hW0⟩ : ∃ W0,w.alloc (.cells cs 68)=W0:=⟨_,rfl⟩
 rw [hW0] at hO b0
 have c0:=hO.kind
 have c1:=hO.data
 have c2:=hO.ents
 have c35:=hO.pars
 have c36:=hO.time
 have c37:=hO.text
 have c70:=hO.of_
 have c71:=hO.name
 have q1:=zAb hO.tree ho.tree
 have q2:=zAb hO.target ho.target
 have z1:=fun W=>zAP o.tree ho.tree W
 have z2:=fun W=>zAP o.target ho.target W
 have e1:Hid (commitN o=(decide (o.tree=List.replicate 32 0)&&decide ((o.pars.length:Int)=0)&&decide ((o.time:Int)=0)&&o.text.isEmpty)):=by
  show commitN o=_
  rw [show decide ((o.pars.length:Int)=0)=(o.pars.length==0) from by rw [Bool.eq_iff_iff,decide_eq_true_iff,beq_iff_eq];omega,show decide ((o.time:Int)=0)=(o.time==0) from by rw [Bool.eq_iff_iff,decide_eq_true_iff,beq_iff_eq];omega]
  rfl
 have e2:Hid (tagN o=(decide (o.target=List.replicate 32 0)&&decide (o.of_=0)&&o.name.isEmpty)):=by
  show tagN o=_
  rw [show decide (o.of_=0)=(o.of_==0) from by rw [Bool.eq_iff_iff,decide_eq_true_iff,beq_iff_eq]]
  rfl
 have e3:List.isEmpty o.data=blobN o:=rfl
 have e4:((o.ents.length:Int)==0)=treeN o:=by
  unfold treeN
  exact int_eq0 _
 have ht:o.time<4294967296:=ho.time
 obtain ⟨r,hr⟩ : ∃ r,Hid (r=aloneB o):=⟨_,Lib.hid rfl⟩
 rw [←hr.out]
 have hr2:=hr.out
 unfold aloneB at hr2
 replace hr2:=Lib.hid hr2
 clear hr hO ho
 generalize decide (o.tree=List.replicate 32 0)=T at *
 generalize decide (o.target=List.replicate 32 0)=G at *
 generalize commitN o=C at *
 generalize tagN o=D at *
 generalize blobN o=X at *
 generalize treeN o=Y at *
 go_enter Tryz.func121,Tryz.ntmps121
 go_upto_region 3 with fail
 go_cut [5] (fun s5 wx=>s5 = .bool C∧wx=W0)
 case first=>
  go_wp2
  all_goals
   go_meet
   case rel=>
    refine ⟨?_,rfl⟩
    rw [e1.out]
    clear c0 c1 c2 c35 c36 c37 c70 c71 q1 q2 z1 z2 e1 e2 hr2 e3 e4 b0 hW0
    simp_all
 case rest=>
  obtain ⟨rfl,rfl⟩:=hcut
  clear e1 c35 c36 c37 z1 q1
  go_upto_region 4 with fail
  go_cut [6] (fun s6 wx=>s6 = .bool D∧wx=wc)
  case first=>
   go_wp2
   all_goals
    go_meet
    case rel=>
     refine ⟨?_,rfl⟩
     rw [e2.out]
     clear c0 c1 c2 c70 c71 q2 z2 e2 hr2 e3 e4 b0 hW0
     simp_all
  case rest=>
   obtain ⟨rfl,rfl⟩:=hcut
   clear e2 c70 c71 z2 q2
   clear hW0
   go_wp2
   all_goals
    go_ret
    refine ⟨?_,b0⟩
    rw [hr2.out]
    simp_all
end
section
theorem sizedEnt {e:EntL} (h:EntOk e):(Tryz.prog.info? 138).map (·.size)=some (entC e).length:=by rw [zBw h];exact szEnt
theorem zD7 (r:EntL) : ∀ u∈entC r,u.oneCell'=true:=by
 intro u hu
 simp only [entC,List.mem_cons,u8s,List.toList_toArray,List.mem_map] at hu
 rcases hu with rfl | rfl | ⟨c,_,rfl⟩<;>rfl
theorem zB5 {W:World} {ops:Array Oper} {rest:List Oper} {o:Oper} {a:Act} {Q:Exit→Act→World→Prop} (hgd:o.guard=none) (x y:Operand) (ho:o.op = .store 138 x y)
 (r:EntL) (hr:EntOk r) (zs:Array Value) (hx:a.eval x = .pointer (some ⟨W.heap.size,0,none⟩)) (hy:a.eval y = .agg (entC r).toArray) (hz:zs.size=34)
 (h : ∀ W1,Blk W1 W.heap.size 138 (entC r).toArray→Below W.heap.size W W1→wpList Tryz.prog ops Q rest (a.put o.dst undef) W1):wpList Tryz.prog ops Q (o::rest) a (W.alloc (.cells zs 138)):=
 zBQ hgd _ x y ho (entC r).toArray zs hx hy (by rw [List.size_toArray];exact sizedEnt hr) (hz.trans (by simp [zBw hr])) (Array.all_eq_true_iff_forall_mem.2 fun u hu=>zD7 r u (by simpa using hu)) h
theorem zCf {l:List EntL} {i:Nat} (hi:i<l.length) (h:entAt l i=false):entsB l=false:=by
 unfold entsB
 rw [Bool.and_eq_false_iff]
 exact .inl (List.all_eq_false.2 ⟨i,by simpa using hi,by rw [h];simp⟩)
theorem ents_all {l:List EntL} (h:(List.range l.length).all (entAt l)=true):entsB l=decide (l.length≤64):=by unfold entsB;rw [h,Bool.true_and]
theorem zDO {p:Nat→Bool} {k:Nat} (h:(List.range k).all p=true) (hk:p k=true):(List.range (k+1)).all p=true:=by
 rw [List.range_succ,List.all_append,h];simp [hk]
theorem zE4 {l:List EntL} {k:Nat} {x:EntL} (hx:l[k]?=some x) (h:entB x=false):entAt l k=false:=by unfold entAt;rw [hx];simp only [h];rfl
theorem entAt_zero {l:List EntL} {x:EntL} (hx:l[0]?=some x) (h:entB x=true):entAt l 0=true:=by unfold entAt;rw [hx];simp only [h];rfl
theorem entAt_succ {l:List EntL} {k:Nat} {x p:EntL} (hx:l[k+1]?=some x) (hp:l[k]?=some p) (h:entB x=true):entAt l (k+1)=Op.bytesLess p.name x.name:=by unfold entAt;rw [hx];simp only [h,hp,Bool.true_and]
theorem zAA {w:World} {g o:Nat} {r:EntL} (h:w.rangeAt g o (entC r)):w.cell? ⟨g,o,none⟩=some (.string (B r.name))∧w.cell? ⟨g,o+1,none⟩=some (.int .i64 r.kind):=⟨h 0 _ rfl,h 1 _ rfl⟩
theorem zAD {w:World} {g:Nat} {r:EntL} (h:Blk w g 138 (entC r).toArray):w.rangeAt g 0 (entC r):=by
 have:=zAk h
 rwa [List.toList_toArray] at this
theorem range_entId {w:World} {g o:Nat} {r:EntL} (h:w.rangeAt g o (entC r)):w.rangeAt g (o+2) (u8s r.id).toList:=fun j u hu=>by
 have:=h (j+2) u (by simpa [entC] using hu)
 rwa [show o+(j+2)=o+2+j from by omega] at this
theorem two_ways (p x:Txt):(Op.bytesLess p x=true∧Op.bytesLess x p=false∧(p==x)=false∧(x==p)=false)∨(Op.bytesLess p x=false∧Op.bytesLess x p=true∧(p==x)=false∧(x==p)=false)∨(Op.bytesLess p x=false∧Op.bytesLess x p=false∧(p==x)=true∧(x==p)=true):=by
 cases h:Op.bytesLess p x with
 | true=>
   have h1:=less_ne h
   exact .inl ⟨rfl,zCs h,h1,by rw [beq_eq_false_iff_ne] at h1 ⊢;exact fun e=>h1 e.symm⟩
 | false=>
   by_cases e:p=x
   ·subst e
    exact .inr (.inr ⟨rfl,h,by simp,by simp⟩)
   ·have h2:=zBD h e
    have h1:=less_ne h2
    exact .inr (.inl ⟨rfl,h2,by rw [beq_eq_false_iff_ne];exact e,h1⟩)
structure EntQ (w:World) (g gs os:Nat) (l:List EntL) (r:EntL) (w':World):Prop where
 blk:Blk w' g 138 (entC r).toArray
 at_ : ∀ i x,l[i]?=some x→w'.rangeAt gs (os+i*34) (entC x)
 gs_:gs<w'.heap.size
 bel:Below w.heap.size w w'
section
variable {w:World} {g gs os:Nat} {l:List EntL} {r:EntL} {w':World}
theorem EntQ.drew (h:EntQ w g gs os l r w'):EntQ w g gs os l r w'.drew:=⟨h.blk.drew,h.at_,h.gs_,h.bel.drew⟩
theorem EntQ.name_ (h:EntQ w g gs os l r w'):w'.cell? ⟨g,0,none⟩=some (.string (B r.name)):=(zAA (zAD h.blk)).1
theorem EntQ.kind_ (h:EntQ w g gs os l r w') {n:Int} (hn:r.kind=n):w'.cell? ⟨g,1,none⟩=some (.int .i64 n):=hn▸(zAA (zAD h.blk)).2
theorem keepE {f:FuncId} {args:Array Value} {v:Value} {w0:World} (h:Calls Tryz.prog f args w0 fun e w'=>e = .returned v∧w'=w0) (hS:EntQ w g gs os l r w0) :
 Calls Tryz.prog f args w0 fun e w'=>e = .returned v∧EntQ w g gs os l r w':=
 h.mono fun _ _ ⟨he,hw⟩=>⟨he,hw▸hS⟩
end
set_option maxRecDepth 100000 in
set_option maxHeartbeats 4000000 in
theorem entries_calls (l:List EntL) (hok : ∀ e∈l,EntOk e) (v:Value) (w:World) (hv:Ents w v l):Calls Tryz.prog 122 #[v] w fun e w'=>e = .returned (.bool (entsB l))∧Below w.heap.size w w':=by
 have hlen:=hv.len
 obtain ⟨A,cap,rfl,hcap1,hcap2,hat⟩:=hv
 have hat:=Lib.hid hat
 obtain ⟨r,hr⟩ : ∃ r,Hid (r=entsB l):=⟨_,Lib.hid rfl⟩
 rw [←hr.out]
 go_enter Tryz.func122,Tryz.ntmps122
 go_wp2
 go_loopw [7] (fun i wr => ∃ k:Nat,i = .int .i64 k∧k≤l.length∧Hid ((List.range k).all (entAt l)=true)∧Below w.heap.size w wr) (fun i _=>l.length-(intOf i).toNat)
 case atStart=>exact ⟨0,rfl,by omega,rfl,Below.refl _ _⟩
 case round=>
  obtain ⟨k,rfl,hk,hall,hbel⟩:=hrel
  by_cases hlt:k<l.length
  ·have hki:(k:Int)<(l.length:Int):=by omega
   obtain ⟨gs,os,rfl,hgs,hcell⟩:=hat.out (by omega)
   obtain ⟨x,hx⟩ : ∃ x,l[k]?=some x:=⟨_,List.getElem?_eq_getElem hlt⟩
   have hxok:EntOk x:=hok x (List.mem_of_getElem? hx)
   have hx0:=zAc (hcell k x hx) hgs hbel
   have hxh:=Lib.hid hx
   clear hx
   have hsz:=hbel.size
   go_wp2_with (first
    | (refine wpList_load_mid rfl 138 (.tmp 10) rfl gs (os+k*34) rfl (entC x) _ hx0 Tryz.underlying138 rfl (sizedEnt hxok) ?_)
    | (refine zB5 rfl (.tmp 4) (.tmp 11) rfl x hxok _ rfl rfl rfl ?_;intro W1 hb1 hbl1))
   obtain ⟨g,hg⟩ : ∃ g,wr.heap.size=g:=⟨_,rfl⟩
   have hS:EntQ w g gs os l x W1:=by
    have h1:=bthen hbel hsz hbl1
    exact ⟨hg▸hb1,fun i y hy=>zAc (hcell i y hy) hgs h1,Nat.lt_of_lt_of_le hgs h1.size,h1⟩
   rw [hg]
   have hnm:=fun W=>name_calls x.name W
   have hx:=hxh
   clear hb1 hbl1 hx0 hg hbel hxh hat hcell
   cases bn:nameB x.name with
   | false=>
     rw [bn] at hnm
     have hf:Hid (r=false):=by show r=false;rw [hr.out];exact zCf hlt (zE4 hx.out (by unfold entB;rw [bn];rfl))
     clear hr hall bn
     refine zAe (C:=EntQ w g gs os l x) (by kernel_rfl) (by kernel_rfl) hS.drew ?_
     repeat
      first
       | ((with_reducible refine zAm ?_ ?_)
          ·(go_simp;done)
          apply Exists.intro
          refine ⟨fun W hW=>?_,?_⟩
          ·first
            | (have f1:=hW.name_
               go_simp
               first
                | rfl
                | (go_at_call 124;with_reducible exact keepE (hnm _) hW))
          simp only [Act.put,zA,zB,zC])
       | ((with_reducible refine zAj ?_ ?_)
          ·(first | rfl | (go_simp;done))
          simp only [Act.put,zA,zB,zC])
     with_reducible refine wpQuiet_nil ?_
     intro w5 hW5
     go_wp2
     go_ret
     exact ⟨by rw [hf.out];rfl,hW5.bel⟩
   | true=>
     rw [bn] at hnm
     by_cases hk12:x.kind=1∨x.kind=2
     ·have heb:entB x=true:=by
       unfold entB
       rw [bn]
       rcases hk12 with h | h<;>simp [h]
      clear bn
      rcases Nat.eq_zero_or_pos k with h0 | h0
      ·have hk0 : ¬ (0:Int)<(k:Int):=by omega
       have hk0d:decide ((0:Int)<(k:Int))=false:=by simpa using h0
       have hk0n:decide (0<k)=false:=by simp [h0]
       have hx00:l[0]?=some x:=by rw [←h0];exact hx.out
       have hok0:entAt l k=true:=by rw [h0];exact entAt_zero hx00 heb
       have hst:=Lib.hid (zDO hall.out hok0)
       clear hx00 hok0 h0 heb hr hall
       rcases hk12 with hkx | hkx
       ·have hkx:=Lib.hid hkx
        refine zAe (C:=EntQ w g gs os l x) (by kernel_rfl) (by kernel_rfl) hS.drew ?_
        repeat
         first
          | ((with_reducible refine zAm ?_ ?_)
             ·(go_simp;done)
             apply Exists.intro
             refine ⟨fun W hW=>?_,?_⟩
             ·first
               | (have f1:=hW.name_
                  have f3:=hW.kind_ hkx.out
                  go_simp
                  first
                   | rfl
                   | (go_at_call 124;with_reducible exact keepE (hnm _) hW))
             simp only [Act.put,zA,zB,zC])
          | ((with_reducible refine zAj ?_ ?_)
             ·(first | rfl | (go_simp;done))
             simp only [Act.put,zA,zB,zC])
        with_reducible refine wpQuiet_nil ?_
        intro w5 hW5
        clear hk0 hk0d hk0n
        go_wp2
        go_roundw
        case rel=>exact ⟨k+1,by go_num,by omega,hst,hW5.bel⟩
        case measure=>simp [intOf];omega
       ·have hkx:=Lib.hid hkx
        refine zAe (C:=EntQ w g gs os l x) (by kernel_rfl) (by kernel_rfl) hS.drew ?_
        repeat
         first
          | ((with_reducible refine zAm ?_ ?_)
             ·(go_simp;done)
             apply Exists.intro
             refine ⟨fun W hW=>?_,?_⟩
             ·first
               | (have f1:=hW.name_
                  have f3:=hW.kind_ hkx.out
                  go_simp
                  first
                   | rfl
                   | (go_at_call 124;with_reducible exact keepE (hnm _) hW))
             simp only [Act.put,zA,zB,zC])
          | ((with_reducible refine zAj ?_ ?_)
             ·(first | rfl | (go_simp;done))
             simp only [Act.put,zA,zB,zC])
        with_reducible refine wpQuiet_nil ?_
        intro w5 hW5
        clear hk0 hk0d hk0n
        go_wp2
        go_roundw
        case rel=>exact ⟨k+1,by go_num,by omega,hst,hW5.bel⟩
        case measure=>simp [intOf];omega
      ·obtain ⟨q,hq⟩ : ∃ q,l[k-1]?=some q:=⟨_,List.getElem?_eq_getElem (show k-1<l.length by omega)⟩
       have hk0:(0:Int)<(k:Int):=by omega
       have hat1:entAt l k=Op.bytesLess q.name x.name:=by
        obtain ⟨j,rfl⟩ : ∃ j,k=j+1:=⟨k-1,by omega⟩
        exact entAt_succ hx.out hq heb
       obtain ⟨u,s1,hu⟩ : ∃ u:Nat,IntKind.i64.wrap ((k:Int)-1)=(u:Int)∧u=k-1:=⟨k-1,by rw [IntWalk.i64_in _ (by omega)];omega,rfl⟩
       have s3:(u:Int)<(l.length:Int):=by omega
       have s4:u<l.length:=by omega
       have hqu:Hid (l[u]?=some q):=by show _=_;rw [hu];exact hq
       clear hu hq heb
       rcases two_ways q.name x.name with ⟨l1,l2,l3,l4⟩ | ⟨l1,l2,l3,l4⟩ | ⟨l1,l2,l3,l4⟩
       all_goals rw [l1] at hat1
       ·have hst:=Lib.hid (zDO hall.out hat1)
        clear hat1 hr hall
        rcases hk12 with hkx | hkx
        ·have hkx:=Lib.hid hkx
         refine zAe (C:=EntQ w g gs os l x) (by kernel_rfl) (by kernel_rfl) hS.drew ?_
         repeat
          first
           | ((with_reducible refine zAm ?_ ?_)
              ·(go_simp;done)
              apply Exists.intro
              refine ⟨fun W hW=>?_,?_⟩
              ·first
                | (have f1:=hW.name_
                   have f3:=hW.kind_ hkx.out
                   have f2:W.cell? ⟨gs,os+u*34,none⟩=some (.string (B q.name)):=(zAA (hW.at_ _ q hqu.out)).1
                   go_simp
                   first
                    | rfl
                    | (go_at_call 124;with_reducible exact keepE (hnm _) hW))
              simp only [Act.put,zA,zB,zC])
           | ((with_reducible refine zAj ?_ ?_)
              ·(first | rfl | (go_simp;done))
              simp only [Act.put,zA,zB,zC])
         with_reducible refine wpQuiet_nil ?_
         intro w5 hW5
         clear s1 s3 s4 l1 l2 l3 l4 hk0
         go_wp2
         go_roundw
         case rel=>exact ⟨k+1,by go_num,by omega,hst,hW5.bel⟩
         case measure=>simp [intOf];omega
        ·have hkx:=Lib.hid hkx
         refine zAe (C:=EntQ w g gs os l x) (by kernel_rfl) (by kernel_rfl) hS.drew ?_
         repeat
          first
           | ((with_reducible refine zAm ?_ ?_)
              ·(go_simp;done)
              apply Exists.intro
              refine ⟨fun W hW=>?_,?_⟩
              ·first
                | (have f1:=hW.name_
                   have f3:=hW.kind_ hkx.out
                   have f2:W.cell? ⟨gs,os+u*34,none⟩=some (.string (B q.name)):=(zAA (hW.at_ _ q hqu.out)).1
                   go_simp
                   first
                    | rfl
                    | (go_at_call 124;with_reducible exact keepE (hnm _) hW))
              simp only [Act.put,zA,zB,zC])
           | ((with_reducible refine zAj ?_ ?_)
              ·(first | rfl | (go_simp;done))
              simp only [Act.put,zA,zB,zC])
         with_reducible refine wpQuiet_nil ?_
         intro w5 hW5
         clear s1 s3 s4 l1 l2 l3 l4 hk0
         go_wp2
         go_roundw
         case rel=>exact ⟨k+1,by go_num,by omega,hst,hW5.bel⟩
         case measure=>simp [intOf];omega
       ·have hf:Hid (r=false):=by show r=false;rw [hr.out];exact zCf hlt hat1
        clear hat1 hr hall
        rcases hk12 with hkx | hkx
        ·have hkx:=Lib.hid hkx
         refine zAe (C:=EntQ w g gs os l x) (by kernel_rfl) (by kernel_rfl) hS.drew ?_
         repeat
          first
           | ((with_reducible refine zAm ?_ ?_)
              ·(go_simp;done)
              apply Exists.intro
              refine ⟨fun W hW=>?_,?_⟩
              ·first
                | (have f1:=hW.name_
                   have f3:=hW.kind_ hkx.out
                   have f2:W.cell? ⟨gs,os+u*34,none⟩=some (.string (B q.name)):=(zAA (hW.at_ _ q hqu.out)).1
                   go_simp
                   first
                    | rfl
                    | (go_at_call 124;with_reducible exact keepE (hnm _) hW))
              simp only [Act.put,zA,zB,zC])
           | ((with_reducible refine zAj ?_ ?_)
              ·(first | rfl | (go_simp;done))
              simp only [Act.put,zA,zB,zC])
         with_reducible refine wpQuiet_nil ?_
         intro w5 hW5
         go_wp2
         go_ret
         exact ⟨by rw [hf.out];rfl,hW5.bel⟩
        ·have hkx:=Lib.hid hkx
         refine zAe (C:=EntQ w g gs os l x) (by kernel_rfl) (by kernel_rfl) hS.drew ?_
         repeat
          first
           | ((with_reducible refine zAm ?_ ?_)
              ·(go_simp;done)
              apply Exists.intro
              refine ⟨fun W hW=>?_,?_⟩
              ·first
                | (have f1:=hW.name_
                   have f3:=hW.kind_ hkx.out
                   have f2:W.cell? ⟨gs,os+u*34,none⟩=some (.string (B q.name)):=(zAA (hW.at_ _ q hqu.out)).1
                   go_simp
                   first
                    | rfl
                    | (go_at_call 124;with_reducible exact keepE (hnm _) hW))
              simp only [Act.put,zA,zB,zC])
           | ((with_reducible refine zAj ?_ ?_)
              ·(first | rfl | (go_simp;done))
              simp only [Act.put,zA,zB,zC])
         with_reducible refine wpQuiet_nil ?_
         intro w5 hW5
         go_wp2
         go_ret
         exact ⟨by rw [hf.out];rfl,hW5.bel⟩
       ·have hf:Hid (r=false):=by show r=false;rw [hr.out];exact zCf hlt hat1
        clear hat1 hr hall
        rcases hk12 with hkx | hkx
        ·have hkx:=Lib.hid hkx
         refine zAe (C:=EntQ w g gs os l x) (by kernel_rfl) (by kernel_rfl) hS.drew ?_
         repeat
          first
           | ((with_reducible refine zAm ?_ ?_)
              ·(go_simp;done)
              apply Exists.intro
              refine ⟨fun W hW=>?_,?_⟩
              ·first
                | (have f1:=hW.name_
                   have f3:=hW.kind_ hkx.out
                   have f2:W.cell? ⟨gs,os+u*34,none⟩=some (.string (B q.name)):=(zAA (hW.at_ _ q hqu.out)).1
                   go_simp
                   first
                    | rfl
                    | (go_at_call 124;with_reducible exact keepE (hnm _) hW))
              simp only [Act.put,zA,zB,zC])
           | ((with_reducible refine zAj ?_ ?_)
              ·(first | rfl | (go_simp;done))
              simp only [Act.put,zA,zB,zC])
         with_reducible refine wpQuiet_nil ?_
         intro w5 hW5
         go_wp2
         go_ret
         exact ⟨by rw [hf.out];rfl,hW5.bel⟩
        ·have hkx:=Lib.hid hkx
         refine zAe (C:=EntQ w g gs os l x) (by kernel_rfl) (by kernel_rfl) hS.drew ?_
         repeat
          first
           | ((with_reducible refine zAm ?_ ?_)
              ·(go_simp;done)
              apply Exists.intro
              refine ⟨fun W hW=>?_,?_⟩
              ·first
                | (have f1:=hW.name_
                   have f3:=hW.kind_ hkx.out
                   have f2:W.cell? ⟨gs,os+u*34,none⟩=some (.string (B q.name)):=(zAA (hW.at_ _ q hqu.out)).1
                   go_simp
                   first
                    | rfl
                    | (go_at_call 124;with_reducible exact keepE (hnm _) hW))
              simp only [Act.put,zA,zB,zC])
           | ((with_reducible refine zAj ?_ ?_)
              ·(first | rfl | (go_simp;done))
              simp only [Act.put,zA,zB,zC])
         with_reducible refine wpQuiet_nil ?_
         intro w5 hW5
         go_wp2
         go_ret
         exact ⟨by rw [hf.out];rfl,hW5.bel⟩
     ·have d1:(x.kind != 1)=true:=by simp only [bne_iff_ne];exact fun e=>hk12 (.inl e)
      have d2:(x.kind != 2)=true:=by simp only [bne_iff_ne];exact fun e=>hk12 (.inr e)
      have d3:(x.kind==1)=false:=by rw [beq_eq_false_iff_ne];exact fun e=>hk12 (.inl e)
      have d4:(x.kind==2)=false:=by rw [beq_eq_false_iff_ne];exact fun e=>hk12 (.inr e)
      have heb:entB x=false:=by unfold entB;rw [d3,d4];simp
      have hf:Hid (r=false):=by show r=false;rw [hr.out];exact zCf hlt (zE4 hx.out heb)
      have d5 : ¬ x.kind=1:=fun e=>hk12 (.inl e)
      have d6 : ¬ x.kind=2:=fun e=>hk12 (.inr e)
      clear hr hall bn hk12 heb
      refine zAe (C:=EntQ w g gs os l x) (by kernel_rfl) (by kernel_rfl) hS.drew ?_
      repeat
       first
        | ((with_reducible refine zAm ?_ ?_)
           ·(go_simp;done)
           apply Exists.intro
           refine ⟨fun W hW=>?_,?_⟩
           ·first
             | (have f1:=hW.name_
                have f3:=hW.kind_ rfl
                go_simp
                first
                 | rfl
                 | (go_at_call 124;with_reducible exact keepE (hnm _) hW))
           simp only [Act.put,zA,zB,zC])
        | ((with_reducible refine zAj ?_ ?_)
           ·(first | rfl | (go_simp;done))
           simp only [Act.put,zA,zB,zC])
      with_reducible refine wpQuiet_nil ?_
      intro w5 hW5
      go_wp2
      go_ret
      exact ⟨by rw [hf.out];rfl,hW5.bel⟩
  ·have hki : ¬ (k:Int)<(l.length:Int):=by omega
   have hf:Hid (r=decide (l.length≤64)):=by
    show r=_
    rw [hr.out]
    have:=hall.out
    rw [show k=l.length from by omega] at this
    exact ents_all this
   clear hall hat hr
   by_cases h64:l.length≤64
   ·have i64:(l.length:Int)≤64:=by omega
    go_wp2
    go_ret
    exact ⟨by rw [hf.out,decide_eq_true h64];rfl,hbel⟩
   ·have i64 : ¬ (l.length:Int)≤64:=by omega
    go_wp2
    go_ret
    exact ⟨by rw [hf.out,decide_eq_false h64];rfl,hbel⟩
end
section
attribute [local go_sem ↓] ldvO_eq
set_option maxRecDepth 100000 in
set_option maxHeartbeats 4000000 in
theorem zBM (o:ObjL) (A1 A2:Option Addr) (k1 k2:Nat) (w:World) (hv:ObjV w (.slice A1 o.ents.length k1) (.slice A2 o.pars.length k2) o):Calls Tryz.prog 83 #[.agg (objC o (.slice A1 o.ents.length k1) (.slice A2 o.pars.length k2)).toArray] w fun e w'=>e = .returned (.bool (mayB o))∧Below w.heap.size w w':=by
 have ho:=hv.ok
 have hO:=boxed (w:=w) (ve := .slice A1 o.ents.length k1) (vp := .slice A2 o.pars.length k2) ho
 have b0:Below w.heap.size w (w.alloc (.cells (objC o (.slice A1 o.ents.length k1) (.slice A2 o.pars.length k2)).toArray 68)):=(Below.refl _ _).alloc (Nat.le_refl _) _
 have hv0:=hv.below b0
 have hal:=fun W=>Lib.hid (alone_calls o ho A1 A2 k1 k2 W)
 have hld:=fun W (h:ObjB W w.heap.size o (.slice A1 o.ents.length k1) (.slice A2 o.pars.length k2))=>zAX h ho
 obtain ⟨W0,hW0⟩ : ∃ W0,w.alloc (.cells (objC o (.slice A1 o.ents.length k1) (.slice A2 o.pars.length k2)).toArray 68)=W0:=⟨_,rfl⟩
 rw [hW0] at hO b0 hv0
 have hen:=fun W (hb:Below W0.heap.size W0 W)=>Lib.hid (entries_calls o.ents ho.ents _ W (hv0.ents.below hb))
 have hnm:=fun W=>Lib.hid (name_calls o.name W)
 have hki:=fun W=>Lib.hid (kind_calls o.of_ W)
 have c0:=hO.kind
 have q0:=hld W0 hO
 obtain ⟨r,hr⟩ : ∃ r,Hid (r=mayB o):=⟨_,Lib.hid rfl⟩
 rw [←hr.out]
 have hr2:=hr.out
 unfold mayB at hr2
 replace hr2:=Lib.hid hr2
 have d2:=fun W (hb:Below W0.heap.size W0 W)=>(hO.below hb).ents
 have d35:=fun W (hb:Below W0.heap.size W0 W)=>(hO.below hb).pars
 have d70:=fun W (hb:Below W0.heap.size W0 W)=>(hO.below hb).of_
 have d71:=fun W (hb:Below W0.heap.size W0 W)=>(hO.below hb).name
 clear hr hO hv hv0 ho hld
 generalize (objC o (.slice A1 o.ents.length k1) (.slice A2 o.pars.length k2)).toArray=cs at *
 generalize aloneB o=A at *
 generalize entsB o.ents=E at *
 generalize nameB o.name=N at *
 generalize kindB o.of_=K at *
 have s0:=b0.size
 by_cases h2:o.kind=2
 ·rw [h2] at c0
  have hf:Hid (r=(A&&E)):=by show r=_;rw [hr2.out,if_pos h2]
  clear hr2 h2 hnm hki d35 d70 d71
  have hal:=hal W0
  cases A with
  | false=>
    clear hen d2
    go_enter Tryz.func83,Tryz.ntmps83
    go_wp2_with (first
     | ((with_reducible refine hal.out.mono ?_);rintro e w1 ⟨rfl,hb1⟩))
    go_ret
    exact ⟨by rw [hf.out];rfl,bthen b0 s0 hb1⟩
  | true=>
    go_enter Tryz.func83,Tryz.ntmps83
    go_wp2_with (first
     | ((with_reducible refine hal.out.mono ?_);rintro e w1 ⟨rfl,hb1⟩
        have c2:=d2 w1 hb1
        have hen:=hen w1 hb1
        clear hal d2)
     | ((with_reducible refine hen.out.mono ?_);rintro e w2 ⟨rfl,hb2⟩))
    go_ret
    exact ⟨by rw [hf.out];rfl,bthen b0 s0 (bthen hb1 hb1.size hb2)⟩
 have e2:(o.kind==2)=false:=by rw [beq_eq_false_iff_ne];exact h2
 by_cases h3:o.kind=3
 ·rw [h3] at c0
  have hf:Hid (r=(A&&decide ((o.pars.length:Int)≤8))):=by
   show r=_;rw [hr2.out,if_neg h2,if_pos h3]
   congr 1
   rw [Bool.eq_iff_iff,decide_eq_true_iff,decide_eq_true_iff];omega
  clear hr2 h2 h3 e2 hnm hki d2 d70 d71 hen
  have hal:=hal W0
  cases A with
  | false=>
    clear d35
    go_enter Tryz.func83,Tryz.ntmps83
    go_wp2_with (first
     | ((with_reducible refine hal.out.mono ?_);rintro e w1 ⟨rfl,hb1⟩))
    go_ret
    exact ⟨by rw [hf.out];rfl,bthen b0 s0 hb1⟩
  | true=>
    go_enter Tryz.func83,Tryz.ntmps83
    go_wp2_with (first
     | ((with_reducible refine hal.out.mono ?_);rintro e w1 ⟨rfl,hb1⟩
        have c35:=d35 w1 hb1
        clear hal d35))
    go_ret
    exact ⟨by rw [hf.out];rfl,bthen b0 s0 hb1⟩
 have e3:(o.kind==3)=false:=by rw [beq_eq_false_iff_ne];exact h3
 by_cases h4:o.kind=4
 ·rw [h4] at c0
  have hf:Hid (r=(A&&K&&N)):=by show r=_;rw [hr2.out,if_neg h2,if_neg h3,if_pos h4]
  clear hr2 h2 h3 h4 e2 e3 hen d2 d35
  have hal:=hal W0
  cases A with
  | false=>
    clear hnm hki d70 d71
    go_enter Tryz.func83,Tryz.ntmps83
    go_wp2_with (first
     | ((with_reducible refine hal.out.mono ?_);rintro e w1 ⟨rfl,hb1⟩))
    go_ret
    exact ⟨by rw [hf.out];rfl,bthen b0 s0 hb1⟩
  | true=>
    cases K with
    | false=>
      clear hnm d71
      go_enter Tryz.func83,Tryz.ntmps83
      go_wp2_with (first
       | ((with_reducible refine hal.out.mono ?_);rintro e w1 ⟨rfl,hb1⟩
          have c70:=d70 w1 hb1
          have hki:=hki w1
          clear hal d70)
       | ((with_reducible refine hki.out.mono ?_);rintro e w2 ⟨rfl,rfl⟩))
      go_ret
      exact ⟨by rw [hf.out];rfl,bthen b0 s0 hb1⟩
    | true=>
      go_enter Tryz.func83,Tryz.ntmps83
      go_wp2_with (first
       | ((with_reducible refine hal.out.mono ?_);rintro e w1 ⟨rfl,hb1⟩
          have c70:=d70 w1 hb1
          have c71:=d71 w1 hb1
          have hki:=hki w1
          have hnm:=hnm w1
          clear hal d70 d71)
       | ((with_reducible refine hki.out.mono ?_);rintro e w2 ⟨rfl,rfl⟩)
       | ((with_reducible refine hnm.out.mono ?_);rintro e w3 ⟨rfl,rfl⟩))
      go_ret
      exact ⟨by rw [hf.out];rfl,bthen b0 s0 hb1⟩
 have e4:(o.kind==4)=false:=by rw [beq_eq_false_iff_ne];exact h4
 have hf:Hid (r=(o.kind==1&&A)):=by show r=_;rw [hr2.out,if_neg h2,if_neg h3,if_neg h4]
 have hal:=hal W0
 clear hr2 hnm hki d2 d35 d70 d71 hen
 by_cases h1:o.kind=1
 ·rw [h1] at c0 hf
  clear h1 h2 h3 h4 e2 e3 e4
  go_enter Tryz.func83,Tryz.ntmps83
  go_wp2_with (first
   | ((with_reducible refine hal.out.mono ?_);rintro e w1 ⟨rfl,hb1⟩))
  go_ret
  exact ⟨by rw [hf.out];rfl,bthen b0 s0 hb1⟩
 ·have e1:(o.kind==1)=false:=by rw [beq_eq_false_iff_ne];exact h1
  rw [e1] at hf
  clear hal
  go_enter Tryz.func83,Tryz.ntmps83
  go_wp2
  go_ret
  exact ⟨by rw [hf.out];simp [e1],b0⟩
end
section
attribute [local go_sem ↓] ldvI_eq
theorem zB6 (o:ObjL):commitN o=(decide (o.tree=List.replicate 32 0)&&decide ((o.pars.length:Int)=0)&&decide ((o.time:Int)=0)&&o.text.isEmpty):=by
 rw [show decide ((o.pars.length:Int)=0)=(o.pars.length==0) from by rw [Bool.eq_iff_iff,decide_eq_true_iff,beq_iff_eq];omega,show decide ((o.time:Int)=0)=(o.time==0) from by rw [Bool.eq_iff_iff,decide_eq_true_iff,beq_iff_eq];omega]
 rfl
theorem tag_eq (o:ObjL):tagN o=(decide (o.target=List.replicate 32 0)&&decide (o.of_=0)&&o.name.isEmpty):=by
 rw [show decide (o.of_=0)=(o.of_==0) from by rw [Bool.eq_iff_iff,decide_eq_true_iff,beq_iff_eq]]
 rfl
theorem zEQ {w:World} {g:Nat} (h:Blk w g 53 (u8s (List.replicate 32 0))):(ldvI ⟨g,0,none⟩).run Tryz.prog w = .ok (.agg #[.int .u8 0, .int .u8 0, .int .u8 0, .int .u8 0, .int .u8 0, .int .u8 0, .int .u8 0, .int .u8 0, .int .u8 0, .int .u8 0, .int .u8 0, .int .u8 0, .int .u8 0, .int .u8 0, .int .u8 0, .int .u8 0, .int .u8 0, .int .u8 0, .int .u8 0, .int .u8 0, .int .u8 0, .int .u8 0, .int .u8 0, .int .u8 0, .int .u8 0, .int .u8 0, .int .u8 0, .int .u8 0, .int .u8 0, .int .u8 0, .int .u8 0, .int .u8 0]) w:=by
 rw [zEh]
 exact zAb (zAk h) (by simp)
theorem zCc {ops:Array Oper} {rest:List Oper} {a:Act} {W:World} {Q:Exit→Act→World→Prop} {d:Option Tmp} {rt:TypeId} {pos:String} {af:Array Edge} (x y:Operand) (zs:Array Value) (hz:zs.size=32) (hx:a.eval x = .pointer (some ⟨W.heap.size,0,none⟩)) (hy:a.eval y = .agg #[.int .u8 0, .int .u8 0, .int .u8 0, .int .u8 0, .int .u8 0, .int .u8 0, .int .u8 0, .int .u8 0, .int .u8 0, .int .u8 0, .int .u8 0, .int .u8 0, .int .u8 0, .int .u8 0, .int .u8 0, .int .u8 0, .int .u8 0, .int .u8 0, .int .u8 0, .int .u8 0, .int .u8 0, .int .u8 0, .int .u8 0, .int .u8 0, .int .u8 0, .int .u8 0, .int .u8 0, .int .u8 0, .int .u8 0, .int .u8 0, .int .u8 0, .int .u8 0])
 (h : ∀ W1,Blk W1 W.heap.size 53 (u8s (List.replicate 32 0))→Below W.heap.size W W1→wpList Tryz.prog ops Q rest (a.put d undef) W1) :
 wpList Tryz.prog ops Q ({ dst:=d,op := .store 53 x y,type:=rt,pos:=pos,after:=af,guard:=none }::rest) a (W.alloc (.cells zs 53)):=
 zDM rfl x y rfl (List.replicate 32 0) (by simp) zs hx (hy.trans (congrArg Value.agg zEh)) hz h
theorem zBf {ops:Array Oper} {rest:List Oper} {a:Act} {w:World} {Q:Exit→Act→World→Prop} {d:Option Tmp} {rt:TypeId} {pos:String} {af:Array Edge} (x:Operand) (b o:Nat) (r:EntL) (hr:EntOk r) (hc:w.rangeAt b o (entC r)) (hx:a.eval x = .pointer (some ⟨b,o,none⟩))
 (h:wpList Tryz.prog ops Q rest (a.put d (.agg (entC r).toArray)) w):wpList Tryz.prog ops Q ({ dst:=d,op := .load 138 x,type:=rt,pos:=pos,after:=af,guard:=none }::rest) a w:=
 wpList_load_mid rfl _ x rfl b o hx _ _ hc Tryz.underlying138 rfl (sizedEnt hr) h
theorem zBo {ops:Array Oper} {rest:List Oper} {a:Act} {w:World} {Q:Exit→Act→World→Prop} {d:Option Tmp} {rt:TypeId} {pos:String} {af:Array Edge} (x y:Operand) (r:EntL) (hr:EntOk r) (zs:Array Value) (hz:zs.size=34) (hx:a.eval x = .pointer (some ⟨w.heap.size,0,none⟩)) (hy:a.eval y = .agg (entC r).toArray)
 (h : ∀ W1,Blk W1 w.heap.size 138 (entC r).toArray→Below w.heap.size w W1→wpList Tryz.prog ops Q rest (a.put d undef) W1) :
 wpList Tryz.prog ops Q ({ dst:=d,op := .store 138 x y,type:=rt,pos:=pos,after:=af,guard:=none }::rest) a (w.alloc (.cells zs 138)):=
 zB5 rfl x y rfl r hr zs hx hy hz h
theorem treeN_two (o:ObjL) (h:o.kind=2):mayB o=(blobN o&&commitN o&&tagN o&&entsB o.ents):=by unfold mayB aloneB;rw [if_pos h,if_neg (by omega),if_pos h]
theorem may_one (o:ObjL) (h:o.kind=1):mayB o=(treeN o&&commitN o&&tagN o):=by unfold mayB aloneB;rw [if_neg (by omega),if_neg (by omega),if_neg (by omega),if_pos h,h];rfl
theorem may_three (o:ObjL) (h:o.kind=3):mayB o=(blobN o&&treeN o&&tagN o&&decide (o.pars.length≤8)):=by unfold mayB aloneB;rw [if_neg (by omega),if_pos h,if_neg (by omega),if_neg (by omega),if_pos h]
theorem may_four (o:ObjL) (h:o.kind=4):mayB o=(blobN o&&treeN o&&commitN o&&kindB o.of_&&nameB o.name):=by unfold mayB aloneB;rw [if_neg (by omega),if_neg (by omega),if_pos h,if_neg (by omega),if_neg (by omega),if_neg (by omega)]
theorem may_none (o:ObjL) (h:o.kind<1∨4<o.kind):mayB o=false:=by
 unfold mayB
 rw [if_neg (by omega),if_neg (by omega),if_neg (by omega)]
 have:(o.kind==1)=false:=by rw [beq_eq_false_iff_ne];omega
 rw [this];rfl
set_option maxRecDepth 100000 in
set_option maxHeartbeats 4000000 in
theorem refMay_calls2 (o:ObjL) (hk:o.kind=2) (A1 A2:Option Addr) (k1 k2:Nat) (w:World) (hv:ObjV w (.slice A1 o.ents.length k1) (.slice A2 o.pars.length k2) o):Calls Tryz.prog 68 #[.agg (objC o (.slice A1 o.ents.length k1) (.slice A2 o.pars.length k2)).toArray] w fun e w'=>e = .returned (.bool (mayB o))∧Below w.heap.size w w':=by
 have ho:=hv.ok
 have hO:=boxed (w:=w) (ve := .slice A1 o.ents.length k1) (vp := .slice A2 o.pars.length k2) ho
 have b0:Below w.heap.size w (w.alloc (.cells (objC o (.slice A1 o.ents.length k1) (.slice A2 o.pars.length k2)).toArray 68)):=(Below.refl _ _).alloc (Nat.le_refl _) _
 have hv0:=hv.below b0
 obtain ⟨W0,hW0⟩ : ∃ W0,w.alloc (.cells (objC o (.slice A1 o.ents.length k1) (.slice A2 o.pars.length k2)).toArray 68)=W0:=⟨_,rfl⟩
 rw [hW0] at hO b0 hv0
 have c0:=hO.kind
 have g1:=fun W=>zAb (w:=W) (g:=w.heap.size) (o:=3) (l:=o.tree)
 have g2:=fun W=>zAb (w:=W) (g:=w.heap.size) (o:=38) (l:=o.target)
 have z1:=fun W=>zAP o.tree ho.tree W
 have z2:=fun W=>zAP o.target ho.target W
 have e1:=Lib.hid (zB6 o)
 have e2:=Lib.hid (tag_eq o)
 have ht:o.time<4294967296:=ho.time
 obtain ⟨r,hr⟩ : ∃ r,Hid (r=mayB o):=⟨_,Lib.hid rfl⟩
 rw [←hr.out]
 have hr2:=hr.out
 rw [treeN_two o hk,zB6,tag_eq] at hr2
 have hX:blobN o=List.isEmpty o.data:=rfl
 rw [hX] at hr2
 replace hr2:=Lib.hid hr2
 rw [hk] at c0
 have htr:=Lib.hid ho.tree
 have hta:=Lib.hid ho.target
 have hoE:=Lib.hid ho.ents
 obtain ⟨E,hE⟩ : ∃ E,Hid (E=entsB o.ents):=⟨_,Lib.hid rfl⟩
 rw [←hE.out] at hr2
 clear hr ho hX hv e1 e2
 generalize decide (o.tree=List.replicate 32 0)=T at *
 generalize decide (o.target=List.replicate 32 0)=G at *
 obtain ⟨Pz,hPz⟩ : ∃ Pz,decide ((o.pars.length:Int)=0)=Pz:=⟨_,rfl⟩
 have hP1:0<o.pars.length→Pz=false:=fun h=>by rw [←hPz];exact decide_eq_false (by omega)
 have hP2 : ¬ 0<o.pars.length→Pz=true:=fun h=>by rw [←hPz];exact decide_eq_true (by omega)
 replace hP1:=Lib.hid hP1
 replace hP2:=Lib.hid hP2
 have hr3:=hr2.out
 rw [hPz] at hr3
 replace hr2:=Lib.hid hr3
 clear hPz hr3
 generalize hcs:(objC o (.slice A1 o.ents.length k1) (.slice A2 o.pars.length k2)).toArray=cs at *
 clear hcs
 have s0:=b0.size
 go_enter Tryz.func68,Tryz.ntmps68
 go_upto_region 4 with (first
  | ((with_reducible refine zCc (.tmp 3) (.tmp 16) _ ?_ ?_ ?_ ?_);rfl;rfl;rfl
     intro W1 hb1 hbl1
     have hO1:=hO.below hbl1
     have c1:=hO1.data
     have c2:=hO1.ents
     have c35:=hO1.pars
     have c36:=hO1.time
     have c37:=hO1.text
     have c70:=hO1.of_
     have c71:=hO1.name
     have c0':=hO1.kind
     rw [hk] at c0'
     have q1:=g1 W1 hO1.tree htr.out
     have q2:=g2 W1 hO1.target hta.out
     have q3:=zEQ hb1))
 clear c0 hO hb1 htr hta g1 g2 hW0
 have hE64:(64:Int)<(o.ents.length:Int)→E=false:=fun h=>by
  rw [hE.out];unfold entsB
  rw [Bool.and_eq_false_iff]
  exact .inr (decide_eq_false (by omega))
 have b1:=b0.trans (hbl1.mono s0)
 have hat:Hid (0<o.ents.length → ∃ g os,A1=some ⟨g,os,none⟩∧g<W1.heap.size ∧ ∀ i x,o.ents[i]?=some x→W1.rangeAt g (os+i*34) (entC x)):=by
  obtain ⟨A,cap,he,_,_,h⟩:=hv0.ents.below hbl1
  injection he with he _ _
  subst he
  exact h
 have sz1:=Nat.le_trans s0 hbl1.size
 clear b0 hbl1 hv0
 go_upto_region 16 with fail
 all_goals try
  (go_ret
   refine ⟨?_,b1⟩
   rw [hr2.out]
   have hP1:=hP1.out
   have hP2:=hP2.out
   clear z1 z2 c1 c2 c35 c36 c37 c70 c71 q1 q2 q3 hO1 c0' hE hr2 hat hoE
   simp_all
   done)
 have hrE:Hid (r=E):=by
  show r=E
  rw [hr2.out]
  have hP1:=hP1.out
  have hP2:=hP2.out
  clear z1 z2 c1 c2 c35 c36 c37 c70 c71 q1 q2 q3 hO1 c0' hE hr2 hat hoE
  simp_all
 have h64:(o.ents.length:Int)≤64:=by first | assumption | omega
 clear hP1 hP2 hr2 z1 z2 c1 c35 c36 c37 c70 c71 q1 q2 q3 c0' hE64 c2 ht
 go_cut [5] (fun s5 wx=>s5 = .int .i64 0∧wx=W1)
 case first=>
  go_wp2
  go_meet
  case rel=>exact ⟨rfl,rfl⟩
 obtain ⟨rfl,rfl⟩:=hcut
 go_wp2
 go_loopw [5] (fun vi wr => ∃ k:Nat,vi = .int .i64 k∧k≤o.ents.length∧Hid ((List.range k).all (entAt o.ents)=true)∧Below wc.heap.size wc wr) (fun vi _=>o.ents.length-(intOf vi).toNat)
 case atStart=>exact ⟨0,rfl,by omega,rfl,Below.refl _ _⟩
 case round=>
  obtain ⟨k,rfl,hk',hall,hbel⟩:=hrel
  have hsz:=hbel.size
  have hOr:=hO1.below hbel
  have c2:=hOr.ents
  by_cases hlt:k<o.ents.length
  ·have hki:(k:Int)<(o.ents.length:Int):=by omega
   obtain ⟨gs,os,rfl,hgs,hcell⟩:=hat.out (by omega)
   obtain ⟨x,hx⟩ : ∃ x,o.ents[k]?=some x:=⟨_,List.getElem?_eq_getElem hlt⟩
   have hxok:EntOk x:=hoE.out x (List.mem_of_getElem? hx)
   have hx0:=zAc (hcell k x hx) hgs hbel
   have hxh:=Lib.hid hx
   clear hx hat hoE
   have hnm:=fun W=>Lib.hid (zD6 x.name hxok.name W)
   cases bn:nameB x.name with
   | false=>
     have hf:Hid (r=false):=by show r=false;rw [hrE.out,hE.out];exact zCf hlt (zE4 hxh.out (by unfold entB;rw [bn];rfl))
     rw [bn] at hnm
     clear hE hrE hall bn
     go_wp2_with (first
      | ((with_reducible refine zBf (.tmp 113) gs (os+k*34) x hxok hx0 ?_ ?_);rfl)
      | ((with_reducible refine zBo (.tmp 6) (.tmp 114) x hxok _ ?_ ?_ ?_ ?_);rfl;rfl;rfl;intro W2 hb2 hbl2
         have cn:=(zAA (zAD hb2)).1
         have hnm:=hnm W2)
      | ((with_reducible refine hnm.out.mono ?_);rintro e w3 ⟨rfl,rfl⟩))
     all_goals try (exfalso;omega)
     go_ret
     exact ⟨by rw [hf.out];rfl,b1.trans ((bthen hbel hsz hbl2).mono sz1)⟩
   | true=>
     rw [bn] at hnm
     by_cases hk12:x.kind=1∨x.kind=2
     ·have heb:entB x=true:=by
       unfold entB
       rw [bn]
       rcases hk12 with h | h<;>simp [h]
      have d1 : ¬ x.kind<1:=by omega
      have d2 : ¬ 2<x.kind:=by omega
      clear bn hk12
      rcases Nat.eq_zero_or_pos k with h0 | h0
      ·have hk0 : ¬ (0:Int)<(k:Int):=by omega
       have hk0d:decide ((0:Int)<(k:Int))=false:=by simpa using h0
       have hk0n:decide (0<k)=false:=by simp [h0]
       have hx00:o.ents[0]?=some x:=by rw [←h0];exact hxh.out
       have hok0:entAt o.ents k=true:=by rw [h0];exact entAt_zero hx00 heb
       have hst:=Lib.hid (zDO hall.out hok0)
       clear hx00 hok0 h0 heb hall hE hrE
       go_wp2_with (first
        | ((with_reducible refine zBf (.tmp 113) gs (os+k*34) x hxok hx0 ?_ ?_);rfl)
        | ((with_reducible refine zBo (.tmp 6) (.tmp 114) x hxok _ ?_ ?_ ?_ ?_);rfl;rfl;rfl;intro W2 hb2 hbl2
           have cn:=(zAA (zAD hb2)).1
           have ck:=(zAA (zAD hb2)).2
           have c2':=(hOr.below hbl2).ents
           have bel2:=b1.trans ((bthen hbel hsz hbl2).mono sz1)
           have bel1:=bthen hbel hsz hbl2
           have hnm:=hnm W2)
        | ((with_reducible refine hnm.out.mono ?_);rintro e w3 ⟨rfl,rfl⟩))
       all_goals try (exfalso;omega)
       go_quiet (fail)
       clear hk0 hk0d hk0n
       go_wp2
       go_roundw
       case rel=>exact ⟨k+1,by go_num,by omega,hst,bdrewN bel1 nq⟩
       case measure=>simp [intOf];omega
      ·obtain ⟨q,hq⟩ : ∃ q,o.ents[k-1]?=some q:=⟨_,List.getElem?_eq_getElem (show k-1<o.ents.length by omega)⟩
       have hk0:(0:Int)<(k:Int):=by omega
       have hat1:entAt o.ents k=Op.bytesLess q.name x.name:=by
        obtain ⟨j,rfl⟩ : ∃ j,k=j+1:=⟨k-1,by omega⟩
        exact entAt_succ hxh.out hq heb
       obtain ⟨u,s1,hu⟩ : ∃ u:Nat,IntKind.i64.wrap ((k:Int)-1)=(u:Int)∧u=k-1:=⟨k-1,by rw [IntWalk.i64_in _ (by omega)];omega,rfl⟩
       have s3:(u:Int)<(o.ents.length:Int):=by omega
       have s4:u<o.ents.length:=by omega
       have hqu:Hid (o.ents[u]?=some q):=by show _=_;rw [hu];exact hq
       clear hu hq heb
       rcases two_ways q.name x.name with ⟨l1,l2,l3,l4⟩ | ⟨l1,l2,l3,l4⟩ | ⟨l1,l2,l3,l4⟩
       all_goals rw [l1] at hat1
       ·have hst:=Lib.hid (zDO hall.out hat1)
        clear hat1 hall hE hrE
        go_wp2_with (first
         | ((with_reducible refine zBf (.tmp 113) gs (os+k*34) x hxok hx0 ?_ ?_);rfl)
         | ((with_reducible refine zBo (.tmp 6) (.tmp 114) x hxok _ ?_ ?_ ?_ ?_);rfl;rfl;rfl;intro W2 hb2 hbl2
            have cn:=(zAA (zAD hb2)).1
            have ck:=(zAA (zAD hb2)).2
            have c2':=(hOr.below hbl2).ents
            have bel2:=b1.trans ((bthen hbel hsz hbl2).mono sz1)
            have bel1:=bthen hbel hsz hbl2
            have c3:W2.cell? ⟨gs,os+u*34,none⟩=some (.string (B q.name)):=(zAA (zAc (hcell u q hqu.out) hgs bel1)).1
            have hnm:=hnm W2)
         | ((with_reducible refine hnm.out.mono ?_);rintro e w3 ⟨rfl,rfl⟩))
        all_goals try (exfalso;omega)
        go_quiet (fail)
        clear s1 s3 s4 l1 l2 l3 l4 hk0
        go_wp2
        go_roundw
        case rel=>exact ⟨k+1,by go_num,by omega,hst,bdrewN bel1 nq⟩
        case measure=>simp [intOf];omega
       ·have hf:Hid (r=false):=by show r=false;rw [hrE.out,hE.out];exact zCf hlt hat1
        clear hat1 hall hE hrE
        go_wp2_with (first
         | ((with_reducible refine zBf (.tmp 113) gs (os+k*34) x hxok hx0 ?_ ?_);rfl)
         | ((with_reducible refine zBo (.tmp 6) (.tmp 114) x hxok _ ?_ ?_ ?_ ?_);rfl;rfl;rfl;intro W2 hb2 hbl2
            have cn:=(zAA (zAD hb2)).1
            have ck:=(zAA (zAD hb2)).2
            have c2':=(hOr.below hbl2).ents
            have bel2:=b1.trans ((bthen hbel hsz hbl2).mono sz1)
            have bel1:=bthen hbel hsz hbl2
            have c3:W2.cell? ⟨gs,os+u*34,none⟩=some (.string (B q.name)):=(zAA (zAc (hcell u q hqu.out) hgs bel1)).1
            have hnm:=hnm W2)
         | ((with_reducible refine hnm.out.mono ?_);rintro e w3 ⟨rfl,rfl⟩))
        all_goals try (exfalso;omega)
        go_quiet (fail)
        go_wp2
        go_ret
        exact ⟨by rw [hf.out];rfl,bdrewN bel2 nq⟩
       ·have hf:Hid (r=false):=by show r=false;rw [hrE.out,hE.out];exact zCf hlt hat1
        clear hat1 hall hE hrE
        go_wp2_with (first
         | ((with_reducible refine zBf (.tmp 113) gs (os+k*34) x hxok hx0 ?_ ?_);rfl)
         | ((with_reducible refine zBo (.tmp 6) (.tmp 114) x hxok _ ?_ ?_ ?_ ?_);rfl;rfl;rfl;intro W2 hb2 hbl2
            have cn:=(zAA (zAD hb2)).1
            have ck:=(zAA (zAD hb2)).2
            have c2':=(hOr.below hbl2).ents
            have bel2:=b1.trans ((bthen hbel hsz hbl2).mono sz1)
            have bel1:=bthen hbel hsz hbl2
            have c3:W2.cell? ⟨gs,os+u*34,none⟩=some (.string (B q.name)):=(zAA (zAc (hcell u q hqu.out) hgs bel1)).1
            have hnm:=hnm W2)
         | ((with_reducible refine hnm.out.mono ?_);rintro e w3 ⟨rfl,rfl⟩))
        all_goals try (exfalso;omega)
        go_quiet (fail)
        go_wp2
        go_ret
        exact ⟨by rw [hf.out];rfl,bdrewN bel2 nq⟩
     ·have heb:entB x=false:=by
       unfold entB
       have e1:(x.kind==1)=false:=by rw [beq_eq_false_iff_ne];omega
       have e2:(x.kind==2)=false:=by rw [beq_eq_false_iff_ne];omega
       rw [e1,e2];simp
      have hf:Hid (r=false):=by show r=false;rw [hrE.out,hE.out];exact zCf hlt (zE4 hxh.out heb)
      clear heb hall hE hrE bn
      by_cases d1:x.kind<1
      ·clear hk12
       go_wp2_with (first
        | ((with_reducible refine zBf (.tmp 113) gs (os+k*34) x hxok hx0 ?_ ?_);rfl)
        | ((with_reducible refine zBo (.tmp 6) (.tmp 114) x hxok _ ?_ ?_ ?_ ?_);rfl;rfl;rfl;intro W2 hb2 hbl2
           have cn:=(zAA (zAD hb2)).1
           have ck:=(zAA (zAD hb2)).2
           have c2':=(hOr.below hbl2).ents
           have bel2:=b1.trans ((bthen hbel hsz hbl2).mono sz1)
           have bel1:=bthen hbel hsz hbl2
           have hnm:=hnm W2)
        | ((with_reducible refine hnm.out.mono ?_);rintro e w3 ⟨rfl,rfl⟩))
       all_goals try (exfalso;omega)
       go_ret
       exact ⟨by rw [hf.out];rfl,bel2⟩
      ·have d2:2<x.kind:=by omega
       clear hk12
       go_wp2_with (first
        | ((with_reducible refine zBf (.tmp 113) gs (os+k*34) x hxok hx0 ?_ ?_);rfl)
        | ((with_reducible refine zBo (.tmp 6) (.tmp 114) x hxok _ ?_ ?_ ?_ ?_);rfl;rfl;rfl;intro W2 hb2 hbl2
           have cn:=(zAA (zAD hb2)).1
           have ck:=(zAA (zAD hb2)).2
           have c2':=(hOr.below hbl2).ents
           have bel2:=b1.trans ((bthen hbel hsz hbl2).mono sz1)
           have bel1:=bthen hbel hsz hbl2
           have hnm:=hnm W2)
        | ((with_reducible refine hnm.out.mono ?_);rintro e w3 ⟨rfl,rfl⟩))
       all_goals try (exfalso;omega)
       go_ret
       exact ⟨by rw [hf.out];rfl,bel2⟩
  ·have hki : ¬ (k:Int)<(o.ents.length:Int):=by omega
   have hf:Hid (r=true):=by
    show r=true
    rw [hrE.out,hE.out]
    have:=hall.out
    rw [show k=o.ents.length from by omega] at this
    rw [ents_all this]
    exact decide_eq_true (by omega)
   clear hall hat hE hrE
   go_wp2
   go_ret
   exact ⟨by rw [hf.out];rfl,b1.trans (hbel.mono sz1)⟩
end
abbrev Bld (w:World) (b:Nat) (l:Txt):Prop:=Lib.IsBuilder 216 5 b b (l.map u8v) w
theorem ib_below {T e:TypeId} {B0 b:Nat} {bs:List Value} {w w':World} (h:Lib.IsBuilder T e B0 b bs w) (hb:Below w.heap.size w w'):Lib.IsBuilder T e B0 b bs w':=by
 have key : ∀ p,Lib.BuilderAt T e B0 b p bs w→Lib.BuilderAt T e B0 b p bs w':=by
  rintro p ⟨hB,v,hh,ho,hne⟩
  have hlt:b<w.heap.size:=(show Blk w b T #[p,v] from hh).lt
  exact ⟨hB,v,(hb.block b hlt).trans hh,zAd ho hb,hne⟩
 exact h.imp (key _) (key _)
theorem ib_lt {T e:TypeId} {B0 b:Nat} {bs:List Value} {w:World} (h:Lib.IsBuilder T e B0 b bs w):b<w.heap.size:=by
 rcases h with ⟨_,v,hh,_⟩ | ⟨_,v,hh,_⟩
 ·exact (show Blk w b T #[_,v] from hh).lt
 ·exact (show Blk w b T #[_,v] from hh).lt
theorem Bld.below {w w':World} {b:Nat} {l:Txt} (h:Bld w b l) (hb:Below w.heap.size w w'):Bld w' b l:=ib_below h hb
theorem Bld.lt {w:World} {b:Nat} {l:Txt} (h:Bld w b l):b<w.heap.size:=ib_lt h
section
attribute [local go_sem ↓] ldvI_eq
structure Small (o:ObjL):Prop where
 ents:o.ents.length≤70
 names : ∀ e∈o.ents,e.name.length≤5000
 pars:o.pars.length≤20
 data:o.data.length≤5000
 text:o.text.length≤5000
 name:o.name.length≤5000
theorem entE_len' {e:EntL} (h:e.name.length≤5000) (hi:e.id.length=32):(entE e).length≤5050:=by
 have:=zAT e.name.length
 unfold entE textE
 simp only [List.length_cons,List.length_append]
 omega
theorem entsE_len' {l:List EntL} (h : ∀ e∈l,e.name.length≤5000∧e.id.length=32):(entsE l).length≤5050*l.length:=by
 induction l with
 | nil=>simp [entsE]
 | cons e l ih=>
   have h1:=entE_len' (h e (by simp)).1 (h e (by simp)).2
   have h2:=ih fun e he=>h e (by simp [he])
   have:entsE (e::l)=entE e++entsE l:=by simp [entsE]
   rw [this]
   simp only [List.length_append,List.length_cons]
   omega
end
theorem ObjB.under {w w':World} {B0 g:Nat} {o:ObjL} {ve vp:Value} (h:ObjB w g o ve vp) (hb:Below B0 w w') (hg:g<B0):ObjB w' g o ve vp:=⟨(hb.block g hg).trans h.blk,h.tr,h.ta⟩
theorem zCJ {ops:Array Oper} {rest:List Oper} {a:Act} {w:World} {Q:Exit→Act→World→Prop} {d:Option Tmp} {rt:TypeId} {pos:String} {af:Array Edge} (x:Operand) (b o:Nat) (l:List UInt8) (hl:l.length=32) (hc:w.rangeAt b o (u8s l).toList) (hx:a.eval x = .pointer (some ⟨b,o,none⟩))
 (h:wpList Tryz.prog ops Q rest (a.put d (.agg (u8s l))) w):wpList Tryz.prog ops Q ({ dst:=d,op := .load 53 x,type:=rt,pos:=pos,after:=af,guard:=none }::rest) a w:=
 wpList_load_mid rfl _ x rfl b o hx _ _ hc Tryz.underlying53 rfl (by rw [Array.length_toList,zAh,hl];exact sz32) (by rw [Array.toArray_toList];exact h)
section
attribute [local go_sem ↓] ldvO_eq
structure EncC (w:World) (g:Nat) (o:ObjL) (ve vp:Value) (w':World):Prop where
 obj:ObjB w' g o ve vp
 val:ObjV w' ve vp o
 bel:Below w.heap.size w w'
section
variable {w w' w'':World} {g:Nat} {o:ObjL} {ve vp:Value}
theorem EncC.drew (h:EncC w g o ve vp w'):EncC w g o ve vp w'.drew:=⟨h.obj.drew,⟨h.val.ok,h.val.ents,h.val.pars⟩,h.bel.drew⟩
theorem EncC.below (h:EncC w g o ve vp w') (hb:Below w'.heap.size w' w''):EncC w g o ve vp w'':=⟨h.obj.below hb,h.val.below hb,bthen h.bel h.bel.size hb⟩
theorem EncC.whole (h:EncC w g o ve vp w'):(ldvO ⟨g,0,none⟩).run Tryz.prog w' = .ok (.agg (objC o ve vp).toArray) w':=zAX h.obj h.val.ok
end
theorem whole_len {o:ObjL} (hs:Small o) (ho:ObjOk o):(bodyO o).length≤400000:=by
 have h1:=entsE_len' (l:=o.ents) (fun e he=>⟨hs.names e he,(ho.ents e he).id⟩)
 have h2:=flat_len (l:=o.pars) ho.pars
 have h3:=zAT o.pars.length
 have h4:=zAT o.time
 have h5:=zAT o.text.length
 have h6:=zAT o.name.length
 have:=hs.ents
 have:=hs.pars
 have:=hs.data
 have:=hs.text
 have:=hs.name
 have:=ho.tree
 have:=ho.target
 unfold bodyO commitE tagE textE
 repeat' split
 all_goals try simp only [List.length_append,List.length_cons,List.length_nil]
 all_goals omega
end
section
structure BodC (w:World) (g gs os:Nat) (o:ObjL) (ve vp:Value) (w':World):Prop where
 enc:EncC w g o ve vp w'
 at_ : ∀ i x,o.ents[i]?=some x→w'.rangeAt gs (os+i*34) (entC x)
 gs_:gs<w'.heap.size
section
variable {w w' w'' w0:World} {g gs os:Nat} {o:ObjL} {ve vp:Value} {f:FuncId} {args:Array Value} {v:Value}
theorem BodC.drew (h:BodC w g gs os o ve vp w'):BodC w g gs os o ve vp w'.drew:=⟨h.enc.drew,h.at_,h.gs_⟩
theorem BodC.below (h:BodC w g gs os o ve vp w') (hb:Below w'.heap.size w' w''):BodC w g gs os o ve vp w'':=⟨h.enc.below hb,fun i x hx=>zAc (h.at_ i x hx) h.gs_ hb,Nat.lt_of_lt_of_le h.gs_ hb.size⟩
theorem keepBod (h:Calls Tryz.prog f args w0 fun e w'=>e = .returned v∧Below w0.heap.size w0 w') (hS:BodC w g gs os o ve vp w0):Calls Tryz.prog f args w0 fun e w'=>e = .returned v∧BodC w g gs os o ve vp w':=
 h.mono fun _ _ ⟨he,hb⟩=>⟨he,hS.below hb⟩
theorem keepEnc (h:Calls Tryz.prog f args w0 fun e w'=>e = .returned v∧Below w0.heap.size w0 w') (hS:EncC w g o ve vp w0):Calls Tryz.prog f args w0 fun e w'=>e = .returned v∧EncC w g o ve vp w':=
 h.mono fun _ _ ⟨he,hb⟩=>⟨he,hS.below hb⟩
theorem szl {l:Txt} (h:l.length=32):(Tryz.prog.info? 53).map (·.size)=some (u8s l).toList.length:=by rw [u8s_len,h];exact sz32
end
set_option maxRecDepth 100000 in
set_option maxHeartbeats 8000000 in
theorem refBody_calls (o:ObjL) (hs:Small o) (A1 A2:Option Addr) (k1 k2:Nat) (w:World) (hv:ObjV w (.slice A1 o.ents.length k1) (.slice A2 o.pars.length k2) o):Calls Tryz.prog 71 #[.agg (objC o (.slice A1 o.ents.length k1) (.slice A2 o.pars.length k2)).toArray] w fun e w'=>e = .returned (.string (B (bodyR o)))∧Below w.heap.size w w':=by
 have ho:=hv.ok
 have hO:=boxed (w:=w) (ve := .slice A1 o.ents.length k1) (vp := .slice A2 o.pars.length k2) ho
 have b0:Below w.heap.size w (w.alloc (.cells (objC o (.slice A1 o.ents.length k1) (.slice A2 o.pars.length k2)).toArray 68)):=(Below.refl _ _).alloc (Nat.le_refl _) _
 have hv0:=hv.below b0
 obtain ⟨W0,hW0⟩ : ∃ W0,w.alloc (.cells (objC o (.slice A1 o.ents.length k1) (.slice A2 o.pars.length k2)).toArray 68)=W0:=⟨_,rfl⟩
 rw [hW0] at hO b0 hv0
 have hE0:EncC w w.heap.size o (.slice A1 o.ents.length k1) (.slice A2 o.pars.length k2) W0:=⟨hO,hv0,b0⟩
 have c1:=hO.data
 obtain ⟨r,hr⟩ : ∃ r,Hid (r=bodyR o):=⟨_,Lib.hid rfl⟩
 rw [←hr.out]
 have hoE:=Lib.hid ho.ents
 have hoP:=Lib.hid ho.pars
 have hnE:=Lib.hid hs.names
 have htr:=Lib.hid ho.tree
 have hta:=Lib.hid ho.target
 have hen70:=hs.ents
 have hp20:=hs.pars
 have hd5:=hs.data
 have ht5:=hs.text
 have hn1:=hs.name
 have htime:=ho.time
 have hbound : ∀ k,(entsE (o.ents.take k)).length≤353500:=fun k=>by
  have:=entsE_len' (l:=o.ents.take k) (fun e he=>⟨hs.names e (List.mem_of_mem_take he),(ho.ents e (List.mem_of_mem_take he)).id⟩)
  rw [List.length_take] at this
  omega
 have hbound:=Lib.hid hbound
 have hboundP:Hid (∀ k,((o.pars.take k).flatten).length≤640):=fun k=>by
  have:=flat_len (l:=o.pars.take k) (fun e he=>hoP.out e (List.mem_of_mem_take he))
  rw [List.length_take] at this
  omega
 clear hv ho hs hv0 hO b0
 generalize (objC o (.slice A1 o.ents.length k1) (.slice A2 o.pars.length k2)).toArray=cs at *
 go_enter Tryz.func71,Tryz.ntmps71
 go_wp2
 clear hW0 c1
 obtain ⟨g,hg⟩ : ∃ g,w.heap.size=g:=⟨_,rfl⟩
 simp only [hg] at hE0 ⊢
 go_loopw [3,4] (fun vs vi wr => ∃ (k:Nat) (s:Txt),vs = .string (B s)∧vi = .int .i64 k∧k≤o.ents.length∧Hid (s=o.data++entsE (o.ents.take k))∧EncC w g o (.slice A1 o.ents.length k1) (.slice A2 o.pars.length k2) wr) (fun _ vi _=>o.ents.length-(intOf vi).toNat)
 case atStart=>exact ⟨0,o.data,rfl,rfl,by omega,Lib.hid (by simp [entsE]),hE0⟩
 case round=>
  obtain ⟨k,s,rfl,rfl,hk,hs,hE⟩:=hrel
  have f0:=hE.obj.ents
  have hsl:s.length≤358500:=by
   rw [hs.out,List.length_append]
   have:=hbound.out k
   omega
  by_cases hlt:k<o.ents.length
  ·have hki:(k:Int)<(o.ents.length:Int):=by omega
   obtain ⟨A,cap,he,_,_,hat⟩:=hE.val.ents
   injection he with he _ hcp
   subst he
   subst hcp
   obtain ⟨gs,os,rfl,hgs,hcell⟩:=hat (by omega)
   have hBC:BodC w g gs os o (.slice (some ⟨gs,os,none⟩) o.ents.length k1) (.slice A2 o.pars.length k2) wr:=⟨hE,hcell,hgs⟩
   obtain ⟨x,hx⟩ : ∃ x,o.ents[k]?=some x:=⟨_,List.getElem?_eq_getElem hlt⟩
   have hxok:EntOk x:=hoE.out x (List.mem_of_getElem? hx)
   have hxn:=hnE.out x (List.mem_of_getElem? hx)
   have hst:=Lib.hid (entsE_take hx)
   have hxh:=Lib.hid hx
   have hone:=fun W=>Lib.hid (one_calls x.kind W)
   have hbytes:=fun W=>Lib.hid (zCz x.id hxok.id W)
   have htext:=fun W=>Lib.hid (zBU x.name (by omega) W)
   have htl:(textE x.name).length≤5010:=by have:=zAT x.name.length;unfold textE;rw [List.length_append];omega
   have hee:Hid (entE x=byteK x.kind::(textE x.name++x.id)):=Lib.hid rfl
   have hidx:=szl hxok.id
   have hx32:=hxok.id
   generalize textE x.name=TX at *
   have n1 : ¬ 9223372036854775807<s.length+1:=by omega
   have n2 : ¬ 9223372036854775807<s.length+1+TX.length:=by omega
   have n3 : ¬ 9223372036854775807<s.length+1+TX.length+32:=by omega
   have n2' : ¬ 9223372036854775807<s.length+(TX.length+1):=by omega
   have n3' : ¬ 9223372036854775807<s.length+(TX.length+1)+32:=by omega
   have n4 : ¬ 9223372036854775807<s.length+1+TX.length+x.id.length:=by omega
   have n4' : ¬ 9223372036854775807<s.length+(TX.length+1)+x.id.length:=by omega
   clear hx hat hE0 hoE hnE hoP hbound hboundP htr hta hr hcell
   go_wp2
   clear hE f0
   refine zAe (C:=BodC w g gs os o (.slice (some ⟨gs,os,none⟩) o.ents.length k1) (.slice A2 o.pars.length k2)) (by kernel_rfl) (by kernel_rfl) hBC.drew ?_
   repeat
    first
     | ((with_reducible refine zAm ?_ ?_)
        ·(go_simp;done)
        apply Exists.intro
        refine ⟨fun W hW=>?_,?_⟩
        ·first
          | exact zAB _ _ rfl gs (os+k*34+2) rfl (u8s x.id).toList _ (range_entId (hW.at_ k x hxh.out)) Tryz.underlying53 rfl hidx rfl
          | (have f2:=hW.enc.obj.ents
             have f3:=(zAA (hW.at_ k x hxh.out)).2
             have f4:=(zAA (hW.at_ k x hxh.out)).1
             go_simp
             first
              | rfl
              | (go_at_call 69;with_reducible exact keepBod (hone _).out hW)
              | (go_at_call 70;with_reducible exact keepBod (htext _).out hW)
              | (go_at_call 110;with_reducible exact keepBod (hbytes _).out hW))
        simp only [Act.put,zA,zB,zC])
     | ((with_reducible refine zAj ?_ ?_)
        ·(first | rfl | (go_simp;done))
        simp only [Act.put,zA,zB,zC])
   with_reducible refine wpQuiet_nil ?_
   intro w5 hW5
   have hst2:Hid (s++[byteK x.kind]++TX++x.id=o.data++entsE (o.ents.take (k+1))):=by
    show _=_
    rw [hst.out,hee.out,hs.out]
    simp
   clear n1 n2 n3 n2' n3' n4 n4' hst hee hs
   go_wp2
   go_roundw
   case rel=>exact ⟨k+1,_,by first | rfl | (congr 2;simp),by go_num,by omega,hst2,hW5.enc⟩
   case measure=>simp [intOf];omega
  ·have hki : ¬ (k:Int)<(o.ents.length:Int):=by omega
   have hse:Hid (s=o.data++entsE o.ents):=by show s=_;rw [hs.out,List.take_of_length_le (by omega)]
   clear hs hoE hnE hbound hE0 hlt hk
   have c0:=hE.obj.kind
   by_cases h3:o.kind=3
   ·have hrr:Hid (r=s++o.tree++put o.pars.length++o.pars.flatten++put o.time++textE o.text):=by
     show r=_
     rw [hr.out,bodyR,if_pos h3,hse.out]
     simp [commitE]
    rw [h3] at c0
    have hbt:=fun W=>Lib.hid (zCz o.tree htr.out W)
    have hpn:=fun W=>Lib.hid (zCO o.pars.length (by omega) W)
    have hpt:=fun W=>Lib.hid (zCO o.time (by omega) W)
    have htx:=fun W=>Lib.hid (zBU o.text (by omega) W)
    have hl1:=zAT o.pars.length
    have hl2:=zAT o.time
    have htl:(textE o.text).length≤5010:=by have:=zAT o.text.length;unfold textE;rw [List.length_append];omega
    have ht32:=htr.out
    have hwu:IntKind.u64.wrap ((o.pars.length:Nat):Int)=((o.pars.length:Nat):Int):=by rw [IntKind.wrap_u64];omega
    have hwt:IntKind.u64.wrap ((o.time:Nat):Int)=((o.time:Nat):Int):=by rw [IntKind.wrap_u64];omega
    have hidt:=szl ht32
    have h3':=h3
    clear hr hse h3
    generalize textE o.text=TX at *
    generalize put o.pars.length=PN at *
    generalize put o.time=PT at *
    have n1 : ¬ 9223372036854775807<s.length+32:=by omega
    have n2 : ¬ 9223372036854775807<s.length+32+PN.length:=by omega
    have n1' : ¬ 9223372036854775807<s.length+o.tree.length:=by omega
    have n2' : ¬ 9223372036854775807<s.length+o.tree.length+PN.length:=by omega
    go_wp2
    clear c0 f0
    refine zAe (C:=EncC w g o (.slice A1 o.ents.length k1) (.slice A2 o.pars.length k2)) (by kernel_rfl) (by kernel_rfl) hE.drew ?_
    repeat
     first
      | ((with_reducible refine zAm ?_ ?_)
         ·(go_simp;done)
         apply Exists.intro
         refine ⟨fun W hW=>?_,?_⟩
         ·first
           | exact zAB _ _ rfl g 3 rfl (u8s o.tree).toList _ hW.obj.tree Tryz.underlying53 rfl hidt rfl
           | (have f2:=hW.obj.pars
              go_simp
              first
               | rfl
               | (go_at_call 110;with_reducible exact keepEnc (hbt _).out hW)
               | (go_at_call 109;with_reducible exact keepEnc (hpn _).out hW))
         simp only [Act.put,zA,zB,zC])
      | ((with_reducible refine zAj ?_ ?_)
         ·(first | rfl | (go_simp;done))
         simp only [Act.put,zA,zB,zC])
    with_reducible refine wpQuiet_nil ?_
    intro w5 hW5
    generalize hS2:s++o.tree++PN=S2 at *
    have hS2l:S2.length≤359000:=by rw [←hS2];simp only [List.length_append];omega
    replace hS2:=Lib.hid hS2
    clear hE n1 n2 n1' n2' hpn hbt hidt ht32
    have hE:=hW5
    go_wp2
    go_loopw [3,5] (fun vs vi wr => ∃ (k:Nat) (q:Txt),vs = .string (B q)∧vi = .int .i64 k∧k≤o.pars.length∧Hid (q=S2++(o.pars.take k).flatten)∧EncC w g o (.slice A1 o.ents.length k1) (.slice A2 o.pars.length k2) wr) (fun _ vi _=>o.pars.length-(intOf vi).toNat)
    case atStart=>exact ⟨0,S2,by first | rfl | (rw [←hS2.out,List.append_assoc]),rfl,by omega,Lib.hid (by simp),hE⟩
    case round=>
     obtain ⟨k,q,rfl,rfl,hk,hq,hE2⟩:=hrel
     have f0:=hE2.obj.pars
     have hql:q.length≤359640:=by
      rw [hq.out,List.length_append]
      have:=hboundP.out k
      omega
     by_cases hlt:k<o.pars.length
     ·have hki:(k:Int)<(o.pars.length:Int):=by omega
      obtain ⟨A,cap,he,_,_,hat⟩:=hE2.val.pars
      injection he with he _ hcp
      subst he
      subst hcp
      obtain ⟨gs,os,rfl,hgs,hcell⟩:=hat (by omega)
      obtain ⟨x,hx⟩ : ∃ x,o.pars[k]?=some x:=⟨_,List.getElem?_eq_getElem hlt⟩
      have hx32:x.length=32:=hoP.out x (List.mem_of_getElem? hx)
      have hx0:wr.rangeAt gs (os+k*32) (u8s x).toList:=hcell k x hx
      have hst:=Lib.hid (flat_take hx)
      have hbytes:=fun W=>Lib.hid (zCz x hx32 W)
      have n1 : ¬ 9223372036854775807<q.length+32:=by omega
      have n1' : ¬ 9223372036854775807<q.length+x.length:=by omega
      clear hx hat hcell hW5 hE
      go_wp2_with (first
       | ((with_reducible refine zCJ (.tmp 65) gs (os+k*32) x hx32 hx0 ?_ ?_);rfl)
       | ((with_reducible refine (hbytes _).out.mono ?_);rintro e w6 ⟨rfl,hb6⟩))
      have hE3:=hE2.below hb6
      have hst2:Hid (q++x=S2++(o.pars.take (k+1)).flatten):=by
       show _=_
       rw [hst.out,hq.out]
       simp
      clear n1 n1' hst hq
      go_roundw
      case rel=>
       (repeat apply Exists.intro)
       exact ⟨⟨k+1,_,rfl,by go_num,by omega,hst2,hE3⟩,rfl⟩
      case measure=>simp [intOf];omega
     ·have hki : ¬ (k:Int)<(o.pars.length:Int):=by omega
      have hqe:Hid (q=S2++o.pars.flatten):=by show q=_;rw [hq.out,List.take_of_length_le (by omega)]
      have n1 : ¬ 9223372036854775807<q.length+PT.length:=by omega
      have n2 : ¬ 9223372036854775807<q.length+PT.length+TX.length:=by omega
      have hfin:Hid (r=q++PT++TX):=by
       show r=_
       rw [hrr.out,hqe.out,←hS2.out]
      have c0:=hE2.obj.kind
      rw [h3'] at c0
      clear hq hqe hrr hlt hk hboundP hW5 hE
      go_wp2
      clear f0
      refine zAe (C:=EncC w g o (.slice A1 o.ents.length k1) (.slice A2 o.pars.length k2)) (by kernel_rfl) (by kernel_rfl) hE2.drew ?_
      repeat
       first
        | ((with_reducible refine zAm ?_ ?_)
           ·(go_simp;done)
           apply Exists.intro
           refine ⟨fun W hW=>?_,?_⟩
           ·first
             | (have f2:=hW.obj.time
                have f3:=hW.obj.text
                go_simp
                first
                 | rfl
                 | (go_at_call 70;with_reducible exact keepEnc (htx _).out hW)
                 | (go_at_call 109;with_reducible exact keepEnc (hpt _).out hW))
           simp only [Act.put,zA,zB,zC])
        | ((with_reducible refine zAj ?_ ?_)
           ·(first | rfl | (go_simp;done))
           simp only [Act.put,zA,zB,zC])
      with_reducible refine wpQuiet_nil ?_
      intro w5 hW5
      have c0:=hW5.obj.kind
      rw [h3'] at c0
      clear n1 n2
      go_wp2
      go_ret
      exact ⟨by rw [hfin.out];simp,by first | exact hW5.bel | (rw [←hg];exact hW5.bel)⟩
   by_cases h4:o.kind=4
   ·have hrr:Hid (r=s++[byteK o.of_]++o.target++textE o.name):=by
     show r=_
     rw [hr.out,bodyR,if_neg h3,if_pos h4,hse.out]
     simp [tagE]
    rw [h4] at c0
    have hbt:=fun W=>Lib.hid (zCz o.target hta.out W)
    have hone:=fun W=>Lib.hid (one_calls o.of_ W)
    have htx:=fun W=>Lib.hid (zBU o.name (by omega) W)
    have htl:(textE o.name).length≤5010:=by have:=zAT o.name.length;unfold textE;rw [List.length_append];omega
    have ht32:=hta.out
    have hidt:=szl ht32
    clear hr hse h3 h4
    generalize textE o.name=TX at *
    have n1 : ¬ 9223372036854775807<s.length+1:=by omega
    have n2 : ¬ 9223372036854775807<s.length+1+32:=by omega
    have n3 : ¬ 9223372036854775807<s.length+1+32+TX.length:=by omega
    have n2' : ¬ 9223372036854775807<s.length+1+o.target.length:=by omega
    have n3' : ¬ 9223372036854775807<s.length+1+o.target.length+TX.length:=by omega
    have n2a : ¬ 9223372036854775807<s.length+(o.target.length+1):=by omega
    have n3a : ¬ 9223372036854775807<s.length+(32+1)+TX.length:=by omega
    have n3b : ¬ 9223372036854775807<s.length+(o.target.length+1)+TX.length:=by omega
    go_wp2
    clear c0 f0
    refine zAe (C:=EncC w g o (.slice A1 o.ents.length k1) (.slice A2 o.pars.length k2)) (by kernel_rfl) (by kernel_rfl) hE.drew ?_
    repeat
     first
      | ((with_reducible refine zAm ?_ ?_)
         ·(go_simp;done)
         apply Exists.intro
         refine ⟨fun W hW=>?_,?_⟩
         ·first
           | exact zAB _ _ rfl g 38 rfl (u8s o.target).toList _ hW.obj.target Tryz.underlying53 rfl hidt rfl
           | (have f2:=hW.obj.of_
              have f3:=hW.obj.name
              go_simp
              first
               | rfl
               | (go_at_call 110;with_reducible exact keepEnc (hbt _).out hW)
               | (go_at_call 69;with_reducible exact keepEnc (hone _).out hW)
               | (go_at_call 70;with_reducible exact keepEnc (htx _).out hW))
         simp only [Act.put,zA,zB,zC])
      | ((with_reducible refine zAj ?_ ?_)
         ·(first | rfl | (go_simp;done))
         simp only [Act.put,zA,zB,zC])
    with_reducible refine wpQuiet_nil ?_
    intro w5 hW5
    clear n1 n2 n3 n2' n3' n2a n3a n3b
    go_wp2
    go_ret
    exact ⟨by rw [hrr.out];simp,by first | exact hW5.bel | (rw [←hg];exact hW5.bel)⟩
   ·have hrr:Hid (r=s):=by
     show r=_
     rw [hr.out,bodyR,if_neg h3,if_neg h4,hse.out]
     simp
    have e3:(o.kind==3)=false:=by rw [beq_eq_false_iff_ne];exact h3
    have e4:(o.kind==4)=false:=by rw [beq_eq_false_iff_ne];exact h4
    clear hr hse
    go_wp2
    go_ret
    exact ⟨by rw [hrr.out];rfl,by first | exact hE.bel | (rw [←hg];exact hE.bel)⟩
end
section
attribute [local go_sem ↓] ldvI_eq
theorem kind_eq (n:Int):(n<1→kindB n=false)∧(4<n→kindB n=false)∧(¬ n<1 → ¬ 4<n→kindB n=true):=by
 unfold kindB
 refine ⟨fun h=>?_,fun h=>?_,fun h1 h2=>?_⟩
 ·rw [decide_eq_false (p:=1≤n) (by omega)];rfl
 ·rw [decide_eq_false (p:=n≤4) (by omega)];simp
 ·rw [decide_eq_true (p:=1≤n) (by omega),decide_eq_true (p:=n≤4) (by omega)];rfl
set_option maxRecDepth 100000 in
set_option maxHeartbeats 4000000 in
theorem refMay_calls1 (o:ObjL) (hk:o.kind=1) (A1 A2:Option Addr) (k1 k2:Nat) (w:World) (hv:ObjV w (.slice A1 o.ents.length k1) (.slice A2 o.pars.length k2) o):Calls Tryz.prog 68 #[.agg (objC o (.slice A1 o.ents.length k1) (.slice A2 o.pars.length k2)).toArray] w fun e w'=>e = .returned (.bool (mayB o))∧Below w.heap.size w w':=by
 have ho:=hv.ok
 have hO:=boxed (w:=w) (ve := .slice A1 o.ents.length k1) (vp := .slice A2 o.pars.length k2) ho
 have b0:Below w.heap.size w (w.alloc (.cells (objC o (.slice A1 o.ents.length k1) (.slice A2 o.pars.length k2)).toArray 68)):=(Below.refl _ _).alloc (Nat.le_refl _) _
 have hv0:=hv.below b0
 obtain ⟨W0,hW0⟩ : ∃ W0,w.alloc (.cells (objC o (.slice A1 o.ents.length k1) (.slice A2 o.pars.length k2)).toArray 68)=W0:=⟨_,rfl⟩
 rw [hW0] at hO b0 hv0
 have c0:=hO.kind
 have g1:=fun W=>zAb (w:=W) (g:=w.heap.size) (o:=3) (l:=o.tree)
 have g2:=fun W=>zAb (w:=W) (g:=w.heap.size) (o:=38) (l:=o.target)
 have z1:=fun W=>zAP o.tree ho.tree W
 have z2:=fun W=>zAP o.target ho.target W
 have e1:=Lib.hid (zB6 o)
 have e2:=Lib.hid (tag_eq o)
 have ht:o.time<4294967296:=ho.time
 obtain ⟨r,hr⟩ : ∃ r,Hid (r=mayB o):=⟨_,Lib.hid rfl⟩
 rw [←hr.out]
 have hr2:=hr.out
 rw [may_one o hk,zB6,tag_eq] at hr2
 replace hr2:=Lib.hid hr2
 rw [hk] at c0
 have htr:=Lib.hid ho.tree
 have hta:=Lib.hid ho.target
 obtain ⟨Ez,hEz⟩ : ∃ Ez,treeN o=Ez:=⟨_,rfl⟩
 have hE1:Hid (0<o.ents.length→Ez=false):=fun h=>by rw [←hEz];unfold treeN;rw [beq_eq_false_iff_ne];omega
 have hE2:Hid (¬ 0<o.ents.length→Ez=true):=fun h=>by rw [←hEz];unfold treeN;rw [beq_iff_eq];omega
 have hr1:=hr2.out
 rw [hEz] at hr1
 replace hr2:=Lib.hid hr1
 clear hEz hr1
 clear hr ho hv e1 e2
 generalize decide (o.tree=List.replicate 32 0)=T at *
 generalize decide (o.target=List.replicate 32 0)=G at *
 obtain ⟨Pz,hPz⟩ : ∃ Pz,decide ((o.pars.length:Int)=0)=Pz:=⟨_,rfl⟩
 have hP1:0<o.pars.length→Pz=false:=fun h=>by rw [←hPz];exact decide_eq_false (by omega)
 have hP2 : ¬ 0<o.pars.length→Pz=true:=fun h=>by rw [←hPz];exact decide_eq_true (by omega)
 replace hP1:=Lib.hid hP1
 replace hP2:=Lib.hid hP2
 have hr3:=hr2.out
 rw [hPz] at hr3
 replace hr2:=Lib.hid hr3
 clear hPz hr3
 generalize hcs:(objC o (.slice A1 o.ents.length k1) (.slice A2 o.pars.length k2)).toArray=cs at *
 clear hcs
 have s0:=b0.size
 go_enter Tryz.func68,Tryz.ntmps68
 go_upto_region 4 with (first
  | ((with_reducible refine zCc (.tmp 3) (.tmp 16) _ ?_ ?_ ?_ ?_);rfl;rfl;rfl
     intro W1 hb1 hbl1
     have hO1:=hO.below hbl1
     have c1:=hO1.data
     have c2:=hO1.ents
     have c35:=hO1.pars
     have c36:=hO1.time
     have c37:=hO1.text
     have c70:=hO1.of_
     have c71:=hO1.name
     have c0':=hO1.kind
     rw [hk] at c0'
     have q1:=g1 W1 hO1.tree htr.out
     have q2:=g2 W1 hO1.target hta.out
     have q3:=zEQ hb1))
 clear c0 hO hb1 htr hta g1 g2 hW0
 have b1:=b0.trans (hbl1.mono s0)
 have sz1:=Nat.le_trans s0 hbl1.size
 clear b0 hbl1 hv0
 go_upto_region 16 with fail
 all_goals try (exfalso;omega)
 all_goals try
  (go_ret
   refine ⟨?_,b1⟩
   rw [hr2.out]
   have hP1:=hP1.out
   have hP2:=hP2.out
   have hE1:=hE1.out
   have hE2:=hE2.out
   clear z1 z2 c1 c2 c35 c36 c37 c70 c71 q1 q2 q3 hO1 c0' hr2
   simp_all
   done)
 have hrT:Hid (r=true):=by
  show r=true
  rw [hr2.out]
  have hP1:=hP1.out
  have hP2:=hP2.out
  have hE1:=hE1.out
  have hE2:=hE2.out
  clear z1 z2 c1 c2 c35 c36 c37 c70 c71 q1 q2 q3 hO1 c0' hr2
  simp_all
 have hn0 : ¬ 0<o.ents.length:=by assumption
 have hni : ¬ (0:Int)<(o.ents.length:Int):=by omega
 clear hr2 z1 z2 c1 c35 c36 c37 c70 c71 q1 q2 q3 c0' ht
 go_cut [5] (fun s5 wx=>s5 = .int .i64 0∧wx=W1)
 case first=>
  go_wp2
  go_meet
  case rel=>exact ⟨rfl,rfl⟩
 obtain ⟨rfl,rfl⟩:=hcut
 go_wp2
 go_loopw [5] (fun vi wr=>vi = .int .i64 0∧wr=wc) (fun _ _=>0)
 case atStart=>exact ⟨rfl,rfl⟩
 case round=>
  obtain ⟨rfl,rfl⟩:=hrel
  go_wp2
  go_ret
  exact ⟨by rw [hrT.out];rfl,b1⟩
set_option maxRecDepth 100000 in
set_option maxHeartbeats 4000000 in
theorem refMay_calls3 (o:ObjL) (hk:o.kind=3) (A1 A2:Option Addr) (k1 k2:Nat) (w:World) (hv:ObjV w (.slice A1 o.ents.length k1) (.slice A2 o.pars.length k2) o):Calls Tryz.prog 68 #[.agg (objC o (.slice A1 o.ents.length k1) (.slice A2 o.pars.length k2)).toArray] w fun e w'=>e = .returned (.bool (mayB o))∧Below w.heap.size w w':=by
 have ho:=hv.ok
 have hO:=boxed (w:=w) (ve := .slice A1 o.ents.length k1) (vp := .slice A2 o.pars.length k2) ho
 have b0:Below w.heap.size w (w.alloc (.cells (objC o (.slice A1 o.ents.length k1) (.slice A2 o.pars.length k2)).toArray 68)):=(Below.refl _ _).alloc (Nat.le_refl _) _
 have hv0:=hv.below b0
 obtain ⟨W0,hW0⟩ : ∃ W0,w.alloc (.cells (objC o (.slice A1 o.ents.length k1) (.slice A2 o.pars.length k2)).toArray 68)=W0:=⟨_,rfl⟩
 rw [hW0] at hO b0 hv0
 have c0:=hO.kind
 have g1:=fun W=>zAb (w:=W) (g:=w.heap.size) (o:=3) (l:=o.tree)
 have g2:=fun W=>zAb (w:=W) (g:=w.heap.size) (o:=38) (l:=o.target)
 have z1:=fun W=>zAP o.tree ho.tree W
 have z2:=fun W=>zAP o.target ho.target W
 have e1:=Lib.hid (zB6 o)
 have e2:=Lib.hid (tag_eq o)
 have ht:o.time<4294967296:=ho.time
 obtain ⟨r,hr⟩ : ∃ r,Hid (r=mayB o):=⟨_,Lib.hid rfl⟩
 rw [←hr.out]
 have hr2:=hr.out
 rw [may_three o hk,tag_eq] at hr2
 have hX:blobN o=List.isEmpty o.data:=rfl
 rw [hX] at hr2
 replace hr2:=Lib.hid hr2
 rw [hk] at c0
 have htr:=Lib.hid ho.tree
 have hta:=Lib.hid ho.target
 obtain ⟨Ez,hEz⟩ : ∃ Ez,treeN o=Ez:=⟨_,rfl⟩
 have hE1:Hid (0<o.ents.length→Ez=false):=fun h=>by rw [←hEz];unfold treeN;rw [beq_eq_false_iff_ne];omega
 have hE2:Hid (¬ 0<o.ents.length→Ez=true):=fun h=>by rw [←hEz];unfold treeN;rw [beq_iff_eq];omega
 have hr1:=hr2.out
 rw [hEz] at hr1
 replace hr2:=Lib.hid hr1
 clear hEz hr1
 clear hr ho hX hv e1 e2
 generalize decide (o.tree=List.replicate 32 0)=T at *
 generalize decide (o.target=List.replicate 32 0)=G at *
 obtain ⟨Pz,hPz⟩ : ∃ Pz,decide (o.pars.length≤8)=Pz:=⟨_,rfl⟩
 have hP1:(8:Int)<(o.pars.length:Int)→Pz=false:=fun h=>by rw [←hPz];exact decide_eq_false (by omega)
 have hP2:(o.pars.length:Int)≤8→Pz=true:=fun h=>by rw [←hPz];exact decide_eq_true (by omega)
 replace hP1:=Lib.hid hP1
 replace hP2:=Lib.hid hP2
 have hr3:=hr2.out
 rw [hPz] at hr3
 replace hr2:=Lib.hid hr3
 clear hPz hr3
 generalize hcs:(objC o (.slice A1 o.ents.length k1) (.slice A2 o.pars.length k2)).toArray=cs at *
 clear hcs
 have s0:=b0.size
 go_enter Tryz.func68,Tryz.ntmps68
 go_upto_region 4 with (first
  | ((with_reducible refine zCc (.tmp 3) (.tmp 16) _ ?_ ?_ ?_ ?_);rfl;rfl;rfl
     intro W1 hb1 hbl1
     have hO1:=hO.below hbl1
     have c1:=hO1.data
     have c2:=hO1.ents
     have c35:=hO1.pars
     have c36:=hO1.time
     have c37:=hO1.text
     have c70:=hO1.of_
     have c71:=hO1.name
     have c0':=hO1.kind
     rw [hk] at c0'
     have q1:=g1 W1 hO1.tree htr.out
     have q2:=g2 W1 hO1.target hta.out
     have q3:=zEQ hb1))
 clear c0 hO hb1 htr hta g1 g2 hW0
 have b1:=b0.trans (hbl1.mono s0)
 have sz1:=Nat.le_trans s0 hbl1.size
 clear b0 hbl1 hv0
 go_upto_region 16 with fail
 all_goals try (exfalso;omega)
 all_goals try
  (go_ret
   refine ⟨?_,b1⟩
   rw [hr2.out]
   have hP1:=hP1.out
   have hP2:=hP2.out
   have hE1:=hE1.out
   have hE2:=hE2.out
   clear z1 z2 c1 c2 c35 c36 c37 c70 c71 q1 q2 q3 hO1 c0' hr2
   simp_all
   done)
 have hrT:Hid (r=true):=by
  show r=true
  rw [hr2.out]
  have hP1:=hP1.out
  have hP2:=hP2.out
  have hE1:=hE1.out
  have hE2:=hE2.out
  clear z1 z2 c1 c2 c35 c36 c37 c70 c71 q1 q2 q3 hO1 c0' hr2
  simp_all
 have hn0 : ¬ 0<o.ents.length:=by assumption
 have hni : ¬ (0:Int)<(o.ents.length:Int):=by omega
 clear hr2 z1 z2 c1 c35 c36 c37 c70 c71 q1 q2 q3 c0' ht
 go_cut [5] (fun s5 wx=>s5 = .int .i64 0∧wx=W1)
 case first=>
  go_wp2
  go_meet
  case rel=>exact ⟨rfl,rfl⟩
 obtain ⟨rfl,rfl⟩:=hcut
 go_wp2
 go_loopw [5] (fun vi wr=>vi = .int .i64 0∧wr=wc) (fun _ _=>0)
 case atStart=>exact ⟨rfl,rfl⟩
 case round=>
  obtain ⟨rfl,rfl⟩:=hrel
  go_wp2
  go_ret
  exact ⟨by rw [hrT.out];rfl,b1⟩
set_option maxRecDepth 100000 in
set_option maxHeartbeats 4000000 in
theorem refMay_calls4 (o:ObjL) (hk:o.kind=4) (A1 A2:Option Addr) (k1 k2:Nat) (w:World) (hv:ObjV w (.slice A1 o.ents.length k1) (.slice A2 o.pars.length k2) o):Calls Tryz.prog 68 #[.agg (objC o (.slice A1 o.ents.length k1) (.slice A2 o.pars.length k2)).toArray] w fun e w'=>e = .returned (.bool (mayB o))∧Below w.heap.size w w':=by
 have ho:=hv.ok
 have hO:=boxed (w:=w) (ve := .slice A1 o.ents.length k1) (vp := .slice A2 o.pars.length k2) ho
 have b0:Below w.heap.size w (w.alloc (.cells (objC o (.slice A1 o.ents.length k1) (.slice A2 o.pars.length k2)).toArray 68)):=(Below.refl _ _).alloc (Nat.le_refl _) _
 have hv0:=hv.below b0
 obtain ⟨W0,hW0⟩ : ∃ W0,w.alloc (.cells (objC o (.slice A1 o.ents.length k1) (.slice A2 o.pars.length k2)).toArray 68)=W0:=⟨_,rfl⟩
 rw [hW0] at hO b0 hv0
 have c0:=hO.kind
 have g1:=fun W=>zAb (w:=W) (g:=w.heap.size) (o:=3) (l:=o.tree)
 have g2:=fun W=>zAb (w:=W) (g:=w.heap.size) (o:=38) (l:=o.target)
 have z1:=fun W=>zAP o.tree ho.tree W
 have z2:=fun W=>zAP o.target ho.target W
 have e1:=Lib.hid (zB6 o)
 have e2:=Lib.hid (tag_eq o)
 have ht:o.time<4294967296:=ho.time
 obtain ⟨r,hr⟩ : ∃ r,Hid (r=mayB o):=⟨_,Lib.hid rfl⟩
 rw [←hr.out]
 have hr2:=hr.out
 rw [may_four o hk,zB6] at hr2
 have hX:blobN o=List.isEmpty o.data:=rfl
 rw [hX] at hr2
 replace hr2:=Lib.hid hr2
 rw [hk] at c0
 have htr:=Lib.hid ho.tree
 have hta:=Lib.hid ho.target
 obtain ⟨Ez,hEz⟩ : ∃ Ez,treeN o=Ez:=⟨_,rfl⟩
 have hE1:Hid (0<o.ents.length→Ez=false):=fun h=>by rw [←hEz];unfold treeN;rw [beq_eq_false_iff_ne];omega
 have hE2:Hid (¬ 0<o.ents.length→Ez=true):=fun h=>by rw [←hEz];unfold treeN;rw [beq_iff_eq];omega
 have hr1:=hr2.out
 rw [hEz] at hr1
 replace hr2:=Lib.hid hr1
 clear hEz hr1
 clear hr ho hX hv e1 e2
 generalize decide (o.tree=List.replicate 32 0)=T at *
 generalize decide (o.target=List.replicate 32 0)=G at *
 obtain ⟨Pz,hPz⟩ : ∃ Pz,decide ((o.pars.length:Int)=0)=Pz:=⟨_,rfl⟩
 have hP1:0<o.pars.length→Pz=false:=fun h=>by rw [←hPz];exact decide_eq_false (by omega)
 have hP2 : ¬ 0<o.pars.length→Pz=true:=fun h=>by rw [←hPz];exact decide_eq_true (by omega)
 replace hP1:=Lib.hid hP1
 replace hP2:=Lib.hid hP2
 have hr3:=hr2.out
 rw [hPz] at hr3
 replace hr2:=Lib.hid hr3
 clear hPz hr3
 obtain ⟨k1',k2',k3'⟩:=kind_eq o.of_
 have hK1:=Lib.hid k1'
 have hK2:=Lib.hid k2'
 have hK3:=Lib.hid k3'
 have hnm:=fun W=>Lib.hid (zD6 o.name hv0.ok.name W)
 clear k1' k2' k3'
 generalize kindB o.of_=K at *
 generalize nameB o.name=N at *
 generalize hcs:(objC o (.slice A1 o.ents.length k1) (.slice A2 o.pars.length k2)).toArray=cs at *
 clear hcs
 have s0:=b0.size
 go_enter Tryz.func68,Tryz.ntmps68
 go_upto_region 4 with (first
  | ((with_reducible refine zCc (.tmp 3) (.tmp 16) _ ?_ ?_ ?_ ?_);rfl;rfl;rfl
     intro W1 hb1 hbl1
     have hO1:=hO.below hbl1
     have c1:=hO1.data
     have c2:=hO1.ents
     have c35:=hO1.pars
     have c36:=hO1.time
     have c37:=hO1.text
     have c70:=hO1.of_
     have c71:=hO1.name
     have c0':=hO1.kind
     rw [hk] at c0'
     have q1:=g1 W1 hO1.tree htr.out
     have q2:=g2 W1 hO1.target hta.out
     have q3:=zEQ hb1))
 clear c0 hO hb1 htr hta g1 g2 hW0
 have b1:=b0.trans (hbl1.mono s0)
 have sz1:=Nat.le_trans s0 hbl1.size
 clear b0 hbl1 hv0
 go_upto_region 16 with (first
  | ((with_reducible refine (hnm _).out.mono ?_);rintro e w3 ⟨rfl,hw3⟩;rw [hw3];clear hw3))
 all_goals try (exfalso;omega)
 all_goals try
  (go_ret
   refine ⟨?_,b1⟩
   rw [hr2.out]
   have hP1:=hP1.out
   have hP2:=hP2.out
   have hE1:=hE1.out
   have hE2:=hE2.out
   have hK1:=hK1.out
   have hK2:=hK2.out
   have hK3:=hK3.out
   clear z1 z2 c1 c2 c35 c36 c37 c70 c71 q1 q2 q3 hO1 c0' hr2
   simp_all
   done)
 have hrT:Hid (r=true):=by
  show r=true
  rw [hr2.out]
  have hP1:=hP1.out
  have hP2:=hP2.out
  have hE1:=hE1.out
  have hE2:=hE2.out
  have hK1:=hK1.out
  have hK2:=hK2.out
  have hK3:=hK3.out
  clear z1 z2 c1 c2 c35 c36 c37 c70 c71 q1 q2 q3 hO1 c0' hr2
  simp_all
 have hn0 : ¬ 0<o.ents.length:=by assumption
 have hni : ¬ (0:Int)<(o.ents.length:Int):=by omega
 clear hr2 z1 z2 c1 c35 c36 c37 c70 c71 q1 q2 q3 c0' ht
 go_cut [5] (fun s5 wx=>s5 = .int .i64 0∧wx=W1)
 case first=>
  go_wp2
  go_meet
  case rel=>exact ⟨rfl,rfl⟩
 obtain ⟨rfl,rfl⟩:=hcut
 go_wp2
 go_loopw [5] (fun vi wr=>vi = .int .i64 0∧wr=wc) (fun _ _=>0)
 case atStart=>exact ⟨rfl,rfl⟩
 case round=>
  obtain ⟨rfl,rfl⟩:=hrel
  go_wp2
  go_ret
  exact ⟨by rw [hrT.out];rfl,b1⟩
set_option maxRecDepth 100000 in
set_option maxHeartbeats 4000000 in
theorem refMay_calls0 (o:ObjL) (hk:o.kind<1∨4<o.kind) (A1 A2:Option Addr) (k1 k2:Nat) (w:World) (hv:ObjV w (.slice A1 o.ents.length k1) (.slice A2 o.pars.length k2) o):Calls Tryz.prog 68 #[.agg (objC o (.slice A1 o.ents.length k1) (.slice A2 o.pars.length k2)).toArray] w fun e w'=>e = .returned (.bool (mayB o))∧Below w.heap.size w w':=by
 have ho:=hv.ok
 have hO:=boxed (w:=w) (ve := .slice A1 o.ents.length k1) (vp := .slice A2 o.pars.length k2) ho
 have b0:Below w.heap.size w (w.alloc (.cells (objC o (.slice A1 o.ents.length k1) (.slice A2 o.pars.length k2)).toArray 68)):=(Below.refl _ _).alloc (Nat.le_refl _) _
 obtain ⟨W0,hW0⟩ : ∃ W0,w.alloc (.cells (objC o (.slice A1 o.ents.length k1) (.slice A2 o.pars.length k2)).toArray 68)=W0:=⟨_,rfl⟩
 rw [hW0] at hO b0
 have c0:=hO.kind
 obtain ⟨r,hr⟩ : ∃ r,Hid (r=mayB o):=⟨_,Lib.hid rfl⟩
 rw [←hr.out]
 have hf:Hid (r=false):=by show r=false;rw [hr.out];exact may_none o hk
 clear hr hv ho hO
 generalize (objC o (.slice A1 o.ents.length k1) (.slice A2 o.pars.length k2)).toArray=cs at *
 generalize o.kind=n at *
 go_enter Tryz.func68,Tryz.ntmps68
 by_cases h1:n<1
 ·clear hk
  go_wp2
  all_goals try (exfalso;omega)
  go_ret
  exact ⟨by rw [hf.out];rfl,b0⟩
 ·have h4:4<n:=by omega
  clear hk
  go_wp2
  all_goals try (exfalso;omega)
  go_ret
  exact ⟨by rw [hf.out];rfl,b0⟩
theorem refMay_calls (o:ObjL) (A1 A2:Option Addr) (k1 k2:Nat) (w:World) (hv:ObjV w (.slice A1 o.ents.length k1) (.slice A2 o.pars.length k2) o):Calls Tryz.prog 68 #[.agg (objC o (.slice A1 o.ents.length k1) (.slice A2 o.pars.length k2)).toArray] w fun e w'=>e = .returned (.bool (mayB o))∧Below w.heap.size w w':=by
 by_cases h1:o.kind=1
 ·exact refMay_calls1 o h1 A1 A2 k1 k2 w hv
 by_cases h2:o.kind=2
 ·exact refMay_calls2 o h2 A1 A2 k1 k2 w hv
 by_cases h3:o.kind=3
 ·exact refMay_calls3 o h3 A1 A2 k1 k2 w hv
 by_cases h4:o.kind=4
 ·exact refMay_calls4 o h4 A1 A2 k1 k2 w hv
 exact refMay_calls0 o (by omega) A1 A2 k1 k2 w hv
end
section
attribute [local go_sem ↓] ldvO_eq
def encD (o:ObjL):Value:=match encO o with
 | some t => .tuple #[.string (B t), .bool true]
 | none => .tuple #[.string (B []), .bool false]
theorem zDy {o:ObjL} (h:encO o=none):encD o = .tuple #[.string (B []), .bool false]:=by unfold encD;rw [h]
theorem encD_some {o:ObjL} {t:Txt} (h:encO o=some t):encD o = .tuple #[.string (B t), .bool true]:=by unfold encD;rw [h]
set_option maxRecDepth 100000 in
set_option maxHeartbeats 4000000 in
theorem zCU (o:ObjL) (hs:Small o) (A1 A2:Option Addr) (k1 k2:Nat) (w:World) (hv:ObjV w (.slice A1 o.ents.length k1) (.slice A2 o.pars.length k2) o):Calls Tryz.prog 45 #[.agg (objC o (.slice A1 o.ents.length k1) (.slice A2 o.pars.length k2)).toArray] w fun e w'=>e = .returned (encD o)∧Below w.heap.size w w':=by
 have ho:=hv.ok
 have hO:=boxed (w:=w) (ve := .slice A1 o.ents.length k1) (vp := .slice A2 o.pars.length k2) ho
 have b0:Below w.heap.size w (w.alloc (.cells (objC o (.slice A1 o.ents.length k1) (.slice A2 o.pars.length k2)).toArray 68)):=(Below.refl _ _).alloc (Nat.le_refl _) _
 have hv0:=hv.below b0
 obtain ⟨W0,hW0⟩ : ∃ W0,w.alloc (.cells (objC o (.slice A1 o.ents.length k1) (.slice A2 o.pars.length k2)).toArray 68)=W0:=⟨_,rfl⟩
 rw [hW0] at hO b0 hv0
 have hE0:EncC w w.heap.size o (.slice A1 o.ents.length k1) (.slice A2 o.pars.length k2) W0:=⟨hO,hv0,b0⟩
 have hmay:=Lib.hid (refMay_calls o A1 A2 k1 k2 W0 hv0)
 have q0:=hE0.whole
 obtain ⟨r,hr⟩ : ∃ r,Hid (r=encD o):=⟨_,Lib.hid rfl⟩
 rw [←hr.out]
 have hbl:=whole_len hs ho
 have hem:mayB o=false→encO o=none:=fun h=>by unfold encO;rw [h];simp
 have hbody:=fun W (h:EncC w w.heap.size o (.slice A1 o.ents.length k1) (.slice A2 o.pars.length k2) W)=>Lib.hid (refBody_calls o hs A1 A2 k1 k2 W h.val)
 have hone:=fun W=>Lib.hid (one_calls o.kind W)
 have hew:Hid (mayB o=true→encO o=if (byteK o.kind::textE (bodyO o)).length≤4096 then some (byteK o.kind::textE (bodyO o)) else none):=fun h=>by
  unfold encO wholeO
  rw [h];simp
 have hsame := @body_same o
 have htext:=fun W=>Lib.hid (zBU (bodyO o) (by omega) W)
 have htl:(textE (bodyO o)).length≤400010:=by have:=zAT (bodyO o).length;unfold textE;rw [List.length_append];omega
 have hsz:(Tryz.prog.info? 68).map (·.size)=some (objC o (.slice A1 o.ents.length k1) (.slice A2 o.pars.length k2)).length:=by rw [zAy ho];exact szObj
 clear hv ho hs hv0 hO hbl
 cases hM:mayB o with
 | false=>
   rw [hM] at hmay
   have hf:Hid (r=_):=hr.out.trans (zDy (hem hM))
   clear hr hem hew hbody htext hM hsz hsame
   generalize (objC o (.slice A1 o.ents.length k1) (.slice A2 o.pars.length k2)).toArray=cs at *
   go_enter Tryz.func45,Tryz.ntmps45
   go_wp2_with (first
    | ((with_reducible refine hmay.out.mono ?_);rintro e w1 ⟨rfl,hb1⟩))
   go_ret2
   exact ⟨by rw [hf.out];rfl,bthen b0 b0.size hb1⟩
 | true=>
   rw [hM] at hmay
   rw [hsame hM] at hbody
   have hew:=Lib.hid (hew.out hM)
   clear hem hM hsame
   generalize textE (bodyO o)=TX at *
   generalize bodyO o=BD at *
   have n1 : ¬ 9223372036854775807<1+TX.length:=by omega
   have n2 : ¬ 9223372036854775807<TX.length+1:=by omega
   go_enter Tryz.func45,Tryz.ntmps45
   go_upto_region 4 with (first
    | ((with_reducible refine hmay.out.mono ?_);rintro e w1 ⟨rfl,hb1⟩))
   have hE1:=hE0.below hb1
   clear hE0 hmay q0 hb1 b0 hW0
   obtain ⟨g,hg⟩ : ∃ g,w.heap.size=g:=⟨_,rfl⟩
   simp only [hg] at hbody hE1 ⊢
   go_cut [5] (fun s5 wx=>s5 = .string (B (byteK o.kind::TX))∧Below w.heap.size w wx)
   case first=>
    refine zAe (C:=EncC w g o (.slice A1 o.ents.length k1) (.slice A2 o.pars.length k2)) (by kernel_rfl) (by kernel_rfl) hE1.drew ?_
    repeat
     first
      | ((with_reducible refine zAm ?_ ?_)
         ·(go_simp;done)
         apply Exists.intro
         refine ⟨fun W hW=>?_,?_⟩
         ·first
           | exact zAB _ _ rfl g 0 rfl (objC o (.slice A1 o.ents.length k1) (.slice A2 o.pars.length k2)) _ hW.obj.whole Tryz.underlying68 rfl hsz rfl
           | (have f2:=hW.obj.kind
              go_simp
              first
               | rfl
               | (go_at_call 69;with_reducible exact keepEnc (hone _).out hW)
               | (go_at_call 71;with_reducible exact keepEnc (hbody _ hW).out hW)
               | (go_at_call 70;with_reducible exact keepEnc (htext _).out hW))
         simp only [Act.put,zA,zB,zC])
      | ((with_reducible refine zAj ?_ ?_)
         ·(first | rfl | (go_simp;done))
         simp only [Act.put,zA,zB,zC])
    with_reducible refine wpQuiet_nil ?_
    intro w5 hW5
    go_wp2
    go_meet
    case rel=>exact ⟨rfl,hW5.bel⟩
   obtain ⟨rfl,hbx⟩:=hcut
   clear hbody htext hE1 n1 n2 hsz hone
   generalize hn:byteK o.kind::TX=TT at *
   by_cases h4:TT.length≤4096
   ·have i4 : ¬ (4096:Int)<(TT.length:Int):=by omega
    have hf:Hid (r=_):=hr.out.trans (encD_some (t:=TT) (by rw [hew.out,if_pos h4]))
    clear hr hew h4 hn
    go_wp2
    all_goals try (exfalso;omega)
    go_ret2
    exact ⟨by rw [hf.out];rfl,by first | exact hbx | (rw [←hg];exact hbx)⟩
   ·have i4:(4096:Int)<(TT.length:Int):=by omega
    have hf:Hid (r=_):=hr.out.trans (zDy (by rw [hew.out,if_neg h4]))
    clear hr hew h4 hn
    go_wp2
    all_goals try (exfalso;omega)
    go_ret2
    exact ⟨by rw [hf.out];rfl,by first | exact hbx | (rw [←hg];exact hbx)⟩
end
end Go.Proofs.YtbcbmjdmlcldjaaGreatDoor
