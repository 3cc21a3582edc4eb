/- Texts of this claim, laid together: ObjN, Varint, ObjA, ObjB, ObjE, ObjM, ObjR, Bldr, ObjY, ObjZ, ObjC, Varint2, ObjK, ObjKn, RdW, Take, RdX, LzBP, RdL, RdM. -/
import Derived.Test.YtbhdfaadedlcfaaGreatDoorMd
import Derived.Deep.DeepCutAuto
import Derived.BigQuiet
import Derived.Lib.Hide
import Derived.Lib.BufferWrite
namespace Go.Proofs.YtbhdfaadedlcfaaGreatDoor
open Go.RowKit
theorem idx_mem (c:UInt8) : ∀ s:Txt,(c ∉ s∧Lib.indexByte s c = -1)∨(c∈s∧0≤Lib.indexByte s c)
 | [] => .inl ⟨by simp,rfl⟩
 | x::r=>by
   by_cases hx:x=c
   ·exact .inr ⟨by simp [hx],by simp [Lib.indexByte,hx]⟩
   ·have hb:(x==c)=false:=by simpa using hx
    rcases idx_mem c r with ⟨h1,h2⟩ | ⟨h1,h2⟩
    ·exact .inl ⟨by simp [h1];exact fun e=>hx e.symm,by simp [Lib.indexByte,hb,h2]⟩
    ·refine .inr ⟨by simp [h1],?_⟩
     have hne:(Lib.indexByte r c == -1)=false:=by rw [beq_eq_false_iff_ne];omega
     simp only [Lib.indexByte,hb,hne]
     simp
     omega
theorem name_all {s:Txt} (h0:(0:UInt8) ∉ s) (h47:(47:UInt8) ∉ s):s.all (fun c => !(c==0) && !(c==47))=true:=by
 rw [List.all_eq_true]
 intro c hc
 have h1:c≠0:=fun e=>h0 (e▸hc)
 have h2:c≠47:=fun e=>h47 (e▸hc)
 simp [h1,h2]
theorem name_no {s:Txt} (h:(0:UInt8)∈s∨(47:UInt8)∈s):nameB s=false:=by
 unfold nameB
 rw [Bool.and_eq_false_iff]
 refine .inr (List.all_eq_false.2 ?_)
 rcases h with h | h
 ·exact ⟨0,h,by simp⟩
 ·exact ⟨47,h,by simp⟩
theorem zCM (s:Txt) (c:Int) (k:UInt8) (hk:c.toNat.toUInt8=k) (w:World):Calls Tryz.prog 134 #[.string (B s), .int .u8 c] w fun e w'=>e = .returned (.int .i64 (Lib.indexByte s k))∧w'=w:=by
 have:=Tryz.strings_IndexByte (B s) c w
 rw [hk,show (B s).data.toList=s by simp [B]] at this
 exact this
set_option maxRecDepth 100000 in
set_option maxHeartbeats 1000000 in
theorem name_calls (s:Txt) (w:World):Calls Tryz.prog 110 #[.string (B s)] w fun e w'=>e = .returned (.bool (nameB s))∧w'=w:=by
 obtain ⟨r,hr⟩ : ∃ r,Hid (r=nameB s):=⟨_,Lib.hid rfl⟩
 rw [←hr.out]
 have x0:=Lib.hid (zCM s 0 0 rfl w)
 have x47:=Lib.hid (zCM s 47 47 rfl w)
 by_cases hz:s=[]
 ·subst hz
  have hf:Hid (r=false):=hr
  clear x0 x47
  go_enter Tryz.func110,Tryz.ntmps110
  go_wp2
  go_ret
  exact ⟨by rw [hf.out];rfl,rfl⟩
 ·have hb0:List.isEmpty s=false:=by
   cases s with
   | nil=>exact absurd rfl hz
   | cons _ _=>rfl
  have h1:1≤s.length:=List.length_pos_iff.2 hz
  by_cases h40:s.length≤40
  ·have i40:(s.length:Int)≤40:=by omega
   rcases idx_mem 0 s with ⟨m0,e0⟩ | ⟨m0,e0⟩
   ·rw [e0] at x0
    rcases idx_mem 47 s with ⟨m7,e7⟩ | ⟨m7,e7⟩
    ·rw [e7] at x47
     have hf:Hid (r=true):=by show r=true;rw [hr.out];unfold nameB;rw [name_all m0 m7];simp [h1,h40]
     clear e0 e7 m0 m7 hr h1 h40
     go_enter Tryz.func110,Tryz.ntmps110
     go_wp2_with (first
      | ((with_reducible refine x0.out.mono ?_);rintro e w1 ⟨rfl,rfl⟩)
      | ((with_reducible refine x47.out.mono ?_);rintro e w1 ⟨rfl,rfl⟩))
     go_ret
     exact ⟨by rw [hf.out];rfl,rfl⟩
    ·have hf:Hid (r=false):=by show r=false;rw [hr.out];exact name_no (.inr m7)
     have e7' : ¬ Lib.indexByte s 47<0:=by omega
     generalize Lib.indexByte s 47=q at *
     clear e0 e7 m0 m7 hr h1 h40
     go_enter Tryz.func110,Tryz.ntmps110
     go_wp2_with (first
      | ((with_reducible refine x0.out.mono ?_);rintro e w1 ⟨rfl,rfl⟩)
      | ((with_reducible refine x47.out.mono ?_);rintro e w1 ⟨rfl,rfl⟩))
     go_ret
     exact ⟨by rw [hf.out];simp [e7'],rfl⟩
   ·have hf:Hid (r=false):=by show r=false;rw [hr.out];exact name_no (.inl m0)
    have e0' : ¬ Lib.indexByte s 0<0:=by omega
    generalize Lib.indexByte s 0=q at *
    clear e0 m0 hr h1 h40 x47
    go_enter Tryz.func110,Tryz.ntmps110
    go_wp2_with (first
     | ((with_reducible refine x0.out.mono ?_);rintro e w1 ⟨rfl,rfl⟩))
    go_ret
    exact ⟨by rw [hf.out];rfl,rfl⟩
  ·have i40 : ¬ (s.length:Int)≤40:=by omega
   have hf:Hid (r=false):=by show r=false;rw [hr.out];unfold nameB;simp [h40]
   clear x0 x47 hr h1 h40
   go_enter Tryz.func110,Tryz.ntmps110
   go_wp2
   go_ret
   exact ⟨by rw [hf.out];rfl,rfl⟩
theorem all_take {s:Txt} {p:UInt8→Bool} {k:Nat} {c:UInt8} (h:(s.take k).all p=true) (hc:s[k]?=some c) (hp:p c=true):(s.take (k+1)).all p=true:=by
 rw [List.take_add_one,List.all_append,h,hc]
 simp [hp]
set_option maxRecDepth 100000 in
set_option maxHeartbeats 1000000 in
theorem zDS (s:Txt) (hs:s.length≤9223372036854775807) (w:World):Calls Tryz.prog 93 #[.string (B s)] w fun e w'=>e = .returned (.bool (nameB s))∧w'=w:=by
 obtain ⟨b,hb⟩ : ∃ b,Hid (b=nameB s):=⟨_,Lib.hid rfl⟩
 rw [←hb.out]
 go_enter Tryz.func93,Tryz.ntmps93
 go_wp2
 go_loop [3] (fun vi => ∃ k:Nat,vi = .int .i64 k∧k≤s.length∧Hid ((s.take k).all (fun c => !(c==0) && !(c==47))=true)) (fun vi=>s.length-(intOf vi).toNat)
 case atStart=>exact ⟨0,rfl,by omega,Lib.hid rfl⟩
 case round=>
  obtain ⟨k,rfl,hk,hall⟩:=hrel
  by_cases hlt:k<s.length
  ·have hki:(k:Int)<(s.length:Int):=by omega
   obtain ⟨c,hc⟩ : ∃ c,s[k]=c:=⟨_,rfl⟩
   have hck:s[k]?=some c:=by rw [List.getElem?_eq_getElem hlt,hc]
   have hm:=List.mem_of_getElem? hck
   obtain ⟨n,hn⟩ : ∃ n,c.toNat=n:=⟨_,rfl⟩
   by_cases g1:n=0
   ·have e1:c=0:=UInt8.toNat_inj.1 (by rw [hn,g1];rfl)
    have hf:Hid (b=false):=by show b=false;rw [hb.out];exact name_no (.inl (e1▸hm))
    subst g1
    clear hb hall hck hm e1
    go_wp2
    go_ret
    exact ⟨by rw [hf.out];rfl,rfl⟩
   ·have i1:((n:Int)==0)=false:=by rw [beq_eq_false_iff_ne];omega
    have e1:c≠0:=fun e=>g1 (by rw [←hn,e];rfl)
    by_cases g2:n=47
    ·have e2:c=47:=UInt8.toNat_inj.1 (by rw [hn,g2];rfl)
     have hf:Hid (b=false):=by show b=false;rw [hb.out];exact name_no (.inr (e2▸hm))
     subst g2
     clear hb hall hck hm e2 e1
     go_wp2
     go_ret
     exact ⟨by rw [hf.out];rfl,rfl⟩
    ·have i2:((n:Int)==47)=false:=by rw [beq_eq_false_iff_ne];omega
     have e2:c≠47:=fun e=>g2 (by rw [←hn,e];rfl)
     have hst:=Lib.hid (all_take hall.out hck (by simp [e1,e2]))
     clear hall hck hm e1 e2 g1 g2
     go_wp2
     go_round
     case rel=>exact ⟨k+1,by go_num,by omega,hst⟩
     case measure=>simp [intOf];omega
  ·have hki : ¬ (k:Int)<(s.length:Int):=by omega
   have hf:Hid (b=(decide (1≤s.length)&&decide (s.length≤40))):=by
    show b=_
    have:=hall.out
    rw [List.take_of_length_le (by omega)] at this
    rw [hb.out]
    unfold nameB
    rw [this,Bool.and_true]
   clear hb hall
   by_cases h1:1≤s.length
   ·have i1:(1:Int)≤(s.length:Int):=by omega
    by_cases h40:s.length≤40
    ·have i40:(s.length:Int)≤40:=by omega
     go_wp2
     go_ret
     exact ⟨by rw [hf.out];simp [h1,h40],rfl⟩
    ·have i40 : ¬ (s.length:Int)≤40:=by omega
     go_wp2
     go_ret
     exact ⟨by rw [hf.out];simp [h1,h40],rfl⟩
   ·have i1 : ¬ (1:Int)≤(s.length:Int):=by omega
    go_wp2
    go_ret
    exact ⟨by rw [hf.out];simp [h1],rfl⟩
def getPair : Option (Nat×Nat)→Value
 | some (n,k) => .tuple #[.int .u64 n, .int .i64 k]
 | none => .tuple #[.int .u64 0, .int .i64 0]
def getTriple (l:List UInt8):Option (Nat×Nat)→Value
 | some (n,k) => .tuple #[.int .u64 n, .string (B (l.drop k)), .int .i64 0]
 | none => .tuple #[.int .u64 0, .string (B []), .int .i64 2]
set_option maxRecDepth 100000 in
set_option maxHeartbeats 400000 in
theorem zCU (n:Nat) (hn:n≤18446744073709551615) (w:World) :
 Calls Tryz.prog 94 #[.int .u64 n] w fun e w'=>e = .returned (.string (B (put n)))∧Below w.heap.size w w':=by
 have hc:=fun (wx:World) (x:Int)=>Tryz.str_of_one wx x
 go_enter Tryz.func94,Tryz.ntmps94
 go_wp2
 go_loopw [0,3] (fun m s wr => ∃ (f k:Nat) (acc:List UInt8),m = .int .u64 k∧s = .string (B acc)∧Hid (acc++putF f k=put n)∧acc.length≤9∧acc.length+f≤9∧Hid (Fits f k)∧Below w.heap.size w wr) (fun m _ _=>(intOf m).toNat)
 case atStart=>exact ⟨9,n,[],rfl,rfl,rfl,by simp,by simp,Lib.hid (Fits.of64 hn),Below.refl _ _⟩
 case round=>
  obtain ⟨f,k,acc,rfl,rfl,h1,h3,h4,h2,hb⟩:=hrel
  have hle:=h2.out.le (by omega)
  go_wp2
  ·have hk:128≤k:=by omega
   obtain ⟨f,rfl⟩:=h2.out.pos hk
   go_roundw
   case rel=>exact ⟨f,k / 128,acc++[UInt8.ofNat (128+k%128)],by go_num,by rw [ofNat_add_u8];rfl,Lib.hid (by rw [←h1.out,putF_big f k hk];simp),by simp;omega,by simp;omega,Lib.hid h2.out.next,hb.alloc hb.size _⟩
   case measure=>simp [intOf];omega
  ·have hk:k<128:=by omega
   go_ret
   refine ⟨?_,hb.alloc hb.size _⟩
   rw [←h1.out,zEp f k hk]
   rfl
set_option maxRecDepth 100000 in
set_option maxHeartbeats 800000 in
theorem zCP (l:List UInt8) (hl:l.length≤4611686018427387904) (w:World) :
 Calls Tryz.prog 122 #[.string (B l)] w fun e w'=>e = .returned (getPair (get l))∧w'=w:=by
 go_enter Tryz.func122,Tryz.ntmps122
 go_wp2
 go_loop [4] (fun e => ∃ k:Nat,e = .int .i64 k∧k≤10∧k≤l.length∧Hid (k≤lead l)) (fun e=>10-(intOf e).toNat)
 case atStart=>exact ⟨0,rfl,by omega,by omega,Nat.zero_le _⟩
 case round=>
  obtain ⟨e,rfl,h1,h2,h3⟩:=hrel
  by_cases ha:e<l.length
  ·by_cases hb:e<10
   ·obtain ⟨c,hc⟩ : ∃ c,l[e]=c:=⟨_,rfl⟩
    by_cases hd:128≤c.toNat
    ·have hn:Hid (e+1≤lead l):=lead_next h3.out ha (by rw [hc];exact hd)
     go_wp2
     go_round
     case rel=>exact ⟨e+1,by go_num,by omega,by omega,hn⟩
     case measure=>simp [intOf];omega
    ·have hle:Hid (lead l=e):=zDu h3.out ha (by rw [hc];omega)
     by_cases h9:e=9∧1<c.toNat
     ·obtain ⟨rfl,h9'⟩:=h9
      have hfin:Hid (get l=none):=get_nine ha hle.out (by rw [hc];exact h9')
      go_wp2
      all_goals first | (exfalso;omega) | (go_ret2;exact ⟨by rw [hfin.out];rfl,rfl⟩)
     ·by_cases h0:0<e∧c.toNat=0
      ·obtain ⟨h0',h0c⟩:=h0
       have hfin:Hid (get l=none):=get_zero ha hle.out h0' (by rw [hc];exact h0c)
       have h0d:((c.toNat:Int)==0)=true:=by simp [h0c]
       have h9' : ¬ 1<c.toNat:=by omega
       have h0c':=Lib.hid h0c
       clear h9 h0c
       by_cases he9:e=9
       ·subst he9
        go_wp2
        all_goals first | (exfalso;omega) | (go_ret2;exact ⟨by rw [hfin.out];rfl,rfl⟩)
       ·go_wp2
        all_goals first | (exfalso;omega) | (go_ret2;exact ⟨by rw [hfin.out];rfl,rfl⟩)
      ·obtain ⟨V,hfin0,hV00,hVs0,hVb⟩:=get_seq ha hle.out hb (fun h=>by rw [hc];omega) (fun h=>by rw [hc];omega)
       have hfin:=Lib.hid hfin0
       have hV0:=Lib.hid hV00
       have hVs:=Lib.hid hVs0
       clear hfin0 hV00 hVs0
       have hVb':=Lib.hid hVb
       clear hVb
       have hcz:0<e→((c.toNat:Int)==0)=false:=by intro h;simp;omega
       by_cases he9:e=9
       ·subst he9
        have hcz':=hcz (by omega)
        have hc1 : ¬ 1<c.toNat:=by omega
        clear hcz
        go_wp2
        all_goals first | (exfalso;omega) | (exfalso;simp at ha;done) | (exfalso;rename_i hnil _;subst hnil;simp at ha;done) | skip
        all_goals
         go_loop [5,6] (fun n i => ∃ j:Nat,j≤9+1∧i = .int .i64 ((j:Int)-1)∧n = .int .u64 (V j)) (fun _ i=>(intOf i+1).toNat)
         case atStart=>exact ⟨9+1,by omega,by go_num,by rw [hV0.out];rfl⟩
         case round=>
          obtain ⟨j,hj,rfl,rfl⟩:=hrel
          cases j with
          | zero=>
            go_wp2
            all_goals first | (exfalso;omega) | skip
            go_ret2
            exact ⟨by rw [hfin.out];rfl,rfl⟩
          | succ m=>
            have hm:m<l.length:=by omega
            have hs:=hVs.out m hm (by omega)
            have hb1:=hVb'.out m
            have hji:((m+1:Nat):Int)-1=(m:Int):=by omega
            have hx:128*(V (m+1):Int)+((l[m]).toNat:Int)%128≤18446744073709551615:=by omega
            have hs':Hid ((V m:Int)=128*(V (m+1):Int)+((l[m]).toNat:Int)%128):=by rw [hs];show (_:Int)=_;omega
            clear hs
            rw [hji]
            generalize V (m+1)=N at *
            go_wp2
            all_goals first | (exfalso;omega) | skip
            go_round
            case rel=>exact ⟨m,by omega,by go_num,by rw [hs'.out]⟩
            case measure=>simp [intOf]
       ·by_cases he0:e=0
        ·subst he0
         clear hcz
         go_wp2
         all_goals first | (exfalso;omega) | (exfalso;simp at ha;done) | (exfalso;rename_i hnil _;subst hnil;simp at ha;done) | skip
         all_goals
          go_loop [5,6] (fun n i => ∃ j:Nat,j≤0+1∧i = .int .i64 ((j:Int)-1)∧n = .int .u64 (V j)) (fun _ i=>(intOf i+1).toNat)
          case atStart=>exact ⟨0+1,by omega,by go_num,by rw [hV0.out];rfl⟩
          case round=>
           obtain ⟨j,hj,rfl,rfl⟩:=hrel
           cases j with
           | zero=>
             go_wp2
             all_goals first | (exfalso;omega) | skip
             go_ret2
             exact ⟨by rw [hfin.out];rfl,rfl⟩
           | succ m=>
             have hm:m<l.length:=by omega
             have hs:=hVs.out m hm (by omega)
             have hb1:=hVb'.out m
             have hji:((m+1:Nat):Int)-1=(m:Int):=by omega
             have hx:128*(V (m+1):Int)+((l[m]).toNat:Int)%128≤18446744073709551615:=by omega
             have hs':Hid ((V m:Int)=128*(V (m+1):Int)+((l[m]).toNat:Int)%128):=by rw [hs];show (_:Int)=_;omega
             clear hs
             rw [hji]
             generalize V (m+1)=N at *
             go_wp2
             all_goals first | (exfalso;omega) | skip
             go_round
             case rel=>exact ⟨m,by omega,by go_num,by rw [hs'.out]⟩
             case measure=>simp [intOf]
        ·have hcz':=hcz (by omega)
         clear hcz
         go_wp2
         all_goals first | (exfalso;omega) | (exfalso;simp at ha;done) | (exfalso;rename_i hnil _;subst hnil;simp at ha;done) | skip
         all_goals
          go_loop [5,6] (fun n i => ∃ j:Nat,j≤e+1∧i = .int .i64 ((j:Int)-1)∧n = .int .u64 (V j)) (fun _ i=>(intOf i+1).toNat)
          case atStart=>exact ⟨e+1,by omega,by go_num,by rw [hV0.out];rfl⟩
          case round=>
           obtain ⟨j,hj,rfl,rfl⟩:=hrel
           cases j with
           | zero=>
             go_wp2
             all_goals first | (exfalso;omega) | skip
             go_ret2
             exact ⟨by rw [hfin.out];rfl,rfl⟩
           | succ m=>
             have hm:m<l.length:=by omega
             have hs:=hVs.out m hm (by omega)
             have hb1:=hVb'.out m
             have hji:((m+1:Nat):Int)-1=(m:Int):=by omega
             have hx:128*(V (m+1):Int)+((l[m]).toNat:Int)%128≤18446744073709551615:=by omega
             have hs':Hid ((V m:Int)=128*(V (m+1):Int)+((l[m]).toNat:Int)%128):=by rw [hs];show (_:Int)=_;omega
             clear hs
             rw [hji]
             generalize V (m+1)=N at *
             go_wp2
             all_goals first | (exfalso;omega) | skip
             go_round
             case rel=>exact ⟨m,by omega,by go_num,by rw [hs'.out]⟩
             case measure=>simp [intOf]
   ·have hfin:Hid (get l=none):=get_ten (by have:=h3.out;omega)
    have hb':e=10:=by omega
    subst hb'
    go_wp2
    all_goals first | (exfalso;omega) | (go_ret2;exact ⟨by rw [hfin.out];rfl,rfl⟩)
  ·have hfin:Hid (get l=none):=get_end (by have:=h3.out;omega)
   go_wp2
   all_goals first | (exfalso;omega) | (go_ret2;exact ⟨by rw [hfin.out];rfl,rfl⟩)
set_option maxRecDepth 100000 in
set_option maxHeartbeats 1000000 in
theorem one_calls (n:Int) (w:World):Calls Tryz.prog 62 #[.int .i64 n] w fun e w'=>e = .returned (.string (B [byteK n]))∧Below w.heap.size w w':=by
 have hc:=fun (wx:World) (x:Int)=>Tryz.str_of_one wx x
 go_enter Tryz.func62,Tryz.ntmps62
 go_wp2
 go_ret
 exact ⟨rfl,(Below.refl _ _).alloc (Nat.le_refl _) _⟩
set_option maxRecDepth 100000 in
set_option maxHeartbeats 1000000 in
theorem zCB (l:Txt) (hl:l.length=32) (w:World):Calls Tryz.prog 95 #[.agg (u8s l)] w fun e w'=>e = .returned (.string (B l))∧Below w.heap.size w w':=by
 have hc:=str_of_blk (w.alloc (.cells (u8s l) 46)) (Blk.new w _ (u8s l))
 rw [hl] at hc
 go_enter Tryz.func95,Tryz.ntmps95
 go_wp2
 go_ret
 exact ⟨rfl,(Below.refl _ _).alloc (Nat.le_refl _) _⟩
set_option maxRecDepth 100000 in
set_option maxHeartbeats 1000000 in
theorem kind_calls (n:Int) (w:World):Calls Tryz.prog 109 #[.int .i64 n] w fun e w'=>e = .returned (.bool (kindB n))∧w'=w:=by
 obtain ⟨b,hb⟩ : ∃ b,Hid (b=kindB n):=⟨_,Lib.hid rfl⟩
 rw [←hb.out]
 have hb2:=hb.out
 unfold kindB at hb2
 by_cases h1:1≤n
 ·by_cases h4:n≤4
  ·have hf:Hid (b=true):=by show b=true;rw [hb2];simp [h1,h4]
   clear hb hb2
   go_enter Tryz.func109,Tryz.ntmps109
   go_wp2
   go_ret
   exact ⟨by rw [hf.out];simp [h4],rfl⟩
  ·have hf:Hid (b=false):=by show b=false;rw [hb2];simp [h4]
   clear hb hb2
   go_enter Tryz.func109,Tryz.ntmps109
   go_wp2
   go_ret
   exact ⟨by rw [hf.out];simp [h4],rfl⟩
 ·have hf:Hid (b=false):=by show b=false;rw [hb2];simp [h1]
  clear hb hb2
  go_enter Tryz.func109,Tryz.ntmps109
  go_wp2
  go_ret
  exact ⟨by rw [hf.out];simp [h1],rfl⟩
set_option maxRecDepth 100000 in
set_option maxHeartbeats 1000000 in
theorem zBP (s:Txt) (hs:s.length≤1000000000) (w:World):Calls Tryz.prog 63 #[.string (B s)] w fun e w'=>e = .returned (.string (B (textE s)))∧Below w.heap.size w w':=by
 have hp:=Lib.hid (zCU s.length (by omega) w)
 have hpl:=zAQ s.length
 have hte:Hid (textE s=put s.length++s):=Lib.hid rfl
 generalize put s.length=P at *
 have hn : ¬ 9223372036854775807<P.length+s.length:=by omega
 go_enter Tryz.func63,Tryz.ntmps63
 go_wp2_with (first
  | ((with_reducible refine hp.out.mono ?_);rintro e w1 ⟨rfl,hb1⟩))
 go_ret
 exact ⟨by rw [hte.out];rfl,hb1⟩
section
attribute [local go_sem ↓] ldvI_eq
theorem boxed {w:World} {ve vp:Value} {o:ObjL} (ho:ObjOk o):ObjB (w.alloc (.cells (objC o ve vp).toArray 59)) w.heap.size o ve vp:=⟨Blk.new w _ _,ho.tree,ho.target⟩
theorem int_eq0 (n:Nat):((n:Int)==0)=(n==0):=by
 rw [Bool.eq_iff_iff,beq_iff_eq,beq_iff_eq];omega
set_option maxRecDepth 100000 in
set_option maxHeartbeats 4000000 in
theorem alone_calls (o:ObjL) (ho:ObjOk o) (A1 A2:Option Addr) (k1 k2:Nat) (w:World):Calls Tryz.prog 107 #[.agg (objC o (.slice A1 o.ents.length k1) (.slice A2 o.pars.length k2)).toArray] w fun e w'=>e = .returned (.bool (aloneB o))∧Below w.heap.size w w':=by
 have hO:=boxed (w:=w) (ve := .slice A1 o.ents.length k1) (vp := .slice A2 o.pars.length k2) ho
 have b0:Below w.heap.size w (w.alloc (.cells (objC o (.slice A1 o.ents.length k1) (.slice A2 o.pars.length k2)).toArray 59)):=(Below.refl _ _).alloc (Nat.le_refl _) _
 generalize (objC o (.slice A1 o.ents.length k1) (.slice A2 o.pars.length k2)).toArray=cs at *
 obtain ⟨W0,hW0⟩ : ∃ W0,w.alloc (.cells cs 59)=W0:=⟨_,rfl⟩
 rw [hW0] at hO b0
 have c0:=hO.kind
 have c1:=hO.data
 have c2:=hO.ents
 have c35:=hO.pars
 have c36:=hO.time
 have c37:=hO.text
 have c70:=hO.of_
 have c71:=hO.name
 have q1:=zAb hO.tree ho.tree
 have q2:=zAb hO.target ho.target
 have z1:=fun W=>zAN o.tree ho.tree W
 have z2:=fun W=>zAN o.target ho.target W
 have e1:Hid (commitN o=(decide (o.tree=List.replicate 32 0)&&decide ((o.pars.length:Int)=0)&&decide ((o.time:Int)=0)&&o.text.isEmpty)):=by
  show commitN o=_
  rw [show decide ((o.pars.length:Int)=0)=(o.pars.length==0) from by rw [Bool.eq_iff_iff,decide_eq_true_iff,beq_iff_eq];omega,show decide ((o.time:Int)=0)=(o.time==0) from by rw [Bool.eq_iff_iff,decide_eq_true_iff,beq_iff_eq];omega]
  rfl
 have e2:Hid (tagN o=(decide (o.target=List.replicate 32 0)&&decide (o.of_=0)&&o.name.isEmpty)):=by
  show tagN o=_
  rw [show decide (o.of_=0)=(o.of_==0) from by rw [Bool.eq_iff_iff,decide_eq_true_iff,beq_iff_eq]]
  rfl
 have e3:List.isEmpty o.data=blobN o:=rfl
 have e4:((o.ents.length:Int)==0)=treeN o:=by
  unfold treeN
  exact int_eq0 _
 have ht:o.time<4294967296:=ho.time
 obtain ⟨r,hr⟩ : ∃ r,Hid (r=aloneB o):=⟨_,Lib.hid rfl⟩
 rw [←hr.out]
 have hr2:=hr.out
 unfold aloneB at hr2
 replace hr2:=Lib.hid hr2
 clear hr hO ho
 generalize decide (o.tree=List.replicate 32 0)=T at *
 generalize decide (o.target=List.replicate 32 0)=G at *
 generalize commitN o=C at *
 generalize tagN o=D at *
 generalize blobN o=X at *
 generalize treeN o=Y at *
 go_enter Tryz.func107,Tryz.ntmps107
 go_upto_region 3 with fail
 go_cut [5] (fun s5 wx=>s5 = .bool C∧wx=W0)
 case first=>
  go_wp2
  all_goals
   go_meet
   case rel=>
    refine ⟨?_,rfl⟩
    rw [e1.out]
    clear c0 c1 c2 c35 c36 c37 c70 c71 q1 q2 z1 z2 e1 e2 hr2 e3 e4 b0 hW0
    simp_all
 case rest=>
  obtain ⟨rfl,rfl⟩:=hcut
  clear e1 c35 c36 c37 z1 q1
  go_upto_region 4 with fail
  go_cut [6] (fun s6 wx=>s6 = .bool D∧wx=wc)
  case first=>
   go_wp2
   all_goals
    go_meet
    case rel=>
     refine ⟨?_,rfl⟩
     rw [e2.out]
     clear c0 c1 c2 c70 c71 q2 z2 e2 hr2 e3 e4 b0 hW0
     simp_all
  case rest=>
   obtain ⟨rfl,rfl⟩:=hcut
   clear e2 c70 c71 z2 q2
   clear hW0
   go_wp2
   all_goals
    go_ret
    refine ⟨?_,b0⟩
    rw [hr2.out]
    simp_all
end
section
theorem sizedEnt {e:EntL} (h:EntOk e):(Tryz.prog.info? 132).map (·.size)=some (entC e).length:=by rw [zBw h];exact szEnt
theorem zDZ (r:EntL) : ∀ u∈entC r,u.oneCell'=true:=by
 intro u hu
 simp only [entC,List.mem_cons,u8s,List.toList_toArray,List.mem_map] at hu
 rcases hu with rfl | rfl | ⟨c,_,rfl⟩<;>rfl
theorem zBW {W:World} {ops:Array Oper} {rest:List Oper} {o:Oper} {a:Act} {Q:Exit→Act→World→Prop} (hgd:o.guard=none) (x y:Operand) (ho:o.op = .store 132 x y)
 (r:EntL) (hr:EntOk r) (zs:Array Value) (hx:a.eval x = .pointer (some ⟨W.heap.size,0,none⟩)) (hy:a.eval y = .agg (entC r).toArray) (hz:zs.size=34)
 (h : ∀ W1,Blk W1 W.heap.size 132 (entC r).toArray→Below W.heap.size W W1→wpList Tryz.prog ops Q rest (a.put o.dst undef) W1):wpList Tryz.prog ops Q (o::rest) a (W.alloc (.cells zs 132)):=
 zBk hgd _ x y ho (entC r).toArray zs hx hy (by rw [List.size_toArray];exact sizedEnt hr) (hz.trans (by simp [zBw hr])) (Array.all_eq_true_iff_forall_mem.2 fun u hu=>zDZ r u (by simpa using hu)) h
theorem zB7 {l:List EntL} {i:Nat} (hi:i<l.length) (h:entAt l i=false):entsB l=false:=by
 unfold entsB
 rw [Bool.and_eq_false_iff]
 exact .inl (List.all_eq_false.2 ⟨i,by simpa using hi,by rw [h];simp⟩)
theorem ents_all {l:List EntL} (h:(List.range l.length).all (entAt l)=true):entsB l=decide (l.length≤64):=by unfold entsB;rw [h,Bool.true_and]
theorem zDB {p:Nat→Bool} {k:Nat} (h:(List.range k).all p=true) (hk:p k=true):(List.range (k+1)).all p=true:=by
 rw [List.range_succ,List.all_append,h];simp [hk]
theorem zEU {l:List EntL} {k:Nat} {x:EntL} (hx:l[k]?=some x) (h:entB x=false):entAt l k=false:=by unfold entAt;rw [hx];simp only [h];rfl
theorem entAt_zero {l:List EntL} {x:EntL} (hx:l[0]?=some x) (h:entB x=true):entAt l 0=true:=by unfold entAt;rw [hx];simp only [h];rfl
theorem entAt_succ {l:List EntL} {k:Nat} {x p:EntL} (hx:l[k+1]?=some x) (hp:l[k]?=some p) (h:entB x=true):entAt l (k+1)=Op.bytesLess p.name x.name:=by unfold entAt;rw [hx];simp only [h,hp,Bool.true_and]
theorem zAz {w:World} {g o:Nat} {r:EntL} (h:w.rangeAt g o (entC r)):w.cell? ⟨g,o,none⟩=some (.string (B r.name))∧w.cell? ⟨g,o+1,none⟩=some (.int .i64 r.kind):=⟨h 0 _ rfl,h 1 _ rfl⟩
theorem zAD {w:World} {g:Nat} {r:EntL} (h:Blk w g 132 (entC r).toArray):w.rangeAt g 0 (entC r):=by
 have:=zAi h
 rwa [List.toList_toArray] at this
theorem range_entId {w:World} {g o:Nat} {r:EntL} (h:w.rangeAt g o (entC r)):w.rangeAt g (o+2) (u8s r.id).toList:=fun j u hu=>by
 have:=h (j+2) u (by simpa [entC] using hu)
 rwa [show o+(j+2)=o+2+j from by omega] at this
theorem two_ways (p x:Txt):(Op.bytesLess p x=true∧Op.bytesLess x p=false∧(p==x)=false∧(x==p)=false)∨(Op.bytesLess p x=false∧Op.bytesLess x p=true∧(p==x)=false∧(x==p)=false)∨(Op.bytesLess p x=false∧Op.bytesLess x p=false∧(p==x)=true∧(x==p)=true):=by
 cases h:Op.bytesLess p x with
 | true=>
   have h1:=less_ne h
   exact .inl ⟨rfl,zCl h,h1,by rw [beq_eq_false_iff_ne] at h1 ⊢;exact fun e=>h1 e.symm⟩
 | false=>
   by_cases e:p=x
   ·subst e
    exact .inr (.inr ⟨rfl,h,by simp,by simp⟩)
   ·have h2:=zBg h e
    have h1:=less_ne h2
    exact .inr (.inl ⟨rfl,h2,by rw [beq_eq_false_iff_ne];exact e,h1⟩)
structure EntQ (w:World) (g gs os:Nat) (l:List EntL) (r:EntL) (w':World):Prop where
 blk:Blk w' g 132 (entC r).toArray
 at_ : ∀ i x,l[i]?=some x→w'.rangeAt gs (os+i*34) (entC x)
 gs_:gs<w'.heap.size
 bel:Below w.heap.size w w'
section
variable {w:World} {g gs os:Nat} {l:List EntL} {r:EntL} {w':World}
theorem EntQ.drew (h:EntQ w g gs os l r w'):EntQ w g gs os l r w'.drew:=⟨h.blk.drew,h.at_,h.gs_,h.bel.drew⟩
theorem EntQ.name_ (h:EntQ w g gs os l r w'):w'.cell? ⟨g,0,none⟩=some (.string (B r.name)):=(zAz (zAD h.blk)).1
theorem EntQ.kind_ (h:EntQ w g gs os l r w') {n:Int} (hn:r.kind=n):w'.cell? ⟨g,1,none⟩=some (.int .i64 n):=hn▸(zAz (zAD h.blk)).2
theorem keepE {f:FuncId} {args:Array Value} {v:Value} {w0:World} (h:Calls Tryz.prog f args w0 fun e w'=>e = .returned v∧w'=w0) (hS:EntQ w g gs os l r w0) :
 Calls Tryz.prog f args w0 fun e w'=>e = .returned v∧EntQ w g gs os l r w':=
 h.mono fun _ _ ⟨he,hw⟩=>⟨he,hw▸hS⟩
end
set_option maxRecDepth 100000 in
set_option maxHeartbeats 4000000 in
theorem entries_calls (l:List EntL) (hok : ∀ e∈l,EntOk e) (v:Value) (w:World) (hv:Ents w v l):Calls Tryz.prog 108 #[v] w fun e w'=>e = .returned (.bool (entsB l))∧Below w.heap.size w w':=by
 have hlen:=hv.len
 obtain ⟨A,cap,rfl,hcap1,hcap2,hat⟩:=hv
 have hat:=Lib.hid hat
 obtain ⟨r,hr⟩ : ∃ r,Hid (r=entsB l):=⟨_,Lib.hid rfl⟩
 rw [←hr.out]
 go_enter Tryz.func108,Tryz.ntmps108
 go_wp2
 go_loopw [7] (fun i wr => ∃ k:Nat,i = .int .i64 k∧k≤l.length∧Hid ((List.range k).all (entAt l)=true)∧Below w.heap.size w wr) (fun i _=>l.length-(intOf i).toNat)
 case atStart=>exact ⟨0,rfl,by omega,rfl,Below.refl _ _⟩
 case round=>
  obtain ⟨k,rfl,hk,hall,hbel⟩:=hrel
  by_cases hlt:k<l.length
  ·have hki:(k:Int)<(l.length:Int):=by omega
   obtain ⟨gs,os,rfl,hgs,hcell⟩:=hat.out (by omega)
   obtain ⟨x,hx⟩ : ∃ x,l[k]?=some x:=⟨_,List.getElem?_eq_getElem hlt⟩
   have hxok:EntOk x:=hok x (List.mem_of_getElem? hx)
   have hx0:=zAc (hcell k x hx) hgs hbel
   have hxh:=Lib.hid hx
   clear hx
   have hsz:=hbel.size
   go_wp2_with (first
    | (refine wpList_load_mid rfl 132 (.tmp 10) rfl gs (os+k*34) rfl (entC x) _ hx0 Tryz.underlying132 rfl (sizedEnt hxok) ?_)
    | (refine zBW rfl (.tmp 4) (.tmp 11) rfl x hxok _ rfl rfl rfl ?_;intro W1 hb1 hbl1))
   obtain ⟨g,hg⟩ : ∃ g,wr.heap.size=g:=⟨_,rfl⟩
   have hS:EntQ w g gs os l x W1:=by
    have h1:=bthen hbel hsz hbl1
    exact ⟨hg▸hb1,fun i y hy=>zAc (hcell i y hy) hgs h1,Nat.lt_of_lt_of_le hgs h1.size,h1⟩
   rw [hg]
   have hnm:=fun W=>name_calls x.name W
   have hx:=hxh
   clear hb1 hbl1 hx0 hg hbel hxh hat hcell
   cases bn:nameB x.name with
   | false=>
     rw [bn] at hnm
     have hf:Hid (r=false):=by show r=false;rw [hr.out];exact zB7 hlt (zEU hx.out (by unfold entB;rw [bn];rfl))
     clear hr hall bn
     refine zAd (C:=EntQ w g gs os l x) (by kernel_rfl) (by kernel_rfl) hS.drew ?_
     repeat
      first
       | ((with_reducible refine zAl ?_ ?_)
          ·(go_simp;done)
          apply Exists.intro
          refine ⟨fun W hW=>?_,?_⟩
          ·first
            | (have f1:=hW.name_
               go_simp
               first
                | rfl
                | (go_at_call 110;with_reducible exact keepE (hnm _) hW))
          simp only [Act.put,zA,zB,zC])
       | ((with_reducible refine zAh ?_ ?_)
          ·(first | rfl | (go_simp;done))
          simp only [Act.put,zA,zB,zC])
     with_reducible refine wpQuiet_nil ?_
     intro w5 hW5
     go_wp2
     go_ret
     exact ⟨by rw [hf.out];rfl,hW5.bel⟩
   | true=>
     rw [bn] at hnm
     by_cases hk12:x.kind=1∨x.kind=2
     ·have heb:entB x=true:=by
       unfold entB
       rw [bn]
       rcases hk12 with h | h<;>simp [h]
      clear bn
      rcases Nat.eq_zero_or_pos k with h0 | h0
      ·have hk0 : ¬ (0:Int)<(k:Int):=by omega
       have hk0d:decide ((0:Int)<(k:Int))=false:=by simpa using h0
       have hk0n:decide (0<k)=false:=by simp [h0]
       have hx00:l[0]?=some x:=by rw [←h0];exact hx.out
       have hok0:entAt l k=true:=by rw [h0];exact entAt_zero hx00 heb
       have hst:=Lib.hid (zDB hall.out hok0)
       clear hx00 hok0 h0 heb hr hall
       rcases hk12 with hkx | hkx
       ·have hkx:=Lib.hid hkx
        refine zAd (C:=EntQ w g gs os l x) (by kernel_rfl) (by kernel_rfl) hS.drew ?_
        repeat
         first
          | ((with_reducible refine zAl ?_ ?_)
             ·(go_simp;done)
             apply Exists.intro
             refine ⟨fun W hW=>?_,?_⟩
             ·first
               | (have f1:=hW.name_
                  have f3:=hW.kind_ hkx.out
                  go_simp
                  first
                   | rfl
                   | (go_at_call 110;with_reducible exact keepE (hnm _) hW))
             simp only [Act.put,zA,zB,zC])
          | ((with_reducible refine zAh ?_ ?_)
             ·(first | rfl | (go_simp;done))
             simp only [Act.put,zA,zB,zC])
        with_reducible refine wpQuiet_nil ?_
        intro w5 hW5
        clear hk0 hk0d hk0n
        go_wp2
        go_roundw
        case rel=>exact ⟨k+1,by go_num,by omega,hst,hW5.bel⟩
        case measure=>simp [intOf];omega
       ·have hkx:=Lib.hid hkx
        refine zAd (C:=EntQ w g gs os l x) (by kernel_rfl) (by kernel_rfl) hS.drew ?_
        repeat
         first
          | ((with_reducible refine zAl ?_ ?_)
             ·(go_simp;done)
             apply Exists.intro
             refine ⟨fun W hW=>?_,?_⟩
             ·first
               | (have f1:=hW.name_
                  have f3:=hW.kind_ hkx.out
                  go_simp
                  first
                   | rfl
                   | (go_at_call 110;with_reducible exact keepE (hnm _) hW))
             simp only [Act.put,zA,zB,zC])
          | ((with_reducible refine zAh ?_ ?_)
             ·(first | rfl | (go_simp;done))
             simp only [Act.put,zA,zB,zC])
        with_reducible refine wpQuiet_nil ?_
        intro w5 hW5
        clear hk0 hk0d hk0n
        go_wp2
        go_roundw
        case rel=>exact ⟨k+1,by go_num,by omega,hst,hW5.bel⟩
        case measure=>simp [intOf];omega
      ·obtain ⟨q,hq⟩ : ∃ q,l[k-1]?=some q:=⟨_,List.getElem?_eq_getElem (show k-1<l.length by omega)⟩
       have hk0:(0:Int)<(k:Int):=by omega
       have hat1:entAt l k=Op.bytesLess q.name x.name:=by
        obtain ⟨j,rfl⟩ : ∃ j,k=j+1:=⟨k-1,by omega⟩
        exact entAt_succ hx.out hq heb
       obtain ⟨u,s1,hu⟩ : ∃ u:Nat,IntKind.i64.wrap ((k:Int)-1)=(u:Int)∧u=k-1:=⟨k-1,by rw [IntWalk.i64_in _ (by omega)];omega,rfl⟩
       have s3:(u:Int)<(l.length:Int):=by omega
       have s4:u<l.length:=by omega
       have hqu:Hid (l[u]?=some q):=by show _=_;rw [hu];exact hq
       clear hu hq heb
       rcases two_ways q.name x.name with ⟨l1,l2,l3,l4⟩ | ⟨l1,l2,l3,l4⟩ | ⟨l1,l2,l3,l4⟩
       all_goals rw [l1] at hat1
       ·have hst:=Lib.hid (zDB hall.out hat1)
        clear hat1 hr hall
        rcases hk12 with hkx | hkx
        ·have hkx:=Lib.hid hkx
         refine zAd (C:=EntQ w g gs os l x) (by kernel_rfl) (by kernel_rfl) hS.drew ?_
         repeat
          first
           | ((with_reducible refine zAl ?_ ?_)
              ·(go_simp;done)
              apply Exists.intro
              refine ⟨fun W hW=>?_,?_⟩
              ·first
                | (have f1:=hW.name_
                   have f3:=hW.kind_ hkx.out
                   have f2:W.cell? ⟨gs,os+u*34,none⟩=some (.string (B q.name)):=(zAz (hW.at_ _ q hqu.out)).1
                   go_simp
                   first
                    | rfl
                    | (go_at_call 110;with_reducible exact keepE (hnm _) hW))
              simp only [Act.put,zA,zB,zC])
           | ((with_reducible refine zAh ?_ ?_)
              ·(first | rfl | (go_simp;done))
              simp only [Act.put,zA,zB,zC])
         with_reducible refine wpQuiet_nil ?_
         intro w5 hW5
         clear s1 s3 s4 l1 l2 l3 l4 hk0
         go_wp2
         go_roundw
         case rel=>exact ⟨k+1,by go_num,by omega,hst,hW5.bel⟩
         case measure=>simp [intOf];omega
        ·have hkx:=Lib.hid hkx
         refine zAd (C:=EntQ w g gs os l x) (by kernel_rfl) (by kernel_rfl) hS.drew ?_
         repeat
          first
           | ((with_reducible refine zAl ?_ ?_)
              ·(go_simp;done)
              apply Exists.intro
              refine ⟨fun W hW=>?_,?_⟩
              ·first
                | (have f1:=hW.name_
                   have f3:=hW.kind_ hkx.out
                   have f2:W.cell? ⟨gs,os+u*34,none⟩=some (.string (B q.name)):=(zAz (hW.at_ _ q hqu.out)).1
                   go_simp
                   first
                    | rfl
                    | (go_at_call 110;with_reducible exact keepE (hnm _) hW))
              simp only [Act.put,zA,zB,zC])
           | ((with_reducible refine zAh ?_ ?_)
              ·(first | rfl | (go_simp;done))
              simp only [Act.put,zA,zB,zC])
         with_reducible refine wpQuiet_nil ?_
         intro w5 hW5
         clear s1 s3 s4 l1 l2 l3 l4 hk0
         go_wp2
         go_roundw
         case rel=>exact ⟨k+1,by go_num,by omega,hst,hW5.bel⟩
         case measure=>simp [intOf];omega
       ·have hf:Hid (r=false):=by show r=false;rw [hr.out];exact zB7 hlt hat1
        clear hat1 hr hall
        rcases hk12 with hkx | hkx
        ·have hkx:=Lib.hid hkx
         refine zAd (C:=EntQ w g gs os l x) (by kernel_rfl) (by kernel_rfl) hS.drew ?_
         repeat
          first
           | ((with_reducible refine zAl ?_ ?_)
              ·(go_simp;done)
              apply Exists.intro
              refine ⟨fun W hW=>?_,?_⟩
              ·first
                | (have f1:=hW.name_
                   have f3:=hW.kind_ hkx.out
                   have f2:W.cell? ⟨gs,os+u*34,none⟩=some (.string (B q.name)):=(zAz (hW.at_ _ q hqu.out)).1
                   go_simp
                   first
                    | rfl
                    | (go_at_call 110;with_reducible exact keepE (hnm _) hW))
              simp only [Act.put,zA,zB,zC])
           | ((with_reducible refine zAh ?_ ?_)
              ·(first | rfl | (go_simp;done))
              simp only [Act.put,zA,zB,zC])
         with_reducible refine wpQuiet_nil ?_
         intro w5 hW5
         go_wp2
         go_ret
         exact ⟨by rw [hf.out];rfl,hW5.bel⟩
        ·have hkx:=Lib.hid hkx
         refine zAd (C:=EntQ w g gs os l x) (by kernel_rfl) (by kernel_rfl) hS.drew ?_
         repeat
          first
           | ((with_reducible refine zAl ?_ ?_)
              ·(go_simp;done)
              apply Exists.intro
              refine ⟨fun W hW=>?_,?_⟩
              ·first
                | (have f1:=hW.name_
                   have f3:=hW.kind_ hkx.out
                   have f2:W.cell? ⟨gs,os+u*34,none⟩=some (.string (B q.name)):=(zAz (hW.at_ _ q hqu.out)).1
                   go_simp
                   first
                    | rfl
                    | (go_at_call 110;with_reducible exact keepE (hnm _) hW))
              simp only [Act.put,zA,zB,zC])
           | ((with_reducible refine zAh ?_ ?_)
              ·(first | rfl | (go_simp;done))
              simp only [Act.put,zA,zB,zC])
         with_reducible refine wpQuiet_nil ?_
         intro w5 hW5
         go_wp2
         go_ret
         exact ⟨by rw [hf.out];rfl,hW5.bel⟩
       ·have hf:Hid (r=false):=by show r=false;rw [hr.out];exact zB7 hlt hat1
        clear hat1 hr hall
        rcases hk12 with hkx | hkx
        ·have hkx:=Lib.hid hkx
         refine zAd (C:=EntQ w g gs os l x) (by kernel_rfl) (by kernel_rfl) hS.drew ?_
         repeat
          first
           | ((with_reducible refine zAl ?_ ?_)
              ·(go_simp;done)
              apply Exists.intro
              refine ⟨fun W hW=>?_,?_⟩
              ·first
                | (have f1:=hW.name_
                   have f3:=hW.kind_ hkx.out
                   have f2:W.cell? ⟨gs,os+u*34,none⟩=some (.string (B q.name)):=(zAz (hW.at_ _ q hqu.out)).1
                   go_simp
                   first
                    | rfl
                    | (go_at_call 110;with_reducible exact keepE (hnm _) hW))
              simp only [Act.put,zA,zB,zC])
           | ((with_reducible refine zAh ?_ ?_)
              ·(first | rfl | (go_simp;done))
              simp only [Act.put,zA,zB,zC])
         with_reducible refine wpQuiet_nil ?_
         intro w5 hW5
         go_wp2
         go_ret
         exact ⟨by rw [hf.out];rfl,hW5.bel⟩
        ·have hkx:=Lib.hid hkx
         refine zAd (C:=EntQ w g gs os l x) (by kernel_rfl) (by kernel_rfl) hS.drew ?_
         repeat
          first
           | ((with_reducible refine zAl ?_ ?_)
              ·(go_simp;done)
              apply Exists.intro
              refine ⟨fun W hW=>?_,?_⟩
              ·first
                | (have f1:=hW.name_
                   have f3:=hW.kind_ hkx.out
                   have f2:W.cell? ⟨gs,os+u*34,none⟩=some (.string (B q.name)):=(zAz (hW.at_ _ q hqu.out)).1
                   go_simp
                   first
                    | rfl
                    | (go_at_call 110;with_reducible exact keepE (hnm _) hW))
              simp only [Act.put,zA,zB,zC])
           | ((with_reducible refine zAh ?_ ?_)
              ·(first | rfl | (go_simp;done))
              simp only [Act.put,zA,zB,zC])
         with_reducible refine wpQuiet_nil ?_
         intro w5 hW5
         go_wp2
         go_ret
         exact ⟨by rw [hf.out];rfl,hW5.bel⟩
     ·have d1:(x.kind != 1)=true:=by simp only [bne_iff_ne];exact fun e=>hk12 (.inl e)
      have d2:(x.kind != 2)=true:=by simp only [bne_iff_ne];exact fun e=>hk12 (.inr e)
      have d3:(x.kind==1)=false:=by rw [beq_eq_false_iff_ne];exact fun e=>hk12 (.inl e)
      have d4:(x.kind==2)=false:=by rw [beq_eq_false_iff_ne];exact fun e=>hk12 (.inr e)
      have heb:entB x=false:=by unfold entB;rw [d3,d4];simp
      have hf:Hid (r=false):=by show r=false;rw [hr.out];exact zB7 hlt (zEU hx.out heb)
      have d5 : ¬ x.kind=1:=fun e=>hk12 (.inl e)
      have d6 : ¬ x.kind=2:=fun e=>hk12 (.inr e)
      clear hr hall bn hk12 heb
      refine zAd (C:=EntQ w g gs os l x) (by kernel_rfl) (by kernel_rfl) hS.drew ?_
      repeat
       first
        | ((with_reducible refine zAl ?_ ?_)
           ·(go_simp;done)
           apply Exists.intro
           refine ⟨fun W hW=>?_,?_⟩
           ·first
             | (have f1:=hW.name_
                have f3:=hW.kind_ rfl
                go_simp
                first
                 | rfl
                 | (go_at_call 110;with_reducible exact keepE (hnm _) hW))
           simp only [Act.put,zA,zB,zC])
        | ((with_reducible refine zAh ?_ ?_)
           ·(first | rfl | (go_simp;done))
           simp only [Act.put,zA,zB,zC])
      with_reducible refine wpQuiet_nil ?_
      intro w5 hW5
      go_wp2
      go_ret
      exact ⟨by rw [hf.out];rfl,hW5.bel⟩
  ·have hki : ¬ (k:Int)<(l.length:Int):=by omega
   have hf:Hid (r=decide (l.length≤64)):=by
    show r=_
    rw [hr.out]
    have:=hall.out
    rw [show k=l.length from by omega] at this
    exact ents_all this
   clear hall hat hr
   by_cases h64:l.length≤64
   ·have i64:(l.length:Int)≤64:=by omega
    go_wp2
    go_ret
    exact ⟨by rw [hf.out,decide_eq_true h64];rfl,hbel⟩
   ·have i64 : ¬ (l.length:Int)≤64:=by omega
    go_wp2
    go_ret
    exact ⟨by rw [hf.out,decide_eq_false h64];rfl,hbel⟩
end
section
attribute [local go_sem ↓] ldvO_eq
set_option maxRecDepth 100000 in
set_option maxHeartbeats 4000000 in
theorem zBJ (o:ObjL) (A1 A2:Option Addr) (k1 k2:Nat) (w:World) (hv:ObjV w (.slice A1 o.ents.length k1) (.slice A2 o.pars.length k2) o):Calls Tryz.prog 79 #[.agg (objC o (.slice A1 o.ents.length k1) (.slice A2 o.pars.length k2)).toArray] w fun e w'=>e = .returned (.bool (mayB o))∧Below w.heap.size w w':=by
 have ho:=hv.ok
 have hO:=boxed (w:=w) (ve := .slice A1 o.ents.length k1) (vp := .slice A2 o.pars.length k2) ho
 have b0:Below w.heap.size w (w.alloc (.cells (objC o (.slice A1 o.ents.length k1) (.slice A2 o.pars.length k2)).toArray 59)):=(Below.refl _ _).alloc (Nat.le_refl _) _
 have hv0:=hv.below b0
 have hal:=fun W=>Lib.hid (alone_calls o ho A1 A2 k1 k2 W)
 have hld:=fun W (h:ObjB W w.heap.size o (.slice A1 o.ents.length k1) (.slice A2 o.pars.length k2))=>zAT h ho
 obtain ⟨W0,hW0⟩ : ∃ W0,w.alloc (.cells (objC o (.slice A1 o.ents.length k1) (.slice A2 o.pars.length k2)).toArray 59)=W0:=⟨_,rfl⟩
 rw [hW0] at hO b0 hv0
 have hen:=fun W (hb:Below W0.heap.size W0 W)=>Lib.hid (entries_calls o.ents ho.ents _ W (hv0.ents.below hb))
 have hnm:=fun W=>Lib.hid (name_calls o.name W)
 have hki:=fun W=>Lib.hid (kind_calls o.of_ W)
 have c0:=hO.kind
 have q0:=hld W0 hO
 obtain ⟨r,hr⟩ : ∃ r,Hid (r=mayB o):=⟨_,Lib.hid rfl⟩
 rw [←hr.out]
 have hr2:=hr.out
 unfold mayB at hr2
 replace hr2:=Lib.hid hr2
 have d2:=fun W (hb:Below W0.heap.size W0 W)=>(hO.below hb).ents
 have d35:=fun W (hb:Below W0.heap.size W0 W)=>(hO.below hb).pars
 have d70:=fun W (hb:Below W0.heap.size W0 W)=>(hO.below hb).of_
 have d71:=fun W (hb:Below W0.heap.size W0 W)=>(hO.below hb).name
 clear hr hO hv hv0 ho hld
 generalize (objC o (.slice A1 o.ents.length k1) (.slice A2 o.pars.length k2)).toArray=cs at *
 generalize aloneB o=A at *
 generalize entsB o.ents=E at *
 generalize nameB o.name=N at *
 generalize kindB o.of_=K at *
 have s0:=b0.size
 by_cases h2:o.kind=2
 ·rw [h2] at c0
  have hf:Hid (r=(A&&E)):=by show r=_;rw [hr2.out,if_pos h2]
  clear hr2 h2 hnm hki d35 d70 d71
  have hal:=hal W0
  cases A with
  | false=>
    clear hen d2
    go_enter Tryz.func79,Tryz.ntmps79
    go_wp2_with (first
     | ((with_reducible refine hal.out.mono ?_);rintro e w1 ⟨rfl,hb1⟩))
    go_ret
    exact ⟨by rw [hf.out];rfl,bthen b0 s0 hb1⟩
  | true=>
    go_enter Tryz.func79,Tryz.ntmps79
    go_wp2_with (first
     | ((with_reducible refine hal.out.mono ?_);rintro e w1 ⟨rfl,hb1⟩
        have c2:=d2 w1 hb1
        have hen:=hen w1 hb1
        clear hal d2)
     | ((with_reducible refine hen.out.mono ?_);rintro e w2 ⟨rfl,hb2⟩))
    go_ret
    exact ⟨by rw [hf.out];rfl,bthen b0 s0 (bthen hb1 hb1.size hb2)⟩
 have e2:(o.kind==2)=false:=by rw [beq_eq_false_iff_ne];exact h2
 by_cases h3:o.kind=3
 ·rw [h3] at c0
  have hf:Hid (r=(A&&decide ((o.pars.length:Int)≤8))):=by
   show r=_;rw [hr2.out,if_neg h2,if_pos h3]
   congr 1
   rw [Bool.eq_iff_iff,decide_eq_true_iff,decide_eq_true_iff];omega
  clear hr2 h2 h3 e2 hnm hki d2 d70 d71 hen
  have hal:=hal W0
  cases A with
  | false=>
    clear d35
    go_enter Tryz.func79,Tryz.ntmps79
    go_wp2_with (first
     | ((with_reducible refine hal.out.mono ?_);rintro e w1 ⟨rfl,hb1⟩))
    go_ret
    exact ⟨by rw [hf.out];rfl,bthen b0 s0 hb1⟩
  | true=>
    go_enter Tryz.func79,Tryz.ntmps79
    go_wp2_with (first
     | ((with_reducible refine hal.out.mono ?_);rintro e w1 ⟨rfl,hb1⟩
        have c35:=d35 w1 hb1
        clear hal d35))
    go_ret
    exact ⟨by rw [hf.out];rfl,bthen b0 s0 hb1⟩
 have e3:(o.kind==3)=false:=by rw [beq_eq_false_iff_ne];exact h3
 by_cases h4:o.kind=4
 ·rw [h4] at c0
  have hf:Hid (r=(A&&K&&N)):=by show r=_;rw [hr2.out,if_neg h2,if_neg h3,if_pos h4]
  clear hr2 h2 h3 h4 e2 e3 hen d2 d35
  have hal:=hal W0
  cases A with
  | false=>
    clear hnm hki d70 d71
    go_enter Tryz.func79,Tryz.ntmps79
    go_wp2_with (first
     | ((with_reducible refine hal.out.mono ?_);rintro e w1 ⟨rfl,hb1⟩))
    go_ret
    exact ⟨by rw [hf.out];rfl,bthen b0 s0 hb1⟩
  | true=>
    cases K with
    | false=>
      clear hnm d71
      go_enter Tryz.func79,Tryz.ntmps79
      go_wp2_with (first
       | ((with_reducible refine hal.out.mono ?_);rintro e w1 ⟨rfl,hb1⟩
          have c70:=d70 w1 hb1
          have hki:=hki w1
          clear hal d70)
       | ((with_reducible refine hki.out.mono ?_);rintro e w2 ⟨rfl,rfl⟩))
      go_ret
      exact ⟨by rw [hf.out];rfl,bthen b0 s0 hb1⟩
    | true=>
      go_enter Tryz.func79,Tryz.ntmps79
      go_wp2_with (first
       | ((with_reducible refine hal.out.mono ?_);rintro e w1 ⟨rfl,hb1⟩
          have c70:=d70 w1 hb1
          have c71:=d71 w1 hb1
          have hki:=hki w1
          have hnm:=hnm w1
          clear hal d70 d71)
       | ((with_reducible refine hki.out.mono ?_);rintro e w2 ⟨rfl,rfl⟩)
       | ((with_reducible refine hnm.out.mono ?_);rintro e w3 ⟨rfl,rfl⟩))
      go_ret
      exact ⟨by rw [hf.out];rfl,bthen b0 s0 hb1⟩
 have e4:(o.kind==4)=false:=by rw [beq_eq_false_iff_ne];exact h4
 have hf:Hid (r=(o.kind==1&&A)):=by show r=_;rw [hr2.out,if_neg h2,if_neg h3,if_neg h4]
 have hal:=hal W0
 clear hr2 hnm hki d2 d35 d70 d71 hen
 by_cases h1:o.kind=1
 ·rw [h1] at c0 hf
  clear h1 h2 h3 h4 e2 e3 e4
  go_enter Tryz.func79,Tryz.ntmps79
  go_wp2_with (first
   | ((with_reducible refine hal.out.mono ?_);rintro e w1 ⟨rfl,hb1⟩))
  go_ret
  exact ⟨by rw [hf.out];rfl,bthen b0 s0 hb1⟩
 ·have e1:(o.kind==1)=false:=by rw [beq_eq_false_iff_ne];exact h1
  rw [e1] at hf
  clear hal
  go_enter Tryz.func79,Tryz.ntmps79
  go_wp2
  go_ret
  exact ⟨by rw [hf.out];simp [e1],b0⟩
end
section
attribute [local go_sem ↓] ldvI_eq
theorem zBY (o:ObjL):commitN o=(decide (o.tree=List.replicate 32 0)&&decide ((o.pars.length:Int)=0)&&decide ((o.time:Int)=0)&&o.text.isEmpty):=by
 rw [show decide ((o.pars.length:Int)=0)=(o.pars.length==0) from by rw [Bool.eq_iff_iff,decide_eq_true_iff,beq_iff_eq];omega,show decide ((o.time:Int)=0)=(o.time==0) from by rw [Bool.eq_iff_iff,decide_eq_true_iff,beq_iff_eq];omega]
 rfl
theorem tag_eq (o:ObjL):tagN o=(decide (o.target=List.replicate 32 0)&&decide (o.of_=0)&&o.name.isEmpty):=by
 rw [show decide (o.of_=0)=(o.of_==0) from by rw [Bool.eq_iff_iff,decide_eq_true_iff,beq_iff_eq]]
 rfl
theorem zE3 {w:World} {g:Nat} (h:Blk w g 46 (u8s (List.replicate 32 0))):(ldvI ⟨g,0,none⟩).run Tryz.prog w = .ok (.agg #[.int .u8 0, .int .u8 0, .int .u8 0, .int .u8 0, .int .u8 0, .int .u8 0, .int .u8 0, .int .u8 0, .int .u8 0, .int .u8 0, .int .u8 0, .int .u8 0, .int .u8 0, .int .u8 0, .int .u8 0, .int .u8 0, .int .u8 0, .int .u8 0, .int .u8 0, .int .u8 0, .int .u8 0, .int .u8 0, .int .u8 0, .int .u8 0, .int .u8 0, .int .u8 0, .int .u8 0, .int .u8 0, .int .u8 0, .int .u8 0, .int .u8 0, .int .u8 0]) w:=by
 rw [zD2]
 exact zAb (zAi h) (by simp)
theorem zCa {ops:Array Oper} {rest:List Oper} {a:Act} {W:World} {Q:Exit→Act→World→Prop} {d:Option Tmp} {rt:TypeId} {pos:String} {af:Array Edge} (x y:Operand) (zs:Array Value) (hz:zs.size=32) (hx:a.eval x = .pointer (some ⟨W.heap.size,0,none⟩)) (hy:a.eval y = .agg #[.int .u8 0, .int .u8 0, .int .u8 0, .int .u8 0, .int .u8 0, .int .u8 0, .int .u8 0, .int .u8 0, .int .u8 0, .int .u8 0, .int .u8 0, .int .u8 0, .int .u8 0, .int .u8 0, .int .u8 0, .int .u8 0, .int .u8 0, .int .u8 0, .int .u8 0, .int .u8 0, .int .u8 0, .int .u8 0, .int .u8 0, .int .u8 0, .int .u8 0, .int .u8 0, .int .u8 0, .int .u8 0, .int .u8 0, .int .u8 0, .int .u8 0, .int .u8 0])
 (h : ∀ W1,Blk W1 W.heap.size 46 (u8s (List.replicate 32 0))→Below W.heap.size W W1→wpList Tryz.prog ops Q rest (a.put d undef) W1) :
 wpList Tryz.prog ops Q ({ dst:=d,op := .store 46 x y,type:=rt,pos:=pos,after:=af,guard:=none }::rest) a (W.alloc (.cells zs 46)):=
 zDV rfl x y rfl (List.replicate 32 0) (by simp) zs hx (hy.trans (congrArg Value.agg zD2)) hz h
theorem zBa {ops:Array Oper} {rest:List Oper} {a:Act} {w:World} {Q:Exit→Act→World→Prop} {d:Option Tmp} {rt:TypeId} {pos:String} {af:Array Edge} (x:Operand) (b o:Nat) (r:EntL) (hr:EntOk r) (hc:w.rangeAt b o (entC r)) (hx:a.eval x = .pointer (some ⟨b,o,none⟩))
 (h:wpList Tryz.prog ops Q rest (a.put d (.agg (entC r).toArray)) w):wpList Tryz.prog ops Q ({ dst:=d,op := .load 132 x,type:=rt,pos:=pos,after:=af,guard:=none }::rest) a w:=
 wpList_load_mid rfl _ x rfl b o hx _ _ hc Tryz.underlying132 rfl (sizedEnt hr) h
theorem zBp {ops:Array Oper} {rest:List Oper} {a:Act} {w:World} {Q:Exit→Act→World→Prop} {d:Option Tmp} {rt:TypeId} {pos:String} {af:Array Edge} (x y:Operand) (r:EntL) (hr:EntOk r) (zs:Array Value) (hz:zs.size=34) (hx:a.eval x = .pointer (some ⟨w.heap.size,0,none⟩)) (hy:a.eval y = .agg (entC r).toArray)
 (h : ∀ W1,Blk W1 w.heap.size 132 (entC r).toArray→Below w.heap.size w W1→wpList Tryz.prog ops Q rest (a.put d undef) W1) :
 wpList Tryz.prog ops Q ({ dst:=d,op := .store 132 x y,type:=rt,pos:=pos,after:=af,guard:=none }::rest) a (w.alloc (.cells zs 132)):=
 zBW rfl x y rfl r hr zs hx hy hz h
theorem treeN_two (o:ObjL) (h:o.kind=2):mayB o=(blobN o&&commitN o&&tagN o&&entsB o.ents):=by unfold mayB aloneB;rw [if_pos h,if_neg (by omega),if_pos h]
theorem may_one (o:ObjL) (h:o.kind=1):mayB o=(treeN o&&commitN o&&tagN o):=by unfold mayB aloneB;rw [if_neg (by omega),if_neg (by omega),if_neg (by omega),if_pos h,h];rfl
theorem may_three (o:ObjL) (h:o.kind=3):mayB o=(blobN o&&treeN o&&tagN o&&decide (o.pars.length≤8)):=by unfold mayB aloneB;rw [if_neg (by omega),if_pos h,if_neg (by omega),if_neg (by omega),if_pos h]
theorem may_four (o:ObjL) (h:o.kind=4):mayB o=(blobN o&&treeN o&&commitN o&&kindB o.of_&&nameB o.name):=by unfold mayB aloneB;rw [if_neg (by omega),if_neg (by omega),if_pos h,if_neg (by omega),if_neg (by omega),if_neg (by omega)]
theorem may_none (o:ObjL) (h:o.kind<1∨4<o.kind):mayB o=false:=by
 unfold mayB
 rw [if_neg (by omega),if_neg (by omega),if_neg (by omega)]
 have:(o.kind==1)=false:=by rw [beq_eq_false_iff_ne];omega
 rw [this];rfl
set_option maxRecDepth 100000 in
set_option maxHeartbeats 4000000 in
theorem refMay_calls2 (o:ObjL) (hk:o.kind=2) (A1 A2:Option Addr) (k1 k2:Nat) (w:World) (hv:ObjV w (.slice A1 o.ents.length k1) (.slice A2 o.pars.length k2) o):Calls Tryz.prog 61 #[.agg (objC o (.slice A1 o.ents.length k1) (.slice A2 o.pars.length k2)).toArray] w fun e w'=>e = .returned (.bool (mayB o))∧Below w.heap.size w w':=by
 have ho:=hv.ok
 have hO:=boxed (w:=w) (ve := .slice A1 o.ents.length k1) (vp := .slice A2 o.pars.length k2) ho
 have b0:Below w.heap.size w (w.alloc (.cells (objC o (.slice A1 o.ents.length k1) (.slice A2 o.pars.length k2)).toArray 59)):=(Below.refl _ _).alloc (Nat.le_refl _) _
 have hv0:=hv.below b0
 obtain ⟨W0,hW0⟩ : ∃ W0,w.alloc (.cells (objC o (.slice A1 o.ents.length k1) (.slice A2 o.pars.length k2)).toArray 59)=W0:=⟨_,rfl⟩
 rw [hW0] at hO b0 hv0
 have c0:=hO.kind
 have g1:=fun W=>zAb (w:=W) (g:=w.heap.size) (o:=3) (l:=o.tree)
 have g2:=fun W=>zAb (w:=W) (g:=w.heap.size) (o:=38) (l:=o.target)
 have z1:=fun W=>zAN o.tree ho.tree W
 have z2:=fun W=>zAN o.target ho.target W
 have e1:=Lib.hid (zBY o)
 have e2:=Lib.hid (tag_eq o)
 have ht:o.time<4294967296:=ho.time
 obtain ⟨r,hr⟩ : ∃ r,Hid (r=mayB o):=⟨_,Lib.hid rfl⟩
 rw [←hr.out]
 have hr2:=hr.out
 rw [treeN_two o hk,zBY,tag_eq] at hr2
 have hX:blobN o=List.isEmpty o.data:=rfl
 rw [hX] at hr2
 replace hr2:=Lib.hid hr2
 rw [hk] at c0
 have htr:=Lib.hid ho.tree
 have hta:=Lib.hid ho.target
 have hoE:=Lib.hid ho.ents
 obtain ⟨E,hE⟩ : ∃ E,Hid (E=entsB o.ents):=⟨_,Lib.hid rfl⟩
 rw [←hE.out] at hr2
 clear hr ho hX hv e1 e2
 generalize decide (o.tree=List.replicate 32 0)=T at *
 generalize decide (o.target=List.replicate 32 0)=G at *
 obtain ⟨Pz,hPz⟩ : ∃ Pz,decide ((o.pars.length:Int)=0)=Pz:=⟨_,rfl⟩
 have hP1:0<o.pars.length→Pz=false:=fun h=>by rw [←hPz];exact decide_eq_false (by omega)
 have hP2 : ¬ 0<o.pars.length→Pz=true:=fun h=>by rw [←hPz];exact decide_eq_true (by omega)
 replace hP1:=Lib.hid hP1
 replace hP2:=Lib.hid hP2
 have hr3:=hr2.out
 rw [hPz] at hr3
 replace hr2:=Lib.hid hr3
 clear hPz hr3
 generalize hcs:(objC o (.slice A1 o.ents.length k1) (.slice A2 o.pars.length k2)).toArray=cs at *
 clear hcs
 have s0:=b0.size
 go_enter Tryz.func61,Tryz.ntmps61
 go_upto_region 4 with (first
  | ((with_reducible refine zCa (.tmp 3) (.tmp 16) _ ?_ ?_ ?_ ?_);rfl;rfl;rfl
     intro W1 hb1 hbl1
     have hO1:=hO.below hbl1
     have c1:=hO1.data
     have c2:=hO1.ents
     have c35:=hO1.pars
     have c36:=hO1.time
     have c37:=hO1.text
     have c70:=hO1.of_
     have c71:=hO1.name
     have c0':=hO1.kind
     rw [hk] at c0'
     have q1:=g1 W1 hO1.tree htr.out
     have q2:=g2 W1 hO1.target hta.out
     have q3:=zE3 hb1))
 clear c0 hO hb1 htr hta g1 g2 hW0
 have hE64:(64:Int)<(o.ents.length:Int)→E=false:=fun h=>by
  rw [hE.out];unfold entsB
  rw [Bool.and_eq_false_iff]
  exact .inr (decide_eq_false (by omega))
 have b1:=b0.trans (hbl1.mono s0)
 have hat:Hid (0<o.ents.length → ∃ g os,A1=some ⟨g,os,none⟩∧g<W1.heap.size ∧ ∀ i x,o.ents[i]?=some x→W1.rangeAt g (os+i*34) (entC x)):=by
  obtain ⟨A,cap,he,_,_,h⟩:=hv0.ents.below hbl1
  injection he with he _ _
  subst he
  exact h
 have sz1:=Nat.le_trans s0 hbl1.size
 clear b0 hbl1 hv0
 go_upto_region 16 with fail
 all_goals try
  (go_ret
   refine ⟨?_,b1⟩
   rw [hr2.out]
   have hP1:=hP1.out
   have hP2:=hP2.out
   clear z1 z2 c1 c2 c35 c36 c37 c70 c71 q1 q2 q3 hO1 c0' hE hr2 hat hoE
   simp_all
   done)
 have hrE:Hid (r=E):=by
  show r=E
  rw [hr2.out]
  have hP1:=hP1.out
  have hP2:=hP2.out
  clear z1 z2 c1 c2 c35 c36 c37 c70 c71 q1 q2 q3 hO1 c0' hE hr2 hat hoE
  simp_all
 have h64:(o.ents.length:Int)≤64:=by first | assumption | omega
 clear hP1 hP2 hr2 z1 z2 c1 c35 c36 c37 c70 c71 q1 q2 q3 c0' hE64 c2 ht
 go_cut [5] (fun s5 wx=>s5 = .int .i64 0∧wx=W1)
 case first=>
  go_wp2
  go_meet
  case rel=>exact ⟨rfl,rfl⟩
 obtain ⟨rfl,rfl⟩:=hcut
 go_wp2
 go_loopw [5] (fun vi wr => ∃ k:Nat,vi = .int .i64 k∧k≤o.ents.length∧Hid ((List.range k).all (entAt o.ents)=true)∧Below wc.heap.size wc wr) (fun vi _=>o.ents.length-(intOf vi).toNat)
 case atStart=>exact ⟨0,rfl,by omega,rfl,Below.refl _ _⟩
 case round=>
  obtain ⟨k,rfl,hk',hall,hbel⟩:=hrel
  have hsz:=hbel.size
  have hOr:=hO1.below hbel
  have c2:=hOr.ents
  by_cases hlt:k<o.ents.length
  ·have hki:(k:Int)<(o.ents.length:Int):=by omega
   obtain ⟨gs,os,rfl,hgs,hcell⟩:=hat.out (by omega)
   obtain ⟨x,hx⟩ : ∃ x,o.ents[k]?=some x:=⟨_,List.getElem?_eq_getElem hlt⟩
   have hxok:EntOk x:=hoE.out x (List.mem_of_getElem? hx)
   have hx0:=zAc (hcell k x hx) hgs hbel
   have hxh:=Lib.hid hx
   clear hx hat hoE
   have hnm:=fun W=>Lib.hid (zDS x.name hxok.name W)
   cases bn:nameB x.name with
   | false=>
     have hf:Hid (r=false):=by show r=false;rw [hrE.out,hE.out];exact zB7 hlt (zEU hxh.out (by unfold entB;rw [bn];rfl))
     rw [bn] at hnm
     clear hE hrE hall bn
     go_wp2_with (first
      | ((with_reducible refine zBa (.tmp 113) gs (os+k*34) x hxok hx0 ?_ ?_);rfl)
      | ((with_reducible refine zBp (.tmp 6) (.tmp 114) x hxok _ ?_ ?_ ?_ ?_);rfl;rfl;rfl;intro W2 hb2 hbl2
         have cn:=(zAz (zAD hb2)).1
         have hnm:=hnm W2)
      | ((with_reducible refine hnm.out.mono ?_);rintro e w3 ⟨rfl,rfl⟩))
     all_goals try (exfalso;omega)
     go_ret
     exact ⟨by rw [hf.out];rfl,b1.trans ((bthen hbel hsz hbl2).mono sz1)⟩
   | true=>
     rw [bn] at hnm
     by_cases hk12:x.kind=1∨x.kind=2
     ·have heb:entB x=true:=by
       unfold entB
       rw [bn]
       rcases hk12 with h | h<;>simp [h]
      have d1 : ¬ x.kind<1:=by omega
      have d2 : ¬ 2<x.kind:=by omega
      clear bn hk12
      rcases Nat.eq_zero_or_pos k with h0 | h0
      ·have hk0 : ¬ (0:Int)<(k:Int):=by omega
       have hk0d:decide ((0:Int)<(k:Int))=false:=by simpa using h0
       have hk0n:decide (0<k)=false:=by simp [h0]
       have hx00:o.ents[0]?=some x:=by rw [←h0];exact hxh.out
       have hok0:entAt o.ents k=true:=by rw [h0];exact entAt_zero hx00 heb
       have hst:=Lib.hid (zDB hall.out hok0)
       clear hx00 hok0 h0 heb hall hE hrE
       go_wp2_with (first
        | ((with_reducible refine zBa (.tmp 113) gs (os+k*34) x hxok hx0 ?_ ?_);rfl)
        | ((with_reducible refine zBp (.tmp 6) (.tmp 114) x hxok _ ?_ ?_ ?_ ?_);rfl;rfl;rfl;intro W2 hb2 hbl2
           have cn:=(zAz (zAD hb2)).1
           have ck:=(zAz (zAD hb2)).2
           have c2':=(hOr.below hbl2).ents
           have bel2:=b1.trans ((bthen hbel hsz hbl2).mono sz1)
           have bel1:=bthen hbel hsz hbl2
           have hnm:=hnm W2)
        | ((with_reducible refine hnm.out.mono ?_);rintro e w3 ⟨rfl,rfl⟩))
       all_goals try (exfalso;omega)
       go_quiet (fail)
       clear hk0 hk0d hk0n
       go_wp2
       go_roundw
       case rel=>exact ⟨k+1,by go_num,by omega,hst,bdrewN bel1 nq⟩
       case measure=>simp [intOf];omega
      ·obtain ⟨q,hq⟩ : ∃ q,o.ents[k-1]?=some q:=⟨_,List.getElem?_eq_getElem (show k-1<o.ents.length by omega)⟩
       have hk0:(0:Int)<(k:Int):=by omega
       have hat1:entAt o.ents k=Op.bytesLess q.name x.name:=by
        obtain ⟨j,rfl⟩ : ∃ j,k=j+1:=⟨k-1,by omega⟩
        exact entAt_succ hxh.out hq heb
       obtain ⟨u,s1,hu⟩ : ∃ u:Nat,IntKind.i64.wrap ((k:Int)-1)=(u:Int)∧u=k-1:=⟨k-1,by rw [IntWalk.i64_in _ (by omega)];omega,rfl⟩
       have s3:(u:Int)<(o.ents.length:Int):=by omega
       have s4:u<o.ents.length:=by omega
       have hqu:Hid (o.ents[u]?=some q):=by show _=_;rw [hu];exact hq
       clear hu hq heb
       rcases two_ways q.name x.name with ⟨l1,l2,l3,l4⟩ | ⟨l1,l2,l3,l4⟩ | ⟨l1,l2,l3,l4⟩
       all_goals rw [l1] at hat1
       ·have hst:=Lib.hid (zDB hall.out hat1)
        clear hat1 hall hE hrE
        go_wp2_with (first
         | ((with_reducible refine zBa (.tmp 113) gs (os+k*34) x hxok hx0 ?_ ?_);rfl)
         | ((with_reducible refine zBp (.tmp 6) (.tmp 114) x hxok _ ?_ ?_ ?_ ?_);rfl;rfl;rfl;intro W2 hb2 hbl2
            have cn:=(zAz (zAD hb2)).1
            have ck:=(zAz (zAD hb2)).2
            have c2':=(hOr.below hbl2).ents
            have bel2:=b1.trans ((bthen hbel hsz hbl2).mono sz1)
            have bel1:=bthen hbel hsz hbl2
            have c3:W2.cell? ⟨gs,os+u*34,none⟩=some (.string (B q.name)):=(zAz (zAc (hcell u q hqu.out) hgs bel1)).1
            have hnm:=hnm W2)
         | ((with_reducible refine hnm.out.mono ?_);rintro e w3 ⟨rfl,rfl⟩))
        all_goals try (exfalso;omega)
        go_quiet (fail)
        clear s1 s3 s4 l1 l2 l3 l4 hk0
        go_wp2
        go_roundw
        case rel=>exact ⟨k+1,by go_num,by omega,hst,bdrewN bel1 nq⟩
        case measure=>simp [intOf];omega
       ·have hf:Hid (r=false):=by show r=false;rw [hrE.out,hE.out];exact zB7 hlt hat1
        clear hat1 hall hE hrE
        go_wp2_with (first
         | ((with_reducible refine zBa (.tmp 113) gs (os+k*34) x hxok hx0 ?_ ?_);rfl)
         | ((with_reducible refine zBp (.tmp 6) (.tmp 114) x hxok _ ?_ ?_ ?_ ?_);rfl;rfl;rfl;intro W2 hb2 hbl2
            have cn:=(zAz (zAD hb2)).1
            have ck:=(zAz (zAD hb2)).2
            have c2':=(hOr.below hbl2).ents
            have bel2:=b1.trans ((bthen hbel hsz hbl2).mono sz1)
            have bel1:=bthen hbel hsz hbl2
            have c3:W2.cell? ⟨gs,os+u*34,none⟩=some (.string (B q.name)):=(zAz (zAc (hcell u q hqu.out) hgs bel1)).1
            have hnm:=hnm W2)
         | ((with_reducible refine hnm.out.mono ?_);rintro e w3 ⟨rfl,rfl⟩))
        all_goals try (exfalso;omega)
        go_quiet (fail)
        go_wp2
        go_ret
        exact ⟨by rw [hf.out];rfl,bdrewN bel2 nq⟩
       ·have hf:Hid (r=false):=by show r=false;rw [hrE.out,hE.out];exact zB7 hlt hat1
        clear hat1 hall hE hrE
        go_wp2_with (first
         | ((with_reducible refine zBa (.tmp 113) gs (os+k*34) x hxok hx0 ?_ ?_);rfl)
         | ((with_reducible refine zBp (.tmp 6) (.tmp 114) x hxok _ ?_ ?_ ?_ ?_);rfl;rfl;rfl;intro W2 hb2 hbl2
            have cn:=(zAz (zAD hb2)).1
            have ck:=(zAz (zAD hb2)).2
            have c2':=(hOr.below hbl2).ents
            have bel2:=b1.trans ((bthen hbel hsz hbl2).mono sz1)
            have bel1:=bthen hbel hsz hbl2
            have c3:W2.cell? ⟨gs,os+u*34,none⟩=some (.string (B q.name)):=(zAz (zAc (hcell u q hqu.out) hgs bel1)).1
            have hnm:=hnm W2)
         | ((with_reducible refine hnm.out.mono ?_);rintro e w3 ⟨rfl,rfl⟩))
        all_goals try (exfalso;omega)
        go_quiet (fail)
        go_wp2
        go_ret
        exact ⟨by rw [hf.out];rfl,bdrewN bel2 nq⟩
     ·have heb:entB x=false:=by
       unfold entB
       have e1:(x.kind==1)=false:=by rw [beq_eq_false_iff_ne];omega
       have e2:(x.kind==2)=false:=by rw [beq_eq_false_iff_ne];omega
       rw [e1,e2];simp
      have hf:Hid (r=false):=by show r=false;rw [hrE.out,hE.out];exact zB7 hlt (zEU hxh.out heb)
      clear heb hall hE hrE bn
      by_cases d1:x.kind<1
      ·clear hk12
       go_wp2_with (first
        | ((with_reducible refine zBa (.tmp 113) gs (os+k*34) x hxok hx0 ?_ ?_);rfl)
        | ((with_reducible refine zBp (.tmp 6) (.tmp 114) x hxok _ ?_ ?_ ?_ ?_);rfl;rfl;rfl;intro W2 hb2 hbl2
           have cn:=(zAz (zAD hb2)).1
           have ck:=(zAz (zAD hb2)).2
           have c2':=(hOr.below hbl2).ents
           have bel2:=b1.trans ((bthen hbel hsz hbl2).mono sz1)
           have bel1:=bthen hbel hsz hbl2
           have hnm:=hnm W2)
        | ((with_reducible refine hnm.out.mono ?_);rintro e w3 ⟨rfl,rfl⟩))
       all_goals try (exfalso;omega)
       go_ret
       exact ⟨by rw [hf.out];rfl,bel2⟩
      ·have d2:2<x.kind:=by omega
       clear hk12
       go_wp2_with (first
        | ((with_reducible refine zBa (.tmp 113) gs (os+k*34) x hxok hx0 ?_ ?_);rfl)
        | ((with_reducible refine zBp (.tmp 6) (.tmp 114) x hxok _ ?_ ?_ ?_ ?_);rfl;rfl;rfl;intro W2 hb2 hbl2
           have cn:=(zAz (zAD hb2)).1
           have ck:=(zAz (zAD hb2)).2
           have c2':=(hOr.below hbl2).ents
           have bel2:=b1.trans ((bthen hbel hsz hbl2).mono sz1)
           have bel1:=bthen hbel hsz hbl2
           have hnm:=hnm W2)
        | ((with_reducible refine hnm.out.mono ?_);rintro e w3 ⟨rfl,rfl⟩))
       all_goals try (exfalso;omega)
       go_ret
       exact ⟨by rw [hf.out];rfl,bel2⟩
  ·have hki : ¬ (k:Int)<(o.ents.length:Int):=by omega
   have hf:Hid (r=true):=by
    show r=true
    rw [hrE.out,hE.out]
    have:=hall.out
    rw [show k=o.ents.length from by omega] at this
    rw [ents_all this]
    exact decide_eq_true (by omega)
   clear hall hat hE hrE
   go_wp2
   go_ret
   exact ⟨by rw [hf.out];rfl,b1.trans (hbel.mono sz1)⟩
end
abbrev Bld (w:World) (b:Nat) (l:Txt):Prop:=Lib.IsBuilder 206 5 b b (l.map u8v) w
theorem ib_below {T e:TypeId} {B0 b:Nat} {bs:List Value} {w w':World} (h:Lib.IsBuilder T e B0 b bs w) (hb:Below w.heap.size w w'):Lib.IsBuilder T e B0 b bs w':=by
 have key : ∀ p,Lib.BuilderAt T e B0 b p bs w→Lib.BuilderAt T e B0 b p bs w':=by
  rintro p ⟨hB,v,hh,ho,hne⟩
  have hlt:b<w.heap.size:=(show Blk w b T #[p,v] from hh).lt
  exact ⟨hB,v,(hb.block b hlt).trans hh,zAf ho hb,hne⟩
 exact h.imp (key _) (key _)
theorem ib_lt {T e:TypeId} {B0 b:Nat} {bs:List Value} {w:World} (h:Lib.IsBuilder T e B0 b bs w):b<w.heap.size:=by
 rcases h with ⟨_,v,hh,_⟩ | ⟨_,v,hh,_⟩
 ·exact (show Blk w b T #[_,v] from hh).lt
 ·exact (show Blk w b T #[_,v] from hh).lt
theorem Bld.below {w w':World} {b:Nat} {l:Txt} (h:Bld w b l) (hb:Below w.heap.size w w'):Bld w' b l:=ib_below h hb
theorem Bld.lt {w:World} {b:Nat} {l:Txt} (h:Bld w b l):b<w.heap.size:=ib_lt h
section
attribute [local go_sem ↓] ldvI_eq
structure Small (o:ObjL):Prop where
 ents:o.ents.length≤70
 names : ∀ e∈o.ents,e.name.length≤5000
 pars:o.pars.length≤20
 data:o.data.length≤5000
 text:o.text.length≤5000
 name:o.name.length≤5000
theorem entE_len' {e:EntL} (h:e.name.length≤5000) (hi:e.id.length=32):(entE e).length≤5050:=by
 have:=zAQ e.name.length
 unfold entE textE
 simp only [List.length_cons,List.length_append]
 omega
theorem entsE_len' {l:List EntL} (h : ∀ e∈l,e.name.length≤5000∧e.id.length=32):(entsE l).length≤5050*l.length:=by
 induction l with
 | nil=>simp [entsE]
 | cons e l ih=>
   have h1:=entE_len' (h e (by simp)).1 (h e (by simp)).2
   have h2:=ih fun e he=>h e (by simp [he])
   have:entsE (e::l)=entE e++entsE l:=by simp [entsE]
   rw [this]
   simp only [List.length_append,List.length_cons]
   omega
end
theorem lit_load_id {ops:Array Oper} {rest:List Oper} {a:Act} {w:World} {Q:Exit→Act→World→Prop} {d:Option Tmp} {rt:TypeId} {pos:String} {af:Array Edge} (x:Operand) (b o:Nat) (l:List UInt8) (hl:l.length=32) (hc:w.rangeAt b o (u8s l).toList) (hx:a.eval x = .pointer (some ⟨b,o,none⟩))
 (h:wpList Tryz.prog ops Q rest (a.put d (.agg (u8s l))) w):wpList Tryz.prog ops Q ({ dst:=d,op := .load 46 x,type:=rt,pos:=pos,after:=af,guard:=none }::rest) a w:=
 wpList_load_mid rfl _ x rfl b o hx _ _ hc Tryz.underlying46 rfl (by rw [Array.length_toList,zAj,hl];exact sz32) (by rw [Array.toArray_toList];exact h)
section
attribute [local go_sem ↓] ldvO_eq
structure EncC (w:World) (g:Nat) (o:ObjL) (ve vp:Value) (w':World):Prop where
 obj:ObjB w' g o ve vp
 val:ObjV w' ve vp o
 bel:Below w.heap.size w w'
section
variable {w w' w'':World} {g:Nat} {o:ObjL} {ve vp:Value}
theorem EncC.drew (h:EncC w g o ve vp w'):EncC w g o ve vp w'.drew:=⟨h.obj.drew,⟨h.val.ok,h.val.ents,h.val.pars⟩,h.bel.drew⟩
theorem EncC.below (h:EncC w g o ve vp w') (hb:Below w'.heap.size w' w''):EncC w g o ve vp w'':=⟨h.obj.below hb,h.val.below hb,bthen h.bel h.bel.size hb⟩
theorem EncC.whole (h:EncC w g o ve vp w'):(ldvO ⟨g,0,none⟩).run Tryz.prog w' = .ok (.agg (objC o ve vp).toArray) w':=zAT h.obj h.val.ok
end
theorem whole_len {o:ObjL} (hs:Small o) (ho:ObjOk o):(bodyO o).length≤400000:=by
 have h1:=entsE_len' (l:=o.ents) (fun e he=>⟨hs.names e he,(ho.ents e he).id⟩)
 have h2:=flat_len (l:=o.pars) ho.pars
 have h3:=zAQ o.pars.length
 have h4:=zAQ o.time
 have h5:=zAQ o.text.length
 have h6:=zAQ o.name.length
 have:=hs.ents
 have:=hs.pars
 have:=hs.data
 have:=hs.text
 have:=hs.name
 have:=ho.tree
 have:=ho.target
 unfold bodyO commitE tagE textE
 repeat' split
 all_goals try simp only [List.length_append,List.length_cons,List.length_nil]
 all_goals omega
end
theorem and127 (c:UInt8):bits .and .u8 (c.toNat:Int) 127=((c.toNat%128:Nat):Int):=by
 have h : ∀ m:Fin 256,bits .and .u8 ((m.val:Nat):Int) 127=((m.val%128:Nat):Int):=by decide +kernel
 exact h ⟨c.toNat,c.toNat_lt⟩
theorem or_shl (N k:Nat) (c:UInt8) (hN:N<128 ^ k) (hf:N+128 ^ k*(c.toNat%128)≤18446744073709551615) :
 bits .or .u64 (N:Int) (IntKind.u64.wrap (IntKind.u64.wrap (bits .and .u8 (c.toNat:Int) 127)*2 ^ (7*k)))=((N+128 ^ k*(c.toNat%128):Nat):Int):=by
 have hp:(128:Nat) ^ k=2 ^ (7*k):=by rw [Nat.pow_mul]
 rw [hp] at hN hf ⊢
 rw [and127,IntWalk.u64_in ((c.toNat%128:Nat):Int) (by omega)]
 have h1:((c.toNat%128:Nat):Int)*2 ^ (7*k)=((2 ^ (7*k)*(c.toNat%128):Nat):Int):=by
  rw [Int.natCast_mul,Int.mul_comm];simp
 rw [h1,IntWalk.u64_in _ (by omega)]
 have h2:=u64_or_nat N (2 ^ (7*k)*(c.toNat%128)) (by omega) (by omega)
 rw [h2,Nat.or_comm,←Nat.two_pow_add_eq_or_of_lt hN,Nat.add_comm]
set_option maxRecDepth 100000 in
set_option maxHeartbeats 800000 in
theorem get_calls (l:List UInt8) (hl:l.length≤4611686018427387904) (w:World) :
 Calls Tryz.prog 101 #[.string (B l)] w fun e w'=>e = .returned (getTriple l (get l)) ∧ ∃ n,w'=w.drewN n:=by
 obtain ⟨M,hmin,hM1,hM2,hM3⟩ : ∃ M:Nat,(if (10:Int)<(l.length:Int) then (10:Int) else (l.length:Int))=(M:Int)∧M≤10∧M≤l.length∧Hid (M=10∨M=l.length):=by
  refine ⟨min l.length 10,?_,by omega,by omega,?_⟩
  ·split<;>omega
  ·show _∨_;omega
 go_enter Tryz.func101,Tryz.ntmps101
 go_wp2
 go_loop [5,11] (fun n i => ∃ k:Nat,i = .int .i64 k∧k≤M∧n = .int .u64 (val7 (l.take k))∧Hid (k≤lead l)) (fun _ i=>10-(intOf i).toNat)
 case atStart=>exact ⟨0,rfl,by omega,rfl,Nat.zero_le _⟩
 case round=>
  obtain ⟨k,rfl,h1,rfl,h3⟩:=hrel
  by_cases hk:k<M
  ·obtain ⟨c,hc⟩ : ∃ c,l[k]=c:=⟨_,rfl⟩
   have hts:=zDj l k (by omega)
   have hN:=val7_lt (l.take k)
   rw [List.length_take,Nat.min_eq_left (by omega)] at hN
   rw [hc] at hts
   by_cases h9:k=9
   ·subst h9
    by_cases hc1:1<c.toNat
    ·have hfin:Hid (get l=none):=by
      by_cases hbig:128≤c.toNat
      ·exact get_ten (lead_next h3.out (by omega) (by rw [hc];exact hbig))
      ·exact get_nine (by omega) (zDu h3.out (by omega) (by rw [hc];omega)) (by rw [hc];exact hc1)
     clear hts hN
     go_wp2
     all_goals first | (exfalso;omega) | skip
     go_ret3
     exact ⟨by rw [hfin.out];rfl,0,rfl⟩
    ·have hle:Hid (lead l=9):=zDu h3.out (by omega) (by rw [hc];omega)
     have hor0:=or_shl (val7 (l.take 9)) 9 c hN (by omega)
     rw [←hts] at hor0
     have hor:bits .or .u64 (val7 (List.take 9 l):Int) (IntKind.u64.wrap (IntKind.u64.wrap (bits .and .u8 (c.toNat:Int) 127)*9223372036854775808))=((val7 (List.take 10 l):Nat):Int):=by
      rw [show (9223372036854775808:Int)=2 ^ (7*9) from by decide]
      exact hor0
     clear hor0
     clear hts hN
     by_cases h0:c.toNat=0
     ·have hfin:Hid (get l=none):=get_zero (by omega) hle.out (by omega) (by rw [hc];exact h0)
      have h0':((c.toNat:Int)==0)=true:=by simp [h0]
      have h0h:=Lib.hid h0
      clear h0
      go_wp2
      all_goals first | (exfalso;omega) | skip
      go_ret3
      exact ⟨by rw [hfin.out];rfl,0,rfl⟩
     ·have hfin:Hid (get l=some (val7 (l.take (9+1)),9+1)):=get_yes (by omega) hle.out (by omega) (fun _=>by rw [hc];omega) (fun _=>by rw [hc];exact h0)
      have h0':((c.toNat:Int)==0)=false:=by simp;omega
      go_wp2
      all_goals first | (exfalso;omega) | skip
      go_quiet (fail)
      go_wp2
      go_ret3
      exact ⟨by rw [hfin.out];rfl,_,rfl⟩
   ·by_cases hd:128≤c.toNat
    ·have hn:Hid (k+1≤lead l):=lead_next h3.out (by omega) (by rw [hc];exact hd)
     have hor:=or_shl (val7 (l.take k)) k c hN (by
      have:128 ^ k*(c.toNat%128)≤128 ^ k*127:=Nat.mul_le_mul_left _ (by omega)
      have:128 ^ k≤128 ^ 8:=Nat.pow_le_pow_right (by omega) (by omega)
      omega)
     rw [←hts] at hor
     clear hts hN
     go_wp2
     all_goals first | (exfalso;omega) | skip
     go_round
     case rel=>exact ⟨k+1,by go_num,by omega,rfl,hn⟩
     case measure=>simp [intOf];omega
    ·have hle:Hid (lead l=k):=zDu h3.out (by omega) (by rw [hc];omega)
     have hor:=or_shl (val7 (l.take k)) k c hN (by
      have:128 ^ k*(c.toNat%128)≤128 ^ k*127:=Nat.mul_le_mul_left _ (by omega)
      have:128 ^ k≤128 ^ 8:=Nat.pow_le_pow_right (by omega) (by omega)
      omega)
     rw [←hts] at hor
     clear hts hN
     by_cases h0:0<k∧c.toNat=0
     ·obtain ⟨h0k,h0c⟩:=h0
      have hfin:Hid (get l=none):=get_zero (by omega) hle.out h0k (by rw [hc];exact h0c)
      have h0':((c.toNat:Int)==0)=true:=by simp [h0c]
      have h0h:=Lib.hid h0c
      clear h0c
      go_wp2
      all_goals first | (exfalso;omega) | skip
      go_ret3
      exact ⟨by rw [hfin.out];rfl,0,rfl⟩
     ·have hfin:Hid (get l=some (val7 (l.take (k+1)),k+1)):=get_yes (by omega) hle.out (by omega) (fun _=>by omega) (fun h=>by rw [hc];omega)
      by_cases h0k : ¬ 0<k
      ·by_cases h0c:c.toNat=0
       ·have h0':((c.toNat:Int)==0)=true:=by simp [h0c]
        have h0h:=Lib.hid h0c
        clear h0c h0
        go_wp2
        all_goals first | (exfalso;omega) | skip
        go_quiet (fail)
        go_wp2
        go_ret3
        exact ⟨by rw [hfin.out];rfl,_,rfl⟩
       ·have h0':((c.toNat:Int)==0)=false:=by simp;omega
        go_wp2
        all_goals first | (exfalso;omega) | skip
        go_quiet (fail)
        go_wp2
        go_ret3
        exact ⟨by rw [hfin.out];rfl,_,rfl⟩
      ·have h0':((c.toNat:Int)==0)=false:=by simp;omega
       go_wp2
       all_goals first | (exfalso;omega) | skip
       go_quiet (fail)
       go_wp2
       go_ret3
       exact ⟨by rw [hfin.out];rfl,_,rfl⟩
  ·have hfin:Hid (get l=none):=by
    have h3':=h3.out
    rcases hM3.out with h | h
    ·exact get_ten (by omega)
    ·exact get_end (by omega)
   go_wp2
   all_goals first | (exfalso;omega) | skip
   go_ret3
   exact ⟨by rw [hfin.out];rfl,0,rfl⟩
def zObj : Array Value:=(objC ⟨0,[],[],noId,[],0,[],noId,0,[]⟩ (.slice none 0 0) (.slice none 0 0)).toArray
theorem zBt : Tryz.prog.built 59 []=some zObj:=by kernel_rfl
theorem zAB : zObj.size=72:=by kernel_rfl
theorem zCd : zObj.all (·.oneCell')=true:=by kernel_rfl
theorem zeroObj (W:World):(zeroValue 59).run Tryz.prog W = .ok (.agg zObj) W:=by
 have h:(Tryz.prog.info? 59).map (·.zero)=some (some (.agg zObj)):=by kernel_rfl
 obtain ⟨i,h1,h2⟩:=Option.map_eq_some_iff.1 h
 simp [zeroValue,typeInfo,h1,h2]
theorem zE0 : (Tryz.prog.info? 59).map (·.size)=some zObj.size:=by rw [zAB];exact szObj
def RdB (w:World) (g:Nat) (r:Rd):Prop:=Blk w g 141 #[.string (B r.1), .bool r.2]
theorem RdB.c0 {w:World} {g:Nat} {r:Rd} (h:RdB w g r):w.cell? ⟨g,0,none⟩=some (.string (B r.1)):=by rw [Blk.cell h];rfl
theorem RdB.c1 {w:World} {g:Nat} {r:Rd} (h:RdB w g r):w.cell? ⟨g,1,none⟩=some (.bool r.2):=by rw [Blk.cell h];rfl
theorem RdB.f {w:World} {g:Nat} {r:Rd} (h:RdB w g r) (i:Nat):w.frozen? ⟨g,i,none⟩=false:=Blk.frozen h i
theorem RdB.bad {w:World} {g:Nat} {r:Rd} (h:RdB w g r):RdB (w.setCell ⟨g,1,none⟩ (.bool true)) g (r.1,true):=Blk.set_ h 1 _
theorem RdB.rest {w:World} {g:Nat} {r:Rd} (h:RdB w g r) (s:Txt):RdB (w.setCell ⟨g,0,none⟩ (.string (B s))) g (s,r.2):=Blk.set_ h 0 _
theorem RdB.drewN {w:World} {g:Nat} {r:Rd} (h:RdB w g r) (n:Nat):RdB (w.drewN n) g r:=Blk.drewN h n
theorem RdB.below {w w':World} {g:Nat} {r:Rd} (h:RdB w g r) (hb:Below w.heap.size w w'):RdB w' g r:=(hb.block g (Blk.lt h)).trans h
theorem zC4 {n:Nat} {r:Rd} (h:r.2=true∨r.1.length<n):rBytes n r=([],(r.1,true)):=by unfold rBytes;rw [if_pos h]
theorem rBytes_ok {n:Nat} {r:Rd} (h1:r.2=false) (h:n≤r.1.length):rBytes n r=(r.1.take n,(r.1.drop n,false)):=by unfold rBytes;rw [if_neg (by rw [h1];simp;omega)]
set_option maxRecDepth 100000 in
set_option maxHeartbeats 2000000 in
theorem rb_calls (n:Nat) (r:Rd) (hr:r.1.length≤100000) (hn:n≤100000) (g:Nat) (w:World) (hb:RdB w g r):Calls Tryz.prog 102 #[.pointer (some ⟨g,0,none⟩), .int .i64 n] w fun e w'=>e = .returned (.string (B (rBytes n r).1))∧RdB w' g (rBytes n r).2∧Far [some g] w w':=by
 obtain ⟨s,b⟩:=r
 have c0:=hb.c0
 have c1:=hb.c1
 have f0:=hb.f 0
 have f1:=hb.f 1
 simp only at c0 c1 hr
 cases b with
 | true=>
   rw [zC4 (.inl rfl)]
   have hb2:=hb.bad
   have hfar:Far [some g] w (w.setCell ⟨g,1,none⟩ (.bool true)):=(Far.refl _ _).set_ (.inl (by simp)) _
   go_enter Tryz.func102,Tryz.ntmps102
   go_wp2
   go_ret
   exact ⟨rfl,hb2,hfar⟩
 | false=>
   by_cases hlt:s.length<n
   ·have hli:(s.length:Int)<(n:Int):=by omega
    rw [zC4 (.inr hlt)]
    have hb2:=hb.bad
    have hfar:Far [some g] w (w.setCell ⟨g,1,none⟩ (.bool true)):=(Far.refl _ _).set_ (.inl (by simp)) _
    go_enter Tryz.func102,Tryz.ntmps102
    go_wp2
    all_goals try (exfalso;omega)
    go_ret
    exact ⟨rfl,hb2,hfar⟩
   ·have hli : ¬ (s.length:Int)<(n:Int):=by omega
    have hle:n≤s.length:=by omega
    have hlei:(n:Int)≤(s.length:Int):=by omega
    rw [rBytes_ok rfl hle]
    have x1:(B s).extract 0 n=B (s.take n):=zEA s n
    have x2:(B s).extract n s.length=B (s.drop n):=zCg s n
    have hb2:=hb.rest (s.drop n)
    have hfar:Far [some g] w (w.setCell ⟨g,0,none⟩ (.string (B (s.drop n)))):=(Far.refl _ _).set_ (.inl (by simp)) _
    go_enter Tryz.func102,Tryz.ntmps102
    go_wp2
    all_goals try (exfalso;omega)
    go_ret
    exact ⟨rfl,hb2,hfar⟩
def takeV (s:Txt):Value:=match takeP s with
 | some (t,q) => .tuple #[.string (B t), .string (B q), .int .i64 0]
 | none => .tuple #[.string (B []), .string (B []), .int .i64 2]
theorem zCu {s t q:Txt} (h:takeP s=some (t,q)):takeV s = .tuple #[.string (B t), .string (B q), .int .i64 0]:=by unfold takeV;rw [h]
theorem zDa {s:Txt} (h:takeP s=none):takeV s = .tuple #[.string (B []), .string (B []), .int .i64 2]:=by unfold takeV;rw [h]
set_option maxRecDepth 100000 in
set_option maxHeartbeats 800000 in
theorem zEb (s:Txt) (hs:s.length≤4611686018427387904) (w:World):Calls Tryz.prog 74 #[.string (B s)] w fun e w'=>e = .returned (takeV s) ∧ ∃ n,w'=w.drewN n:=by
 have hget:=get_calls s hs w
 obtain ⟨r,hr⟩ : ∃ r,Hid (takeV s=r):=⟨_,Lib.hid rfl⟩
 rw [hr.out]
 cases h:get s with
 | none=>
   rw [h] at hget
   have hget:Calls Tryz.prog 101 #[.string (B s)] w fun e w'=>e = .returned (.tuple #[.int .u64 0, .string (B []), .int .i64 2]) ∧ ∃ n,w'=w.drewN n:=hget
   have hget:=Lib.hid hget
   have hrr:Hid (_=r):=(zDa (takeP_none h)).symm.trans hr.out
   clear h hr
   go_enter Tryz.func74,Tryz.ntmps74
   go_wp2_with (first
    | ((with_reducible refine hget.out.mono ?_);rintro e w1 ⟨rfl,nq,rfl⟩))
   go_ret3
   exact ⟨by rw [←hrr.out];rfl,nq,rfl⟩
 | some p=>
   obtain ⟨n,k⟩:=p
   rw [h] at hget
   have hget:Calls Tryz.prog 101 #[.string (B s)] w fun e w'=>e = .returned (.tuple #[.int .u64 n, .string (B (s.drop k)), .int .i64 0]) ∧ ∃ n,w'=w.drewN n:=hget
   have hget:=Lib.hid hget
   have hle:(s.drop k).length≤s.length:=by rw [List.length_drop];omega
   by_cases hlt:(s.drop k).length<n
   ·have hrr:Hid (_=r):=(zDa (takeP_short h hlt)).symm.trans hr.out
    generalize s.drop k=R at *
    have hi:(R.length:Int)<(n:Int):=by omega
    clear h hr
    go_enter Tryz.func74,Tryz.ntmps74
    go_wp2_with (first
     | ((with_reducible refine hget.out.mono ?_);rintro e w1 ⟨rfl,nq,rfl⟩))
    all_goals try (exfalso;omega)
    go_ret3
    exact ⟨by rw [←hrr.out];rfl,nq,rfl⟩
   ·have hrr:Hid (_=r):=(zCu (takeP_yes h (by omega))).symm.trans hr.out
    generalize s.drop k=R at *
    have hi : ¬ (R.length:Int)<(n:Int):=by omega
    have hle2:(n:Int)≤(R.length:Int):=by omega
    have hle3:n≤R.length:=by omega
    have x1:(B R).extract 0 n=B (R.take n):=zEA R n
    have x2:(B R).extract n R.length=B (R.drop n):=zCg R n
    clear h hr
    go_enter Tryz.func74,Tryz.ntmps74
    go_wp2_with (first
     | ((with_reducible refine hget.out.mono ?_);rintro e w1 ⟨rfl,nq,rfl⟩))
    all_goals try (exfalso;omega)
    go_quiet (fail)
    go_wp2
    go_ret3
    exact ⟨by rw [←hrr.out];rfl,_,World.drewN_drewN _ _ _⟩
def takeNV (s:Txt):Value := .tuple #[.string (B (takeN s).1), .int .i64 (takeN s).2]
set_option maxRecDepth 100000 in
set_option maxHeartbeats 800000 in
theorem zAM (s:Txt) (hs:s.length≤4611686018427387904) (w:World):Calls Tryz.prog 119 #[.string (B s)] w fun e w'=>e = .returned (takeNV s)∧w'=w:=by
 have hget:=zCP s hs w
 have hgg:getPair (get s) = .tuple #[.int .u64 (getN s).1, .int .i64 (getN s).2]:=by
  unfold getN
  cases get s<;>rfl
 rw [hgg] at hget
 have hget:=Lib.hid hget
 have hb1:=getN_le s
 have hb2:=getN_num s
 obtain ⟨r,hr⟩ : ∃ r,Hid (takeNV s=r):=⟨_,Lib.hid rfl⟩
 rw [hr.out]
 have hr0 := @takeN_zero s
 have hr1 := @takeN_short s
 have hr2 := @takeN_yes s
 unfold takeNV at hr
 generalize (getN s).1=n at *
 generalize (getN s).2=k at *
 by_cases h0:k=0
 ·have hrr:Hid (_=r):=(by rw [←hr.out,hr0 h0];rfl:Value.tuple #[.string (B []), .int .i64 0]=r)
  have i0:(k:Int)=0:=by omega
  clear hr hr0 hr1 hr2 hgg
  subst h0
  go_enter Tryz.func119,Tryz.ntmps119
  go_wp2_with (first
   | ((with_reducible refine hget.out.mono ?_);rintro e w1 ⟨rfl,rfl⟩))
  all_goals try (exfalso;omega)
  go_ret2
  exact ⟨by rw [←hrr.out];rfl,rfl⟩
 ·have i0 : ¬ (k:Int)=0:=by omega
  have i1:1≤k:=by omega
  have x0:IntKind.u64.wrap ((s.length:Int)-(k:Int))=((s.length-k:Nat):Int):=by
   rw [IntWalk.u64_in _ (by omega)];omega
  by_cases hlt:s.length-k<n
  ·have hrr:Hid (_=r):=(by rw [←hr.out,hr1 h0 hlt];rfl:Value.tuple #[.string (B []), .int .i64 0]=r)
   have hi:((s.length-k:Nat):Int)<(n:Int):=by omega
   have hj:(s.length:Int)-(k:Int)<(n:Int):=by omega
   clear hr hr0 hr1 hr2 hgg h0 hlt x0
   go_enter Tryz.func119,Tryz.ntmps119
   go_wp2_with (first
    | ((with_reducible refine hget.out.mono ?_);rintro e w1 ⟨rfl,rfl⟩))
   all_goals try (exfalso;omega)
   go_ret2
   exact ⟨by rw [←hrr.out];rfl,rfl⟩
  ·have hrr:Hid (_=r):=(by rw [←hr.out,hr2 h0 (by omega)];rfl:Value.tuple #[.string (B ((s.drop k).take n)), .int .i64 ((k:Int)+(n:Int))]=r)
   have hi : ¬ ((s.length-k:Nat):Int)<(n:Int):=by omega
   have hj : ¬ (s.length:Int)-(k:Int)<(n:Int):=by omega
   have y0:k+n≤s.length:=by omega
   have x1:(B s).extract k (k+n)=B ((s.drop k).take n):=by rw [zAV];rw [Nat.add_sub_cancel_left]
   clear hr hr0 hr1 hr2 hgg h0 hlt x0
   go_enter Tryz.func119,Tryz.ntmps119
   go_wp2_with (first
    | ((with_reducible refine hget.out.mono ?_);rintro e w1 ⟨rfl,rfl⟩))
   all_goals try (exfalso;omega)
   go_ret2
   refine ⟨?_,rfl⟩
   rw [←hrr.out]
   show Ending.returned (.tuple #[.string (B ((s.drop k).take (k+n-k))), .int .i64 ((k:Int)+(n:Int))])=_
   rw [Nat.add_sub_cancel_left]
theorem rNum_bad {r:Rd} (h:r.2=true∨get r.1=none):rNum r=(0,(r.1,true)):=by
 unfold rNum
 rcases h with h | h
 ·rw [if_pos h]
 ·split
  ·rfl
  ·rw [h]
theorem rNum_ok {r:Rd} {n k:Nat} (h1:r.2=false) (h:get r.1=some (n,k)):rNum r=(n,(r.1.drop k,false)):=by unfold rNum;rw [if_neg (by rw [h1];simp),h]
theorem rText_bad {r:Rd} (h:r.2=true∨takeP r.1=none):rText r=([],(r.1,true)):=by
 unfold rText
 rcases h with h | h
 ·rw [if_pos h]
 ·split
  ·rfl
  ·rw [h]
theorem rText_ok {r:Rd} {t q:Txt} (h1:r.2=false) (h:takeP r.1=some (t,q)):rText r=(t,(q,false)):=by unfold rText;rw [if_neg (by rw [h1];simp),h]
set_option maxRecDepth 100000 in
set_option maxHeartbeats 2000000 in
theorem rn_calls (r:Rd) (hr:r.1.length≤100000) (g:Nat) (w:World) (hb:RdB w g r):Calls Tryz.prog 106 #[.pointer (some ⟨g,0,none⟩)] w fun e w'=>e = .returned (.int .u64 (rNum r).1)∧RdB w' g (rNum r).2∧Far [some g] w w':=by
 obtain ⟨s,b⟩:=r
 have c0:=hb.c0
 have c1:=hb.c1
 have f0:=hb.f 0
 have f1:=hb.f 1
 simp only at c0 c1 hr
 have hget:=get_calls s (by omega) w
 by_cases hbad:b=true∨get s=none
 ·rw [rNum_bad hbad]
  have hb2:=fun n=>(hb.drewN n).bad
  have hfar : ∀ n,Far [some g] w ((w.drewN n).setCell ⟨g,1,none⟩ (.bool true)):=fun n=>((Far.refl _ _).drewN n).set_ (.inl (by simp)) _
  cases hg:get s with
  | none=>
    rw [hg] at hget
    have hget:Calls Tryz.prog 101 #[.string (B s)] w fun e w'=>e = .returned (.tuple #[.int .u64 0, .string (B []), .int .i64 2]) ∧ ∃ n,w'=w.drewN n:=hget
    have hget:=Lib.hid hget
    clear hbad hg
    cases b
    all_goals
     go_enter Tryz.func106,Tryz.ntmps106
     go_wp2_with (first
      | ((with_reducible refine hget.out.mono ?_);rintro e w1 ⟨rfl,nq,rfl⟩))
     go_ret
     exact ⟨rfl,hb2 nq,hfar nq⟩
  | some p=>
    obtain ⟨n,k⟩:=p
    have hbt:b=true:=by
     rcases hbad with h | h
     ·exact h
     ·rw [hg] at h;cases h
    subst hbt
    rw [hg] at hget
    have hget:Calls Tryz.prog 101 #[.string (B s)] w fun e w'=>e = .returned (.tuple #[.int .u64 n, .string (B (s.drop k)), .int .i64 0]) ∧ ∃ n,w'=w.drewN n:=hget
    have hget:=Lib.hid hget
    clear hbad hg
    go_enter Tryz.func106,Tryz.ntmps106
    go_wp2_with (first
     | ((with_reducible refine hget.out.mono ?_);rintro e w1 ⟨rfl,nq,rfl⟩))
    go_ret
    exact ⟨rfl,hb2 nq,hfar nq⟩
 ·cases b with
  | true=>exact absurd (.inl rfl) hbad
  | false=>
    cases hg:get s with
    | none=>exact absurd (.inr hg) hbad
    | some p=>
      obtain ⟨n,k⟩:=p
      rw [rNum_ok rfl hg]
      rw [hg] at hget
      have hget:Calls Tryz.prog 101 #[.string (B s)] w fun e w'=>e = .returned (.tuple #[.int .u64 n, .string (B (s.drop k)), .int .i64 0]) ∧ ∃ n,w'=w.drewN n:=hget
      have hget:=Lib.hid hget
      have hb2:=fun n=>(hb.drewN n).rest (s.drop k)
      have hfar : ∀ n,Far [some g] w ((w.drewN n).setCell ⟨g,0,none⟩ (.string (B (s.drop k)))):=fun n=>((Far.refl _ _).drewN n).set_ (.inl (by simp)) _
      clear hbad hg
      go_enter Tryz.func106,Tryz.ntmps106
      go_wp2_with (first
       | ((with_reducible refine hget.out.mono ?_);rintro e w1 ⟨rfl,nq,rfl⟩))
      go_ret
      exact ⟨rfl,hb2 nq,hfar nq⟩
set_option maxRecDepth 100000 in
set_option maxHeartbeats 2000000 in
theorem rt_calls (r:Rd) (hr:r.1.length≤100000) (g:Nat) (w:World) (hb:RdB w g r):Calls Tryz.prog 104 #[.pointer (some ⟨g,0,none⟩)] w fun e w'=>e = .returned (.string (B (rText r).1))∧RdB w' g (rText r).2∧Far [some g] w w':=by
 obtain ⟨s,b⟩:=r
 have c0:=hb.c0
 have c1:=hb.c1
 have f0:=hb.f 0
 have f1:=hb.f 1
 simp only at c0 c1 hr
 have htk:=zEb s (by omega) w
 by_cases hbad:b=true∨takeP s=none
 ·rw [rText_bad hbad]
  have hb2:=fun n=>(hb.drewN n).bad
  have hfar : ∀ n,Far [some g] w ((w.drewN n).setCell ⟨g,1,none⟩ (.bool true)):=fun n=>((Far.refl _ _).drewN n).set_ (.inl (by simp)) _
  cases hg:takeP s with
  | none=>
    rw [zDa hg] at htk
    have htk:=Lib.hid htk
    clear hbad hg
    cases b
    all_goals
     go_enter Tryz.func104,Tryz.ntmps104
     go_wp2_with (first
      | ((with_reducible refine htk.out.mono ?_);rintro e w1 ⟨rfl,nq,rfl⟩))
     go_ret
     exact ⟨rfl,hb2 nq,hfar nq⟩
  | some p=>
    obtain ⟨t,q⟩:=p
    have hbt:b=true:=by
     rcases hbad with h | h
     ·exact h
     ·rw [hg] at h;cases h
    subst hbt
    rw [zCu hg] at htk
    have htk:=Lib.hid htk
    clear hbad hg
    go_enter Tryz.func104,Tryz.ntmps104
    go_wp2_with (first
     | ((with_reducible refine htk.out.mono ?_);rintro e w1 ⟨rfl,nq,rfl⟩))
    go_ret
    exact ⟨rfl,hb2 nq,hfar nq⟩
 ·cases b with
  | true=>exact absurd (.inl rfl) hbad
  | false=>
    cases hg:takeP s with
    | none=>exact absurd (.inr hg) hbad
    | some p=>
      obtain ⟨t,q⟩:=p
      rw [rText_ok rfl hg]
      rw [zCu hg] at htk
      have htk:=Lib.hid htk
      have hb2:=fun n=>(hb.drewN n).rest q
      have hfar : ∀ n,Far [some g] w ((w.drewN n).setCell ⟨g,0,none⟩ (.string (B q))):=fun n=>((Far.refl _ _).drewN n).set_ (.inl (by simp)) _
      clear hbad hg
      go_enter Tryz.func104,Tryz.ntmps104
      go_wp2_with (first
       | ((with_reducible refine htk.out.mono ?_);rintro e w1 ⟨rfl,nq,rfl⟩))
      go_ret
      exact ⟨rfl,hb2 nq,hfar nq⟩
theorem rKind_bad {r:Rd} (h:r.2=true∨r.1.length<1):rKind r=(0,(r.1,true)):=by unfold rKind;rw [zC4 h];rfl
theorem rKind_ok {c:UInt8} {q:Txt}:rKind (c::q,false)=(c.toNat,(q,false)):=by unfold rKind;rw [rBytes_ok rfl (by simp)];rfl
set_option maxRecDepth 100000 in
set_option maxHeartbeats 2000000 in
theorem rk_calls (r:Rd) (hr:r.1.length≤100000) (g:Nat) (w:World) (hb:RdB w g r):Calls Tryz.prog 103 #[.pointer (some ⟨g,0,none⟩)] w fun e w'=>e = .returned (.int .i64 (rKind r).1)∧RdB w' g (rKind r).2∧Far [some g] w w':=by
 have hcall:=rb_calls 1 r hr (by omega) g w hb
 by_cases hbad:r.2=true∨r.1.length<1
 ·rw [rKind_bad hbad]
  rw [zC4 hbad] at hcall
  have hcall:Calls Tryz.prog 102 #[.pointer (some ⟨g,0,none⟩), .int .i64 1] w fun e w'=>e = .returned (.string (B []))∧RdB w' g (r.1,true)∧Far [some g] w w':=hcall
  have hcall:=Lib.hid hcall
  clear hb hbad
  go_enter Tryz.func103,Tryz.ntmps103
  go_wp2_with (first
   | ((with_reducible refine hcall.out.mono ?_);rintro e w1 ⟨rfl,hb1,hf1⟩
      have c1:w1.cell? ⟨g,1,none⟩=some (.bool true):=hb1.c1))
  go_ret
  exact ⟨rfl,hb1,hf1⟩
 ·obtain ⟨s,b⟩:=r
  cases b with
  | true=>exact absurd (.inl rfl) hbad
  | false=>
    match s,hbad with
    | [],hbad=>exact absurd (.inr (by simp)) hbad
    | c::q,_=>
      rw [rKind_ok]
      rw [rBytes_ok rfl (by simp)] at hcall
      have hcall:Calls Tryz.prog 102 #[.pointer (some ⟨g,0,none⟩), .int .i64 1] w fun e w'=>e = .returned (.string (B [c]))∧RdB w' g (q,false)∧Far [some g] w w':=hcall
      have hcall:=Lib.hid hcall
      have hc0:0≤(c.toNat:Int):=by omega
      have hc1:(c.toNat:Int)<256:=by have:=c.toNat_lt;omega
      clear hb
      go_enter Tryz.func103,Tryz.ntmps103
      go_wp2_with (first
       | ((with_reducible refine hcall.out.mono ?_);rintro e w1 ⟨rfl,hb1,hf1⟩
          have c1:w1.cell? ⟨g,1,none⟩=some (.bool false):=hb1.c1))
      go_ret
      exact ⟨rfl,hb1,hf1⟩
section
theorem ofNat_toNat (n:Nat) (h:n<256):(UInt8.ofNat n).toNat=n:=by simp [Nat.mod_eq_of_lt h]
theorem lead_split : ∀ (i:List UInt8) (c:UInt8) (r:List UInt8),(∀ x∈i,128≤x.toNat)→c.toNat<128→lead (i++c::r)=i.length
 | [],c,r,_,hc=>by rw [List.nil_append,lead,if_neg (by omega)];rfl
 | x::i,c,r,hi,hc=>by
   rw [List.cons_append,lead,if_pos (hi x (by simp)),lead_split i c r (fun y hy=>hi y (by simp [hy])) hc]
   rfl
theorem putF_split (f:Nat) : ∀ n,Fits f n → ∃ (i:List UInt8) (c:UInt8),putF f n=i++[c]∧(∀ x∈i,128≤x.toNat)∧c.toNat<128∧i.length≤f∧val7 (putF f n)=n∧(i≠[]→c.toNat≠0)∧(i.length=f→c.toNat<2):=by
 induction f with
 | zero=>
   intro n h
   have h0:n<2:=by unfold Fits at h;omega
   refine ⟨[],UInt8.ofNat n,rfl,by simp,?_,by simp,?_,by simp,?_⟩
   ·simp;omega
   ·simp [putF,val7];omega
   ·intro _;simp;omega
 | succ f ih=>
   intro n h
   by_cases hn:n<128
   ·rw [zEp _ _ hn]
    refine ⟨[],UInt8.ofNat n,rfl,by simp,?_,by simp,?_,by simp,by simp⟩
    ·simp;omega
    ·simp [val7];omega
   ·obtain ⟨i,c,h1,h2,h3,h4,h5,h6,h7⟩:=ih (n / 128) h.next
    rw [putF_big f n (by omega)]
    refine ⟨UInt8.ofNat (128+n%128)::i,c,by rw [h1];rfl,?_,h3,by simpa using h4,?_,?_,?_⟩
    ·intro x hx
     rcases List.mem_cons.1 hx with rfl | hx
     ·rw [ofNat_toNat _ (by omega)];omega
     ·exact h2 x hx
    ·rw [val7,h5,ofNat_toNat _ (by omega)];omega
    ·intro _
     by_cases hi:i=[]
     ·subst hi
      intro hc
      rw [h1] at h5
      simp [val7] at h5
      omega
     ·exact h6 hi
    ·intro hl
     exact h7 (by simpa using hl)
theorem get_put (n:Nat) (h:n≤18446744073709551615) (r:List UInt8):get (put n++r)=some (n,(put n).length):=by
 obtain ⟨i,c,h1,h2,h3,h4,h5,h6,h7⟩:=putF_split 9 n (Fits.of64 h)
 have hp:put n=i++[c]:=h1
 have hl:lead (put n++r)=i.length:=by rw [hp,List.append_assoc];exact lead_split i c r h2 h3
 have hlen:(put n).length=i.length+1:=by rw [hp];simp
 have hat:(put n++r)[i.length]'(by rw [List.length_append];omega)=c:=by simp [hp]
 have ht:(put n++r).take (i.length+1)=put n:=by rw [←hlen,List.take_left]
 rw [get_yes (e:=i.length) (by rw [List.length_append];omega) hl (by omega) (fun h9=>by rw [hat];have:=h7 h9;omega) (fun h0=>by rw [hat];exact h6 (by intro hi;rw [hi] at h0;simp at h0)),ht,hlen]
 exact congrArg (fun v=>some (v,i.length+1)) h5
def un (s out:List UInt8) (most:Nat):List UInt8×Nat:=unF s.length s out most
theorem unF_fuel : ∀ (fu:Nat) (s out:List UInt8) (most:Nat),s.length≤fu→unF fu s out most=un s out most:=by
 intro fu
 induction fu using Nat.strongRecOn with
 | _ fu ih=>
   intro s out most hs
   cases s with
   | nil=>rw [unF_nil,un,unF_nil]
   | cons c r=>
     obtain ⟨g,rfl⟩ : ∃ g,fu=g+1:=⟨fu-1,by simp at hs;omega⟩
     unfold un
     rw [List.length_cons]
     have hne:c::r≠[]:=by simp
     rw [List.length_cons] at hs
     rcases hrd:rd (c::r) out.length with _ | ⟨n,f,t⟩
     ·rw [unF_bad hne hrd,unF_bad hne hrd]
     ·obtain ⟨_,q2,_⟩:=rd_bounds hrd
      rw [List.length_cons] at q2
      by_cases hb:most-out.length<n
      ·rw [unF_big hne hrd hb,unF_big hne hrd hb]
      ·by_cases hf:f=0
       ·subst hf
        have hd:(t.drop n).length≤t.length:=by rw [List.length_drop];omega
        rw [unF_plain hne hrd (by omega),unF_plain hne hrd (by omega),ih g (by omega) _ _ _ (by omega)]
        by_cases hg:r.length=g
        ·rw [hg,ih g (by omega) _ _ _ (by omega)]
        ·rw [ih r.length (by omega) _ _ _ (by omega)]
       ·rw [unF_far hne hrd hf (by omega),unF_far hne hrd hf (by omega),ih g (by omega) _ _ _ (by omega)]
        by_cases hg:r.length=g
        ·rw [hg,ih g (by omega) _ _ _ (by omega)]
        ·rw [ih r.length (by omega) _ _ _ (by omega)]
section
variable {most n f:Nat} {s out r:List UInt8}
theorem un_big (hs:s≠[]) (h:rd s out.length=some (n,f,r)) (hb:most-out.length<n):un s out most=([],3):=by
 obtain ⟨c,t,rfl⟩ : ∃ c t,s=c::t:=by cases s with
  | nil=>exact absurd rfl hs
  | cons c t=>exact ⟨c,t,rfl⟩
 exact unF_big hs h hb
theorem un_far (hs:s≠[]) (h:rd s out.length=some (n,f,r)) (hf:f≠0) (hb:n≤most-out.length):un s out most=un r (back n f out) most:=by
 obtain ⟨c,t,rfl⟩ : ∃ c t,s=c::t:=by cases s with
  | nil=>exact absurd rfl hs
  | cons c t=>exact ⟨c,t,rfl⟩
 obtain ⟨_,q2,_⟩:=rd_bounds h
 rw [List.length_cons] at q2
 unfold un
 rw [List.length_cons,unF_far hs h hf hb]
 exact unF_fuel _ _ _ _ (by omega)
end
def Leads (e o t:List UInt8):Prop:=
 o.length≤t.length∧(∀ r most,t.length≤most→un (e++r) o most=un r t most) ∧ ∀ r most,o.length≤most→most<t.length→un (e++r) o most=([],3)
theorem Leads.refl (o:List UInt8):Leads [] o o:=⟨Nat.le_refl _,fun r most _=>rfl,fun r most h1 h2=>absurd h2 (by omega)⟩
theorem Leads.trans {e e' o t t':List UInt8} (h:Leads e o t) (h':Leads e' t t'):Leads (e++e') o t':=by
 refine ⟨Nat.le_trans h.1 h'.1,fun r most hm=>?_,fun r most h1 h2=>?_⟩
 ·rw [List.append_assoc,h.2.1 _ _ (Nat.le_trans h'.1 hm),h'.2.1 _ _ hm]
 ·rw [List.append_assoc]
  rcases Nat.lt_or_ge most t.length with hlt | hge
  ·exact h.2.2 _ _ h1 hlt
  ·rw [h.2.1 _ _ hge,h'.2.2 _ _ hge h2]
theorem put_ne (n:Nat) (r:List UInt8):put n++r≠[]:=by
 intro h
 have h1:=congrArg List.length h
 have h2:0<(put n).length:=putF_pos 9 n
 rw [List.length_append,List.length_nil] at h1
 omega
theorem Leads.far (n f:Nat) (o:List UInt8) (h0:4≤n) (h1:2*n+1≤18446744073709551615) (h2:1≤f) (h3:f≤65535) (h4:f≤o.length):Leads (put (2*n+1)++put f) o (back n f o):=by
 have hrd : ∀ r,rd (put (2*n+1)++put f++r) o.length=some (n,f,r):=by
  intro r
  have hg:=get_put (2*n+1) h1 (put f++r)
  rw [←List.append_assoc] at hg
  have hd:(put (2*n+1)++put f++r).drop (put (2*n+1)).length=put f++r:=by rw [List.append_assoc,List.drop_left]
  have hg2:=get_put f (by omega) r
  rw [rd_far hg (by omega) (by rw [hd];exact hg2) (by omega) h2 h3 h4,hd,List.drop_left]
  congr 2
  omega
 have hne : ∀ r,put (2*n+1)++put f++r≠[]:=fun r=>by rw [List.append_assoc];exact put_ne _ _
 have hlen:=back_length n f o
 refine ⟨by omega,fun r most hm=>?_,fun r most hm h5=>?_⟩
 ·rw [un_far (hne r) (hrd r) (by omega) (by omega)]
 ·exact un_big (hne r) (hrd r) (by omega)
end
section
theorem val7_pos : ∀ (i:List UInt8) (c:UInt8),c≠0→c.toNat<128→1≤val7 (i++[c])
 | [],c,h,h1=>by
   have:c.toNat≠0:=fun e=>h (UInt8.toNat_inj.1 e)
   show 1≤c.toNat%128+128*val7 []
   have e:val7 []=0:=rfl
   omega
 | x::i,c,h,h1=>by
   have:=val7_pos i c h h1
   show 1≤x.toNat%128+128*val7 (i++[c])
   omega
theorem putF_of : ∀ (i:List UInt8) (f:Nat) (c:UInt8),(∀ x∈i,128≤x.toNat)→c.toNat<128→(i≠[]→c≠0)→i.length≤f→putF f (val7 (i++[c]))=i++[c]
 | [],f,c,_,h2,_,_=>by
   have e:val7 ([]++[c])=c.toNat:=by
    show c.toNat%128+128*val7 []=_
    have e:val7 []=0:=rfl
    omega
   rw [e,zEp _ _ h2]
   simp
 | x::i,0,c,_,_,_,h4=>by simp at h4
 | x::i,f+1,c,h1,h2,h3,h4=>by
   have hx:=h1 x (by simp)
   have hx2:x.toNat<256:=x.toNat_lt
   have hp:=val7_pos i c (h3 (by simp)) h2
   have e:val7 (x::i++[c])=x.toNat%128+128*val7 (i++[c]):=rfl
   have ih:=putF_of i f c (fun y hy=>h1 y (by simp [hy])) h2 (fun _=>h3 (by simp)) (by simp at h4;omega)
   rw [e,putF_big _ _ (by omega),show (x.toNat%128+128*val7 (i++[c])) / 128=val7 (i++[c]) from by omega,ih,show 128+(x.toNat%128+128*val7 (i++[c]))%128=x.toNat from by omega]
   simp
theorem put_get {l:List UInt8} {n k:Nat} (h:get l=some (n,k)):l.take k=put n∧l=put n++l.drop k:=by
 have key:l.take k=put n:=by
  unfold get at h
  split at h
  ·rename_i hc
   simp only [Option.some.injEq,Prod.mk.injEq] at h
   obtain ⟨rfl,rfl⟩:=h
   obtain ⟨h1,h2,h3,h4⟩:=hc
   have e:l.take (lead l+1)=l.take (lead l)++[l[lead l]]:=by
    rw [List.take_add_one,List.getElem?_eq_getElem h1];rfl
   rw [e]
   unfold put
   refine (putF_of _ 9 _ ?_ (zEu l h1) ?_ (by rw [List.length_take];omega)).symm
   ·intro x hx
    obtain ⟨i,hi,rfl⟩:=List.getElem_of_mem hx
    rw [List.length_take] at hi
    rw [List.getElem_take]
    exact lead_big l i (by omega) (by omega)
   ·intro hne h0
    apply h4
    refine ⟨?_,?_⟩
    ·rcases Nat.eq_zero_or_pos (lead l) with h | h
     ·rw [h] at hne;simp at hne
     ·exact h
    ·rw [getD_lt h1];exact h0
  ·cases h
 exact ⟨key,by rw [←key];exact (List.take_append_drop k l).symm⟩
theorem takeP_text (t r:Txt) (ht:t.length≤18446744073709551615):takeP (textE t++r)=some (t,r):=by
 unfold takeP textE
 rw [List.append_assoc,get_put _ ht]
 simp
theorem zCr {s t r:Txt} (h:takeP s=some (t,r)):s=textE t++r:=by
 unfold takeP at h
 cases hg:get s with
 | none=>rw [hg] at h;cases h
 | some p=>
   obtain ⟨n,k⟩:=p
   rw [hg] at h
   simp only at h
   split at h
   ·rename_i hn
    injection h with h
    injection h with h1 h2
    have h3:=(put_get hg).2
    subst h1;subst h2
    unfold textE
    rw [List.length_take,Nat.min_eq_left hn,List.append_assoc,List.take_append_drop]
    exact h3
   ·cases h
section
variable {r:Rd}
end
theorem zEj (a b:Txt) (n:Nat) (hn:a.length=n):rBytes n (a++b,false)=(a,(b,false)):=by
 unfold rBytes
 rw [if_neg (by simp;omega)]
 subst hn
 simp
theorem rNum_app (n:Nat) (hn:n≤18446744073709551615) (b:Txt):rNum (put n++b,false)=(n,(b,false)):=by
 unfold rNum
 rw [if_neg (by simp)]
 simp only [get_put n hn b]
 simp
theorem rText_app (t b:Txt) (ht:t.length≤18446744073709551615):rText (textE t++b,false)=(t,(b,false)):=by
 unfold rText
 rw [if_neg (by simp)]
 simp only [takeP_text t b ht]
theorem rId_app (i b:Txt) (hi:i.length=32):rId (i++b,false)=(i,(b,false)):=by
 unfold rId
 rw [zEj i b 32 hi]
 have:i≠[]:=by intro e;rw [e] at hi;simp at hi
 simp [idOr,this]
theorem zCp (c:UInt8) (b:Txt):rKind (c::b,false)=(c.toNat,(b,false)):=by
 unfold rKind
 rw [show (c::b:Txt)=[c]++b from rfl,zEj [c] b 1 rfl]
 rfl
theorem zDN {k:Int} (h1:0≤k) (h2:k<256):((byteK k).toNat:Int)=k:=by
 unfold byteK
 rw [zDi _ (by omega)]
 omega
theorem byteK_back (c:UInt8):byteK (c.toNat:Int)=c:=by
 unfold byteK
 have:=c.toNat_lt
 rw [show ((c.toNat:Int)%256).toNat=c.toNat from by omega]
 simp
theorem rEnt_app (e:EntL) (b:Txt) (hk:e.kind=1∨e.kind=2) (hi:e.id.length=32) (hn:e.name.length≤18446744073709551615):rEnt (entE e++b,false)=(e,(b,false)):=by
 unfold rEnt entE
 rw [List.cons_append,List.append_assoc,zCp]
 simp only [rText_app e.name (e.id++b) hn,rId_app e.id b hi]
 have:=zDN (k:=e.kind) (by omega) (by omega)
 rw [this]
theorem rTree_app : ∀ (l:List EntL) (f:Nat) (acc:List EntL),(∀ e∈l,(e.kind=1∨e.kind=2)∧e.id.length=32∧e.name.length≤18446744073709551615)→l.length≤f→rTree f (entsE l,false) acc=(acc++l,([],false))
 | [],0,acc,_,_=>by simp [rTree,entsE]
 | [],f+1,acc,_,_=>by simp [rTree,entsE]
 | e::l,0,acc,_,hf=>by simp at hf
 | e::l,f+1,acc,h,hf=>by
   have h1:=h e (by simp)
   have he:entsE (e::l)=entE e++entsE l:=by simp [entsE]
   have hne:entE e++entsE l≠[]:=by unfold entE;simp
   rw [rTree,he,if_neg (by simp [hne]),rEnt_app e _ h1.1 h1.2.1 h1.2.2]
   simp only
   rw [rTree_app l f _ (fun x hx=>h x (by simp [hx])) (by simp at hf;omega)]
   simp
theorem rPars_app (b:Txt) : ∀ (l:List Txt) (acc:List Txt),(∀ p∈l,p.length=32)→rPars l.length (l.flatten++b,false) acc=(acc++l,(b,false))
 | [],acc,_=>by simp [rPars]
 | p::l,acc,h=>by
   rw [List.length_cons,rPars,if_neg (by simp),List.flatten_cons,List.append_assoc,rId_app p _ (h p (by simp))]
   simp only
   rw [rPars_app b l _ (fun x hx=>h x (by simp [hx]))]
   simp
end
theorem zBe {o:ObjL} (h:commitN o=true):o.tree=noId∧o.pars=[]∧o.time=0∧o.text=[]:=by
 unfold commitN at h;simp at h;exact ⟨h.1.1.1,h.1.1.2,h.1.2,h.2⟩
theorem tag_all {o:ObjL} (h:tagN o=true):o.target=noId∧o.of_=0∧o.name=[]:=by
 unfold tagN at h;simp at h;exact ⟨h.1.1,h.1.2,h.2⟩
theorem entE_pos (e:EntL):1≤(entE e).length:=by unfold entE;simp
theorem entsE_count (l:List EntL):l.length≤(entsE l).length:=by
 induction l with
 | nil=>simp
 | cons e l ih=>
   have:entsE (e::l)=entE e++entsE l:=by simp [entsE]
   have h:=entE_pos e
   rw [this,List.length_append,List.length_cons]
   omega
theorem read_enc (o:ObjL) (hm:mayB o=true) (htr:o.tree.length=32) (hta:o.target.length=32) (he : ∀ e∈o.ents,e.id.length=32) (hp : ∀ p∈o.pars,p.length=32) (htm:o.time<4294967296) (hl:(bodyO o).length≤4096) :
 readO (byteK o.kind).toNat (bodyO o,false)=(o,([],false)):=by
 have ha:=zCN hm
 unfold aloneB at ha
 rcases zCE hm with hk | hk | hk | hk
 ·rw [hk] at ha
  simp at ha
  obtain ⟨c1,c2,c3,c4⟩:=zBe ha.1.2
  obtain ⟨t1,t2,t3⟩:=tag_all ha.2
  have e1:=zBm ha.1.1
  have hb:bodyO o=o.data:=by unfold bodyO;rw [if_pos hk]
  rw [hb,hk]
  show readO 1 _=_
  unfold readO rBlob
  rw [if_neg (by omega),if_neg (by omega),if_neg (by omega)]
  have:=zEj o.data [] o.data.length rfl
  rw [List.append_nil] at this
  simp only [this]
  obtain ⟨kind,data,ents,tree,pars,time,text,target,of_,name⟩:=o
  simp only at *
  subst hk c1 c2 c3 c4 t1 t2 t3 e1
  rfl
 ·have hf:entsB o.ents=true:=by
   unfold mayB at hm
   rw [if_pos hk] at hm
   simp at hm
   exact hm.2
  rw [hk] at ha
  simp at ha
  obtain ⟨c1,c2,c3,c4⟩:=zBe ha.1.2
  obtain ⟨t1,t2,t3⟩:=tag_all ha.2
  have e1:=zBN ha.1.1
  have hb:bodyO o=entsE o.ents:=by unfold bodyO;rw [if_neg (by omega),if_pos hk]
  rw [hb,hk]
  show readO 2 _=_
  unfold readO rTr
  rw [if_pos rfl]
  have hfine:=(zDF hf).2
  have:=rTree_app o.ents (entsE o.ents).length [] (fun e hx=>⟨(hfine e hx).2,he e hx,by have:=zC8 (hfine e hx).1;omega⟩) (entsE_count _)
  simp only [this,List.nil_append]
  obtain ⟨kind,data,ents,tree,pars,time,text,target,of_,name⟩:=o
  simp only at *
  subst hk c1 c2 c3 c4 t1 t2 t3 e1
  rfl
 ·have hp8:o.pars.length≤8:=by
   unfold mayB at hm
   rw [if_neg (by omega),if_pos hk] at hm
   simp at hm
   exact hm.2
  rw [hk] at ha
  simp at ha
  obtain ⟨t1,t2,t3⟩:=tag_all ha.2
  have e1:=zBN ha.1.1
  have e2:=zBm ha.1.2
  have hb:bodyO o=commitE o:=by unfold bodyO;rw [if_neg (by omega),if_neg (by omega),if_pos hk]
  rw [hb] at hl ⊢
  rw [hk]
  show readO 3 _=_
  unfold readO
  rw [if_neg (by omega),if_pos rfl]
  have htx:o.text.length≤18446744073709551615:=by
   unfold commitE textE at hl
   simp only [List.length_append] at hl
   omega
  have hc:commitE o=o.tree++(put o.pars.length++(o.pars.flatten++(put o.time++(textE o.text++[])))):=by unfold commitE;simp
  rw [hc]
  unfold rCommit
  have b1:badIf (decide (8<o.pars.length)) (o.pars.flatten++(put o.time++(textE o.text++[])),false)=(o.pars.flatten++(put o.time++(textE o.text++[])),false):=by
   unfold badIf;rw [decide_eq_false (by omega)];rfl
  have b2:badIf (decide (4294967295<o.time)) (textE o.text++[],false)=(textE o.text++[],false):=by
   unfold badIf;rw [decide_eq_false (by omega)];rfl
  simp only [rId_app o.tree _ htr,rNum_app o.pars.length (by omega),b1,rPars_app _ o.pars [] hp,rNum_app o.time (by omega),b2,rText_app o.text [] htx,List.nil_append]
  rw [Nat.mod_eq_of_lt htm]
  obtain ⟨kind,data,ents,tree,pars,time,text,target,of_,name⟩:=o
  simp only at *
  subst hk t1 t2 t3 e1 e2
  rfl
 ·have hfn:kindB o.of_=true∧nameB o.name=true:=by
   unfold mayB at hm
   rw [if_neg (by omega),if_neg (by omega),if_pos hk] at hm
   simp at hm
   exact ⟨hm.1.2,hm.2⟩
  rw [hk] at ha
  simp at ha
  obtain ⟨c1,c2,c3,c4⟩:=zBe ha.2
  have e1:=zBN ha.1.1
  have e2:=zBm ha.1.2
  have hb:bodyO o=tagE o:=by unfold bodyO;rw [if_neg (by omega),if_neg (by omega),if_neg (by omega),if_pos hk]
  rw [hb,hk]
  show readO 4 _=_
  unfold readO
  rw [if_neg (by omega),if_neg (by omega),if_pos rfl]
  have hnl:=zC8 hfn.2
  have hof:1≤o.of_∧o.of_≤4:=by
   have:=hfn.1
   unfold kindB at this
   simp at this
   exact this
  have hc:tagE o=byteK o.of_::(o.target++(textE o.name++[])):=by unfold tagE;simp
  rw [hc]
  unfold rTag
  have hbk:=zDN (k:=o.of_) (by omega) (by omega)
  simp only [zCp,rId_app o.target _ hta,rText_app o.name [] (by omega),hbk]
  obtain ⟨kind,data,ents,tree,pars,time,text,target,of_,name⟩:=o
  simp only at *
  subst hk c1 c2 c3 c4 e1 e2
  rfl
theorem dec_enc {o:ObjL} {t:Txt} (h:encO o=some t) (htr:o.tree.length=32) (hta:o.target.length=32) (he : ∀ e∈o.ents,e.id.length=32) (hp : ∀ p∈o.pars,p.length=32) (htm:o.time<4294967296):decO t=some o∧t.length≤4096:=by
 unfold encO at h
 split at h
 ·rename_i hc
  obtain ⟨hm,hl⟩:=hc
  injection h with h
  subst h
  refine ⟨?_,hl⟩
  have hbl:(bodyO o).length≤4096:=by unfold wholeO textE at hl;simp at hl;omega
  unfold wholeO at hl ⊢
  unfold decO
  have ht:=takeP_text (bodyO o) [] (by omega)
  rw [List.append_nil] at ht
  have hr:=read_enc o hm htr hta he hp htm hbl
  simp only [ht]
  rw [if_neg (by omega)]
  simp only [hr,hm]
  simp
 ·cases h
end Go.Proofs.YtbhdfaadedlcfaaGreatDoor
