/- Texts of this claim, laid together: GsF, Sha, ShaB, ShaS, ShaT, ShaU, ShaV. -/
import Derived.Test.YtlojebhcemfodaaGreatDoorMh
import Derived.Deep.MidRow
import Derived.StillTailTactics
import Derived.Deep.RegionHeld3
import Derived.Deep.DrawnRows
import Derived.Laws.CopyRow
import Derived.Lib.SlBuf
namespace Go.Proofs.YtlojebhcemfodaaGreatDoor
open Go.RowKit
attribute [local go_sem ↓] ldvO_eq
theorem gTree_len : ∀ (f:Nat) (t:Txt) (acc:List EntL),(gTree f t acc).length≤acc.length+f
 | 0,t,acc=>by rw [gTree_end (.inl rfl)];exact Nat.le_refl _
 | f+1,[],acc=>by rw [gTree_end (.inr rfl)];omega
 | f+1,d::t,acc=>by
   rw [gTree_step]
   refine Nat.le_trans (gTree_len f _ _) ?_
   rw [List.length_append]
   simp only [List.length_cons,List.length_nil]
   omega
theorem gPars_len : ∀ (n:Nat) (t:Txt) (acc:List Txt),(gPars n t acc).1.length≤acc.length+n
 | 0,t,acc=>Nat.le_refl _
 | n+1,t,acc=>by
   rw [gPars]
   refine Nat.le_trans (gPars_len n _ _) ?_
   rw [List.length_append]
   simp only [List.length_cons,List.length_nil]
   omega
theorem gTree_names : ∀ (f:Nat) (t:Txt) (acc:List EntL),t.length≤5000→(∀ e∈acc,e.name.length≤5000) → ∀ e∈gTree f t acc,e.name.length≤5000
 | 0,t,acc,_,h=>by rw [gTree_end (.inl rfl)];exact h
 | f+1,[],acc,_,h=>by rw [gTree_end (.inr rfl)];exact h
 | f+1,d::t,acc,hl,h=>by
   rw [gTree_step]
   simp only [List.length_cons] at hl
   refine gTree_names f _ _ (by simp only [List.length_drop];omega) ?_
   intro e he
   rcases List.mem_append.1 he with he | he
   ·exact h e he
   ·obtain rfl:=List.mem_singleton.1 he
    have:=(takeN_le t).2
    show (takeN t).1.length≤_
    omega
theorem gCommit_small (t:Txt) (ht:t.length≤5000):Small (gCommit t):=by
 have h1:=gPars_len (min (getN (t.drop 32)).1 9) ((t.drop 32).drop (getN (t.drop 32)).2) []
 have h2:=gPars_le (min (getN (t.drop 32)).1 9) ((t.drop 32).drop (getN (t.drop 32)).2) []
 rw [List.length_drop,List.length_drop] at h2
 unfold gCommit
 simp only
 generalize gPars (min (getN (t.drop 32)).1 9) ((t.drop 32).drop (getN (t.drop 32)).2) []=p at *
 have h3:=(takeN_le (p.2.drop (getN p.2).2)).2
 rw [List.length_drop] at h3
 simp only [List.length_nil] at h1
 exact ⟨by simp,by simp,by show p.1.length≤20;omega,by simp,by show (takeN _).1.length≤5000;omega,by simp⟩
theorem gTag_small (t:Txt) (ht:t.length≤5000):Small (gTag t):=by
 have h3:=(takeN_le ((t.drop 1).drop 32)).2
 rw [List.length_drop,List.length_drop] at h3
 unfold gTag
 exact ⟨by simp,by simp,by simp,by simp,by simp,by show (takeN _).1.length≤5000;omega⟩
theorem guess_small (c:UInt8) (q:Txt) (hl:q.length≤5000):Small (guessL c q):=by
 have ht:=(takeN_le q).2
 have z:([]:Txt).length≤5000:=by simp
 unfold guessL guessB
 repeat' split
 ·exact zero_smallG
 ·exact ⟨by simp,by simp,by simp,by show (takeN q).1.length≤_;omega,z,z⟩
 ·exact ⟨by have:=gTree_len 65 (takeN q).1 [];simp only [List.length_nil] at this;show (gTree 65 (takeN q).1 []).length≤70;omega,gTree_names 65 _ _ (by omega) (by simp),by simp,z,z,z⟩
 ·exact gCommit_small _ (by omega)
 ·exact gTag_small _ (by omega)
 ·exact ⟨by simp [nObj],by simp [nObj],by simp [nObj],z,z,z⟩
set_option maxRecDepth 100000 in
set_option maxHeartbeats 2000000 in
theorem guess_zero (c:UInt8) (q:Txt) (hl:q.length≤5000) (hn0:(takeN q).2=0) (w:World):Calls Tryz.prog 91 #[.string (B (c::q))] w fun e w'=>GsR zeroO w e w':=by
 have hzv:=zeroObj
 have hzl:zObj.size=72:=zObj_size
 have htk : ∀ W,Calls Tryz.prog 108 #[.string (B q)] W fun e w'=>e = .returned (.tuple #[.string (B (takeN q).1), .int .i64 (takeN q).2])∧W=w':=fun W=>(refTake_calls q (by omega) W).mono fun _ _ h=>⟨h.1,h.2.symm⟩
 rw [hn0] at htk
 generalize (takeN q).1=t at *
 have hex:(B (c::q)).extract 1 (q.length+1)=B q:=by
  rw [extract_B]
  simp
 obtain ⟨W1,hW1⟩ : ∃ W1,w.alloc (.cells zObj 54)=W1:=⟨_,rfl⟩
 have hx1:Blk W1 w.heap.size 54 zObj:=by rw [←hW1];exact Blk.new _ _ _
 have b1:Below w.heap.size w W1:=by rw [←hW1];exact (Below.refl _ _).alloc (Nat.le_refl _) _
 have htk:=Lib.hid htk
 have hc0:0≤(c.toNat:Int):=by omega
 have hc1:(c.toNat:Int)<256:=by have:=c.toNat_lt;omega
 have hbd:=built_kobj (c.toNat:Int)
 have hrb:=fun W=>run_build (P:=Tryz.prog) W _ _ _ built_zObj
 have hone:=zObj_one
 have hsz:=sizedObj
 have e72:(objC ⟨c.toNat,[],[],noId,[],0,[],noId,0,[]⟩ (.slice none 0 0) (.slice none 0 0)).toArray.size=72:=by rw [List.size_toArray];unfold objC;simp only [List.length_cons,List.length_append,u8s_len,noId_len,List.length_nil]
 have eone:(objC ⟨c.toNat,[],[],noId,[],0,[],noId,0,[]⟩ (.slice none 0 0) (.slice none 0 0)).toArray.all (·.oneCell')=true:=by kernel_rfl
 go_enter Tryz.func91,Tryz.ntmps91
 go_wp2_with (first
  | ((with_reducible refine lit_build1 hbd ?_ ?_);rfl)
  | ((with_reducible refine lit_new 54 (.tmp 3) (.tmp 18) (objC ⟨c.toNat,[],[],noId,[],0,[],noId,0,[]⟩ (.slice none 0 0) (.slice none 0 0)).toArray 72 szObj e72 eone _ ?_ ?_ ?_ ?_)
     ·first | exact hzl | rfl
     ·rfl
     ·rfl
     intro W2 hb2 hbl2
     have hx2:=hx1.below hbl2 hx1.lt
     have b2:=bthen b1 b1.size hbl2
     have tk2:=htk.out W2
     have tk2:=Lib.hid tk2
     clear hx1 b1 hb2 hbl2)
  | ((with_reducible refine tk2.out.mono ?_);rintro e w3 ⟨rfl,rfl⟩)
  | (refine wpList_store_row rfl 54 (.tmp 2) (.tmp 27) rfl w.heap.size zObj rfl rfl _ _ hx2 hsz rfl hone ?_))
 exact bodyPost_ret (results_cell_row rfl _ _ w.heap.size _ _ _ _ rfl (setRow_heap _ _ _ _ _ _ hx2) Tryz.underlying54 rfl hsz) rfl ⟨⟨none,none,0,0,rfl,zero_okG _,World.ownsRow_nil _ _ _ _,World.ownsRow_nil _ _ _ _⟩,below_setRow b2 (Nat.le_refl _) _⟩
theorem guess_calls (c:UInt8) (q:Txt) (hl:q.length≤5000) (w:World):Calls Tryz.prog 91 #[.string (B (c::q))] w fun e w'=>GsR (guessL c q) w e w':=by
 unfold guessL
 split
 ·exact guess_zero c q hl (by assumption) w
 ·unfold guessB
  split
  ·exact guess_blob c q hl (by assumption) (by assumption) w
  ·split
   ·exact guess_tree c q hl (by assumption) (by assumption) w
   ·split
    ·exact guess_commit c q hl (by assumption) (by assumption) w
    ·split
     ·exact guess_tag c q hl (by assumption) (by assumption) w
     ·exact guess_other c q hl ⟨by assumption,by assumption,by assumption,by assumption⟩ (by assumption) w
/-- What the document's Decode returns. -/
def DecG (x:Option ObjL) (B:Nat) (w':World) (e:Ending):Prop:=match x with
 | some o => ∃ A1 A2 k1 k2,e = .returned (.tuple #[.agg (objC o (.slice A1 o.ents.length k1) (.slice A2 o.pars.length k2)).toArray, .bool true])∧ObjV w' (.slice A1 o.ents.length k1) (.slice A2 o.pars.length k2) o∧OwnEnts w' B (.slice A1 o.ents.length k1) o.ents∧OwnIds w' B (.slice A2 o.pars.length k2) o.pars
 | none=>e = .returned (.tuple #[.agg zObj, .bool false])
set_option maxRecDepth 100000 in
set_option maxHeartbeats 4000000 in
theorem refDecode_calls (s:Txt) (hs:s.length≤5000) (w:World):Calls Tryz.prog 69 #[.string (B s)] w fun e w'=>DecG (decO s) w.heap.size w' e∧Below w.heap.size w w':=by
 have hzv:=zeroObj
 have hz72:zObj.size=72:=zObj_size
 obtain ⟨W0,hW0⟩ : ∃ W0,w.alloc (.cells zObj 54)=W0:=⟨_,rfl⟩
 have hz0:Blk W0 w.heap.size 54 zObj:=by rw [←hW0];exact Blk.new _ _ _
 have b0:Below w.heap.size w W0:=by rw [←hW0];exact (Below.refl _ _).alloc (Nat.le_refl _) _
 have hrb:=fun W=>run_build (P:=Tryz.prog) W _ _ _ built_zObj
 have hone:=zObj_one
 have hsz:=sizedObj
 have hz0W:w.heap.size<W0.heap.size:=hz0.lt
 cases s with
 | nil=>
   have hD:DecG (decO []) w.heap.size (W0.setRow w.heap.size zObj) (.returned (.tuple #[.agg zObj, .bool false])):=rfl
   have hD:=Lib.hid hD
   go_enter Tryz.func69,Tryz.ntmps69
   go_wp2_with (first
    | (refine wpList_store_row rfl 54 (.tmp 2) (.tmp 9) rfl w.heap.size zObj rfl rfl _ _ hz0 hsz rfl hone ?_))
   refine bodyPost_ret (results_row_tmp rfl _ _ w.heap.size _ _ _ _ rfl (setRow_heap _ _ _ _ _ _ hz0) Tryz.underlying54 rfl hsz) rfl ⟨?_,below_setRow b0 (Nat.le_refl _) _⟩
   exact hD.out
 | cons c q=>
   simp only [List.length_cons] at hs
   have hg:=Lib.hid (guess_calls c q (by omega) W0)
   have hsm:=guess_small c q (by omega)
   have hds:=Lib.hid (dec_same c q)
   generalize guessL c q=o at *
   have hcm:Hid (∀ W,(if encO o=some (c::q) then some o else none)=(none:Option ObjL)→DecG (decO (c::q)) w.heap.size W (.returned (.tuple #[.agg zObj, .bool false]))):=fun W h=>by rw [hds.out,h];rfl
   obtain ⟨tt,bb,hval,htold⟩ : ∃ tt bb,encD o = .tuple #[.string (B tt), .bool bb]∧Hid ((bb=true∧encO o=some tt)∨(bb=false∧encO o=none)):=by
    cases hq:encO o with
    | none=>exact ⟨[],false,encD_none hq, .inr ⟨rfl,rfl⟩⟩
    | some t=>exact ⟨t,true,encD_some hq, .inl ⟨rfl,rfl⟩⟩
   go_enter Tryz.func69,Tryz.ntmps69
   go_upto_region 4 with (first
    | ((with_reducible refine hg.out.mono ?_);rintro e w1 ⟨⟨A1,A2,k1,k2,rfl,hv1,he1,hp1⟩,hb1⟩
       have hz1:=hz0.below hb1 hz0.lt
       have b1:=bthen b0 b0.size hb1
       have hc72:(objC o (.slice A1 o.ents.length k1) (.slice A2 o.pars.length k2)).toArray.size=72:=by rw [List.size_toArray,objC_len hv1.ok]
       have hcone:=objC_all o A1 A2 o.ents.length k1 o.pars.length k2
       clear hg hz0 b0)
    | ((with_reducible refine lit_new 54 (.tmp 4) (.tmp 11) (objC o (.slice A1 o.ents.length k1) (.slice A2 o.pars.length k2)).toArray 72 szObj hc72 hcone _ ?_ ?_ ?_ ?_)
       ·first | exact hz72 | rfl
       ·rfl
       ·rfl
       intro W2 hb2 hbl2
       have hz2:=hz1.below hbl2 hz1.lt
       have b2:=bthen b1 b1.size hbl2
       have hv2:=hv1.below hbl2
       have he2:=own_below he1 hbl2
       have hp2:=own_below hp1 hbl2
       have hO2:ObjB W2 w1.heap.size o (.slice A1 o.ents.length k1) (.slice A2 o.pars.length k2):=⟨hb2,hv1.ok.tree,hv1.ok.target⟩
       have hq2:=run_ldvO hO2 hv1.ok
       have hre:=refEncode_calls o hsm A1 A2 k1 k2 W2 hv2
       rw [hval] at hre
       have hre:=Lib.hid hre))
   have hok:=hv1.ok
   have hlt1:w.heap.size<w1.heap.size:=hz1.lt
   have hwW:w.heap.size<W0.heap.size:=hz0W
   clear hW0 hv1 hz1 b1 hsm hval hb2
   have hfin:Hid (∀ W,ObjV W (.slice A1 o.ents.length k1) (.slice A2 o.pars.length k2) o→OwnEnts W w.heap.size (.slice A1 o.ents.length k1) o.ents→OwnIds W w.heap.size (.slice A2 o.pars.length k2) o.pars→encO o=some (c::q)→DecG (decO (c::q)) w.heap.size W (.returned (.tuple #[.agg (objC o (.slice A1 o.ents.length k1) (.slice A2 o.pars.length k2)).toArray, .bool true]))):=fun W h1 h3 h4 h2=>by
    rw [hds.out,if_pos h2]
    exact ⟨A1,A2,k1,k2,rfl,h1,h3,h4⟩
   have hqq : ∀ W,ObjB W w1.heap.size o (.slice A1 o.ents.length k1) (.slice A2 o.pars.length k2)→(ldvO ⟨w1.heap.size,0,none⟩).run Tryz.prog W = .ok (.agg (objC o (.slice A1 o.ents.length k1) (.slice A2 o.pars.length k2)).toArray) W:=fun W h=>run_ldvO h hok
   generalize hcs:(objC o (.slice A1 o.ents.length k1) (.slice A2 o.pars.length k2)).toArray=cs at *
   clear hcs
   generalize w1.heap.size=g1 at *
   rcases htold.out with ⟨rfl,henc⟩ | ⟨rfl,henc⟩
   ·by_cases hne:tt=c::q
    ·have hDn:=Lib.hid (fun W h h3 h4=>hfin.out W h h3 h4 (by rw [henc,hne]))
     subst hne
     clear htold henc hds hcm hfin
     go_wp2_with (first
      | ((with_reducible refine hre.out.mono ?_);rintro e w3 ⟨rfl,hb3⟩
         have hz3:=hz2.below hb3 hz2.lt
         have b3:=bthen b2 b2.size hb3
         have hO3:=hO2.below hb3
         have he3:=own_below he2 hb3
         have hp3:=own_below hp2 hb3
         have hq3:=hqq w3 hO3
         clear hre hq2)
      | (refine wpList_store_row rfl 54 (.tmp 2) (.tmp 25) rfl w.heap.size cs rfl rfl _ _ hz3 (by rw [hc72];exact szObj) (by rw [hc72];rfl) hcone ?_))
     refine bodyPost_ret (results_row_tmp rfl _ _ w.heap.size _ _ _ _ rfl (setRow_heap _ _ _ _ _ _ hz3) Tryz.underlying54 rfl (by rw [hc72];exact szObj)) rfl ⟨?_,below_setRow b3 (Nat.le_refl _) _⟩
     exact hDn.out _ (objV_row hok he3 hp3 hwW cs) (own_low' (own_row he3 hwW cs) (Nat.le_of_lt hwW)) (own_low' (own_row hp3 hwW cs) (Nat.le_of_lt hwW))
    ·have hDn:=Lib.hid (fun W=>hcm.out W (by rw [if_neg (by rw [henc];intro h;injection h with h;exact hne h)]))
     have hbq:(tt==c::q)=false:=by simpa using hne
     clear htold henc hds hcm hfin hO2 hv2 hne
     go_wp2_with (first
      | ((with_reducible refine hre.out.mono ?_);rintro e w3 ⟨rfl,hb3⟩
         have hz3:=hz2.below hb3 hz2.lt
         have b3:=bthen b2 b2.size hb3
         clear hre hq2)
      | (refine wpList_store_row rfl 54 (.tmp 2) (.tmp 24) rfl w.heap.size zObj rfl rfl _ _ hz3 hsz rfl hone ?_))
     refine bodyPost_ret (results_row_tmp rfl _ _ w.heap.size _ _ _ _ rfl (setRow_heap _ _ _ _ _ _ hz3) Tryz.underlying54 rfl hsz) rfl ⟨?_,below_setRow b3 (Nat.le_refl _) _⟩
     exact hDn.out _
   ·have hDn:=Lib.hid (fun W=>hcm.out W (by rw [if_neg (by rw [henc];intro h;cases h)]))
    clear htold henc hds hcm hfin hO2 hv2
    go_wp2_with (first
     | ((with_reducible refine hre.out.mono ?_);rintro e w3 ⟨rfl,hb3⟩
        have hz3:=hz2.below hb3 hz2.lt
        have b3:=bthen b2 b2.size hb3
        clear hre hq2)
     | (refine wpList_store_row rfl 54 (.tmp 2) (.tmp 24) rfl w.heap.size zObj rfl rfl _ _ hz3 hsz rfl hone ?_))
    refine bodyPost_ret (results_row_tmp rfl _ _ w.heap.size _ _ _ _ rfl (setRow_heap _ _ _ _ _ _ hz3) Tryz.underlying54 rfl hsz) rfl ⟨?_,below_setRow b3 (Nat.le_refl _) _⟩
    exact hDn.out _
end Go.Proofs.YtlojebhcemfodaaGreatDoor
namespace Go.Proofs.YtlojebhcemfodaaGreatDoor
open Go.RowKit
theorem and31 (k:Int) (h0 : -31≤k) (h1:k ≤ -1):bits .and .u64 (IntKind.u64.wrap k) 31=32+k:=by
 have h : ∀ m:Fin 31,bits .and .u64 (IntKind.u64.wrap (-((m.val:Int)+1))) 31=31-(m.val:Int):=by decide +kernel
 have:=h ⟨(-k-1).toNat,by omega⟩
 simp only at this
 rw [show -((((-k-1).toNat:Nat):Int)+1)=k from by omega] at this
 rw [this]
 omega
theorem rot_bits (x n:Nat) (hx:x<4294967296) (h0:1≤n) (h1:n≤31):bits .or .u32 ((x:Int)*2 ^ (32-n)%4294967296) ((x:Int) / 2 ^ n)=((rotr x n:Nat):Int):=by
 have hp:(2:Nat) ^ (32-n)*2 ^ n=4294967296:=by rw [←Nat.pow_add,show 32-n+n=32 from by omega]
 have e1:(x:Int)*2 ^ (32-n)%4294967296=((x*2 ^ (32-n)%4294967296:Nat):Int):=by simp
 have e2:(x:Int) / 2 ^ n=((x / 2 ^ n:Nat):Int):=by simp
 have hd:x / 2 ^ n<2 ^ (32-n):=Nat.div_lt_of_lt_mul (by rw [Nat.mul_comm,hp];exact hx)
 have hm:x*2 ^ (32-n)%4294967296=2 ^ (32-n)*(x%2 ^ n):=by
  rw [←hp,Nat.mul_comm x,Nat.mul_mod_mul_left]
 have hlt:x / 2 ^ n<4294967296:=Nat.lt_of_le_of_lt (Nat.div_le_self _ _) hx
 rw [e1,e2,u32_or_nat _ _ (Nat.mod_lt _ (by omega)) hlt,rotr,hm,←Nat.two_pow_add_eq_or_of_lt hd,Nat.add_comm]
set_option maxRecDepth 100000 in
set_option maxHeartbeats 800000 in
theorem rot_calls (x:Nat) (k:Int) (hx:x<4294967296) (h0 : -31≤k) (h1:k ≤ -1) (w:World) :
 Calls Tryz.prog 119 #[.int .u32 x, .int .i64 k] w fun e w'=>e = .returned (.int .u32 (rotr x (-k).toNat))∧w=w':=by
 have hb:=and31 k h0 h1
 have hs0:0≤32+k:=by omega
 have hs1:32+k≤32:=by omega
 go_enter Tryz.func119,Tryz.ntmps119
 go_wp2
 go_ret
 refine ⟨congrArg (fun n:Int=>Ending.returned (.int .u32 n)) ?_,rfl⟩
 have:=rot_bits x (-k).toNat hx (by omega) (by omega)
 rw [show 32-(-k).toNat=(32+k).toNat from by omega,show (-k).toNat=(32-(32+k)).toNat from by omega] at this
 rw [show (-k).toNat=(32-(32+k)).toNat from by omega]
 exact this
theorem rot_at (x:Nat) (k:Int) (n:Nat) (hk:k = -(n:Int)) (hx:x<4294967296) (h0:1≤n) (h1:n≤31) (w:World) :
 Calls Tryz.prog 119 #[.int .u32 x, .int .i64 k] w fun e w'=>e = .returned (.int .u32 (rotr x n))∧w=w':=by
 subst hk
 have:=rot_calls x (-(n:Int)) hx (by omega) (by omega) w
 rwa [show (- -(n:Int)).toNat=n from by omega] at this
/-- Words as cells. -/
def u32s (l:List Nat):Array Value:=(l.map fun n=>Value.int .u32 (n:Nat)).toArray
theorem u32s_size (l:List Nat):(u32s l).size=l.length:=by simp [u32s]
theorem u32s_get (l:List Nat) (i:Nat) (h:i<l.length):(u32s l)[i]?=some (.int .u32 (l.getD i 0:Nat)):=by
 simp [u32s,List.getD,List.getElem?_eq_getElem h]
theorem u32s_set (l:List Nat) (i x:Nat):(u32s l).setIfInBounds i (.int .u32 (x:Nat))=u32s (l.set i x):=by
 apply Array.ext'
 simp [u32s,List.map_set]
theorem or_byte (x:Nat) (c:UInt8) (hx:x<16777216):bits .or .u32 ((x:Int)*256) ((c.toNat:Int)%4294967296)=((x*256%4294967296+c.toNat:Nat):Int):=by
 have hc:=c.toNat_lt
 have e1:(x:Int)*256=((2 ^ 8*x:Nat):Int):=by omega
 have e2:(c.toNat:Int)%4294967296=((c.toNat:Nat):Int):=by omega
 rw [e1,e2,u32_or_nat _ _ (by omega) (by omega),←Nat.two_pow_add_eq_or_of_lt (by omega)]
 omega
theorem keep_set {w:World} {g i j:Nat} {v x:Value} (h:w.cell? ⟨g,j,none⟩=some v) (hne:j≠i):((w.setCell ⟨g,i,none⟩ x).drew).cell? ⟨g,j,none⟩=some v:=by
 have:(w.setCell ⟨g,i,none⟩ x).cell? ⟨g,j,none⟩=w.cell? ⟨g,j,none⟩:=World.cell?_setCell_other w _ _ _ (fun e=>hne (by injection e with _ e;exact e.symm))
 exact this.trans h
theorem blk_new2 (w:World) (o:Obj) (t:TypeId) (cs:Array Value):Blk ((w.alloc o).alloc (.cells cs t)) (w.heap.size+1) t cs:=by
 have:=Blk.new (w.alloc o) t cs
 rwa [show (w.alloc o).heap.size=w.heap.size+1 from by simp] at this
theorem sz64 : (Tryz.prog.info? 109).map (·.size)=some 64:=by kernel_rfl
set_option maxRecDepth 100000 in
set_option maxHeartbeats 2000000 in
theorem words_calls (b:List UInt8) (hb:b.length=64) (w:World) :
 Calls Tryz.prog 120 #[.string (B b)] w fun e w'=>e = .returned (.agg (u32s (wordsOf b)))∧Below w.heap.size w w':=by
 go_enter Tryz.func120,Tryz.ntmps120
 go_wp2
 go_loopw [9] (fun i wr => ∃ k:Nat,i = .int .i64 k∧k≤64∧Blk wr (w.heap.size+1) 109 (u32s (parts b k))∧Blk wr w.heap.size 109 (u32s (List.replicate 64 0))∧Below w.heap.size w wr) (fun i _=>64-(intOf i).toNat)
 case atStart=>exact ⟨0,rfl,by omega,by rw [parts_zero];exact blk_new2 _ _ _ _,(Blk.new w _ _).alloc _,((Below.refl _ _).alloc (Nat.le_refl _) _).alloc (by simp) _⟩
 case round=>
  obtain ⟨k,rfl,hk,h1,h2,hbel⟩:=hrel
  have hbs:=h1.lt
  by_cases hlt:k<64
  ·have hki:(k:Int)<64:=by omega
   have hq0:(0:Int)≤(k:Int) / 4:=by omega
   have hq1:(k:Int) / 4<64:=by omega
   have hq2:(k:Int)<(b.length:Int):=by omega
   have hc:=h1.cell (k / 4)
   rw [u32s_get _ _ (by rw [parts_length];omega),parts_get _ _ _ (by omega)] at hc
   have hf:=h1.frozen (k / 4)
   have hbk:b[k]'(by omega)=b.getD k 0:=by simp [List.getD,List.getElem?_eq_getElem (show k<b.length by omega)]
   have hst:=parts_step b k
   rw [parts_get _ _ _ (by omega)] at hst
   unfold byteAt at hst
   have hx:=(part4_here b k).2
   generalize part4 b k (k / 4)=x at *
   generalize b.getD k 0=c at *
   have hor:=or_byte x c hx
   generalize x*256%4294967296+c.toNat=y at *
   have hsth:=Lib.hid hst
   clear hst
   go_wp2
   go_region
   have hn1:Blk ((wr.setCell ⟨w.heap.size+1,k / 4,none⟩ (.int .u32 (y:Int))).drew) (w.heap.size+1) 109 (u32s (parts b (k+1))):=by
    have:=(h1.set_ (k / 4) (.int .u32 (y:Int)))
    rw [u32s_set,hsth.out] at this
    exact this.drew
   have hn2:=(h2.far (p:=⟨w.heap.size+1,k / 4,none⟩) (by simp) (.int .u32 (y:Int))).drew
   have hn3:=(hbel.setCell (p:=⟨w.heap.size+1,k / 4,none⟩) (by simp) (.int .u32 (y:Int))).drew
   go_wp2
   go_roundw
   case rel=>exact ⟨k+1,by go_num,by omega,hn1,hn2,hn3⟩
   case measure=>simp [intOf];omega
  ·have hk64:k=64:=by omega
   have hki : ¬ (k:Int)<64:=by omega
   rw [hk64,parts_all] at h1
   clear hk64
   have hgoal:Hid (sched 48 (first b 16)=wordsOf b):=rfl
   go_wp2
   go_loopw [6] (fun i wr => ∃ (t:Nat) (l:List Nat),i = .int .i64 t∧16≤t∧t≤64∧Hid (l.length=t)∧Hid (Fit32 l)∧Hid (sched (64-t) l=wordsOf b)∧Blk wr (w.heap.size+1) 109 (u32s (l++List.replicate (64-t) 0))∧Blk wr w.heap.size 109 (u32s (List.replicate 64 0))∧Below w.heap.size w wr) (fun i _=>64-(intOf i).toNat)
   case atStart=>exact ⟨16,first b 16,rfl,by omega,by omega,first_length b 16,first_fit b 16,hgoal,h1,h2,hbel⟩
   case round=>
    obtain ⟨t,l,rfl,ht0,ht1,hlen,hfit,hsc,h1,h2,hbel⟩:=hrel
    by_cases hlt:t<64
    ·have hti:(t:Int)<64:=by omega
     have get (j:Nat) (hj:j<t):wr.cell? ⟨w.heap.size+1,j,none⟩=some (.int .u32 (l.getD j 0:Nat)):=by
      rw [h1.cell,u32s_get _ _ (by rw [List.length_append,hlen.out,List.length_replicate];omega),getD_left (by rw [hlen.out];exact hj)]
     have c16:=get (t-16) (by omega)
     have c15:=get (t-15) (by omega)
     have c7:=get (t-7) (by omega)
     have c2:=get (t-2) (by omega)
     have ct:wr.cell? ⟨w.heap.size+1,t,none⟩=some (.int .u32 ((l++List.replicate (64-t) 0).getD t 0:Nat)):=by
      rw [h1.cell,u32s_get _ _ (by rw [List.length_append,hlen.out,List.length_replicate];omega)]
     have hft:=h1.frozen t
     have b16:=hfit.out (t-16)
     have b15:=hfit.out (t-15)
     have b7:=hfit.out (t-7)
     have b2:=hfit.out (t-2)
     have hnext:Hid (nextW l=(l.getD (t-16) 0+l.getD (t-7) 0+sig0 (l.getD (t-15) 0)+sig1 (l.getD (t-2) 0))%4294967296):=by
      unfold nextW;rw [hlen.out];rfl
     clear get
     generalize l.getD (t-16) 0=x16 at *
     generalize l.getD (t-15) 0=x15 at *
     generalize l.getD (t-7) 0=x7 at *
     generalize l.getD (t-2) 0=x2 at *
     generalize (l++List.replicate (64-t) 0).getD t 0=old at *
     obtain ⟨u16,i16,v16⟩ : ∃ u:Nat,IntKind.i64.wrap ((t:Int)-16)=(u:Int)∧u=t-16:=⟨t-16,by rw [IntWalk.i64_in _ (by omega)];omega,rfl⟩
     rw [←v16] at c16
     have m16:(u16:Int)<64:=by omega
     have n16:u16<64:=by omega
     have v16h:=Lib.hid v16
     clear v16
     obtain ⟨u15,i15,v15⟩ : ∃ u:Nat,IntKind.i64.wrap ((t:Int)-15)=(u:Int)∧u=t-15:=⟨t-15,by rw [IntWalk.i64_in _ (by omega)];omega,rfl⟩
     rw [←v15] at c15
     have m15:(u15:Int)<64:=by omega
     have n15:u15<64:=by omega
     have v15h:=Lib.hid v15
     clear v15
     obtain ⟨u7,i7,v7⟩ : ∃ u:Nat,IntKind.i64.wrap ((t:Int)-7)=(u:Int)∧u=t-7:=⟨t-7,by rw [IntWalk.i64_in _ (by omega)];omega,rfl⟩
     rw [←v7] at c7
     have m7:(u7:Int)<64:=by omega
     have n7:u7<64:=by omega
     have v7h:=Lib.hid v7
     clear v7
     obtain ⟨u2,i2,v2⟩ : ∃ u:Nat,IntKind.i64.wrap ((t:Int)-2)=(u:Int)∧u=t-2:=⟨t-2,by rw [IntWalk.i64_in _ (by omega)];omega,rfl⟩
     rw [←v2] at c2
     have m2:(u2:Int)<64:=by omega
     have n2:u2<64:=by omega
     have v2h:=Lib.hid v2
     clear v2
     go_wp2
     go_quiet (fail)
     go_wp2
     have r1:=rotr_lt (n:=7) b15 (by omega) (by omega)
     have r2:=rotr_lt (n:=18) b15 (by omega) (by omega)
     have r3:=rotr_lt (n:=17) b2 (by omega) (by omega)
     have r4:=rotr_lt (n:=19) b2 (by omega) (by omega)
     have e1:bits .xor .u32 (rotr x15 7:Int) (rotr x15 18:Int)=((rotr x15 7 ^^^ rotr x15 18:Nat):Int):=u32_xor_nat _ _ r1 r2
     have e2:bits .xor .u32 ((rotr x15 7 ^^^ rotr x15 18:Nat):Int) ((x15:Int) / 8)=((sig0 x15:Nat):Int):=by
      rw [show (x15:Int) / 8=((x15 / 8:Nat):Int) from by omega];exact u32_xor_nat _ _ (xor_lt r1 r2) (by omega)
     have e3:bits .xor .u32 (rotr x2 17:Int) (rotr x2 19:Int)=((rotr x2 17 ^^^ rotr x2 19:Nat):Int):=u32_xor_nat _ _ r3 r4
     have e4:bits .xor .u32 ((rotr x2 17 ^^^ rotr x2 19:Nat):Int) ((x2:Int) / 1024)=((sig1 x2:Nat):Int):=by
      rw [show (x2:Int) / 1024=((x2 / 1024:Nat):Int) from by omega];exact u32_xor_nat _ _ (xor_lt r3 r4) (by omega)
     have c16d:(wr.drewN nq).cell? ⟨w.heap.size+1,u16,none⟩=some (.int .u32 (x16:Int)):=c16
     have c7d:(wr.drewN nq).cell? ⟨w.heap.size+1,u7,none⟩=some (.int .u32 (x7:Int)):=c7
     have ctd:(wr.drewN nq).cell? ⟨w.heap.size+1,t,none⟩=some (.int .u32 (old:Int)):=ct
     have h1d:=h1.drewN nq
     have h2d:=h2.drewN nq
     have hbeld:=bdrewN hbel nq
     have hftd:(wr.drewN nq).frozen? ⟨w.heap.size+1,t,none⟩=false:=hft
     clear h1 h2 hbel hft c16 c15 c7 c2 ct
     generalize wr.drewN nq=wo at *
     obtain ⟨nx,hval,hnx⟩ : ∃ nx:Nat,IntKind.u32.wrap (IntKind.u32.wrap (IntKind.u32.wrap ((x16:Int)+(x7:Int))+((sig0 x15:Nat):Int))+((sig1 x2:Nat):Int))=(nx:Int)∧nx=nextW l:=by
      refine ⟨nextW l,?_,rfl⟩
      rw [hnext.out,IntKind.wrap_u32,IntKind.wrap_u32,IntKind.wrap_u32]
      omega
     have hnxh:=Lib.hid hnx
     clear hnx
     have ne16:u16≠t:=by have:=v16h.out;omega
     have ne7:u7≠t:=by have:=v7h.out;omega
     go_region_held3 (fun w'=>w'.cell? ⟨w.heap.size+1,u16,none⟩=some (.int .u32 (x16:Int))∧w'.cell? ⟨w.heap.size+1,u7,none⟩=some (.int .u32 (x7:Int))) (first | exact ⟨c16d,c7d⟩ | exact ⟨keep_set c16d ne16,keep_set c7d ne7⟩ | go_keep)
      (first
        | (go_at_call 119;(with_reducible refine (rot_at x15 (-7) 7 rfl b15 (by omega) (by omega) _).mono ?_);rintro e w1 ⟨rfl,rfl⟩)
        | (go_at_call 119;(with_reducible refine (rot_at x15 (-18) 18 rfl b15 (by omega) (by omega) _).mono ?_);rintro e w1 ⟨rfl,rfl⟩)
        | (go_at_call 119;(with_reducible refine (rot_at x2 (-17) 17 rfl b2 (by omega) (by omega) _).mono ?_);rintro e w1 ⟨rfl,rfl⟩)
        | (go_at_call 119;(with_reducible refine (rot_at x2 (-19) 19 rfl b2 (by omega) (by omega) _).mono ?_);rintro e w1 ⟨rfl,rfl⟩))
     have hn1:Blk ((wo.setCell ⟨w.heap.size+1,t,none⟩ (.int .u32 (nx:Int))).drew) (w.heap.size+1) 109 (u32s ((l++[nx])++List.replicate (64-(t+1)) 0)):=by
      have:=(h1d.set_ t (.int .u32 (nx:Int)))
      have hs:=set_behind l (64-t) nx (by omega)
      rw [hlen.out] at hs
      rw [u32s_set,hs,show 64-t-1=64-(t+1) from by omega] at this
      exact this.drew
     have hn2:=(h2d.far (p:=⟨w.heap.size+1,t,none⟩) (by simp) (.int .u32 (nx:Int))).drew
     have hn3:=(hbeld.setCell (p:=⟨w.heap.size+1,t,none⟩) (by simp) (.int .u32 (nx:Int))).drew
     have hnlen:Hid ((l++[nx]).length=t+1):=by rw [List.length_append,hlen.out];rfl
     have hnfit:Hid (Fit32 (l++[nx])):=hfit.out.append (by rw [hnxh.out];exact nextW_lt l)
     have hnsc:Hid (sched (64-(t+1)) (l++[nx])=wordsOf b):=by
      rw [←hsc.out,show 64-t=(64-(t+1))+1 from by omega,sched,←hnxh.out];rfl
     go_wp2
     go_roundw
     case rel=>exact ⟨t+1,l++[nx],by go_num,by omega,by omega,hnlen,hnfit,hnsc,hn1,hn2,hn3⟩
     case measure=>simp [intOf];omega
    ·have ht64:t=64:=by omega
     have hti : ¬ (t:Int)<64:=by omega
     have hl:l=wordsOf b:=by have:=hsc.out;rw [ht64] at this;exact this
     rw [ht64,hl,List.replicate_zero,List.append_nil] at h1
     clear ht64 hl hsc hfit hlen
     have hwf : ∀ v∈u32s (wordsOf b),v.oneCell'=true:=by
      intro v hv
      obtain ⟨n, -,rfl⟩:=by simpa [u32s] using hv
      rfl
     have hsz:(u32s (wordsOf b)).size=64:=by rw [u32s_size,wordsOf_length]
     have hi:=sz64
     rw [←hsz] at hi
     have hi':=Lib.hid hi
     clear hi
     have hold:(u32s (List.replicate 64 0)).size=(u32s (wordsOf b)).size:=by rw [hsz,u32s_size];simp
     have hall:=Array.all_eq_true_iff_forall_mem.2 hwf
     have hsz':=Lib.hid hsz
     clear hsz
     go_wp2_with (first
      | (refine wpList_load_row rfl 109 (.tmp 3) rfl (w.heap.size+1) rfl _ _ _ _ h1 Tryz.underlying109 rfl hi'.out ?_)
      | (refine wpList_store_row rfl 109 (.tmp 2) (.tmp 71) rfl w.heap.size (u32s (wordsOf b)) rfl rfl _ _ h2 hi'.out hold hall ?_))
     exact bodyPost_ret (results_cell_row rfl _ _ w.heap.size _ _ _ _ rfl (setRow_heap _ _ _ _ _ _ h2) Tryz.underlying109 rfl hi'.out) rfl ⟨rfl,below_setRow hbel (Nat.le_refl _) _⟩
end Go.Proofs.YtlojebhcemfodaaGreatDoor
namespace Go.Proofs.YtlojebhcemfodaaGreatDoor
open Go.RowKit
attribute [local go_sem ↓] Go.wp_at_zero Go.wp_at_succ
/-- The table of constants lies there. -/
structure TabK (w:World):Prop where
 pos:0<w.heap.size
 at_ : ∀ t,t<64→w.cell? ⟨0,t,none⟩=some (.int .u32 (K256.getD t 0:Nat))
theorem TabK.below {w w':World} (h:TabK w) (hb:Below w.heap.size w w'):TabK w':=
 ⟨Nat.lt_of_lt_of_le h.pos hb.size,fun t ht=>(hb.cell (p:=⟨0,t,none⟩) h.pos).trans (h.at_ t ht)⟩
theorem run_index_words (l:List Nat) (hl:l.length=64) (t:Nat) (ht:t<64) (w:World) :
 (Instr.index 109 (.agg (u32s l)) (.int .i64 (t:Int))).run Tryz.prog w = .ok (.int .u32 (l.getD t 0:Nat)) w:=by
 have hu:Tryz.prog.underlying 109=some (.array 64 52):=by kernel_rfl
 have h0:(0:Int)≤(t:Int)∧(t:Int)<((64:Nat):Int):=by omega
 have h64 : ¬ 64≤t:=by omega
 have hg:=u32s_get l t (by omega)
 have ha:(isAgg 52).run Tryz.prog w = .ok false w:=by kernel_rfl
 have hz:(sizeOf 52).run Tryz.prog w = .ok 1 w:=by kernel_rfl
 simp only [Instr.index,asIntOf,Sem.run_bind,Sem.run_pure,Result.andThen_ok,run_underlying hu]
 rw [if_pos h0]
 simp only [Sem.run_bind,Sem.run_pure,Result.andThen_ok,hz,part,ha,Int.toNat_natCast,Nat.mul_one,hg]
 rfl
theorem blk_new3 (w:World) (o1 o2:Obj) (t:TypeId) (cs:Array Value):Blk (((w.alloc o1).alloc o2).alloc (.cells cs t)) (w.heap.size+2) t cs:=by
 have:=Blk.new ((w.alloc o1).alloc o2) t cs
 rwa [show ((w.alloc o1).alloc o2).heap.size=w.heap.size+2 from by simp] at this
theorem sz8 : (Tryz.prog.info? 108).map (·.size)=some 8:=by kernel_rfl
theorem u32s_one (l:List Nat):(u32s l).all (·.oneCell')=true:=by
 refine Array.all_eq_true_iff_forall_mem.2 fun v hv=>?_
 obtain ⟨n, -,rfl⟩:=by simpa [u32s] using hv
 rfl
theorem u32s_list_size (s:H8):(u32s s.list).size=8:=rfl
theorem copy_up (wp:World) (g xa xb xc xd xe xf xg xh:Nat) (h:Blk wp g 108 (u32s [xa,xb,xc,xd,xe,xf,xg,xh])) :
 (Builtin.copy_ #[193,193] 3 #[.slice (some ⟨g,1,none⟩) 7 7, .slice (some ⟨g,0,none⟩) 7 8]).run Tryz.prog wp = .ok (goInt 7) (wp.setRow g (u32s [xa,xa,xb,xc,xd,xe,xf,xg])):=by
 have:=run_copy_row (P:=Tryz.prog) wp 193 193 3 52 g 1 7 7 ⟨g,0,none⟩ 7 8 (u32s [xa,xb,xc,xd,xe,xf,xg,xh]) 108 (u32s [xa,xb,xc,xd,xe,xf,xg]).toList (by kernel_rfl) (by kernel_rfl) h rfl (fun j v hj=>by
  rw [Addr.add_mid,Nat.zero_add,h.cell]
  have hlt:j<7:=by
   have:=(List.getElem?_eq_some_iff.1 hj).1
   simpa [u32s] using this
  rw [←hj]
  match j,hlt with
  | 0,_ | 1,_ | 2,_ | 3,_ | 4,_ | 5,_ | 6,_=>rfl) (by simp [u32s]) (fun v hv=>by
  obtain ⟨n, -,rfl⟩:=by simpa only [u32s,List.mem_map] using hv
  rfl)
 exact this
set_option maxRecDepth 100000 in
set_option maxHeartbeats 2000000 in
theorem block_calls (s0:H8) (hs0:s0.Fit) (b:List UInt8) (hb:b.length=64) (w:World) (hK:TabK w) :
 Calls Tryz.prog 104 #[.agg (u32s s0.list), .string (B b)] w fun e w'=>e = .returned (.agg (u32s (blockOf s0 b).list))∧Below w.heap.size w w':=by
 go_enter Tryz.func104,Tryz.ntmps104
 have hbox:Blk ((w.alloc (.cells (u32s s0.list) 108)).alloc (.cells (u32s (List.replicate 8 0)) 108)) w.heap.size 108 (u32s s0.list):=(Blk.new w _ _).alloc _
 have hv0:=blk_new3 w (.cells (u32s s0.list) 108) (.cells (u32s (List.replicate 8 0)) 108) 108 (u32s (List.replicate 8 0))
 have hi8:(Tryz.prog.info? 108).map (·.size)=some (u32s s0.list).size:=by rw [u32s_list_size];exact sz8
 have hall:=u32s_one s0.list
 have hold:(u32s (List.replicate 8 0)).size=(u32s s0.list).size:=by rw [u32s_list_size];rfl
 obtain ⟨R,hR⟩ : ∃ R,Hid (blockOf s0 b=R):=⟨_,rfl⟩
 go_wp2_with (first
  | (refine wpList_load_row rfl 108 (.tmp 2) rfl w.heap.size rfl _ _ _ _ hbox Tryz.underlying108 rfl hi8 ?_)
  | (refine wpList_store_row rfl 108 (.tmp 6) (.tmp 14) rfl (w.heap.size+2) (u32s s0.list) rfl rfl _ _ hv0 hi8 hold hall ?_)
  | (go_at_call 120;go_must (refine (words_calls b hb _).mono ?_);rintro e w1 ⟨rfl,hb1⟩))
 have hv1:Blk w1 (w.heap.size+1+1) 108 (u32s s0.list):=Blk.below (w:=World.setRow _ (w.heap.size+2) _) (setRow_heap _ _ _ _ _ _ hv0) hb1 (by simp)
 have hbx1:Blk w1 w.heap.size 108 (u32s s0.list):=Blk.below (w:=World.setRow _ (w.heap.size+2) _) (by unfold Blk;rw [setRow_other _ _ _ _ (by omega)];exact hbox.alloc _) hb1 (by simp;omega)
 have hr1:Blk w1 (w.heap.size+1) 108 (u32s (List.replicate 8 0)):=Blk.below (w:=World.setRow _ (w.heap.size+2) _) (by unfold Blk;rw [setRow_other _ _ _ _ (by omega)];exact (blk_new2 w _ _ _).alloc _) hb1 (by simp)
 have hbl1:Below w.heap.size w w1:=(below_setRow ((((Below.refl _ _).alloc (Nat.le_refl _) _).alloc (by simp) _).alloc (by simp;omega) _) (by omega) _).trans (hb1.mono (by simp;omega))
 clear hb1 hbox hv0
 go_loopw [17] (fun i wr => ∃ (t:Nat) (s:H8),i = .int .i64 t∧t≤64∧Hid (s=after (wordsOf b) s0 t)∧s.Fit∧Blk wr (w.heap.size+1+1) 108 (u32s s.list)∧Blk wr w.heap.size 108 (u32s s0.list)∧Blk wr (w.heap.size+1) 108 (u32s (List.replicate 8 0))∧Below w.heap.size w wr) (fun i _=>64-(intOf i).toNat)
 case atStart=>exact ⟨0,s0,rfl,by omega,rfl,hs0,hv1,hbx1,hr1,hbl1⟩
 case round=>
  obtain ⟨t,s,rfl,ht,hst,hfit,h1,h2,h3,hbel⟩:=hrel
  have hbs:=h1.lt
  by_cases hlt:t<64
  ·have hti:(t:Int)<64:=by omega
   have hidx:=run_index_words (wordsOf b) (wordsOf_length b) t hlt
   have hnext:Hid (after (wordsOf b) s0 (t+1)=rnd s (K256.getD t 0) ((wordsOf b).getD t 0)):=by rw [hst.out];rfl
   have bw:=wordsOf_fit b t
   have bk:=K256_fit t
   have ck:wr.cell? ⟨0,t,none⟩=some (.int .u32 (K256.getD t 0:Nat)):=(hbel.cell (p:=⟨0,t,none⟩) hK.pos).trans (hK.at_ t hlt)
   generalize (wordsOf b).getD t 0=wt at *
   generalize K256.getD t 0=kt at *
   obtain ⟨xa,xb,xc,xd,xe,xf,xg,xh⟩:=s
   obtain ⟨ba,bb,bc,bd,be,bf,bg,bh⟩:=hfit
   simp only at ba bb bc bd be bf bg bh
   have c0:wr.cell? ⟨w.heap.size+1+1,0,none⟩=some (.int .u32 (xa:Int)):=h1.cell 0
   have c1:wr.cell? ⟨w.heap.size+1+1,1,none⟩=some (.int .u32 (xb:Int)):=h1.cell 1
   have c2:wr.cell? ⟨w.heap.size+1+1,2,none⟩=some (.int .u32 (xc:Int)):=h1.cell 2
   have c3:wr.cell? ⟨w.heap.size+1+1,3,none⟩=some (.int .u32 (xd:Int)):=h1.cell 3
   have c4:wr.cell? ⟨w.heap.size+1+1,4,none⟩=some (.int .u32 (xe:Int)):=h1.cell 4
   have c5:wr.cell? ⟨w.heap.size+1+1,5,none⟩=some (.int .u32 (xf:Int)):=h1.cell 5
   have c6:wr.cell? ⟨w.heap.size+1+1,6,none⟩=some (.int .u32 (xg:Int)):=h1.cell 6
   have c7:wr.cell? ⟨w.heap.size+1+1,7,none⟩=some (.int .u32 (xh:Int)):=h1.cell 7
   go_wp2
   go_quiet (fail)
   go_wp2
   obtain ⟨wo,hwo⟩ : ∃ wo:World,wo=wr.drewN nq:=⟨_,rfl⟩
   rw [←hwo]
   have d0:wo.cell? ⟨w.heap.size+1+1,0,none⟩=some (.int .u32 (xa:Int)):=by rw [hwo];exact c0
   have d1:wo.cell? ⟨w.heap.size+1+1,1,none⟩=some (.int .u32 (xb:Int)):=by rw [hwo];exact c1
   have d2:wo.cell? ⟨w.heap.size+1+1,2,none⟩=some (.int .u32 (xc:Int)):=by rw [hwo];exact c2
   have d3:wo.cell? ⟨w.heap.size+1+1,3,none⟩=some (.int .u32 (xd:Int)):=by rw [hwo];exact c3
   have d4:wo.cell? ⟨w.heap.size+1+1,4,none⟩=some (.int .u32 (xe:Int)):=by rw [hwo];exact c4
   have d5:wo.cell? ⟨w.heap.size+1+1,5,none⟩=some (.int .u32 (xf:Int)):=by rw [hwo];exact c5
   have d6:wo.cell? ⟨w.heap.size+1+1,6,none⟩=some (.int .u32 (xg:Int)):=by rw [hwo];exact c6
   have d7:wo.cell? ⟨w.heap.size+1+1,7,none⟩=some (.int .u32 (xh:Int)):=by rw [hwo];exact c7
   have dk:wo.cell? ⟨0,t,none⟩=some (.int .u32 (kt:Int)):=by rw [hwo];exact ck
   have h1d:=h1.drewN nq
   have h2d:=h2.drewN nq
   have h3d:=h3.drewN nq
   have hbeld:=bdrewN hbel nq
   rw [←hwo] at h1d h2d h3d hbeld
   clear h1 h2 h3 hbel c0 c1 c2 c3 c4 c5 c6 c7 ck hwo
   have r6:=rotr_lt (n:=6) be (by omega) (by omega)
   have r11:=rotr_lt (n:=11) be (by omega) (by omega)
   have r25:=rotr_lt (n:=25) be (by omega) (by omega)
   have r2:=rotr_lt (n:=2) ba (by omega) (by omega)
   have r13:=rotr_lt (n:=13) ba (by omega) (by omega)
   have r22:=rotr_lt (n:=22) ba (by omega) (by omega)
   have e1:bits .xor .u32 (rotr xe 6:Int) (rotr xe 11:Int)=((rotr xe 6 ^^^ rotr xe 11:Nat):Int):=u32_xor_nat _ _ r6 r11
   have e2:bits .xor .u32 ((rotr xe 6 ^^^ rotr xe 11:Nat):Int) (rotr xe 25:Int)=((sum1 xe:Nat):Int):=u32_xor_nat _ _ (xor_lt r6 r11) r25
   have e3:bits .and .u32 (xe:Int) (xf:Int)=((xe &&& xf:Nat):Int):=u32_and_nat _ _ be bf
   have e4:bits .xor .u32 IntKind.u32.max (xe:Int)=((4294967295 ^^^ xe:Nat):Int):=u32_xor_nat 4294967295 _ (by omega) be
   have bn:4294967295 ^^^ xe<4294967296:=xor_lt (by omega) be
   have e5:bits .and .u32 ((4294967295 ^^^ xe:Nat):Int) (xg:Int)=(((4294967295 ^^^ xe) &&& xg:Nat):Int):=u32_and_nat _ _ bn bg
   have e6:bits .xor .u32 ((xe &&& xf:Nat):Int) (((4294967295 ^^^ xe) &&& xg:Nat):Int)=(((xe &&& xf) ^^^ ((4294967295 ^^^ xe) &&& xg):Nat):Int):=u32_xor_nat _ _ (and_lt bf) (and_lt bg)
   obtain ⟨X,hX,hXe⟩ : ∃ X:Nat,IntKind.u32.wrap (IntKind.u32.wrap (IntKind.u32.wrap (IntKind.u32.wrap ((xh:Int)+((sum1 xe:Nat):Int))+(((xe &&& xf) ^^^ ((4294967295 ^^^ xe) &&& xg):Nat):Int))+(kt:Int))+(wt:Int))=(X:Int)∧X=rndX ⟨xa,xb,xc,xd,xe,xf,xg,xh⟩ kt wt:=by
    refine ⟨_,?_,rfl⟩
    unfold rndX
    generalize ((xe &&& xf) ^^^ ((4294967295 ^^^ xe) &&& xg))=ch
    simp only [IntKind.wrap_u32]
    omega
   have hXh:=Lib.hid hXe
   clear hXe
   have f1:bits .xor .u32 (rotr xa 2:Int) (rotr xa 13:Int)=((rotr xa 2 ^^^ rotr xa 13:Nat):Int):=u32_xor_nat _ _ r2 r13
   have f2:bits .xor .u32 ((rotr xa 2 ^^^ rotr xa 13:Nat):Int) (rotr xa 22:Int)=((sum0 xa:Nat):Int):=u32_xor_nat _ _ (xor_lt r2 r13) r22
   have f3:bits .and .u32 (xa:Int) (xb:Int)=((xa &&& xb:Nat):Int):=u32_and_nat _ _ ba bb
   have f4:bits .and .u32 (xa:Int) (xc:Int)=((xa &&& xc:Nat):Int):=u32_and_nat _ _ ba bc
   have f5:bits .and .u32 (xb:Int) (xc:Int)=((xb &&& xc:Nat):Int):=u32_and_nat _ _ bb bc
   have f6:bits .xor .u32 ((xa &&& xb:Nat):Int) ((xa &&& xc:Nat):Int)=(((xa &&& xb) ^^^ (xa &&& xc):Nat):Int):=u32_xor_nat _ _ (and_lt bb) (and_lt bc)
   have f7:bits .xor .u32 (((xa &&& xb) ^^^ (xa &&& xc):Nat):Int) ((xb &&& xc:Nat):Int)=(((xa &&& xb) ^^^ (xa &&& xc) ^^^ (xb &&& xc):Nat):Int):=u32_xor_nat _ _ (xor_lt (and_lt bb) (and_lt bc)) (and_lt bc)
   obtain ⟨Y,hY,hYe⟩ : ∃ Y:Nat,IntKind.u32.wrap (((sum0 xa:Nat):Int)+(((xa &&& xb) ^^^ (xa &&& xc) ^^^ (xb &&& xc):Nat):Int))=(Y:Int)∧Y=rndY ⟨xa,xb,xc,xd,xe,xf,xg,xh⟩:=by
    refine ⟨_,?_,rfl⟩
    unfold rndY
    generalize (xa &&& xb) ^^^ (xa &&& xc) ^^^ (xb &&& xc)=mj
    simp only [IntKind.wrap_u32]
    omega
   have hYh:=Lib.hid hYe
   clear hYe
   go_region_held3 (fun w'=>w'.cell? ⟨w.heap.size+1+1,7,none⟩=some (.int .u32 (xh:Int))∧w'.cell? ⟨w.heap.size+1+1,5,none⟩=some (.int .u32 (xf:Int))∧w'.cell? ⟨w.heap.size+1+1,6,none⟩=some (.int .u32 (xg:Int))∧w'.cell? ⟨0,t,none⟩=some (.int .u32 (kt:Int))) (first | exact ⟨d7,d5,d6,dk⟩ | go_keep)
    (first
      | (go_at_call 119;(with_reducible refine (rot_at xe (-6) 6 rfl be (by omega) (by omega) _).mono ?_);rintro e w1 ⟨rfl,rfl⟩)
      | (go_at_call 119;(with_reducible refine (rot_at xe (-11) 11 rfl be (by omega) (by omega) _).mono ?_);rintro e w1 ⟨rfl,rfl⟩)
      | (go_at_call 119;(with_reducible refine (rot_at xe (-25) 25 rfl be (by omega) (by omega) _).mono ?_);rintro e w1 ⟨rfl,rfl⟩))
   go_wp2
   have d1':wo.drew.cell? ⟨w.heap.size+1+1,1,none⟩=some (.int .u32 (xb:Int)):=d1
   have d2':wo.drew.cell? ⟨w.heap.size+1+1,2,none⟩=some (.int .u32 (xc:Int)):=d2
   go_region_held3 (fun w'=>w'.cell? ⟨w.heap.size+1+1,1,none⟩=some (.int .u32 (xb:Int))∧w'.cell? ⟨w.heap.size+1+1,2,none⟩=some (.int .u32 (xc:Int))) (first | exact ⟨d1',d2'⟩ | exact ⟨d1,d2⟩ | go_keep)
    (first
      | (go_at_call 119;(with_reducible refine (rot_at xa (-2) 2 rfl ba (by omega) (by omega) _).mono ?_);rintro e w1 ⟨rfl,rfl⟩)
      | (go_at_call 119;(with_reducible refine (rot_at xa (-13) 13 rfl ba (by omega) (by omega) _).mono ?_);rintro e w1 ⟨rfl,rfl⟩)
      | (go_at_call 119;(with_reducible refine (rot_at xa (-22) 22 rfl ba (by omega) (by omega) _).mono ?_);rintro e w1 ⟨rfl,rfl⟩))
   go_wp2
   have g1:=h1d.drew.drew
   have g2:=h2d.drew.drew
   have g3:=h3d.drew.drew
   have gbel:=hbeld.drew.drew
   have gsz:w.heap.size+1+1<wo.drew.drew.heap.size:=g1.lt
   clear h1d h2d h3d hbeld d0 d1 d2 d3 d4 d5 d6 d7 dk d1' d2' e1 e2 e3 e4 e5 e6 f1 f2 f3 f4 f5 f6 f7 hX hY r2 r13 r22 r6 r11 r25
   generalize wo.drew.drew=wp at *
   obtain ⟨wq,hcp,hwq⟩ : ∃ wq,(Builtin.copy_ #[193,193] 3 #[.slice (some ⟨w.heap.size+1+1,1,none⟩) 7 7, .slice (some ⟨w.heap.size+1+1,0,none⟩) 7 8]).run Tryz.prog wp.drew = .ok (goInt 7) wq∧wq=wp.drew.setRow (w.heap.size+1+1) (u32s [xa,xa,xb,xc,xd,xe,xf,xg]):=⟨_,copy_up _ _ _ _ _ _ _ _ _ _ g1.drew,rfl⟩
   have q1:Blk wq (w.heap.size+1+1) 108 (u32s [xa,xa,xb,xc,xd,xe,xf,xg]):=by rw [hwq];exact setRow_heap _ _ _ _ _ _ g1.drew
   have q2:Blk wq w.heap.size 108 (u32s s0.list):=by rw [hwq];unfold Blk;rw [setRow_other _ _ _ _ (by omega)];exact g2.drew
   have q3:Blk wq (w.heap.size+1) 108 (u32s (List.replicate 8 0)):=by rw [hwq];unfold Blk;rw [setRow_other _ _ _ _ (by omega)];exact g3.drew
   have qbel:Below w.heap.size w wq:=by rw [hwq];exact below_setRow gbel.drew (by omega) _
   clear g1 g2 g3 gbel hwq
   go_region
   clear hcp
   have c4:wq.cell? ⟨w.heap.size+1+1,4,none⟩=some (.int .u32 (xd:Int)):=q1.cell 4
   have c0:wq.cell? ⟨w.heap.size+1+1,0,none⟩=some (.int .u32 (xa:Int)):=q1.cell 0
   have z4:=q1.frozen 4
   have z0:=q1.frozen 0
   obtain ⟨D,hD,hDe⟩ : ∃ D:Nat,IntKind.u32.wrap ((xd:Int)+(X:Int))=(D:Int)∧D=(xd+X)%4294967296:=⟨_,by rw [IntKind.wrap_u32];omega,rfl⟩
   obtain ⟨A0,hA,hAe⟩ : ∃ A0:Nat,IntKind.u32.wrap ((X:Int)+(Y:Int))=(A0:Int)∧A0=(X+Y)%4294967296:=⟨_,by rw [IntKind.wrap_u32];omega,rfl⟩
   have hDh:=Lib.hid hDe
   have hAh:=Lib.hid hAe
   clear hDe hAe
   go_wp2
   go_roundw
   case rel=>
    refine ⟨t+1,⟨A0,xa,xb,xc,D,xe,xf,xg⟩,by go_num,by omega,?_,⟨?_,ba,bb,bc,?_,be,bf,bg⟩,?_,?_,?_,?_⟩
    ·show _=_
     rw [hnext.out,rnd,←hXh.out,←hYh.out,←hDh.out,←hAh.out]
    ·have:=hAh.out;show A0<_;omega
    ·have:=hDh.out;show D<_;omega
    ·have:=((q1.set_ 4 (.int .u32 (D:Int))).set_ 0 (.int .u32 (A0:Int)))
     rw [u32s_set,u32s_set] at this
     exact this
    ·exact (q2.far (p:=⟨w.heap.size+1+1,4,none⟩) (by simp;omega) _).far (p:=⟨w.heap.size+1+1,0,none⟩) (by simp;omega) _
    ·exact (q3.far (p:=⟨w.heap.size+1+1,4,none⟩) (by simp) _).far (p:=⟨w.heap.size+1+1,0,none⟩) (by simp) _
    ·exact (qbel.setCell (p:=⟨w.heap.size+1+1,4,none⟩) (by simp;omega) _).setCell (p:=⟨w.heap.size+1+1,0,none⟩) (by simp;omega) _
   case measure=>simp [intOf];omega
  ·have ht64:t=64:=by omega
   have hti : ¬ (t:Int)<64:=by omega
   have hsv:Hid (R=s.plus s0):=by show _=_;rw [←hR.out,blockOf,←ht64,←hst.out]
   clear ht64 hst
   go_wp2
   go_loopw [96] (fun i wr => ∃ i':Nat,i = .int .i64 i'∧i'≤8∧Blk wr (w.heap.size+1+1) 108 (u32s (mixed s.list s0.list i'))∧Blk wr w.heap.size 108 (u32s s0.list)∧Blk wr (w.heap.size+1) 108 (u32s (List.replicate 8 0))∧Below w.heap.size w wr) (fun i _=>8-(intOf i).toNat)
   case atStart=>exact ⟨0,rfl,by omega,h1,h2,h3,hbel⟩
   case round=>
    obtain ⟨i,rfl,hi,h1,h2,h3,hbel⟩:=hrel
    have hbs:=h1.lt
    by_cases hi8:i<8
    ·have hii:(i:Int)<8:=by omega
     have ml:(mixed s.list s0.list i).length=8:=mixed_length s.list s0.list rfl i hi
     have cv:wr.cell? ⟨w.heap.size+1+1,i,none⟩=some (.int .u32 (s.list.getD i 0:Nat)):=by
      rw [h1.cell,u32s_get _ _ (by omega),mixed_get s.list s0.list rfl i hi8]
     have cs:wr.cell? ⟨w.heap.size,i,none⟩=some (.int .u32 (s0.list.getD i 0:Nat)):=by
      rw [h2.cell,u32s_get _ _ hi8]
     have zv:=h1.frozen i
     have hms:=Lib.hid (mixed_step s.list s0.list rfl i hi8)
     unfold add32 at hms
     generalize s.list.getD i 0=xv at *
     generalize s0.list.getD i 0=xs at *
     obtain ⟨N,hN,hNe⟩ : ∃ N:Nat,IntKind.u32.wrap ((xv:Int)+(xs:Int))=(N:Int)∧N=(xv+xs)%4294967296:=⟨_,by rw [IntKind.wrap_u32];omega,rfl⟩
     have hNh:=Lib.hid hNe
     clear hNe
     go_wp2
     go_region
     go_wp2
     go_roundw
     case rel=>
      refine ⟨i+1,by go_num,by omega,?_,?_,?_,?_⟩
      ·have:=(h1.set_ i (.int .u32 (N:Int))).drew
       rw [u32s_set,hNh.out,hms.out] at this
       rw [hNh.out]
       exact this
      ·exact (h2.far (p:=⟨w.heap.size+1+1,i,none⟩) (by simp;omega) _).drew
      ·exact (h3.far (p:=⟨w.heap.size+1+1,i,none⟩) (by simp) _).drew
      ·exact (hbel.setCell (p:=⟨w.heap.size+1+1,i,none⟩) (by simp;omega) _).drew
     case measure=>simp [intOf];omega
    ·have hi8':i=8:=by omega
     have hii : ¬ (i:Int)<8:=by omega
     rw [hi8',mixed_all,←hsv.out] at h1
     clear hi8'
     have hi':(Tryz.prog.info? 108).map (·.size)=some (u32s R.list).size:=by rw [u32s_list_size];exact sz8
     have hall':=u32s_one R.list
     have hold':(u32s (List.replicate 8 0)).size=(u32s R.list).size:=by rw [u32s_list_size];rfl
     go_wp2_with (first
      | (refine wpList_load_row rfl 108 (.tmp 6) rfl (w.heap.size+1+1) rfl _ _ _ _ h1 Tryz.underlying108 rfl hi' ?_)
      | (refine wpList_store_row rfl 108 (.tmp 4) (.tmp 108) rfl (w.heap.size+1) (u32s R.list) rfl rfl _ _ h3 hi' hold' hall' ?_))
     exact bodyPost_ret (results_cell_row rfl _ _ (w.heap.size+1) _ _ _ _ rfl (setRow_heap _ _ _ _ _ _ h3) Tryz.underlying108 rfl hi') rfl ⟨by rw [hR.out],below_setRow hbel (by omega) _⟩
end Go.Proofs.YtlojebhcemfodaaGreatDoor
namespace Go.Proofs.YtlojebhcemfodaaGreatDoor
open Go.RowKit
attribute [local go_sem ↓] Go.wp_at_zero Go.wp_at_succ
/-- A slice of strings lies there. -/
def Strs (w:World) (v:Value) (ls:List (List UInt8)):Prop:=
 (ls=[] ∧ ∃ a c,v = .slice a 0 c) ∨
 ∃ bk o c,v = .slice (some ⟨bk,o,none⟩) ls.length c∧(∀ (j:Nat) l,ls[j]?=some l→w.cell? ⟨bk,o+j,none⟩=some (.string (B l)))∧bk<w.heap.size∧ls.length≤c∧ls.length≤140737488355328
theorem Strs.below {w w':World} {v:Value} {ls:List (List UInt8)} (h:Strs w v ls) (hb:Below w.heap.size w w'):Strs w' v ls:=by
 rcases h with h | ⟨bk,o,c,h1,h2,h3,h4,h5⟩
 ·exact .inl h
 ·exact .inr ⟨bk,o,c,h1,fun j l hj=>(hb.cell (p:=⟨bk,o+j,none⟩) h3).trans (h2 j l hj),Nat.lt_of_lt_of_le h3 hb.size,h4,h5⟩
theorem join_flatten (ls:List (List UInt8)):Lib.join ls []=ls.flatten:=by
 have : ∀ l:List (List UInt8),(l.intersperse []).flatten=l.flatten:=by
  intro l
  induction l with
  | nil=>rfl
  | cons a r ih=>
    cases r with
    | nil=>rfl
    | cons b r=>rw [List.intersperse_cons_cons,List.flatten_cons,List.flatten_cons,ih];rfl
 exact this ls
theorem join_calls (ls:List (List UInt8)) (v:Value) (w:World) (hv:Strs w v ls) (hlen:ls.flatten.length≤140737488355328) :
 Calls Tryz.prog 102 #[v, .string ⟨#[]⟩] w fun e w'=>e = .returned (.string (B ls.flatten))∧Below w.heap.size w w':=by
 rcases hv with ⟨rfl,a,c,rfl⟩ | ⟨bk,o,c,rfl,h1,h2,h3,h4⟩
 ·exact (Tryz.strings_Join_none a c ⟨#[]⟩ w).mono fun e w' h=>⟨h.1,h.2▸Below.refl _ _⟩
 ·have hm:(ls.map B).map (·.data.toList)=ls:=by simp [List.map_map,Function.comp_def,B]
  have:=Tryz.strings_Join bk o c (ls.map B) ⟨#[]⟩ w (fun j x hj=>by
   rw [List.getElem?_map] at hj
   obtain ⟨l,hl,rfl⟩:=Option.map_eq_some_iff.1 hj
   exact h1 j l hl) h2 (by simpa using h4) (by simpa using h3) (by rw [hm,join_flatten];exact hlen)
  rw [List.length_map,hm,join_flatten] at this
  exact this
theorem repeat_zeros (n:Nat):Lib.repeatL [0] n=List.replicate n 0:=by
 induction n with
 | zero=>rfl
 | succ n ih=>rw [Lib.repeatL,ih,List.replicate_succ];rfl
theorem zeros_calls (n:Nat) (hn:n≤64) (w:World) :
 Calls Tryz.prog 103 #[.string ⟨#[0]⟩, .int .i64 n] w fun e w'=>e = .returned (.string (B (List.replicate n 0)))∧Below w.heap.size w w':=by
 have:=Tryz.strings_Repeat ⟨#[0]⟩ n w (by omega) (by show 1*n≤_;omega)
 rw [show (⟨#[0]⟩:ByteArray).data.toList=[0] from rfl,repeat_zeros] at this
 exact this
/-- The load and the store of eight words, not to be opened by the walk. -/
def ldv8 (p:Addr):Sem Value:=loadVar 108 p
def stv8 (p:Addr) (v:Value):Sem Unit:=storeVar 108 p v
theorem ldv8_eq (p:Addr):loadVar 108 p=ldv8 p:=rfl
theorem stv8_eq (p:Addr) (v:Value):storeVar 108 p v=stv8 p v:=rfl
theorem run_ldv8 (w:World) (g:Nat) (hh:HasRow w g 108 8):(ldv8 ⟨g,0,none⟩).run Tryz.prog w = .ok (.agg (RowOf w g)) w:=by
 obtain ⟨cs,hn,h⟩:=hh
 rw [rowOf_blk h]
 exact run_loadVar_row w g _ _ _ _ _ h Tryz.underlying108 rfl (by rw [hn];exact sz8)
theorem run_stv8 (w:World) (g:Nat) (r:H8) (hh:HasRow w g 108 8):(stv8 ⟨g,0,none⟩ (.agg (u32s r.list))).run Tryz.prog w = .ok () (w.setRow g (u32s r.list)):=by
 obtain ⟨cs,hn,h⟩:=hh
 exact run_storeVar_row w g _ _ _ _ h (by rw [u32s_list_size];exact sz8) (by rw [u32s_list_size,hn]) (u32s_one _)
attribute [local go_sem ↓] ldv8_eq stv8_eq
attribute [local go_sem] run_ldv8 run_stv8
theorem lenBytes_step (n k:Nat) (hk:k<8):(lenBytes n).take k++[UInt8.ofNat ((n:Int)*8 / 2 ^ (56-8*k)%256).toNat]=(lenBytes n).take (k+1):=by
 have hlen:(lenBytes n).length=8:=by simp [lenBytes]
 have e:((n:Int)*8 / 2 ^ (56-8*k)%256).toNat=8*n / 2 ^ (56-8*k)%256:=by
  have:(n:Int)*8 / 2 ^ (56-8*k)%256=((8*n / 2 ^ (56-8*k)%256:Nat):Int):=by
   rw [Int.mul_comm];simp
  rw [this];rfl
 rw [e,List.take_add_one,List.getElem?_eq_getElem (by omega)]
 simp [lenBytes]
theorem lenBytes_length (n:Nat):(lenBytes n).length=8:=by simp [lenBytes]
theorem padded_length (l:List UInt8) : ∃ m,(padded l).length=64*m:=by
 refine ⟨(padded l).length / 64,?_⟩
 have:(padded l).length=l.length+1+padLen l.length+8:=by simp [padded,lenBytes_length];omega
 rw [this]
 unfold padLen
 omega
theorem take_set (L:List UInt8) (i n:Nat) (hi:i<L.length) (hn:n=L.length):(L.take i++List.replicate (n-i) 0).set i (L.getD i 0)=L.take (i+1)++List.replicate (n-(i+1)) 0:=by
 subst hn
 have hl:(L.take i).length=i:=by simp;omega
 rw [List.set_append_right _ _ (by omega),hl,Nat.sub_self,show L.length-i=(L.length-(i+1))+1 from by omega,List.replicate_succ,List.set_cons_zero,List.take_add_one,List.append_assoc,List.getElem?_eq_getElem hi]
 simp [List.getD,List.getElem?_eq_getElem hi]
theorem idOf_length (s:H8):(idOf s).length=32:=by simp [idOf]
theorem idOf_get (s:H8) (i:Nat) (hi:i<32):(idOf s).getD i 0=(s.list.getD (i / 4) 0 / 2 ^ (24-8*(i%4))%256).toUInt8:=by
 have:i<(idOf s).length:=by rw [idOf_length];exact hi
 rw [List.getD,List.getElem?_eq_getElem this]
 simp only [idOf,List.getElem_map,List.getElem_range,Option.getD_some]
set_option maxRecDepth 100000 in
set_option maxHeartbeats 2000000 in
theorem sum_calls (ls:List (List UInt8)) (v:Value) (w:World) (hK:TabK w) (hv:Strs w v ls) (hlen:ls.flatten.length≤1099511627776) :
 Calls Tryz.prog 80 #[v] w fun e w'=>e = .returned (.agg (u8s (shaOf ls.flatten)))∧Below w.heap.size w w':=by
 go_enter Tryz.func80,Tryz.ntmps80
 obtain ⟨l,hl⟩ : ∃ l,ls.flatten=l:=⟨_,rfl⟩
 rw [hl] at hlen ⊢
 have hll:(l.length:Int)≤1099511627776:=by omega
 obtain ⟨p,hpe⟩ : ∃ p,Hid (padLen l.length=p):=⟨_,rfl⟩
 have hp64:p≤64:=by rw [←hpe.out];unfold padLen;omega
 have hp1:(120-((l.length:Int)+1))%64=(p:Int):=by rw [←hpe.out];unfold padLen;omega
 have hp2:(120-((l.length:Int)+1)%64)%64=(p:Int):=by rw [←hpe.out];unfold padLen;omega
 go_wp2_with (first
  | (go_at_call 102;go_must (refine (join_calls ls v _ (hv.below ((Below.refl _ _).alloc (Nat.le_refl _) _)) (by rw [hl];omega)).mono ?_);rw [hl];rintro e w1 ⟨rfl,hb1⟩)
  | (go_at_call 103;go_must (refine (zeros_calls p hp64 _).mono ?_);rintro e w2 ⟨rfl,hb2⟩))
 have hr1:Blk w1 w.heap.size 42 (u8s (List.replicate 32 0)):=Blk.below (Blk.new w _ _) hb1 (by rw [size_alloc'];omega)
 have hl1:Below w.heap.size w w1:=bthen ((Below.refl _ _).alloc (Nat.le_refl _) _) (by rw [size_alloc'];omega) hb1
 have hr2:Blk w2 w.heap.size 42 (u8s (List.replicate 32 0)):=hr1.below hb2 hr1.lt
 have hl2:Below w.heap.size w w2:=bthen hl1 hl1.size hb2
 clear hb1 hb2 hr1 hl1
 have hbase0:(l++128::List.replicate p 0).length=l.length+1+p:=by simp;omega
 generalize hbs:l++128::List.replicate p 0=bs at *
 have hbsh:=Lib.hid hbs
 have hbase:=Lib.hid hbase0
 have hbl:bs.length≤1099511627776+100:=by omega
 clear hbs hbase0
 go_loopw [25,3] (fun i tx wr => ∃ k:Nat,i = .int .i64 k∧k≤8∧tx = .string (B (bs++(lenBytes l.length).take k))∧Blk wr w.heap.size 42 (u8s (List.replicate 32 0))∧Below w.heap.size w wr) (fun i _ _=>8-(intOf i).toNat)
 case atStart=>exact ⟨0,rfl,by omega,by rw [List.take_zero,List.append_nil],hr2,hl2⟩
 case round=>
  obtain ⟨k,rfl,hk,rfl,hr,hbel⟩:=hrel
  have hrl:=hr.lt
  by_cases hk8:k<8
  ·have hki:(k:Int)<8:=by omega
   have hst1:=Tryz.str_of_one
   go_wp2
   have hstep:=Lib.hid (lenBytes_step l.length k hk8)
   go_roundw
   case rel=>exact ⟨k+1,by go_num,by omega,by rw [hstep.out],hr.alloc _,hbel.alloc (by omega) _⟩
   case measure=>simp [intOf];omega
  ·have hk8':k=8:=by omega
   have hki : ¬ (k:Int)<8:=by omega
   have hpd:bs++(lenBytes l.length).take k=padded l:=by
    rw [hk8',List.take_of_length_le (by rw [lenBytes_length];omega),←hbsh.out,←hpe.out]
    simp [padded]
   rw [hpd]
   clear hk8' hpd
   obtain ⟨m0,hm0⟩:=padded_length l
   have hst0:Hid (blocks m0 H0 (padded l)=stateOf l):=by
    show _=_
    rw [stateOf,hm0,Nat.mul_div_cancel_left _ (by omega)]
   have hpdl:(padded l).length≤1099511627976:=by
    have:(padded l).length=l.length+1+padLen l.length+8:=by simp [padded,lenBytes_length];omega
    rw [this,hpe.out];omega
   generalize padded l=pd at *
   have hi8:(Tryz.prog.info? 108).map (·.size)=some (u32s H0.list).size:=by rw [u32s_list_size];exact sz8
   have hall:=u32s_one H0.list
   have hold:(u32s (List.replicate 8 0)).size=(u32s H0.list).size:=rfl
   have hv0:=Blk.new wr 108 (u32s (List.replicate 8 0))
   go_wp2_with (first
    | (refine wpList_store_row rfl 108 (.tmp 6) (.tmp 39) rfl wr.heap.size (u32s H0.list) rfl rfl _ _ hv0 hi8 hold hall ?_))
   have h1:Blk (World.setRow (wr.alloc (.cells (u32s (List.replicate 8 0)) 108)) wr.heap.size (u32s H0.list)) wr.heap.size 108 (u32s H0.list):=setRow_heap _ _ _ _ _ _ hv0
   have h2:Blk (World.setRow (wr.alloc (.cells (u32s (List.replicate 8 0)) 108)) wr.heap.size (u32s H0.list)) w.heap.size 42 (u8s (List.replicate 32 0)):=by
    unfold Blk;rw [setRow_other _ _ _ _ (by omega)];exact hr.alloc _
   have h3:Below w.heap.size w (World.setRow (wr.alloc (.cells (u32s (List.replicate 8 0)) 108)) wr.heap.size (u32s H0.list)):=below_setRow (hbel.alloc (by omega) _) (by omega) _
   clear hv0 hr hbel
   obtain ⟨vb,hvb⟩ : ∃ vb,wr.heap.size=vb:=⟨_,rfl⟩
   have hvw:w.heap.size<vb:=by omega
   go_loopw [3] (fun tx wr => ∃ (m:Nat) (rest:List UInt8) (s:H8),tx = .string (B rest)∧Hid (rest.length=64*m)∧rest.length≤1099511627976∧Hid (blocks m s rest=stateOf l)∧s.Fit∧Blk wr vb 108 (u32s s.list)∧Blk wr w.heap.size 42 (u8s (List.replicate 32 0))∧Below w.heap.size w wr) (fun tx _=>(strOf tx).length)
   case atStart=>exact ⟨m0,pd,H0,rfl,hm0,hpdl,hst0,H0_fit,hvb▸h1,h2,h3⟩
   case round=>
    rw [hvb]
    clear h1 h2 h3 hvb
    obtain ⟨m,rest,s,rfl,hm,hrl2,hst,hfit,h1,h2,h3⟩:=hrel
    have hbs1:=h1.lt
    by_cases hre:rest=[]
    ·have hemp:rest.isEmpty=true:=by rw [hre];rfl
     have hsl:Hid (s=stateOf l):=by
      have hm0':m=0:=by have:=hm.out;rw [hre] at this;simp at this;omega
      have:=hst.out
      rw [hm0'] at this
      exact this
     clear hst hm hre
     have hg0:=Blk.new wr 42 (u8s (List.replicate 32 0))
     have k1:=h1.alloc (.cells (u8s (List.replicate 32 0)) 42)
     have k2:=h2.alloc (.cells (u8s (List.replicate 32 0)) 42)
     have k3:=h3.alloc (Nat.le_of_lt h2.lt) (.cells (u8s (List.replicate 32 0)) 42)
     go_wp2
     obtain ⟨ib,hib⟩ : ∃ ib,wr.heap.size=ib:=⟨_,rfl⟩
     rw [hib] at hg0 ⊢
     have hvi:vb<ib:=by omega
     clear h1 h2 h3 hib
     go_loopw [48] (fun i wr => ∃ k:Nat,i = .int .i64 k∧k≤32∧Blk wr ib 42 (u8s ((idOf s).take k++List.replicate (32-k) 0))∧Blk wr vb 108 (u32s s.list)∧Blk wr w.heap.size 42 (u8s (List.replicate 32 0))∧Below w.heap.size w wr) (fun i _=>32-(intOf i).toNat)
     case atStart=>exact ⟨0,rfl,by omega,hg0,k1,k2,k3⟩
     case round=>
      clear hg0 k1 k2 k3
      obtain ⟨i,rfl,hi,h0,h1,h2,h3⟩:=hrel
      have hbi:=h0.lt
      by_cases hi32:i<32
      ·have hii:(i:Int)<32:=by omega
       have hq:(i:Int) / 4<8:=by omega
       have hq0:(0:Int)≤(i:Int) / 4:=by omega
       have hqn:i / 4<8:=by omega
       have cw:wr.cell? ⟨vb,i / 4,none⟩=some (.int .u32 (s.list.getD (i / 4) 0:Nat)):=by
        rw [h1.cell,u32s_get _ _ hqn]
       have cz:wr.cell? ⟨ib,i,none⟩=some (.int .u8 ((((idOf s).take i++List.replicate (32-i) 0).getD i 0).toNat:Nat)):=by
        rw [h0.cell,u8s_get _ _ (by rw [List.length_append,List.length_take,idOf_length,List.length_replicate];omega)]
       have fz:=h0.frozen i
       have hset:=Lib.hid (take_set (idOf s) i 32 (by rw [idOf_length];exact hi32) (idOf_length s).symm)
       have hget:=Lib.hid (idOf_get s i hi32)
       generalize (((idOf s).take i++List.replicate (32-i) 0).getD i 0).toNat=oz at *
       generalize s.list.getD (i / 4) 0=x at *
       go_wp2
       have hvv:(x:Int) / 2 ^ (24-8*(i%4))%256=((x / 2 ^ (24-8*(i%4))%256:Nat):Int):=by simp
       rw [hvv]
       have hlt:=Nat.mod_lt (x / 2 ^ (24-8*(i%4))) (show 0<256 by omega)
       have hn:=h0.set_ i (.int .u8 ((x / 2 ^ (24-8*(i%4))%256:Nat):Int))
       rw [u8s_set _ _ _ hlt,←hget.out,hset.out] at hn
       go_roundw
       case rel=>exact ⟨i+1,by go_num,by omega,hn,h1.far (by simp;omega) _,h2.far (by simp;omega) _,h3.setCell (by simp;omega) _⟩
       case measure=>simp [intOf];omega
      ·have hi32':i=32:=by omega
       have hii : ¬ (i:Int)<32:=by omega
       have h0':Blk wr ib 42 (u8s (idOf s)):=by
        rw [hi32',List.take_of_length_le (by rw [idOf_length];omega),Nat.sub_self,List.replicate_zero,List.append_nil] at h0
        exact h0
       clear hi32' h0
       have hid:(idOf s).length=32:=idOf_length s
       have hfin:Hid (shaOf l=idOf s):=by show _=_;rw [hsl.out];rfl
       clear hsl
       generalize idOf s=id at *
       have hi':(Tryz.prog.info? 42).map (·.size)=some (u8s id).size:=by rw [u8s_size,hid];exact sz32
       have hall':=u8s_one id
       have hold':(u8s (List.replicate 32 0)).size=(u8s id).size:=by rw [u8s_size,u8s_size,hid,List.length_replicate]
       go_wp2_with (first
        | (refine wpList_load_row rfl 42 (.tmp 7) rfl ib rfl _ _ _ _ h0' Tryz.underlying42 rfl hi' ?_)
        | (refine wpList_store_row rfl 42 (.tmp 2) (.tmp 64) rfl w.heap.size (u8s id) rfl rfl _ _ h2 hi' hold' hall' ?_))
       exact bodyPost_ret (results_cell_row rfl _ _ w.heap.size _ _ _ _ rfl (setRow_heap _ _ _ _ _ _ h2) Tryz.underlying42 rfl hi') rfl ⟨by rw [hfin.out],below_setRow h3 (Nat.le_refl _) _⟩
    ·have hemp:rest.isEmpty=false:=by cases rest with | nil=>exact absurd rfl hre | cons=>rfl
     have h64:64≤rest.length:=by
      have:=hm.out
      have h0:rest.length≠0:=fun h=>hre (List.length_eq_zero_iff.1 h)
      omega
     have h64i:(64:Int)≤(rest.length:Int):=by omega
     have hR:HasRow wr vb 108 8:=hasRow_blk h1 (u32s_list_size s)
     have hO:RowOf wr vb=u32s s.list:=rowOf_blk h1
     have hRd:HasRow wr.drew vb 108 8:=hR
     have hOd:RowOf wr.drew vb=u32s s.list:=hO
     have hKd:TabK wr.drew:=hK.below h3.drew
     have h1d:Blk wr.drew vb 108 (u32s s.list):=h1
     have hbs1d:vb<wr.drew.heap.size:=hbs1
     go_wp2
     go_region_with (first
      | (go_at_call 104;go_must (refine (block_calls s hfit (rest.take 64) (by rw [List.length_take];omega) _ hKd).mono ?_);rintro e w1 ⟨rfl,hb1⟩;have hRc:=hasRow_blk (h1d.below hb1 hbs1d) (u32s_list_size s);have hOc:=rowOf_blk (h1d.below hb1 hbs1d)))
     have e1:=setRow_heap w1 vb _ (u32s (blockOf s (rest.take 64)).list) _ _ (h1d.below hb1 hbs1d)
     have e2:Blk (w1.setRow vb (u32s (blockOf s (rest.take 64)).list)) w.heap.size 42 (u8s (List.replicate 32 0)):=by
      unfold Blk;rw [setRow_other _ _ _ _ (by omega)];exact Blk.below (w:=wr.drew) h2 hb1 h2.lt
     have e3:=below_setRow (bthen h3.drew (Nat.le_of_lt h2.lt) hb1) (Nat.le_of_lt hvw) (u32s (blockOf s (rest.take 64)).list)
     have hnst:Hid (blocks (m-1) (blockOf s (rest.take 64)) (rest.drop 64)=stateOf l):=by
      have:=hst.out
      obtain ⟨m',rfl⟩ : ∃ m',m=m'+1:=⟨m-1,by have:=hm.out;omega⟩
      exact this
     have hnm:Hid ((rest.drop 64).length=64*(m-1)):=by have:=hm.out;show _=_;rw [List.length_drop];omega
     have hdl:(rest.drop 64).length=rest.length-64:=List.length_drop
     have hfit2:(blockOf s (rest.take 64)).Fit:=plus_fit _ _
     generalize blockOf s (rest.take 64)=s' at *
     clear hRc hOc hb1
     generalize w1.setRow vb (u32s s'.list)=wz at *
     go_wp2
     go_roundw
     case rel=>exact ⟨m-1,rest.drop 64,s',rfl,hnm,by omega,hnst,hfit2,e1,e2,e3⟩
     case measure=>rw [strOf_B,strOf_B];omega
end Go.Proofs.YtlojebhcemfodaaGreatDoor
namespace Go.Proofs.YtlojebhcemfodaaGreatDoor
open Go.RowKit
set_option maxRecDepth 100000 in
set_option maxHeartbeats 400000 in
theorem turn_calls (x n:Nat) (hx:x<4294967296) (h0:1≤n) (h1:n≤31) (w:World) :
 Calls Tryz.prog 73 #[.int .u32 x, .int .u64 n] w fun e w'=>e = .returned (.int .u32 (rotr x n))∧w=w':=by
 have hn0:0≤(n:Int):=by omega
 have hn1:(n:Int)≤31:=by omega
 go_enter Tryz.func73,Tryz.ntmps73
 go_wp2
 go_ret
 refine ⟨congrArg (fun n:Int=>Ending.returned (.int .u32 n)) ?_,rfl⟩
 have e:((rotr x n:Nat):Int)=(x:Int) / 2 ^ n+(x:Int)*2 ^ (32-n)%4294967296:=by simp [rotr]
 have:=rotr_lt hx h0 h1
 rw [←e]
 omega
set_option maxRecDepth 100000 in
set_option maxHeartbeats 400000 in
theorem k_calls (w:World) :
 Calls Tryz.prog 53 #[] w fun e w'=>e = .returned (.agg (u32s K256))∧Below w.heap.size w w':=by
 have hi':(Tryz.prog.info? 109).map (·.size)=some (u32s K256).size:=by rw [u32s_size,K256_length];exact sz64
 have hall':=u32s_one K256
 have hold':(u32s (List.replicate 64 0)).size=(u32s K256).size:=by rw [u32s_size,u32s_size,K256_length,List.length_replicate]
 have hv0:=Blk.new w 109 (u32s (List.replicate 64 0))
 go_enter Tryz.func53,Tryz.ntmps53
 go_wp2_with (first
  | (refine wpList_store_row rfl 109 (.tmp 0) (.tmp 1) rfl w.heap.size (u32s K256) rfl rfl _ _ hv0 hi' hold' hall' ?_))
 exact bodyPost_ret (results_cell_row rfl _ _ w.heap.size _ _ _ _ rfl (setRow_heap _ _ _ _ _ _ hv0) Tryz.underlying109 rfl hi') rfl ⟨rfl,below_setRow ((Below.refl _ _).alloc (Nat.le_refl _) _) (Nat.le_refl _) _⟩
end Go.Proofs.YtlojebhcemfodaaGreatDoor
namespace Go.Proofs.YtlojebhcemfodaaGreatDoor
open Go.RowKit
attribute [local go_sem ↓] Go.wp_at_zero Go.wp_at_succ
theorem turn_at (x n:Nat) (m:Int) (hm:m=(n:Int)) (hx:x<4294967296) (h0:1≤n) (h1:n≤31) (w:World) :
 Calls Tryz.prog 73 #[.int .u32 x, .int .u64 m] w fun e w'=>e = .returned (.int .u32 (rotr x n))∧w=w':=hm▸turn_calls x n hx h0 h1 w
def zeros (n:Nat):List Nat:=List.replicate n 0
theorem zeros_length (n:Nat):(zeros n).length=n:=List.length_replicate
theorem first_step (b:List UInt8) (k:Nat) (hk:k<16):(first b k++List.replicate (64-k) 0).set k (be4 b k)=first b (k+1)++List.replicate (64-(k+1)) 0:=by
 have hl:=first_length b k
 have:=set_behind (first b k) (64-k) (be4 b k) (by omega)
 rw [hl] at this
 rw [this,show 64-k-1=64-(k+1) from by omega]
 congr 1
 simp [first,List.range_succ]
theorem at_byte (b:List UInt8) (i:Nat) (h:i<b.length):((b[i]).toNat:Nat)=byteAt b i:=by
 simp [byteAt,List.getD,List.getElem?_eq_getElem h]
theorem blk_new4 (w:World) (o1 o2 o3:Obj) (t:TypeId) (cs:Array Value):Blk ((((w.alloc o1).alloc o2).alloc o3).alloc (.cells cs t)) (w.heap.size+3) t cs:=by
 have:=Blk.new (((w.alloc o1).alloc o2).alloc o3) t cs
 rwa [show (((w.alloc o1).alloc o2).alloc o3).heap.size=w.heap.size+3 from by simp] at this
theorem quiet_left {P:Program} {f:FuncId} {args:Array Value} {w:World} {n:Nat} {v:Value}
 (h:Calls P f args (w.drewN n) fun e w'=>e = .returned v∧w.drewN n=w'):Calls P f args (w.drewN n) fun e w''=>e = .returned v ∧ ∃ m,w''=w.drewN m:=
 h.mono fun _ _ ⟨he,hm⟩=>⟨he,n,hm.symm⟩
set_option maxRecDepth 100000 in
set_option maxHeartbeats 4000000 in
theorem refBlock_calls (s0:H8) (hs0:s0.Fit) (b:List UInt8) (hb:b.length=64) (w:World) :
 Calls Tryz.prog 54 #[.agg (u32s s0.list), .string (B b), .agg (u32s K256)] w fun e w'=>e = .returned (.agg (u32s (blockOf s0 b).list))∧Below w.heap.size w w':=by
 obtain ⟨KK,hKK⟩ : ∃ KK,Hid (K256=KK):=⟨_,rfl⟩
 rw [hKK.out]
 have hKl:KK.length=64:=by rw [←hKK.out];exact K256_length
 go_enter Tryz.func54,Tryz.ntmps54
 have hv0:=blk_new4 w (.cells (u32s s0.list) 108) (.cells (u32s KK) 109) (.cells (u32s (List.replicate 8 0)) 108) 109 (u32s (zeros 64))
 have hi':(Tryz.prog.info? 109).map (·.size)=some (u32s (zeros 64)).size:=by rw [u32s_size,zeros_length];exact sz64
 have hall':=u32s_one (zeros 64)
 go_wp2_with (first
  | (refine wpList_store_row rfl 109 (.tmp 7) (.tmp 17) rfl (w.heap.size+3) (u32s (zeros 64)) rfl rfl _ _ hv0 hi' rfl hall' ?_))
 have h1:=setRow_heap _ _ _ (u32s (zeros 64)) _ _ hv0
 obtain ⟨wz,hwz⟩ : ∃ wz,wz=World.setRow ((((w.alloc (.cells (u32s s0.list) 108)).alloc (.cells (u32s KK) 109)).alloc (.cells (u32s (List.replicate 8 0)) 108)).alloc (.cells (u32s (zeros 64)) 109)) (w.heap.size+3) (u32s (zeros 64)):=⟨_,rfl⟩
 have b1:Blk wz (w.heap.size+1+1+1) 109 (u32s (first b 0++zeros (64-0))):=by rw [hwz];exact h1
 have b2:Blk wz w.heap.size 108 (u32s s0.list):=by
  rw [hwz];unfold Blk;rw [setRow_other _ _ _ _ (by omega)];exact (((Blk.new w _ _).alloc _).alloc _).alloc _
 have b3:Blk wz (w.heap.size+1) 109 (u32s KK):=by
  rw [hwz];unfold Blk;rw [setRow_other _ _ _ _ (by omega)];exact ((blk_new2 w _ _ _).alloc _).alloc _
 have b4:Blk wz (w.heap.size+1+1) 108 (u32s (List.replicate 8 0)):=by
  rw [hwz];unfold Blk;rw [setRow_other _ _ _ _ (by omega)];exact (blk_new3 w _ _ _ _).alloc _
 have b5:Below w.heap.size w wz:=by
  rw [hwz]
  exact below_setRow (((((Below.refl _ _).alloc (Nat.le_refl _) _).alloc (by simp) _).alloc (by simp;omega) _).alloc (by simp;omega) _) (by omega) _
 clear h1 hv0
 obtain ⟨g,hg⟩ : ∃ g,g=w.heap.size:=⟨_,rfl⟩
 go_loopw [8] (fun i wr => ∃ k:Nat,i = .int .i64 k∧k≤16∧Blk wr (w.heap.size+1+1+1) 109 (u32s (first b k++zeros (64-k)))∧Blk wr w.heap.size 108 (u32s s0.list)∧Blk wr (w.heap.size+1) 109 (u32s KK)∧Blk wr (w.heap.size+1+1) 108 (u32s (List.replicate 8 0))∧Below w.heap.size w wr) (fun i _=>16-(intOf i).toNat)
 case atStart=>exact ⟨0,rfl,by omega,hwz▸b1,hwz▸b2,hwz▸b3,hwz▸b4,hwz▸b5⟩
 case round=>
  clear b1 b2 b3 b4 b5 hwz
  obtain ⟨k,rfl,hk,h1,h2,h3,h4,hbel⟩:=hrel
  have hbs:=h1.lt
  by_cases hlt:k<16
  ·have hki:(k:Int)<16:=by omega
   have hcz:wr.cell? ⟨w.heap.size+1+1+1,k,none⟩=some (.int .u32 ((first b k++zeros (64-k)).getD k 0:Nat)):=by
    rw [h1.cell,u32s_get _ _ (by rw [List.length_append,first_length,zeros_length];omega)]
   have hf:=h1.frozen k
   have hset:=Lib.hid (first_step b k hlt)
   have y0:=at_byte b (4*k) (by omega)
   have y1:=at_byte b (4*k+1) (by omega)
   have y2:=at_byte b (4*k+2) (by omega)
   have y3:=at_byte b (4*k+3) (by omega)
   have l0:=byteAt_lt b (4*k)
   have l1:=byteAt_lt b (4*k+1)
   have l2:=byteAt_lt b (4*k+2)
   have l3:=byteAt_lt b (4*k+3)
   have hbe:Hid (be4 b k=byteAt b (4*k)*16777216+byteAt b (4*k+1)*65536+byteAt b (4*k+2)*256+byteAt b (4*k+3)):=rfl
   generalize (first b k++zeros (64-k)).getD k 0=oz at *
   generalize byteAt b (4*k)=c0 at *
   generalize byteAt b (4*k+1)=c1 at *
   generalize byteAt b (4*k+2)=c2 at *
   generalize byteAt b (4*k+3)=c3 at *
   have i0:(4*(k:Int))<64:=by omega
   have j0:0≤(4*(k:Int)):=by omega
   have i1:(4*(k:Int)+1)<64:=by omega
   have j1:0≤(4*(k:Int)+1):=by omega
   have i2:(4*(k:Int)+2)<64:=by omega
   have j2:0≤(4*(k:Int)+2):=by omega
   have i3:(4*(k:Int)+3)<64:=by omega
   have j3:0≤(4*(k:Int)+3):=by omega
   have hk64:(k:Int)<64:=by omega
   go_wp2
   go_region
   go_wp2
   have hv:(c0:Int)*16777216+(c1:Int)*65536+(c2:Int)*256+(c3:Int)=((be4 b k:Nat):Int):=by rw [hbe.out];simp
   rw [hv]
   have hn:=(h1.set_ k (.int .u32 (be4 b k:Nat))).drew
   rw [u32s_set,show (first b k++zeros (64-k)).set k (be4 b k)=first b (k+1)++zeros (64-(k+1)) from hset.out] at hn
   go_roundw
   case rel=>exact ⟨k+1,by go_num,by omega,hn,(h2.far (by simp;omega) _).drew,(h3.far (by simp) _).drew,(h4.far (by simp) _).drew,(hbel.setCell (by simp;omega) _).drew⟩
   case measure=>simp [intOf];omega
  ·have hk16:k=16:=by omega
   have hki : ¬ (k:Int)<16:=by omega
   rw [hk16] at h1
   clear hk16
   have hgoal:Hid (sched 48 (first b 16)=wordsOf b):=rfl
   go_wp2
   go_loopw [9] (fun i wr => ∃ (t:Nat) (l:List Nat),i = .int .i64 t∧16≤t∧t≤64∧Hid (l.length=t)∧Hid (Fit32 l)∧Hid (sched (64-t) l=wordsOf b)∧Blk wr (w.heap.size+1+1+1) 109 (u32s (l++zeros (64-t)))∧Blk wr w.heap.size 108 (u32s s0.list)∧Blk wr (w.heap.size+1) 109 (u32s KK)∧Blk wr (w.heap.size+1+1) 108 (u32s (List.replicate 8 0))∧Below w.heap.size w wr) (fun i _=>64-(intOf i).toNat)
   case atStart=>exact ⟨16,first b 16,rfl,by omega,by omega,first_length b 16,first_fit b 16,hgoal,h1,h2,h3,h4,hbel⟩
   case round=>
    clear h1 h2 h3 h4 hbel hbs
    obtain ⟨t,l,rfl,ht0,ht1,hlen,hfit,hsc,h1,h2,h3,h4,hbel⟩:=hrel
    have hbs:=h1.lt
    by_cases hlt:t<64
    ·have hti:(t:Int)<64:=by omega
     have get (j:Nat) (hj:j<t):wr.cell? ⟨w.heap.size+1+1+1,j,none⟩=some (.int .u32 (l.getD j 0:Nat)):=by
      rw [h1.cell,u32s_get _ _ (by rw [List.length_append,hlen.out,zeros_length];omega),getD_left (by rw [hlen.out];exact hj)]
     have c16:=get (t-16) (by omega)
     have c15:=get (t-15) (by omega)
     have c7:=get (t-7) (by omega)
     have c2:=get (t-2) (by omega)
     have ct:wr.cell? ⟨w.heap.size+1+1+1,t,none⟩=some (.int .u32 ((l++zeros (64-t)).getD t 0:Nat)):=by
      rw [h1.cell,u32s_get _ _ (by rw [List.length_append,hlen.out,zeros_length];omega)]
     have hft:=h1.frozen t
     have b16:=hfit.out (t-16)
     have b15:=hfit.out (t-15)
     have b7:=hfit.out (t-7)
     have b2:=hfit.out (t-2)
     have hnext:Hid (nextW l=(l.getD (t-16) 0+l.getD (t-7) 0+sig0 (l.getD (t-15) 0)+sig1 (l.getD (t-2) 0))%4294967296):=by
      unfold nextW;rw [hlen.out];rfl
     clear get
     generalize l.getD (t-16) 0=x16 at *
     generalize l.getD (t-15) 0=x15 at *
     generalize l.getD (t-7) 0=x7 at *
     generalize l.getD (t-2) 0=x2 at *
     generalize (l++zeros (64-t)).getD t 0=old at *
     obtain ⟨u16,i16,v16⟩ : ∃ u:Nat,IntKind.i64.wrap ((t:Int)-16)=(u:Int)∧u=t-16:=⟨t-16,by rw [IntWalk.i64_in _ (by omega)];omega,rfl⟩
     rw [←v16] at c16
     have m16:(u16:Int)<64:=by omega
     have n16:u16<64:=by omega
     have v16h:=Lib.hid v16
     clear v16
     obtain ⟨u15,i15,v15⟩ : ∃ u:Nat,IntKind.i64.wrap ((t:Int)-15)=(u:Int)∧u=t-15:=⟨t-15,by rw [IntWalk.i64_in _ (by omega)];omega,rfl⟩
     rw [←v15] at c15
     have m15:(u15:Int)<64:=by omega
     have n15:u15<64:=by omega
     have v15h:=Lib.hid v15
     clear v15
     obtain ⟨u7,i7,v7⟩ : ∃ u:Nat,IntKind.i64.wrap ((t:Int)-7)=(u:Int)∧u=t-7:=⟨t-7,by rw [IntWalk.i64_in _ (by omega)];omega,rfl⟩
     rw [←v7] at c7
     have m7:(u7:Int)<64:=by omega
     have n7:u7<64:=by omega
     have v7h:=Lib.hid v7
     clear v7
     obtain ⟨u2,i2,v2⟩ : ∃ u:Nat,IntKind.i64.wrap ((t:Int)-2)=(u:Int)∧u=t-2:=⟨t-2,by rw [IntWalk.i64_in _ (by omega)];omega,rfl⟩
     rw [←v2] at c2
     have m2:(u2:Int)<64:=by omega
     have n2:u2<64:=by omega
     have v2h:=Lib.hid v2
     clear v2
     have r1:=rotr_lt (n:=7) b15 (by omega) (by omega)
     have r2:=rotr_lt (n:=18) b15 (by omega) (by omega)
     have r3:=rotr_lt (n:=17) b2 (by omega) (by omega)
     have r4:=rotr_lt (n:=19) b2 (by omega) (by omega)
     have e1:bits .xor .u32 (rotr x15 7:Int) (rotr x15 18:Int)=((rotr x15 7 ^^^ rotr x15 18:Nat):Int):=u32_xor_nat _ _ r1 r2
     have e2:bits .xor .u32 ((rotr x15 7 ^^^ rotr x15 18:Nat):Int) ((x15:Int) / 8)=((sig0 x15:Nat):Int):=by
      rw [show (x15:Int) / 8=((x15 / 8:Nat):Int) from by omega];exact u32_xor_nat _ _ (xor_lt r1 r2) (by omega)
     have e3:bits .xor .u32 (rotr x2 17:Int) (rotr x2 19:Int)=((rotr x2 17 ^^^ rotr x2 19:Nat):Int):=u32_xor_nat _ _ r3 r4
     have e4:bits .xor .u32 ((rotr x2 17 ^^^ rotr x2 19:Nat):Int) ((x2:Int) / 1024)=((sig1 x2:Nat):Int):=by
      rw [show (x2:Int) / 1024=((x2 / 1024:Nat):Int) from by omega];exact u32_xor_nat _ _ (xor_lt r3 r4) (by omega)
     go_wp2
     go_region_held3 (fun w'=>w'.cell? ⟨w.heap.size+1+1+1,u15,none⟩=some (.int .u32 (x15:Int))) (first | exact c15 | go_keep)
      (first
        | (go_at_call 73;(with_reducible refine (turn_at x15 7 7 rfl b15 (by omega) (by omega) _).mono ?_);rintro e w1 ⟨rfl,rfl⟩)
        | (go_at_call 73;(with_reducible refine (turn_at x15 18 18 rfl b15 (by omega) (by omega) _).mono ?_);rintro e w1 ⟨rfl,rfl⟩))
     go_wp2
     have c2d:wr.drew.cell? ⟨w.heap.size+1+1+1,u2,none⟩=some (.int .u32 (x2:Int)):=c2
     go_region_held3 (fun w'=>w'.cell? ⟨w.heap.size+1+1+1,u2,none⟩=some (.int .u32 (x2:Int))) (first | exact c2 | exact c2d | go_keep)
      (first
        | (go_at_call 73;(with_reducible refine (turn_at x2 17 17 rfl b2 (by omega) (by omega) _).mono ?_);rintro e w1 ⟨rfl,rfl⟩)
        | (go_at_call 73;(with_reducible refine (turn_at x2 19 19 rfl b2 (by omega) (by omega) _).mono ?_);rintro e w1 ⟨rfl,rfl⟩))
     go_wp2
     have c16d:wr.drew.drew.cell? ⟨w.heap.size+1+1+1,u16,none⟩=some (.int .u32 (x16:Int)):=c16
     have c7d:wr.drew.drew.cell? ⟨w.heap.size+1+1+1,u7,none⟩=some (.int .u32 (x7:Int)):=c7
     have ctd:wr.drew.drew.cell? ⟨w.heap.size+1+1+1,t,none⟩=some (.int .u32 (old:Int)):=ct
     have h1d:=h1.drew.drew
     have h2d:=h2.drew.drew
     have h3d:=h3.drew.drew
     have h4d:=h4.drew.drew
     have hbeld:=hbel.drew.drew
     have hftd:wr.drew.drew.frozen? ⟨w.heap.size+1+1+1,t,none⟩=false:=hft
     clear h1 h2 h3 h4 hbel hft c16 c15 c7 c2 ct c2d e1 e2 e3 e4 r1 r2 r3 r4
     generalize wr.drew.drew=wo at *
     obtain ⟨nx,hval,hnx⟩ : ∃ nx:Nat,IntKind.u32.wrap (IntKind.u32.wrap (IntKind.u32.wrap ((x16:Int)+((sig0 x15:Nat):Int))+(x7:Int))+((sig1 x2:Nat):Int))=(nx:Int)∧nx=nextW l:=by
      refine ⟨nextW l,?_,rfl⟩
      rw [hnext.out,IntKind.wrap_u32,IntKind.wrap_u32,IntKind.wrap_u32]
      omega
     have hnxh:=Lib.hid hnx
     clear hnx
     have ne16:u16≠t:=by have:=v16h.out;omega
     have ne7:u7≠t:=by have:=v7h.out;omega
     go_region_held3 (fun w'=>w'.cell? ⟨w.heap.size+1+1+1,u16,none⟩=some (.int .u32 (x16:Int))∧w'.cell? ⟨w.heap.size+1+1+1,u7,none⟩=some (.int .u32 (x7:Int))) (first | exact ⟨c16d,c7d⟩ | exact ⟨keep_set c16d ne16,keep_set c7d ne7⟩ | go_keep) (fail)
     go_wp2
     have hn1:Blk ((wo.setCell ⟨w.heap.size+1+1+1,t,none⟩ (.int .u32 (nx:Int))).drew) (w.heap.size+1+1+1) 109 (u32s ((l++[nx])++zeros (64-(t+1)))):=by
      have:=(h1d.set_ t (.int .u32 (nx:Int)))
      have hs:(l++zeros (64-t)).set l.length nx=(l++[nx])++zeros (64-t-1):=set_behind l (64-t) nx (by omega)
      rw [hlen.out] at hs
      rw [u32s_set,hs,show 64-t-1=64-(t+1) from by omega] at this
      exact this.drew
     have hnlen:Hid ((l++[nx]).length=t+1):=by rw [List.length_append,hlen.out];rfl
     have hnfit:Hid (Fit32 (l++[nx])):=hfit.out.append (by rw [hnxh.out];exact nextW_lt l)
     have hnsc:Hid (sched (64-(t+1)) (l++[nx])=wordsOf b):=by
      rw [←hsc.out,show 64-t=(64-(t+1))+1 from by omega,sched,←hnxh.out];rfl
     go_roundw
     case rel=>exact ⟨t+1,l++[nx],by go_num,by omega,by omega,hnlen,hnfit,hnsc,hn1,(h2d.far (by simp;omega) _).drew,(h3d.far (by simp) _).drew,(h4d.far (by simp) _).drew,(hbeld.setCell (by simp;omega) _).drew⟩
     case measure=>simp [intOf];omega
    ·have ht64:t=64:=by omega
     have hti : ¬ (t:Int)<64:=by omega
     have hl:l=wordsOf b:=by have:=hsc.out;rw [ht64] at this;exact this
     rw [ht64,hl,show zeros (64-64)=[] from rfl,List.append_nil] at h1
     clear ht64 hl hsc hfit hlen
     have q0:=Blk.new wr 108 (u32s (List.replicate 8 0))
     have hi8:(Tryz.prog.info? 108).map (·.size)=some (u32s s0.list).size:=by rw [u32s_list_size];exact sz8
     have hall:=u32s_one s0.list
     have hold:(u32s (List.replicate 8 0)).size=(u32s s0.list).size:=by rw [u32s_list_size];rfl
     go_wp2_with (first
      | (refine wpList_load_row rfl 108 (.tmp 3) rfl w.heap.size rfl _ _ _ _ h2 Tryz.underlying108 rfl hi8 ?_)
      | (refine wpList_store_row rfl 108 (.tmp 12) (.tmp 106) rfl wr.heap.size (u32s s0.list) rfl rfl _ _ q0 hi8 hold hall ?_))
     obtain ⟨vb,hvb⟩ : ∃ vb,vb=wr.heap.size:=⟨_,rfl⟩
     obtain ⟨wz,hwz⟩ : ∃ wz,wz=World.setRow (wr.alloc (.cells (u32s (List.replicate 8 0)) 108)) wr.heap.size (u32s s0.list):=⟨_,rfl⟩
     have p0:Blk wz vb 108 (u32s s0.list):=by rw [hwz,hvb];exact setRow_heap _ _ _ _ _ _ q0
     have p1:Blk wz (w.heap.size+1+1+1) 109 (u32s (wordsOf b)):=by rw [hwz];unfold Blk;rw [setRow_other _ _ _ _ (by omega)];exact h1.alloc _
     have p2:Blk wz w.heap.size 108 (u32s s0.list):=by rw [hwz];unfold Blk;rw [setRow_other _ _ _ _ (by omega)];exact h2.alloc _
     have p3:Blk wz (w.heap.size+1) 109 (u32s KK):=by rw [hwz];unfold Blk;rw [setRow_other _ _ _ _ (by omega)];exact h3.alloc _
     have p4:Blk wz (w.heap.size+1+1) 108 (u32s (List.replicate 8 0)):=by rw [hwz];unfold Blk;rw [setRow_other _ _ _ _ (by omega)];exact h4.alloc _
     have p5:Below w.heap.size w wz:=by rw [hwz];exact below_setRow (hbel.alloc (by omega) _) (by omega) _
     have hvw:w.heap.size+1+1+1<vb:=by omega
     clear h1 h2 h3 h4 hbel q0
     go_loopw [13] (fun i wr => ∃ (t:Nat) (s:H8),i = .int .i64 t∧t≤64∧Hid (s=after (wordsOf b) s0 t)∧s.Fit∧Blk wr vb 108 (u32s s.list)∧Blk wr (w.heap.size+1+1+1) 109 (u32s (wordsOf b))∧Blk wr w.heap.size 108 (u32s s0.list)∧Blk wr (w.heap.size+1) 109 (u32s KK)∧Blk wr (w.heap.size+1+1) 108 (u32s (List.replicate 8 0))∧Below w.heap.size w wr) (fun i _=>64-(intOf i).toNat)
     case atStart=>exact ⟨0,s0,rfl,by omega,rfl,hs0,hwz▸p0,hwz▸p1,hwz▸p2,hwz▸p3,hwz▸p4,hwz▸p5⟩
     case round=>
      rw [←hvb]
      clear p0 p1 p2 p3 p4 p5 hwz hbs hvb
      obtain ⟨t,s,rfl,ht,hst,hfit,h0,h1,h2,h3,h4,hbel⟩:=hrel
      have hbs:=h0.lt
      by_cases hlt:t<64
      ·have hti:(t:Int)<64:=by omega
       have hnext:Hid (after (wordsOf b) s0 (t+1)=rnd s (KK.getD t 0) ((wordsOf b).getD t 0)):=by rw [←hKK.out,hst.out];rfl
       have bw:=wordsOf_fit b t
       have bk:KK.getD t 0<4294967296:=by rw [←hKK.out];exact K256_fit t
       have ck:wr.cell? ⟨w.heap.size+1,t,none⟩=some (.int .u32 (KK.getD t 0:Nat)):=by rw [h3.cell,u32s_get _ _ (by omega)]
       have cw:wr.cell? ⟨w.heap.size+1+1+1,t,none⟩=some (.int .u32 ((wordsOf b).getD t 0:Nat)):=by rw [h1.cell,u32s_get _ _ (by rw [wordsOf_length];omega)]
       generalize (wordsOf b).getD t 0=wt at *
       generalize KK.getD t 0=kt at *
       obtain ⟨xa,xb,xc,xd,xe,xf,xg,xh⟩:=s
       obtain ⟨ba,bb,bc,bd,be,bf,bg,bh⟩:=hfit
       simp only at ba bb bc bd be bf bg bh
       have c0:wr.cell? ⟨vb,0,none⟩=some (.int .u32 (xa:Int)):=h0.cell 0
       have c1:wr.cell? ⟨vb,1,none⟩=some (.int .u32 (xb:Int)):=h0.cell 1
       have c2:wr.cell? ⟨vb,2,none⟩=some (.int .u32 (xc:Int)):=h0.cell 2
       have c3:wr.cell? ⟨vb,3,none⟩=some (.int .u32 (xd:Int)):=h0.cell 3
       have c4:wr.cell? ⟨vb,4,none⟩=some (.int .u32 (xe:Int)):=h0.cell 4
       have c5:wr.cell? ⟨vb,5,none⟩=some (.int .u32 (xf:Int)):=h0.cell 5
       have c6:wr.cell? ⟨vb,6,none⟩=some (.int .u32 (xg:Int)):=h0.cell 6
       have c7:wr.cell? ⟨vb,7,none⟩=some (.int .u32 (xh:Int)):=h0.cell 7
       have r6:=rotr_lt (n:=6) be (by omega) (by omega)
       have r11:=rotr_lt (n:=11) be (by omega) (by omega)
       have r25:=rotr_lt (n:=25) be (by omega) (by omega)
       have r2:=rotr_lt (n:=2) ba (by omega) (by omega)
       have r13:=rotr_lt (n:=13) ba (by omega) (by omega)
       have r22:=rotr_lt (n:=22) ba (by omega) (by omega)
       have e1:bits .xor .u32 (rotr xe 6:Int) (rotr xe 11:Int)=((rotr xe 6 ^^^ rotr xe 11:Nat):Int):=u32_xor_nat _ _ r6 r11
       have e2:bits .xor .u32 ((rotr xe 6 ^^^ rotr xe 11:Nat):Int) (rotr xe 25:Int)=((sum1 xe:Nat):Int):=u32_xor_nat _ _ (xor_lt r6 r11) r25
       have e3:bits .and .u32 (xe:Int) (xf:Int)=((xe &&& xf:Nat):Int):=u32_and_nat _ _ be bf
       have e4:bits .xor .u32 IntKind.u32.max (xe:Int)=((4294967295 ^^^ xe:Nat):Int):=u32_xor_nat 4294967295 _ (by omega) be
       have bn:4294967295 ^^^ xe<4294967296:=xor_lt (by omega) be
       have e5:bits .and .u32 ((4294967295 ^^^ xe:Nat):Int) (xg:Int)=(((4294967295 ^^^ xe) &&& xg:Nat):Int):=u32_and_nat _ _ bn bg
       have e6:bits .xor .u32 ((xe &&& xf:Nat):Int) (((4294967295 ^^^ xe) &&& xg:Nat):Int)=(((xe &&& xf) ^^^ ((4294967295 ^^^ xe) &&& xg):Nat):Int):=u32_xor_nat _ _ (and_lt bf) (and_lt bg)
       obtain ⟨X,hX,hXe⟩ : ∃ X:Nat,IntKind.u32.wrap (IntKind.u32.wrap (IntKind.u32.wrap (IntKind.u32.wrap ((xh:Int)+((sum1 xe:Nat):Int))+(((xe &&& xf) ^^^ ((4294967295 ^^^ xe) &&& xg):Nat):Int))+(kt:Int))+(wt:Int))=(X:Int)∧X=rndX ⟨xa,xb,xc,xd,xe,xf,xg,xh⟩ kt wt:=by
        refine ⟨_,?_,rfl⟩
        unfold rndX
        generalize ((xe &&& xf) ^^^ ((4294967295 ^^^ xe) &&& xg))=ch
        simp only [IntKind.wrap_u32]
        omega
       have hXh:=Lib.hid hXe
       clear hXe
       have f1:bits .xor .u32 (rotr xa 2:Int) (rotr xa 13:Int)=((rotr xa 2 ^^^ rotr xa 13:Nat):Int):=u32_xor_nat _ _ r2 r13
       have f2:bits .xor .u32 ((rotr xa 2 ^^^ rotr xa 13:Nat):Int) (rotr xa 22:Int)=((sum0 xa:Nat):Int):=u32_xor_nat _ _ (xor_lt r2 r13) r22
       have f3:bits .and .u32 (xa:Int) (xb:Int)=((xa &&& xb:Nat):Int):=u32_and_nat _ _ ba bb
       have f4:bits .and .u32 (xa:Int) (xc:Int)=((xa &&& xc:Nat):Int):=u32_and_nat _ _ ba bc
       have f5:bits .and .u32 (xb:Int) (xc:Int)=((xb &&& xc:Nat):Int):=u32_and_nat _ _ bb bc
       have f6:bits .xor .u32 ((xa &&& xb:Nat):Int) ((xa &&& xc:Nat):Int)=(((xa &&& xb) ^^^ (xa &&& xc):Nat):Int):=u32_xor_nat _ _ (and_lt bb) (and_lt bc)
       have f7:bits .xor .u32 (((xa &&& xb) ^^^ (xa &&& xc):Nat):Int) ((xb &&& xc:Nat):Int)=(((xa &&& xb) ^^^ (xa &&& xc) ^^^ (xb &&& xc):Nat):Int):=u32_xor_nat _ _ (xor_lt (and_lt bb) (and_lt bc)) (and_lt bc)
       obtain ⟨Y,hY,hYe⟩ : ∃ Y:Nat,IntKind.u32.wrap (((sum0 xa:Nat):Int)+(((xa &&& xb) ^^^ (xa &&& xc) ^^^ (xb &&& xc):Nat):Int))=(Y:Int)∧Y=rndY ⟨xa,xb,xc,xd,xe,xf,xg,xh⟩:=by
        refine ⟨_,?_,rfl⟩
        unfold rndY
        generalize (xa &&& xb) ^^^ (xa &&& xc) ^^^ (xb &&& xc)=mj
        simp only [IntKind.wrap_u32]
        omega
       have hYh:=Lib.hid hYe
       clear hYe
       go_wp2
       go_quiet (first
        | (go_at_call 73;with_reducible exact quiet_left (turn_at xe 6 6 rfl be (by omega) (by omega) _))
        | (go_at_call 73;with_reducible exact quiet_left (turn_at xe 11 11 rfl be (by omega) (by omega) _))
        | (go_at_call 73;with_reducible exact quiet_left (turn_at xe 25 25 rfl be (by omega) (by omega) _)))
       have k0:=h0.drewN nq
       have k1:=h1.drewN nq
       have k2:=h2.drewN nq
       have k3:=h3.drewN nq
       have k4:=h4.drewN nq
       have kbel:=bdrewN hbel nq
       have c0':(wr.drewN nq).cell? ⟨vb,0,none⟩=some (.int .u32 (xa:Int)):=c0
       have c1':(wr.drewN nq).cell? ⟨vb,1,none⟩=some (.int .u32 (xb:Int)):=c1
       have c2':(wr.drewN nq).cell? ⟨vb,2,none⟩=some (.int .u32 (xc:Int)):=c2
       have hX2:(((xh:Int)+((sum1 xe:Nat):Int)+bits .xor .u32 ((xe &&& xf:Nat):Int) (bits .and .u32 (bits .xor .u32 (if IntKind.u32.signed=true then -1 else IntKind.u32.max) (xe:Int)) (xg:Int))+(kt:Int))%4294967296+(wt:Int))%4294967296=(X:Int):=by
        rw [show (if IntKind.u32.signed=true then (-1:Int) else IntKind.u32.max)=IntKind.u32.max from rfl,e4,e5,e6,hXh.out,rndX]
        generalize ((xe &&& xf) ^^^ ((4294967295 ^^^ xe) &&& xg))=ch
        simp only
        omega
       rw [hX2]
       clear hX2
       clear h0 h1 h2 h3 h4 hbel c0 c1 c2 c3 c4 c5 c6 c7 ck cw hX e1 e2 e3 e4 e5 e6
       generalize wr.drewN nq=wo at *
       go_simp
       go_step
       go_step
       go_quiet (first
        | (go_at_call 73;with_reducible exact quiet_left (turn_at xa 2 2 rfl ba (by omega) (by omega) _))
        | (go_at_call 73;with_reducible exact quiet_left (turn_at xa 13 13 rfl ba (by omega) (by omega) _))
        | (go_at_call 73;with_reducible exact quiet_left (turn_at xa 22 22 rfl ba (by omega) (by omega) _)))
       have g0:=k0.drewN nq
       have g1:=k1.drewN nq
       have g2:=k2.drewN nq
       have g3:=k3.drewN nq
       have g4:=k4.drewN nq
       have gbel:=bdrewN kbel nq
       clear k0 k1 k2 k3 k4 kbel c0' c1' c2' f1 f2 f3 f4 f5 f6 f7 hY r2 r13 r22 r6 r11 r25
       generalize wo.drewN nq=wp at *
       go_simp
       go_step
       have d0:wp.cell? ⟨vb,0,none⟩=some (.int .u32 (xa:Int)):=g0.cell 0
       have d1:wp.cell? ⟨vb,1,none⟩=some (.int .u32 (xb:Int)):=g0.cell 1
       have d2:wp.cell? ⟨vb,2,none⟩=some (.int .u32 (xc:Int)):=g0.cell 2
       have d3:wp.cell? ⟨vb,3,none⟩=some (.int .u32 (xd:Int)):=g0.cell 3
       have d4:wp.cell? ⟨vb,4,none⟩=some (.int .u32 (xe:Int)):=g0.cell 4
       have d5:wp.cell? ⟨vb,5,none⟩=some (.int .u32 (xf:Int)):=g0.cell 5
       have d6:wp.cell? ⟨vb,6,none⟩=some (.int .u32 (xg:Int)):=g0.cell 6
       obtain ⟨D,hD,hDe⟩ : ∃ D:Nat,IntKind.u32.wrap ((xd:Int)+(X:Int))=(D:Int)∧D=(xd+X)%4294967296:=⟨_,by rw [IntKind.wrap_u32];omega,rfl⟩
       obtain ⟨A0,hA,hAe⟩ : ∃ A0:Nat,IntKind.u32.wrap ((X:Int)+(Y:Int))=(A0:Int)∧A0=(X+Y)%4294967296:=⟨_,by rw [IntKind.wrap_u32];omega,rfl⟩
       have hDh:=Lib.hid hDe
       have hAh:=Lib.hid hAe
       clear hDe hAe
       have hiN:(Tryz.prog.info? 108).map (·.size)=some (u32s (H8.mk A0 xa xb xc D xe xf xg).list).size:=by rw [u32s_list_size];exact sz8
       have hallN:=u32s_one (H8.mk A0 xa xb xc D xe xf xg).list
       go_wp2_with (first
        | (refine wpList_store_row rfl 108 (.tmp 12) (.tmp 194) rfl vb (u32s (H8.mk A0 xa xb xc D xe xf xg).list) rfl rfl _ _ g0 hiN rfl hallN ?_))
       have e0:Blk (wp.setRow vb (u32s (H8.mk A0 xa xb xc D xe xf xg).list)) vb 108 (u32s (H8.mk A0 xa xb xc D xe xf xg).list):=setRow_heap _ _ _ _ _ _ g0
       have e1:Blk (wp.setRow vb (u32s (H8.mk A0 xa xb xc D xe xf xg).list)) (w.heap.size+1+1+1) 109 (u32s (wordsOf b)):=by unfold Blk;rw [setRow_other _ _ _ _ (by omega)];exact g1
       have e2:Blk (wp.setRow vb (u32s (H8.mk A0 xa xb xc D xe xf xg).list)) w.heap.size 108 (u32s s0.list):=by unfold Blk;rw [setRow_other _ _ _ _ (by omega)];exact g2
       have e3:Blk (wp.setRow vb (u32s (H8.mk A0 xa xb xc D xe xf xg).list)) (w.heap.size+1) 109 (u32s KK):=by unfold Blk;rw [setRow_other _ _ _ _ (by omega)];exact g3
       have e4:Blk (wp.setRow vb (u32s (H8.mk A0 xa xb xc D xe xf xg).list)) (w.heap.size+1+1) 108 (u32s (List.replicate 8 0)):=by unfold Blk;rw [setRow_other _ _ _ _ (by omega)];exact g4
       have e5:Below w.heap.size w (wp.setRow vb (u32s (H8.mk A0 xa xb xc D xe xf xg).list)):=below_setRow gbel (by omega) _
       have hns:Hid (H8.mk A0 xa xb xc D xe xf xg=after (wordsOf b) s0 (t+1)):=by
        show _=_
        rw [hnext.out,rnd,hAh.out,hDh.out,hXh.out,hYh.out]
       have hnf:(H8.mk A0 xa xb xc D xe xf xg).Fit:=⟨by have:=hAh.out;show A0<_;omega,ba,bb,bc,by have:=hDh.out;show D<_;omega,be,bf,bg⟩
       clear d0 d1 d2 d3 d4 d5 d6 hD hA hiN hallN
       generalize wp.setRow vb (u32s (H8.mk A0 xa xb xc D xe xf xg).list)=wq at *
       go_wp2
       go_roundw
       case rel=>exact ⟨t+1,_,by go_num,by omega,hns,hnf,e0,e1,e2,e3,e4,e5⟩
       case measure=>simp [intOf];omega
      ·have ht64:t=64:=by omega
       have hti : ¬ (t:Int)<64:=by omega
       obtain ⟨R,hR⟩ : ∃ R,Hid (blockOf s0 b=R):=⟨_,rfl⟩
       have hsv:Hid (R=s.plus s0):=by show _=_;rw [←hR.out,blockOf,←ht64,←hst.out]
       clear ht64 hst
       go_wp2
       go_loopw [16] (fun i wr => ∃ i':Nat,i = .int .i64 i'∧i'≤8∧Blk wr vb 108 (u32s (mixed s.list s0.list i'))∧Blk wr w.heap.size 108 (u32s s0.list)∧Blk wr (w.heap.size+1+1) 108 (u32s (List.replicate 8 0))∧Below w.heap.size w wr) (fun i _=>8-(intOf i).toNat)
       case atStart=>exact ⟨0,rfl,by omega,h0,h2,h4,hbel⟩
       case round=>
        clear h0 h1 h2 h3 h4 hbel hbs
        obtain ⟨i,rfl,hi,h1,h2,h3,hbel⟩:=hrel
        have hbs:=h1.lt
        by_cases hi8:i<8
        ·have hii:(i:Int)<8:=by omega
         have ml:(mixed s.list s0.list i).length=8:=mixed_length s.list s0.list rfl i hi
         have cv:wr.cell? ⟨vb,i,none⟩=some (.int .u32 (s.list.getD i 0:Nat)):=by
          rw [h1.cell,u32s_get _ _ (by omega),mixed_get s.list s0.list rfl i hi8]
         have cs:wr.cell? ⟨w.heap.size,i,none⟩=some (.int .u32 (s0.list.getD i 0:Nat)):=by
          rw [h2.cell,u32s_get _ _ hi8]
         have zv:=h1.frozen i
         have hms:=Lib.hid (mixed_step s.list s0.list rfl i hi8)
         unfold add32 at hms
         generalize s.list.getD i 0=xv at *
         generalize s0.list.getD i 0=xs at *
         obtain ⟨N,hN,hNe⟩ : ∃ N:Nat,IntKind.u32.wrap ((xv:Int)+(xs:Int))=(N:Int)∧N=(xv+xs)%4294967296:=⟨_,by rw [IntKind.wrap_u32];omega,rfl⟩
         have hNh:=Lib.hid hNe
         clear hNe
         go_wp2
         go_region
         go_wp2
         go_roundw
         case rel=>
          refine ⟨i+1,by go_num,by omega,?_,?_,?_,?_⟩
          ·have:=(h1.set_ i (.int .u32 (N:Int))).drew
           rw [u32s_set,hNh.out,hms.out] at this
           rw [hNh.out]
           exact this
          ·exact (h2.far (p:=⟨vb,i,none⟩) (by simp;omega) _).drew
          ·exact (h3.far (p:=⟨vb,i,none⟩) (by simp;omega) _).drew
          ·exact (hbel.setCell (p:=⟨vb,i,none⟩) (by simp;omega) _).drew
         case measure=>simp [intOf];omega
        ·have hi8':i=8:=by omega
         have hii : ¬ (i:Int)<8:=by omega
         rw [hi8',mixed_all,←hsv.out] at h1
         clear hi8'
         have hi':(Tryz.prog.info? 108).map (·.size)=some (u32s R.list).size:=by rw [u32s_list_size];exact sz8
         have hall':=u32s_one R.list
         have hold':(u32s (List.replicate 8 0)).size=(u32s R.list).size:=by rw [u32s_list_size];rfl
         go_wp2_with (first
          | (refine wpList_load_row rfl 108 (.tmp 12) rfl vb rfl _ _ _ _ h1 Tryz.underlying108 rfl hi' ?_)
          | (refine wpList_store_row rfl 108 (.tmp 6) (.tmp 208) rfl (w.heap.size+1+1) (u32s R.list) rfl rfl _ _ h3 hi' hold' hall' ?_))
         exact bodyPost_ret (results_cell_row rfl _ _ (w.heap.size+1+1) _ _ _ _ rfl (setRow_heap _ _ _ _ _ _ h3) Tryz.underlying108 rfl hi') rfl ⟨by rw [hR.out],below_setRow hbel (by omega) _⟩
end Go.Proofs.YtlojebhcemfodaaGreatDoor
namespace Go.Proofs.YtlojebhcemfodaaGreatDoor
open Go.RowKit
attribute [local go_sem ↓] Go.wp_at_zero Go.wp_at_succ
attribute [local go_sem ↓] ldv8_eq stv8_eq
attribute [local go_sem] run_ldv8 run_stv8
/-- The load of 64 words, not to be opened by the walk. -/
def ldv64 (p:Addr):Sem Value:=loadVar 109 p
theorem ldv64_eq (p:Addr):loadVar 109 p=ldv64 p:=rfl
theorem run_ldv64 (w:World) (g:Nat) (hh:HasRow w g 109 64):(ldv64 ⟨g,0,none⟩).run Tryz.prog w = .ok (.agg (RowOf w g)) w:=by
 obtain ⟨cs,hn,h⟩:=hh
 rw [rowOf_blk h]
 exact run_loadVar_row w g _ _ _ _ _ h Tryz.underlying109 rfl (by rw [hn];exact sz64)
attribute [local go_sem ↓] ldv64_eq
attribute [local go_sem] run_ldv64
theorem pad_done (n j:Nat) (hj:j≤padLen n) (h:(n+1+j)%64=56):j=padLen n:=by unfold padLen at *;omega
theorem pad_more (n j:Nat) (hj:j≤padLen n) (h:(n+1+j)%64≠56):j+1≤padLen n:=by unfold padLen at *;omega
theorem lenBytes_step' (n j:Nat) (hj:j<8):(lenBytes n).take (7-j)++[UInt8.ofNat ((n:Int)*8 / 2 ^ (8*j)%256).toNat]=(lenBytes n).take (8-j):=by
 have:=lenBytes_step n (7-j) (by omega)
 rwa [show 56-8*(7-j)=8*j from by omega,show 7-j+1=8-j from by omega] at this
theorem blocks_take (m:Nat) (s:H8) (l:List UInt8):blocks (m+1) s l=blocks m (blockOf s (l.take 64)) (l.drop 64):=rfl
theorem k_calls' (KK:List Nat) (h:Hid (K256=KK)) (w:World) :
 Calls Tryz.prog 53 #[] w fun e w'=>e = .returned (.agg (u32s KK))∧Below w.heap.size w w':=h.out▸k_calls w
theorem refBlock_calls' (KK:List Nat) (h:Hid (K256=KK)) (s0:H8) (hs0:s0.Fit) (b:List UInt8) (hb:b.length=64) (w:World) :
 Calls Tryz.prog 54 #[.agg (u32s s0.list), .string (B b), .agg (u32s KK)] w fun e w'=>e = .returned (.agg (u32s (blockOf s0 b).list))∧Below w.heap.size w w':=h.out▸refBlock_calls s0 hs0 b hb w
set_option maxRecDepth 100000 in
set_option maxHeartbeats 2000000 in
theorem refSum_calls (l:List UInt8) (w:World) (hlen:l.length≤1099511627776) :
 Calls Tryz.prog 26 #[.string (B l)] w fun e w'=>e = .returned (.agg (u8s (shaOf l)))∧Below w.heap.size w w':=by
 have hll:(l.length:Int)≤1099511627776:=by omega
 obtain ⟨KK,hKK⟩ : ∃ KK,Hid (K256=KK):=⟨_,rfl⟩
 have hKl:KK.length=64:=by rw [←hKK.out];exact K256_length
 have hst1:=Tryz.str_of_one
 have hst2:=fun (o:Obj) (x:Int)=>Tryz.str_of_oneAt (w.alloc o) (w.heap.size+1) x (by simp)
 go_enter Tryz.func26,Tryz.ntmps26
 go_wp2
 clear hst2
 have g0:=(Blk.new w 42 (u8s (List.replicate 32 0))).alloc (.cells #[.int .u8 128] 5)
 have b0:Below w.heap.size w ((w.alloc (.cells (u8s (List.replicate 32 0)) 42)).alloc (.cells #[.int .u8 128] 5)):=((Below.refl _ _).alloc (Nat.le_refl _) _).alloc (by simp) _
 go_loopw [4] (fun tx wr => ∃ (j:Nat),j≤padLen l.length∧tx = .string (B (l++128::List.replicate j 0))∧Blk wr w.heap.size 42 (u8s (List.replicate 32 0))∧Below w.heap.size w wr) (fun tx _=>l.length+1+64-(strOf tx).length)
 case atStart=>exact ⟨0,by omega,by simp,g0,b0⟩
 case round=>
  clear g0 b0
  obtain ⟨j,hj,rfl,hr,hbel⟩:=hrel
  have hrl:=hr.lt
  have hp64:padLen l.length<64:=by unfold padLen;omega
  have hjl:(j:Int)<64:=by omega
  have hlen0:(l++128::List.replicate j 0).length=l.length+1+j:=by simp;omega
  by_cases hd:(l.length+1+j)%64=56
  ·have hje:=pad_done _ _ hj hd
   have ht1:(((l++128::List.replicate j 0).length:Int)%64 != 56)=false:=by rw [hlen0];simp;omega
   have ht2:(((l.length:Int)+((j:Int)+1))%64 != 56)=false:=by simp;omega
   have ht3:(((l.length:Int)+1+(j:Int))%64 != 56)=false:=by simp;omega
   have hbsl:=Lib.hid hlen0
   have hbse:Hid (l++128::List.replicate j 0=l++128::List.replicate (padLen l.length) 0):=by show _=_;rw [←hje]
   clear hje hd hj
   generalize l++128::List.replicate j 0=bs at *
   have hbl:bs.length≤1099511627776+65:=by omega
   clear hlen0
   go_wp2
   go_loopw [5,4] (fun i tx wr => ∃ k:Nat,i = .int .i64 (7-(k:Int))∧k≤8∧tx = .string (B (bs++(lenBytes l.length).take k))∧Blk wr w.heap.size 42 (u8s (List.replicate 32 0))∧Below w.heap.size w wr) (fun i _ _=>(intOf i+1).toNat)
   case atStart=>exact ⟨0,rfl,by omega,by rw [List.take_zero,List.append_nil],hr,hbel⟩
   case round=>
    clear hr hbel hrl ht1 ht2 ht3
    obtain ⟨k,rfl,hk,rfl,hr,hbel⟩:=hrel
    have hrl:=hr.lt
    by_cases hk8:k<8
    ·obtain ⟨i,hi⟩ : ∃ i:Nat,(7-(k:Int))=(i:Int):=⟨7-k,by omega⟩
     have hi8:i<8:=by omega
     have hii:(i:Int)<8:=by omega
     have hstep:=lenBytes_step' l.length i hi8
     rw [show 7-i=k from by omega,show 8-i=k+1 from by omega] at hstep
     have hsteph:=Lib.hid hstep
     clear hstep
     have hnext:Hid ((i:Int)-1=7-((k+1:Nat):Int)):=by show _=_;omega
     rw [hi]
     clear hi
     have ht0:((lenBytes l.length).take k).length≤8:=by rw [List.length_take];omega
     generalize (lenBytes l.length).take k=t0 at *
     go_wp2
     go_roundw
     case rel=>exact ⟨k+1,congrArg (Value.int .i64) hnext.out,by omega,by rw [←hsteph.out],hr.alloc _,hbel.alloc (by omega) _⟩
     case measure=>simp [intOf]
    ·have hk8':k=8:=by omega
     have hki:(7-(k:Int))<0:=by omega
     have hpd:bs++(lenBytes l.length).take k=padded l:=by
      rw [hk8',List.take_of_length_le (by rw [lenBytes_length];omega),hbse.out]
      simp [padded]
     rw [hpd]
     clear hpd hk8'
     obtain ⟨m0,hm0⟩:=padded_length l
     have hst0:Hid (blocks m0 H0 (padded l)=stateOf l):=by
      show _=_
      rw [stateOf,hm0,Nat.mul_div_cancel_left _ (by omega)]
     have hpdl:(padded l).length≤1099511627976:=by
      have:(padded l).length=l.length+1+padLen l.length+8:=by simp [padded,lenBytes_length];omega
      rw [this];omega
     have hm0h:=Lib.hid hm0
     clear hm0 hbse hbsl
     generalize padded l=pd at *
     have hi8:(Tryz.prog.info? 108).map (·.size)=some (u32s H0.list).size:=by rw [u32s_list_size];exact sz8
     have hall:=u32s_one H0.list
     have hold:(u32s (List.replicate 8 0)).size=(u32s H0.list).size:=rfl
     have hv0:=Blk.new wr 108 (u32s (List.replicate 8 0))
     have h0:Blk (World.setRow (wr.alloc (.cells (u32s (List.replicate 8 0)) 108)) wr.heap.size (u32s H0.list)) wr.heap.size 108 (u32s H0.list):=setRow_heap _ _ _ _ _ _ hv0
     have h1:Blk (World.setRow (wr.alloc (.cells (u32s (List.replicate 8 0)) 108)) wr.heap.size (u32s H0.list)) w.heap.size 42 (u8s (List.replicate 32 0)):=by
      unfold Blk;rw [setRow_other _ _ _ _ (by omega)];exact hr.alloc _
     have h2:Below w.heap.size w (World.setRow (wr.alloc (.cells (u32s (List.replicate 8 0)) 108)) wr.heap.size (u32s H0.list)):=below_setRow (hbel.alloc (by omega) _) (by omega) _
     have hi64:(Tryz.prog.info? 109).map (·.size)=some (u32s KK).size:=by rw [u32s_size,hKl];exact sz64
     have hall64:=u32s_one KK
     have hold64:(u32s (zeros 64)).size=(u32s KK).size:=by rw [u32s_size,u32s_size,hKl,zeros_length]
     go_wp2_with (first
      | (refine wpList_store_row rfl 108 (.tmp 6) (.tmp 41) rfl wr.heap.size (u32s H0.list) rfl rfl _ _ hv0 hi8 hold hall ?_)
      | (refine wpList_store_row rfl 109 (.tmp 7) (.tmp 42) rfl w1.heap.size (u32s KK) rfl rfl _ _ (Blk.new w1 109 (u32s (zeros 64))) hi64 hold64 hall64 ?_)
      | (go_at_call 53;go_must (refine (k_calls' KK hKK _).mono ?_);rintro e w1 ⟨rfl,hb1⟩))
     clear hv0 hr hbel hall hold hi8 hold64 hall64 hi64
     have k0:=h0.below hb1 h0.lt
     have k1:=h1.below hb1 h1.lt
     have k2:=bthen h2 h2.size hb1
     have hvw1:wr.heap.size<w1.heap.size:=k0.lt
     have hv1:=Blk.new w1 109 (u32s (zeros 64))
     have q0:Blk (World.setRow (w1.alloc (.cells (u32s (zeros 64)) 109)) w1.heap.size (u32s KK)) w1.heap.size 109 (u32s KK):=setRow_heap _ _ _ _ _ _ hv1
     have q1:Blk (World.setRow (w1.alloc (.cells (u32s (zeros 64)) 109)) w1.heap.size (u32s KK)) wr.heap.size 108 (u32s H0.list):=by
      unfold Blk;rw [setRow_other _ _ _ _ (by omega)];exact k0.alloc _
     have q2:Blk (World.setRow (w1.alloc (.cells (u32s (zeros 64)) 109)) w1.heap.size (u32s KK)) w.heap.size 42 (u8s (List.replicate 32 0)):=by
      unfold Blk;rw [setRow_other _ _ _ _ (by omega)];exact k1.alloc _
     have q3:Below w.heap.size w (World.setRow (w1.alloc (.cells (u32s (zeros 64)) 109)) w1.heap.size (u32s KK)):=below_setRow (k2.alloc (by omega) _) (by omega) _
     obtain ⟨vb,hvb⟩ : ∃ vb,wr.heap.size=vb:=⟨_,rfl⟩
     obtain ⟨kb,hkb⟩ : ∃ kb,w1.heap.size=kb:=⟨_,rfl⟩
     have hvw:w.heap.size<vb:=by omega
     have hkw:vb<kb:=by omega
     obtain ⟨wz,hwz⟩ : ∃ wz,World.setRow (w1.alloc (.cells (u32s (zeros 64)) 109)) w1.heap.size (u32s KK)=wz:=⟨_,rfl⟩
     rw [hwz] at q0 q1 q2 q3
     clear h0 h1 h2 k0 k1 k2 hb1 hv1 hvw1
     go_loopw [8] (fun i wr => ∃ (i' m:Nat) (s:H8),i = .int .i64 i'∧i'≤1099511627976∧Hid (pd.length=i'+64*m)∧Hid (blocks m s (pd.drop i')=stateOf l)∧s.Fit∧Blk wr kb 109 (u32s KK)∧Blk wr vb 108 (u32s s.list)∧Blk wr w.heap.size 42 (u8s (List.replicate 32 0))∧Below w.heap.size w wr) (fun i _=>pd.length+64-(intOf i).toNat)
     case atStart=>exact ⟨0,m0,H0,rfl,by omega,by rw [Nat.zero_add];exact hm0h,hst0,H0_fit,hwz▸hkb▸q0,hwz▸hvb▸q1,hwz▸q2,hwz▸q3⟩
     case round=>
      rw [hvb,hkb]
      clear q0 q1 q2 q3 hwz hvb hkb hm0h hst0 hrl
      obtain ⟨i,m,s,rfl,hi,hm,hst,hfit,h0,h1,h2,h3⟩:=hrel
      have hbs1:=h1.lt
      by_cases hlt:i+64≤pd.length
      ·have hlti:(i:Int)+64≤(pd.length:Int):=by omega
       have hR:HasRow wr vb 108 8:=hasRow_blk h1 (u32s_list_size s)
       have hO:RowOf wr vb=u32s s.list:=rowOf_blk h1
       have hRd:HasRow wr.drew vb 108 8:=hR
       have hOd:RowOf wr.drew vb=u32s s.list:=hO
       have hRk:HasRow wr kb 109 64:=hasRow_blk h0 (by rw [u32s_size];exact hKl)
       have hOk:RowOf wr kb=u32s KK:=rowOf_blk h0
       have hRkd:HasRow wr.drew kb 109 64:=hRk
       have hOkd:RowOf wr.drew kb=u32s KK:=hOk
       have h0d:Blk wr.drew kb 109 (u32s KK):=h0
       have h1d:Blk wr.drew vb 108 (u32s s.list):=h1
       have hbs1d:vb<wr.drew.heap.size:=hbs1
       have hbs0d:kb<wr.drew.heap.size:=h0.lt
       go_wp2
       have s1:IntKind.i64.wrap ((i:Int)+64)=(i:Int)+64:=IntWalk.i64_in _ (by omega)
       have s2:0≤(i:Int)+64:=by omega
       have s3:(i:Int)≤(i:Int)+64:=by omega
       have s4:((i:Int)+64).toNat=i+64:=by omega
       have s5:i+64-i=64:=by omega
       go_region_with (first
        | (go_at_call 54;go_must (refine (refBlock_calls' KK hKK s hfit ((pd.drop i).take 64) (by rw [List.length_take,List.length_drop];omega) _).mono ?_);rintro e w1 ⟨rfl,hb1⟩;have hRc:=hasRow_blk (h1d.below hb1 hbs1d) (u32s_list_size s);have hOc:=rowOf_blk (h1d.below hb1 hbs1d)))
       all_goals
        clear s1 s2 s3 s4 s5
        have e0:Blk (w1.setRow vb (u32s (blockOf s ((pd.drop i).take 64)).list)) kb 109 (u32s KK):=by
         unfold Blk;rw [setRow_other _ _ _ _ (by omega)];exact Blk.below (w:=wr.drew) h0 hb1 h0.lt
        have e1:=setRow_heap w1 vb _ (u32s (blockOf s ((pd.drop i).take 64)).list) _ _ (h1d.below hb1 hbs1d)
        have e2:Blk (w1.setRow vb (u32s (blockOf s ((pd.drop i).take 64)).list)) w.heap.size 42 (u8s (List.replicate 32 0)):=by
         unfold Blk;rw [setRow_other _ _ _ _ (by omega)];exact Blk.below (w:=wr.drew) h2 hb1 h2.lt
        have e3:=below_setRow (bthen h3.drew (Nat.le_of_lt h2.lt) hb1) (Nat.le_of_lt hvw) (u32s (blockOf s ((pd.drop i).take 64)).list)
        have hml:=hm.out
        obtain ⟨m',rfl⟩ : ∃ m',m=m'+1:=⟨m-1,by omega⟩
        have hnst:Hid (blocks m' (blockOf s ((pd.drop i).take 64)) (pd.drop (i+64))=stateOf l):=by
         have:=hst.out
         rw [blocks_take,List.drop_drop] at this
         exact this
        have hnm:Hid (pd.length=i+64+64*m'):=by show _=_;omega
        have hfit2:(blockOf s ((pd.drop i).take 64)).Fit:=plus_fit _ _
        generalize blockOf s ((pd.drop i).take 64)=s' at *
        clear hRc hOc hb1 hml hm hst
        generalize w1.setRow vb (u32s s'.list)=wz at *
        go_wp2
        go_roundw
        case rel=>exact ⟨i+64,m',s',by go_num,by omega,hnm,hnst,hfit2,e0,e1,e2,e3⟩
        case measure=>simp [intOf];omega
      ·have hlti:(pd.length:Int)<(i:Int)+64:=by omega
       have hsl:Hid (s=stateOf l):=by
        have hm0':m=0:=by have:=hm.out;omega
        have:=hst.out
        rw [hm0'] at this
        exact this
       clear hst hm
       have hg0:=Blk.new wr 42 (u8s (List.replicate 32 0))
       have k0:Blk (World.setRow (wr.alloc (.cells (u8s (List.replicate 32 0)) 42)) wr.heap.size (u8s (List.replicate 32 0))) wr.heap.size 42 (u8s (List.replicate 32 0)):=setRow_heap _ _ _ _ _ _ hg0
       have k1:Blk (World.setRow (wr.alloc (.cells (u8s (List.replicate 32 0)) 42)) wr.heap.size (u8s (List.replicate 32 0))) vb 108 (u32s s.list):=by
        unfold Blk;rw [setRow_other _ _ _ _ (by omega)];exact h1.alloc _
       have k2:Blk (World.setRow (wr.alloc (.cells (u8s (List.replicate 32 0)) 42)) wr.heap.size (u8s (List.replicate 32 0))) w.heap.size 42 (u8s (List.replicate 32 0)):=by
        unfold Blk;rw [setRow_other _ _ _ _ (by omega)];exact h2.alloc _
       have k3:Below w.heap.size w (World.setRow (wr.alloc (.cells (u8s (List.replicate 32 0)) 42)) wr.heap.size (u8s (List.replicate 32 0))):=below_setRow (h3.alloc (Nat.le_of_lt h2.lt) _) (by omega) _
       have hi':(Tryz.prog.info? 42).map (·.size)=some (u8s (List.replicate 32 0)).size:=by rw [u8s_size,List.length_replicate];exact sz32
       have hall':=u8s_one (List.replicate 32 0)
       go_wp2_with (first
        | (refine wpList_store_row rfl 42 (.tmp 9) (.tmp 58) rfl wr.heap.size (u8s (List.replicate 32 0)) rfl rfl _ _ hg0 hi' rfl hall' ?_))
       obtain ⟨ib,hib⟩ : ∃ ib,wr.heap.size=ib:=⟨_,rfl⟩
       have hvi:vb<ib:=by omega
       clear h0 h1 h2 h3 hg0
       obtain ⟨wz,hwz⟩ : ∃ wz,World.setRow (wr.alloc (.cells (u8s (List.replicate 32 0)) 42)) wr.heap.size (u8s (List.replicate 32 0))=wz:=⟨_,rfl⟩
       rw [hwz] at k0 k1 k2 k3
       go_loopw [10] (fun i wr => ∃ k:Nat,i = .int .i64 k∧k≤32∧Blk wr ib 42 (u8s ((idOf s).take k++List.replicate (32-k) 0))∧Blk wr vb 108 (u32s s.list)∧Blk wr w.heap.size 42 (u8s (List.replicate 32 0))∧Below w.heap.size w wr) (fun i _=>32-(intOf i).toNat)
       case atStart=>exact ⟨0,rfl,by omega,hwz▸hib▸k0,hwz▸k1,hwz▸k2,hwz▸k3⟩
       case round=>
        rw [hib]
        clear k0 k1 k2 k3 hwz hib hbs1
        obtain ⟨i,rfl,hi,h0,h1,h2,h3⟩:=hrel
        have hbi:=h0.lt
        by_cases hi32:i<32
        ·have hii:(i:Int)<32:=by omega
         have hq:(i:Int) / 4<8:=by omega
         have hq0:(0:Int)≤(i:Int) / 4:=by omega
         have hqn:i / 4<8:=by omega
         have cw:wr.cell? ⟨vb,i / 4,none⟩=some (.int .u32 (s.list.getD (i / 4) 0:Nat)):=by
          rw [h1.cell,u32s_get _ _ hqn]
         have cz:wr.cell? ⟨ib,i,none⟩=some (.int .u8 ((((idOf s).take i++List.replicate (32-i) 0).getD i 0).toNat:Nat)):=by
          rw [h0.cell,u8s_get _ _ (by rw [List.length_append,List.length_take,idOf_length,List.length_replicate];omega)]
         have fz:=h0.frozen i
         have hset:=Lib.hid (take_set (idOf s) i 32 (by rw [idOf_length];exact hi32) (idOf_length s).symm)
         have hget:=Lib.hid (idOf_get s i hi32)
         generalize (((idOf s).take i++List.replicate (32-i) 0).getD i 0).toNat=oz at *
         generalize s.list.getD (i / 4) 0=x at *
         go_wp2
         have hvv:(x:Int) / 2 ^ (24-8*(i%4))%256=((x / 2 ^ (24-8*(i%4))%256:Nat):Int):=by simp
         rw [hvv]
         have hlt:=Nat.mod_lt (x / 2 ^ (24-8*(i%4))) (show 0<256 by omega)
         have hn:=h0.set_ i (.int .u8 ((x / 2 ^ (24-8*(i%4))%256:Nat):Int))
         rw [u8s_set _ _ _ hlt,←hget.out,hset.out] at hn
         go_roundw
         case rel=>exact ⟨i+1,by go_num,by omega,hn,h1.far (by simp;omega) _,h2.far (by simp;omega) _,h3.setCell (by simp;omega) _⟩
         case measure=>simp [intOf];omega
        ·have hi32':i=32:=by omega
         have hii : ¬ (i:Int)<32:=by omega
         have h0':Blk wr ib 42 (u8s (idOf s)):=by
          rw [hi32',List.take_of_length_le (by rw [idOf_length];omega),Nat.sub_self,List.replicate_zero,List.append_nil] at h0
          exact h0
         clear hi32' h0
         have hid:(idOf s).length=32:=idOf_length s
         have hfin:Hid (shaOf l=idOf s):=by show _=_;rw [hsl.out];rfl
         clear hsl
         generalize idOf s=id at *
         have hi2:(Tryz.prog.info? 42).map (·.size)=some (u8s id).size:=by rw [u8s_size,hid];exact sz32
         have hall2:=u8s_one id
         have hold2:(u8s (List.replicate 32 0)).size=(u8s id).size:=by rw [u8s_size,u8s_size,hid,List.length_replicate]
         go_wp2_with (first
          | (refine wpList_load_row rfl 42 (.tmp 9) rfl ib rfl _ _ _ _ h0' Tryz.underlying42 rfl hi2 ?_)
          | (refine wpList_store_row rfl 42 (.tmp 2) (.tmp 76) rfl w.heap.size (u8s id) rfl rfl _ _ h2 hi2 hold2 hall2 ?_))
         exact bodyPost_ret (results_cell_row rfl _ _ w.heap.size _ _ _ _ rfl (setRow_heap _ _ _ _ _ _ h2) Tryz.underlying42 rfl hi2) rfl ⟨by rw [hfin.out],below_setRow h3 (Nat.le_refl _) _⟩
  ·have hjm:=pad_more _ _ hj hd
   have ht1:(((l++128::List.replicate j 0).length:Int)%64 != 56)=true:=by rw [hlen0];simp;omega
   have ht2:(((l.length:Int)+((j:Int)+1))%64 != 56)=true:=by simp;omega
   have ht3:(((l.length:Int)+1+(j:Int))%64 != 56)=true:=by simp;omega
   have hq:Hid ((l++128::List.replicate j 0)++[0]=l++128::List.replicate (j+1) 0):=by
    show _=_
    rw [List.append_assoc,List.cons_append,←List.replicate_succ']
   go_wp2
   go_roundw
   case rel=>exact ⟨j+1,hjm,by rw [←hq.out];simp,hr.alloc _,hbel.alloc (by omega) _⟩
   case measure=>rw [strOf_B,strOf_B];simp;omega
end Go.Proofs.YtlojebhcemfodaaGreatDoor
