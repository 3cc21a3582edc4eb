/- Texts of this claim, laid together: MkT, MkC, MkE, Grow, HisI, LitU, SetE, SetIn, GidBs. -/
import Derived.Test.YtbhdfaadedlcfaaGreatDoorMj
import Derived.Deep.CutBlock
import Derived.Shelf.RegionOpenPlain
import Derived.Lib.Overlaps
namespace Go.Proofs.YtbhdfaadedlcfaaGreatDoor
open Go.RowKit
section
attribute [local go_sem ↓] ldvI_eq ldvS_eq stvI_eq ldvO_eq
def MkR (w:World) (e:Ending) (w':World):Prop := ∃ o A1 A2 k1 k2,e = .returned (.agg (objC o (.slice A1 o.ents.length k1) (.slice A2 o.pars.length k2)).toArray)∧Small o∧ObjOk o∧OwnEnts w' w.heap.size (.slice A1 o.ents.length k1) o.ents∧OwnIds w' w.heap.size (.slice A2 o.pars.length k2) o.pars
theorem MkR.bare {w w':World} (o:ObjL) (he:o.ents=[]) (hp:o.pars=[]) (hs:Small o) (ho:ObjOk o):MkR w (.returned (.agg (objC o (.slice none 0 0) (.slice none 0 0)).toArray)) w':=by
 refine ⟨o,none,none,0,0,?_,hs,ho,?_,?_⟩
 ·rw [he,hp];rfl
 ·rw [he];exact World.ownsRow_nil _ _ _ _
 ·rw [hp];exact World.ownsRow_nil _ _ _ _
def PickV (v:Value):Prop := ∃ x b,v = .tuple #[.agg (u8s x), .bool b]∧x.length=32
theorem zEF {s:List StL} (n:Txt):0≤kindS s n∧kindS s n≤255:=by
 unfold kindS
 split
 ·split
  ·rename_i o ho
   obtain ⟨c,q,_,hk⟩:=dec_kind ho
   have:=c.toNat_lt
   omega
  ·omega
 ·omega
theorem zeroO_small : Small zeroO:=⟨by decide,by simp [zeroO],by decide,by decide,by decide,by decide⟩
theorem zeroO_ok : ObjOk zeroO:=⟨zAg,zAg,by simp [zeroO],by simp [zeroO],by decide,by decide,by decide,by decide,by decide,by decide,by decide,by decide⟩
set_option maxRecDepth 100000 in
set_option maxHeartbeats 8000000 in
theorem make_blob {w:World} {vm:Value} {es:List DiL} (h:DocSt w vm es) (ids:List Txt) (hok : ∀ x∈ids,x.length=32) (hil:ids.length≤1000) (vi:Value) (hi:Ids w vi ids) (x:SdL) (hx:SdOk w x) (hr:x.refs.length≤10) (ht:x.text.length≤300) (hk:(x.kind.toNat:Int)%4=0) :
 Calls Tryz.prog 40 #[.agg #[vm],vi, .agg (sdC x).toArray] w fun e w'=>MkR w e w'∧Below w.heap.size w w':=by
 have hzo:=zeroObj
 have hz72:=zAB
 have hzone:zObj.all (·.oneCell')=true:=zAr zeroO none none 0 0 0 0
 have hsz : ∀ cs:Array Value,cs.size=72→(Tryz.prog.info? 59).map (·.size)=some cs.size:=fun cs h=>by rw [h];exact szObj
 obtain ⟨W1,hW1⟩ : ∃ W1,w.alloc (.cells #[vm] 28)=W1:=⟨_,rfl⟩
 have s1:Blk W1 w.heap.size 28 #[vm]:=by rw [←hW1];exact Blk.new _ _ _
 have b1:Below w.heap.size w W1:=by rw [←hW1];exact (Below.refl _ _).alloc (Nat.le_refl _) _
 obtain ⟨W2,hW2⟩ : ∃ W2,W1.alloc (.cells (sdC x).toArray 99)=W2:=⟨_,rfl⟩
 have d2:Blk W2 W1.heap.size 99 (sdC x).toArray:=by rw [←hW2];exact Blk.new _ _ _
 have bb2:Below W1.heap.size W1 W2:=by rw [←hW2];exact (Below.refl _ _).alloc (Nat.le_refl _) _
 obtain ⟨W3,hW3⟩ : ∃ W3,W2.alloc (.cells zObj 59)=W3:=⟨_,rfl⟩
 have z3:Blk W3 W2.heap.size 59 zObj:=by rw [←hW3];exact Blk.new _ _ _
 have bb3:Below W2.heap.size W2 W3:=by rw [←hW3];exact (Below.refl _ _).alloc (Nat.le_refl _) _
 have b2:=bthen b1 b1.size bb2
 have b3:=bthen b2 b2.size bb3
 have s3:=(s1.below bb2 s1.lt).below bb3 (s1.below bb2 s1.lt).lt
 have d3:=d2.below bb3 d2.lt
 have hle2:w.heap.size≤W2.heap.size:=b2.size
 have hlt0:=s1.lt
 have hlt1:=d2.lt
 have hlt2:=z3.lt
 have fL:=fun W (hW:Below W3.heap.size W3 W)=>zAP (s3.below hW s3.lt)
 have fK : ∀ W,Below W3.heap.size W3 W→W.cell? ⟨W1.heap.size,0,none⟩=some (.int .u8 x.kind.toNat):=fun W hW=>(d3.below hW d3.lt).cell 0
 have fR : ∀ W,Below W3.heap.size W3 W→W.cell? ⟨W1.heap.size,1,none⟩=some x.vr:=fun W hW=>(d3.below hW d3.lt).cell 1
 have fT : ∀ W,Below W3.heap.size W3 W→W.cell? ⟨W1.heap.size,2,none⟩=some (.int .u16 x.time):=fun W hW=>(d3.below hW d3.lt).cell 2
 have fX : ∀ W,Below W3.heap.size W3 W→W.cell? ⟨W1.heap.size,3,none⟩=some (.string (B x.text)):=fun W hW=>(d3.below hW d3.lt).cell 3
 have k3:=fK W3 (Below.refl _ _)
 have hkb:(x.kind.toNat:Int)<256:=by have:=x.kind.toNat_lt;omega
 have hbd:=built_blob x.text
 have hcs:(objC ⟨1,x.text,[],noId,[],0,[],noId,0,[]⟩ (.slice none 0 0) (.slice none 0 0)).toArray.size=72:=by rw [List.size_toArray];exact zAv ⟨zAg,zAg,by simp,by simp,hx.text,by simp,by simp,by simp,by simp,by simp,by simp,by simp⟩ _ _
 have hc1:=zAr ⟨1,x.text,[],noId,[],0,[],noId,0,[]⟩ none none 0 0 0 0
 have x3:=fX W3 (Below.refl _ _)
 have hfin : ∀ w',MkR w (.returned (.agg (objC ⟨1,x.text,[],noId,[],0,[],noId,0,[]⟩ (.slice none 0 0) (.slice none 0 0)).toArray)) w':=fun w'=>MkR.bare _ rfl rfl ⟨by simp,by simp,by simp,by show x.text.length≤_;omega,by simp,by simp⟩ ⟨zAg,zAg,by simp,by simp,hx.text,by simp,by simp,by simp,by simp,by simp,by simp,by simp⟩
 clear h hi hx fL fK fR fT fX hok
 generalize (objC ⟨1,x.text,[],noId,[],0,[],noId,0,[]⟩ (.slice none 0 0) (.slice none 0 0)).toArray=OC at *
 generalize (sdC x).toArray=SC at *
 generalize zObj=ZO at *
 go_enter Tryz.func40,Tryz.ntmps40
 go_wp2_with (first
  | ((with_reducible refine lit_build2 hbd ?_ ?_ ?_);rfl;rfl)
  | (refine wpList_store_row rfl 59 (.tmp 6) (.tmp 165) rfl W2.heap.size OC rfl rfl _ _ z3 (hsz _ hcs) (hz72.trans hcs.symm) hc1 ?_))
 refine bodyPost_ret (results_cell_row rfl _ _ W2.heap.size _ _ _ _ rfl (setRow_heap _ _ _ _ _ _ z3) Tryz.underlying59 rfl (hsz _ hcs)) rfl ⟨hfin _,zAa b3 hle2 _⟩
set_option maxRecDepth 100000 in
set_option maxHeartbeats 8000000 in
theorem make_tag {w:World} {vm:Value} {es:List DiL} (h:DocSt w vm es) (ids:List Txt) (hok : ∀ x∈ids,x.length=32) (hil:ids.length≤1000) (vi:Value) (hi:Ids w vi ids) (x:SdL) (hx:SdOk w x) (hr:x.refs.length≤10) (ht:x.text.length≤300) (hk:(x.kind.toNat:Int)%4=3) :
 Calls Tryz.prog 40 #[.agg #[vm],vi, .agg (sdC x).toArray] w fun e w'=>MkR w e w'∧Below w.heap.size w w':=by
 have hzo:=zeroObj
 have hz72:=zAB
 have hzone:zObj.all (·.oneCell')=true:=zAr zeroO none none 0 0 0 0
 have hsz : ∀ cs:Array Value,cs.size=72→(Tryz.prog.info? 59).map (·.size)=some cs.size:=fun cs h=>by rw [h];exact szObj
 obtain ⟨W1,hW1⟩ : ∃ W1,w.alloc (.cells #[vm] 28)=W1:=⟨_,rfl⟩
 have s1:Blk W1 w.heap.size 28 #[vm]:=by rw [←hW1];exact Blk.new _ _ _
 have b1:Below w.heap.size w W1:=by rw [←hW1];exact (Below.refl _ _).alloc (Nat.le_refl _) _
 obtain ⟨W2,hW2⟩ : ∃ W2,W1.alloc (.cells (sdC x).toArray 99)=W2:=⟨_,rfl⟩
 have d2:Blk W2 W1.heap.size 99 (sdC x).toArray:=by rw [←hW2];exact Blk.new _ _ _
 have bb2:Below W1.heap.size W1 W2:=by rw [←hW2];exact (Below.refl _ _).alloc (Nat.le_refl _) _
 obtain ⟨W3,hW3⟩ : ∃ W3,W2.alloc (.cells zObj 59)=W3:=⟨_,rfl⟩
 have z3:Blk W3 W2.heap.size 59 zObj:=by rw [←hW3];exact Blk.new _ _ _
 have bb3:Below W2.heap.size W2 W3:=by rw [←hW3];exact (Below.refl _ _).alloc (Nat.le_refl _) _
 have b2:=bthen b1 b1.size bb2
 have b3:=bthen b2 b2.size bb3
 have s3:=(s1.below bb2 s1.lt).below bb3 (s1.below bb2 s1.lt).lt
 have d3:=d2.below bb3 d2.lt
 have hle2:w.heap.size≤W2.heap.size:=b2.size
 have hlt0:=s1.lt
 have hlt1:=d2.lt
 have hlt2:=z3.lt
 have fL:=fun W (hW:Below W3.heap.size W3 W)=>zAP (s3.below hW s3.lt)
 have fK : ∀ W,Below W3.heap.size W3 W→W.cell? ⟨W1.heap.size,0,none⟩=some (.int .u8 x.kind.toNat):=fun W hW=>(d3.below hW d3.lt).cell 0
 have fR : ∀ W,Below W3.heap.size W3 W→W.cell? ⟨W1.heap.size,1,none⟩=some x.vr:=fun W hW=>(d3.below hW d3.lt).cell 1
 have fT : ∀ W,Below W3.heap.size W3 W→W.cell? ⟨W1.heap.size,2,none⟩=some (.int .u16 x.time):=fun W hW=>(d3.below hW d3.lt).cell 2
 have fX : ∀ W,Below W3.heap.size W3 W→W.cell? ⟨W1.heap.size,3,none⟩=some (.string (B x.text)):=fun W hW=>(d3.below hW d3.lt).cell 3
 have k3:=fK W3 (Below.refl _ _)
 have hkb:(x.kind.toNat:Int)<256:=by have:=x.kind.toNat_lt;omega
 have hsI:(Tryz.prog.info? 46).map (·.size)=some (u8s noId).size:=by rw [zAj,zAg];exact sz32
 have hrb:=fun W=>run_build (P:=Tryz.prog) W _ _ _ zBt
 obtain ⟨A,cap,hvr,hcap1,hcap2,hat⟩:=hx.refs
 rw [hvr] at fR
 have r3:=fR W3 (Below.refl _ _)
 have hfz : ∀ w',MkR w (.returned (.agg zObj)) w':=fun w'=>MkR.bare zeroO rfl rfl zeroO_small zeroO_ok
 have hkc:=fun (y:Txt) (hy:y.length=32) W (hW:Below W3.heap.size W3 W)=>zBM (h.below (bthen b3 b3.size hW)) y hy
 rcases Nat.eq_zero_or_pos x.refs.length with hrl | hrl
 ·skip
  have hl0:(x.refs.length:Int)=0:=by omega
  clear h hi hx fL fK fR fT fX hok hkc hat hvr hrl
  generalize (sdC x).toArray=SC at *
  generalize zObj=ZO at *
  go_enter Tryz.func40,Tryz.ntmps40
  go_wp2_with (first
   | (refine wpList_store_row rfl 59 (.tmp 6) (.tmp 128) rfl W2.heap.size ZO rfl rfl _ _ z3 (hsz _ hz72) rfl hzone ?_))
  refine bodyPost_ret (results_cell_row rfl _ _ W2.heap.size _ _ _ _ rfl (setRow_heap _ _ _ _ _ _ z3) Tryz.underlying59 rfl (hsz _ hz72)) rfl ⟨hfz _,zAa b3 hle2 _⟩
 ·have hlb:((x.refs.length:Int)==0)=false:=by rw [beq_eq_false_iff_ne];omega
  have hl0 : ¬ (x.refs.length:Int)=0:=by omega
  have hlp:(0:Int)<(x.refs.length:Int):=by omega
  obtain ⟨ga,oa,rfl,hga,hca⟩:=hat (by omega)
  obtain ⟨c0,hc0⟩ : ∃ c,x.refs[0]?=some c:=⟨_,List.getElem?_eq_getElem hrl⟩
  have fB : ∀ W,Below W3.heap.size W3 W→W.cell? ⟨ga,oa,none⟩=some (.int .u8 c0.toNat):=fun W hW=>by
   have:=zAc (hca 0 c0 hc0) hga (bthen b3 b3.size hW) 0 _ rfl
   simpa [byC,u8v] using this
  have hc0b:(c0.toNat:Int)<256:=by have:=c0.toNat_lt;omega
  have hc0w:IntKind.i64.wrap (c0.toNat:Int)=(c0.toNat:Int):=IntWalk.i64_in _ (by omega)
  have hpk:=fun W (hW:Below W3.heap.size W3 W)=>(zC7 (h.below (bthen b3 b3.size hW)) ids hok hil vi (hi.below (bthen b3 b3.size hW)) c0.toNat (by omega) 0)
  have fB1:1<x.refs.length → ∃ c1:UInt8, ∀ W,Below W3.heap.size W3 W→W.cell? ⟨ga,oa+1,none⟩=some (.int .u8 c1.toNat):=fun h1=>by
   obtain ⟨c1,hc1⟩ : ∃ c,x.refs[1]?=some c:=⟨_,List.getElem?_eq_getElem h1⟩
   refine ⟨c1,fun W hW=>?_⟩
   have:=zAc (hca 1 c1 hc1) hga (bthen b3 b3.size hW) 0 _ rfl
   simpa [byC,u8v] using this
  clear h hi hx fK fT fX hok hvr hca hc0 hat
  generalize (sdC x).toArray=SC at *
  generalize zObj=ZO at *
  go_enter Tryz.func40,Tryz.ntmps40
  go_wp2
  refine zAA 14 (by kernel_rfl) (by kernel_rfl) (by kernel_rfl) (by kernel_rfl) ?_
  simp only [exSp]
  iterate 14 apply Exists.intro
  repeat
   first
    | ((with_reducible apply lx0_ex)
       ·(go_simp;done)
       apply Exists.intro
       apply And.intro
       ·apply Eq.refl
       apply And.intro
       ·intro W hW hD
        have hW2:=hW
        have q0:=fL W hW2
        have q1:=fR W hW2
        have q2:=fB W hW2
        go_simp
        rfl
       simp only [Act.put,zA,zB,zC])
    | ((with_reducible apply zA2)
       ·(first | rfl | (go_simp;done))
       ·apply Eq.refl
       simp only [Act.put,zA,zB,zC])
    | ((with_reducible refine lx0_new (fun v _ _=>PickV v) rfl ?_ (zCo PickV) ?_ ?_)
       ·(go_simp;done)
       ·intro W hW hD
        have hW2:=hW
        unfold doesAt Oper.wp execOp
        go_simp
        (with_reducible refine (hpk W hW2).mono ?_)
        rintro e w' ⟨⟨y,b,rfl,hy⟩,hb⟩
        exact ⟨hb,fun _ _ _ _=>⟨y,b,rfl,hy⟩⟩
       intro v
       simp only [Act.put,zA,zB,zC])
    | (first | (with_reducible apply zA1) | (with_reducible apply zAK)
       ·apply Eq.refl
       apply Exists.intro
       apply And.intro
       ·(go_simp;rfl)
       simp only [Act.put,zA,zB,zC])
    | ((with_reducible apply zDM)
       ·apply Eq.refl
       apply Exists.intro
       apply And.intro
       ·(go_simp;rfl)
       refine ⟨fun W hW hD=>?_,?_⟩
       ·obtain ⟨F,y,b,rfl,hy⟩:=hD.at 0 rfl (by kernel_rfl)
        exact ⟨_,rfl,by simp⟩
       simp only [Act.put,zA,zB,zC])
    | ((with_reducible apply lx_al 46 (u8s noId) zeroIdV)
       ·apply Eq.refl
       intro v
       simp only [Act.put,zA,zB,zC])
    | ((with_reducible apply lx_st' 11 46 (u8s noId) hsI (by kernel_rfl))
       ·exact rfl
       ·apply Eq.refl
       apply Exists.intro
       apply Exists.intro
       apply And.intro
       ·(go_simp;rfl)
       apply And.intro
       ·(go_simp;rfl)
       refine ⟨?_,fun W hW hD=>?_,?_⟩
       ·first | exact List.Mem.head _ | exact List.Mem.tail _ (List.Mem.head _) | exact List.Mem.tail _ (List.Mem.tail _ (List.Mem.head _)) | exact List.Mem.tail _ (List.Mem.tail _ (List.Mem.tail _ (List.Mem.head _)))
       ·obtain ⟨F,y,b,rfl,hy⟩:=hD.at 1 rfl (by kernel_rfl)
        exact ⟨_,rfl,by rw [zAj,zAj,hy,zAg],u8s_one y⟩)
  refine lx0_nil ?_ fun w5 hW5 hD5=>?_
  ·exact (by simp [stsOf])
  obtain ⟨_,y,b,rfl,hy⟩:=hD5 _ (.tail _ (.tail _ (.head _)))
  obtain ⟨_,g,cs,rfl,hcs,hg1,_,hg2⟩:=hD5 _ (.head _)
  obtain rfl:u8s y=cs:=by injection hcs
  clear hcs hD5
  simp only [extr2_0,extr2_1]
  have b5:=bthen b3 b3.size hW5
  have z5:=z3.below hW5 z3.lt
  have hgI:=zAb (zAi hg2) hy
  have r5:=fR _ hW5
  have l5:=fL _ hW5
  have hk5:=hkc y hy _ hW5
  clear hpk hkc
  cases b
  ·clear hk5
   go_wp2_with (first
    | (refine wpList_store_row rfl 59 (.tmp 6) (.tmp 142) rfl W2.heap.size ZO rfl rfl _ _ z5 (hsz _ hz72) rfl hzone ?_))
   refine bodyPost_ret (results_cell_row rfl _ _ W2.heap.size _ _ _ _ rfl (setRow_heap _ _ _ _ _ _ z5) Tryz.underlying59 rfl (hsz _ hz72)) rfl ⟨hfz _,zAa b5 hle2 _⟩
  ·obtain ⟨K,hK⟩ : ∃ K,kindS (es.map (·.st)) y=K:=⟨_,rfl⟩
   have hKb:=zEF (s:=es.map (·.st)) y
   rw [hK] at hKb hk5
   have hk5:=Lib.hid hk5
   have hbd:=fun k=>built_tag y hy k [116]
   have hcs : ∀ k:Int,(objC ⟨4,[],[],noId,[],0,[],y,k,[116]⟩ (.slice none 0 0) (.slice none 0 0)).toArray.size=72:=fun k=>by
    rw [List.size_toArray]
    unfold objC
    simp [zAj,zAg,hy]
   have hc1:=fun k:Int=>zAr ⟨4,[],[],noId,[],0,[],y,k,[116]⟩ none none 0 0 0 0
   have hfin : ∀ (k:Int) w', -9223372036854775808≤k→k≤9223372036854775807→MkR w (.returned (.agg (objC ⟨4,[],[],noId,[],0,[],y,k,[116]⟩ (.slice none 0 0) (.slice none 0 0)).toArray)) w':=fun k w' h1 h2=>MkR.bare _ rfl rfl ⟨by simp,by simp,by simp,by simp,by simp,by simp⟩ ⟨zAg,hy,by simp,by simp,by simp,by simp,by simp,by simp,by simp,by simp,h1,h2⟩
   have hfa : ∀ (W:World),Below w5.heap.size w5 W→(ldvI ⟨g,0,none⟩).run Tryz.prog W = .ok (.agg (u8s y)) W:=fun W hW=>zAb (zAi (hg2.below hW hg2.lt)) hy
   have hw4:IntKind.i64.wrap (1+K%4)=1+K%4:=IntWalk.i64_in _ (by omega)
   have hK0:=hKb.1
   have hK1:=hKb.2
   have hfinK:=hfin K
   have hfin4:=hfin (1+K%4)
   have hbdK:Tryz.prog.built 59 [(0, .int .i64 4),(7, .agg (u8s y)),(8, .int .i64 K),(9, .string ⟨#[116]⟩)]=some _:=hbd K
   have hbd4:Tryz.prog.built 59 [(0, .int .i64 4),(7, .agg (u8s y)),(8, .int .i64 (1+K%4)),(9, .string ⟨#[116]⟩)]=some _:=hbd (1+K%4)
   have hcsK:=hcs K
   have hcs4:=hcs (1+K%4)
   have hc1K:=hc1 K
   have hc14:=hc1 (1+K%4)
   clear hbd hcs hc1 hfin hK hKb hgI
   generalize (objC ⟨4,[],[],noId,[],0,[],y,K,[116]⟩ (.slice none 0 0) (.slice none 0 0)).toArray=OK at *
   generalize (objC ⟨4,[],[],noId,[],0,[],y,1+K%4,[116]⟩ (.slice none 0 0) (.slice none 0 0)).toArray=O4 at *
   have hgI:=hfa _ (Below.refl _ _)
   have main:1<x.refs.length ∨ ¬ 1<x.refs.length:=by omega
   rcases main with h1 | h1
   ·have h1i:(1:Int)<(x.refs.length:Int):=by omega
    obtain ⟨c1,f1⟩:=fB1 h1
    cases hc:((c1.toNat:Int)==250)
    all_goals
     go_wp2_with (first
      | ((with_reducible refine hk5.out.mono ?_);rintro e w6 ⟨rfl,hb6⟩
         have b6:=bthen b5 b5.size hb6
         have z6:=z5.below hb6 z5.lt
         have hgI6:=hfa _ hb6
         have r6:=fR _ (bthen hW5 hW5.size hb6)
         have q6:=f1 _ (bthen hW5 hW5.size hb6))
      | ((with_reducible refine zC2 hbdK ?_ ?_ ?_ ?_ ?_);rfl;rfl;rfl;rfl)
      | ((with_reducible refine zC2 hbd4 ?_ ?_ ?_ ?_ ?_);rfl;rfl;rfl;rfl)
      | (refine wpList_store_row rfl 59 (.tmp 6) (.tmp 162) rfl W2.heap.size OK rfl rfl _ _ z6 (hsz _ hcsK) (hz72.trans hcsK.symm) hc1K ?_)
      | (refine wpList_store_row rfl 59 (.tmp 6) (.tmp 162) rfl W2.heap.size O4 rfl rfl _ _ z6 (hsz _ hcs4) (hz72.trans hcs4.symm) hc14 ?_))
     first
      | refine bodyPost_ret (results_cell_row rfl _ _ W2.heap.size _ _ _ _ rfl (setRow_heap _ _ _ _ _ _ z6) Tryz.underlying59 rfl (hsz _ hcsK)) rfl ⟨hfinK _ (by omega) (by omega),zAa b6 hle2 _⟩
      | refine bodyPost_ret (results_cell_row rfl _ _ W2.heap.size _ _ _ _ rfl (setRow_heap _ _ _ _ _ _ z6) Tryz.underlying59 rfl (hsz _ hcs4)) rfl ⟨hfin4 _ (by omega) (by omega),zAa b6 hle2 _⟩
   ·have h1i : ¬ (1:Int)<(x.refs.length:Int):=by omega
    go_wp2_with (first
     | ((with_reducible refine hk5.out.mono ?_);rintro e w6 ⟨rfl,hb6⟩
        have b6:=bthen b5 b5.size hb6
        have z6:=z5.below hb6 z5.lt
        have hgI6:=hfa _ hb6
        have r6:=fR _ (bthen hW5 hW5.size hb6))
     | ((with_reducible refine zC2 hbdK ?_ ?_ ?_ ?_ ?_);rfl;rfl;rfl;rfl)
     | (refine wpList_store_row rfl 59 (.tmp 6) (.tmp 162) rfl W2.heap.size OK rfl rfl _ _ z6 (hsz _ hcsK) (hz72.trans hcsK.symm) hc1K ?_))
    refine bodyPost_ret (results_cell_row rfl _ _ W2.heap.size _ _ _ _ rfl (setRow_heap _ _ _ _ _ _ z6) Tryz.underlying59 rfl (hsz _ hcsK)) rfl ⟨hfinK _ (by omega) (by omega),zAa b6 hle2 _⟩
end
section
attribute [local go_sem ↓] ldvI_eq ldvS_eq stvI_eq ldvO_eq
set_option maxRecDepth 100000 in
set_option maxHeartbeats 8000000 in
theorem make_commit {w:World} {vm:Value} {es:List DiL} (h:DocSt w vm es) (ids:List Txt) (hok : ∀ x∈ids,x.length=32) (hil:ids.length≤1000) (vi:Value) (hi:Ids w vi ids) (x:SdL) (hx:SdOk w x) (hr:x.refs.length≤10) (ht:x.text.length≤300) (hk:(x.kind.toNat:Int)%4=2) :
 Calls Tryz.prog 40 #[.agg #[vm],vi, .agg (sdC x).toArray] w fun e w'=>MkR w e w'∧Below w.heap.size w w':=by
 have hzo:=zeroObj
 have hz72:=zAB
 have hzone:zObj.all (·.oneCell')=true:=zAr zeroO none none 0 0 0 0
 have hsz : ∀ cs:Array Value,cs.size=72→(Tryz.prog.info? 59).map (·.size)=some cs.size:=fun cs h=>by rw [h];exact szObj
 obtain ⟨W1,hW1⟩ : ∃ W1,w.alloc (.cells #[vm] 28)=W1:=⟨_,rfl⟩
 have s1:Blk W1 w.heap.size 28 #[vm]:=by rw [←hW1];exact Blk.new _ _ _
 have b1:Below w.heap.size w W1:=by rw [←hW1];exact (Below.refl _ _).alloc (Nat.le_refl _) _
 obtain ⟨W2,hW2⟩ : ∃ W2,W1.alloc (.cells (sdC x).toArray 99)=W2:=⟨_,rfl⟩
 have d2:Blk W2 W1.heap.size 99 (sdC x).toArray:=by rw [←hW2];exact Blk.new _ _ _
 have bb2:Below W1.heap.size W1 W2:=by rw [←hW2];exact (Below.refl _ _).alloc (Nat.le_refl _) _
 obtain ⟨W3,hW3⟩ : ∃ W3,W2.alloc (.cells zObj 59)=W3:=⟨_,rfl⟩
 have z3:Blk W3 W2.heap.size 59 zObj:=by rw [←hW3];exact Blk.new _ _ _
 have bb3:Below W2.heap.size W2 W3:=by rw [←hW3];exact (Below.refl _ _).alloc (Nat.le_refl _) _
 have b2:=bthen b1 b1.size bb2
 have b3:=bthen b2 b2.size bb3
 have s3:=(s1.below bb2 s1.lt).below bb3 (s1.below bb2 s1.lt).lt
 have d3:=d2.below bb3 d2.lt
 have hle2:w.heap.size≤W2.heap.size:=b2.size
 have hlt0:=s1.lt
 have hlt1:=d2.lt
 have hlt2:=z3.lt
 have fL:=fun W (hW:Below W3.heap.size W3 W)=>zAP (s3.below hW s3.lt)
 have fK : ∀ W,Below W3.heap.size W3 W→W.cell? ⟨W1.heap.size,0,none⟩=some (.int .u8 x.kind.toNat):=fun W hW=>(d3.below hW d3.lt).cell 0
 have fR : ∀ W,Below W3.heap.size W3 W→W.cell? ⟨W1.heap.size,1,none⟩=some x.vr:=fun W hW=>(d3.below hW d3.lt).cell 1
 have fT : ∀ W,Below W3.heap.size W3 W→W.cell? ⟨W1.heap.size,2,none⟩=some (.int .u16 x.time):=fun W hW=>(d3.below hW d3.lt).cell 2
 have fX : ∀ W,Below W3.heap.size W3 W→W.cell? ⟨W1.heap.size,3,none⟩=some (.string (B x.text)):=fun W hW=>(d3.below hW d3.lt).cell 3
 have k3:=fK W3 (Below.refl _ _)
 have hkb:(x.kind.toNat:Int)<256:=by have:=x.kind.toNat_lt;omega
 have hsI:(Tryz.prog.info? 46).map (·.size)=some (u8s noId).size:=by rw [zAj,zAg];exact sz32
 have hrb:=fun W=>run_build (P:=Tryz.prog) W _ _ _ zBt
 have hzI:=zeroIdV
 have hZ32:(u8s noId).size=32:=by rw [zAj,zAg]
 obtain ⟨A,cap,hvr,hcap1,hcap2,hat⟩:=hx.refs
 rw [hvr] at fR
 have htm:=hx.time
 have htw:IntKind.i64.wrap (x.time:Int)=(x.time:Int):=IntWalk.i64_in _ (by omega)
 have htu:IntKind.u32.wrap (x.time:Int)=(x.time:Int):=by
  unfold IntKind.wrap
  simp [IntKind.bits,IntKind.signed]
  omega
 have t3:=fT W3 (Below.refl _ _)
 have l3:=fL W3 (Below.refl _ _)
 have hp2:=Lib.hid (zC7 (h.below b3) ids hok hil vi (hi.below b3) x.time (by omega) 2)
 have hfz : ∀ w',MkR w (.returned (.agg zObj)) w':=fun w'=>MkR.bare zeroO rfl rfl zeroO_small zeroO_ok
 have hpk:=fun (c:UInt8) W (hW:Below W3.heap.size W3 W)=>(zC7 (h.below (bthen b3 b3.size hW)) ids hok hil vi (hi.below (bthen b3 b3.size hW)) c.toNat (by have:=c.toNat_lt;omega) 3)
 have fBk : ∀ k,k<x.refs.length → ∃ (ga oa:Nat) (c:UInt8),A=some ⟨ga,oa,none⟩ ∧ ∀ W,Below W3.heap.size W3 W→W.cell? ⟨ga,oa+k,none⟩=some (.int .u8 c.toNat):=fun k hk=>by
  obtain ⟨ga,oa,rfl,hga,hca⟩:=hat (by omega)
  refine ⟨ga,oa,x.refs[k],rfl,fun W hW=>?_⟩
  have:=zAc (hca k _ (List.getElem?_eq_getElem hk)) hga (bthen b3 b3.size hW) 0 _ rfl
  simpa [byC,u8v] using this
 have htx:=hx.text
 clear h hi hx fK hok hat hvr
 generalize (sdC x).toArray=SC at *
 obtain ⟨ZO,hZO⟩ : ∃ ZO,zObj=ZO:=⟨_,rfl⟩
 rw [hZO] at hzo hz72 hzone hW3 z3 hrb hfz
 go_enter Tryz.func40,Tryz.ntmps40
 go_upto_region 13 with (first
  | ((with_reducible refine hp2.out.mono ?_);rintro e w4 ⟨⟨y,b,rfl,hy⟩,hb4⟩
     have b4:=bthen b3 b3.size hb4
     have z4:=z3.below hb4 z3.lt
     have hy32:(u8s y).size=32:=by rw [zAj,hy]
     have hyo:=u8s_one y)
  | ((with_reducible refine lit_new 46 (.tmp 11) (.tmp 72) (u8s y) 32 sz32 hy32 hyo _ ?_ ?_ ?_ ?_)
     ·first | exact hZ32 | rfl
     ·rfl
     ·rfl
     intro W5 n5 hbl5
     have b5:=bthen b4 b4.size hbl5
     have b35:=bthen hb4 hb4.size hbl5
     have z5:=z4.below hbl5 z4.lt
     have ln5:=zAb (zAi n5) hy))
 cases b
 ·clear hpk fBk fL fR
  go_wp2_with (first
   | (refine wpList_store_row rfl 59 (.tmp 6) (.tmp 76) rfl W2.heap.size ZO rfl rfl _ _ z5 (hsz _ hz72) rfl hzone ?_))
  refine bodyPost_ret (results_cell_row rfl _ _ W2.heap.size _ _ _ _ rfl (setRow_heap _ _ _ _ _ _ z5) Tryz.underlying59 rfl (hsz _ hz72)) rfl ⟨hfz _,zAa b5 hle2 _⟩
 ·have hbd:=built_commit y hy x.time x.text
  have hcs:(objC ⟨3,[],[],y,[],x.time,x.text,noId,0,[]⟩ (.slice none 0 0) (.slice none 0 0)).toArray.size=72:=by
   rw [List.size_toArray]
   unfold objC
   simp [zAj,zAg,hy]
  have hc1:=zAr ⟨3,[],[],y,[],x.time,x.text,noId,0,[]⟩ none none 0 0 0 0
  have t5:=fT _ b35
  have x5:=fX _ b35
  obtain ⟨OC,hOC⟩ : ∃ OC,(objC ⟨3,[],[],y,[],x.time,x.text,noId,0,[]⟩ (.slice none 0 0) (.slice none 0 0)).toArray=OC:=⟨_,rfl⟩
  rw [hOC] at hbd hcs hc1
  have hOC:=Lib.hid hOC
  go_wp2_with (first
   | ((with_reducible refine zC2 hbd ?_ ?_ ?_ ?_ ?_);rfl;rfl;rfl;rfl)
   | ((with_reducible refine lit_new 59 (.tmp 13) (.tmp 83) OC 72 szObj hcs hc1 _ ?_ ?_ ?_ ?_)
      ·first | exact hz72 | rfl
      ·rfl
      ·rfl
      intro W6 n6 hbl6
      have b36:=bthen b35 b35.size hbl6))
  have hgs:W3.heap.size≤W5.heap.size:=b35.size
  have hO6:ObjB W6 W5.heap.size ⟨3,[],[],y,[],x.time,x.text,noId,0,[]⟩ (.slice none 0 0) (.slice none 0 0):=⟨by rw [hOC.out];exact n6,hy,zAg⟩
  clear n6 hbd hcs hc1 t5 x5 ln5 n5 hp2 l3 t3 z5 z4 hrb hfz fT fX
  go_loopw [14] (fun vi wr => ∃ (k:Nat) (acc:List Txt) (vp:Value),vi = .int .i64 k∧k≤x.refs.length∧k≤4∧acc.length≤k∧Hid (∀ x∈acc,x.length=32)∧ObjB wr W5.heap.size ⟨3,[],[],y,acc,x.time,x.text,noId,0,[]⟩ (.slice none 0 0) vp∧OwnIds wr W3.heap.size vp acc∧Below W3.heap.size W3 wr) (fun vi _=>x.refs.length-(intOf vi).toNat)
  case atStart=>exact ⟨0,[],_,rfl,by omega,by omega,by simp,Lib.hid (fun x hx=>by simp at hx),hO6,World.ownsRow_nil _ _ _ _,b36⟩
  case round=>
   obtain ⟨k,acc,vp,rfl,hk,hk4,hal,hall,hO,hown,hbel⟩:=hrel
   have r6:=fR _ hbel
   by_cases hlt:k<x.refs.length
   ·have hki:(k:Int)<(x.refs.length:Int):=by omega
    by_cases hk5:k<4
    ·have hki4:(k:Int)<4:=by omega
     obtain ⟨ga,oa,c,rfl,fB⟩:=fBk k hlt
     have hcb:(c.toNat:Int)<256:=by have:=c.toNat_lt;omega
     have hcw:IntKind.i64.wrap (c.toNat:Int)=(c.toNat:Int):=IntWalk.i64_in _ (by omega)
     have hpk:=hpk c
     clear fBk
     go_wp2
     refine zAA 15 (by kernel_rfl) (by kernel_rfl) (by kernel_rfl) (by kernel_rfl) ?_
     simp only [exSp]
     iterate 15 apply Exists.intro
     repeat
      first
       | ((with_reducible apply lx0_ex)
          ·(go_simp;done)
          apply Exists.intro
          apply And.intro
          ·apply Eq.refl
          apply And.intro
          ·intro W hW hD
           have hW2:=hbel.trans (hW.mono hbel.size)
           have q0:=fL W hW2
           have q1:=fR W hW2
           have q2:=fB W hW2
           go_simp
           rfl
          simp only [Act.put,zA,zB,zC])
       | ((with_reducible apply zA2)
          ·(first | rfl | (go_simp;done))
          ·apply Eq.refl
          simp only [Act.put,zA,zB,zC])
       | ((with_reducible refine lx0_new (fun v _ _=>PickV v) rfl ?_ (zCo PickV) ?_ ?_)
          ·(go_simp;done)
          ·intro W hW hD
           have hW2:=hbel.trans (hW.mono hbel.size)
           unfold doesAt Oper.wp execOp
           go_simp
           (with_reducible refine (hpk W hW2).mono ?_)
           rintro e w' ⟨⟨y,b,rfl,hy⟩,hb⟩
           exact ⟨hb,fun _ _ _ _=>⟨y,b,rfl,hy⟩⟩
          intro v
          simp only [Act.put,zA,zB,zC])
       | (first | (with_reducible apply zA1) | (with_reducible apply zAK)
          ·apply Eq.refl
          apply Exists.intro
          apply And.intro
          ·(go_simp;rfl)
          simp only [Act.put,zA,zB,zC])
       | ((with_reducible apply zDM)
          ·apply Eq.refl
          apply Exists.intro
          apply And.intro
          ·(go_simp;rfl)
          refine ⟨fun W hW hD=>?_,?_⟩
          ·obtain ⟨F,y,b,rfl,hy⟩:=hD.at 0 rfl (by kernel_rfl)
           exact ⟨_,rfl,by simp⟩
          simp only [Act.put,zA,zB,zC])
       | ((with_reducible apply lx_al 46 (u8s noId) zeroIdV)
          ·apply Eq.refl
          intro v
          simp only [Act.put,zA,zB,zC])
       | ((with_reducible apply lx_st' 12 46 (u8s noId) hsI (by kernel_rfl))
          ·exact rfl
          ·apply Eq.refl
          apply Exists.intro
          apply Exists.intro
          apply And.intro
          ·(go_simp;rfl)
          apply And.intro
          ·(go_simp;rfl)
          refine ⟨?_,fun W hW hD=>?_,?_⟩
          ·first | exact List.Mem.head _ | exact List.Mem.tail _ (List.Mem.head _) | exact List.Mem.tail _ (List.Mem.tail _ (List.Mem.head _)) | exact List.Mem.tail _ (List.Mem.tail _ (List.Mem.tail _ (List.Mem.head _)))
          ·obtain ⟨F,y,b,rfl,hy⟩:=hD.at 1 rfl (by kernel_rfl)
           exact ⟨_,rfl,by rw [zAj,zAj,hy,zAg],u8s_one y⟩)
     refine lx0_nil ?_ fun w7 hW7 hD7=>?_
     ·exact (by simp [stsOf])
     obtain ⟨_,y7,b,rfl,hy7⟩:=hD7 _ (.tail _ (.tail _ (.head _)))
     obtain ⟨_,g,cs,rfl,hcs,hg1,_,hg2⟩:=hD7 _ (.head _)
     obtain rfl:u8s y7=cs:=by injection hcs
     clear hcs hD7
     simp only [extr2_0,extr2_1]
     have b7:=hbel.trans (hW7.mono hbel.size)
     have own7:=zAf hown hW7
     have hO7:=hO.below hW7
     have hgI:=zAb (zAi hg2) hy7
     clear hpk fB hcw
     cases b
     ·go_wp2
      go_roundw
      case rel=>exact ⟨k+1,acc,vp,by go_num,by omega,by omega,by omega,hall,hO7,own7,b7⟩
      case measure=>simp [intOf];omega
     ·obtain ⟨A3,c3,rfl⟩:=zAm hown
      have hpc:w7.cell? ⟨W5.heap.size,35,none⟩=some (.slice A3 acc.length c3):=hO7.pars
      by_cases ha:acc.length=k
      ·have hai:((acc.length:Int)==(k:Int))=true:=by simp;omega
       clear ha
       have hid32:(idC y7).toArray.size=32:=by rw [List.size_toArray,idC_len hy7]
       have hidl:(idC y7).toArray.size=1*32:=hid32
       have hid1 : ∀ u∈(idC y7).toArray.toList,u.oneCell'=true:=by rw [List.toList_toArray];exact idC_one y7
       have hXC:(idC y7).toArray=u8s y7:=by simp [idC]
       rw [hXC] at hid32 hidl hid1
       have hall2:Hid (∀ z∈acc++[y7],z.length=32):=Lib.hid fun z hz=>by
        rcases List.mem_append.1 hz with hz | hz
        ·exact hall.out z hz
        ·rw [List.mem_singleton.1 hz];exact hy7
       have hrow:Hid (rowsOf idC (acc++[y7])=rowsOf idC acc++(u8s y7).toList):=Lib.hid (by rw [zAo,zAx];rfl)
       have hkl:acc.length+1≤9223372036854775807:=by omega
       have hm2:(acc.length+1)*32≤140737488355328:=by omega
       have sz7:=b7.size
       have hgO:=zAs own7 hO7.blk (by decide)
       clear hXC
       generalize u8s y7=XC at *
       go_wp2_with (first
        | ((with_reducible refine zAC (.tmp 117) Tryz.idsTy XC hid32 (by omega) ?_ ?_);rfl)
        | (at_builtin
           (with_reducible refine zAp (.tmp 116) (.tmp 118) 1 _ Tryz.idsTy own7 XC hidl hid1 hkl hm2 sz7 ?_ ?_ ?_);rfl;rfl
           intro v8 w8 hv8 hb8 hg8 hn8
           have b8:=b7.trans hb8
           have hO8:ObjB w8 W5.heap.size ⟨3,[],[],y,acc,x.time,x.text,noId,0,[]⟩ (.slice none 0 0) (.slice A3 acc.length c3):=⟨hO7.blk.grown hg8 hgO,hO7.tr,hO7.ta⟩
           have hf8:=hO8.fr 35
           have hp8:=hO8.pars
           obtain ⟨A8,c8,rfl⟩:=zAm hv8
           clear hg8 hn8))
       have hne8:=zAs hv8 hO8.blk (by decide)
       have own9:OwnIds (w8.setCell ⟨W5.heap.size,35,none⟩ (.slice A8 (acc.length+1) c8)) W3.heap.size (.slice A8 (acc.length+1) c8) (acc++[y7]):=by
        unfold OwnIds
        rw [List.length_append,hrow.out]
        exact zBG hv8 fun k hk=>Below.heap_setCell _ _ _ _ (fun e=>hne8 (by rw [hk];exact congrArg some e.symm))
       go_roundw
       case rel=>exact ⟨k+1,acc++[y7],_,by go_num,by omega,by omega,by simp;omega,hall2,hO8.setPars _ _,own9,b8.setCell hgs _⟩
       case measure=>simp [intOf];omega
      ·have hai:((acc.length:Int)==(k:Int))=false:=by rw [beq_eq_false_iff_ne];omega
       go_wp2
       go_roundw
       case rel=>exact ⟨k+1,acc,_,by go_num,by omega,by omega,by omega,hall,hO7,own7,b7⟩
       case measure=>simp [intOf];omega
    ·have hki4 : ¬ (k:Int)<4:=by omega
     clear fBk hpk
     obtain ⟨A3,c3,rfl⟩:=zAm hown
     have hz9:=z3.below hbel z3.lt
     have hokO:ObjOk ⟨3,[],[],y,acc,x.time,x.text,noId,0,[]⟩:=⟨hy,zAg,by simp,hall.out,by simp,htx,by simp,by show x.time<_;omega,by simp,by simp,by simp,by simp⟩
     have ld:=zAT hO hokO
     have hcs:(objC ⟨3,[],[],y,acc,x.time,x.text,noId,0,[]⟩ (.slice none 0 0) (.slice A3 acc.length c3)).toArray.size=72:=by rw [List.size_toArray];exact zAv hokO _ _
     have hc1:=zAr ⟨3,[],[],y,acc,x.time,x.text,noId,0,[]⟩ none A3 0 0 acc.length c3
     have hfin:Hid (∀ w',OwnIds w' W3.heap.size (.slice A3 acc.length c3) acc→MkR w (.returned (.agg (objC ⟨3,[],[],y,acc,x.time,x.text,noId,0,[]⟩ (.slice none 0 0) (.slice A3 acc.length c3)).toArray)) w'):=Lib.hid fun w' ho=>⟨_,none,A3,0,c3,rfl,⟨by simp,by simp,by show acc.length≤_;omega,by simp,by show x.text.length≤_;omega,by simp⟩,hokO,World.ownsRow_nil _ _ _ _,zAw ho b3.size⟩
     have b9:=bthen b3 b3.size hbel
     generalize (objC ⟨3,[],[],y,acc,x.time,x.text,noId,0,[]⟩ (.slice none 0 0) (.slice A3 acc.length c3)).toArray=OR at *
     go_wp2_with (first
      | (refine wpList_store_row rfl 59 (.tmp 6) (.tmp 121) rfl W2.heap.size OR rfl rfl _ _ hz9 (hsz _ hcs) (hz72.trans hcs.symm) hc1 ?_))
     refine bodyPost_ret (results_cell_row rfl _ _ W2.heap.size _ _ _ _ rfl (setRow_heap _ _ _ _ _ _ hz9) Tryz.underlying59 rfl (hsz _ hcs)) rfl ⟨hfin.out _ (own_row hown hlt2 OR),zAa b9 hle2 _⟩
   ·have hki : ¬ (k:Int)<(x.refs.length:Int):=by omega
    clear fBk hpk
    obtain ⟨A3,c3,rfl⟩:=zAm hown
    have hz9:=z3.below hbel z3.lt
    have hokO:ObjOk ⟨3,[],[],y,acc,x.time,x.text,noId,0,[]⟩:=⟨hy,zAg,by simp,hall.out,by simp,htx,by simp,by show x.time<_;omega,by simp,by simp,by simp,by simp⟩
    have ld:=zAT hO hokO
    have hcs:(objC ⟨3,[],[],y,acc,x.time,x.text,noId,0,[]⟩ (.slice none 0 0) (.slice A3 acc.length c3)).toArray.size=72:=by rw [List.size_toArray];exact zAv hokO _ _
    have hc1:=zAr ⟨3,[],[],y,acc,x.time,x.text,noId,0,[]⟩ none A3 0 0 acc.length c3
    have hfin:Hid (∀ w',OwnIds w' W3.heap.size (.slice A3 acc.length c3) acc→MkR w (.returned (.agg (objC ⟨3,[],[],y,acc,x.time,x.text,noId,0,[]⟩ (.slice none 0 0) (.slice A3 acc.length c3)).toArray)) w'):=Lib.hid fun w' ho=>⟨_,none,A3,0,c3,rfl,⟨by simp,by simp,by show acc.length≤_;omega,by simp,by show x.text.length≤_;omega,by simp⟩,hokO,World.ownsRow_nil _ _ _ _,zAw ho b3.size⟩
    have b9:=bthen b3 b3.size hbel
    generalize (objC ⟨3,[],[],y,acc,x.time,x.text,noId,0,[]⟩ (.slice none 0 0) (.slice A3 acc.length c3)).toArray=OR at *
    go_wp2_with (first
     | (refine wpList_store_row rfl 59 (.tmp 6) (.tmp 121) rfl W2.heap.size OR rfl rfl _ _ hz9 (hsz _ hcs) (hz72.trans hcs.symm) hc1 ?_))
    refine bodyPost_ret (results_cell_row rfl _ _ W2.heap.size _ _ _ _ rfl (setRow_heap _ _ _ _ _ _ hz9) Tryz.underlying59 rfl (hsz _ hcs)) rfl ⟨hfin.out _ (own_row hown hlt2 OR),zAa b9 hle2 _⟩
end
section
attribute [local go_sem ↓] ldvI_eq ldvS_eq stvI_eq ldvO_eq
def NameV (v:Value):Prop := ∃ c:UInt8,v = .string (B [c])
structure EntS (e:EntL):Prop where
 id:e.id.length=32
 name:e.name.length=1
 k0:0≤e.kind
 k1:e.kind≤255
theorem EntS.ok {e:EntL} (h:EntS e):EntOk e:=⟨h.id,by have:=h.name;omega,by have:=h.k0;omega,by have:=h.k1;omega⟩
def oT : ObjL:=⟨2,[],[],noId,[],0,[],noId,0,[]⟩
def oTC (ve:Value):Array Value:=(objC oT ve (.slice none 0 0)).toArray
theorem entC_lenS {y:Txt} (hy:y.length=32) {n:Txt} {K:Int}:(entC ⟨n,K,y⟩).length=34:=by
 unfold entC
 simp [zAj,hy]
set_option maxRecDepth 100000 in
theorem built_ent3 (n:Txt) (k:Int) (x:Txt) (hx:x.length=32):Tryz.prog.built 132 [(0, .string (B n)),(1, .int .i64 k),(2, .agg (u8s x))]=some (entC ⟨n,k,x⟩).toArray:=by
 obtain ⟨f,rfl⟩:=len32 hx
 kernel_rfl
set_option maxRecDepth 100000 in
set_option maxHeartbeats 8000000 in
theorem make_tree {w:World} {vm:Value} {es:List DiL} (h:DocSt w vm es) (ids:List Txt) (hok : ∀ x∈ids,x.length=32) (hil:ids.length≤1000) (vi:Value) (hi:Ids w vi ids) (x:SdL) (hx:SdOk w x) (hr:x.refs.length≤10) (ht:x.text.length≤300) (hk:(x.kind.toNat:Int)%4=1) :
 Calls Tryz.prog 40 #[.agg #[vm],vi, .agg (sdC x).toArray] w fun e w'=>MkR w e w'∧Below w.heap.size w w':=by
 have hzo:=zeroObj
 have hz72:=zAB
 have hzone:zObj.all (·.oneCell')=true:=zAr zeroO none none 0 0 0 0
 have hsz : ∀ cs:Array Value,cs.size=72→(Tryz.prog.info? 59).map (·.size)=some cs.size:=fun cs h=>by rw [h];exact szObj
 obtain ⟨W1,hW1⟩ : ∃ W1,w.alloc (.cells #[vm] 28)=W1:=⟨_,rfl⟩
 have s1:Blk W1 w.heap.size 28 #[vm]:=by rw [←hW1];exact Blk.new _ _ _
 have b1:Below w.heap.size w W1:=by rw [←hW1];exact (Below.refl _ _).alloc (Nat.le_refl _) _
 obtain ⟨W2,hW2⟩ : ∃ W2,W1.alloc (.cells (sdC x).toArray 99)=W2:=⟨_,rfl⟩
 have d2:Blk W2 W1.heap.size 99 (sdC x).toArray:=by rw [←hW2];exact Blk.new _ _ _
 have bb2:Below W1.heap.size W1 W2:=by rw [←hW2];exact (Below.refl _ _).alloc (Nat.le_refl _) _
 obtain ⟨W3,hW3⟩ : ∃ W3,W2.alloc (.cells zObj 59)=W3:=⟨_,rfl⟩
 have z3:Blk W3 W2.heap.size 59 zObj:=by rw [←hW3];exact Blk.new _ _ _
 have bb3:Below W2.heap.size W2 W3:=by rw [←hW3];exact (Below.refl _ _).alloc (Nat.le_refl _) _
 have b2:=bthen b1 b1.size bb2
 have b3:=bthen b2 b2.size bb3
 have s3:=(s1.below bb2 s1.lt).below bb3 (s1.below bb2 s1.lt).lt
 have d3:=d2.below bb3 d2.lt
 have hle2:w.heap.size≤W2.heap.size:=b2.size
 have hlt0:=s1.lt
 have hlt1:=d2.lt
 have hlt2:=z3.lt
 have fL:=fun W (hW:Below W3.heap.size W3 W)=>zAP (s3.below hW s3.lt)
 have fK : ∀ W,Below W3.heap.size W3 W→W.cell? ⟨W1.heap.size,0,none⟩=some (.int .u8 x.kind.toNat):=fun W hW=>(d3.below hW d3.lt).cell 0
 have fR : ∀ W,Below W3.heap.size W3 W→W.cell? ⟨W1.heap.size,1,none⟩=some x.vr:=fun W hW=>(d3.below hW d3.lt).cell 1
 have fT : ∀ W,Below W3.heap.size W3 W→W.cell? ⟨W1.heap.size,2,none⟩=some (.int .u16 x.time):=fun W hW=>(d3.below hW d3.lt).cell 2
 have fX : ∀ W,Below W3.heap.size W3 W→W.cell? ⟨W1.heap.size,3,none⟩=some (.string (B x.text)):=fun W hW=>(d3.below hW d3.lt).cell 3
 have k3:=fK W3 (Below.refl _ _)
 have hkb:(x.kind.toNat:Int)<256:=by have:=x.kind.toNat_lt;omega
 have hsI:(Tryz.prog.info? 46).map (·.size)=some (u8s noId).size:=by rw [zAj,zAg];exact sz32
 obtain ⟨A,cap,hvr,hcap1,hcap2,hat⟩:=hx.refs
 rw [hvr] at fR
 have hkc:=fun (y:Txt) (hy:y.length=32) W (hW:Below W3.heap.size W3 W)=>zBM (h.below (bthen b3 b3.size hW)) y hy
 have hpk:=fun (c:UInt8) W (hW:Below W3.heap.size W3 W)=>(zC7 (h.below (bthen b3 b3.size hW)) ids hok hil vi (hi.below (bthen b3 b3.size hW)) c.toNat (by have:=c.toNat_lt;omega) 9)
 have fBk : ∀ k,k<x.refs.length → ∃ (ga oa:Nat) (c:UInt8),A=some ⟨ga,oa,none⟩ ∧ ∀ W,Below W3.heap.size W3 W→W.cell? ⟨ga,oa+k,none⟩=some (.int .u8 c.toNat):=fun k hk=>by
  obtain ⟨ga,oa,rfl,hga,hca⟩:=hat (by omega)
  refine ⟨ga,oa,x.refs[k],rfl,fun W hW=>?_⟩
  have:=zAc (hca k _ (List.getElem?_eq_getElem hk)) hga (bthen b3 b3.size hW) 0 _ rfl
  simpa [byC,u8v] using this
 clear h hi hx fK fT fX hok hat hvr
 generalize (sdC x).toArray=SC at *
 obtain ⟨ZO,hZO⟩ : ∃ ZO,zObj=ZO:=⟨_,rfl⟩
 rw [hZO] at hzo hz72 hzone hW3 z3
 have hbd:=zBu 2
 have hcs:(oTC (.slice none 0 0)).size=72:=rfl
 have hc1:(oTC (.slice none 0 0)).all (·.oneCell')=true:=zAr oT none none 0 0 0 0
 have hbd:Tryz.prog.built 59 [(0, .int .i64 2)]=some (oTC (.slice none 0 0)):=hbd
 obtain ⟨OC,hOC⟩ : ∃ OC,oTC (.slice none 0 0)=OC:=⟨_,rfl⟩
 rw [hOC] at hbd hcs hc1
 have hOC:=Lib.hid hOC
 go_enter Tryz.func40,Tryz.ntmps40
 go_wp2_with (first
  | ((with_reducible refine zAL hbd ?_ ?_);rfl)
  | ((with_reducible refine lit_new 59 (.tmp 7) (.tmp 25) OC 72 szObj hcs hc1 _ ?_ ?_ ?_ ?_)
     ·first | exact hz72 | rfl
     ·rfl
     ·rfl
     intro W4 n4 b34))
 have hO4:Blk W4 W3.heap.size 59 (oTC (.slice none 0 0)):=by rw [hOC.out];exact n4
 clear n4 hbd hcs hc1
 go_loopw [8] (fun vi wr => ∃ (k:Nat) (acc:List EntL) (ve:Value),vi = .int .i64 k∧k≤x.refs.length∧k≤5∧acc.length≤k∧Hid (∀ e∈acc,EntS e)∧Blk wr W3.heap.size 59 (oTC ve)∧OwnEnts wr W3.heap.size ve acc∧Below W3.heap.size W3 wr) (fun vi _=>x.refs.length-(intOf vi).toNat)
 case atStart=>exact ⟨0,[],_,rfl,by omega,by omega,by simp,Lib.hid (fun x hx=>by simp at hx),hO4,World.ownsRow_nil _ _ _ _,b34⟩
 case round=>
  obtain ⟨k,acc,ve,rfl,hk,hk5,hal,hall,hO,hown,hbel⟩:=hrel
  have r6:=fR _ hbel
  by_cases hlt:k<x.refs.length
  ·have hki:(k:Int)<(x.refs.length:Int):=by omega
   by_cases hk6:k<5
   ·have hki5:(k:Int)<5:=by omega
    obtain ⟨ga,oa,c,rfl,fB⟩:=fBk k hlt
    have hcb:(c.toNat:Int)<256:=by have:=c.toNat_lt;omega
    have hcw:IntKind.i64.wrap (c.toNat:Int)=(c.toNat:Int):=IntWalk.i64_in _ (by omega)
    have hpk:=hpk c
    clear fBk
    go_wp2
    refine zAA 15 (by kernel_rfl) (by kernel_rfl) (by kernel_rfl) (by kernel_rfl) ?_
    simp only [exSp]
    iterate 15 apply Exists.intro
    repeat
     first
      | ((with_reducible apply lx0_ex)
         ·(go_simp;done)
         apply Exists.intro
         apply And.intro
         ·apply Eq.refl
         apply And.intro
         ·intro W hW hD
          have hW2:=hbel.trans (hW.mono hbel.size)
          have q0:=fL W hW2
          have q1:=fR W hW2
          have q2:=fB W hW2
          go_simp
          rfl
         simp only [Act.put,zA,zB,zC])
      | ((with_reducible apply zA2)
         ·(first | rfl | (go_simp;done))
         ·apply Eq.refl
         simp only [Act.put,zA,zB,zC])
      | ((with_reducible refine lx0_new (fun v _ _=>PickV v) rfl ?_ (zCo PickV) ?_ ?_)
         ·(go_simp;done)
         ·intro W hW hD
          have hW2:=hbel.trans (hW.mono hbel.size)
          unfold doesAt Oper.wp execOp
          go_simp
          (with_reducible refine (hpk W hW2).mono ?_)
          rintro e w' ⟨⟨y,b,rfl,hy⟩,hb⟩
          exact ⟨hb,fun _ _ _ _=>⟨y,b,rfl,hy⟩⟩
         intro v
         simp only [Act.put,zA,zB,zC])
      | (first | (with_reducible apply zA1) | (with_reducible apply zAK)
         ·apply Eq.refl
         apply Exists.intro
         apply And.intro
         ·(go_simp;rfl)
         simp only [Act.put,zA,zB,zC])
      | ((with_reducible apply zDM)
         ·apply Eq.refl
         apply Exists.intro
         apply And.intro
         ·(go_simp;rfl)
         refine ⟨fun W hW hD=>?_,?_⟩
         ·obtain ⟨F,y,b,rfl,hy⟩:=hD.at 0 rfl (by kernel_rfl)
          exact ⟨_,rfl,by simp⟩
         simp only [Act.put,zA,zB,zC])
      | ((with_reducible apply lx_al 46 (u8s noId) zeroIdV)
         ·apply Eq.refl
         intro v
         simp only [Act.put,zA,zB,zC])
      | ((with_reducible apply lx_st' 12 46 (u8s noId) hsI (by kernel_rfl))
         ·exact rfl
         ·apply Eq.refl
         apply Exists.intro
         apply Exists.intro
         apply And.intro
         ·(go_simp;rfl)
         apply And.intro
         ·(go_simp;rfl)
         refine ⟨?_,fun W hW hD=>?_,?_⟩
         ·first | exact List.Mem.head _ | exact List.Mem.tail _ (List.Mem.head _) | exact List.Mem.tail _ (List.Mem.tail _ (List.Mem.head _)) | exact List.Mem.tail _ (List.Mem.tail _ (List.Mem.tail _ (List.Mem.head _)))
         ·obtain ⟨F,y,b,rfl,hy⟩:=hD.at 1 rfl (by kernel_rfl)
          exact ⟨_,rfl,by rw [zAj,zAj,hy,zAg],u8s_one y⟩)
    refine lx0_nil ?_ fun w7 hW7 hD7=>?_
    ·exact (by simp [stsOf])
    obtain ⟨_,y7,b,rfl,hy7⟩:=hD7 _ (.tail _ (.tail _ (.head _)))
    obtain ⟨_,g,cs,rfl,hcs,hg1,_,hg2⟩:=hD7 _ (.head _)
    obtain rfl:u8s y7=cs:=by injection hcs
    clear hcs hD7
    simp only [extr2_0,extr2_1]
    have b7:=hbel.trans (hW7.mono hbel.size)
    have own7:=zAf hown hW7
    have hO7:=hO.below hW7 hO.lt
    clear hpk fB hcw
    cases b
    ·go_wp2
     go_roundw
     case rel=>exact ⟨k+1,acc,ve,by go_num,by omega,by omega,by omega,hall,hO7,own7,b7⟩
     case measure=>simp [intOf];omega
    ·obtain ⟨K,hK⟩ : ∃ K,kindS (es.map (·.st)) y7=K:=⟨_,rfl⟩
     have hKb:=zEF (s:=es.map (·.st)) y7
     have hkc:=hkc y7 hy7
     simp only [hK] at hKb hkc
     have hOV2:(oTC ve)[2]?=some ve:=rfl
     have hOVs:(2:Nat)<(oTC ve).size:=by show 2<(objC oT ve _).toArray.size;rw [List.size_toArray];simp [objC]
     have hOVp : ∀ v,(oTC ve).setIfInBounds 2 v=oTC v:=fun v=>rfl
     have hpre:=preOk2 (i:=10) (j:=12) own7 hO7 (by decide)
     have hrB:=rows2 (i:=10) (j:=12) (p:=fun w=>World.ownsRow w W3.heap.size 132 34 ve acc.length (rowsOf entC acc)) (q:=fun w=>Blk w W3.heap.size 59 (oTC ve)) (v:=ve) (fun k hk=>(World.ownsRow.lt own7 k hk).1) (Nat.le_refl W3.heap.size)
     have sz7:=b7.size
     have hno1:=zAs own7 hg2 (by decide)
     have hno2:W3.heap.size≠g:=fun e=>Blk.ne_ hO7 (e▸hg2) (by decide) rfl
     have hgI:=fun W (hF:Far (rowsOfP [(10,ve.ownBlock,fun w=>World.ownsRow w W3.heap.size 132 34 ve acc.length (rowsOf entC acc)),(12,some W3.heap.size,fun w=>Blk w W3.heap.size 59 (oTC ve))]) w7 W)=>zAb (zAi (hF.blk hg2 (by simp [rowsOfP];exact ⟨hno1,fun e=>hno2 e.symm⟩))) hy7
     have hkl:acc.length+1≤9223372036854775807:=by omega
     have hby:(acc.length+1)*56≤140737488355328:=by omega
     obtain ⟨A3,c3,rfl⟩:=zAm hown
     obtain ⟨OV,hOV⟩ : ∃ OV,oTC (.slice A3 acc.length c3)=OV:=⟨_,rfl⟩
     rw [hOV] at hpre hrB hgI hOV2 hOVs hOVp hO7
     have hnm:=fun W=>name_calls11 k (by omega) W
     clear hOV hK hno1 hno2
     go_wp2
     refine zBA 13 [(10,(Value.slice A3 acc.length c3).ownBlock,fun w=>World.ownsRow w W3.heap.size 132 34 (.slice A3 acc.length c3) acc.length (rowsOf entC acc)),(12,some W3.heap.size,fun w=>Blk w W3.heap.size 59 OV)] hpre (by kernel_rfl) (by kernel_rfl) (by kernel_rfl) (by kernel_rfl) ?_
     simp only [exSp]
     iterate 13 apply Exists.intro
     repeat
      first
       | ((with_reducible apply lx_ex)
          ·(go_simp;done)
          apply Exists.intro
          apply And.intro
          ·apply Eq.refl
          apply And.intro
          ·intro W hF hD
           first
            | (have hf:=zBF hF
               have hW2:=b7.trans (hf.below sz7 hrB)
               have q0:=fL W hW2
               have q1:W.cell? ⟨W3.heap.size,2,none⟩=some (.slice A3 acc.length c3):=by rw [(hD.was 1 rfl (by kernel_rfl)).cell];exact hOV2
               have q2:=hgI W hf
               have q3:=hkc W hW2
               go_simp
               first
                | rfl
                | (with_reducible exact q3))
            | (have hf:=zBF hF
               have hW2:=b7.trans (hf.below sz7 hrB)
               have q0:=fL W hW2
               have q2:=hgI W hf
               have q3:=hkc W hW2
               go_simp
               first
                | rfl
                | (with_reducible exact q3))
          simp only [Act.put,zA,zB,zC])
       | ((with_reducible apply lx_pass)
          ·(first | rfl | (go_simp;done))
          ·apply Eq.refl
          simp only [Act.put,zA,zB,zC])
       | ((with_reducible refine lx_new (fun _ v _ _=>NameV v) rfl ?_ (fun _=>zCo NameV) ?_ ?_)
          ·(go_simp;done)
          ·intro W hF hD
           unfold doesAt Oper.wp execOp
           go_simp
           (with_reducible refine (hnm W).mono ?_)
           rintro e w' ⟨⟨cc,rfl⟩,hb⟩
           exact ⟨hb,fun _ _ _ _=>⟨cc,rfl⟩⟩
          intro v
          simp only [Act.put,zA,zB,zC])
       | (first | (with_reducible apply zA1) | (with_reducible apply zAK)
          ·apply Eq.refl
          apply Exists.intro
          apply And.intro
          ·(go_simp;rfl)
          simp only [Act.put,zA,zB,zC])
       | ((with_reducible apply lx_build3 (fun cs => ∃ cc:UInt8,cs=(entC ⟨[cc],K,y7⟩).toArray))
          ·apply Eq.refl
          iterate 3 apply Exists.intro
          iterate 3
           apply And.intro
           ·(go_simp;rfl)
          refine ⟨fun W hF hD=>?_,?_⟩
          ·obtain ⟨F,cc,rfl⟩:=hD.at 0 rfl (by kernel_rfl)
           exact ⟨_,built_ent3 [cc] K y7 hy7,cc,rfl⟩
          intro v
          simp only [Act.put,zA,zB,zC])
       | ((with_reducible apply zB2 Tryz.entTy (fun cs => ∃ cc:UInt8,cs=(entC ⟨[cc],K,y7⟩).toArray) (by omega))
          ·apply Eq.refl
          apply Exists.intro
          apply And.intro
          ·(go_simp;rfl)
          refine ⟨fun W hF hD=>?_,?_⟩
          ·obtain ⟨F,cs,rfl,cc,rfl⟩:=hD.at 0 rfl (by kernel_rfl)
           exact ⟨_,rfl,by rw [List.size_toArray,entC_lenS hy7],cc,rfl⟩
          intro v
          simp only [Act.put,zA,zB,zC])
       | ((with_reducible apply zEr Tryz.entTy W3.heap.size (.slice A3 acc.length c3) acc.length (rowsOf entC acc) (fun xs => ∃ cc:UInt8,xs=rowsOf entC acc++entC ⟨[cc],K,y7⟩) hkl hby)
          ·exact sz7
          ·first | exact List.Mem.head _ | exact List.Mem.tail _ (List.Mem.head _) | exact List.Mem.tail _ (List.Mem.tail _ (List.Mem.head _)) | exact List.Mem.tail _ (List.Mem.tail _ (List.Mem.tail _ (List.Mem.head _)))
          ·apply Eq.refl
          apply Exists.intro
          apply Exists.intro
          apply And.intro
          ·(go_simp;rfl)
          apply And.intro
          ·(go_simp;rfl)
          refine ⟨rfl,fun W hF hD=>?_,?_⟩
          ·obtain ⟨F,g5,cs,rfl,_,hk5,cc,rfl⟩:=hD.at 0 rfl (by kernel_rfl)
           exact ⟨g5,_,rfl,hk5,by rw [List.size_toArray,entC_lenS hy7],by rw [List.toList_toArray];exact zDZ _,cc,by rw [List.toList_toArray]⟩
          intro v
          simp only [Act.put,zA,zB,zC])
       | ((with_reducible apply lx_put W3.heap.size 2 OV 59)
          ·exact (fun _=>by kernel_rfl)
          ·exact hOVs
          ·first | exact List.Mem.head _ | exact List.Mem.tail _ (List.Mem.head _) | exact List.Mem.tail _ (List.Mem.tail _ (List.Mem.head _)) | exact List.Mem.tail _ (List.Mem.tail _ (List.Mem.tail _ (List.Mem.head _)))
          ·apply Eq.refl
          apply Exists.intro
          apply Exists.intro
          apply And.intro
          ·(go_simp;rfl)
          apply And.intro
          ·(go_simp;rfl)
          refine ⟨rfl,fun W hF hD=>?_,?_⟩
          ·obtain ⟨F,xs,_,hv,_⟩:=hD.at 0 rfl (by kernel_rfl)
           obtain ⟨A6,c6,rfl⟩:=zAm hv
           exact ⟨_,_,_,rfl⟩)
     refine lxP_nil ?_ fun w9 hF9 hD9=>?_
     ·exact List.nodup_nil
     have f9:=hF9
     obtain ⟨_,hg9,hb9⟩:=hD9 _ (.head _)
     obtain ⟨_,xs,⟨cc,rfl⟩,hv9,_⟩:=hD9 _ (.tail _ (.head _))
     rw [hOVp] at hb9
     have b9:=b7.trans (f9.below sz7 hrB)
     go_wp2
     go_roundw
     case rel=>exact ⟨k+1,acc++[⟨[cc],K,y7⟩],_,by go_num,by omega,by omega,by simp;omega,Lib.hid (fun e he=>by
      rcases List.mem_append.1 he with he | he
      ·exact hall.out e he
      ·rw [List.mem_singleton.1 he];exact ⟨hy7,rfl,hKb.1,hKb.2⟩),hb9,by unfold OwnEnts;rw [List.length_append,zAo,zAx];exact hv9,b9⟩
     case measure=>simp [intOf];omega
   ·have hki5 : ¬ (k:Int)<5:=by omega
    clear fBk hpk hkc
    obtain ⟨A3,c3,rfl⟩:=zAm hown
    have hz9:=z3.below hbel z3.lt
    have hokO:ObjOk ⟨2,[],acc,noId,[],0,[],noId,0,[]⟩:=⟨zAg,zAg,fun e he=>(hall.out e he).ok,by simp,by simp,by simp,by simp,by simp,by simp,by simp,by simp,by simp⟩
    have hOo:ObjB wr W3.heap.size ⟨2,[],acc,noId,[],0,[],noId,0,[]⟩ (.slice A3 acc.length c3) (.slice none 0 0):=⟨hO,zAg,zAg⟩
    have ld:=zAT hOo hokO
    have hcs:(objC ⟨2,[],acc,noId,[],0,[],noId,0,[]⟩ (.slice A3 acc.length c3) (.slice none 0 0)).toArray.size=72:=by rw [List.size_toArray];exact zAv hokO _ _
    have hc1:=zAr ⟨2,[],acc,noId,[],0,[],noId,0,[]⟩ A3 none acc.length c3 0 0
    have hfin:Hid (∀ w',OwnEnts w' W3.heap.size (.slice A3 acc.length c3) acc→MkR w (.returned (.agg (objC ⟨2,[],acc,noId,[],0,[],noId,0,[]⟩ (.slice A3 acc.length c3) (.slice none 0 0)).toArray)) w'):=Lib.hid fun w' ho=>⟨_,A3,none,c3,0,rfl,⟨by show acc.length≤_;omega,fun e he=>by have:=(hall.out e he).name;omega,by simp,by simp,by simp,by simp⟩,hokO,zAw ho b3.size,World.ownsRow_nil _ _ _ _⟩
    have b9:=bthen b3 b3.size hbel
    generalize (objC ⟨2,[],acc,noId,[],0,[],noId,0,[]⟩ (.slice A3 acc.length c3) (.slice none 0 0)).toArray=OR at *
    go_wp2_with (first
     | (refine wpList_store_row rfl 59 (.tmp 6) (.tmp 62) rfl W2.heap.size OR rfl rfl _ _ hz9 (hsz _ hcs) (hz72.trans hcs.symm) hc1 ?_))
    refine bodyPost_ret (results_cell_row rfl _ _ W2.heap.size _ _ _ _ rfl (setRow_heap _ _ _ _ _ _ hz9) Tryz.underlying59 rfl (hsz _ hcs)) rfl ⟨hfin.out _ (own_row hown hlt2 OR),zAa b9 hle2 _⟩
  ·have hki : ¬ (k:Int)<(x.refs.length:Int):=by omega
   clear fBk hpk hkc
   obtain ⟨A3,c3,rfl⟩:=zAm hown
   have hz9:=z3.below hbel z3.lt
   have hokO:ObjOk ⟨2,[],acc,noId,[],0,[],noId,0,[]⟩:=⟨zAg,zAg,fun e he=>(hall.out e he).ok,by simp,by simp,by simp,by simp,by simp,by simp,by simp,by simp,by simp⟩
   have hOo:ObjB wr W3.heap.size ⟨2,[],acc,noId,[],0,[],noId,0,[]⟩ (.slice A3 acc.length c3) (.slice none 0 0):=⟨hO,zAg,zAg⟩
   have ld:=zAT hOo hokO
   have hcs:(objC ⟨2,[],acc,noId,[],0,[],noId,0,[]⟩ (.slice A3 acc.length c3) (.slice none 0 0)).toArray.size=72:=by rw [List.size_toArray];exact zAv hokO _ _
   have hc1:=zAr ⟨2,[],acc,noId,[],0,[],noId,0,[]⟩ A3 none acc.length c3 0 0
   have hfin:Hid (∀ w',OwnEnts w' W3.heap.size (.slice A3 acc.length c3) acc→MkR w (.returned (.agg (objC ⟨2,[],acc,noId,[],0,[],noId,0,[]⟩ (.slice A3 acc.length c3) (.slice none 0 0)).toArray)) w'):=Lib.hid fun w' ho=>⟨_,A3,none,c3,0,rfl,⟨by show acc.length≤_;omega,fun e he=>by have:=(hall.out e he).name;omega,by simp,by simp,by simp,by simp⟩,hokO,zAw ho b3.size,World.ownsRow_nil _ _ _ _⟩
   have b9:=bthen b3 b3.size hbel
   generalize (objC ⟨2,[],acc,noId,[],0,[],noId,0,[]⟩ (.slice A3 acc.length c3) (.slice none 0 0)).toArray=OR at *
   go_wp2_with (first
    | (refine wpList_store_row rfl 59 (.tmp 6) (.tmp 62) rfl W2.heap.size OR rfl rfl _ _ hz9 (hsz _ hcs) (hz72.trans hcs.symm) hc1 ?_))
   refine bodyPost_ret (results_cell_row rfl _ _ W2.heap.size _ _ _ _ rfl (setRow_heap _ _ _ _ _ _ hz9) Tryz.underlying59 rfl (hsz _ hcs)) rfl ⟨hfin.out _ (own_row hown hlt2 OR),zAa b9 hle2 _⟩
end
section
theorem make1_calls {w:World} {vm:Value} {es:List DiL} (h:DocSt w vm es) (ids:List Txt) (hok : ∀ x∈ids,x.length=32) (hil:ids.length≤1000) (vi:Value) (hi:Ids w vi ids) (x:SdL) (hx:SdOk w x) (hr:x.refs.length≤10) (ht:x.text.length≤300) :
 Calls Tryz.prog 40 #[.agg #[vm],vi, .agg (sdC x).toArray] w fun e w'=>MkR w e w'∧Below w.heap.size w w':=by
 have h4:(x.kind.toNat:Int)%4=0∨(x.kind.toNat:Int)%4=1∨(x.kind.toNat:Int)%4=2∨(x.kind.toNat:Int)%4=3:=by omega
 rcases h4 with h4 | h4 | h4 | h4
 ·exact make_blob h ids hok hil vi hi x hx hr ht h4
 ·exact make_tree h ids hok hil vi hi x hx hr ht h4
 ·exact make_commit h ids hok hil vi hi x hx hr ht h4
 ·exact make_tag h ids hok hil vi hi x hx hr ht h4
def ldvSd (p:Addr):Sem Value:=loadVar 99 p
theorem ldvSd_eq (p:Addr):loadVar 99 p=ldvSd p:=rfl
theorem run_ldvSd {w:World} {g o:Nat} {e:SdL} (h:w.rangeAt g o (sdC e)):(ldvSd ⟨g,o,none⟩).run Tryz.prog w = .ok (.agg (sdC e).toArray) w:=run_loadVar_mid w g o 99 (sdC e) _ h Tryz.underlying99 rfl szSeed
attribute [local go_sem ↓] ldvI_eq ldvS_eq stvI_eq stvS_eq ldvSd_eq
def MkV (B:Nat) (v:Value) (F:Foot) (w:World):Prop := ∃ o A1 A2 k1 k2,v = .agg (objC o (.slice A1 o.ents.length k1) (.slice A2 o.pars.length k2)).toArray∧Small o∧ObjOk o∧ownR B 132 34 o.ents.length (rowsOf entC o.ents) (.slice A1 o.ents.length k1) F w∧ownR B 46 32 o.pars.length (rowsOf idC o.pars) (.slice A2 o.pars.length k2) F w
theorem MkV_stab (B:Nat) (v:Value):Stab (MkV B v):=fun F F' w w' hf ha ⟨o,A1,A2,k1,k2,e,h1,h2,h3,h4⟩=>⟨o,A1,A2,k1,k2,e,h1,h2,zCQ _ _ _ _ _ _ F F' w w' hf ha h3,zCQ _ _ _ _ _ _ F F' w w' hf ha h4⟩
def EncV (v:Value):Prop := ∃ t b,v = .tuple #[.string (B t), .bool b]∧t.length≤4096
theorem encD_V (o:ObjL):EncV (encD o):=by
 cases h:encO o with
 | none=>exact ⟨[],false,zDE h,by simp⟩
 | some t=>
   refine ⟨t,true,encD_some h,?_⟩
   unfold encO at h
   split at h
   ·rename_i hc
    injection h with h
    rw [←h];exact hc.2
   ·cases h
theorem DocSt.one {w:World} {vm:Value} {es:List DiL} (h:DocSt w vm es):vm.oneCell'=true:=by
 obtain ⟨A,c,rfl⟩:=zAm h.own
 rfl
theorem grow_id (w:World) (a b:Array Value) (T:TypeId) (c:Array Value) (S:TypeId):Blk (((w.alloc (.cells a T)).alloc (.cells b S)).setRow w.heap.size c) (w.heap.size+1) S b:=by
 unfold Blk
 rw [setRow_other _ _ _ _ (by omega)]
 have:=Blk.new (w.alloc (.cells a T)) S b
 rwa [zA4] at this
def GrowR (w:World) (n:Nat) (e:Ending) (w':World):Prop := ∃ vm es vi ids,e = .returned (.tuple #[.agg #[vm],vi])∧DocSt w' vm es∧es.length≤n∧OwnIds w' w.heap.size vi ids∧ids.length≤n∧(∀ x∈ids,x.length=32)∧Apart vi vm es
set_option maxRecDepth 100000 in
set_option maxHeartbeats 16000000 in
theorem grow_calls (l:List SdL) (hl:l.length≤100) (hsm : ∀ x∈l,x.refs.length≤10∧x.text.length≤300) (va:Value) (w:World) (h:Seeds w va l) :
 Calls Tryz.prog 22 #[va] w fun e w'=>GrowR w l.length e w'∧Below w.heap.size w w':=by
 have hzI:=zeroIdV
 have hZ32:(u8s noId).size=32:=by rw [zAj,zAg]
 have hbS:Tryz.prog.built 28 []=some #[.slice none 0 0]:=by kernel_rfl
 have hrb:=fun W=>run_build (P:=Tryz.prog) W _ _ _ hbS
 have hS0:(#[Value.slice none 0 0]:Array Value).size=1:=rfl
 have hS1:(#[Value.slice none 0 0]:Array Value).all (·.oneCell')=true:=by kernel_rfl
 obtain ⟨W1,hW1⟩ : ∃ W1,w.alloc (.cells #[.slice none 0 0] 28)=W1:=⟨_,rfl⟩
 have r1:Blk W1 w.heap.size 28 #[.slice none 0 0]:=by rw [←hW1];exact Blk.new _ _ _
 have b1:Below w.heap.size w W1:=by rw [←hW1];exact (Below.refl _ _).alloc (Nat.le_refl _) _
 have hlt0:=r1.lt
 have hat0:=h.at_
 have heach:=h.each
 obtain ⟨A,cap,rfl,hcap1,hcap2,hat⟩:=hat0
 clear h
 go_enter Tryz.func22,Tryz.ntmps22
 go_wp2_with (first
  | ((with_reducible refine lit_new 28 (.tmp 4) (.tmp 12) #[.slice none 0 0] 1 szDSt hS0 hS1 _ ?_ ?_ ?_ ?_)
     ·exact hS0
     ·rfl
     ·rfl
     intro W2 m2 b12))
 have hlt1:=m2.lt
 have hD2:DocSt W2 (.slice none 0 0) []:=⟨World.ownsRow_nil _ _ _ _,fun e he=>by simp at he,StoOk.nil⟩
 clear hrb hS0 hS1
 go_loopw [5,6] (fun v5 v6 wr => ∃ (k:Nat) (vm:Value) (es:List DiL) (ids:List Txt),v6 = .int .i64 k∧k≤l.length∧es.length≤k∧ids.length≤k∧Hid (∀ x∈ids,x.length=32)∧Blk wr W1.heap.size 28 #[vm]∧DocSt wr vm es∧OwnIds wr W2.heap.size v5 ids∧Apart v5 vm es∧Below W1.heap.size W1 wr∧W2.heap.size≤wr.heap.size) (fun _ v6 _=>l.length-(intOf v6).toNat)
 case atStart=>exact ⟨0,_,[],[],rfl,by omega,by simp,by simp,Lib.hid (fun x hx=>by simp at hx),m2,hD2,World.ownsRow_nil _ _ _ _,fun k hk=>by simp [Value.ownBlock] at hk,b12,Nat.le_refl _⟩
 case round=>
  obtain ⟨k,vm,es,ids,rfl,hk,hel,hil,hids,hM,hD,hown,hap,hbel,hsz2⟩:=hrel
  by_cases hlt:k<l.length
  ·have hki:(k:Int)<(l.length:Int):=by omega
   obtain ⟨ga,oa,rfl,hga,hca⟩:=hat (by omega)
   obtain ⟨x,hx⟩ : ∃ x,l[k]?=some x:=⟨_,List.getElem?_eq_getElem hlt⟩
   have hxm:=List.mem_of_getElem? hx
   obtain ⟨hx1,hx2⟩:=hsm x hxm
   have hxo:=heach x hxm
   have hbr:Below w.heap.size w wr:=bthen b1 b1.size hbel
   have fS:=fun W (hW:Below wr.heap.size wr W)=>run_ldvSd (zAc (hca k x hx) hga (bthen hbr hbr.size hW))
   have fM:=fun W (hW:Below wr.heap.size wr W)=>zAP (hM.below hW hM.lt)
   have hiW:=fun W (hW:Below wr.heap.size wr W)=>SliceAt.of_own (fun e h=>idC_len (hids.out e h)) (zAf hown hW)
   have hmk:=fun W (hW:Below wr.heap.size wr W)=>make1_calls (hD.below hW) ids hids.out (by omega) _ (hiW W hW) x (hxo.below (bthen hbr hbr.size hW)) hx1 hx2
   have hlth:(k:Nat)<l.length:=hlt
   clear hx hca hat heach hsm hxm hxo hiW
   generalize (sdC x).toArray=SC at *
   go_wp2
   refine zAA 13 (by kernel_rfl) (by kernel_rfl) (by kernel_rfl) (by kernel_rfl) ?_
   simp only [exSp]
   iterate 13 apply Exists.intro
   repeat
    first
     | ((with_reducible apply lx0_ex)
        ·(go_simp;done)
        apply Exists.intro
        apply And.intro
        ·apply Eq.refl
        apply And.intro
        ·intro W hW hD
         have q0:=fM W hW
         have q1:=fS W hW
         go_simp
         rfl
        simp only [Act.put,zA,zB,zC])
     | ((with_reducible apply zA2)
        ·(first | rfl | (go_simp;done))
        ·apply Eq.refl
        simp only [Act.put,zA,zB,zC])
     | ((with_reducible refine lx0_new (MkV wr.heap.size) rfl ?_ (MkV_stab _) ?_ ?_)
        ·(go_simp;done)
        ·intro W hW hD
         unfold doesAt Oper.wp execOp
         go_simp
         (with_reducible refine (hmk W hW).mono ?_)
         rintro e w' ⟨⟨o,A1,A2,k1,k2,rfl,h1,h2,h3,h4⟩,hb⟩
         exact ⟨hb,fun F f1 f2 f3=>⟨o,A1,A2,k1,k2,rfl,h1,h2,ownR_new hW.size h3 F f1 f2 f3,ownR_new hW.size h4 F f1 f2 f3⟩⟩
        intro v
        simp only [Act.put,zA,zB,zC])
     | ((with_reducible refine lx0_new (fun v _ _=>EncV v) rfl ?_ (zCo EncV) ?_ ?_)
        ·(go_simp;done)
        ·intro W hW hD
         obtain ⟨F,o,A1,A2,k1,k2,rfl,h1,h2,h3,h4⟩:=hD.at 0 rfl (by kernel_rfl)
         have hc:=zCJ o h1 A1 A2 k1 k2 W ⟨h2,SliceAt.of_own (fun e h=>zBw (h2.ents e h)) h3.1,SliceAt.of_own (fun e h=>idC_len (h2.pars e h)) h4.1⟩
         unfold doesAt Oper.wp execOp
         go_simp
         (with_reducible refine hc.mono ?_)
         rintro e w' ⟨rfl,hb⟩
         exact ⟨hb,fun _ _ _ _=>encD_V o⟩
        intro v
        simp only [Act.put,zA,zB,zC])
     | (first | (with_reducible apply zA1) | (with_reducible apply zAK)
        ·apply Eq.refl
        apply Exists.intro
        apply And.intro
        ·(go_simp;rfl)
        simp only [Act.put,zA,zB,zC])
     | ((with_reducible apply zDM)
        ·apply Eq.refl
        apply Exists.intro
        apply And.intro
        ·(go_simp;rfl)
        refine ⟨fun W hW hD=>?_,?_⟩
        ·obtain ⟨F,t,b,rfl,ht⟩:=hD.at 0 rfl (by kernel_rfl)
         exact ⟨_,rfl,by simp⟩
        simp only [Act.put,zA,zB,zC])
   refine lx0_nil ?_ fun w6 hW6 hD6=>?_
   ·exact List.nodup_nil
   obtain ⟨_,t,b,rfl,htl⟩:=hD6 _ (.head _)
   simp only [extr2_0,extr2_1]
   have b6:=hbel.trans (hW6.mono hbel.size)
   have M6:=hM.below hW6 hM.lt
   have D6:=hD.below hW6
   have own6:=zAf hown hW6
   have sz6:W2.heap.size≤w6.heap.size:=Nat.le_trans hsz2 hW6.size
   clear hD6 hmk fS
   cases b
   ·go_wp2
    go_roundw
    case rel=>exact ⟨k+1,vm,es,ids,by go_num,by omega,by omega,by omega,hids,M6,D6,own6,hap,b6,sz6⟩
    case measure=>simp [intOf];omega
   ·have lM:=zAP M6
    have hwi:=Lib.hid (docWith_calls D6 (by omega) t (by omega))
    have hpl:=putS_len (es.map (·.st)) t
    rw [List.length_map] at hpl
    have hpi:(putI t).length=32:=by
     unfold putI
     split
     ·rfl
     ·exact zBb _
    obtain ⟨pn,hpn⟩ : ∃ pn,putI t=pn:=⟨_,rfl⟩
    obtain ⟨bf,hbf⟩ : ∃ bf,(decO t).isSome=bf:=⟨_,rfl⟩
    obtain ⟨PL,hPL⟩ : ∃ PL,putS (es.map (·.st)) t=PL:=⟨_,rfl⟩
    unfold WithR at hwi
    rw [hpn] at hpi hwi
    rw [hbf,hPL] at hwi
    rw [hPL] at hpl
    have hp32:(u8s pn).size=32:=by rw [zAj,hpi]
    have hpo:=u8s_one pn
    have hszI:(Tryz.prog.info? 46).map (·.size)=some (u8s pn).size:=by rw [hp32];exact sz32
    clear hpn hbf hPL
    go_upto_region 9 with (first
     | ((with_reducible refine hwi.out.mono ?_);rintro e w7 ⟨⟨vm7,es7,rfl,D7,hmap,hold, -⟩,b67⟩)
     | (refine wpList_store_row rfl 28 (.tmp 9) (.tmp 35) rfl w7.heap.size #[vm7] rfl rfl _ #[.slice none 0 0] ((Blk.new _ _ _).alloc _) szDSt rfl (by simp [D7.one]) ?_)
     | (refine wpList_store_row rfl 46 (.tmp 10) (.tmp 36) rfl (w7.heap.size+1) (u8s pn) rfl rfl _ (u8s noId) (grow_id _ _ _ _ _ _) hszI (by rw [hp32,hZ32]) hpo ?_))
    obtain ⟨W8,hW8⟩ : ∃ W8,(((w7.alloc (.cells #[.slice none 0 0] 28)).alloc (.cells (u8s noId) 46)).setRow w7.heap.size #[vm7]).setRow (w7.heap.size+1) (u8s pn)=W8:=⟨_,rfl⟩
    have b78:Below w7.heap.size w7 W8:=by
     rw [←hW8]
     exact zAa (zAa (((Below.refl _ _).alloc (Nat.le_refl _) _).alloc (by rw [zA4];omega) _) (Nat.le_refl _) _) (by omega) _
    have g9:Blk W8 w7.heap.size 28 #[vm7]:=by
     rw [←hW8]
     unfold Blk
     rw [setRow_other _ _ _ _ (by omega)]
     exact setRow_heap _ _ _ _ _ _ ((Blk.new _ _ _).alloc _)
    have g10:Blk W8 (w7.heap.size+1) 46 (u8s pn):=by
     rw [←hW8]
     exact setRow_heap _ _ _ _ _ _ (grow_id _ _ _ _ _ _)
    rw [hW8]
    have b68:Below w6.heap.size w6 W8:=bthen b67 b67.size b78
    have b8:=b6.trans (b68.mono b6.size)
    have M8:=M6.below b68 M6.lt
    have D8:=D7.below b78
    have O8:=D6.below b68
    have own8:=zAf own6 b68
    have sz8:W2.heap.size≤W8.heap.size:=Nat.le_trans sz6 b68.size
    have hel7:es7.length≤es.length+1:=by rw [←hmap,List.length_map] at hpl;exact hpl
    have hap8:=hap.with_ own6 own8 D8 hold
    clear hwi hW8 hmap hold
    cases bf
    ·go_wp2
     go_roundw
     case rel=>exact ⟨k+1,vm,es,ids,by go_num,by omega,by omega,by omega,hids,M8,O8,own8,hap,b8,sz8⟩
     case measure=>simp [intOf];omega
    ·have l9:=zAP g9
     have hno:=D8.blk_ne M8 (by decide) (by decide) (by decide)
     have D9:=D8.row hno #[vm7]
     have own9:=own_row own8 hlt1 #[vm7]
     have hne10:w7.heap.size+1≠W1.heap.size:=by have:=M6.lt;have:=b67.size;omega
     have g109:Blk (W8.setRow W1.heap.size #[vm7]) (w7.heap.size+1) 46 (u8s pn):=zDv g10 hne10 _
     have l10:=zAb (zAi g109) hpi
     have M9:Blk (W8.setRow W1.heap.size #[vm7]) W1.heap.size 28 #[vm7]:=setRow_heap _ _ _ _ _ _ M8
     have b9:=zAa b8 (Nat.le_refl _) #[vm7]
     have sz9:W2.heap.size≤(W8.setRow W1.heap.size #[vm7]).heap.size:=by simpa using sz8
     have hid32:(u8s pn).size=32:=hp32
     have hidl:(u8s pn).size=1*32:=hp32
     have hid1 : ∀ u∈(u8s pn).toList,u.oneCell'=true:=idC_one pn
     have hids2:Hid (∀ z∈ids++[pn],z.length=32):=Lib.hid fun z hz=>by
      rcases List.mem_append.1 hz with hz | hz
      ·exact hids.out z hz
      ·rw [List.mem_singleton.1 hz];exact hpi
     have hrow:Hid (rowsOf idC (ids++[pn])=rowsOf idC ids++(u8s pn).toList):=Lib.hid (by rw [zAo,zAx];rfl)
     have hkl:ids.length+1≤9223372036854775807:=by omega
     have hm2:(ids.length+1)*32≤140737488355328:=by omega
     have hone7:(#[vm7]:Array Value).all (·.oneCell')=true:=by simp [D7.one]
     have hdM:=zAs own9 M9 (by decide)
     have hszS1:(Tryz.prog.info? 28).map (·.size)=some (#[vm7]:Array Value).size:=szDSt
     clear hpi g10 g109 g9 hp32
     generalize u8s pn=XC at *
     go_wp2_with (first
      | (refine wpList_store_row rfl 28 (.tmp 4) (.tmp 39) rfl W1.heap.size #[vm7] rfl rfl _ _ M8 hszS1 rfl hone7 ?_)
      | ((with_reducible refine zAC (.tmp 41) Tryz.idsTy XC hid32 (by omega) ?_ ?_);rfl)
      | (at_builtin
         (with_reducible refine zAp (.tmp 40) (.tmp 42) 1 _ Tryz.idsTy own9 XC hidl hid1 hkl hm2 sz9 ?_ ?_ ?_);rfl;rfl
         intro v10 w10 hv10 hb10 hg10 hn10
         have b10:=b9.trans (hb10.mono (Nat.le_of_lt hlt1))
         have M10:=Blk.grown M9 hg10 hdM
         have D10:=D9.grown hg10 (fun k hk=>hap8 k hk)
         have hap10:=(Apart.newer hap8 D9 hn10)
         have hap10b:Apart v10 vm7 es7:=hap10
         have sz10:W2.heap.size≤w10.heap.size:=Nat.le_trans sz9 hg10.size
         clear hg10 hn10 hap10))
     go_roundw
     case rel=>exact ⟨k+1,vm7,es7,ids++[pn],by go_num,by omega,by omega,by simp;omega,hids2,M10,D10,by unfold OwnIds;rw [List.length_append,hrow.out];exact hv10,hap10b,b10,sz10⟩
     case measure=>simp [intOf];omega
  ·have hki : ¬ (k:Int)<(l.length:Int):=by omega
   have lM:=zAP hM
   have rr:=r1.below hbel hlt0
   have hno:=hD.blk_ne rr (by decide) (by decide) (by decide)
   have hbr:Below w.heap.size w wr:=bthen b1 b1.size hbel
   have hszS1:(Tryz.prog.info? 28).map (·.size)=some (#[vm]:Array Value).size:=szDSt
   have hone7:(#[vm]:Array Value).all (·.oneCell')=true:=by simp [hD.one]
   clear hat heach hsm
   go_wp2_with (first
    | (refine wpList_store_row rfl 28 (.tmp 2) (.tmp 44) rfl w.heap.size #[vm] rfl rfl _ _ rr hszS1 rfl hone7 ?_))
   refine bodyPost_ret (zAe rfl _ _ w.heap.size _ _ _ _ rfl (setRow_heap _ _ _ _ _ _ rr) Tryz.underlying28 rfl hszS1) rfl ⟨⟨vm,es,_,ids,rfl,hD.row hno _,by omega,zE4 (own_row hown (Nat.lt_trans hlt0 hlt1) _) (Nat.le_of_lt (Nat.lt_trans hlt0 hlt1)),by omega,hids.out,by exact hap⟩,zAa hbr (Nat.le_refl _) _⟩
end
section
attribute [local go_sem ↓] ldvI_eq ldvS_eq
theorem built_one (c:UInt8):Tryz.prog.built 46 [(0, .int .u8 c.toNat)]=some (u8s (c::List.replicate 31 0)):=by kernel_rfl
def IdsR (w:World) (n:Nat) (e:Ending) (w':World):Prop := ∃ v r,e = .returned v∧OwnIds w' w.heap.size v r∧(∀ x∈r,x.length=32)∧r.length=n
set_option maxRecDepth 100000 in
set_option maxHeartbeats 4000000 in
theorem ids12_calls (all:List Txt) (haok : ∀ x∈all,x.length=32) (hal:all.length≤1000) (va:Value) (w:World) (hva:Ids w va all) (l:Txt) (hl1000:l.length≤1000) (vl:Value) (hvl:SliceAt w 1 byC vl l) :
 Calls Tryz.prog 8 #[va,vl] w fun e w'=>IdsR w l.length e w'∧Below w.heap.size w w':=by
 obtain ⟨A,cap,rfl,hcap1,hcap2,hat⟩:=hvl
 obtain ⟨Aa,ca,rfl,hca1,hca2,hata⟩:=hva
 go_enter Tryz.func8,Tryz.ntmps8
 go_wp2_with (fail)
 go_loopg [5,6] l.length (fun f vo vi wr => ∃ (k:Nat) (acc:List Txt),vi = .int .i64 k∧k+f=l.length∧OwnIds wr w.heap.size vo acc∧Hid ((∀ x∈acc,x.length=32)∧acc.length=k)∧Below w.heap.size w wr)
 case atStart=>exact ⟨0,[],rfl,by omega,World.ownsRow_nil _ _ _ _,Lib.hid ⟨fun x hx=>by simp at hx,rfl⟩,Below.refl _ _⟩
 case round=>
  obtain ⟨k,acc,rfl,hkf,hown,hacc,hbel⟩:=hrel
  have hbs:=hbel.size
  obtain ⟨Ao,co,rfl⟩:=zAm hown
  cases gk with
  | zero=>
    have hki : ¬ (k:Int)<(l.length:Int):=by omega
    have hke:Hid (k=l.length):=Lib.hid (by omega)
    clear hat hata
    go_wp2_with (fail)
    go_ret
    exact ⟨⟨_,acc,rfl,hown,hacc.out.1,hacc.out.2.trans hke.out⟩,hbel⟩
  | succ f=>
    have hki:(k:Int)<(l.length:Int):=by omega
    have hkl:k<l.length:=by omega
    obtain ⟨ga,oa,rfl,hga,hca⟩:=hat (by omega)
    obtain ⟨c,hc⟩ : ∃ c,l[k]?=some c:=⟨_,List.getElem?_eq_getElem (by omega)⟩
    have hcc:wr.cell? ⟨ga,oa+k,none⟩=some (.int .u8 c.toNat):=by
     have:=zAc (hca k c hc) hga hbel 0 _ rfl
     rwa [Nat.add_zero,Nat.mul_one] at this
    have hc256:c.toNat<256:=c.toNat_lt
    have hwc:IntKind.i64.wrap ((c.toNat:Nat):Int)=(c.toNat:Int):=IntWalk.i64_in _ (by omega)
    have hal2:acc.length≤1000:=by have:=hacc.out.2;omega
    have hAk:acc.length+1≤9223372036854775807:=by omega
    have hAb:(acc.length+1)*32≤140737488355328:=by omega
    have hrb:=built_one c
    have key : ∀ x:Txt,x.length=32→Hid ((x.length=32∧(u8s x).size=32∧(u8s x).size=1*32 ∧ ∀ u∈(u8s x).toList,u.oneCell'=true)∧(acc++[x]).length=acc.length+1∧rowsOf idC (acc++[x])=rowsOf idC acc++(u8s x).toList∧((∀ z∈acc++[x],z.length=32)∧(acc++[x]).length=k+1)):=fun x hx=>Lib.hid (by
     have h32:(u8s x).size=32:=by rw [zAj,hx]
     have hlen:(acc++[x]).length=acc.length+1:=by rw [List.length_append];rfl
     exact ⟨⟨hx,h32,h32,idC_one x⟩,hlen,by rw [zAo,zAx];rfl,fun z hz=>(List.mem_append.1 hz).elim (hacc.out.1 z) fun h=>by rw [List.mem_singleton.1 h];exact hx,by rw [hlen,hacc.out.2]⟩)
    clear hca hat hc
    have hx0:(c::List.replicate 31 (0:UInt8)).length=32:=by simp
    by_cases h0:0<all.length
    ·have h0i : ¬ (all.length:Int)=0:=by omega
     have h0b:((all.length:Int)==0)=false:=by simpa using h0i
     by_cases h200:200≤c.toNat
     ·have h2i:(200:Int)≤(c.toNat:Int):=by omega
      obtain ⟨x,hx⟩ : ∃ x,c::List.replicate 31 (0:UInt8)=x:=⟨_,rfl⟩
      rw [hx] at hrb hx0
      have hk0:=key x hx0
      obtain ⟨⟨_,hx32,hx132,hx1⟩,_⟩:=hk0.out
      clear key hx hata h0
      go_wp2_with (first
       | ((with_reducible refine zAL hrb ?_ ?_);rfl)
       | ((with_reducible refine zAC (.tmp 29) Tryz.idsTy (u8s x) hx32 (by omega) ?_ ?_);rfl)
       | ((with_reducible refine zAp (.tmp 24) (.tmp 30) 1 _ Tryz.idsTy hown (u8s x) hx132 hx1 hAk hAb hbs ?_ ?_ ?_);rfl;rfl
          intro v8 w8 ho8 hb8 hg8 hn8))
      have ho9:OwnIds w8 w.heap.size v8 (acc++[x]):=by unfold OwnIds;rw [hk0.out.2.1,hk0.out.2.2.1];exact ho8
      have hacc9:=Lib.hid hk0.out.2.2.2
      clear hown hacc hk0 ho8
      go_roundg f
      case rel=>exact ⟨k+1,acc++[x],by go_num,by omega,ho9,hacc9,hbel.trans hb8⟩
      case measure=>omega
     ·have h2i : ¬ (200:Int)≤(c.toNat:Int):=by omega
      obtain ⟨m,hm⟩ : ∃ m:Nat,(all.length:Int)-1-(c.toNat:Int)%(all.length:Int)=(m:Int):=by
       refine Int.eq_ofNat_of_zero_le ?_
       have:=Int.emod_lt_of_pos (c.toNat:Int) (show (0:Int)<(all.length:Int) by omega)
       omega
      have hmn:=Int.emod_nonneg (c.toNat:Int) h0i
      have hml:m<all.length:=by omega
      obtain ⟨g3,o3,rfl,hg3,hc3⟩:=hata h0
      obtain ⟨x,hx⟩ : ∃ x,all[m]?=some x:=⟨_,List.getElem?_eq_getElem hml⟩
      have hxi:=haok x (List.mem_of_getElem? hx)
      have hlx:(ldvI ⟨g3,o3+m*32,none⟩).run Tryz.prog wr = .ok (.agg (u8s x)) wr:=zAb (show World.rangeAt wr g3 (o3+m*32) (u8s x).toList from zAc (hc3 m x hx) hg3 hbel) hxi
      have hmi:(m:Int)<(all.length:Int):=by omega
      have hLi:(0:Int)<(all.length:Int):=by omega
      have hk0:=key x hxi
      obtain ⟨⟨_,hx32,hx132,hx1⟩,_⟩:=hk0.out
      clear key hx hc3 hata hrb hx0
      generalize all.length=LN at *
      have hw1:IntKind.i64.wrap ((LN:Int)-1)=(LN:Int)-1:=IntWalk.i64_in _ (by omega)
      have hw2:IntKind.i64.wrap ((c.toNat:Int)%(LN:Int))=(c.toNat:Int)%(LN:Int):=IntWalk.i64_in _ (by have:=Int.emod_lt_of_pos (c.toNat:Int) hLi;omega)
      have hw3:IntKind.i64.wrap ((m:Int))=(m:Int):=IntWalk.i64_in _ (by omega)
      go_wp2_with (first
       | ((with_reducible refine zAC (.tmp 47) Tryz.idsTy (u8s x) hx32 (by omega) ?_ ?_);rfl)
       | ((with_reducible refine zAp (.tmp 32) (.tmp 48) 1 _ Tryz.idsTy hown (u8s x) hx132 hx1 hAk hAb hbs ?_ ?_ ?_);rfl;rfl
          intro v8 w8 ho8 hb8 hg8 hn8))
      have ho9:OwnIds w8 w.heap.size v8 (acc++[x]):=by unfold OwnIds;rw [hk0.out.2.1,hk0.out.2.2.1];exact ho8
      have hacc9:=Lib.hid hk0.out.2.2.2
      clear hown hacc hk0 ho8 hlx hm hw1 hw2 hw3
      go_roundg f
      case rel=>exact ⟨k+1,acc++[x],by go_num,by omega,ho9,hacc9,hbel.trans hb8⟩
      case measure=>omega
    ·obtain rfl:all=[]:=List.length_eq_zero_iff.1 (by omega)
     obtain ⟨x,hx⟩ : ∃ x,c::List.replicate 31 (0:UInt8)=x:=⟨_,rfl⟩
     rw [hx] at hrb hx0
     have hk0:=key x hx0
     obtain ⟨⟨_,hx32,hx132,hx1⟩,_⟩:=hk0.out
     clear key hx hata h0
     go_wp2_with (first
      | ((with_reducible refine zAL hrb ?_ ?_);rfl)
      | ((with_reducible refine zAC (.tmp 29) Tryz.idsTy (u8s x) hx32 (by omega) ?_ ?_);rfl)
      | ((with_reducible refine zAp (.tmp 24) (.tmp 30) 1 _ Tryz.idsTy hown (u8s x) hx132 hx1 hAk hAb hbs ?_ ?_ ?_);rfl;rfl
         intro v8 w8 ho8 hb8 hg8 hn8))
     have ho9:OwnIds w8 w.heap.size v8 (acc++[x]):=by unfold OwnIds;rw [hk0.out.2.1,hk0.out.2.2.1];exact ho8
     have hacc9:=Lib.hid hk0.out.2.2.2
     clear hown hacc hk0 ho8
     go_roundg f
     case rel=>exact ⟨k+1,acc++[x],by go_num,by omega,ho9,hacc9,hbel.trans hb8⟩
     case measure=>omega
def FewH (h:HisL):Prop:=(h.seeds.length≤24 ∧ ∀ x∈h.seeds,x.refs.length≤10∧x.text.length≤300)∧h.out.length≤10∧h.frm.length≤10∧h.cut.length≤10
set_option maxRecDepth 100000 in
set_option maxHeartbeats 4000000 in
theorem named_calls (h:HisL) (hf:FewH h) (vs vo vf vc:Value) (w:World) (hh:HisOk w vs vo vf vc h) :
 Calls Tryz.prog 9 #[.agg #[vs,vo,vf,vc]] w fun e w'=>(∃ v r,e = .returned v∧OwnIds w' w.heap.size v r∧(∀ x∈r,x.length=32)∧r.length≤24)∧Below w.heap.size w w':=by
 obtain ⟨W1,hW1⟩ : ∃ W1,w.alloc (.cells #[vs,vo,vf,vc] 25)=W1:=⟨_,rfl⟩
 have s1:Blk W1 w.heap.size 25 #[vs,vo,vf,vc]:=by rw [←hW1];exact Blk.new _ _ _
 have b1:Below w.heap.size w W1:=by rw [←hW1];exact (Below.refl _ _).alloc (Nat.le_refl _) _
 have c0:W1.cell? ⟨w.heap.size,0,none⟩=some vs:=s1.cell 0
 have hgr:=Lib.hid (grow_calls h.seeds (Nat.le_trans hf.1.1 (by omega)) hf.1.2 vs W1 (hh.seeds.below b1))
 have hsl:=hf.1.1
 clear hh hf s1
 go_enter Tryz.func9,Tryz.ntmps9
 go_wp2_with (first
  | ((with_reducible refine hgr.out.mono ?_);rintro e w2 ⟨⟨vm,es,vi,ids,rfl,hD,hel,hoi,hil,hok,hap⟩,hb2⟩
     have hm1:(#[vm]:Array Value).size=1:=rfl
     have hm2:(#[vm]:Array Value).all (·.oneCell')=true:=by simp [hD.one]
     obtain ⟨Ai,ci,rfl⟩:=zAm hoi)
  | ((with_reducible refine lit_new 28 (.tmp 3) (.tmp 9) #[vm] 1 szDSt hm1 hm2 _ ?_ ?_ ?_ ?_)
     ·first | exact hm1 | rfl
     ·rfl
     ·rfl
     intro W3 hb3 hbl3))
 go_ret
 exact ⟨⟨_,ids,rfl,zAw (zAf hoi hbl3) b1.size,hok,Nat.le_trans hil hsl⟩,bthen b1 b1.size (bthen hb2 hb2.size hbl3)⟩
end
theorem zD8 {P:Program} {w:World} {t u e e':TypeId} {i:TypeInfo} (ht:P.underlying t=some (.slice e)) (hu:P.underlying u=some (.slice e')) (hi:P.info? e=some i) (ty:TypeId) (A:Option Addr) (n c:Nat) (v2:Value) :
 (Builtin.append_ #[t,u] ty #[.slice A n c,v2]).run P w=(Builtin.append_ #[t,t] ty #[.slice A n c,v2]).run P w:=by
 simp [Builtin.append_,run_underlying ht,run_underlying hu,sizeOf,typeInfo,hi]
theorem lit_append_at2 {P:Program} {ops:Array Oper} {rest:List Oper} {a:Act} {w:World} {Q:Exit→Act→World→Prop} {d:Option Tmp} {rt:TypeId} {pos:String} {af:Array Edge}
 (s x:Operand) (c:Nat) (t u:TypeId) {e e':TypeId} {z:Value} {size bytes:Nat} (hT:SliceTy P t e z size bytes) (hu:P.underlying u=some (.slice e')) {base n:Nat} {v:Value} {xs:List Value} (hown:w.ownsRow base e size v n xs)
 {k m:Nat} {t':TypeId} {cs:Array Value} (hcs:Blk w k t' cs) (hl:cs.size=m*size) (h1 : ∀ u∈cs.toList,u.oneCell'=true)
 (h63:n+m≤9223372036854775807) (hbytes:(n+m)*bytes≤140737488355328) (hbase:base≤w.heap.size) (hs:a.eval s=v) (hx:a.eval x = .slice (some ⟨k,0,none⟩) m c)
 (h : ∀ v' w',w'.ownsRow base e size v' (n+m) (xs++cs.toList)→w.grownBy w' v.ownBlock→Newer w v v'→wpList P ops Q rest (a.put d v') w') :
 wpList P ops Q ({ dst:=d,op := .call { callee := .builtin .append,args := #[s,x],argTypes := #[t,u] },type:=rt,pos:=pos,after:=af,guard:=none }::rest) a w:=
 wpList_plain rfl fun _ hK=>by
  obtain ⟨i,i1,i2,i3,i4⟩:=hT.hi
  obtain ⟨v',w',hrun,hown',hg,_,hat⟩:=run_append_own_at (P:=P) w base t rt e i z size bytes hT.ht i1 i2 i3 i4 hT.hzs hT.hsz v n xs hown ⟨k,0,none⟩ m c cs.toList (by simpa using hl) (zBX hcs) h1 (by simp only [maxLen];omega) hbytes hbase
  obtain ⟨A,c',rfl⟩:=zAm hown
  rw [←zD8 hT.ht hu i1] at hrun
  unfold Oper.wp execOp
  simp only [resolve,invoke,builtin,Sem.run_bind,Sem.run_pure,Result.andThen_ok,List.map_toArray,List.map_cons,List.map_nil,hs,hx,hrun]
  refine hK _ _ (h v' w' hown' hg ?_)
  rcases hat with hat | hat
  ·exact .inl hat
  ·refine .inr fun k hk=>?_
   rw [hat] at hk
   injection hk with hk
   omega
theorem Tryz.setTy : SliceTy Tryz.prog 87 46 zGid 32 32:=⟨Tryz.underlying87,info_parts (by kernel_rfl),by kernel_rfl,by omega⟩
theorem zER (w:World) (g vb o:Nat) (cur cv:Array Value) (e ev:TypeId) (hb:Blk w g e cur) (hv:Blk w vb ev cv) (hc:0<cur.size) (hne:vb≠g) (m vc lb cb:Nat) :
 (callFunc 117 #[.slice (some ⟨vb,0,none⟩) m vc, .slice (some ⟨g,o,none⟩) lb cb]).run Tryz.prog w = .ok (.value (.bool false)) w:=by
 have hsz : ∀ w,(Go.sizeOf 46).run Tryz.prog w = .ok 32 w:=fun w=>by
  obtain ⟨i,h1,_,h3,_⟩:=Tryz.setTy.hi
  simp [sizeOf,typeInfo,h1,h3]
 rw [run_callFunc_extern Tryz.func117 (by kernel_rfl) (by kernel_rfl) (by kernel_rfl) (e:=Extern.SlicesOverlaps.overlaps #[34,34] #[4]) (by kernel_rfl),
  Lib.run_overlaps_apart w 34 4 46 Tryz.underlying34 32 hsz ⟨vb,0,none⟩ ⟨g,o,none⟩ m vc lb cb hne ev e cv.size cur.size (by unfold World.shape?;rw [show w.heap[vb]?=_ from hv]) (by unfold World.shape?;rw [show w.heap[g]?=_ from hb]) (by omega) (hv.frozen _) (hv.frozen _)]
 rfl
set_option maxRecDepth 100000 in
set_option maxHeartbeats 2000000 in
theorem insertSet_room (l:List Txt) (hok:GidsOk l) (w:World) (g cap i vb:Nat) (x:Txt) (hx:GidOk x) (hrow:Row w g 46 32 idC cap l) (hi:i<l.length) (hcap:l.length+1≤cap)
 (hv:Blk w vb 46 (idC x).toArray) (hne:vb≠g) :
 Calls Tryz.prog 90 #[.slice (some ⟨g,0,none⟩) l.length cap, .int .i64 i, .slice (some ⟨vb,0,none⟩) 1 1] w fun e w'=>
  e = .returned (.slice (some ⟨g,0,none⟩) (l.length+1) cap)∧Row w' g 46 32 idC cap (l.take i++[x]++l.drop i)∧w.grownBy w' (some g):=by
 have h63:=hrow.top63
 have hdl:(l.drop i).length=l.length-i:=List.length_drop
 have hdk : ∀ y∈l.drop i,(idC y).length=32:=fun y hy=>gidK hok y (List.mem_of_mem_drop hy)
 have hbi:(0:Int)≤(i:Int)+1:=by omega
 have htn:((i:Int)+1).toNat=i+1:=by omega
 have hz2 : ¬ ((i:Int)=(l.length:Int)):=by omega
 have hil:(i:Int)≤(l.length:Int):=by omega
 have hil1:(i:Int)+1≤(l.length:Int)+1:=by omega
 have hil2:(i:Int)≤(l.length:Int)+1:=by omega
 have mixed:Tryz.prog.follows Departure.mixedOrders=true:=by kernel_rfl
 have hci : ¬ (cap=i):=by omega
 have hci1 : ¬ (cap=i+1):=by omega
 have hnc : ¬ ((cap:Int)<(l.length:Int)+1):=by omega
 have hcn:(l.length:Int)+1≤(cap:Int):=by omega
 have hw1:IntKind.i64.wrap ((i:Int)+1)=(i:Int)+1:=by rw [IntKind.wrap_i64];omega
 have hw2:IntKind.i64.wrap ((l.length:Int)+1)=(l.length:Int)+1:=by rw [IntKind.wrap_i64];omega
 have htl:((l.length:Int)+1).toNat=l.length+1:=by omega
 have hov : ∀ lb cb o,(callFunc 117 #[.slice (some ⟨vb,0,none⟩) 1 1, .slice (some ⟨g,o,none⟩) lb cb]).run Tryz.prog w = .ok (.value (.bool false)) w:=fun lb cb o=>by
  obtain ⟨cur,hb,hs⟩:=hrow.blk
  exact zER w g vb o cur _ _ _ hb hv (by rw [hs];omega) hne 1 1 lb cb
 have hput:=hrow.drew.put (gidK hok) hdk (i:=i+1) (by omega) (by omega)
 have hcp1 : ∀ ty dc sc,(Builtin.copy_ #[87,87] ty #[.slice (some ⟨g,(i+1)*32,none⟩) (l.length-i) dc, .slice (some ⟨g,i*32,none⟩) (l.length+1-i) sc]).run Tryz.prog w.drew = .ok (goInt ((l.drop i).length:Nat)) (w.drew.setCells g ((i+1)*32) (rowsOf idC (l.drop i))):=fun ty dc sc=>
  zAH w.drew _ _ ty 46 g ((i+1)*32) _ dc ⟨g,i*32,none⟩ _ sc _ _ Tryz.underlying87 szGid (by rw [hdl];simp only [Nat.min_def];split<;>omega) (zAn hdk)
   (zAE ((hrow.drew).range_from (gidK hok) i)) ((hrow.drew).there (by rw [zAn hdk,←Nat.add_mul];exact Nat.mul_le_mul_right _ (by omega))) (gidOne _)
 obtain ⟨W1,hW1⟩ : ∃ W1,W1=w.drew.setCells g ((i+1)*32) (rowsOf idC (l.drop i)):=⟨_,rfl⟩
 have hbel1:w.grownBy W1 (some g):=by rw [hW1];exact zBE (zEo (zDq w _)) _ _
 rw [←hW1] at hcp1 hput
 have hv1:Blk W1 vb 46 (idC x).toArray:=by
  rw [hW1]
  exact hv.drew.setCells_far hne _ _ _
 have hs2:GidsOk (l.take (i+1)++l.drop i++l.drop (i+1+(l.drop i).length)):=by
  intro y hy
  simp only [List.mem_append] at hy
  rcases hy with (hy | hy) | hy
  ·exact hok y (List.mem_of_mem_take hy)
  ·exact hok y (List.mem_of_mem_drop hy)
  ·exact hok y (List.mem_of_mem_drop hy)
 have hset:=hput.set (gidK hs2) (i:=i) (by simp;omega) (idC_len hx)
 rw [ins_place hi] at hset
 have hcp2 : ∀ ty dc,(Builtin.copy_ #[87,34] ty #[.slice (some ⟨g,i*32,none⟩) (l.length+1-i) dc, .slice (some ⟨vb,0,none⟩) 1 1]).run Tryz.prog W1 = .ok (goInt (1:Nat)) (W1.setCells g (i*32) (idC x)):=fun ty dc=>
  zAH W1 _ _ ty 46 g (i*32) _ dc ⟨vb,0,none⟩ _ 1 _ _ Tryz.underlying87 szGid (by simp only [Nat.min_def];split<;>omega) (by rw [idC_len hx])
   (zAE (zEH hv1)) (hput.there (by rw [idC_len hx];omega)) (idC_one x)
 have hbel2:=zBE hbel1 (i*32) (idC x)
 clear hput hv hv1 hrow hs2 hdk hW1
 go_enter Tryz.func90,Tryz.ntmps90
 go_wp2_with (simp only [hov])
 go_region_law_o (refine zBd rfl _ _ 87 87 rfl (.slice (some ⟨g,(i+1)*32,none⟩) (l.length-i) (cap-(i+1))) (.slice (some ⟨g,i*32,none⟩) (l.length+1-i) (cap-i)) (by simp [Act.eval,Act.put]) (by simp [Act.eval,Act.put]) (hcp1 _ _ _) ?_)
 go_wp2_with (at_builtin;refine zAX _ rfl _ _ 87 34 rfl _ _ rfl rfl (hcp2 _ _) ?_)
 go_ret
 exact ⟨rfl,hset,hbel2⟩
set_option maxRecDepth 100000 in
set_option maxHeartbeats 500000 in
theorem insertSet_grow (l:List Txt) (hok:GidsOk l) (hbig:l.length≤1000000) (w:World) (base g cap i vb:Nat) (x:Txt) (hx:GidOk x) (hbase:base≤w.heap.size) (hrow:Row w g 46 32 idC cap l) (hi:i<l.length) (hcap:cap<l.length+1)
 (hv:Blk w vb 46 (idC x).toArray) :
 Calls Tryz.prog 90 #[.slice (some ⟨g,0,none⟩) l.length cap, .int .i64 i, .slice (some ⟨vb,0,none⟩) 1 1] w fun e w'=>
  ∃ G,e = .returned (.slice (some ⟨w.heap.size,0,none⟩) (l.length+1) G)∧Row w' w.heap.size 46 32 idC G (l.take i++[x]++l.drop i)∧Below base w w':=by
 have h63:=hrow.top63
 have hle:=hrow.le
 have hgw:=hrow.lt
 have hdl:(l.drop i).length=l.length-i:=List.length_drop
 have htkl:(l.take i).length=i:=by simp;omega
 have hdk : ∀ y∈l.drop i,(idC y).length=32:=fun y hy=>gidK hok y (List.mem_of_mem_drop hy)
 have htk : ∀ y∈l.take i,(idC y).length=32:=fun y hy=>gidK hok y (List.mem_of_mem_take hy)
 have hbi:(0:Int)≤(i:Int)+1:=by omega
 have htn:((i:Int)+1).toNat=i+1:=by omega
 have hz2 : ¬ ((i:Int)=(l.length:Int)):=by omega
 have hil:(i:Int)≤(l.length:Int):=by omega
 have hil0:(i:Int)≤(cap:Int):=by omega
 have hil1:(i:Int)+1≤(l.length:Int)+1:=by omega
 have hil2:(i:Int)≤(l.length:Int)+1:=by omega
 have mixed:Tryz.prog.follows Departure.mixedOrders=true:=by kernel_rfl
 have hci : ¬ (cap=i):=by omega
 have hnc:(cap:Int)<(l.length:Int)+1:=by omega
 have hw1:IntKind.i64.wrap ((i:Int)+1)=(i:Int)+1:=by rw [IntKind.wrap_i64];omega
 have hw2:IntKind.i64.wrap ((l.length:Int)+1)=(l.length:Int)+1:=by rw [IntKind.wrap_i64];omega
 have hw3:IntKind.i64.wrap ((l.length:Int)+1-(i:Int))=(l.length:Int)+1-(i:Int):=by rw [IntKind.wrap_i64];omega
 have hkk:(l.length:Int)+1-(i:Int)=((l.length+1-i:Nat):Int):=by omega
 have hik:i+(l.length+1-i)=l.length+1:=by omega
 obtain ⟨i0,hi0,hz0,hzs,hzb⟩:=Tryz.setTy.hi
 have hold:(Builtin.firstCells i0.size i (.slice (some ⟨g,0,none⟩) i cap)).run Tryz.prog w.drew = .ok (rowsOf idC (l.take i)).toArray w.drew:=by
  rw [hzs]
  refine run_firstCells_some w.drew 32 i ⟨g,0,none⟩ i cap _ (by rw [zAn htk,htkl]) (zAE ?_)
  have:=(hrow.cut i).drew.range_from htk 0
  rw [Nat.zero_mul,List.drop_zero] at this
  exact this
 have hrz : ∀ ty,(Builtin.append_ #[87,3] ty #[.slice (some ⟨g,0,none⟩) i cap, .int .i64 ((l.length:Int)+1-(i:Int))]).run Tryz.prog w =
  .ok (.slice (some ⟨w.heap.size,0,none⟩) (l.length+1) (grownCap w (l.length+1) cap 46)) (w.drew.alloc (.cells ((rowsOf idC (l.take i)).toArray++Builtin.zeroCells zGid.cells (l.length+1-i)++Builtin.zeroCells zGid.cells (grownCap w (l.length+1) cap 46-(l.length+1))) 46)):=fun ty=>by
  have h:=Lib.run_append_grow_zeros w 87 3 ty 46 i0 _ .i64 .i64 Tryz.underlying87 Tryz.underlying3 hi0 hz0 (some ⟨g,0,none⟩) i cap (rowsOf idC (l.take i)) hold (l.length+1-i) (by omega) (by omega) (by omega) (by omega) (by rw [hzb];omega) (by rw [hzb,hik];exact growslice_fits hcap (by omega))
  rw [hik] at h
  rw [hkk]
  exact h
 obtain ⟨G,hG⟩ : ∃ G,G=grownCap w (l.length+1) cap 46:=⟨_,rfl⟩
 have hGn:l.length+1≤G:=by rw [hG];exact grownCap_ge w _ _ _
 have hGt:G≤maxLen:=by rw [hG];exact grownCap_le_maxLen w _ cap _ (by unfold maxLen;omega)
 have hG63:G≤9223372036854775807:=by simpa [maxLen] using hGt
 rw [←hG] at hrz
 have hnew:=Row.of_new (s:=l.take i) (enc:=idC) (e:=46) (cap:=G) htk w.drew (Builtin.zeroCells zGid.cells (l.length+1-i)++Builtin.zeroCells zGid.cells (G-(l.length+1))) (by
  rw [htkl,Array.size_append,size_zeroCells,size_zeroCells,zGid_cells];omega) (by rw [htkl];omega) hGt
 rw [←Array.append_assoc] at hnew
 have hbel0:Below base w (w.drew.alloc (.cells ((rowsOf idC (l.take i)).toArray++Builtin.zeroCells zGid.cells (l.length+1-i)++Builtin.zeroCells zGid.cells (G-(l.length+1))) 46)):=(Below.refl _ _).drew.alloc hbase _
 have hoff:Below w.heap.size w (w.drew.alloc (.cells ((rowsOf idC (l.take i)).toArray++Builtin.zeroCells zGid.cells (l.length+1-i)++Builtin.zeroCells zGid.cells (G-(l.length+1))) 46)):=(Below.refl _ _).drew.alloc (Nat.le_refl _) _
 obtain ⟨W1,hW1⟩ : ∃ W1,W1=w.drew.alloc (.cells ((rowsOf idC (l.take i)).toArray++Builtin.zeroCells zGid.cells (l.length+1-i)++Builtin.zeroCells zGid.cells (G-(l.length+1))) 46):=⟨_,rfl⟩
 rw [←hW1] at hrz hnew hbel0 hoff
 clear hW1 hG
 have hold1:=hrow.below hoff
 have hv1:=hv.below hoff hv.lt
 obtain ⟨N,hN⟩ : ∃ N,N=w.heap.size:=⟨_,rfl⟩
 have hgN:g≠N:=by omega
 have hbN:base≤N:=by omega
 have hnew':Row W1 N 46 32 idC G (l.take i):=by rw [hN];exact hnew
 rw [←hN] at hrz ⊢
 clear hnew hoff hold hN
 have hput:=hnew'.put htk (t:=[x]) (fun y hy=>by simp at hy;subst hy;exact idC_len hx) (i:=i) (by omega) (by simp;omega)
 have e1:(l.take i).take i=l.take i:=List.take_of_length_le (by omega)
 have e2:(l.take i).drop (i+[x].length)=[]:=List.drop_of_length_le (by simp;omega)
 rw [zAx,e1,e2,List.append_nil] at hput
 have hcp1 : ∀ ty dc,(Builtin.copy_ #[87,34] ty #[.slice (some ⟨N,i*32,none⟩) (l.length+1-i) dc, .slice (some ⟨vb,0,none⟩) 1 1]).run Tryz.prog W1 = .ok (goInt (1:Nat)) (W1.setCells N (i*32) (idC x)):=fun ty dc=>
  zAH W1 _ _ ty 46 N (i*32) _ dc ⟨vb,0,none⟩ _ 1 _ _ Tryz.underlying87 szGid (by simp only [Nat.min_def];split<;>omega) (by rw [idC_len hx])
   (zAE (zEH hv1)) (hnew'.there (by rw [idC_len hx];omega)) (idC_one x)
 have hbel1:=zAF (idC x) (i*32) w W1 hbel0 hbN
 have hold2:Row (W1.setCells N (i*32) (idC x)) g 46 32 idC cap l:=by
  obtain ⟨cur,hb,hs⟩:=hold1.blk
  exact ⟨⟨cur,hb.setCells_far hgN _ _ _,hs⟩,fun j y hy=>World.rangeAt_setCells_apart (hold1.at_ j y hy) _ _ _ (.inl hgN),hold1.le,hold1.top⟩
 obtain ⟨W2,hW2⟩ : ∃ W2,W2=W1.setCells N (i*32) (idC x):=⟨_,rfl⟩
 rw [←hW2] at hcp1 hput hbel1 hold2
 clear hW2 hold1 hv1 hnew' hbel0 hrow hv
 have hk2 : ∀ y∈l.take i++[x],(idC y).length=32:=by
  intro y hy
  rcases List.mem_append.1 hy with hy | hy
  ·exact htk y hy
  ·simp at hy;subst hy;exact idC_len hx
 have hput2:=hput.drew.put hk2 hdk (i:=i+1) (by simp;omega) (by omega)
 have e3:(l.take i++[x]).take (i+1)=l.take i++[x]:=List.take_of_length_le (by simp;omega)
 have e4:(l.take i++[x]).drop (i+1+(l.drop i).length)=[]:=List.drop_of_length_le (by simp;omega)
 rw [e3,e4,List.append_nil] at hput2
 have hcp2 : ∀ ty dc sc,(Builtin.copy_ #[87,87] ty #[.slice (some ⟨N,(i+1)*32,none⟩) (l.length-i) dc, .slice (some ⟨g,i*32,none⟩) (l.length-i) sc]).run Tryz.prog W2.drew = .ok (goInt ((l.drop i).length:Nat)) (W2.drew.setCells N ((i+1)*32) (rowsOf idC (l.drop i))):=fun ty dc sc=>
  zAH W2.drew _ _ ty 46 N ((i+1)*32) _ dc ⟨g,i*32,none⟩ _ sc _ _ Tryz.underlying87 szGid (by rw [hdl];simp only [Nat.min_def];split<;>omega) (zAn hdk)
   (zAE (hold2.drew.range_from (gidK hok) i)) (hput.drew.there (by rw [zAn hdk,←Nat.add_mul];exact Nat.mul_le_mul_right _ (by omega))) (gidOne _)
 have hbel2:=zAF (rowsOf idC (l.drop i)) ((i+1)*32) w W2.drew hbel1.drew hbN
 obtain ⟨W3,hW3⟩ : ∃ W3,W3=W2.drew.setCells N ((i+1)*32) (rowsOf idC (l.drop i)):=⟨_,rfl⟩
 rw [←hW3] at hcp2 hput2 hbel2
 clear hW3 hput hold2 hk2 hdk htk hbel1 e1 e2 e3 e4 hi0 hz0 hzs hzb hbig hGt hkk hik hdl htkl hgw
 have hGi : ¬ (G=i):=by omega
 have hGim : ¬ (G=i+1):=by omega
 go_enter Tryz.func90,Tryz.ntmps90
 go_wp2_with (first
  | (at_builtin;refine Lib.wpList_append_run _ rfl _ _ _ _ rfl _ _ rfl rfl _ _ (hrz _) ?_)
  | (at_builtin;refine zAX _ rfl _ _ 87 34 rfl _ _ rfl rfl (hcp1 _ _) ?_))
 go_region_law_o (refine zBd rfl _ _ 87 87 rfl (.slice (some ⟨N,(i+1)*32,none⟩) (l.length-i) (G-(i+1))) (.slice (some ⟨g,i*32,none⟩) (l.length-i) (cap-i)) (by simp [Act.eval,Act.put]) (by simp [Act.eval,Act.put]) (hcp2 _ _ _) ?_)
 go_wp2
 go_ret
 exact ⟨G,rfl,hput2,hbel2⟩
theorem gidsOk_ins {l:List Txt} (hok:GidsOk l) (i:Nat) {x:Txt} (hx:GidOk x):GidsOk (l.take i++[x]++l.drop i):=by
 intro y hy
 simp only [List.mem_append,List.mem_singleton] at hy
 rcases hy with (hy | rfl) | hy
 ·exact hok y (List.mem_of_mem_take hy)
 ·exact hx
 ·exact hok y (List.mem_of_mem_drop hy)
set_option maxRecDepth 100000 in
set_option maxHeartbeats 500000 in
theorem insertSet_end (l:List Txt) (hok:GidsOk l) (hbig:l.length≤1000000) (v:Value) (w:World) (base vb:Nat) (x:Txt) (hx:GidOk x) (hbase:base≤w.heap.size) (hown:OwnGids w base v l)
 (hv:Blk w vb 46 (idC x).toArray) :
 Calls Tryz.prog 90 #[v, .int .i64 (l.length:Nat), .slice (some ⟨vb,0,none⟩) 1 1] w fun e w'=>
  ∃ v',e = .returned v'∧OwnGids w' base v' (l++[x])∧w.grownBy w' v.ownBlock∧Newer w v v':=by
 have hcap : ∃ A cap,v = .slice A l.length cap∧l.length≤cap∧cap≤9223372036854775807∧(A=none→l.length=0∧cap=0):=by
  rcases Row.of_own (gidK hok) hown with ⟨rfl,rfl⟩ | ⟨g,cap,rfl,hg,hrow⟩
  ·exact ⟨none,0,rfl,by simp,by omega,fun _=>⟨rfl,rfl⟩⟩
  ·exact ⟨_,cap,rfl,hrow.le,hrow.top63,fun h=>by cases h⟩
 obtain ⟨A,cap,rfl,hc1,hc2,hnil⟩:=hcap
 have hlk:=idC_len hx
 have hone : ∀ u∈(idC x).toArray.toList,u.oneCell'=true:=fun u hu=>idC_one x u (by simpa using hu)
 have h1:l.length+1≤9223372036854775807:=by omega
 have h2:(l.length+1)*32≤140737488355328:=by omega
 have hlen:l.length≤9223372036854775807:=by omega
 clear hbig
 go_enter Tryz.func90,Tryz.ntmps90
 go_wp2_with (first
  | (at_builtin
     (with_reducible refine lit_append_at2 (.tmp 23) (.tmp 24) 1 _ _ Tryz.setTy Tryz.underlying34 hown hv (by rw [List.size_toArray,hlk]) hone h1 h2 hbase ?_ ?_ ?_);rfl;rfl
     intro v' w' hown3 hg3 hnw3))
 all_goals
  go_ret
  have hown4:OwnGids w' base v' (l++[x]):=by
   unfold OwnGids
   rw [List.length_append,List.length_singleton,zAo,zAx]
   exact hown3
  first
   | exact ⟨_,rfl,hown4,hg3,hnw3⟩
   | exact ⟨_,rfl,hown4,by cases A<;>exact hg3,by cases A<;>exact hnw3⟩
theorem insertSet_calls (l:List Txt) (hok:GidsOk l) (hbig:l.length≤1000000) (v:Value) (w:World) (base i vb:Nat) (x:Txt) (hx:GidOk x) (hbase:base≤w.heap.size) (hown:OwnGids w base v l) (hi:i≤l.length)
 (hv:Blk w vb 46 (idC x).toArray) (hne:v.ownBlock≠some vb) :
 Calls Tryz.prog 90 #[v, .int .i64 i, .slice (some ⟨vb,0,none⟩) 1 1] w fun e w'=>
  ∃ v',e = .returned v'∧OwnGids w' base v' (l.take i++[x]++l.drop i)∧w.grownBy w' v.ownBlock∧Newer w v v':=by
 rcases Nat.lt_or_ge i l.length with hlt | hge
 ·rcases Row.of_own (gidK hok) hown with ⟨rfl,rfl⟩ | ⟨g,cap,rfl,hg,hrow⟩
  ·simp at hlt
  have hlen:l.length+1=(l.take i++[x]++l.drop i).length:=by simp;omega
  by_cases hcap:l.length+1≤cap
  ·refine (insertSet_room l hok w g cap i vb x hx hrow hlt hcap hv (fun e=>hne (by rw [e];rfl))).mono ?_
   rintro e w' ⟨rfl,h1,h2⟩
   exact ⟨_,rfl,OwnGids.of_row (gidsOk_ins hok i hx) h1 hg hlen,h2, .inl rfl⟩
  ·refine (insertSet_grow l hok hbig w w.heap.size g cap i vb x hx (Nat.le_refl _) hrow hlt (by omega) hv).mono ?_
   rintro e w' ⟨G,rfl,h1,h2⟩
   exact ⟨_,rfl,OwnGids.of_row (gidsOk_ins hok i hx) h1 hbase hlen,zCi h2 _, .inr fun k hk=>by simp only [Value.ownBlock,Option.some.injEq] at hk;omega⟩
 ·obtain rfl:i=l.length:=by omega
  rw [List.take_length,List.drop_length,List.append_nil]
  exact insertSet_end l hok hbig v w base vb x hx hbase hown hv
section
attribute [local go_sem ↓] ldvI_eq
theorem zBL {w0 w:World} {f:FuncId} {args:Array Value} {v:Value} (hW:Below w0.heap.size w0 w) (h:Calls Tryz.prog f args w fun e w'=>e = .returned v∧Below w.heap.size w w') :
 Calls Tryz.prog f args w fun e w'=>e = .returned v∧Below w0.heap.size w0 w':=h.mono fun _ _ ⟨he,hb⟩=>⟨he,bthen hW hW.size hb⟩
set_option maxRecDepth 100000 in
set_option maxHeartbeats 4000000 in
theorem bsfSet_calls (l:List Txt) (hok:GidsOk l) (hbig:l.length≤1000000) (v:Value) (w:World) (hv:Gids w v l) (f:FuncId) (hf : ∀ (a:Array Value) (W:World),(callFunc f a).run Tryz.prog W = .ok (.enter f a) W) (n:List UInt8) (hn:n.length=32) (cmp:Txt→Int)
 (hcl : ∀ (W:World) (x:Txt),x∈l→Below w.heap.size w W→Calls Tryz.prog f #[.agg (idC x).toArray, .agg (u8s n)] W fun e w'=>e = .returned (.int .i64 (cmp x))∧Below W.heap.size W w')
 (p:Nat) (hp:p≤l.length) (hcmp : ∀ i x,l[i]?=some x→(cmp x<0↔i<p)) :
 Calls Tryz.prog 59 #[v, .agg (u8s n), .func (.func f) #[] #[]] w fun e w'=>
  e = .returned (.tuple #[.int .i64 p, .bool (hitAt cmp l p)])∧Below w.heap.size w w':=by
 obtain ⟨A,cap,rfl,hcap1,hcap2,hat⟩:=hv
 have hcmp:=Lib.hid hcmp
 obtain ⟨b,hb⟩ : ∃ b,Hid (b=hitAt cmp l p):=⟨_,Lib.hid rfl⟩
 rw [←hb.out]
 obtain ⟨W1,hW1⟩ : ∃ W1,w.alloc (.cells (u8s n) 46)=W1:=⟨_,rfl⟩
 have hn1:Blk W1 w.heap.size 46 (u8s n):=by rw [←hW1];exact Blk.new _ _ _
 have bW1:Below w.heap.size w W1:=by rw [←hW1];exact (Below.refl _ _).alloc (Nat.le_refl _) _
 have hsI:(Tryz.prog.info? 46).map (·.size)=some (u8s n).toList.length:=by rw [u8s_len,hn];exact sz32
 obtain ⟨NC,hNC⟩ : ∃ NC,u8s n=NC:=⟨_,rfl⟩
 rw [hNC] at hW1 hn1 hsI hcl ⊢
 clear hNC
 go_enter Tryz.func59,Tryz.ntmps59
 go_wp2
 go_loopw [9,10] (fun vi vj wr => ∃ lo hi:Nat,vi = .int .i64 lo∧vj = .int .i64 hi∧lo≤p∧p≤hi∧hi≤l.length∧Below W1.heap.size W1 wr) (fun vi vj _=>(intOf vj).toNat-(intOf vi).toNat)
 case atStart=>exact ⟨0,l.length,rfl,rfl,by omega,hp,by omega,Below.refl _ _⟩
 case round=>
  obtain ⟨lo,hi,rfl,rfl,hlo,hhi,hle,hbel⟩:=hrel
  clear hW1
  by_cases hlt:lo<hi
  ·have hli:(lo:Int)<(hi:Int):=by omega
   obtain ⟨m,hm⟩ : ∃ m:Nat,Hid (m=(lo+hi) / 2):=⟨_,Lib.hid rfl⟩
   have hm2:((lo:Int)+(hi:Int)) / 2=(m:Int):=by rw [hm.out];omega
   have hml:m<l.length:=by rw [hm.out];omega
   have hmi:(m:Int)<(l.length:Int):=by omega
   have hmlo:lo≤m:=by rw [hm.out];omega
   have hmhi:m<hi:=by rw [hm.out];omega
   obtain ⟨g,o,rfl,hg,hcell⟩:=hat (by omega)
   obtain ⟨x,hx⟩ : ∃ x,l[m]?=some x:=⟨_,List.getElem?_eq_getElem hml⟩
   have hxm:=List.mem_of_getElem? hx
   have hxok:=hok x hxm
   have hxr:=hcell m x hx
   have hc2:=fun W hb=>hcl W x hxm hb
   have hd:=hcmp.out m x hx
   clear hx hcell hat hcl
   go_wp2
   refine zAd (C:=fun W=>Below W1.heap.size W1 W) (by kernel_rfl) (by kernel_rfl) hbel.drew ?_
   repeat
    first
     | ((with_reducible refine zAl ?_ ?_)
        ·(go_simp;done)
        apply Exists.intro
        refine ⟨fun W hW=>?_,?_⟩
        ·have hb0:=bthen bW1 bW1.size hW
         have q0:=run_ldvGI (zAc hxr hg hb0) hxok
         have q1:(ldvI ⟨w.heap.size,0,none⟩).run Tryz.prog W = .ok (.agg NC) W:=by
          have:=run_loadVar_mid (P:=Tryz.prog) W w.heap.size 0 46 NC.toList _ (zAi (hn1.below hW hn1.lt)) Tryz.underlying46 rfl hsI
          rwa [Array.toArray_toList] at this
         have hkeep:=zBL hW (hc2 W hb0)
         go_simp
         first
          | rfl
          | (with_reducible exact hkeep)
        simp only [Act.put,zA,zB,zC])
     | ((with_reducible refine zAh ?_ ?_)
        ·(first | rfl | (go_simp;done))
        simp only [Act.put,zA,zB,zC])
   with_reducible refine wpQuiet_nil ?_
   intro w5 hW5
   by_cases hneg:cmp x<0
   ·have hmp:m<p:=hd.1 hneg
    clear hd
    go_wp2
    go_roundw
    case rel=>exact ⟨m+1,hi,by go_num,rfl,by omega,hhi,hle,hW5⟩
    case measure=>simp [intOf];omega
   ·have hmp : ¬ m<p:=fun h=>hneg (hd.2 h)
    clear hd
    go_wp2
    go_roundw
    case rel=>exact ⟨lo,m,rfl,by go_num,hlo,by omega,by omega,hW5⟩
    case measure=>simp [intOf];omega
  ·obtain rfl:lo=p:=by omega
   obtain rfl:hi=lo:=by omega
   by_cases hlp:hi<l.length
   ·have hli:(hi:Int)<(l.length:Int):=by omega
    obtain ⟨g,o,rfl,hg,hcell⟩:=hat (by omega)
    obtain ⟨x,hx⟩ : ∃ x,l[hi]?=some x:=⟨_,List.getElem?_eq_getElem hlp⟩
    have hxm:=List.mem_of_getElem? hx
    have hxok:=hok x hxm
    have hxr:=hcell hi x hx
    have hc2:=fun W hb=>hcl W x hxm hb
    have hb':Hid (b=decide (cmp x=0)):=by show _=_;rw [hb.out,zD3 hx]
    clear hx hcell hat hb hcl
    go_wp2
    refine zAd (C:=fun W=>Below W1.heap.size W1 W) (by kernel_rfl) (by kernel_rfl) hbel.drew ?_
    repeat
     first
      | ((with_reducible refine zAl ?_ ?_)
         ·(go_simp;done)
         apply Exists.intro
         refine ⟨fun W hW=>?_,?_⟩
         ·have hb0:=bthen bW1 bW1.size hW
          have q0:=run_ldvGI (zAc hxr hg hb0) hxok
          have q1:(ldvI ⟨w.heap.size,0,none⟩).run Tryz.prog W = .ok (.agg NC) W:=by
           have:=run_loadVar_mid (P:=Tryz.prog) W w.heap.size 0 46 NC.toList _ (zAi (hn1.below hW hn1.lt)) Tryz.underlying46 rfl hsI
           rwa [Array.toArray_toList] at this
          have hkeep:=zBL hW (hc2 W hb0)
          go_simp
          first
           | rfl
           | (with_reducible exact hkeep)
         simp only [Act.put,zA,zB,zC])
      | ((with_reducible refine zAh ?_ ?_)
         ·(first | rfl | (go_simp;done))
         simp only [Act.put,zA,zB,zC])
    with_reducible refine wpQuiet_nil ?_
    intro w5 hW5
    go_wp2
    go_ret2
    exact ⟨by rw [hb'.out];rfl,bthen bW1 bW1.size hW5⟩
   ·have hli : ¬ (hi:Int)<(l.length:Int):=by omega
    have hb':Hid (b=false):=by show _=_;rw [hb.out,zEi (by omega)]
    clear hb hat
    go_wp2
    refine zAd (C:=fun W=>Below W1.heap.size W1 W) (by kernel_rfl) (by kernel_rfl) hbel.drew ?_
    repeat
     first
      | ((with_reducible refine zAl ?_ ?_)
         ·(go_simp;done)
         apply Exists.intro
         refine ⟨fun W hW=>?_,?_⟩
         ·go_simp
          first
           | rfl
         simp only [Act.put,zA,zB,zC])
      | ((with_reducible refine zAh ?_ ?_)
         ·(first | rfl | (go_simp;done))
         simp only [Act.put,zA,zB,zC])
    with_reducible refine wpQuiet_nil ?_
    intro w5 hW5
    go_wp2
    go_ret2
    exact ⟨by rw [hb'.out];rfl,bthen bW1 bW1.size hW5⟩
end
end Go.Proofs.YtbhdfaadedlcfaaGreatDoor
