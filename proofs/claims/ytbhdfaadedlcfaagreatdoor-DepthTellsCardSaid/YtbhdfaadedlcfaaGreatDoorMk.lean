/- Texts of this claim, laid together: MkT, MkC, MkE, Grow, HisI, GidBs, GraA, GrP, LinkW, LinkO, GraB, GraM, HisF. -/
import Derived.Test.YtbhdfaadedlcfaaGreatDoorMj
import Derived.Deep.CutBlock
import Derived.Great.FillDense
namespace Go.Proofs.YtbhdfaadedlcfaaGreatDoor
open Go.RowKit
section
attribute [local go_sem ↓] ldvI_eq ldvS_eq stvI_eq ldvO_eq
def MkR (w:World) (e:Ending) (w':World):Prop := ∃ o A1 A2 k1 k2,e = .returned (.agg (objC o (.slice A1 o.ents.length k1) (.slice A2 o.pars.length k2)).toArray)∧Small o∧ObjOk o∧OwnEnts w' w.heap.size (.slice A1 o.ents.length k1) o.ents∧OwnIds w' w.heap.size (.slice A2 o.pars.length k2) o.pars
theorem MkR.bare {w w':World} (o:ObjL) (he:o.ents=[]) (hp:o.pars=[]) (hs:Small o) (ho:ObjOk o):MkR w (.returned (.agg (objC o (.slice none 0 0) (.slice none 0 0)).toArray)) w':=by
 refine ⟨o,none,none,0,0,?_,hs,ho,?_,?_⟩
 ·rw [he,hp];rfl
 ·rw [he];exact World.ownsRow_nil _ _ _ _
 ·rw [hp];exact World.ownsRow_nil _ _ _ _
def PickV (v:Value):Prop := ∃ x b,v = .tuple #[.agg (u8s x), .bool b]∧x.length=32
theorem kindS_bounds {s:List StL} (n:Txt):0≤kindS s n∧kindS s n≤255:=by
 unfold kindS
 split
 ·split
  ·rename_i o ho
   obtain ⟨c,q,_,hk⟩:=dec_kind ho
   have:=c.toNat_lt
   omega
  ·omega
 ·omega
theorem zeroO_small : Small zeroO:=⟨by decide,by simp [zeroO],by decide,by decide,by decide,by decide⟩
theorem zeroO_ok : ObjOk zeroO:=⟨noId_len,noId_len,by simp [zeroO],by simp [zeroO],by decide,by decide,by decide,by decide,by decide,by decide,by decide,by decide⟩
set_option maxRecDepth 100000 in
set_option maxHeartbeats 8000000 in
theorem make_blob {w:World} {vm:Value} {es:List DiL} (h:DocSt w vm es) (ids:List Txt) (hok : ∀ x∈ids,x.length=32) (hil:ids.length≤1000) (vi:Value) (hi:Ids w vi ids) (x:SdL) (hx:SdOk w x) (hr:x.refs.length≤10) (ht:x.text.length≤300) (hk:(x.kind.toNat:Int)%4=0) :
 Calls Tryz.prog 40 #[.agg #[vm],vi, .agg (sdC x).toArray] w fun e w'=>MkR w e w'∧Below w.heap.size w w':=by
 have hzo:=zeroObj
 have hz72:=zObj_size
 have hzone:zObj.all (·.oneCell')=true:=objC_all zeroO none none 0 0 0 0
 have hsz : ∀ cs:Array Value,cs.size=72→(Tryz.prog.info? 59).map (·.size)=some cs.size:=fun cs h=>by rw [h];exact szObj
 obtain ⟨W1,hW1⟩ : ∃ W1,w.alloc (.cells #[vm] 28)=W1:=⟨_,rfl⟩
 have s1:Blk W1 w.heap.size 28 #[vm]:=by rw [←hW1];exact Blk.new _ _ _
 have b1:Below w.heap.size w W1:=by rw [←hW1];exact (Below.refl _ _).alloc (Nat.le_refl _) _
 obtain ⟨W2,hW2⟩ : ∃ W2,W1.alloc (.cells (sdC x).toArray 99)=W2:=⟨_,rfl⟩
 have d2:Blk W2 W1.heap.size 99 (sdC x).toArray:=by rw [←hW2];exact Blk.new _ _ _
 have bb2:Below W1.heap.size W1 W2:=by rw [←hW2];exact (Below.refl _ _).alloc (Nat.le_refl _) _
 obtain ⟨W3,hW3⟩ : ∃ W3,W2.alloc (.cells zObj 59)=W3:=⟨_,rfl⟩
 have z3:Blk W3 W2.heap.size 59 zObj:=by rw [←hW3];exact Blk.new _ _ _
 have bb3:Below W2.heap.size W2 W3:=by rw [←hW3];exact (Below.refl _ _).alloc (Nat.le_refl _) _
 have b2:=bthen b1 b1.size bb2
 have b3:=bthen b2 b2.size bb3
 have s3:=(s1.below bb2 s1.lt).below bb3 (s1.below bb2 s1.lt).lt
 have d3:=d2.below bb3 d2.lt
 have hle2:w.heap.size≤W2.heap.size:=b2.size
 have hlt0:=s1.lt
 have hlt1:=d2.lt
 have hlt2:=z3.lt
 have fL:=fun W (hW:Below W3.heap.size W3 W)=>run_ldvS (s3.below hW s3.lt)
 have fK : ∀ W,Below W3.heap.size W3 W→W.cell? ⟨W1.heap.size,0,none⟩=some (.int .u8 x.kind.toNat):=fun W hW=>(d3.below hW d3.lt).cell 0
 have fR : ∀ W,Below W3.heap.size W3 W→W.cell? ⟨W1.heap.size,1,none⟩=some x.vr:=fun W hW=>(d3.below hW d3.lt).cell 1
 have fT : ∀ W,Below W3.heap.size W3 W→W.cell? ⟨W1.heap.size,2,none⟩=some (.int .u16 x.time):=fun W hW=>(d3.below hW d3.lt).cell 2
 have fX : ∀ W,Below W3.heap.size W3 W→W.cell? ⟨W1.heap.size,3,none⟩=some (.string (B x.text)):=fun W hW=>(d3.below hW d3.lt).cell 3
 have k3:=fK W3 (Below.refl _ _)
 have hkb:(x.kind.toNat:Int)<256:=by have:=x.kind.toNat_lt;omega
 have hbd:=built_blob x.text
 have hcs:(objC ⟨1,x.text,[],noId,[],0,[],noId,0,[]⟩ (.slice none 0 0) (.slice none 0 0)).toArray.size=72:=by rw [List.size_toArray];exact objC_len ⟨noId_len,noId_len,by simp,by simp,hx.text,by simp,by simp,by simp,by simp,by simp,by simp,by simp⟩ _ _
 have hc1:=objC_all ⟨1,x.text,[],noId,[],0,[],noId,0,[]⟩ none none 0 0 0 0
 have x3:=fX W3 (Below.refl _ _)
 have hfin : ∀ w',MkR w (.returned (.agg (objC ⟨1,x.text,[],noId,[],0,[],noId,0,[]⟩ (.slice none 0 0) (.slice none 0 0)).toArray)) w':=fun w'=>MkR.bare _ rfl rfl ⟨by simp,by simp,by simp,by show x.text.length≤_;omega,by simp,by simp⟩ ⟨noId_len,noId_len,by simp,by simp,hx.text,by simp,by simp,by simp,by simp,by simp,by simp,by simp⟩
 clear h hi hx fL fK fR fT fX hok
 generalize (objC ⟨1,x.text,[],noId,[],0,[],noId,0,[]⟩ (.slice none 0 0) (.slice none 0 0)).toArray=OC at *
 generalize (sdC x).toArray=SC at *
 generalize zObj=ZO at *
 go_enter Tryz.func40,Tryz.ntmps40
 go_wp2_with (first
  | ((with_reducible refine lit_build2 hbd ?_ ?_ ?_);rfl;rfl)
  | (refine wpList_store_row rfl 59 (.tmp 6) (.tmp 165) rfl W2.heap.size OC rfl rfl _ _ z3 (hsz _ hcs) (hz72.trans hcs.symm) hc1 ?_))
 refine bodyPost_ret (results_cell_row rfl _ _ W2.heap.size _ _ _ _ rfl (setRow_heap _ _ _ _ _ _ z3) Tryz.underlying59 rfl (hsz _ hcs)) rfl ⟨hfin _,below_setRow b3 hle2 _⟩
set_option maxRecDepth 100000 in
set_option maxHeartbeats 8000000 in
theorem make_tag {w:World} {vm:Value} {es:List DiL} (h:DocSt w vm es) (ids:List Txt) (hok : ∀ x∈ids,x.length=32) (hil:ids.length≤1000) (vi:Value) (hi:Ids w vi ids) (x:SdL) (hx:SdOk w x) (hr:x.refs.length≤10) (ht:x.text.length≤300) (hk:(x.kind.toNat:Int)%4=3) :
 Calls Tryz.prog 40 #[.agg #[vm],vi, .agg (sdC x).toArray] w fun e w'=>MkR w e w'∧Below w.heap.size w w':=by
 have hzo:=zeroObj
 have hz72:=zObj_size
 have hzone:zObj.all (·.oneCell')=true:=objC_all zeroO none none 0 0 0 0
 have hsz : ∀ cs:Array Value,cs.size=72→(Tryz.prog.info? 59).map (·.size)=some cs.size:=fun cs h=>by rw [h];exact szObj
 obtain ⟨W1,hW1⟩ : ∃ W1,w.alloc (.cells #[vm] 28)=W1:=⟨_,rfl⟩
 have s1:Blk W1 w.heap.size 28 #[vm]:=by rw [←hW1];exact Blk.new _ _ _
 have b1:Below w.heap.size w W1:=by rw [←hW1];exact (Below.refl _ _).alloc (Nat.le_refl _) _
 obtain ⟨W2,hW2⟩ : ∃ W2,W1.alloc (.cells (sdC x).toArray 99)=W2:=⟨_,rfl⟩
 have d2:Blk W2 W1.heap.size 99 (sdC x).toArray:=by rw [←hW2];exact Blk.new _ _ _
 have bb2:Below W1.heap.size W1 W2:=by rw [←hW2];exact (Below.refl _ _).alloc (Nat.le_refl _) _
 obtain ⟨W3,hW3⟩ : ∃ W3,W2.alloc (.cells zObj 59)=W3:=⟨_,rfl⟩
 have z3:Blk W3 W2.heap.size 59 zObj:=by rw [←hW3];exact Blk.new _ _ _
 have bb3:Below W2.heap.size W2 W3:=by rw [←hW3];exact (Below.refl _ _).alloc (Nat.le_refl _) _
 have b2:=bthen b1 b1.size bb2
 have b3:=bthen b2 b2.size bb3
 have s3:=(s1.below bb2 s1.lt).below bb3 (s1.below bb2 s1.lt).lt
 have d3:=d2.below bb3 d2.lt
 have hle2:w.heap.size≤W2.heap.size:=b2.size
 have hlt0:=s1.lt
 have hlt1:=d2.lt
 have hlt2:=z3.lt
 have fL:=fun W (hW:Below W3.heap.size W3 W)=>run_ldvS (s3.below hW s3.lt)
 have fK : ∀ W,Below W3.heap.size W3 W→W.cell? ⟨W1.heap.size,0,none⟩=some (.int .u8 x.kind.toNat):=fun W hW=>(d3.below hW d3.lt).cell 0
 have fR : ∀ W,Below W3.heap.size W3 W→W.cell? ⟨W1.heap.size,1,none⟩=some x.vr:=fun W hW=>(d3.below hW d3.lt).cell 1
 have fT : ∀ W,Below W3.heap.size W3 W→W.cell? ⟨W1.heap.size,2,none⟩=some (.int .u16 x.time):=fun W hW=>(d3.below hW d3.lt).cell 2
 have fX : ∀ W,Below W3.heap.size W3 W→W.cell? ⟨W1.heap.size,3,none⟩=some (.string (B x.text)):=fun W hW=>(d3.below hW d3.lt).cell 3
 have k3:=fK W3 (Below.refl _ _)
 have hkb:(x.kind.toNat:Int)<256:=by have:=x.kind.toNat_lt;omega
 have hsI:(Tryz.prog.info? 46).map (·.size)=some (u8s noId).size:=by rw [u8s_size,noId_len];exact sz32
 have hrb:=fun W=>run_build (P:=Tryz.prog) W _ _ _ built_zObj
 obtain ⟨A,cap,hvr,hcap1,hcap2,hat⟩:=hx.refs
 rw [hvr] at fR
 have r3:=fR W3 (Below.refl _ _)
 have hfz : ∀ w',MkR w (.returned (.agg zObj)) w':=fun w'=>MkR.bare zeroO rfl rfl zeroO_small zeroO_ok
 have hkc:=fun (y:Txt) (hy:y.length=32) W (hW:Below W3.heap.size W3 W)=>docKind_calls (h.below (bthen b3 b3.size hW)) y hy
 rcases Nat.eq_zero_or_pos x.refs.length with hrl | hrl
 ·skip
  have hl0:(x.refs.length:Int)=0:=by omega
  clear h hi hx fL fK fR fT fX hok hkc hat hvr hrl
  generalize (sdC x).toArray=SC at *
  generalize zObj=ZO at *
  go_enter Tryz.func40,Tryz.ntmps40
  go_wp2_with (first
   | (refine wpList_store_row rfl 59 (.tmp 6) (.tmp 128) rfl W2.heap.size ZO rfl rfl _ _ z3 (hsz _ hz72) rfl hzone ?_))
  refine bodyPost_ret (results_cell_row rfl _ _ W2.heap.size _ _ _ _ rfl (setRow_heap _ _ _ _ _ _ z3) Tryz.underlying59 rfl (hsz _ hz72)) rfl ⟨hfz _,below_setRow b3 hle2 _⟩
 ·have hlb:((x.refs.length:Int)==0)=false:=by rw [beq_eq_false_iff_ne];omega
  have hl0 : ¬ (x.refs.length:Int)=0:=by omega
  have hlp:(0:Int)<(x.refs.length:Int):=by omega
  obtain ⟨ga,oa,rfl,hga,hca⟩:=hat (by omega)
  obtain ⟨c0,hc0⟩ : ∃ c,x.refs[0]?=some c:=⟨_,List.getElem?_eq_getElem hrl⟩
  have fB : ∀ W,Below W3.heap.size W3 W→W.cell? ⟨ga,oa,none⟩=some (.int .u8 c0.toNat):=fun W hW=>by
   have:=rangeAt_below (hca 0 c0 hc0) hga (bthen b3 b3.size hW) 0 _ rfl
   simpa [byC,u8v] using this
  have hc0b:(c0.toNat:Int)<256:=by have:=c0.toNat_lt;omega
  have hc0w:IntKind.i64.wrap (c0.toNat:Int)=(c0.toNat:Int):=IntWalk.i64_in _ (by omega)
  have hpk:=fun W (hW:Below W3.heap.size W3 W)=>(pick_calls (h.below (bthen b3 b3.size hW)) ids hok hil vi (hi.below (bthen b3 b3.size hW)) c0.toNat (by omega) 0)
  have fB1:1<x.refs.length → ∃ c1:UInt8, ∀ W,Below W3.heap.size W3 W→W.cell? ⟨ga,oa+1,none⟩=some (.int .u8 c1.toNat):=fun h1=>by
   obtain ⟨c1,hc1⟩ : ∃ c,x.refs[1]?=some c:=⟨_,List.getElem?_eq_getElem h1⟩
   refine ⟨c1,fun W hW=>?_⟩
   have:=rangeAt_below (hca 1 c1 hc1) hga (bthen b3 b3.size hW) 0 _ rfl
   simpa [byC,u8v] using this
  clear h hi hx fK fT fX hok hvr hca hc0 hat
  generalize (sdC x).toArray=SC at *
  generalize zObj=ZO at *
  go_enter Tryz.func40,Tryz.ntmps40
  go_wp2
  refine wp_region_go0 14 (by kernel_rfl) (by kernel_rfl) (by kernel_rfl) (by kernel_rfl) ?_
  simp only [exSp]
  iterate 14 apply Exists.intro
  repeat
   first
    | ((with_reducible apply lx0_ex)
       ·(go_simp;done)
       apply Exists.intro
       apply And.intro
       ·apply Eq.refl
       apply And.intro
       ·intro W hW hD
        have hW2:=hW
        have q0:=fL W hW2
        have q1:=fR W hW2
        have q2:=fB W hW2
        go_simp
        rfl
       simp only [Act.put,zA,zB,zC])
    | ((with_reducible apply lx0_pass)
       ·(first | rfl | (go_simp;done))
       ·apply Eq.refl
       simp only [Act.put,zA,zB,zC])
    | ((with_reducible refine lx0_new (fun v _ _=>PickV v) rfl ?_ (stab_pure PickV) ?_ ?_)
       ·(go_simp;done)
       ·intro W hW hD
        have hW2:=hW
        unfold doesAt Oper.wp execOp
        go_simp
        (with_reducible refine (hpk W hW2).mono ?_)
        rintro e w' ⟨⟨y,b,rfl,hy⟩,hb⟩
        exact ⟨hb,fun _ _ _ _=>⟨y,b,rfl,hy⟩⟩
       intro v
       simp only [Act.put,zA,zB,zC])
    | (first | (with_reducible apply lx_move') | (with_reducible apply lx_assign')
       ·apply Eq.refl
       apply Exists.intro
       apply And.intro
       ·(go_simp;rfl)
       simp only [Act.put,zA,zB,zC])
    | ((with_reducible apply lx_extr')
       ·apply Eq.refl
       apply Exists.intro
       apply And.intro
       ·(go_simp;rfl)
       refine ⟨fun W hW hD=>?_,?_⟩
       ·obtain ⟨F,y,b,rfl,hy⟩:=hD.at 0 rfl (by kernel_rfl)
        exact ⟨_,rfl,by simp⟩
       simp only [Act.put,zA,zB,zC])
    | ((with_reducible apply lx_al 46 (u8s noId) zeroIdV)
       ·apply Eq.refl
       intro v
       simp only [Act.put,zA,zB,zC])
    | ((with_reducible apply lx_st' 11 46 (u8s noId) hsI (by kernel_rfl))
       ·exact rfl
       ·apply Eq.refl
       apply Exists.intro
       apply Exists.intro
       apply And.intro
       ·(go_simp;rfl)
       apply And.intro
       ·(go_simp;rfl)
       refine ⟨?_,fun W hW hD=>?_,?_⟩
       ·first | exact List.Mem.head _ | exact List.Mem.tail _ (List.Mem.head _) | exact List.Mem.tail _ (List.Mem.tail _ (List.Mem.head _)) | exact List.Mem.tail _ (List.Mem.tail _ (List.Mem.tail _ (List.Mem.head _)))
       ·obtain ⟨F,y,b,rfl,hy⟩:=hD.at 1 rfl (by kernel_rfl)
        exact ⟨_,rfl,by rw [u8s_size,u8s_size,hy,noId_len],u8s_one y⟩)
  refine lx0_nil ?_ fun w5 hW5 hD5=>?_
  ·exact (by simp [stsOf])
  obtain ⟨_,y,b,rfl,hy⟩:=hD5 _ (.tail _ (.tail _ (.head _)))
  obtain ⟨_,g,cs,rfl,hcs,hg1,_,hg2⟩:=hD5 _ (.head _)
  obtain rfl:u8s y=cs:=by injection hcs
  clear hcs hD5
  simp only [extr2_0,extr2_1]
  have b5:=bthen b3 b3.size hW5
  have z5:=z3.below hW5 z3.lt
  have hgI:=run_ldvI_at (range_blk hg2) hy
  have r5:=fR _ hW5
  have l5:=fL _ hW5
  have hk5:=hkc y hy _ hW5
  clear hpk hkc
  cases b
  ·clear hk5
   go_wp2_with (first
    | (refine wpList_store_row rfl 59 (.tmp 6) (.tmp 142) rfl W2.heap.size ZO rfl rfl _ _ z5 (hsz _ hz72) rfl hzone ?_))
   refine bodyPost_ret (results_cell_row rfl _ _ W2.heap.size _ _ _ _ rfl (setRow_heap _ _ _ _ _ _ z5) Tryz.underlying59 rfl (hsz _ hz72)) rfl ⟨hfz _,below_setRow b5 hle2 _⟩
  ·obtain ⟨K,hK⟩ : ∃ K,kindS (es.map (·.st)) y=K:=⟨_,rfl⟩
   have hKb:=kindS_bounds (s:=es.map (·.st)) y
   rw [hK] at hKb hk5
   have hk5:=Lib.hid hk5
   have hbd:=fun k=>built_tag y hy k [116]
   have hcs : ∀ k:Int,(objC ⟨4,[],[],noId,[],0,[],y,k,[116]⟩ (.slice none 0 0) (.slice none 0 0)).toArray.size=72:=fun k=>by
    rw [List.size_toArray]
    unfold objC
    simp [u8s_size,noId_len,hy]
   have hc1:=fun k:Int=>objC_all ⟨4,[],[],noId,[],0,[],y,k,[116]⟩ none none 0 0 0 0
   have hfin : ∀ (k:Int) w', -9223372036854775808≤k→k≤9223372036854775807→MkR w (.returned (.agg (objC ⟨4,[],[],noId,[],0,[],y,k,[116]⟩ (.slice none 0 0) (.slice none 0 0)).toArray)) w':=fun k w' h1 h2=>MkR.bare _ rfl rfl ⟨by simp,by simp,by simp,by simp,by simp,by simp⟩ ⟨noId_len,hy,by simp,by simp,by simp,by simp,by simp,by simp,by simp,by simp,h1,h2⟩
   have hfa : ∀ (W:World),Below w5.heap.size w5 W→(ldvI ⟨g,0,none⟩).run Tryz.prog W = .ok (.agg (u8s y)) W:=fun W hW=>run_ldvI_at (range_blk (hg2.below hW hg2.lt)) hy
   have hw4:IntKind.i64.wrap (1+K%4)=1+K%4:=IntWalk.i64_in _ (by omega)
   have hK0:=hKb.1
   have hK1:=hKb.2
   have hfinK:=hfin K
   have hfin4:=hfin (1+K%4)
   have hbdK:Tryz.prog.built 59 [(0, .int .i64 4),(7, .agg (u8s y)),(8, .int .i64 K),(9, .string ⟨#[116]⟩)]=some _:=hbd K
   have hbd4:Tryz.prog.built 59 [(0, .int .i64 4),(7, .agg (u8s y)),(8, .int .i64 (1+K%4)),(9, .string ⟨#[116]⟩)]=some _:=hbd (1+K%4)
   have hcsK:=hcs K
   have hcs4:=hcs (1+K%4)
   have hc1K:=hc1 K
   have hc14:=hc1 (1+K%4)
   clear hbd hcs hc1 hfin hK hKb hgI
   generalize (objC ⟨4,[],[],noId,[],0,[],y,K,[116]⟩ (.slice none 0 0) (.slice none 0 0)).toArray=OK at *
   generalize (objC ⟨4,[],[],noId,[],0,[],y,1+K%4,[116]⟩ (.slice none 0 0) (.slice none 0 0)).toArray=O4 at *
   have hgI:=hfa _ (Below.refl _ _)
   have main:1<x.refs.length ∨ ¬ 1<x.refs.length:=by omega
   rcases main with h1 | h1
   ·have h1i:(1:Int)<(x.refs.length:Int):=by omega
    obtain ⟨c1,f1⟩:=fB1 h1
    cases hc:((c1.toNat:Int)==250)
    all_goals
     go_wp2_with (first
      | ((with_reducible refine hk5.out.mono ?_);rintro e w6 ⟨rfl,hb6⟩
         have b6:=bthen b5 b5.size hb6
         have z6:=z5.below hb6 z5.lt
         have hgI6:=hfa _ hb6
         have r6:=fR _ (bthen hW5 hW5.size hb6)
         have q6:=f1 _ (bthen hW5 hW5.size hb6))
      | ((with_reducible refine lit_build4 hbdK ?_ ?_ ?_ ?_ ?_);rfl;rfl;rfl;rfl)
      | ((with_reducible refine lit_build4 hbd4 ?_ ?_ ?_ ?_ ?_);rfl;rfl;rfl;rfl)
      | (refine wpList_store_row rfl 59 (.tmp 6) (.tmp 162) rfl W2.heap.size OK rfl rfl _ _ z6 (hsz _ hcsK) (hz72.trans hcsK.symm) hc1K ?_)
      | (refine wpList_store_row rfl 59 (.tmp 6) (.tmp 162) rfl W2.heap.size O4 rfl rfl _ _ z6 (hsz _ hcs4) (hz72.trans hcs4.symm) hc14 ?_))
     first
      | refine bodyPost_ret (results_cell_row rfl _ _ W2.heap.size _ _ _ _ rfl (setRow_heap _ _ _ _ _ _ z6) Tryz.underlying59 rfl (hsz _ hcsK)) rfl ⟨hfinK _ (by omega) (by omega),below_setRow b6 hle2 _⟩
      | refine bodyPost_ret (results_cell_row rfl _ _ W2.heap.size _ _ _ _ rfl (setRow_heap _ _ _ _ _ _ z6) Tryz.underlying59 rfl (hsz _ hcs4)) rfl ⟨hfin4 _ (by omega) (by omega),below_setRow b6 hle2 _⟩
   ·have h1i : ¬ (1:Int)<(x.refs.length:Int):=by omega
    go_wp2_with (first
     | ((with_reducible refine hk5.out.mono ?_);rintro e w6 ⟨rfl,hb6⟩
        have b6:=bthen b5 b5.size hb6
        have z6:=z5.below hb6 z5.lt
        have hgI6:=hfa _ hb6
        have r6:=fR _ (bthen hW5 hW5.size hb6))
     | ((with_reducible refine lit_build4 hbdK ?_ ?_ ?_ ?_ ?_);rfl;rfl;rfl;rfl)
     | (refine wpList_store_row rfl 59 (.tmp 6) (.tmp 162) rfl W2.heap.size OK rfl rfl _ _ z6 (hsz _ hcsK) (hz72.trans hcsK.symm) hc1K ?_))
    refine bodyPost_ret (results_cell_row rfl _ _ W2.heap.size _ _ _ _ rfl (setRow_heap _ _ _ _ _ _ z6) Tryz.underlying59 rfl (hsz _ hcsK)) rfl ⟨hfinK _ (by omega) (by omega),below_setRow b6 hle2 _⟩
end
section
attribute [local go_sem ↓] ldvI_eq ldvS_eq stvI_eq ldvO_eq
set_option maxRecDepth 100000 in
set_option maxHeartbeats 8000000 in
theorem make_commit {w:World} {vm:Value} {es:List DiL} (h:DocSt w vm es) (ids:List Txt) (hok : ∀ x∈ids,x.length=32) (hil:ids.length≤1000) (vi:Value) (hi:Ids w vi ids) (x:SdL) (hx:SdOk w x) (hr:x.refs.length≤10) (ht:x.text.length≤300) (hk:(x.kind.toNat:Int)%4=2) :
 Calls Tryz.prog 40 #[.agg #[vm],vi, .agg (sdC x).toArray] w fun e w'=>MkR w e w'∧Below w.heap.size w w':=by
 have hzo:=zeroObj
 have hz72:=zObj_size
 have hzone:zObj.all (·.oneCell')=true:=objC_all zeroO none none 0 0 0 0
 have hsz : ∀ cs:Array Value,cs.size=72→(Tryz.prog.info? 59).map (·.size)=some cs.size:=fun cs h=>by rw [h];exact szObj
 obtain ⟨W1,hW1⟩ : ∃ W1,w.alloc (.cells #[vm] 28)=W1:=⟨_,rfl⟩
 have s1:Blk W1 w.heap.size 28 #[vm]:=by rw [←hW1];exact Blk.new _ _ _
 have b1:Below w.heap.size w W1:=by rw [←hW1];exact (Below.refl _ _).alloc (Nat.le_refl _) _
 obtain ⟨W2,hW2⟩ : ∃ W2,W1.alloc (.cells (sdC x).toArray 99)=W2:=⟨_,rfl⟩
 have d2:Blk W2 W1.heap.size 99 (sdC x).toArray:=by rw [←hW2];exact Blk.new _ _ _
 have bb2:Below W1.heap.size W1 W2:=by rw [←hW2];exact (Below.refl _ _).alloc (Nat.le_refl _) _
 obtain ⟨W3,hW3⟩ : ∃ W3,W2.alloc (.cells zObj 59)=W3:=⟨_,rfl⟩
 have z3:Blk W3 W2.heap.size 59 zObj:=by rw [←hW3];exact Blk.new _ _ _
 have bb3:Below W2.heap.size W2 W3:=by rw [←hW3];exact (Below.refl _ _).alloc (Nat.le_refl _) _
 have b2:=bthen b1 b1.size bb2
 have b3:=bthen b2 b2.size bb3
 have s3:=(s1.below bb2 s1.lt).below bb3 (s1.below bb2 s1.lt).lt
 have d3:=d2.below bb3 d2.lt
 have hle2:w.heap.size≤W2.heap.size:=b2.size
 have hlt0:=s1.lt
 have hlt1:=d2.lt
 have hlt2:=z3.lt
 have fL:=fun W (hW:Below W3.heap.size W3 W)=>run_ldvS (s3.below hW s3.lt)
 have fK : ∀ W,Below W3.heap.size W3 W→W.cell? ⟨W1.heap.size,0,none⟩=some (.int .u8 x.kind.toNat):=fun W hW=>(d3.below hW d3.lt).cell 0
 have fR : ∀ W,Below W3.heap.size W3 W→W.cell? ⟨W1.heap.size,1,none⟩=some x.vr:=fun W hW=>(d3.below hW d3.lt).cell 1
 have fT : ∀ W,Below W3.heap.size W3 W→W.cell? ⟨W1.heap.size,2,none⟩=some (.int .u16 x.time):=fun W hW=>(d3.below hW d3.lt).cell 2
 have fX : ∀ W,Below W3.heap.size W3 W→W.cell? ⟨W1.heap.size,3,none⟩=some (.string (B x.text)):=fun W hW=>(d3.below hW d3.lt).cell 3
 have k3:=fK W3 (Below.refl _ _)
 have hkb:(x.kind.toNat:Int)<256:=by have:=x.kind.toNat_lt;omega
 have hsI:(Tryz.prog.info? 46).map (·.size)=some (u8s noId).size:=by rw [u8s_size,noId_len];exact sz32
 have hrb:=fun W=>run_build (P:=Tryz.prog) W _ _ _ built_zObj
 have hzI:=zeroIdV
 have hZ32:(u8s noId).size=32:=by rw [u8s_size,noId_len]
 obtain ⟨A,cap,hvr,hcap1,hcap2,hat⟩:=hx.refs
 rw [hvr] at fR
 have htm:=hx.time
 have htw:IntKind.i64.wrap (x.time:Int)=(x.time:Int):=IntWalk.i64_in _ (by omega)
 have htu:IntKind.u32.wrap (x.time:Int)=(x.time:Int):=by
  unfold IntKind.wrap
  simp [IntKind.bits,IntKind.signed]
  omega
 have t3:=fT W3 (Below.refl _ _)
 have l3:=fL W3 (Below.refl _ _)
 have hp2:=Lib.hid (pick_calls (h.below b3) ids hok hil vi (hi.below b3) x.time (by omega) 2)
 have hfz : ∀ w',MkR w (.returned (.agg zObj)) w':=fun w'=>MkR.bare zeroO rfl rfl zeroO_small zeroO_ok
 have hpk:=fun (c:UInt8) W (hW:Below W3.heap.size W3 W)=>(pick_calls (h.below (bthen b3 b3.size hW)) ids hok hil vi (hi.below (bthen b3 b3.size hW)) c.toNat (by have:=c.toNat_lt;omega) 3)
 have fBk : ∀ k,k<x.refs.length → ∃ (ga oa:Nat) (c:UInt8),A=some ⟨ga,oa,none⟩ ∧ ∀ W,Below W3.heap.size W3 W→W.cell? ⟨ga,oa+k,none⟩=some (.int .u8 c.toNat):=fun k hk=>by
  obtain ⟨ga,oa,rfl,hga,hca⟩:=hat (by omega)
  refine ⟨ga,oa,x.refs[k],rfl,fun W hW=>?_⟩
  have:=rangeAt_below (hca k _ (List.getElem?_eq_getElem hk)) hga (bthen b3 b3.size hW) 0 _ rfl
  simpa [byC,u8v] using this
 have htx:=hx.text
 clear h hi hx fK hok hat hvr
 generalize (sdC x).toArray=SC at *
 obtain ⟨ZO,hZO⟩ : ∃ ZO,zObj=ZO:=⟨_,rfl⟩
 rw [hZO] at hzo hz72 hzone hW3 z3 hrb hfz
 go_enter Tryz.func40,Tryz.ntmps40
 go_upto_region 13 with (first
  | ((with_reducible refine hp2.out.mono ?_);rintro e w4 ⟨⟨y,b,rfl,hy⟩,hb4⟩
     have b4:=bthen b3 b3.size hb4
     have z4:=z3.below hb4 z3.lt
     have hy32:(u8s y).size=32:=by rw [u8s_size,hy]
     have hyo:=u8s_one y)
  | ((with_reducible refine lit_new 46 (.tmp 11) (.tmp 72) (u8s y) 32 sz32 hy32 hyo _ ?_ ?_ ?_ ?_)
     ·first | exact hZ32 | rfl
     ·rfl
     ·rfl
     intro W5 n5 hbl5
     have b5:=bthen b4 b4.size hbl5
     have b35:=bthen hb4 hb4.size hbl5
     have z5:=z4.below hbl5 z4.lt
     have ln5:=run_ldvI_at (range_blk n5) hy))
 cases b
 ·clear hpk fBk fL fR
  go_wp2_with (first
   | (refine wpList_store_row rfl 59 (.tmp 6) (.tmp 76) rfl W2.heap.size ZO rfl rfl _ _ z5 (hsz _ hz72) rfl hzone ?_))
  refine bodyPost_ret (results_cell_row rfl _ _ W2.heap.size _ _ _ _ rfl (setRow_heap _ _ _ _ _ _ z5) Tryz.underlying59 rfl (hsz _ hz72)) rfl ⟨hfz _,below_setRow b5 hle2 _⟩
 ·have hbd:=built_commit y hy x.time x.text
  have hcs:(objC ⟨3,[],[],y,[],x.time,x.text,noId,0,[]⟩ (.slice none 0 0) (.slice none 0 0)).toArray.size=72:=by
   rw [List.size_toArray]
   unfold objC
   simp [u8s_size,noId_len,hy]
  have hc1:=objC_all ⟨3,[],[],y,[],x.time,x.text,noId,0,[]⟩ none none 0 0 0 0
  have t5:=fT _ b35
  have x5:=fX _ b35
  obtain ⟨OC,hOC⟩ : ∃ OC,(objC ⟨3,[],[],y,[],x.time,x.text,noId,0,[]⟩ (.slice none 0 0) (.slice none 0 0)).toArray=OC:=⟨_,rfl⟩
  rw [hOC] at hbd hcs hc1
  have hOC:=Lib.hid hOC
  go_wp2_with (first
   | ((with_reducible refine lit_build4 hbd ?_ ?_ ?_ ?_ ?_);rfl;rfl;rfl;rfl)
   | ((with_reducible refine lit_new 59 (.tmp 13) (.tmp 83) OC 72 szObj hcs hc1 _ ?_ ?_ ?_ ?_)
      ·first | exact hz72 | rfl
      ·rfl
      ·rfl
      intro W6 n6 hbl6
      have b36:=bthen b35 b35.size hbl6))
  have hgs:W3.heap.size≤W5.heap.size:=b35.size
  have hO6:ObjB W6 W5.heap.size ⟨3,[],[],y,[],x.time,x.text,noId,0,[]⟩ (.slice none 0 0) (.slice none 0 0):=⟨by rw [hOC.out];exact n6,hy,noId_len⟩
  clear n6 hbd hcs hc1 t5 x5 ln5 n5 hp2 l3 t3 z5 z4 hrb hfz fT fX
  go_loopw [14] (fun vi wr => ∃ (k:Nat) (acc:List Txt) (vp:Value),vi = .int .i64 k∧k≤x.refs.length∧k≤4∧acc.length≤k∧Hid (∀ x∈acc,x.length=32)∧ObjB wr W5.heap.size ⟨3,[],[],y,acc,x.time,x.text,noId,0,[]⟩ (.slice none 0 0) vp∧OwnIds wr W3.heap.size vp acc∧Below W3.heap.size W3 wr) (fun vi _=>x.refs.length-(intOf vi).toNat)
  case atStart=>exact ⟨0,[],_,rfl,by omega,by omega,by simp,Lib.hid (fun x hx=>by simp at hx),hO6,World.ownsRow_nil _ _ _ _,b36⟩
  case round=>
   obtain ⟨k,acc,vp,rfl,hk,hk4,hal,hall,hO,hown,hbel⟩:=hrel
   have r6:=fR _ hbel
   by_cases hlt:k<x.refs.length
   ·have hki:(k:Int)<(x.refs.length:Int):=by omega
    by_cases hk5:k<4
    ·have hki4:(k:Int)<4:=by omega
     obtain ⟨ga,oa,c,rfl,fB⟩:=fBk k hlt
     have hcb:(c.toNat:Int)<256:=by have:=c.toNat_lt;omega
     have hcw:IntKind.i64.wrap (c.toNat:Int)=(c.toNat:Int):=IntWalk.i64_in _ (by omega)
     have hpk:=hpk c
     clear fBk
     go_wp2
     refine wp_region_go0 15 (by kernel_rfl) (by kernel_rfl) (by kernel_rfl) (by kernel_rfl) ?_
     simp only [exSp]
     iterate 15 apply Exists.intro
     repeat
      first
       | ((with_reducible apply lx0_ex)
          ·(go_simp;done)
          apply Exists.intro
          apply And.intro
          ·apply Eq.refl
          apply And.intro
          ·intro W hW hD
           have hW2:=hbel.trans (hW.mono hbel.size)
           have q0:=fL W hW2
           have q1:=fR W hW2
           have q2:=fB W hW2
           go_simp
           rfl
          simp only [Act.put,zA,zB,zC])
       | ((with_reducible apply lx0_pass)
          ·(first | rfl | (go_simp;done))
          ·apply Eq.refl
          simp only [Act.put,zA,zB,zC])
       | ((with_reducible refine lx0_new (fun v _ _=>PickV v) rfl ?_ (stab_pure PickV) ?_ ?_)
          ·(go_simp;done)
          ·intro W hW hD
           have hW2:=hbel.trans (hW.mono hbel.size)
           unfold doesAt Oper.wp execOp
           go_simp
           (with_reducible refine (hpk W hW2).mono ?_)
           rintro e w' ⟨⟨y,b,rfl,hy⟩,hb⟩
           exact ⟨hb,fun _ _ _ _=>⟨y,b,rfl,hy⟩⟩
          intro v
          simp only [Act.put,zA,zB,zC])
       | (first | (with_reducible apply lx_move') | (with_reducible apply lx_assign')
          ·apply Eq.refl
          apply Exists.intro
          apply And.intro
          ·(go_simp;rfl)
          simp only [Act.put,zA,zB,zC])
       | ((with_reducible apply lx_extr')
          ·apply Eq.refl
          apply Exists.intro
          apply And.intro
          ·(go_simp;rfl)
          refine ⟨fun W hW hD=>?_,?_⟩
          ·obtain ⟨F,y,b,rfl,hy⟩:=hD.at 0 rfl (by kernel_rfl)
           exact ⟨_,rfl,by simp⟩
          simp only [Act.put,zA,zB,zC])
       | ((with_reducible apply lx_al 46 (u8s noId) zeroIdV)
          ·apply Eq.refl
          intro v
          simp only [Act.put,zA,zB,zC])
       | ((with_reducible apply lx_st' 12 46 (u8s noId) hsI (by kernel_rfl))
          ·exact rfl
          ·apply Eq.refl
          apply Exists.intro
          apply Exists.intro
          apply And.intro
          ·(go_simp;rfl)
          apply And.intro
          ·(go_simp;rfl)
          refine ⟨?_,fun W hW hD=>?_,?_⟩
          ·first | exact List.Mem.head _ | exact List.Mem.tail _ (List.Mem.head _) | exact List.Mem.tail _ (List.Mem.tail _ (List.Mem.head _)) | exact List.Mem.tail _ (List.Mem.tail _ (List.Mem.tail _ (List.Mem.head _)))
          ·obtain ⟨F,y,b,rfl,hy⟩:=hD.at 1 rfl (by kernel_rfl)
           exact ⟨_,rfl,by rw [u8s_size,u8s_size,hy,noId_len],u8s_one y⟩)
     refine lx0_nil ?_ fun w7 hW7 hD7=>?_
     ·exact (by simp [stsOf])
     obtain ⟨_,y7,b,rfl,hy7⟩:=hD7 _ (.tail _ (.tail _ (.head _)))
     obtain ⟨_,g,cs,rfl,hcs,hg1,_,hg2⟩:=hD7 _ (.head _)
     obtain rfl:u8s y7=cs:=by injection hcs
     clear hcs hD7
     simp only [extr2_0,extr2_1]
     have b7:=hbel.trans (hW7.mono hbel.size)
     have own7:=own_below hown hW7
     have hO7:=hO.below hW7
     have hgI:=run_ldvI_at (range_blk hg2) hy7
     clear hpk fB hcw
     cases b
     ·go_wp2
      go_roundw
      case rel=>exact ⟨k+1,acc,vp,by go_num,by omega,by omega,by omega,hall,hO7,own7,b7⟩
      case measure=>simp [intOf];omega
     ·obtain ⟨A3,c3,rfl⟩:=own_form' hown
      have hpc:w7.cell? ⟨W5.heap.size,35,none⟩=some (.slice A3 acc.length c3):=hO7.pars
      by_cases ha:acc.length=k
      ·have hai:((acc.length:Int)==(k:Int))=true:=by simp;omega
       clear ha
       have hid32:(idC y7).toArray.size=32:=by rw [List.size_toArray,idC_len hy7]
       have hidl:(idC y7).toArray.size=1*32:=hid32
       have hid1 : ∀ u∈(idC y7).toArray.toList,u.oneCell'=true:=by rw [List.toList_toArray];exact idC_one y7
       have hXC:(idC y7).toArray=u8s y7:=by simp [idC]
       rw [hXC] at hid32 hidl hid1
       have hall2:Hid (∀ z∈acc++[y7],z.length=32):=Lib.hid fun z hz=>by
        rcases List.mem_append.1 hz with hz | hz
        ·exact hall.out z hz
        ·rw [List.mem_singleton.1 hz];exact hy7
       have hrow:Hid (rowsOf idC (acc++[y7])=rowsOf idC acc++(u8s y7).toList):=Lib.hid (by rw [rowsOf_append,rowsOf_one];rfl)
       have hkl:acc.length+1≤9223372036854775807:=by omega
       have hm2:(acc.length+1)*32≤140737488355328:=by omega
       have sz7:=b7.size
       have hgO:=own_blk_ne own7 hO7.blk (by decide)
       clear hXC
       generalize u8s y7=XC at *
       go_wp2_with (first
        | ((with_reducible refine lit_slice1 (.tmp 117) Tryz.idsTy XC hid32 (by omega) ?_ ?_);rfl)
        | (at_builtin
           (with_reducible refine lit_append_new (.tmp 116) (.tmp 118) 1 _ Tryz.idsTy own7 XC hidl hid1 hkl hm2 sz7 ?_ ?_ ?_);rfl;rfl
           intro v8 w8 hv8 hb8 hg8 hn8
           have b8:=b7.trans hb8
           have hO8:ObjB w8 W5.heap.size ⟨3,[],[],y,acc,x.time,x.text,noId,0,[]⟩ (.slice none 0 0) (.slice A3 acc.length c3):=⟨hO7.blk.grown hg8 hgO,hO7.tr,hO7.ta⟩
           have hf8:=hO8.fr 35
           have hp8:=hO8.pars
           obtain ⟨A8,c8,rfl⟩:=own_form' hv8
           clear hg8 hn8))
       have hne8:=own_blk_ne hv8 hO8.blk (by decide)
       have own9:OwnIds (w8.setCell ⟨W5.heap.size,35,none⟩ (.slice A8 (acc.length+1) c8)) W3.heap.size (.slice A8 (acc.length+1) c8) (acc++[y7]):=by
        unfold OwnIds
        rw [List.length_append,hrow.out]
        exact own_same hv8 fun k hk=>Below.heap_setCell _ _ _ _ (fun e=>hne8 (by rw [hk];exact congrArg some e.symm))
       go_roundw
       case rel=>exact ⟨k+1,acc++[y7],_,by go_num,by omega,by omega,by simp;omega,hall2,hO8.setPars _ _,own9,b8.setCell hgs _⟩
       case measure=>simp [intOf];omega
      ·have hai:((acc.length:Int)==(k:Int))=false:=by rw [beq_eq_false_iff_ne];omega
       go_wp2
       go_roundw
       case rel=>exact ⟨k+1,acc,_,by go_num,by omega,by omega,by omega,hall,hO7,own7,b7⟩
       case measure=>simp [intOf];omega
    ·have hki4 : ¬ (k:Int)<4:=by omega
     clear fBk hpk
     obtain ⟨A3,c3,rfl⟩:=own_form' hown
     have hz9:=z3.below hbel z3.lt
     have hokO:ObjOk ⟨3,[],[],y,acc,x.time,x.text,noId,0,[]⟩:=⟨hy,noId_len,by simp,hall.out,by simp,htx,by simp,by show x.time<_;omega,by simp,by simp,by simp,by simp⟩
     have ld:=run_ldvO hO hokO
     have hcs:(objC ⟨3,[],[],y,acc,x.time,x.text,noId,0,[]⟩ (.slice none 0 0) (.slice A3 acc.length c3)).toArray.size=72:=by rw [List.size_toArray];exact objC_len hokO _ _
     have hc1:=objC_all ⟨3,[],[],y,acc,x.time,x.text,noId,0,[]⟩ none A3 0 0 acc.length c3
     have hfin:Hid (∀ w',OwnIds w' W3.heap.size (.slice A3 acc.length c3) acc→MkR w (.returned (.agg (objC ⟨3,[],[],y,acc,x.time,x.text,noId,0,[]⟩ (.slice none 0 0) (.slice A3 acc.length c3)).toArray)) w'):=Lib.hid fun w' ho=>⟨_,none,A3,0,c3,rfl,⟨by simp,by simp,by show acc.length≤_;omega,by simp,by show x.text.length≤_;omega,by simp⟩,hokO,World.ownsRow_nil _ _ _ _,own_low' ho b3.size⟩
     have b9:=bthen b3 b3.size hbel
     generalize (objC ⟨3,[],[],y,acc,x.time,x.text,noId,0,[]⟩ (.slice none 0 0) (.slice A3 acc.length c3)).toArray=OR at *
     go_wp2_with (first
      | (refine wpList_store_row rfl 59 (.tmp 6) (.tmp 121) rfl W2.heap.size OR rfl rfl _ _ hz9 (hsz _ hcs) (hz72.trans hcs.symm) hc1 ?_))
     refine bodyPost_ret (results_cell_row rfl _ _ W2.heap.size _ _ _ _ rfl (setRow_heap _ _ _ _ _ _ hz9) Tryz.underlying59 rfl (hsz _ hcs)) rfl ⟨hfin.out _ (own_row hown hlt2 OR),below_setRow b9 hle2 _⟩
   ·have hki : ¬ (k:Int)<(x.refs.length:Int):=by omega
    clear fBk hpk
    obtain ⟨A3,c3,rfl⟩:=own_form' hown
    have hz9:=z3.below hbel z3.lt
    have hokO:ObjOk ⟨3,[],[],y,acc,x.time,x.text,noId,0,[]⟩:=⟨hy,noId_len,by simp,hall.out,by simp,htx,by simp,by show x.time<_;omega,by simp,by simp,by simp,by simp⟩
    have ld:=run_ldvO hO hokO
    have hcs:(objC ⟨3,[],[],y,acc,x.time,x.text,noId,0,[]⟩ (.slice none 0 0) (.slice A3 acc.length c3)).toArray.size=72:=by rw [List.size_toArray];exact objC_len hokO _ _
    have hc1:=objC_all ⟨3,[],[],y,acc,x.time,x.text,noId,0,[]⟩ none A3 0 0 acc.length c3
    have hfin:Hid (∀ w',OwnIds w' W3.heap.size (.slice A3 acc.length c3) acc→MkR w (.returned (.agg (objC ⟨3,[],[],y,acc,x.time,x.text,noId,0,[]⟩ (.slice none 0 0) (.slice A3 acc.length c3)).toArray)) w'):=Lib.hid fun w' ho=>⟨_,none,A3,0,c3,rfl,⟨by simp,by simp,by show acc.length≤_;omega,by simp,by show x.text.length≤_;omega,by simp⟩,hokO,World.ownsRow_nil _ _ _ _,own_low' ho b3.size⟩
    have b9:=bthen b3 b3.size hbel
    generalize (objC ⟨3,[],[],y,acc,x.time,x.text,noId,0,[]⟩ (.slice none 0 0) (.slice A3 acc.length c3)).toArray=OR at *
    go_wp2_with (first
     | (refine wpList_store_row rfl 59 (.tmp 6) (.tmp 121) rfl W2.heap.size OR rfl rfl _ _ hz9 (hsz _ hcs) (hz72.trans hcs.symm) hc1 ?_))
    refine bodyPost_ret (results_cell_row rfl _ _ W2.heap.size _ _ _ _ rfl (setRow_heap _ _ _ _ _ _ hz9) Tryz.underlying59 rfl (hsz _ hcs)) rfl ⟨hfin.out _ (own_row hown hlt2 OR),below_setRow b9 hle2 _⟩
end
section
attribute [local go_sem ↓] ldvI_eq ldvS_eq stvI_eq ldvO_eq
def NameV (v:Value):Prop := ∃ c:UInt8,v = .string (B [c])
structure EntS (e:EntL):Prop where
 id:e.id.length=32
 name:e.name.length=1
 k0:0≤e.kind
 k1:e.kind≤255
theorem EntS.ok {e:EntL} (h:EntS e):EntOk e:=⟨h.id,by have:=h.name;omega,by have:=h.k0;omega,by have:=h.k1;omega⟩
def oT : ObjL:=⟨2,[],[],noId,[],0,[],noId,0,[]⟩
def oTC (ve:Value):Array Value:=(objC oT ve (.slice none 0 0)).toArray
theorem entC_lenS {y:Txt} (hy:y.length=32) {n:Txt} {K:Int}:(entC ⟨n,K,y⟩).length=34:=by
 unfold entC
 simp [u8s_size,hy]
set_option maxRecDepth 100000 in
theorem built_ent3 (n:Txt) (k:Int) (x:Txt) (hx:x.length=32):Tryz.prog.built 132 [(0, .string (B n)),(1, .int .i64 k),(2, .agg (u8s x))]=some (entC ⟨n,k,x⟩).toArray:=by
 obtain ⟨f,rfl⟩:=len32 hx
 kernel_rfl
set_option maxRecDepth 100000 in
set_option maxHeartbeats 8000000 in
theorem make_tree {w:World} {vm:Value} {es:List DiL} (h:DocSt w vm es) (ids:List Txt) (hok : ∀ x∈ids,x.length=32) (hil:ids.length≤1000) (vi:Value) (hi:Ids w vi ids) (x:SdL) (hx:SdOk w x) (hr:x.refs.length≤10) (ht:x.text.length≤300) (hk:(x.kind.toNat:Int)%4=1) :
 Calls Tryz.prog 40 #[.agg #[vm],vi, .agg (sdC x).toArray] w fun e w'=>MkR w e w'∧Below w.heap.size w w':=by
 have hzo:=zeroObj
 have hz72:=zObj_size
 have hzone:zObj.all (·.oneCell')=true:=objC_all zeroO none none 0 0 0 0
 have hsz : ∀ cs:Array Value,cs.size=72→(Tryz.prog.info? 59).map (·.size)=some cs.size:=fun cs h=>by rw [h];exact szObj
 obtain ⟨W1,hW1⟩ : ∃ W1,w.alloc (.cells #[vm] 28)=W1:=⟨_,rfl⟩
 have s1:Blk W1 w.heap.size 28 #[vm]:=by rw [←hW1];exact Blk.new _ _ _
 have b1:Below w.heap.size w W1:=by rw [←hW1];exact (Below.refl _ _).alloc (Nat.le_refl _) _
 obtain ⟨W2,hW2⟩ : ∃ W2,W1.alloc (.cells (sdC x).toArray 99)=W2:=⟨_,rfl⟩
 have d2:Blk W2 W1.heap.size 99 (sdC x).toArray:=by rw [←hW2];exact Blk.new _ _ _
 have bb2:Below W1.heap.size W1 W2:=by rw [←hW2];exact (Below.refl _ _).alloc (Nat.le_refl _) _
 obtain ⟨W3,hW3⟩ : ∃ W3,W2.alloc (.cells zObj 59)=W3:=⟨_,rfl⟩
 have z3:Blk W3 W2.heap.size 59 zObj:=by rw [←hW3];exact Blk.new _ _ _
 have bb3:Below W2.heap.size W2 W3:=by rw [←hW3];exact (Below.refl _ _).alloc (Nat.le_refl _) _
 have b2:=bthen b1 b1.size bb2
 have b3:=bthen b2 b2.size bb3
 have s3:=(s1.below bb2 s1.lt).below bb3 (s1.below bb2 s1.lt).lt
 have d3:=d2.below bb3 d2.lt
 have hle2:w.heap.size≤W2.heap.size:=b2.size
 have hlt0:=s1.lt
 have hlt1:=d2.lt
 have hlt2:=z3.lt
 have fL:=fun W (hW:Below W3.heap.size W3 W)=>run_ldvS (s3.below hW s3.lt)
 have fK : ∀ W,Below W3.heap.size W3 W→W.cell? ⟨W1.heap.size,0,none⟩=some (.int .u8 x.kind.toNat):=fun W hW=>(d3.below hW d3.lt).cell 0
 have fR : ∀ W,Below W3.heap.size W3 W→W.cell? ⟨W1.heap.size,1,none⟩=some x.vr:=fun W hW=>(d3.below hW d3.lt).cell 1
 have fT : ∀ W,Below W3.heap.size W3 W→W.cell? ⟨W1.heap.size,2,none⟩=some (.int .u16 x.time):=fun W hW=>(d3.below hW d3.lt).cell 2
 have fX : ∀ W,Below W3.heap.size W3 W→W.cell? ⟨W1.heap.size,3,none⟩=some (.string (B x.text)):=fun W hW=>(d3.below hW d3.lt).cell 3
 have k3:=fK W3 (Below.refl _ _)
 have hkb:(x.kind.toNat:Int)<256:=by have:=x.kind.toNat_lt;omega
 have hsI:(Tryz.prog.info? 46).map (·.size)=some (u8s noId).size:=by rw [u8s_size,noId_len];exact sz32
 obtain ⟨A,cap,hvr,hcap1,hcap2,hat⟩:=hx.refs
 rw [hvr] at fR
 have hkc:=fun (y:Txt) (hy:y.length=32) W (hW:Below W3.heap.size W3 W)=>docKind_calls (h.below (bthen b3 b3.size hW)) y hy
 have hpk:=fun (c:UInt8) W (hW:Below W3.heap.size W3 W)=>(pick_calls (h.below (bthen b3 b3.size hW)) ids hok hil vi (hi.below (bthen b3 b3.size hW)) c.toNat (by have:=c.toNat_lt;omega) 9)
 have fBk : ∀ k,k<x.refs.length → ∃ (ga oa:Nat) (c:UInt8),A=some ⟨ga,oa,none⟩ ∧ ∀ W,Below W3.heap.size W3 W→W.cell? ⟨ga,oa+k,none⟩=some (.int .u8 c.toNat):=fun k hk=>by
  obtain ⟨ga,oa,rfl,hga,hca⟩:=hat (by omega)
  refine ⟨ga,oa,x.refs[k],rfl,fun W hW=>?_⟩
  have:=rangeAt_below (hca k _ (List.getElem?_eq_getElem hk)) hga (bthen b3 b3.size hW) 0 _ rfl
  simpa [byC,u8v] using this
 clear h hi hx fK fT fX hok hat hvr
 generalize (sdC x).toArray=SC at *
 obtain ⟨ZO,hZO⟩ : ∃ ZO,zObj=ZO:=⟨_,rfl⟩
 rw [hZO] at hzo hz72 hzone hW3 z3
 have hbd:=built_kobj 2
 have hcs:(oTC (.slice none 0 0)).size=72:=rfl
 have hc1:(oTC (.slice none 0 0)).all (·.oneCell')=true:=objC_all oT none none 0 0 0 0
 have hbd:Tryz.prog.built 59 [(0, .int .i64 2)]=some (oTC (.slice none 0 0)):=hbd
 obtain ⟨OC,hOC⟩ : ∃ OC,oTC (.slice none 0 0)=OC:=⟨_,rfl⟩
 rw [hOC] at hbd hcs hc1
 have hOC:=Lib.hid hOC
 go_enter Tryz.func40,Tryz.ntmps40
 go_wp2_with (first
  | ((with_reducible refine lit_build1 hbd ?_ ?_);rfl)
  | ((with_reducible refine lit_new 59 (.tmp 7) (.tmp 25) OC 72 szObj hcs hc1 _ ?_ ?_ ?_ ?_)
     ·first | exact hz72 | rfl
     ·rfl
     ·rfl
     intro W4 n4 b34))
 have hO4:Blk W4 W3.heap.size 59 (oTC (.slice none 0 0)):=by rw [hOC.out];exact n4
 clear n4 hbd hcs hc1
 go_loopw [8] (fun vi wr => ∃ (k:Nat) (acc:List EntL) (ve:Value),vi = .int .i64 k∧k≤x.refs.length∧k≤5∧acc.length≤k∧Hid (∀ e∈acc,EntS e)∧Blk wr W3.heap.size 59 (oTC ve)∧OwnEnts wr W3.heap.size ve acc∧Below W3.heap.size W3 wr) (fun vi _=>x.refs.length-(intOf vi).toNat)
 case atStart=>exact ⟨0,[],_,rfl,by omega,by omega,by simp,Lib.hid (fun x hx=>by simp at hx),hO4,World.ownsRow_nil _ _ _ _,b34⟩
 case round=>
  obtain ⟨k,acc,ve,rfl,hk,hk5,hal,hall,hO,hown,hbel⟩:=hrel
  have r6:=fR _ hbel
  by_cases hlt:k<x.refs.length
  ·have hki:(k:Int)<(x.refs.length:Int):=by omega
   by_cases hk6:k<5
   ·have hki5:(k:Int)<5:=by omega
    obtain ⟨ga,oa,c,rfl,fB⟩:=fBk k hlt
    have hcb:(c.toNat:Int)<256:=by have:=c.toNat_lt;omega
    have hcw:IntKind.i64.wrap (c.toNat:Int)=(c.toNat:Int):=IntWalk.i64_in _ (by omega)
    have hpk:=hpk c
    clear fBk
    go_wp2
    refine wp_region_go0 15 (by kernel_rfl) (by kernel_rfl) (by kernel_rfl) (by kernel_rfl) ?_
    simp only [exSp]
    iterate 15 apply Exists.intro
    repeat
     first
      | ((with_reducible apply lx0_ex)
         ·(go_simp;done)
         apply Exists.intro
         apply And.intro
         ·apply Eq.refl
         apply And.intro
         ·intro W hW hD
          have hW2:=hbel.trans (hW.mono hbel.size)
          have q0:=fL W hW2
          have q1:=fR W hW2
          have q2:=fB W hW2
          go_simp
          rfl
         simp only [Act.put,zA,zB,zC])
      | ((with_reducible apply lx0_pass)
         ·(first | rfl | (go_simp;done))
         ·apply Eq.refl
         simp only [Act.put,zA,zB,zC])
      | ((with_reducible refine lx0_new (fun v _ _=>PickV v) rfl ?_ (stab_pure PickV) ?_ ?_)
         ·(go_simp;done)
         ·intro W hW hD
          have hW2:=hbel.trans (hW.mono hbel.size)
          unfold doesAt Oper.wp execOp
          go_simp
          (with_reducible refine (hpk W hW2).mono ?_)
          rintro e w' ⟨⟨y,b,rfl,hy⟩,hb⟩
          exact ⟨hb,fun _ _ _ _=>⟨y,b,rfl,hy⟩⟩
         intro v
         simp only [Act.put,zA,zB,zC])
      | (first | (with_reducible apply lx_move') | (with_reducible apply lx_assign')
         ·apply Eq.refl
         apply Exists.intro
         apply And.intro
         ·(go_simp;rfl)
         simp only [Act.put,zA,zB,zC])
      | ((with_reducible apply lx_extr')
         ·apply Eq.refl
         apply Exists.intro
         apply And.intro
         ·(go_simp;rfl)
         refine ⟨fun W hW hD=>?_,?_⟩
         ·obtain ⟨F,y,b,rfl,hy⟩:=hD.at 0 rfl (by kernel_rfl)
          exact ⟨_,rfl,by simp⟩
         simp only [Act.put,zA,zB,zC])
      | ((with_reducible apply lx_al 46 (u8s noId) zeroIdV)
         ·apply Eq.refl
         intro v
         simp only [Act.put,zA,zB,zC])
      | ((with_reducible apply lx_st' 12 46 (u8s noId) hsI (by kernel_rfl))
         ·exact rfl
         ·apply Eq.refl
         apply Exists.intro
         apply Exists.intro
         apply And.intro
         ·(go_simp;rfl)
         apply And.intro
         ·(go_simp;rfl)
         refine ⟨?_,fun W hW hD=>?_,?_⟩
         ·first | exact List.Mem.head _ | exact List.Mem.tail _ (List.Mem.head _) | exact List.Mem.tail _ (List.Mem.tail _ (List.Mem.head _)) | exact List.Mem.tail _ (List.Mem.tail _ (List.Mem.tail _ (List.Mem.head _)))
         ·obtain ⟨F,y,b,rfl,hy⟩:=hD.at 1 rfl (by kernel_rfl)
          exact ⟨_,rfl,by rw [u8s_size,u8s_size,hy,noId_len],u8s_one y⟩)
    refine lx0_nil ?_ fun w7 hW7 hD7=>?_
    ·exact (by simp [stsOf])
    obtain ⟨_,y7,b,rfl,hy7⟩:=hD7 _ (.tail _ (.tail _ (.head _)))
    obtain ⟨_,g,cs,rfl,hcs,hg1,_,hg2⟩:=hD7 _ (.head _)
    obtain rfl:u8s y7=cs:=by injection hcs
    clear hcs hD7
    simp only [extr2_0,extr2_1]
    have b7:=hbel.trans (hW7.mono hbel.size)
    have own7:=own_below hown hW7
    have hO7:=hO.below hW7 hO.lt
    clear hpk fB hcw
    cases b
    ·go_wp2
     go_roundw
     case rel=>exact ⟨k+1,acc,ve,by go_num,by omega,by omega,by omega,hall,hO7,own7,b7⟩
     case measure=>simp [intOf];omega
    ·obtain ⟨K,hK⟩ : ∃ K,kindS (es.map (·.st)) y7=K:=⟨_,rfl⟩
     have hKb:=kindS_bounds (s:=es.map (·.st)) y7
     have hkc:=hkc y7 hy7
     simp only [hK] at hKb hkc
     have hOV2:(oTC ve)[2]?=some ve:=rfl
     have hOVs:(2:Nat)<(oTC ve).size:=by show 2<(objC oT ve _).toArray.size;rw [List.size_toArray];simp [objC]
     have hOVp : ∀ v,(oTC ve).setIfInBounds 2 v=oTC v:=fun v=>rfl
     have hpre:=preOk2 (i:=10) (j:=12) own7 hO7 (by decide)
     have hrB:=rows2 (i:=10) (j:=12) (p:=fun w=>World.ownsRow w W3.heap.size 132 34 ve acc.length (rowsOf entC acc)) (q:=fun w=>Blk w W3.heap.size 59 (oTC ve)) (v:=ve) (fun k hk=>(World.ownsRow.lt own7 k hk).1) (Nat.le_refl W3.heap.size)
     have sz7:=b7.size
     have hno1:=own_blk_ne own7 hg2 (by decide)
     have hno2:W3.heap.size≠g:=fun e=>Blk.ne_ hO7 (e▸hg2) (by decide) rfl
     have hgI:=fun W (hF:Far (rowsOfP [(10,ve.ownBlock,fun w=>World.ownsRow w W3.heap.size 132 34 ve acc.length (rowsOf entC acc)),(12,some W3.heap.size,fun w=>Blk w W3.heap.size 59 (oTC ve))]) w7 W)=>run_ldvI_at (range_blk (hF.blk hg2 (by simp [rowsOfP];exact ⟨hno1,fun e=>hno2 e.symm⟩))) hy7
     have hkl:acc.length+1≤9223372036854775807:=by omega
     have hby:(acc.length+1)*56≤140737488355328:=by omega
     obtain ⟨A3,c3,rfl⟩:=own_form' hown
     obtain ⟨OV,hOV⟩ : ∃ OV,oTC (.slice A3 acc.length c3)=OV:=⟨_,rfl⟩
     rw [hOV] at hpre hrB hgI hOV2 hOVs hOVp hO7
     have hnm:=fun W=>name_calls11 k (by omega) W
     clear hOV hK hno1 hno2
     go_wp2
     refine wp_region_goP 13 [(10,(Value.slice A3 acc.length c3).ownBlock,fun w=>World.ownsRow w W3.heap.size 132 34 (.slice A3 acc.length c3) acc.length (rowsOf entC acc)),(12,some W3.heap.size,fun w=>Blk w W3.heap.size 59 OV)] hpre (by kernel_rfl) (by kernel_rfl) (by kernel_rfl) (by kernel_rfl) ?_
     simp only [exSp]
     iterate 13 apply Exists.intro
     repeat
      first
       | ((with_reducible apply lx_ex)
          ·(go_simp;done)
          apply Exists.intro
          apply And.intro
          ·apply Eq.refl
          apply And.intro
          ·intro W hF hD
           first
            | (have hf:=far_drew hF
               have hW2:=b7.trans (hf.below sz7 hrB)
               have q0:=fL W hW2
               have q1:W.cell? ⟨W3.heap.size,2,none⟩=some (.slice A3 acc.length c3):=by rw [(hD.was 1 rfl (by kernel_rfl)).cell];exact hOV2
               have q2:=hgI W hf
               have q3:=hkc W hW2
               go_simp
               first
                | rfl
                | (with_reducible exact q3))
            | (have hf:=far_drew hF
               have hW2:=b7.trans (hf.below sz7 hrB)
               have q0:=fL W hW2
               have q2:=hgI W hf
               have q3:=hkc W hW2
               go_simp
               first
                | rfl
                | (with_reducible exact q3))
          simp only [Act.put,zA,zB,zC])
       | ((with_reducible apply lx_pass)
          ·(first | rfl | (go_simp;done))
          ·apply Eq.refl
          simp only [Act.put,zA,zB,zC])
       | ((with_reducible refine lx_new (fun _ v _ _=>NameV v) rfl ?_ (fun _=>stab_pure NameV) ?_ ?_)
          ·(go_simp;done)
          ·intro W hF hD
           unfold doesAt Oper.wp execOp
           go_simp
           (with_reducible refine (hnm W).mono ?_)
           rintro e w' ⟨⟨cc,rfl⟩,hb⟩
           exact ⟨hb,fun _ _ _ _=>⟨cc,rfl⟩⟩
          intro v
          simp only [Act.put,zA,zB,zC])
       | (first | (with_reducible apply lx_move') | (with_reducible apply lx_assign')
          ·apply Eq.refl
          apply Exists.intro
          apply And.intro
          ·(go_simp;rfl)
          simp only [Act.put,zA,zB,zC])
       | ((with_reducible apply lx_build3 (fun cs => ∃ cc:UInt8,cs=(entC ⟨[cc],K,y7⟩).toArray))
          ·apply Eq.refl
          iterate 3 apply Exists.intro
          iterate 3
           apply And.intro
           ·(go_simp;rfl)
          refine ⟨fun W hF hD=>?_,?_⟩
          ·obtain ⟨F,cc,rfl⟩:=hD.at 0 rfl (by kernel_rfl)
           exact ⟨_,built_ent3 [cc] K y7 hy7,cc,rfl⟩
          intro v
          simp only [Act.put,zA,zB,zC])
       | ((with_reducible apply lx_slice1 Tryz.entTy (fun cs => ∃ cc:UInt8,cs=(entC ⟨[cc],K,y7⟩).toArray) (by omega))
          ·apply Eq.refl
          apply Exists.intro
          apply And.intro
          ·(go_simp;rfl)
          refine ⟨fun W hF hD=>?_,?_⟩
          ·obtain ⟨F,cs,rfl,cc,rfl⟩:=hD.at 0 rfl (by kernel_rfl)
           exact ⟨_,rfl,by rw [List.size_toArray,entC_lenS hy7],cc,rfl⟩
          intro v
          simp only [Act.put,zA,zB,zC])
       | ((with_reducible apply lx_append1 Tryz.entTy W3.heap.size (.slice A3 acc.length c3) acc.length (rowsOf entC acc) (fun xs => ∃ cc:UInt8,xs=rowsOf entC acc++entC ⟨[cc],K,y7⟩) hkl hby)
          ·exact sz7
          ·first | exact List.Mem.head _ | exact List.Mem.tail _ (List.Mem.head _) | exact List.Mem.tail _ (List.Mem.tail _ (List.Mem.head _)) | exact List.Mem.tail _ (List.Mem.tail _ (List.Mem.tail _ (List.Mem.head _)))
          ·apply Eq.refl
          apply Exists.intro
          apply Exists.intro
          apply And.intro
          ·(go_simp;rfl)
          apply And.intro
          ·(go_simp;rfl)
          refine ⟨rfl,fun W hF hD=>?_,?_⟩
          ·obtain ⟨F,g5,cs,rfl,_,hk5,cc,rfl⟩:=hD.at 0 rfl (by kernel_rfl)
           exact ⟨g5,_,rfl,hk5,by rw [List.size_toArray,entC_lenS hy7],by rw [List.toList_toArray];exact entC_one _,cc,by rw [List.toList_toArray]⟩
          intro v
          simp only [Act.put,zA,zB,zC])
       | ((with_reducible apply lx_put W3.heap.size 2 OV 59)
          ·exact (fun _=>by kernel_rfl)
          ·exact hOVs
          ·first | exact List.Mem.head _ | exact List.Mem.tail _ (List.Mem.head _) | exact List.Mem.tail _ (List.Mem.tail _ (List.Mem.head _)) | exact List.Mem.tail _ (List.Mem.tail _ (List.Mem.tail _ (List.Mem.head _)))
          ·apply Eq.refl
          apply Exists.intro
          apply Exists.intro
          apply And.intro
          ·(go_simp;rfl)
          apply And.intro
          ·(go_simp;rfl)
          refine ⟨rfl,fun W hF hD=>?_,?_⟩
          ·obtain ⟨F,xs,_,hv,_⟩:=hD.at 0 rfl (by kernel_rfl)
           obtain ⟨A6,c6,rfl⟩:=own_form' hv
           exact ⟨_,_,_,rfl⟩)
     refine lxP_nil ?_ fun w9 hF9 hD9=>?_
     ·exact List.nodup_nil
     have f9:=hF9
     obtain ⟨_,hg9,hb9⟩:=hD9 _ (.head _)
     obtain ⟨_,xs,⟨cc,rfl⟩,hv9,_⟩:=hD9 _ (.tail _ (.head _))
     rw [hOVp] at hb9
     have b9:=b7.trans (f9.below sz7 hrB)
     go_wp2
     go_roundw
     case rel=>exact ⟨k+1,acc++[⟨[cc],K,y7⟩],_,by go_num,by omega,by omega,by simp;omega,Lib.hid (fun e he=>by
      rcases List.mem_append.1 he with he | he
      ·exact hall.out e he
      ·rw [List.mem_singleton.1 he];exact ⟨hy7,rfl,hKb.1,hKb.2⟩),hb9,by unfold OwnEnts;rw [List.length_append,rowsOf_append,rowsOf_one];exact hv9,b9⟩
     case measure=>simp [intOf];omega
   ·have hki5 : ¬ (k:Int)<5:=by omega
    clear fBk hpk hkc
    obtain ⟨A3,c3,rfl⟩:=own_form' hown
    have hz9:=z3.below hbel z3.lt
    have hokO:ObjOk ⟨2,[],acc,noId,[],0,[],noId,0,[]⟩:=⟨noId_len,noId_len,fun e he=>(hall.out e he).ok,by simp,by simp,by simp,by simp,by simp,by simp,by simp,by simp,by simp⟩
    have hOo:ObjB wr W3.heap.size ⟨2,[],acc,noId,[],0,[],noId,0,[]⟩ (.slice A3 acc.length c3) (.slice none 0 0):=⟨hO,noId_len,noId_len⟩
    have ld:=run_ldvO hOo hokO
    have hcs:(objC ⟨2,[],acc,noId,[],0,[],noId,0,[]⟩ (.slice A3 acc.length c3) (.slice none 0 0)).toArray.size=72:=by rw [List.size_toArray];exact objC_len hokO _ _
    have hc1:=objC_all ⟨2,[],acc,noId,[],0,[],noId,0,[]⟩ A3 none acc.length c3 0 0
    have hfin:Hid (∀ w',OwnEnts w' W3.heap.size (.slice A3 acc.length c3) acc→MkR w (.returned (.agg (objC ⟨2,[],acc,noId,[],0,[],noId,0,[]⟩ (.slice A3 acc.length c3) (.slice none 0 0)).toArray)) w'):=Lib.hid fun w' ho=>⟨_,A3,none,c3,0,rfl,⟨by show acc.length≤_;omega,fun e he=>by have:=(hall.out e he).name;omega,by simp,by simp,by simp,by simp⟩,hokO,own_low' ho b3.size,World.ownsRow_nil _ _ _ _⟩
    have b9:=bthen b3 b3.size hbel
    generalize (objC ⟨2,[],acc,noId,[],0,[],noId,0,[]⟩ (.slice A3 acc.length c3) (.slice none 0 0)).toArray=OR at *
    go_wp2_with (first
     | (refine wpList_store_row rfl 59 (.tmp 6) (.tmp 62) rfl W2.heap.size OR rfl rfl _ _ hz9 (hsz _ hcs) (hz72.trans hcs.symm) hc1 ?_))
    refine bodyPost_ret (results_cell_row rfl _ _ W2.heap.size _ _ _ _ rfl (setRow_heap _ _ _ _ _ _ hz9) Tryz.underlying59 rfl (hsz _ hcs)) rfl ⟨hfin.out _ (own_row hown hlt2 OR),below_setRow b9 hle2 _⟩
  ·have hki : ¬ (k:Int)<(x.refs.length:Int):=by omega
   clear fBk hpk hkc
   obtain ⟨A3,c3,rfl⟩:=own_form' hown
   have hz9:=z3.below hbel z3.lt
   have hokO:ObjOk ⟨2,[],acc,noId,[],0,[],noId,0,[]⟩:=⟨noId_len,noId_len,fun e he=>(hall.out e he).ok,by simp,by simp,by simp,by simp,by simp,by simp,by simp,by simp,by simp⟩
   have hOo:ObjB wr W3.heap.size ⟨2,[],acc,noId,[],0,[],noId,0,[]⟩ (.slice A3 acc.length c3) (.slice none 0 0):=⟨hO,noId_len,noId_len⟩
   have ld:=run_ldvO hOo hokO
   have hcs:(objC ⟨2,[],acc,noId,[],0,[],noId,0,[]⟩ (.slice A3 acc.length c3) (.slice none 0 0)).toArray.size=72:=by rw [List.size_toArray];exact objC_len hokO _ _
   have hc1:=objC_all ⟨2,[],acc,noId,[],0,[],noId,0,[]⟩ A3 none acc.length c3 0 0
   have hfin:Hid (∀ w',OwnEnts w' W3.heap.size (.slice A3 acc.length c3) acc→MkR w (.returned (.agg (objC ⟨2,[],acc,noId,[],0,[],noId,0,[]⟩ (.slice A3 acc.length c3) (.slice none 0 0)).toArray)) w'):=Lib.hid fun w' ho=>⟨_,A3,none,c3,0,rfl,⟨by show acc.length≤_;omega,fun e he=>by have:=(hall.out e he).name;omega,by simp,by simp,by simp,by simp⟩,hokO,own_low' ho b3.size,World.ownsRow_nil _ _ _ _⟩
   have b9:=bthen b3 b3.size hbel
   generalize (objC ⟨2,[],acc,noId,[],0,[],noId,0,[]⟩ (.slice A3 acc.length c3) (.slice none 0 0)).toArray=OR at *
   go_wp2_with (first
    | (refine wpList_store_row rfl 59 (.tmp 6) (.tmp 62) rfl W2.heap.size OR rfl rfl _ _ hz9 (hsz _ hcs) (hz72.trans hcs.symm) hc1 ?_))
   refine bodyPost_ret (results_cell_row rfl _ _ W2.heap.size _ _ _ _ rfl (setRow_heap _ _ _ _ _ _ hz9) Tryz.underlying59 rfl (hsz _ hcs)) rfl ⟨hfin.out _ (own_row hown hlt2 OR),below_setRow b9 hle2 _⟩
end
section
theorem make1_calls {w:World} {vm:Value} {es:List DiL} (h:DocSt w vm es) (ids:List Txt) (hok : ∀ x∈ids,x.length=32) (hil:ids.length≤1000) (vi:Value) (hi:Ids w vi ids) (x:SdL) (hx:SdOk w x) (hr:x.refs.length≤10) (ht:x.text.length≤300) :
 Calls Tryz.prog 40 #[.agg #[vm],vi, .agg (sdC x).toArray] w fun e w'=>MkR w e w'∧Below w.heap.size w w':=by
 have h4:(x.kind.toNat:Int)%4=0∨(x.kind.toNat:Int)%4=1∨(x.kind.toNat:Int)%4=2∨(x.kind.toNat:Int)%4=3:=by omega
 rcases h4 with h4 | h4 | h4 | h4
 ·exact make_blob h ids hok hil vi hi x hx hr ht h4
 ·exact make_tree h ids hok hil vi hi x hx hr ht h4
 ·exact make_commit h ids hok hil vi hi x hx hr ht h4
 ·exact make_tag h ids hok hil vi hi x hx hr ht h4
def ldvSd (p:Addr):Sem Value:=loadVar 99 p
theorem ldvSd_eq (p:Addr):loadVar 99 p=ldvSd p:=rfl
theorem run_ldvSd {w:World} {g o:Nat} {e:SdL} (h:w.rangeAt g o (sdC e)):(ldvSd ⟨g,o,none⟩).run Tryz.prog w = .ok (.agg (sdC e).toArray) w:=run_loadVar_mid w g o 99 (sdC e) _ h Tryz.underlying99 rfl szSeed
attribute [local go_sem ↓] ldvI_eq ldvS_eq stvI_eq stvS_eq ldvSd_eq
def MkV (B:Nat) (v:Value) (F:Foot) (w:World):Prop := ∃ o A1 A2 k1 k2,v = .agg (objC o (.slice A1 o.ents.length k1) (.slice A2 o.pars.length k2)).toArray∧Small o∧ObjOk o∧ownR B 132 34 o.ents.length (rowsOf entC o.ents) (.slice A1 o.ents.length k1) F w∧ownR B 46 32 o.pars.length (rowsOf idC o.pars) (.slice A2 o.pars.length k2) F w
theorem MkV_stab (B:Nat) (v:Value):Stab (MkV B v):=fun F F' w w' hf ha ⟨o,A1,A2,k1,k2,e,h1,h2,h3,h4⟩=>⟨o,A1,A2,k1,k2,e,h1,h2,ownR_stab _ _ _ _ _ _ F F' w w' hf ha h3,ownR_stab _ _ _ _ _ _ F F' w w' hf ha h4⟩
def EncV (v:Value):Prop := ∃ t b,v = .tuple #[.string (B t), .bool b]∧t.length≤4096
theorem encD_V (o:ObjL):EncV (encD o):=by
 cases h:encO o with
 | none=>exact ⟨[],false,encD_none h,by simp⟩
 | some t=>
   refine ⟨t,true,encD_some h,?_⟩
   unfold encO at h
   split at h
   ·rename_i hc
    injection h with h
    rw [←h];exact hc.2
   ·cases h
theorem DocSt.one {w:World} {vm:Value} {es:List DiL} (h:DocSt w vm es):vm.oneCell'=true:=by
 obtain ⟨A,c,rfl⟩:=own_form' h.own
 rfl
theorem grow_id (w:World) (a b:Array Value) (T:TypeId) (c:Array Value) (S:TypeId):Blk (((w.alloc (.cells a T)).alloc (.cells b S)).setRow w.heap.size c) (w.heap.size+1) S b:=by
 unfold Blk
 rw [setRow_other _ _ _ _ (by omega)]
 have:=Blk.new (w.alloc (.cells a T)) S b
 rwa [size_alloc'] at this
def GrowR (w:World) (n:Nat) (e:Ending) (w':World):Prop := ∃ vm es vi ids,e = .returned (.tuple #[.agg #[vm],vi])∧DocSt w' vm es∧es.length≤n∧OwnIds w' w.heap.size vi ids∧ids.length≤n∧(∀ x∈ids,x.length=32)∧Apart vi vm es
set_option maxRecDepth 100000 in
set_option maxHeartbeats 16000000 in
theorem grow_calls (l:List SdL) (hl:l.length≤100) (hsm : ∀ x∈l,x.refs.length≤10∧x.text.length≤300) (va:Value) (w:World) (h:Seeds w va l) :
 Calls Tryz.prog 22 #[va] w fun e w'=>GrowR w l.length e w'∧Below w.heap.size w w':=by
 have hzI:=zeroIdV
 have hZ32:(u8s noId).size=32:=by rw [u8s_size,noId_len]
 have hbS:Tryz.prog.built 28 []=some #[.slice none 0 0]:=by kernel_rfl
 have hrb:=fun W=>run_build (P:=Tryz.prog) W _ _ _ hbS
 have hS0:(#[Value.slice none 0 0]:Array Value).size=1:=rfl
 have hS1:(#[Value.slice none 0 0]:Array Value).all (·.oneCell')=true:=by kernel_rfl
 obtain ⟨W1,hW1⟩ : ∃ W1,w.alloc (.cells #[.slice none 0 0] 28)=W1:=⟨_,rfl⟩
 have r1:Blk W1 w.heap.size 28 #[.slice none 0 0]:=by rw [←hW1];exact Blk.new _ _ _
 have b1:Below w.heap.size w W1:=by rw [←hW1];exact (Below.refl _ _).alloc (Nat.le_refl _) _
 have hlt0:=r1.lt
 have hat0:=h.at_
 have heach:=h.each
 obtain ⟨A,cap,rfl,hcap1,hcap2,hat⟩:=hat0
 clear h
 go_enter Tryz.func22,Tryz.ntmps22
 go_wp2_with (first
  | ((with_reducible refine lit_new 28 (.tmp 4) (.tmp 12) #[.slice none 0 0] 1 szDSt hS0 hS1 _ ?_ ?_ ?_ ?_)
     ·exact hS0
     ·rfl
     ·rfl
     intro W2 m2 b12))
 have hlt1:=m2.lt
 have hD2:DocSt W2 (.slice none 0 0) []:=⟨World.ownsRow_nil _ _ _ _,fun e he=>by simp at he,StoOk.nil⟩
 clear hrb hS0 hS1
 go_loopw [5,6] (fun v5 v6 wr => ∃ (k:Nat) (vm:Value) (es:List DiL) (ids:List Txt),v6 = .int .i64 k∧k≤l.length∧es.length≤k∧ids.length≤k∧Hid (∀ x∈ids,x.length=32)∧Blk wr W1.heap.size 28 #[vm]∧DocSt wr vm es∧OwnIds wr W2.heap.size v5 ids∧Apart v5 vm es∧Below W1.heap.size W1 wr∧W2.heap.size≤wr.heap.size) (fun _ v6 _=>l.length-(intOf v6).toNat)
 case atStart=>exact ⟨0,_,[],[],rfl,by omega,by simp,by simp,Lib.hid (fun x hx=>by simp at hx),m2,hD2,World.ownsRow_nil _ _ _ _,fun k hk=>by simp [Value.ownBlock] at hk,b12,Nat.le_refl _⟩
 case round=>
  obtain ⟨k,vm,es,ids,rfl,hk,hel,hil,hids,hM,hD,hown,hap,hbel,hsz2⟩:=hrel
  by_cases hlt:k<l.length
  ·have hki:(k:Int)<(l.length:Int):=by omega
   obtain ⟨ga,oa,rfl,hga,hca⟩:=hat (by omega)
   obtain ⟨x,hx⟩ : ∃ x,l[k]?=some x:=⟨_,List.getElem?_eq_getElem hlt⟩
   have hxm:=List.mem_of_getElem? hx
   obtain ⟨hx1,hx2⟩:=hsm x hxm
   have hxo:=heach x hxm
   have hbr:Below w.heap.size w wr:=bthen b1 b1.size hbel
   have fS:=fun W (hW:Below wr.heap.size wr W)=>run_ldvSd (rangeAt_below (hca k x hx) hga (bthen hbr hbr.size hW))
   have fM:=fun W (hW:Below wr.heap.size wr W)=>run_ldvS (hM.below hW hM.lt)
   have hiW:=fun W (hW:Below wr.heap.size wr W)=>SliceAt.of_own (fun e h=>idC_len (hids.out e h)) (own_below hown hW)
   have hmk:=fun W (hW:Below wr.heap.size wr W)=>make1_calls (hD.below hW) ids hids.out (by omega) _ (hiW W hW) x (hxo.below (bthen hbr hbr.size hW)) hx1 hx2
   have hlth:(k:Nat)<l.length:=hlt
   clear hx hca hat heach hsm hxm hxo hiW
   generalize (sdC x).toArray=SC at *
   go_wp2
   refine wp_region_go0 13 (by kernel_rfl) (by kernel_rfl) (by kernel_rfl) (by kernel_rfl) ?_
   simp only [exSp]
   iterate 13 apply Exists.intro
   repeat
    first
     | ((with_reducible apply lx0_ex)
        ·(go_simp;done)
        apply Exists.intro
        apply And.intro
        ·apply Eq.refl
        apply And.intro
        ·intro W hW hD
         have q0:=fM W hW
         have q1:=fS W hW
         go_simp
         rfl
        simp only [Act.put,zA,zB,zC])
     | ((with_reducible apply lx0_pass)
        ·(first | rfl | (go_simp;done))
        ·apply Eq.refl
        simp only [Act.put,zA,zB,zC])
     | ((with_reducible refine lx0_new (MkV wr.heap.size) rfl ?_ (MkV_stab _) ?_ ?_)
        ·(go_simp;done)
        ·intro W hW hD
         unfold doesAt Oper.wp execOp
         go_simp
         (with_reducible refine (hmk W hW).mono ?_)
         rintro e w' ⟨⟨o,A1,A2,k1,k2,rfl,h1,h2,h3,h4⟩,hb⟩
         exact ⟨hb,fun F f1 f2 f3=>⟨o,A1,A2,k1,k2,rfl,h1,h2,ownR_new hW.size h3 F f1 f2 f3,ownR_new hW.size h4 F f1 f2 f3⟩⟩
        intro v
        simp only [Act.put,zA,zB,zC])
     | ((with_reducible refine lx0_new (fun v _ _=>EncV v) rfl ?_ (stab_pure EncV) ?_ ?_)
        ·(go_simp;done)
        ·intro W hW hD
         obtain ⟨F,o,A1,A2,k1,k2,rfl,h1,h2,h3,h4⟩:=hD.at 0 rfl (by kernel_rfl)
         have hc:=refEncode_calls o h1 A1 A2 k1 k2 W ⟨h2,SliceAt.of_own (fun e h=>entC_len (h2.ents e h)) h3.1,SliceAt.of_own (fun e h=>idC_len (h2.pars e h)) h4.1⟩
         unfold doesAt Oper.wp execOp
         go_simp
         (with_reducible refine hc.mono ?_)
         rintro e w' ⟨rfl,hb⟩
         exact ⟨hb,fun _ _ _ _=>encD_V o⟩
        intro v
        simp only [Act.put,zA,zB,zC])
     | (first | (with_reducible apply lx_move') | (with_reducible apply lx_assign')
        ·apply Eq.refl
        apply Exists.intro
        apply And.intro
        ·(go_simp;rfl)
        simp only [Act.put,zA,zB,zC])
     | ((with_reducible apply lx_extr')
        ·apply Eq.refl
        apply Exists.intro
        apply And.intro
        ·(go_simp;rfl)
        refine ⟨fun W hW hD=>?_,?_⟩
        ·obtain ⟨F,t,b,rfl,ht⟩:=hD.at 0 rfl (by kernel_rfl)
         exact ⟨_,rfl,by simp⟩
        simp only [Act.put,zA,zB,zC])
   refine lx0_nil ?_ fun w6 hW6 hD6=>?_
   ·exact List.nodup_nil
   obtain ⟨_,t,b,rfl,htl⟩:=hD6 _ (.head _)
   simp only [extr2_0,extr2_1]
   have b6:=hbel.trans (hW6.mono hbel.size)
   have M6:=hM.below hW6 hM.lt
   have D6:=hD.below hW6
   have own6:=own_below hown hW6
   have sz6:W2.heap.size≤w6.heap.size:=Nat.le_trans hsz2 hW6.size
   clear hD6 hmk fS
   cases b
   ·go_wp2
    go_roundw
    case rel=>exact ⟨k+1,vm,es,ids,by go_num,by omega,by omega,by omega,hids,M6,D6,own6,hap,b6,sz6⟩
    case measure=>simp [intOf];omega
   ·have lM:=run_ldvS M6
    have hwi:=Lib.hid (docWith_calls D6 (by omega) t (by omega))
    have hpl:=putS_len (es.map (·.st)) t
    rw [List.length_map] at hpl
    have hpi:(putI t).length=32:=by
     unfold putI
     split
     ·rfl
     ·exact shaOf_length _
    obtain ⟨pn,hpn⟩ : ∃ pn,putI t=pn:=⟨_,rfl⟩
    obtain ⟨bf,hbf⟩ : ∃ bf,(decO t).isSome=bf:=⟨_,rfl⟩
    obtain ⟨PL,hPL⟩ : ∃ PL,putS (es.map (·.st)) t=PL:=⟨_,rfl⟩
    unfold WithR at hwi
    rw [hpn] at hpi hwi
    rw [hbf,hPL] at hwi
    rw [hPL] at hpl
    have hp32:(u8s pn).size=32:=by rw [u8s_size,hpi]
    have hpo:=u8s_one pn
    have hszI:(Tryz.prog.info? 46).map (·.size)=some (u8s pn).size:=by rw [hp32];exact sz32
    clear hpn hbf hPL
    go_upto_region 9 with (first
     | ((with_reducible refine hwi.out.mono ?_);rintro e w7 ⟨⟨vm7,es7,rfl,D7,hmap,hold, -⟩,b67⟩)
     | (refine wpList_store_row rfl 28 (.tmp 9) (.tmp 35) rfl w7.heap.size #[vm7] rfl rfl _ #[.slice none 0 0] ((Blk.new _ _ _).alloc _) szDSt rfl (by simp [D7.one]) ?_)
     | (refine wpList_store_row rfl 46 (.tmp 10) (.tmp 36) rfl (w7.heap.size+1) (u8s pn) rfl rfl _ (u8s noId) (grow_id _ _ _ _ _ _) hszI (by rw [hp32,hZ32]) hpo ?_))
    obtain ⟨W8,hW8⟩ : ∃ W8,(((w7.alloc (.cells #[.slice none 0 0] 28)).alloc (.cells (u8s noId) 46)).setRow w7.heap.size #[vm7]).setRow (w7.heap.size+1) (u8s pn)=W8:=⟨_,rfl⟩
    have b78:Below w7.heap.size w7 W8:=by
     rw [←hW8]
     exact below_setRow (below_setRow (((Below.refl _ _).alloc (Nat.le_refl _) _).alloc (by rw [size_alloc'];omega) _) (Nat.le_refl _) _) (by omega) _
    have g9:Blk W8 w7.heap.size 28 #[vm7]:=by
     rw [←hW8]
     unfold Blk
     rw [setRow_other _ _ _ _ (by omega)]
     exact setRow_heap _ _ _ _ _ _ ((Blk.new _ _ _).alloc _)
    have g10:Blk W8 (w7.heap.size+1) 46 (u8s pn):=by
     rw [←hW8]
     exact setRow_heap _ _ _ _ _ _ (grow_id _ _ _ _ _ _)
    rw [hW8]
    have b68:Below w6.heap.size w6 W8:=bthen b67 b67.size b78
    have b8:=b6.trans (b68.mono b6.size)
    have M8:=M6.below b68 M6.lt
    have D8:=D7.below b78
    have O8:=D6.below b68
    have own8:=own_below own6 b68
    have sz8:W2.heap.size≤W8.heap.size:=Nat.le_trans sz6 b68.size
    have hel7:es7.length≤es.length+1:=by rw [←hmap,List.length_map] at hpl;exact hpl
    have hap8:=hap.with_ own6 own8 D8 hold
    clear hwi hW8 hmap hold
    cases bf
    ·go_wp2
     go_roundw
     case rel=>exact ⟨k+1,vm,es,ids,by go_num,by omega,by omega,by omega,hids,M8,O8,own8,hap,b8,sz8⟩
     case measure=>simp [intOf];omega
    ·have l9:=run_ldvS g9
     have hno:=D8.blk_ne M8 (by decide) (by decide) (by decide)
     have D9:=D8.row hno #[vm7]
     have own9:=own_row own8 hlt1 #[vm7]
     have hne10:w7.heap.size+1≠W1.heap.size:=by have:=M6.lt;have:=b67.size;omega
     have g109:Blk (W8.setRow W1.heap.size #[vm7]) (w7.heap.size+1) 46 (u8s pn):=keep_row g10 hne10 _
     have l10:=run_ldvI_at (range_blk g109) hpi
     have M9:Blk (W8.setRow W1.heap.size #[vm7]) W1.heap.size 28 #[vm7]:=setRow_heap _ _ _ _ _ _ M8
     have b9:=below_setRow b8 (Nat.le_refl _) #[vm7]
     have sz9:W2.heap.size≤(W8.setRow W1.heap.size #[vm7]).heap.size:=by simpa using sz8
     have hid32:(u8s pn).size=32:=hp32
     have hidl:(u8s pn).size=1*32:=hp32
     have hid1 : ∀ u∈(u8s pn).toList,u.oneCell'=true:=idC_one pn
     have hids2:Hid (∀ z∈ids++[pn],z.length=32):=Lib.hid fun z hz=>by
      rcases List.mem_append.1 hz with hz | hz
      ·exact hids.out z hz
      ·rw [List.mem_singleton.1 hz];exact hpi
     have hrow:Hid (rowsOf idC (ids++[pn])=rowsOf idC ids++(u8s pn).toList):=Lib.hid (by rw [rowsOf_append,rowsOf_one];rfl)
     have hkl:ids.length+1≤9223372036854775807:=by omega
     have hm2:(ids.length+1)*32≤140737488355328:=by omega
     have hone7:(#[vm7]:Array Value).all (·.oneCell')=true:=by simp [D7.one]
     have hdM:=own_blk_ne own9 M9 (by decide)
     have hszS1:(Tryz.prog.info? 28).map (·.size)=some (#[vm7]:Array Value).size:=szDSt
     clear hpi g10 g109 g9 hp32
     generalize u8s pn=XC at *
     go_wp2_with (first
      | (refine wpList_store_row rfl 28 (.tmp 4) (.tmp 39) rfl W1.heap.size #[vm7] rfl rfl _ _ M8 hszS1 rfl hone7 ?_)
      | ((with_reducible refine lit_slice1 (.tmp 41) Tryz.idsTy XC hid32 (by omega) ?_ ?_);rfl)
      | (at_builtin
         (with_reducible refine lit_append_new (.tmp 40) (.tmp 42) 1 _ Tryz.idsTy own9 XC hidl hid1 hkl hm2 sz9 ?_ ?_ ?_);rfl;rfl
         intro v10 w10 hv10 hb10 hg10 hn10
         have b10:=b9.trans (hb10.mono (Nat.le_of_lt hlt1))
         have M10:=Blk.grown M9 hg10 hdM
         have D10:=D9.grown hg10 (fun k hk=>hap8 k hk)
         have hap10:=(Apart.newer hap8 D9 hn10)
         have hap10b:Apart v10 vm7 es7:=hap10
         have sz10:W2.heap.size≤w10.heap.size:=Nat.le_trans sz9 hg10.size
         clear hg10 hn10 hap10))
     go_roundw
     case rel=>exact ⟨k+1,vm7,es7,ids++[pn],by go_num,by omega,by omega,by simp;omega,hids2,M10,D10,by unfold OwnIds;rw [List.length_append,hrow.out];exact hv10,hap10b,b10,sz10⟩
     case measure=>simp [intOf];omega
  ·have hki : ¬ (k:Int)<(l.length:Int):=by omega
   have lM:=run_ldvS hM
   have rr:=r1.below hbel hlt0
   have hno:=hD.blk_ne rr (by decide) (by decide) (by decide)
   have hbr:Below w.heap.size w wr:=bthen b1 b1.size hbel
   have hszS1:(Tryz.prog.info? 28).map (·.size)=some (#[vm]:Array Value).size:=szDSt
   have hone7:(#[vm]:Array Value).all (·.oneCell')=true:=by simp [hD.one]
   clear hat heach hsm
   go_wp2_with (first
    | (refine wpList_store_row rfl 28 (.tmp 2) (.tmp 44) rfl w.heap.size #[vm] rfl rfl _ _ rr hszS1 rfl hone7 ?_))
   refine bodyPost_ret (results_row_tmp rfl _ _ w.heap.size _ _ _ _ rfl (setRow_heap _ _ _ _ _ _ rr) Tryz.underlying28 rfl hszS1) rfl ⟨⟨vm,es,_,ids,rfl,hD.row hno _,by omega,own_down (own_row hown (Nat.lt_trans hlt0 hlt1) _) (Nat.le_of_lt (Nat.lt_trans hlt0 hlt1)),by omega,hids.out,by exact hap⟩,below_setRow hbr (Nat.le_refl _) _⟩
end
section
attribute [local go_sem ↓] ldvI_eq ldvS_eq
theorem built_one (c:UInt8):Tryz.prog.built 46 [(0, .int .u8 c.toNat)]=some (u8s (c::List.replicate 31 0)):=by kernel_rfl
def IdsR (w:World) (n:Nat) (e:Ending) (w':World):Prop := ∃ v r,e = .returned v∧OwnIds w' w.heap.size v r∧(∀ x∈r,x.length=32)∧r.length=n
set_option maxRecDepth 100000 in
set_option maxHeartbeats 4000000 in
theorem ids12_calls (all:List Txt) (haok : ∀ x∈all,x.length=32) (hal:all.length≤1000) (va:Value) (w:World) (hva:Ids w va all) (l:Txt) (hl1000:l.length≤1000) (vl:Value) (hvl:SliceAt w 1 byC vl l) :
 Calls Tryz.prog 8 #[va,vl] w fun e w'=>IdsR w l.length e w'∧Below w.heap.size w w':=by
 obtain ⟨A,cap,rfl,hcap1,hcap2,hat⟩:=hvl
 obtain ⟨Aa,ca,rfl,hca1,hca2,hata⟩:=hva
 go_enter Tryz.func8,Tryz.ntmps8
 go_wp2_with (fail)
 go_loopg [5,6] l.length (fun f vo vi wr => ∃ (k:Nat) (acc:List Txt),vi = .int .i64 k∧k+f=l.length∧OwnIds wr w.heap.size vo acc∧Hid ((∀ x∈acc,x.length=32)∧acc.length=k)∧Below w.heap.size w wr)
 case atStart=>exact ⟨0,[],rfl,by omega,World.ownsRow_nil _ _ _ _,Lib.hid ⟨fun x hx=>by simp at hx,rfl⟩,Below.refl _ _⟩
 case round=>
  obtain ⟨k,acc,rfl,hkf,hown,hacc,hbel⟩:=hrel
  have hbs:=hbel.size
  obtain ⟨Ao,co,rfl⟩:=own_form' hown
  cases gk with
  | zero=>
    have hki : ¬ (k:Int)<(l.length:Int):=by omega
    have hke:Hid (k=l.length):=Lib.hid (by omega)
    clear hat hata
    go_wp2_with (fail)
    go_ret
    exact ⟨⟨_,acc,rfl,hown,hacc.out.1,hacc.out.2.trans hke.out⟩,hbel⟩
  | succ f=>
    have hki:(k:Int)<(l.length:Int):=by omega
    have hkl:k<l.length:=by omega
    obtain ⟨ga,oa,rfl,hga,hca⟩:=hat (by omega)
    obtain ⟨c,hc⟩ : ∃ c,l[k]?=some c:=⟨_,List.getElem?_eq_getElem (by omega)⟩
    have hcc:wr.cell? ⟨ga,oa+k,none⟩=some (.int .u8 c.toNat):=by
     have:=rangeAt_below (hca k c hc) hga hbel 0 _ rfl
     rwa [Nat.add_zero,Nat.mul_one] at this
    have hc256:c.toNat<256:=c.toNat_lt
    have hwc:IntKind.i64.wrap ((c.toNat:Nat):Int)=(c.toNat:Int):=IntWalk.i64_in _ (by omega)
    have hal2:acc.length≤1000:=by have:=hacc.out.2;omega
    have hAk:acc.length+1≤9223372036854775807:=by omega
    have hAb:(acc.length+1)*32≤140737488355328:=by omega
    have hrb:=built_one c
    have key : ∀ x:Txt,x.length=32→Hid ((x.length=32∧(u8s x).size=32∧(u8s x).size=1*32 ∧ ∀ u∈(u8s x).toList,u.oneCell'=true)∧(acc++[x]).length=acc.length+1∧rowsOf idC (acc++[x])=rowsOf idC acc++(u8s x).toList∧((∀ z∈acc++[x],z.length=32)∧(acc++[x]).length=k+1)):=fun x hx=>Lib.hid (by
     have h32:(u8s x).size=32:=by rw [u8s_size,hx]
     have hlen:(acc++[x]).length=acc.length+1:=by rw [List.length_append];rfl
     exact ⟨⟨hx,h32,h32,idC_one x⟩,hlen,by rw [rowsOf_append,rowsOf_one];rfl,fun z hz=>(List.mem_append.1 hz).elim (hacc.out.1 z) fun h=>by rw [List.mem_singleton.1 h];exact hx,by rw [hlen,hacc.out.2]⟩)
    clear hca hat hc
    have hx0:(c::List.replicate 31 (0:UInt8)).length=32:=by simp
    by_cases h0:0<all.length
    ·have h0i : ¬ (all.length:Int)=0:=by omega
     have h0b:((all.length:Int)==0)=false:=by simpa using h0i
     by_cases h200:200≤c.toNat
     ·have h2i:(200:Int)≤(c.toNat:Int):=by omega
      obtain ⟨x,hx⟩ : ∃ x,c::List.replicate 31 (0:UInt8)=x:=⟨_,rfl⟩
      rw [hx] at hrb hx0
      have hk0:=key x hx0
      obtain ⟨⟨_,hx32,hx132,hx1⟩,_⟩:=hk0.out
      clear key hx hata h0
      go_wp2_with (first
       | ((with_reducible refine lit_build1 hrb ?_ ?_);rfl)
       | ((with_reducible refine lit_slice1 (.tmp 29) Tryz.idsTy (u8s x) hx32 (by omega) ?_ ?_);rfl)
       | ((with_reducible refine lit_append_new (.tmp 24) (.tmp 30) 1 _ Tryz.idsTy hown (u8s x) hx132 hx1 hAk hAb hbs ?_ ?_ ?_);rfl;rfl
          intro v8 w8 ho8 hb8 hg8 hn8))
      have ho9:OwnIds w8 w.heap.size v8 (acc++[x]):=by unfold OwnIds;rw [hk0.out.2.1,hk0.out.2.2.1];exact ho8
      have hacc9:=Lib.hid hk0.out.2.2.2
      clear hown hacc hk0 ho8
      go_roundg f
      case rel=>exact ⟨k+1,acc++[x],by go_num,by omega,ho9,hacc9,hbel.trans hb8⟩
      case measure=>omega
     ·have h2i : ¬ (200:Int)≤(c.toNat:Int):=by omega
      obtain ⟨m,hm⟩ : ∃ m:Nat,(all.length:Int)-1-(c.toNat:Int)%(all.length:Int)=(m:Int):=by
       refine Int.eq_ofNat_of_zero_le ?_
       have:=Int.emod_lt_of_pos (c.toNat:Int) (show (0:Int)<(all.length:Int) by omega)
       omega
      have hmn:=Int.emod_nonneg (c.toNat:Int) h0i
      have hml:m<all.length:=by omega
      obtain ⟨g3,o3,rfl,hg3,hc3⟩:=hata h0
      obtain ⟨x,hx⟩ : ∃ x,all[m]?=some x:=⟨_,List.getElem?_eq_getElem hml⟩
      have hxi:=haok x (List.mem_of_getElem? hx)
      have hlx:(ldvI ⟨g3,o3+m*32,none⟩).run Tryz.prog wr = .ok (.agg (u8s x)) wr:=run_ldvI_at (show World.rangeAt wr g3 (o3+m*32) (u8s x).toList from rangeAt_below (hc3 m x hx) hg3 hbel) hxi
      have hmi:(m:Int)<(all.length:Int):=by omega
      have hLi:(0:Int)<(all.length:Int):=by omega
      have hk0:=key x hxi
      obtain ⟨⟨_,hx32,hx132,hx1⟩,_⟩:=hk0.out
      clear key hx hc3 hata hrb hx0
      generalize all.length=LN at *
      have hw1:IntKind.i64.wrap ((LN:Int)-1)=(LN:Int)-1:=IntWalk.i64_in _ (by omega)
      have hw2:IntKind.i64.wrap ((c.toNat:Int)%(LN:Int))=(c.toNat:Int)%(LN:Int):=IntWalk.i64_in _ (by have:=Int.emod_lt_of_pos (c.toNat:Int) hLi;omega)
      have hw3:IntKind.i64.wrap ((m:Int))=(m:Int):=IntWalk.i64_in _ (by omega)
      go_wp2_with (first
       | ((with_reducible refine lit_slice1 (.tmp 47) Tryz.idsTy (u8s x) hx32 (by omega) ?_ ?_);rfl)
       | ((with_reducible refine lit_append_new (.tmp 32) (.tmp 48) 1 _ Tryz.idsTy hown (u8s x) hx132 hx1 hAk hAb hbs ?_ ?_ ?_);rfl;rfl
          intro v8 w8 ho8 hb8 hg8 hn8))
      have ho9:OwnIds w8 w.heap.size v8 (acc++[x]):=by unfold OwnIds;rw [hk0.out.2.1,hk0.out.2.2.1];exact ho8
      have hacc9:=Lib.hid hk0.out.2.2.2
      clear hown hacc hk0 ho8 hlx hm hw1 hw2 hw3
      go_roundg f
      case rel=>exact ⟨k+1,acc++[x],by go_num,by omega,ho9,hacc9,hbel.trans hb8⟩
      case measure=>omega
    ·obtain rfl:all=[]:=List.length_eq_zero_iff.1 (by omega)
     obtain ⟨x,hx⟩ : ∃ x,c::List.replicate 31 (0:UInt8)=x:=⟨_,rfl⟩
     rw [hx] at hrb hx0
     have hk0:=key x hx0
     obtain ⟨⟨_,hx32,hx132,hx1⟩,_⟩:=hk0.out
     clear key hx hata h0
     go_wp2_with (first
      | ((with_reducible refine lit_build1 hrb ?_ ?_);rfl)
      | ((with_reducible refine lit_slice1 (.tmp 29) Tryz.idsTy (u8s x) hx32 (by omega) ?_ ?_);rfl)
      | ((with_reducible refine lit_append_new (.tmp 24) (.tmp 30) 1 _ Tryz.idsTy hown (u8s x) hx132 hx1 hAk hAb hbs ?_ ?_ ?_);rfl;rfl
         intro v8 w8 ho8 hb8 hg8 hn8))
     have ho9:OwnIds w8 w.heap.size v8 (acc++[x]):=by unfold OwnIds;rw [hk0.out.2.1,hk0.out.2.2.1];exact ho8
     have hacc9:=Lib.hid hk0.out.2.2.2
     clear hown hacc hk0 ho8
     go_roundg f
     case rel=>exact ⟨k+1,acc++[x],by go_num,by omega,ho9,hacc9,hbel.trans hb8⟩
     case measure=>omega
def FewH (h:HisL):Prop:=(h.seeds.length≤24 ∧ ∀ x∈h.seeds,x.refs.length≤10∧x.text.length≤300)∧h.out.length≤10∧h.frm.length≤10∧h.cut.length≤10
set_option maxRecDepth 100000 in
set_option maxHeartbeats 4000000 in
theorem named_calls (h:HisL) (hf:FewH h) (vs vo vf vc:Value) (w:World) (hh:HisOk w vs vo vf vc h) :
 Calls Tryz.prog 9 #[.agg #[vs,vo,vf,vc]] w fun e w'=>(∃ v r,e = .returned v∧OwnIds w' w.heap.size v r∧(∀ x∈r,x.length=32)∧r.length≤24)∧Below w.heap.size w w':=by
 obtain ⟨W1,hW1⟩ : ∃ W1,w.alloc (.cells #[vs,vo,vf,vc] 25)=W1:=⟨_,rfl⟩
 have s1:Blk W1 w.heap.size 25 #[vs,vo,vf,vc]:=by rw [←hW1];exact Blk.new _ _ _
 have b1:Below w.heap.size w W1:=by rw [←hW1];exact (Below.refl _ _).alloc (Nat.le_refl _) _
 have c0:W1.cell? ⟨w.heap.size,0,none⟩=some vs:=s1.cell 0
 have hgr:=Lib.hid (grow_calls h.seeds (Nat.le_trans hf.1.1 (by omega)) hf.1.2 vs W1 (hh.seeds.below b1))
 have hsl:=hf.1.1
 clear hh hf s1
 go_enter Tryz.func9,Tryz.ntmps9
 go_wp2_with (first
  | ((with_reducible refine hgr.out.mono ?_);rintro e w2 ⟨⟨vm,es,vi,ids,rfl,hD,hel,hoi,hil,hok,hap⟩,hb2⟩
     have hm1:(#[vm]:Array Value).size=1:=rfl
     have hm2:(#[vm]:Array Value).all (·.oneCell')=true:=by simp [hD.one]
     obtain ⟨Ai,ci,rfl⟩:=own_form' hoi)
  | ((with_reducible refine lit_new 28 (.tmp 3) (.tmp 9) #[vm] 1 szDSt hm1 hm2 _ ?_ ?_ ?_ ?_)
     ·first | exact hm1 | rfl
     ·rfl
     ·rfl
     intro W3 hb3 hbl3))
 go_ret
 exact ⟨⟨_,ids,rfl,own_low' (own_below hoi hbl3) b1.size,hok,Nat.le_trans hil hsl⟩,bthen b1 b1.size (bthen hb2 hb2.size hbl3)⟩
end
section
attribute [local go_sem ↓] ldvI_eq
theorem bel_keepG {w0 w:World} {f:FuncId} {args:Array Value} {v:Value} (hW:Below w0.heap.size w0 w) (h:Calls Tryz.prog f args w fun e w'=>e = .returned v∧Below w.heap.size w w') :
 Calls Tryz.prog f args w fun e w'=>e = .returned v∧Below w0.heap.size w0 w':=h.mono fun _ _ ⟨he,hb⟩=>⟨he,bthen hW hW.size hb⟩
end
section
attribute [local go_sem ↓] ldvI_eq
structure SetAt (w:World) (base p:Nat) (v:Value) (l:List Txt):Prop where
 blk:Blk w p 87 #[v]
 own:OwnIds w base v l
 ok : ∀ x∈l,x.length=32
 rise:RiseL l
section
variable {w w':World} {base p:Nat} {v:Value} {l:List Txt}
theorem SetAt.c0 (h:SetAt w base p v l):w.cell? ⟨p,0,none⟩=some v:=by rw [h.blk.cell];rfl
theorem SetAt.lt (h:SetAt w base p v l):p<w.heap.size:=h.blk.lt
theorem SetAt.ne (h:SetAt w base p v l):v.ownBlock≠some p:=fun e=>own_blk_ne h.own h.blk (by decide) e.symm
theorem SetAt.below (h:SetAt w base p v l) (hb:Below w.heap.size w w'):SetAt w' base p v l:=⟨h.blk.below hb h.blk.lt,own_below h.own hb,h.ok,h.rise⟩
theorem SetAt.far {S:List (Option Nat)} (h:SetAt w base p v l) (hf:Far S w w') (h1:some p ∉ S) (h2 : ∀ k,v.ownBlock=some k→some k ∉ S):SetAt w' base p v l:=⟨hf.blk h.blk h1,hf.own h.own h2,h.ok,h.rise⟩
theorem SetAt.drew (h:SetAt w base p v l):SetAt w.drew base p v l:=⟨h.blk,h.own,h.ok,h.rise⟩
theorem SetAt.ids (h:SetAt w base p v l):Ids w v l:=SliceAt.of_own (fun x hx=>idC_len (h.ok x hx)) h.own
end
structure SetIn (w:World) (base p o:Nat) (T:TypeId) (cs:Array Value) (v:Value) (l:List Txt):Prop where
 blk:Blk w p T cs
 at_:cs[o]?=some v
 own:OwnIds w base v l
 ok : ∀ x∈l,x.length=32
 rise:RiseL l
section
variable {w w':World} {base p o:Nat} {T:TypeId} {cs:Array Value} {v:Value} {l:List Txt}
theorem SetIn.c0 (h:SetIn w base p o T cs v l):w.cell? ⟨p,o,none⟩=some v:=by rw [h.blk.cell];exact h.at_
theorem SetIn.lt (h:SetIn w base p o T cs v l):p<w.heap.size:=h.blk.lt
theorem SetIn.below (h:SetIn w base p o T cs v l) (hb:Below w.heap.size w w'):SetIn w' base p o T cs v l:=⟨h.blk.below hb h.blk.lt,h.at_,own_below h.own hb,h.ok,h.rise⟩
theorem SetIn.ids (h:SetIn w base p o T cs v l):Ids w v l:=SliceAt.of_own (fun x hx=>idC_len (h.ok x hx)) h.own
theorem SetIn.lo (h:SetIn w base p o T cs v l):o<cs.size:=(Array.getElem?_eq_some_iff.1 h.at_).1
theorem SetIn.same (h:SetIn w base p o T cs v l):cs.setIfInBounds o v=cs:=by
 obtain ⟨h1,h2⟩:=Array.getElem?_eq_some_iff.1 h.at_
 rw [←h2]
 exact Array.ext (by simp) fun i _ _=>by
  rw [Array.getElem_setIfInBounds]
  split
  ·rename_i e;subst e;rfl
  ·rfl
end
end
section
def objS (S:List StL) (n:Txt):Option ObjL:=match getS S n with
 | some x=>decO x.text
 | none=>none
def cutO (cut:List Txt) (n:Txt) (o:ObjL):ObjL:=if o.kind=3∧inL cut n=true then { o with pars:=[] } else o
def nextO (cut:List Txt) (n:Txt) (o:ObjL):List Txt:=(linksL (cutO cut n o)).map LinkL.id
def nextS (S:List StL) (cut:List Txt) (n:Txt):List Txt:=match objS S n with
 | some o=>nextO cut n o
 | none=>[]
def isS (S:List StL) (n:Txt):Bool:=(objS S n).isSome
def Rch (S:List StL) (cut ini:List Txt) (x:Txt):Prop := ∀ P:Txt→Prop,(∀ y∈ini,P y)→(∀ y z,P y→z∈nextS S cut y→P z)→P x
section
variable {S:List StL} {cut ini:List Txt}
theorem Rch.base {x:Txt} (h:x∈ini):Rch S cut ini x:=fun _ h1 _=>h1 x h
theorem Rch.step {x y:Txt} (h:Rch S cut ini x) (hy:y∈nextS S cut x):Rch S cut ini y:=fun P h1 h2=>h2 x y (h P h1 h2) hy
structure RchIs (S:List StL) (cut ini:List Txt) (b:Bool) (l:List Txt):Prop where
 rise:RiseL l
 mem : ∀ x,x∈l↔Rch S cut ini x∧isS S x=b
theorem RchIs.one {b:Bool} {l m:List Txt} (h:RchIs S cut ini b l) (h':RchIs S cut ini b m):l=m:=rise_one h.rise h'.rise fun x=>by rw [h.mem,h'.mem]
structure StkI (S:List StL) (cut ini todo inn out:List Txt):Prop where
 ri:RiseL inn
 ro:RiseL out
 i1 : ∀ x∈inn,Rch S cut ini x∧isS S x=true
 o1 : ∀ x∈out,Rch S cut ini x∧isS S x=false
 t1 : ∀ x∈todo,Rch S cut ini x
 all : ∀ x∈ini,x∈inn∨x∈out∨x∈todo
 next : ∀ x∈inn, ∀ y∈nextS S cut x,y∈inn∨y∈out∨y∈todo
theorem StkI.start : StkI S cut ini ini [] []:=⟨List.Pairwise.nil,List.Pairwise.nil,by simp,by simp,fun x h => .base h,fun x h => .inr (.inr h),by simp⟩
variable {todo inn out:List Txt} {x:Txt}
theorem StkI.seen (h:StkI S cut ini (todo++[x]) inn out) (hx:x∈inn):StkI S cut ini todo inn out:=by
 have hm : ∀ y,y∈inn∨y∈out∨y∈todo++[x]→y∈inn∨y∈out∨y∈todo:=fun y hy=>by
  rcases hy with h1 | h1 | h1
  ·exact .inl h1
  ·exact .inr (.inl h1)
  ·rcases List.mem_append.1 h1 with h1 | h1
   ·exact .inr (.inr h1)
   ·rw [List.mem_singleton.1 h1];exact .inl hx
 exact ⟨h.ri,h.ro,h.i1,h.o1,fun y hy=>h.t1 y (by simp [hy]),fun y hy=>hm y (h.all y hy),fun y hy z hz=>hm z (h.next y hy z hz)⟩
theorem StkI.new (h:StkI S cut ini (todo++[x]) inn out) (hx:isS S x=true):StkI S cut ini (todo++nextS S cut x) (insU inn x) out:=by
 obtain ⟨r1,r2⟩:=insU_law h.ri x
 have hrx:=h.t1 x (by simp)
 have hm : ∀ y,y∈inn∨y∈out∨y∈todo++[x]→y∈insU inn x∨y∈out∨y∈todo++nextS S cut x:=fun y hy=>by
  rcases hy with h1 | h1 | h1
  ·exact .inl ((r2 y).2 (.inl h1))
  ·exact .inr (.inl h1)
  ·rcases List.mem_append.1 h1 with h1 | h1
   ·exact .inr (.inr (by simp [h1]))
   ·exact .inl ((r2 y).2 (.inr (List.mem_singleton.1 h1)))
 refine ⟨r1,h.ro,fun y hy=>?_,h.o1,fun y hy=>?_,fun y hy=>hm y (h.all y hy),fun y hy z hz=>?_⟩
 ·rcases (r2 y).1 hy with h1 | rfl
  ·exact h.i1 y h1
  ·exact ⟨hrx,hx⟩
 ·rcases List.mem_append.1 hy with h1 | h1
  ·exact h.t1 y (by simp [h1])
  ·exact hrx.step h1
 ·rcases (r2 y).1 hy with h1 | rfl
  ·exact hm z (h.next y h1 z hz)
  ·exact .inr (.inr (by simp [hz]))
structure GrwI (S:List StL) (cut ini all:List Txt) (i:Nat):Prop where
 a1 : ∀ x∈all,Rch S cut ini x
 nd:all.Nodup
 ini_ : ∀ x∈ini,x∈all
 next : ∀ (j:Nat) (x:Txt),all[j]?=some x→j<i → ∀ y∈nextS S cut x,y∈all
def allU (S:List StL) (cut ini:List Txt):List Txt:=ini++S.flatMap fun x=>nextS S cut x.id
theorem getS_id {S:List StL} {n:Txt} {x:StL} (h:getS S n=some x):x∈S∧x.id=n:=by
 have h1:=List.mem_of_find?_eq_some h
 have h2:=List.find?_some h
 exact ⟨h1,by simpa using h2⟩
theorem Rch.inU {x:Txt} (h:Rch S cut ini x):x∈allU S cut ini:=h (fun x=>x∈allU S cut ini) (fun y hy=>List.mem_append_left _ hy) fun y z _ hz=>by
 refine List.mem_append_right _ (List.mem_flatMap.2 ?_)
 have hz0:=hz
 unfold nextS objS at hz0
 cases hg:getS S y with
 | none=>rw [hg] at hz0;simp at hz0
 | some s=>
   obtain ⟨h1,h2⟩:=getS_id hg
   exact ⟨s,h1,by rw [h2];exact hz⟩
theorem nodup_len : ∀ {l m:List Txt},l.Nodup→(∀ x∈l,x∈m)→l.length≤m.length
 | [],_,_,_=>Nat.zero_le _
 | x::l,m,hn,h=>by
   obtain ⟨h1,h2⟩:=List.nodup_cons.1 hn
   have h3:l.length≤(m.erase x).length:=nodup_len h2 fun y hy=>(List.mem_erase_of_ne (fun (e:y=x)=>h1 (e▸hy))).2 (h y (List.mem_cons_of_mem _ hy))
   rw [List.length_erase_of_mem (h x List.mem_cons_self)] at h3
   have:=List.length_pos_of_mem (h x List.mem_cons_self)
   rw [List.length_cons]
   omega
theorem allU_len {K:Nat} (hK : ∀ x∈S,(nextS S cut x.id).length≤K):(allU S cut ini).length≤ini.length+S.length*K:=by
 unfold allU
 rw [List.length_append,List.length_flatMap]
 have : ∀ (T:List StL),(∀ x∈T,(nextS S cut x.id).length≤K)→(T.map fun x=>(nextS S cut x.id).length).sum≤T.length*K:=by
  intro T
  induction T with
  | nil=>simp
  | cons x T ih=>
    intro hT
    have h1:=hT x List.mem_cons_self
    have h2:=ih fun y hy=>hT y (List.mem_cons_of_mem _ hy)
    rw [List.map_cons,List.sum_cons,List.length_cons,Nat.add_mul,Nat.one_mul]
    omega
 have:=this S hK
 omega
theorem rise_nodup {l:List Txt} (h:RiseL l):l.Nodup:=h.imp fun {a b} h e=>by rw [e,less_irrefl] at h;cases h
end
end
def LinkOk (l:LinkL):Prop:=l.id.length=32
theorem fold_link (c0:Array Value) (b:Value) (l:List Value) (n:Nat) (hl:l.length=n) (h0:c0.size=n+1) :
 ((l.zipIdx 0).foldl (fun cs (x:Value×Nat)=>cs.setIfInBounds (0+x.2) x.1) c0).setIfInBounds n b=(l++[b]).toArray:=by
 obtain ⟨h1,h2⟩:=Great.foldl_set 0 l 0 c0
 apply Array.ext_getElem?
 intro k
 rw [Array.getElem?_setIfInBounds,h1]
 by_cases hk:n=k
 ·subst hk
  rw [if_pos rfl,if_pos (by omega)]
  simp [←hl]
 ·rw [if_neg hk,h2 k]
  by_cases hk2:k<n
  ·rw [if_pos ⟨by omega,by omega,by omega⟩]
   simp [List.getElem?_append_left (show k<l.length by omega)]
  ·rw [if_neg (by omega),Array.getElem?_eq_none (by omega)]
   symm
   rw [Array.getElem?_eq_none (by simp;omega)]
def parLinks (l:List Txt):List LinkL:=l.map fun p=>⟨p,3⟩
theorem links_three {o:ObjL} (h:o.kind=3):linksL o=⟨o.tree,2⟩::parLinks o.pars:=by unfold linksL;rw [if_neg (by omega),if_pos h];rfl
section
attribute [local go_sem ↓] ldvI_eq ldvO_eq
theorem small_cut {o:ObjL} (h:Small o):Small { o with pars:=[] }:=⟨h.ents,h.names,by simp,h.data,h.text,h.name⟩
end
section
def Ap (a b:Value):Prop := ∀ k,a.ownBlock=some k→b.ownBlock≠some k
theorem Ap.symm {a b:Value} (h:Ap a b):Ap b a:=fun k hk e=>h k e hk
theorem Ap.newer {w:World} {a a' b:Value} (h:Ap a b) (hn:Newer w a a') (hb : ∀ k,b.ownBlock=some k→k<w.heap.size):Ap a' b:=fun k hk e=>by
 rcases hn with h1 | h1
 ·exact h k (h1▸hk) e
 ·have:=h1 k hk;have:=hb k e;omega
structure RcM (w:World) (ve:Value) (cs todo inn out:List Txt) (vt vI vO:Value) (wr:World):Prop where
 tok : ∀ x∈todo,x.length=32
 t:OwnIds wr w.heap.size vt todo
 i:SetAt wr w.heap.size w.heap.size vI inn
 o:SetAt wr w.heap.size (w.heap.size+1) vO out
 e:OwnIds wr w.heap.size ve cs
 a1:Ap vI vO
 a2:Ap vI vt
 a3:Ap vO vt
 a4:Ap ve vI
 a5:Ap ve vO
 a6:Ap ve vt
 bel:Below w.heap.size w wr
section
variable {w wr w':World} {ve vt vI vO:Value} {cs todo inn out:List Txt} {x:Txt}
theorem RcM.below (h:RcM w ve cs todo inn out vt vI vO wr) (hb:Below wr.heap.size wr w'):RcM w ve cs todo inn out vt vI vO w':=
 ⟨h.tok,own_below h.t hb,h.i.below hb,h.o.below hb,own_below h.e hb,h.a1,h.a2,h.a3,h.a4,h.a5,h.a6,bthen h.bel h.bel.size hb⟩
end
end
section
attribute [local go_sem ↓] ldvI_eq ldvS_eq ldvT_eq
theorem StoOk.sub {s s':List StL} (h:StoOk s) (hs:s'.Sublist s):StoOk s':=⟨fun x hx=>h.each x (hs.subset hx),h.sorted.sublist hs,Nat.le_trans hs.length_le h.few⟩
theorem DocSt.sub {w w':World} {vm v':Value} {es:List DiL} (h:DocSt w vm es) (p:DiL→Bool) (ho:OwnDits w' 0 v' (es.filter p)) (hs : ∀ k,DocUse vm es k→w'.heap[k]?=w.heap[k]?):DocSt w' v' (es.filter p):=
 ⟨ho,fun e he=>(h.same hs).each e (List.mem_filter.1 he).1,h.ok.sub ((List.filter_sublist).map _)⟩
def Few12R (h:HisL) (w:World) (e:Ending) (w':World):Prop:=(e = .returned (.tuple #[.agg #[.slice none 0 0], .bool false]))∨(∃ vm es,e = .returned (.tuple #[.agg #[vm], .bool true])∧FewH h∧DocSt w' vm es∧es.length≤24)
theorem len_filter_take {α:Type} (p:α→Bool) (l:List α) (k:Nat):((l.take k).filter p).length≤k:=Nat.le_trans (List.length_filter_le _ _) (by rw [List.length_take];exact Nat.min_le_left _ _)
set_option maxRecDepth 100000 in
set_option maxHeartbeats 8000000 in
theorem few12_calls (h:HisL) (vs vo vf vc:Value) (w:World) (hh:HisOk w vs vo vf vc h) :
 Calls Tryz.prog 5 #[.agg #[vs,vo,vf,vc]] w fun e w'=>Few12R h w e w'∧Below w.heap.size w w':=by
 obtain ⟨W1,hW1⟩ : ∃ W1,w.alloc (.cells #[vs,vo,vf,vc] 25)=W1:=⟨_,rfl⟩
 have s1:Blk W1 w.heap.size 25 #[vs,vo,vf,vc]:=by rw [←hW1];exact Blk.new _ _ _
 have b1:Below w.heap.size w W1:=by rw [←hW1];exact (Below.refl _ _).alloc (Nat.le_refl _) _
 obtain ⟨W2,hW2⟩ : ∃ W2,W1.alloc (.cells #[.slice none 0 0] 28)=W2:=⟨_,rfl⟩
 have r2:Blk W2 W1.heap.size 28 #[.slice none 0 0]:=by rw [←hW2];exact Blk.new _ _ _
 have bb2:Below W1.heap.size W1 W2:=by rw [←hW2];exact (Below.refl _ _).alloc (Nat.le_refl _) _
 have b2:=bthen b1 b1.size bb2
 have s2:=s1.below bb2 s1.lt
 have hle1:w.heap.size≤W1.heap.size:=b1.size
 have hlt1:W1.heap.size<W2.heap.size:=r2.lt
 have c0 : ∀ W,Below W2.heap.size W2 W→W.cell? ⟨w.heap.size,0,none⟩=some vs:=fun W hW=>(s2.below hW s2.lt).cell 0
 have c1 : ∀ W,Below W2.heap.size W2 W→W.cell? ⟨w.heap.size,1,none⟩=some vo:=fun W hW=>(s2.below hW s2.lt).cell 1
 have c2 : ∀ W,Below W2.heap.size W2 W→W.cell? ⟨w.heap.size,2,none⟩=some vf:=fun W hW=>(s2.below hW s2.lt).cell 2
 have c3 : ∀ W,Below W2.heap.size W2 W→W.cell? ⟨w.heap.size,3,none⟩=some vc:=fun W hW=>(s2.below hW s2.lt).cell 3
 have c02:=c0 W2 (Below.refl _ _)
 have hfw:Hid (Calls Tryz.prog 21 #[vs, .int .i64 24] W2 fun e w'=>FewB h.seeds 24 e∧Below W2.heap.size W2 w'):=Lib.hid (few_calls11 h.seeds 24 (by omega) vs W2 (hh.seeds.below b2))
 have hgr:=fun (h1:h.seeds.length≤24 ∧ ∀ x∈h.seeds,x.refs.length≤10∧x.text.length≤300) W (hW:Below w.heap.size w W)=>Lib.hid (grow_calls h.seeds (Nat.le_trans h1.1 (by omega)) h1.2 vs W (hh.seeds.below hW))
 have hid:=fun (ids:List Txt) (hok : ∀ x∈ids,x.length=32) (hil:ids.length≤1000) (v:Value) W (hW:Below w.heap.size w W) (hv:Ids W v ids) (ho10:h.out.length≤10)=>Lib.hid (ids12_calls ids hok hil v W hv h.out (by omega) vo (hh.out.below hW))
 have hbS:Tryz.prog.built 28 []=some #[.slice none 0 0]:=by kernel_rfl
 have hrb:=fun W=>run_build (P:=Tryz.prog) W _ _ _ hbS
 have hS0:(#[Value.slice none 0 0]:Array Value).size=1:=rfl
 have hS1:(#[Value.slice none 0 0]:Array Value).all (·.oneCell')=true:=by kernel_rfl
 have hszS : ∀ vm:Value,(Tryz.prog.info? 28).map (·.size)=some (#[vm]:Array Value).size:=fun vm=>szDSt
 obtain ⟨Ao,co,rfl,ho1,ho2,hato⟩:=hh.out
 obtain ⟨Af,cf,rfl,hf1,hf2,hatf⟩:=hh.frm
 obtain ⟨Ac,cc,rfl,hc1,hc2,hatc⟩:=hh.cut
 clear hh hato hatf hatc s1 s2
 obtain ⟨LO,hLO⟩ : ∃ LO,h.out.length=LO:=⟨_,rfl⟩
 obtain ⟨LF,hLF⟩ : ∃ LF,h.frm.length=LF:=⟨_,rfl⟩
 obtain ⟨LC,hLC⟩ : ∃ LC,h.cut.length=LC:=⟨_,rfl⟩
 rw [hLO] at ho1 hid
 rw [hLF] at hf1
 rw [hLC] at hc1
 simp only [hLO] at c1 hW1 ⊢
 simp only [hLF] at c2 hW1 ⊢
 simp only [hLC] at c3 hW1 ⊢
 go_enter Tryz.func5,Tryz.ntmps5
 go_upto_region 2 with (first
  | ((with_reducible refine hfw.out.mono ?_);rintro e w3 ⟨⟨b,rfl,hb⟩,hb3⟩))
 have b3:=bthen b2 b2.size hb3
 have r3:=r2.below hb3 r2.lt
 have d1:=c1 w3 hb3
 have d2:=c2 w3 hb3
 have d3:=c3 w3 hb3
 have d0:=c0 w3 hb3
 clear hfw c02 hW1 hW2
 cases b with
 | false=>
   clear hgr hid c0 c1 c2 c3 hb
   go_wp2_with (first
    | (refine wpList_store_row rfl 28 (.tmp 2) (.tmp 34) rfl W1.heap.size #[.slice none 0 0] rfl rfl _ _ r3 (hszS _) rfl hS1 ?_))
   refine bodyPost_ret (results_row_tmp rfl _ _ W1.heap.size _ _ _ _ rfl (setRow_heap _ _ _ _ _ _ r3) Tryz.underlying28 rfl (hszS _)) rfl ⟨.inl rfl,below_setRow b3 hle1 _⟩
 | true=>
   have hb:=hb rfl
   replace hgr:=hgr hb w3 b3
   by_cases hO:10<LO
   ·have hOi:(10:Int)<(LO:Int):=by omega
    clear hgr hid c0 c1 c2 c3 hb hLO hLF hLC
    go_wp2_with (first
     | (refine wpList_store_row rfl 28 (.tmp 2) (.tmp 34) rfl W1.heap.size #[.slice none 0 0] rfl rfl _ _ r3 (hszS _) rfl hS1 ?_))
    refine bodyPost_ret (results_row_tmp rfl _ _ W1.heap.size _ _ _ _ rfl (setRow_heap _ _ _ _ _ _ r3) Tryz.underlying28 rfl (hszS _)) rfl ⟨.inl rfl,below_setRow b3 hle1 _⟩
   ·have hOi : ¬ (10:Int)<(LO:Int):=by omega
    by_cases hF:10<LF
    ·have hFi:(10:Int)<(LF:Int):=by omega
     clear hgr hid c0 c1 c2 c3 hb hLO hLF hLC
     go_wp2_with (first
      | (refine wpList_store_row rfl 28 (.tmp 2) (.tmp 34) rfl W1.heap.size #[.slice none 0 0] rfl rfl _ _ r3 (hszS _) rfl hS1 ?_))
     refine bodyPost_ret (results_row_tmp rfl _ _ W1.heap.size _ _ _ _ rfl (setRow_heap _ _ _ _ _ _ r3) Tryz.underlying28 rfl (hszS _)) rfl ⟨.inl rfl,below_setRow b3 hle1 _⟩
    ·have hFi : ¬ (10:Int)<(LF:Int):=by omega
     by_cases hC:10<LC
     ·have hCi:(10:Int)<(LC:Int):=by omega
      clear hgr hid c0 c1 c2 c3 hb hLO hLF hLC
      go_wp2_with (first
       | (refine wpList_store_row rfl 28 (.tmp 2) (.tmp 34) rfl W1.heap.size #[.slice none 0 0] rfl rfl _ _ r3 (hszS _) rfl hS1 ?_))
      refine bodyPost_ret (results_row_tmp rfl _ _ W1.heap.size _ _ _ _ rfl (setRow_heap _ _ _ _ _ _ r3) Tryz.underlying28 rfl (hszS _)) rfl ⟨.inl rfl,below_setRow b3 hle1 _⟩
     ·have hCi : ¬ (10:Int)<(LC:Int):=by omega
      have hfin:Hid (∀ (vm:Value) (es:List DiL) (w':World) (e:Ending),e = .returned (.tuple #[.agg #[vm], .bool true])→DocSt w' vm es→es.length≤24→Few12R h w e w'):=Lib.hid fun vm es w' e he h1 h2 => .inr ⟨vm,es,he,⟨hb,by omega,by omega,by omega⟩,h1,h2⟩
      have hsl:=hb.1
      clear hb hLO hLF hLC c0 c2 c3
      go_upto_region 5 with (first
       | ((with_reducible refine hgr.out.mono ?_);rintro e w4 ⟨⟨vm,es,vi,ids,rfl,hD,hel,hoi,hil,hok,hap⟩,hb4⟩
          obtain ⟨Ai,ci,rfl⟩:=own_form' hoi
          obtain ⟨Am,cm,rfl⟩:=own_form' hD.own
          have hm2:(#[Value.slice Am es.length cm]:Array Value).all (·.oneCell')=true:=by simp [Value.oneCell']
          have hm1:(#[Value.slice Am es.length cm]:Array Value).size=1:=rfl)
       | ((with_reducible refine lit_new 28 (.tmp 5) (.tmp 39) #[.slice Am es.length cm] 1 szDSt hm1 hm2 _ ?_ ?_ ?_ ?_)
          ·first | exact hm1 | rfl
          ·rfl
          ·rfl
          intro W5 hb5 hbl5))
      have b4:=bthen b3 b3.size hb4
      have b5:=bthen b4 b4.size hbl5
      have r4:=r3.below hb4 r3.lt
      have r5:=r4.below hbl5 r4.lt
      have hoi5:=own_below hoi hbl5
      have hD5:=hD.below hbl5
      have c15:=c1 W5 (bthen hb3 hb3.size (bthen hb4 hb4.size hbl5))
      have hidc:=fun ho10=>hid ids hok (by omega) _ W5 b5 (SliceAt.of_own (fun e h=>idC_len (hok e h)) hoi5) ho10
      have hids0:Hid (ids.length=ids.length):=Lib.hid rfl
      clear hgr hid c1 d0 d1 d2 d3 r3 r4
      by_cases h0:0<ids.length
      ·have h0b:((ids.length:Int)==0)=false:=by rw [beq_eq_false_iff_ne];omega
       replace hidc:=Lib.hid (hidc (by omega)).out
       go_upto_region 9 with (first
        | ((with_reducible refine hidc.out.mono ?_);rintro e w6 ⟨⟨vg,gone,rfl,hog,hgk, -⟩,hb6⟩
           obtain ⟨Ag,cg,rfl⟩:=own_form' hog)
        | ((with_reducible refine lit_new 28 (.tmp 8) (.tmp 49) #[.slice none 0 0] 1 szDSt hS0 hS1 _ ?_ ?_ ?_ ?_)
           ·first | exact hS0 | rfl
           ·rfl
           ·rfl
           intro W7 hb7 hbl7))
       have hDD:=hD5.below hb6
       have hs6:=hb5.below hb6 hb5.lt
       have r6:=r5.below hb6 r5.lt
       have b6:=bthen b5 b5.size hb6
       have hN1:W1.heap.size<w6.heap.size:=r6.lt
       obtain ⟨N,hN⟩ : ∃ N,w6.heap.size=N:=⟨_,rfl⟩
       rw [hN] at hb7 hbl7 hN1
       have hgone:=SliceAt.of_own (fun e h=>idC_len (hgk e h)) hog
       have hin:=fun W (hW:Below N w6 W) (x:Txt) (hx:x.length=32)=>Lib.hid (in02_calls gone hgk _ x hx W (hgone.below (hN▸hW)))
       obtain ⟨B5,hB5⟩ : ∃ B5,w4.heap.size=B5:=⟨_,rfl⟩
       have hB5N:B5<N:=by rw [←hB5,←hN];exact hs6.lt
       rw [hB5] at hb5 hs6
       obtain ⟨A2,c2',hfe,hm3,hm4,hatm⟩:=hDD.at_
       injection hfe with e1 e2 e3
       subst e1 e3
       have heach:=hDD.each
       have hlen24:es.length≤24:=by omega
       have hL0:OwnDits W7 N (.slice none 0 0) ((es.take 0).filter fun e => !inL gone e.st.id):=by rw [List.take_zero];exact World.ownsRow_nil _ _ _ _
       rw [hN] at hatm
       go_wp2_with (fail)
       clear hog hidc hoi5 hD5 hoi hD r5 c15 hb5 hap b5 b4 hbl5
       go_loopg [9] es.length (fun f vi wr => ∃ (k:Nat) (vL:Value),vi = .int .i64 k∧k+f=es.length∧Blk wr N 28 #[vL]∧OwnDits wr N vL ((es.take k).filter fun e => !inL gone e.st.id)∧Below N w6 wr)
       case atStart=>exact ⟨0,_,rfl,by omega,hb7,hL0,hbl7⟩
       case round=>
        clear hL0 hb7 hbl7
        obtain ⟨k,vL,rfl,hkf,hL,hoL,hbel⟩:=hrel
        have hbel6:Below w6.heap.size w6 wr:=hN▸hbel
        have hsr:=hs6.below hbel6 hs6.lt
        have csr:=hsr.cell 0
        have hNr:N<wr.heap.size:=hL.lt
        cases gk with
        | zero=>
          have hki : ¬ (k:Int)<(es.length:Int):=by omega
          have hke:es.take k=es:=List.take_of_length_le (by omega)
          rw [hke] at hoL
          have hDr:=hDD.below hbel6
          have r7:=r6.below hbel6 r6.lt
          have lL:=run_ldvS hL
          have br:=bthen b6 b6.size hbel6
          have hnoR:=hDr.blk_ne r7 (by decide) (by decide) (by decide)
          have hne7:=own_blk_ne hoL r7 (by decide)
          obtain ⟨AL,cL,rfl⟩:=own_form' hoL
          have hLone:(#[Value.slice AL (es.filter fun e => !inL gone e.st.id).length cL]:Array Value).all (·.oneCell')=true:=by simp [Value.oneCell']
          clear hatm hin heach hke hL
          obtain ⟨fl,hfl⟩ : ∃ fl,(es.filter fun e => !inL gone e.st.id).length=fl:=⟨_,rfl⟩
          have hfl2:=Lib.hid hfl
          rw [hfl] at lL hLone hoL
          clear hfl
          go_wp2_with (first
           | (refine wpList_store_row rfl 28 (.tmp 2) (.tmp 77) rfl W1.heap.size #[.slice AL fl cL] rfl rfl _ _ r7 (hszS _) rfl hLone ?_))
          refine bodyPost_ret (results_row_tmp rfl _ _ W1.heap.size _ _ _ _ rfl (setRow_heap _ _ _ _ _ _ r7) Tryz.underlying28 rfl (hszS _)) rfl ⟨hfin.out _ (es.filter fun e => !inL gone e.st.id) _ _ rfl ((hDr.row hnoR _).sub _ (own_down (own_row hoL hN1 _) (Nat.zero_le _)) fun _ _=>rfl) (Nat.le_trans (List.length_filter_le _ _) hlen24),below_setRow br hle1 _⟩
        | succ f=>
          have hki:(k:Int)<(es.length:Int):=by omega
          have hkl:k<es.length:=by omega
          obtain ⟨ga,oa,rfl,hga,hca⟩:=hatm (by omega)
          obtain ⟨x,hx⟩ : ∃ x,es[k]?=some x:=⟨_,List.getElem?_eq_getElem hkl⟩
          have hxok:=heach x (List.mem_of_getElem? hx)
          have hxi:=hxok.id
          have hxr : ∀ W,Below N w6 W→W.rangeAt ga (oa+k*105) (ditC x):=fun W hW=>by
           rw [←hN] at hW hga
           exact rangeAt_below (hca k x hx) hga hW
          have hl1:=run_ldvI_at (dit_id (hxr wr hbel)) hxi
          have hin1:=hin wr hbel x.st.id hxi
          have hmore:(es.take (k+1)).filter (fun e => !inL gone e.st.id)=(es.take k).filter (fun e => !inL gone e.st.id)++(if inL gone x.st.id=false then [x] else []):=by
           rw [List.take_add_one,hx,List.filter_append]
           congr 1
           simp [List.filter_cons]
          have hacl:=len_filter_take (fun e => !inL gone e.st.id) es k
          obtain ⟨acc,hacc⟩ : ∃ acc,(es.take k).filter (fun e => !inL gone e.st.id)=acc:=⟨_,rfl⟩
          rw [hacc] at hoL hmore hacl
          generalize inL gone x.st.id=bi at *
          have hx105:(ditC x).toArray.size=105:=by rw [List.size_toArray,ditC_len hxok]
          have hx1:(ditC x).toArray.size=1*105:=hx105
          have hxone : ∀ u∈(ditC x).toArray.toList,u.oneCell'=true:=by rw [List.toList_toArray];exact ditC_one hxok
          have ft : ∀ (W:World),Below N w6 W→(ldvT ⟨ga,oa+k*105,none⟩).run Tryz.prog W = .ok (.agg (ditC x).toArray) W:=fun W hW=>run_loadVar_mid (P:=Tryz.prog) W ga (oa+k*105) 70 (ditC x) _ (hxr W hW) Tryz.underlying70 rfl (by rw [ditC_len hxok];exact szDit)
          clear hin heach hx hca hatm hxr hacc hDD
          obtain ⟨XC,hXC⟩ : ∃ XC,(ditC x).toArray=XC:=⟨_,rfl⟩
          rw [hXC] at hx105 hx1 hxone
          simp only [hXC] at ft
          replace hXC:=Lib.hid hXC
          cases bi with
          | true=>
            replace hmore:=Lib.hid (hmore.trans (List.append_nil _))
            clear ft
            go_wp2_with (first
             | ((with_reducible refine hin1.out.mono ?_);rintro e w8 ⟨rfl,hb8⟩))
            have hL8:=hL.below hb8 hL.lt
            have hoL8:=own_below hoL hb8
            have hb68:=hbel.trans (hb8.mono (Nat.le_of_lt hNr))
            clear hl1 hin1 hL hoL csr
            go_roundg f
            case rel=>exact ⟨k+1,vL,by go_num,by omega,hL8,by rw [hmore.out];exact hoL8,hb68⟩
            case measure=>omega
          | false=>
            replace hmore:=Lib.hid hmore
            go_upto_region 14 with (first
             | ((with_reducible refine hin1.out.mono ?_);rintro e w8 ⟨rfl,hb8⟩))
            have hL8:=hL.below hb8 hL.lt
            have hoL8:=own_below hoL hb8
            have hb68:=hbel.trans (hb8.mono (Nat.le_of_lt hNr))
            have hN8:N<w8.heap.size:=hL8.lt
            have hszN:=Nat.le_of_lt hN8
            have hs8:=hsr.below hb8 hsr.lt
            obtain ⟨AL,cL,rfl⟩:=own_form' hoL8
            have hpre:=preOk2 (i:=8) (j:=10) hoL8 hL8 (by decide)
            have hrB:=rows2 (i:=8) (j:=10) (p:=fun w=>World.ownsRow w N 70 105 (.slice AL acc.length cL) acc.length (rowsOf ditC acc)) (q:=fun w=>Blk w N 28 #[.slice AL acc.length cL]) (v := .slice AL acc.length cL) (fun k hk=>(World.ownsRow.lt hoL8 k hk).1) (Nat.le_refl N)
            have hAk:acc.length+1≤9223372036854775807:=by omega
            have hAb:(acc.length+1)*232≤140737488355328:=by omega
            have hwas : ∀ W,Blk W N 28 #[.slice AL acc.length cL]→W.cell? ⟨N,0,none⟩=some (.slice AL acc.length cL):=fun W h=>h.cell 0
            have hscell : ∀ W,Below N w8 W→W.cell? ⟨B5,0,none⟩=some (.slice (some ⟨ga,oa,none⟩) es.length cm):=fun W hW=>(Blk.below hs8 hW hB5N).cell 0
            clear hl1 hin1 hL hoL csr hsr hs8
            refine wp_region_goP 11 [(8,(Value.slice AL acc.length cL).ownBlock,fun w=>World.ownsRow w N 70 105 (.slice AL acc.length cL) acc.length (rowsOf ditC acc)),(10,some N,fun w=>Blk w N 28 #[.slice AL acc.length cL])] hpre (by kernel_rfl) (by kernel_rfl) (by kernel_rfl) (by kernel_rfl) ?_
            simp only [exSp]
            iterate 11 apply Exists.intro
            repeat
             first
              | ((with_reducible apply lx_ex)
                 ·(go_simp;done)
                 apply Exists.intro
                 apply And.intro
                 ·apply Eq.refl
                 apply And.intro
                 ·intro W hF hD
                  first
                   | (have hf:=(far_drew hF).below hszN hrB
                      have q0:=hscell W hf
                      have q1:=ft W (hb68.trans hf)
                      have q2:=hwas W (hD.was 1 rfl (by kernel_rfl))
                      go_simp
                      rfl)
                   | (have hf:=(far_drew hF).below hszN hrB
                      have q0:=hscell W hf
                      have q1:=ft W (hb68.trans hf)
                      go_simp
                      rfl)
                 simp only [Act.put,zA,zB,zC])
              | ((with_reducible apply lx_pass)
                 ·(first | rfl | (go_simp;done))
                 ·apply Eq.refl
                 simp only [Act.put,zA,zB,zC])
              | (first | (with_reducible apply lx_move') | (with_reducible apply lx_assign')
                 ·apply Eq.refl
                 apply Exists.intro
                 apply And.intro
                 ·(go_simp;rfl)
                 simp only [Act.put,zA,zB,zC])
              | ((with_reducible apply lx_slice1 Tryz.ditTy (fun cs=>cs=XC) (by omega))
                 ·apply Eq.refl
                 apply Exists.intro
                 apply And.intro
                 ·(go_simp;rfl)
                 refine ⟨fun W hF hD=>?_,?_⟩
                 ·exact ⟨XC,rfl,hx105,rfl⟩
                 intro v
                 simp only [Act.put,zA,zB,zC])
              | ((with_reducible apply lx_append1 Tryz.ditTy N (.slice AL acc.length cL) acc.length (rowsOf ditC acc) (fun xs=>xs=rowsOf ditC acc++XC.toList) hAk hAb)
                 ·exact hszN
                 ·first | exact List.Mem.head _ | exact List.Mem.tail _ (List.Mem.head _) | exact List.Mem.tail _ (List.Mem.tail _ (List.Mem.head _)) | exact List.Mem.tail _ (List.Mem.tail _ (List.Mem.tail _ (List.Mem.head _)))
                 ·apply Eq.refl
                 apply Exists.intro
                 apply Exists.intro
                 apply And.intro
                 ·(go_simp;rfl)
                 apply And.intro
                 ·(go_simp;rfl)
                 refine ⟨rfl,fun W hF hD=>?_,?_⟩
                 ·obtain ⟨F,g5,cs,rfl,_,hk5,rfl⟩:=hD.at 0 rfl (by kernel_rfl)
                  exact ⟨g5,_,rfl,hk5,hx105,hxone,rfl⟩
                 intro v
                 simp only [Act.put,zA,zB,zC])
              | ((with_reducible apply lx_put N 0 #[.slice AL acc.length cL] 28)
                 ·exact (fun _=>by kernel_rfl)
                 ·exact (Nat.zero_lt_one)
                 ·first | exact List.Mem.head _ | exact List.Mem.tail _ (List.Mem.head _) | exact List.Mem.tail _ (List.Mem.tail _ (List.Mem.head _)) | exact List.Mem.tail _ (List.Mem.tail _ (List.Mem.tail _ (List.Mem.head _)))
                 ·apply Eq.refl
                 apply Exists.intro
                 apply Exists.intro
                 apply And.intro
                 ·(go_simp;rfl)
                 apply And.intro
                 ·(go_simp;rfl)
                 refine ⟨rfl,fun W hF hD=>?_,?_⟩
                 ·obtain ⟨F,xs,_,hv,_⟩:=hD.at 0 rfl (by kernel_rfl)
                  obtain ⟨A6,c6,rfl⟩:=own_form' hv
                  exact ⟨_,_,_,rfl⟩)
            refine lxP_nil ?_ fun w9 hF9 hD9=>?_
            ·exact List.nodup_nil
            obtain ⟨_,hg9,hb9⟩:=hD9 _ (.head _)
            obtain ⟨_,xs,rfl,hv9,_⟩:=hD9 _ (.tail _ (.head _))
            have hb69:=hb68.trans (hF9.below hszN hrB)
            clear hD9 hpre hrB hF9 ft hwas hscell hL8 hoL8
            have hkey : ∀ v,World.ownsRow w9 N 70 105 v (acc.length+1) (rowsOf ditC acc++XC.toList)→OwnDits w9 N v (acc++[x]):=fun v h=>by
             unfold OwnDits
             rw [List.length_append,rowsOf_append,rowsOf_one]
             rw [←hXC.out,List.toList_toArray] at h
             exact h
            have hoL9:=hkey _ hv9
            go_wp2_with (fail)
            go_roundg f
            case rel=>exact ⟨k+1,_,by go_num,by omega,hb9,by rw [hmore.out];exact hoL9,hb69⟩
            case measure=>omega
      ·obtain rfl:ids=[]:=List.length_eq_zero_iff.1 (by omega)
       have lS:=run_ldvS hb5
       have hnoR:=hD5.blk_ne r5 (by decide) (by decide) (by decide)
       clear hidc h0 hoi5 c15
       go_wp2_with (first
        | (refine wpList_store_row rfl 28 (.tmp 2) (.tmp 44) rfl W1.heap.size #[.slice Am es.length cm] rfl rfl _ _ r5 (hszS _) rfl hm2 ?_))
       refine bodyPost_ret (results_row_tmp rfl _ _ W1.heap.size _ _ _ _ rfl (setRow_heap _ _ _ _ _ _ r5) Tryz.underlying28 rfl (hszS _)) rfl ⟨hfin.out _ es _ _ rfl (hD5.row hnoR _) (by omega),below_setRow b5 hle1 _⟩
end
end Go.Proofs.YtbhdfaadedlcfaaGreatDoor
