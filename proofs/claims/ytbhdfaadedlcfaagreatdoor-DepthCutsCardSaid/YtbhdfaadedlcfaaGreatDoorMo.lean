/- Texts of this claim, laid together: GraX, DptC, Tab. -/
import Derived.Test.YtbhdfaadedlcfaaGreatDoorMn
import Derived.Test.YtbhdfaadedlcfaaGreatDoorCards
import Derived.WalkKit
import Derived.ProofKit
import Derived.OpenShut
import Derived.Deep.DeepHandedRow
import Derived.Lib.LaidTab
namespace Go.Proofs.YtbhdfaadedlcfaaGreatDoor
open Go.RowKit
section
attribute [local go_sem ↓] ldvI_eq ldvN_eq
structure WalkC (S:List StL) (w:World) (B g:Nat) (vs vq vn vo vE:Value) (Q:List DiL) (seen out ol ce:List Txt):Prop where
 b:WalkB S w B g vs vq vn Q seen out
 o:OwnIds w B vo ol
 e:OwnIds w B vE ce
 aoe:Ap vo vE
 aon:Ap vo vn
 aen:Ap vE vn
 ap : ∀ e∈Q,Ap e.vp vo∧Ap e.vp vE
section
variable {S:List StL} {w w':World} {B g:Nat} {vs vq vn vo vE:Value} {Q:List DiL} {seen out ol ce:List Txt}
theorem WalkI.told {n:Txt} (h:WalkI S seen out) (hn:n∈leftW seen out):WalkI S seen (out++[n]):=by
 have:=h.step (cut:=[n]) hn
 rwa [if_pos (by simp [inL])] at this
theorem WalkC.below (h:WalkC S w B g vs vq vn vo vE Q seen out ol ce) (hb:Below w.heap.size w w'):WalkC S w' B g vs vq vn vo vE Q seen out ol ce:=⟨h.b.below hb,zAf h.o hb,zAf h.e hb,h.aoe,h.aon,h.aen,h.ap⟩
theorem WalkB.keep (h:WalkB S w B g vs vq vn Q seen out) {v:Value} {l:List Txt} {C:Nat} (ho:OwnIds w C v l) (ha:Ap v vn) {T:List (Option Nat)} (hf:Far T w w') (hT : ∀ k,some k∈T→some k∈[some g,vq.ownBlock,vn.ownBlock]):OwnIds w' C v l:=
 hf.own ho fun k hk hm=>by
  rcases List.mem_cons.1 (hT k hm) with h1 | h1
  ·exact zAs ho h.at_.q.blk (by decide) (h1.symm.trans hk.symm)
  ·rcases List.mem_cons.1 h1 with h2 | h2
   ·exact own_ne ho h.at_.q.q.own (by decide) k hk h2.symm
   ·exact ha k hk (List.mem_singleton.1 h2).symm
theorem WalkC.offer (h:WalkC S w B g vs vq vn vo vE Q seen out ol ce) {seen':List Txt} (hr:OfferR S w B g vs vq vn Q seen' out w') : ∃ vq' vn' Q',WalkC S w' B g vs vq' vn' vo vE Q' seen' out ol ce∧Far [some g,vq.ownBlock,vn.ownBlock] w w'∧Newer w vn vn':=by
 obtain ⟨vq',vn',Q',hb,hQ,hf,hn⟩:=hr
 refine ⟨vq',vn',Q',⟨hb,h.b.keep h.o h.aon hf fun _ h=>h,h.b.keep h.e h.aen hf fun _ h=>h,h.aoe,(h.aon.symm.newer hn fun k hk=>(World.ownsRow.lt h.o k hk).2).symm,(h.aen.symm.newer hn fun k hk=>(World.ownsRow.lt h.e k hk).2).symm,fun e he=>?_⟩,hf,hn⟩
 rcases hQ e he with h1 | h1
 ·exact h.ap e h1
 ·exact ⟨fun k hk hv=>by have:=h1 k hk;have:=(World.ownsRow.lt h.o k hv).2;omega,fun k hk hv=>by have:=h1 k hk;have:=(World.ownsRow.lt h.e k hv).2;omega⟩
theorem WalkC.tell (h:WalkC S w B g vs vq vn vo vE Q seen out ol ce) {vo':Value} {ol':List Txt} (ho:OwnIds w' B vo' ol') (hg:w.grownBy w' vo.ownBlock) (hn:Newer w vo vo'):WalkC S w' B g vs vq vn vo' vE Q seen out ol' ce:=by
 have hf:=Far.of_grown hg
 have hbk:some g ∉ [vo.ownBlock]:=fun hm=>zAs h.o h.b.at_.q.blk (by decide) (List.mem_singleton.1 hm)
 have hid : ∀ {C:Nat} {v:Value} {l:List Txt},OwnIds w C v l→Ap v vo→OwnIds w' C v l:=fun ho ha=>hf.own ho fun k hk hm=>ha k hk (List.mem_singleton.1 hm).symm
 refine ⟨⟨⟨⟨hf.blk h.b.at_.q.blk hbk,hf.own h.b.at_.q.q.own fun k hk hm=>own_ne h.b.at_.q.q.own h.o (by decide) k hk (List.mem_singleton.1 hm).symm,fun e he=>?_⟩,hid h.b.at_.sn h.aon.symm,h.b.at_.ok,h.b.at_.heap,h.b.at_.perm,h.b.at_.obj,h.b.at_.wi⟩,h.b.ap⟩,ho,hid h.e h.aoe.symm,h.aoe.newer hn fun k hk=>(World.ownsRow.lt h.e k hk).2,h.aon.newer hn fun k hk=>(World.ownsRow.lt h.b.at_.sn k hk).2,h.aen,fun e he=>⟨((h.ap e he).1.symm.newer hn fun k hk=>(World.ownsRow.lt (h.b.at_.q.q.each e he).op k hk).2).symm,(h.ap e he).2⟩⟩
 have hd:=h.b.at_.q.q.each e he
 exact hd.far hf (fun k hk hm=>own_ne hd.oe h.o (by decide) k hk (List.mem_singleton.1 hm).symm) fun k hk hm=>(h.ap e he).1 k hk (List.mem_singleton.1 hm).symm
theorem WalkB.far_below (h:WalkB S w B g vs vq vn Q seen out) (hB:B≤w.heap.size) (hg:B≤g) (hf:Far [some g,vq.ownBlock,vn.ownBlock] w w'):Below B w w':=hf.below hB fun k hk=>by
 rcases List.mem_cons.1 hk with h1 | h1
 ·injection h1 with h1;omega
 ·rcases List.mem_cons.1 h1 with h2 | h2
  ·exact (World.ownsRow.lt h.at_.q.q.own k h2.symm).1
  ·exact (World.ownsRow.lt h.at_.sn k (List.mem_singleton.1 h2).symm).1
theorem WalkC.next (h:WalkC S w B g vs vq vn vo vE Q seen out ol ce) {vq':Value} {Q':List DiL} {r:DiL} (hq:WqAt w' B g vs vq' vn Q') (hh:HeapQ ltN Q' Q'.length) (hp:(Q'++[r]).Perm Q) (hf:Far [some g,vq.ownBlock] w w'):WalkC S w' B g vs vq' vn vo vE Q' seen (out++[r.st.id]) ol ce∧DitOk w' r:=by
 have hmem : ∀ e∈Q',e∈Q:=fun e he=>hp.mem_iff.1 (List.mem_append_left _ he)
 have hr:r∈Q:=hp.mem_iff.1 (by simp)
 have hT : ∀ k,some k∈[some g,vq.ownBlock]→some k∈[some g,vq.ownBlock,vn.ownBlock]:=fun k hk=>by
  rcases List.mem_cons.1 hk with h1 | h1
  ·rw [h1];exact List.mem_cons_self
  ·rw [List.mem_singleton.1 h1];simp
 have hk : ∀ {C:Nat} {v:Value} {l:List Txt},OwnIds w C v l→OwnIds w' C v l:=fun {C v l} ho=>hf.own ho fun k hk hm=>by
  rcases List.mem_cons.1 hm with h1 | h1
  ·exact zAs ho h.b.at_.q.blk (by decide) (h1.symm.trans hk.symm)
  ·exact own_ne ho h.b.at_.q.q.own (by decide) k hk (List.mem_singleton.1 h1).symm
 have hrl:r.st.id∈leftW seen out:=h.b.at_.perm.mem_iff.1 (List.mem_map.2 ⟨r,hr,rfl⟩)
 have hm:=hp.map fun e=>e.st.id
 rw [List.map_append] at hm
 refine ⟨⟨⟨⟨hq,hk h.b.at_.sn,h.b.at_.ok,hh,?_,fun e he=>h.b.at_.obj e (hmem e he),h.b.at_.wi.told hrl⟩,fun e he=>h.b.ap e (hmem e he)⟩,hk h.o,hk h.e,h.aoe,h.aon,h.aen,fun e he=>h.ap e (hmem e he)⟩,?_⟩
 ·rw [left_told]
  exact perm_told (hm.trans h.b.at_.perm) (h.b.at_.wi.nd.filter _)
 ·obtain ⟨a1,a2⟩:=h.b.at_.q.apart (h.b.at_.q.q.each r hr)
  exact (h.b.at_.q.q.each r hr).far hf a1 a2
theorem heap_nil : HeapQ ltN ([]:List DiL) ([]:List DiL).length:=fun c h0 h1=>by simp at h1
end
theorem built_walker (p:Nat):Tryz.prog.built 89 [(0, .pointer (some ⟨p,0,none⟩))]=some #[.pointer (some ⟨p,0,none⟩), .slice none 0 0, .slice none 0 0]:=by kernel_rfl
set_option maxRecDepth 100000 in
set_option maxHeartbeats 16000000 in
theorem graWalk_calls {w:World} {sb p:Nat} {vl:Value} {S:List StL} (hS:StoAt w sb p vl S) (ini cut:List Txt) (hiok : ∀ x∈ini,x.length=32) (hcok : ∀ x∈cut,x.length=32) (hcl:cut.length≤800000) (vf vc:Value) (hvf:Ids w vf ini) (hvc:Ids w vc cut) :
 Calls Tryz.prog 20 #[.pointer (some ⟨p,0,none⟩),vf,vc] w fun e w' => ∃ v,e = .returned v∧OwnIds w' w.heap.size v (walkS S cut ini)∧Below w.heap.size w w':=by
 obtain ⟨R,hR⟩ : ∃ R,walkS S cut ini=R:=⟨_,rfl⟩
 rw [hR]
 replace hR:=Lib.hid hR
 have hSl:S.length≤500000:=hS.ok.few
 obtain ⟨W1,hW1⟩ : ∃ W1,w.alloc (.cells #[.pointer (some ⟨p,0,none⟩), .slice none 0 0, .slice none 0 0] 89)=W1:=⟨_,rfl⟩
 have s1:Blk W1 w.heap.size 89 #[.pointer (some ⟨p,0,none⟩), .slice none 0 0, .slice none 0 0]:=by rw [←hW1];exact Blk.new _ _ _
 have b1:Below w.heap.size w W1:=by rw [←hW1];exact (Below.refl _ _).alloc (Nat.le_refl _) _
 have hrb:=fun W=>run_build (P:=Tryz.prog) W _ #[(0, .pointer (some ⟨p,0,none⟩))] _ (built_walker p)
 have hw0:WalkB S W1 w.heap.size w.heap.size (.pointer (some ⟨p,0,none⟩)) (.slice none 0 0) (.slice none 0 0) [] [] []:=⟨⟨⟨s1,⟨World.ownsRow_nil _ _ _ _,fun e he=>by simp at he⟩⟩,World.ownsRow_nil _ _ _ _,fun x hx=>by simp at hx,heap_nil,List.Perm.refl _,fun e he=>by simp at he, .start []⟩,fun e he=>by simp at he⟩
 have hen:=fun W (hW:Below w.heap.size w W) (n:Txt) (hn:n.length=32)=>Lib.hid (zEz (hS.below hW) n hn)
 have hof:=fun W (hW:Below w.heap.size w W)=>Lib.hid (graOf_calls cut hcok (by omega) vc W (hvc.below hW))
 have hoff:=fun {g:Nat} {vq vn:Value} {Q:List DiL} {seen out:List Txt} W (hW:Below w.heap.size w W) (h:WalkB S W w.heap.size g (.pointer (some ⟨p,0,none⟩)) vq vn Q seen out) (n:Txt) (hn:n.length=32)=>Lib.hid (offer_calls (hS.below hW) h hW.size n hn)
 have hvf0:=hvf
 obtain ⟨Af,cf,rfl,hf1,hf2,hatf⟩:=hvf
 obtain ⟨Ac,cc,rfl,_⟩:=hvc
 clear s1 hS hvf0
 go_enter Tryz.func20,Tryz.ntmps20
 go_wp2_with (fail)
 try rw [hW1]
 go_loopg [25] ini.length (fun f vi wr => ∃ (k:Nat) (vq vn:Value) (Q:List DiL),vi = .int .i64 k∧k+f=ini.length∧WalkB S wr w.heap.size w.heap.size (.pointer (some ⟨p,0,none⟩)) vq vn Q (endsL S (ini.take k)) []∧Below w.heap.size w wr)
 case atStart=>exact ⟨0,_,_,[],rfl,by omega,hw0,b1⟩
 case round=>
  clear hw0 hW1 b1 hrb
  obtain ⟨k,vq,vn,Q,rfl,hkf,hw,hbel⟩:=hrel
  have hbs:=hbel.size
  cases gk with
  | succ f=>
    have hki:(k:Int)<(ini.length:Int):=by omega
    obtain ⟨gf,of_,rfl,hgf,hcf⟩:=hatf (by omega)
    obtain ⟨x,hx⟩ : ∃ x,ini[k]?=some x:=⟨_,List.getElem?_eq_getElem (by omega)⟩
    have hxi:=hiok x (List.mem_of_getElem? hx)
    have hlx:=zAb (show World.rangeAt wr gf (of_+k*32) (u8s x).toList from zAc (hcf k x hx) hgf hbel) hxi
    have hmore:Hid (endsL S (ini.take (k+1))=offerE S (endsL S (ini.take k)) x):=Lib.hid (endsL_more hx)
    have hx32:(u8s x).size=32:=by rw [zAj,hxi]
    have hx1:=u8s_one x
    have hld2 : ∀ W g,Blk W g 46 (u8s x)→(ldvI ⟨g,0,none⟩).run Tryz.prog W = .ok (.agg (u8s x)) W:=fun W g h=>zAb (zAi h) hxi
    clear hx hcf hatf
    unfold offerE at hmore
    cases hE:endS S (S.length+1) x with
    | none=>
      rw [hE] at hmore
      have hen2:Hid (∀ W,Below w.heap.size w W→Hid (Calls Tryz.prog 28 #[.pointer (some ⟨p,0,none⟩), .agg (u8s x)] W fun e w'=>e = .returned (.tuple #[.agg (u8s noId), .bool false])∧Below W.heap.size W w')):=Lib.hid fun W hW=>by
       have h:=hen W hW x hxi
       rw [hE] at h
       exact h
      have hZ32:(u8s noId).size=32:=by rw [zAj];rfl
      have hZ1:=u8s_one noId
      clear hE hen hoff hof
      generalize u8s noId=Z at *
      go_wp2_with (first
       | ((with_reducible refine lit_new 46 (.tmp 10) (.tmp 28) (u8s x) 32 sz32 hx32 hx1 _ ?_ ?_ ?_ ?_)
          ·first | rfl | kernel_rfl
          ·rfl
          ·rfl
          intro W2 hb2 hbl2
          have hl2:=hld2 W2 _ hb2
          have b2:=bthen hbel hbs hbl2
          have he2:=hen2.out W2 b2)
       | ((with_reducible refine he2.out.mono ?_);rintro e w3 ⟨rfl,hb3⟩)
       | ((with_reducible refine lit_new 46 (.tmp 11) (.tmp 33) Z 32 sz32 hZ32 hZ1 _ ?_ ?_ ?_ ?_)
          ·first | rfl | kernel_rfl
          ·rfl
          ·rfl
          intro W4 hb4 hbl4))
      have b24:=bthen hbl2 hbl2.size (bthen hb3 hb3.size hbl4)
      have hw4:=hw.below b24
      have b4:=bthen hbel hbs b24
      rw [←hmore.out] at hw4
      clear hl2 he2 hlx hen2
      go_roundg f
      case rel=>exact ⟨k+1,vq,vn,Q,by go_num,by omega,hw4,b4⟩
      case measure=>omega
    | some m=>
      rw [hE] at hmore
      have hmi:=endS_ok _ _ _ hxi hE
      have hen2:Hid (∀ W,Below w.heap.size w W→Hid (Calls Tryz.prog 28 #[.pointer (some ⟨p,0,none⟩), .agg (u8s x)] W fun e w'=>e = .returned (.tuple #[.agg (u8s m), .bool true])∧Below W.heap.size W w')):=Lib.hid fun W hW=>by
       have h:=hen W hW x hxi
       rw [hE] at h
       exact h
      have hm32:(u8s m).size=32:=by rw [zAj,hmi]
      have hm1:=u8s_one m
      have hlm : ∀ W g,Blk W g 46 (u8s m)→(ldvI ⟨g,0,none⟩).run Tryz.prog W = .ok (.agg (u8s m)) W:=fun W g h=>zAb (zAi h) hmi
      clear hE hen hof
      go_wp2_with (first
       | ((with_reducible refine lit_new 46 (.tmp 10) (.tmp 28) (u8s x) 32 sz32 hx32 hx1 _ ?_ ?_ ?_ ?_)
          ·first | rfl | kernel_rfl
          ·rfl
          ·rfl
          intro W2 hb2 hbl2
          have hl2:=hld2 W2 _ hb2
          have b2:=bthen hbel hbs hbl2
          have he2:=hen2.out W2 b2)
       | ((with_reducible refine he2.out.mono ?_);rintro e w3 ⟨rfl,hb3⟩)
       | ((with_reducible refine lit_new 46 (.tmp 11) (.tmp 33) (u8s m) 32 sz32 hm32 hm1 _ ?_ ?_ ?_ ?_)
          ·first | rfl | kernel_rfl
          ·rfl
          ·rfl
          intro W4 hb4 hbl4
          have hl4:=hlm W4 _ hb4
          have b24:=bthen hbl2 hbl2.size (bthen hb3 hb3.size hbl4)
          have hw4:=hw.below b24
          have b4:=bthen hbel hbs b24
          have ho4:=hoff W4 b4 hw4 m hmi)
       | ((with_reducible refine ho4.out.mono ?_);rintro e w5 ⟨rfl,vq5,vn5,Q5,hw5,_,hf5,_⟩))
      have b5:=b4.trans (hw4.far_below b4.size (Nat.le_refl _) hf5)
      rw [←hmore.out] at hw5
      clear hl2 he2 hlx hen2 hlm hl4 ho4 hoff hw hw4
      go_roundg f
      case rel=>exact ⟨k+1,vq5,vn5,Q5,by go_num,by omega,hw5,b5⟩
      case measure=>omega
  | zero=>
    have hki : ¬ (k:Int)<(ini.length:Int):=by omega
    have hke:ini.take k=ini:=List.take_of_length_le (by omega)
    rw [hke] at hw
    have hofr:=hof wr hbel
    clear hke hatf hof hen
    go_wp2_with (first
     | ((with_reducible refine hofr.out.mono ?_);rintro e w8 ⟨vE,rfl,hoE,hbE⟩))
    have b8:=bthen hbel hbs hbE
    have hC:WalkC S w8 w.heap.size w.heap.size (.pointer (some ⟨p,0,none⟩)) vq vn (.slice none 0 0) vE Q (endsL S ini) [] [] (sortU cut):=by
     refine ⟨hw.below hbE,World.ownsRow_nil _ _ _ _,zAw hoE hbs, .nil_l _ _ _, .nil_l _ _ _,fun k hk hv=>?_,fun e he=>⟨.nil_r _ _ _,fun k hk hv=>?_⟩⟩
     ·have:=(World.ownsRow.lt hoE k hk).1
      have:=(World.ownsRow.lt hw.at_.sn k hv).2
      omega
     ·have:=(World.ownsRow.lt hoE k hv).1
      have:=(World.ownsRow.lt (hw.at_.q.q.each e he).op k hk).2
      omega
    have hR0:Hid (walkW S cut (S.length+1) (endsL S ini) []=R):=hR
    have hEok : ∀ x∈sortU cut,x.length=32:=fun x hx=>hcok x (((zBz cut).2 x).1 hx)
    have hEr:=(zBz cut).1
    have hEl:=zDI cut
    have hEin:=fun n=>zDJ cut n
    generalize endsL S ini=seen0 at *
    clear hofr hoE hbE hw hR
    go_loopg [14] (S.length+1) (fun f vo wr => ∃ (vq vn:Value) (Q:List DiL) (seen out:List Txt),WalkC S wr w.heap.size w.heap.size (.pointer (some ⟨p,0,none⟩)) vq vn vo vE Q seen out out (sortU cut)∧f+out.length=S.length+1∧Hid (walkW S cut f seen out=R)∧Below w.heap.size w wr)
    case atStart=>exact ⟨vq,vn,Q,seen0,[],hC,rfl,hR0,b8⟩
    case round=>
     clear hC hR0 b8
     obtain ⟨vq,vn,Q,seen,out,hC,hfl,hR,hbel⟩:=hrel
     have hbs:=hbel.size
     have hlen:=hC.b.at_.len
     have hol:=hC.b.at_.wi.len.2
     have hc1:=hC.b.at_.q.c1
     obtain ⟨Aq,cq,rfl⟩:=zAm hC.b.at_.q.q.own
     obtain ⟨Ao,co,rfl⟩:=zAm hC.o
     have hqn:=Lib.hid (zCk Aq Q.length cq wr)
     by_cases hQ:Q.length=0
     ·have hQi : ¬ (0:Int)<(Q.length:Int):=by omega
      have hleft:leftW seen out=[]:=by
       have:=hC.b.at_.perm.length_eq
       rw [List.length_map] at this
       exact List.eq_nil_of_length_eq_zero (by omega)
      have hbn:bestT S seen out=none:=by unfold bestT;rw [hleft];rfl
      have hRo:out=R:=by rw [←hR.out];exact (walk_stop hbn).symm
      have hown:=hC.o
      have HRo:=Lib.hid hRo
      clear hC hR hoff hEin hleft hbn hRo hQ hlen hol hfl
      go_wp2_with (first
       | ((with_reducible refine hqn.out.mono ?_);rintro e w2 ⟨rfl,rfl⟩))
      go_ret
      refine ⟨_,rfl,?_,hbel⟩
      rw [←HRo.out]
      exact hown
     ·have hQi:(0:Int)<(Q.length:Int):=by omega
      cases gk with
      | zero=>omega
      | succ f=>
        have hbest:=root_best hC.b.at_.heap hC.b.at_.perm hC.b.at_.obj (show 0<Q.length by omega)
        have hstep:Hid (walkW S cut f (if inL cut (atQ Q 0).st.id=true then seen else offerL S seen (parS S (atQ Q 0).st.id)) (out++[(atQ Q 0).st.id])=R):=Lib.hid (by rw [←walkW_go hbest];exact hR.out)
        have hrQ:atQ Q 0∈Q:=List.mem_of_getElem? (atQ_get (by omega))
        have hobj:=hC.b.at_.obj _ hrQ
        have hrap:=hC.ap _ hrQ
        have hran:=hC.b.ap _ hrQ
        have hnx:=Lib.hid (walkNext_calls hC.b.at_.q (by omega) (show 0<Q.length by omega) hC.b.at_.heap)
        have hnext:=fun {w':World} {vq':Value} {Q':List DiL} (hq:WqAt w' w.heap.size w.heap.size (.pointer (some ⟨p,0,none⟩)) vq' vn Q') (hh:HeapQ ltN Q' Q'.length) (hp:(Q'++[atQ Q 0]).Perm Q) (hf:Far [some w.heap.size,(Value.slice Aq Q.length cq).ownBlock] wr w')=>hC.next hq hh hp hf
        have hfb:=fun {w':World} (hf:Far [some w.heap.size,(Value.slice Aq Q.length cq).ownBlock] wr w')=>(hf.below hbs fun k hk=>by
         rcases List.mem_cons.1 hk with h1 | h1
         ·injection h1 with h1;omega
         ·exact (World.ownsRow.lt hC.b.at_.q.q.own k (List.mem_singleton.1 h1).symm).1:Below w.heap.size wr w')
        have hd0:=hC.b.at_.q.q.each _ hrQ
        have hid32:=hd0.id
        have htree:=hd0.ok.tree
        have hndl:=ndC_len hd0
        have hndo:=ndC_one hd0
        have hparS:parS S (atQ Q 0).st.id=(atQ Q 0).o.pars:=by unfold parS;rw [hobj]
        rw [hparS] at hstep
        obtain ⟨r,hr⟩ : ∃ r,atQ Q 0=r:=⟨_,rfl⟩
        rw [hr] at hstep hobj hrap hran hd0 hid32 htree hndl hndo
        simp only [hr] at hnx hnext
        obtain ⟨X,hX⟩ : ∃ X,(ndC r).toArray=X:=⟨_,rfl⟩
        have hX104:X.size=104:=by rw [←hX,List.size_toArray,hndl]
        have hX1:X.all (·.oneCell')=true:=by rw [←hX];exact all_oneCell_toArray hndo
        have hXr : ∀ W g,Blk W g 94 X→W.rangeAt g 0 (ndC r):=fun W g h=>by
         have:=zAi h
         rwa [←hX,List.toList_toArray] at this
        have hown0:=hC.o
        have hgn4:=fun w3 (hf:Far [some w.heap.size,(Value.slice Aq Q.length cq).ownBlock] wr w3)=>(fun hm=>by
         have h1:=(World.ownsRow.lt hown0 _ (List.mem_singleton.1 hm).symm).2
         have h2:=hf.size
         omega:some w3.heap.size ∉ [(Value.slice Ao out.length co).ownBlock])
        have hi32:(u8s r.st.id).size=32:=by rw [zAj,hid32]
        have hi132:(u8s r.st.id).size=1*32:=hi32
        have hi1 : ∀ u∈(u8s r.st.id).toList,u.oneCell'=true:=idC_one r.st.id
        have hhs:=fun {W:World} (h:OwnIds W w.heap.size vE (sortU cut))=>Lib.hid (setHas_calls (sortU cut) hEok hEr (by omega) vE r.st.id hid32 W (SliceAt.of_own (fun e h=>idC_len (hEok e h)) h))
        rw [hEin r.st.id] at hhs
        have hAk:out.length+1≤9223372036854775807:=by omega
        have hAb:(out.length+1)*32≤140737488355328:=by omega
        have hfl2:=hfl
        have hlen2:Hid ((out++[r.st.id]).length=out.length+1):=Lib.hid (by rw [List.length_append];rfl)
        have hrow2:Hid (rowsOf idC (out++[r.st.id])=rowsOf idC out++(u8s r.st.id).toList):=Lib.hid (by rw [zAo,zAx];rfl)
        rw [hX] at hnx
        have hown5:=fun {W:World} {v:Value} (h:W.ownsRow w.heap.size 46 32 v (out.length+1) (rowsOf idC out++(u8s r.st.id).toList))=>(by unfold OwnIds;rw [hlen2.out,hrow2.out];exact h:OwnIds W w.heap.size v (out++[r.st.id]))
        have hgl:w.heap.size<wr.heap.size:=hC.b.at_.q.blk.lt
        have HX:=Lib.hid hX
        have HC:=Lib.hid hC
        clear hC hR hbest hrQ hparS hr hndl hndo hX hEin hQ
        go_wp2_with (first
         | ((with_reducible refine hqn.out.mono ?_);rintro e w2 ⟨rfl,rfl⟩)
         | ((with_reducible refine hnx.out.mono ?_);rintro e w3 ⟨rfl,vq3,Q3,hq3,hh3,hp3,hv3,hf3⟩
            have hC3:=hnext hq3 hh3 hp3 hf3
            have b3:=hfb hf3)
         | ((with_reducible refine lit_new 94 (.tmp 15) (.tmp 49) X 104 szNd hX104 hX1 _ ?_ ?_ ?_ ?_)
            ·first | exact hX104 | kernel_rfl
            ·rfl
            ·rfl
            intro W4 hb4 hbl4
            have li4:=zAb (nd_id (hXr W4 _ hb4)) hid32
            have hC4:=hC3.1.below hbl4
            have b4:=b3.trans (hbl4.mono (Nat.le_trans hbs b3.size))
            have hn4:=Nat.le_trans hbs b4.size
            have hown4:=hC4.o)
         | ((with_reducible refine zAC (.tmp 52) Tryz.idsTy (u8s r.st.id) hi32 (by omega) ?_ ?_);rfl)
         | ((with_reducible refine zAp (.tmp 50) (.tmp 53) 1 _ Tryz.idsTy hown4 (u8s r.st.id) hi132 hi1 hAk hAb hn4 ?_ ?_ ?_);rfl;rfl
            intro v5 w5 ho5 hb5 hg5 hn5
            have hb5n:=(Far.of_grown hg5).blk hb4 (hgn4 w3 hf3)
            have li5:=zAb (nd_id (hXr w5 _ hb5n)) hid32
            have hC5:=hC4.tell (hown5 ho5) hg5 hn5
            have hhas:=hhs hC5.e))
        have b5:=hbel.trans (b4.trans hb5)
        have hd4:=hC3.2.below hbl4
        have hd5:DitOk w5 r:=hd4.far (Far.of_grown hg5) (fun k hk hm=>own_ne hd4.oe hown4 (by decide) k hk (List.mem_singleton.1 hm).symm) (fun k hk hm=>hrap.1 k hk (List.mem_singleton.1 hm).symm)
        have h5s:w.heap.size≤w5.heap.size:=b5.size
        clear hC3 hC4 hd4 hb4 hbl4 li4 hown4 ho5 hg5 hn5 hgn4 hhs hown5 hqn hnx hnext hfb hd0 HC hfl b4 hb5 hc1 hown0
        obtain ⟨bE,hbE⟩ : ∃ b,inL cut r.st.id=b:=⟨_,rfl⟩
        rw [hbE] at hhas hstep
        clear hbE
        cases bE with
        | true=>
          rw [if_pos rfl] at hstep
          go_wp2_with (first
           | ((with_reducible refine hhas.out.mono ?_);rintro e w6 ⟨rfl,hb6⟩))
          have hC6:=hC5.below hb6
          have b6:=bthen b5 h5s hb6
          clear hhas li5 hoff
          go_roundg f
          case rel=>exact ⟨vq3,vn,Q3,seen,out++[r.st.id],hC6,by rw [hlen2.out];omega,hstep,b6⟩
          case measure=>omega
        | false=>
          rw [if_neg (by decide)] at hstep
          obtain ⟨A1,A2,k1,k2,e1,e2⟩:=hd5.forms
          have hop5:=hd5.op
          rw [e2] at hop5 hran
          have hcp : ∀ W,Below w5.heap.size w5 W→W.cell? ⟨w3.heap.size,67,none⟩=some (.slice A2 r.o.pars.length k2):=fun W hW=>by
           have:=nd_pars (hXr W _ (hb5n.below hW hb5n.lt)) hid32 htree
           rw [e2] at this
           exact this
          have hpok:=hd5.ok.pars
          obtain ⟨PS,hPS⟩ : ∃ PS,r.o.pars=PS:=⟨_,rfl⟩
          rw [hPS] at hop5 hran hcp hpok hstep
          clear e1 e2 hPS hd5 htree
          go_wp2_with (first
           | ((with_reducible refine hhas.out.mono ?_);rintro e w6 ⟨rfl,hb6⟩
              have hcp6:=hcp w6 hb6
              have hC6:=hC5.below hb6
              have b6:=bthen b5 h5s hb6
              have hop6:=zAf hop5 hb6))
          obtain ⟨ON,hON⟩ : ∃ ON,out++[r.st.id]=ON:=⟨_,rfl⟩
          rw [hON] at hC6 hstep hlen2
          clear hhas li5 hC5 hcp hcp6 hop5 hON hb6 b5
          go_loopg [63] PS.length (fun f3 vi wq => ∃ (k:Nat) (vq vn:Value) (Q:List DiL),vi = .int .i64 k∧k+f3=PS.length∧WalkC S wq w.heap.size w.heap.size (.pointer (some ⟨p,0,none⟩)) vq vn v5 vE Q (offerL S seen (PS.take k)) ON ON (sortU cut)∧OwnIds wq 0 (.slice A2 PS.length k2) PS∧Ap (.slice A2 PS.length k2) vn∧Below w.heap.size w wq)
          case atStart=>exact ⟨0,vq3,vn,Q3,rfl,by omega,hC6,hop6,hran,b6⟩
          case round=>
           clear hC6 hop6 hran b6
           obtain ⟨k,vq,vn,Q,rfl,hkf,hC,hop,hap,hbel⟩:=hrel
           have hbs:=hbel.size
           cases gk with
           | succ f3=>
             have hki:(k:Int)<(PS.length:Int):=by omega
             obtain ⟨A2',k2',hpe,_,_,hatp⟩:=SliceAt.of_own (fun e h=>idC_len (hpok e h)) hop
             obtain ⟨gp,op_,hpe2,hgp,hcp⟩:=hatp (by omega)
             injection hpe with hpe1 _ hpe3
             subst hpe3
             obtain rfl:A2=some ⟨gp,op_,none⟩:=hpe1.trans hpe2
             obtain ⟨x,hx⟩ : ∃ x,PS[k]?=some x:=⟨_,List.getElem?_eq_getElem (by omega)⟩
             have hxi:=hpok x (List.mem_of_getElem? hx)
             have hlx:=zAb (show World.rangeAt wr gp (op_+k*32) (u8s x).toList from hcp k x hx) hxi
             have hmore:Hid (offerL S seen (PS.take (k+1))=offerS S (offerL S seen (PS.take k)) x):=Lib.hid (offerL_more hx)
             have hx32:(u8s x).size=32:=by rw [zAj,hxi]
             have hx1:=u8s_one x
             have hld2 : ∀ W g,Blk W g 46 (u8s x)→(ldvI ⟨g,0,none⟩).run Tryz.prog W = .ok (.agg (u8s x)) W:=fun W g h=>zAb (zAi h) hxi
             clear hx hcp hatp hpe1 hpe2
             go_wp2_with (first
              | ((with_reducible refine lit_new 46 (.tmp 17) (.tmp 66) (u8s x) 32 sz32 hx32 hx1 _ ?_ ?_ ?_ ?_)
                 ·first | rfl | kernel_rfl
                 ·rfl
                 ·rfl
                 intro W2 hb2 hbl2
                 have hl2:=hld2 W2 _ hb2
                 have b2:=bthen hbel hbs hbl2
                 have hC2:=hC.below hbl2
                 have ho2:=hoff W2 b2 hC2.b x hxi)
              | ((with_reducible refine ho2.out.mono ?_);rintro e w7 ⟨rfl,hr7⟩))
             obtain ⟨vq7,vn7,Q7,hC7,hf7,hn7⟩:=hC2.offer hr7
             have hop2:=zAf hop hbl2
             have hop7:=hC2.b.keep hop2 hap hf7 fun _ h=>h
             have hap7:=(hap.symm.newer hn7 fun k hk=>(World.ownsRow.lt hop2 k hk).2).symm
             have b7:=b2.trans (hC2.b.far_below b2.size (Nat.le_refl _) hf7)
             rw [←hmore.out] at hC7
             clear hl2 ho2 hlx hld2 hr7 hC2 hC hop hop2
             go_roundg f3
             case rel=>exact ⟨k+1,vq7,vn7,Q7,by go_num,by omega,hC7,hop7,hap7,b7⟩
             case measure=>omega
           | zero=>
             have hki : ¬ (k:Int)<(PS.length:Int):=by omega
             have hke:PS.take k=PS:=List.take_of_length_le (by omega)
             rw [hke] at hC
             clear hop hap hke
             go_wp2_with (fail)
             go_roundg f
             case rel=>exact ⟨vq,vn,Q,offerL S seen PS,ON,hC,by rw [hlen2.out];omega,hstep,hbel⟩
             case measure=>omega
end
section
attribute [local go_sem ↓] ldvI_eq ldvS_eq ldvH_eq bldD_eq
theorem run_bldD0 (x:DpL) (hx:DptOk x) (W:World):(bldD #[(0, .agg (u8s x.id)),(1, .int .i64 x.n)]).run Tryz.prog W = .ok (.agg (dptC x).toArray) W:=run_build (P:=Tryz.prog) W _ _ _ (built_ddt x.id x.n hx.1)
set_option maxRecDepth 100000 in
set_option maxHeartbeats 8000000 in
theorem depthCuts_calls (h:HisL) (vs vo vf vc:Value) (n:Nat) (w:World) (hK:TabK w) (hh:HisOk w vs vo vf vc h) :
 Calls Tryz.prog 4 #[.agg #[vs,vo,vf,vc], .int .u8 n] w fun e w'=>e = .returned (.bool true)∧Below w.heap.size w w':=by
 obtain ⟨W1,hW1⟩ : ∃ W1,w.alloc (.cells #[vs,vo,vf,vc] 25)=W1:=⟨_,rfl⟩
 have s1:Blk W1 w.heap.size 25 #[vs,vo,vf,vc]:=by rw [←hW1];exact Blk.new _ _ _
 have b1:Below w.heap.size w W1:=by rw [←hW1];exact (Below.refl _ _).alloc (Nat.le_refl _) _
 have hld:=fun W (hW:Below W1.heap.size W1 W)=>run_ldvH (s1.below hW s1.lt)
 have hld1:=hld W1 (Below.refl _ _)
 have c2 : ∀ W,Below W1.heap.size W1 W→W.cell? ⟨w.heap.size,2,none⟩=some vf:=fun W hW=>(s1.below hW s1.lt).cell 2
 have c3 : ∀ W,Below W1.heap.size W1 W→W.cell? ⟨w.heap.size,3,none⟩=some vc:=fun W hW=>(s1.below hW s1.lt).cell 3
 have hfew:=Lib.hid ((few12_calls h vs vo vf vc W1 (hh.below b1)).mono fun e w' (q:Few12R h W1 e w'∧Below W1.heap.size W1 w')=>(⟨q.1.b,q.2⟩:Few12B h e w'∧Below W1.heap.size W1 w'))
 have hkn:=fun W (hW:Below w.heap.size w W)=>Lib.hid (zEJ W)
 have hnm:=fun (hf:FewH h) W (hW:Below w.heap.size w W)=>Lib.hid (named_calls h hf vs vo vf vc W (hh.below hW))
 have hid:=fun (ids:List Txt) (hok : ∀ x∈ids,x.length=32) (hil:ids.length≤24) (v:Value) W (hW:Below w.heap.size w W) (hv:Ids W v ids) (l:Txt) (hl10:l.length≤10) (vl:Value) (hvl:SliceAt w 1 byC vl l)=>Lib.hid (ids12_calls ids hok (Nat.le_trans hil (by omega)) v W hv l (Nat.le_trans hl10 (by omega)) vl (hvl.below hW))
 have hcut:=hh.cut
 have hfrm:=hh.frm
 clear hh s1
 go_enter Tryz.func4,Tryz.ntmps4
 go_upto_region 2 with (first
  | ((with_reducible refine hfew.out.mono ?_);rintro e w2 ⟨⟨Am,nm,cm,b,rfl,hb⟩,hb2⟩
     have hm2:(#[Value.slice Am nm cm]:Array Value).all (·.oneCell')=true:=by simp [Value.oneCell']
     have hm1:(#[Value.slice Am nm cm]:Array Value).size=1:=rfl)
  | ((with_reducible refine lit_new 28 (.tmp 5) (.tmp 29) #[.slice Am nm cm] 1 szDSt hm1 hm2 _ ?_ ?_ ?_ ?_)
     ·first | exact hm1 | rfl
     ·rfl
     ·rfl
     intro W3 hb3 hbl3))
 have b13:=bthen hb2 hb2.size hbl3
 have b3:=bthen b1 b1.size b13
 have hkn3:=hkn W3 b3
 clear hfew hld1 hW1
 cases b with
 | false=>
   clear hb hkn hnm hid hld c2 c3
   go_wp2_with (first
    | ((with_reducible refine hkn3.out.mono ?_);rintro e w5 ⟨rfl,hb5⟩))
   go_ret
   exact ⟨rfl,bthen b3 b3.size hb5⟩
 | true=>
   obtain ⟨es,hFH,hD2,hel⟩:=hb rfl
   clear hb
   by_cases hn:1≤n∧n≤30
   ·obtain ⟨hn1,hn2⟩:=hn
    have hni1 : ¬ (n:Int)<1:=by omega
    have hni2 : ¬ (30:Int)<(n:Int):=by omega
    have hw:IntKind.i64.wrap (n:Int)=n:=by rw [IntKind.wrap_i64];omega
    have hD3:=hD2.below hbl3
    have hs3:=fun W (hW:Below W3.heap.size W3 W)=>zAP (hb3.below hW hb3.lt)
    have hs33:=hs3 W3 (Below.refl _ _)
    have h10f:=hFH.2.2.1
    have hof3:=Lib.hid (of_calls11 hD3 (by omega) (hK.below b3))
    have hnm3:=fun W (hW:Below W3.heap.size W3 W)=>hnm hFH W (bthen b3 b3.size hW)
    have hld3:=fun W (hW:Below W3.heap.size W3 W)=>hld W (bthen b13 b13.size hW)
    have c23:=fun W (hW:Below W3.heap.size W3 W)=>c2 W (bthen b13 b13.size hW)
    have b03:=fun W (hW:Below W3.heap.size W3 W)=>bthen b3 b3.size hW
    obtain ⟨Af,cf,rfl,_⟩:=id hfrm
    clear hkn3 hnm hld c2 c3 hcut
    go_upto_region 5 with (first
     | ((with_reducible refine hof3.out.mono ?_);rintro e w4 ⟨⟨p,vl,rfl,hp4,hS4⟩,hb4⟩))
    clear hof3 hs33
    refine zAA 6 (by kernel_rfl) (by kernel_rfl) (by kernel_rfl) (by kernel_rfl) ?_
    simp only [exSp]
    iterate 6 apply Exists.intro
    repeat
     first
      | ((with_reducible apply lx0_ex)
         ·(go_simp;done)
         apply Exists.intro
         apply And.intro
         ·apply Eq.refl
         apply And.intro
         ·intro W hW hD
          have q0:=hld3 W (bthen hb4 hb4.size hW)
          have q1:=c23 W (bthen hb4 hb4.size hW)
          go_simp
          rfl
         simp only [Act.put,zA,zB,zC])
      | ((with_reducible apply zA2)
         ·(first | rfl | (go_simp;done))
         ·apply Eq.refl
         simp only [Act.put,zA,zB,zC])
      | ((with_reducible refine lx0_new (idsR w4.heap.size 24) rfl ?_ (idsR_stab _ _) ?_ ?_)
         ·(go_simp;done)
         ·intro W hW hD
          have q0:=hld3 W (bthen hb4 hb4.size hW)
          unfold doesAt Oper.wp execOp
          go_simp
          (with_reducible refine ((hnm3 W (bthen hb4 hb4.size hW)).out).mono ?_)
          rintro e w' ⟨⟨vi,ids,rfl,hoi,hiok,hil⟩,hb⟩
          exact ⟨hb,idsR_new hW.size hoi hiok hil⟩
         intro v
         simp only [Act.put,zA,zB,zC])
      | ((with_reducible refine lx0_new (idsR w4.heap.size 10) rfl ?_ (idsR_stab _ _) ?_ ?_)
         ·(go_simp;done)
         ·intro W hW hD
          unfold doesAt Oper.wp execOp
          go_simp
          obtain ⟨F,ids,hiok,hil,ho,_⟩:=hD.at 0 rfl (by kernel_rfl)
          (with_reducible refine (hid ids hiok hil _ W (b03 W (bthen hb4 hb4.size hW)) (SliceAt.of_own (idsK hiok) ho) h.frm h10f _ hfrm).out.mono ?_)
          rintro e w' ⟨⟨v,fr,rfl,ho2,hfok,hfl0⟩,hb⟩
          exact ⟨hb,idsR_new hW.size ho2 hfok (by rw [hfl0];exact h10f)⟩
         intro v
         simp only [Act.put,zA,zB,zC])
      | (first | (with_reducible apply zA1) | (with_reducible apply zAK)
         ·apply Eq.refl
         apply Exists.intro
         apply And.intro
         ·(go_simp;rfl)
         simp only [Act.put,zA,zB,zC])
    refine lx0_nil ?_ fun w5 hW5 hD5=>?_
    ·exact List.nodup_nil
    obtain ⟨_,from_,hfok,hfl,ho5,_⟩:=hD5 _ (.head _)
    clear hD5
    have b35:=bthen hb4 hb4.size hW5
    have b05:=b03 w5 b35
    have lS:=fun W (hW:Below w5.heap.size w5 W)=>hs3 W (bthen b35 b35.size hW)
    have hD5:=hD3.below b35
    have hS5:=hS4.below hW5
    have hfrI:=SliceAt.of_own (fun e h=>idC_len (hfok e h)) ho5
    have hKn:=fun W (hW:Below w5.heap.size w5 W)=>hkn W (bthen b05 b05.size hW)
    have hel2:es.length≤24:=hel
    clear hs3 hD3 hD2 hS4 hid hnm3 hld3 c23 b03 ho5 hb4 hW5 b35 b13 b3 hfrm hFH hK hb3 h10f hkn hbl3 hb2
    have hln2:n≤1048576:=by omega
    have k1:=Lib.hid (zDk hS5 hfrI hfok (by omega) 1048576 (by omega) (Nat.le_refl _))
    rw [show ((1048576:Nat):Int)=1048576 from rfl] at k1
    have k2:=fun W (hW:Below w5.heap.size w5 W)=>Lib.hid (zDk (hS5.below hW) (hfrI.below hW) hfok (by omega) n hn1 hln2)
    have k3:=fun W (hW:Below w5.heap.size w5 W)=>Lib.hid (depBound_calls (hS5.below hW) (hfrI.below hW) hfok (by omega) n hn1 hln2)
    have k4:=fun W (hW:Below w5.heap.size w5 W) (cut:List Txt) (hc : ∀ x∈cut,x.length=32) (hcl:cut.length≤800000) vc (hvc:Ids W vc cut)=>Lib.hid (graWalk_calls (hS5.below hW) from_ cut hfok hc hcl _ vc (hfrI.below hW) hvc)
    have hob:=fun W (hW:Below w5.heap.size w5 W) (y:Txt) (hy:y.length=32)=>docObjQ_calls hD5 hW y hy
    have hki:=fun W (hW:Below w5.heap.size w5 W) (y:Txt) (hy:y.length=32)=>zBM (hD5.below hW) y hy
    have hwok : ∀ cut:List Txt, ∀ x∈walkS (es.map (·.st)) cut from_,x.length=32:=fun cut x hx=>walkS_ok hS5.ok hx
    have hwlen : ∀ cut:List Txt,(walkS (es.map (·.st)) cut from_).length≤es.length:=fun cut=>by have:=walkS_len (S:=es.map (·.st)) (cut:=cut) (ini:=from_);rwa [List.length_map] at this
    have hI1:=depS_I (es.map (·.st)) 1048576 (endsM (es.map (·.st)) from_)
    have hI2:=depS_I (es.map (·.st)) n (endsM (es.map (·.st)) from_)
    obtain ⟨S,hS⟩ : ∃ S,es.map (·.st)=S:=⟨_,rfl⟩
    have hSl:S.length≤24:=by rw [←hS,List.length_map];exact hel2
    rw [hS] at k1 hI1 hI2
    simp only [hS] at k2 k3 k4 hob hki hwok hwlen
    have hcc:=fun {L2 L3:List DpL} (h1:DptS L2 (depS S n (endsM S from_))) (h2:DptS L3 (depS S n (endsM S from_)))=>cuts_cut hn1 h1 h2
    have hcw:=fun {L:List DpL} (h1:DptS L (depS S 1048576 (endsM S from_)))=>cuts_whole (n:=1048576) (by omega) (by omega) h1
    have hcp:=fun {L:List DpL} (h1:DptS L (depS S 1048576 (endsM S from_))) {p:DpL} (hp:p∈L) {q:Txt} (hq:q∈parS S p.id) (hk:kindS S q=3)=>cuts_par (n:=1048576) (by omega) (by omega) h1 hp hq hk
    obtain ⟨R,hR⟩ : ∃ R,depS S 1048576 (endsM S from_)=R:=⟨_,rfl⟩
    obtain ⟨R2,hR2⟩ : ∃ R2,depS S n (endsM S from_)=R2:=⟨_,rfl⟩
    rw [hR] at k1 hI1
    rw [hR2] at hI2
    simp only [hR2] at k2 k3 hcc
    simp only [hR] at hcw hcp
    have hRl:=hI1.len
    have hR2l:=hI2.len
    clear hR hR2 hS hD5 hfrI hS5
    go_upto_region 13 with (first
     | ((with_reducible refine k1.out.mono ?_);rintro e w6 ⟨v6,rfl,⟨L,hLs,hLok,hLo⟩,hb6⟩
        have k26:=k2 w6 hb6
        obtain ⟨Al,cl,rfl⟩:=zAm hLo)
     | ((with_reducible refine k26.out.mono ?_);rintro e w7 ⟨v7,rfl,⟨L2,hL2s,hL2ok,hL2o⟩,hb7⟩
        have b7:=bthen hb6 hb6.size hb7
        have k37:=k3 w7 b7
        obtain ⟨Al2,cl2,rfl⟩:=zAm hL2o)
     | ((with_reducible refine k37.out.mono ?_);rintro e w8 ⟨va,vb,rfl,⟨L3,hL3s,hL3i,hoa,hob8⟩,hb8⟩
        have b8:=bthen b7 b7.size hb8))
    have hLb:L.length≤24:=by rw [hLs.len];omega
    have hL2b:L2.length≤24:=by rw [hL2s.len];omega
    have hL3b:L3.length≤24:=by rw [hL3s.len];omega
    have hcc1:=hcc hL2s hL3s
    have hcw1:=hcw hLs
    have hcp1:=fun {p:DpL} (hp:p∈L) {q:Txt} (hq:q∈parS S p.id) (hk:kindS S q=3)=>hcp hLs hp hq hk
    have hLo8:=zAf hLo (bthen hb7 hb7.size hb8)
    have hL2o8:=zAf hL2o hb8
    have hsok : ∀ x∈shalL S L3 n,x.length=32:=fun x hx=>by
     obtain ⟨p,hp,rfl⟩:=List.mem_map.1 hx
     exact hL3i p (List.mem_filter.1 hp).1
    have hsl:(shalL S L3 n).length≤24:=by
     have:=shalL_len (S:=S) (L:=L3) (k:=L3.length) (n:=n)
     rw [List.take_length] at this
     omega
    have hid1 : ∀ x∈L.map DpL.id,x.length=32:=fun x hx=>by
     obtain ⟨p,hp,rfl⟩:=List.mem_map.1 hx
     exact (hLok p hp).1
    have hid2 : ∀ x∈L2.map DpL.id,x.length=32:=fun x hx=>by
     obtain ⟨p,hp,rfl⟩:=List.mem_map.1 hx
     exact (hL2ok p hp).1
    obtain ⟨SH,hSH⟩ : ∃ SH,shalL S L3 n=SH:=⟨_,rfl⟩
    rw [hSH] at hcc1 hsok hsl hoa
    obtain ⟨Aa,ca,rfl⟩:=zAm hoa
    obtain ⟨A',c',he,_,_,hatL2⟩:=SliceAt.of_own (dptK hL2ok) hL2o8
    injection he with e1 _ e3
    subst e1
    subst e3
    obtain ⟨A'',c'',he,_,_,hatL⟩:=SliceAt.of_own (dptK hLok) hLo8
    injection he with e1 _ e3
    subst e1
    subst e3
    have hLnd:(L.map DpL.id).Nodup:=(hLs.perm.map DpL.id).nodup_iff.2 hI1.nd
    have b08:=bthen b05 b05.size b8
    have lS8:=fun W (hW:Below w8.heap.size w8 W)=>lS W (bthen b8 b8.size hW)
    have hob1:=fun W (hW:Below w8.heap.size w8 W)=>hob W (bthen b8 b8.size hW)
    have hki1:=fun W (hW:Below w8.heap.size w8 W)=>hki W (bthen b8 b8.size hW)
    have hK8:=fun W (hW:Below w8.heap.size w8 W)=>hKn W (bthen b8 b8.size hW)
    have k48:=fun W (hW:Below w8.heap.size w8 W)=>k4 W (bthen b8 b8.size hW)
    clear k1 k26 k37 k2 k3 k4 hcc hcw hcp hLo hL2o hob8 hb6 hb7 hb8 b7 hI1 hI2 hLs hL2s hL3s hL3i hL3b hSH hob hki lS hKn hRl hR2l b05
    go_wp2_with (fail)
    go_loopg [16,19] L2.length (fun f v16 v19 wr => ∃ (vi:Value) (k:Nat) (I:List Txt),vi=v16∧v19 = .int .i64 k∧k+f=L2.length∧I=(L2.take k).map DpL.id∧OwnIds wr w8.heap.size vi I∧Below w8.heap.size w8 wr)
    case atStart=>exact ⟨_,0,[],rfl,rfl,by omega,rfl,World.ownsRow_nil _ _ _ _,Below.refl _ _⟩
    case round=>
     obtain ⟨vi,k,I,rfl,rfl,hkf,hI,hoi,hbel⟩:=hrel
     have hbs:=hbel.size
     obtain ⟨Ai,ci,rfl⟩:=zAm hoi
     cases gk with
     | succ f=>
       have hki2:(k:Int)<(L2.length:Int):=by omega
       obtain ⟨ga,oa,rfl,hga,hca⟩:=hatL2 (by omega)
       obtain ⟨x,hx⟩ : ∃ x,L2[k]?=some x:=⟨_,List.getElem?_eq_getElem (by omega)⟩
       have hxi:=(hL2ok x (List.mem_of_getElem? hx)).1
       have hlx:(ldvI ⟨ga,oa+k*33,none⟩).run Tryz.prog wr = .ok (.agg (u8s x.id)) wr:=zAb (dptC_id (zAc (hca k x hx) hga hbel)) hxi
       have hI2:I++[x.id]=(L2.take (k+1)).map DpL.id:=by rw [List.take_add_one,hx,List.map_append,←hI];rfl
       have hIl:I.length≤k:=by rw [hI,List.length_map,List.length_take];omega
       have hi32:(u8s x.id).size=32:=by rw [zAj,hxi]
       have hi132:(u8s x.id).size=1*32:=hi32
       have hi1' : ∀ u∈(u8s x.id).toList,u.oneCell'=true:=idC_one x.id
       have hAk:I.length+1≤9223372036854775807:=by omega
       have hAb:(I.length+1)*32≤140737488355328:=by omega
       obtain ⟨XC,hXC⟩ : ∃ XC,u8s x.id=XC:=⟨_,rfl⟩
       rw [hXC] at hlx hi32 hi132 hi1'
       replace hXC:=Lib.hid hXC
       clear hca hatL2 hatL hLok hL2ok hx hI hob1 hki1 k48 lS8 hK8
       go_wp2_with (first
        | ((with_reducible refine zAC (.tmp 95) Tryz.idsTy XC hi32 (by omega) ?_ ?_);rfl)
        | ((with_reducible refine zAp (.tmp 90) (.tmp 96) 1 _ Tryz.idsTy hoi XC hi132 hi1' hAk hAb hbs ?_ ?_ ?_);rfl;rfl
           intro v9 w9 ho9 hb9 hg9 hn9))
       have ho9':OwnIds w9 w8.heap.size v9 (I++[x.id]):=zDy (by rw [hXC.out];exact ho9)
       have b9:=hbel.trans hb9
       clear hg9 hn9 ho9 hoi
       go_roundg f
       case rel=>exact ⟨_,k+1,_,rfl,by go_num,by omega,hI2,ho9',b9⟩
       case measure=>omega
     | zero=>
       have hki2 : ¬ (k:Int)<(L2.length:Int):=by omega
       have hke:L2.take k=L2:=List.take_of_length_le (by omega)
       rw [hke] at hI
       have hIok : ∀ x∈I,x.length=32:=by rw [hI];exact hid2
       rw [←hI] at hcc1
       clear hI hke hatL2 hL2ok hid2 hL2o8
       rename World=>wq
       go_wp2_with (fail)
       go_loopg [17,18,20] L.length (fun f v17 v18 v20 wr => ∃ (vd ve:Value) (k:Nat) (E:List DpL) (J:List Txt),vd=v17∧ve=v18∧v20 = .int .i64 k∧k+f=L.length∧E=L.take k∧J=(L.take k).map DpL.id∧OwnDdts wr wq.heap.size vd E∧OwnIds wr wq.heap.size ve J∧Below wq.heap.size wq wr)
       case atStart=>exact ⟨_,_,0,[],[],rfl,rfl,rfl,by omega,rfl,rfl,World.ownsRow_nil _ _ _ _,World.ownsRow_nil _ _ _ _,Below.refl _ _⟩
       case round=>
        obtain ⟨vd,ve,k2,E,J,rfl,rfl,rfl,hkf2,hE,hJ,hod,hoj,hbel2⟩:=hrel
        have hbs2:=hbel2.size
        obtain ⟨Ad,cd,rfl⟩:=zAm hod
        obtain ⟨Aj,cj,rfl⟩:=zAm hoj
        cases gk with
        | succ f=>
          have hki3:(k2:Int)<(L.length:Int):=by omega
          obtain ⟨ga,oa,rfl,hga,hca⟩:=hatL (by omega)
          obtain ⟨x,hx⟩ : ∃ x,L[k2]?=some x:=⟨_,List.getElem?_eq_getElem (by omega)⟩
          have hxok:=hLok x (List.mem_of_getElem? hx)
          have hxi:=hxok.1
          have hxr:=fun W (hW:Below wq.heap.size wr W)=>zAc (hca k2 x hx) hga (bthen hbel hbs (hbel2.trans hW))
          have hlx : ∀ W,Below wq.heap.size wr W→(ldvI ⟨ga,oa+k2*33,none⟩).run Tryz.prog W = .ok (.agg (u8s x.id)) W:=fun W hW=>zAb (dptC_id (hxr W hW)) hxi
          have hln : ∀ W,Below wq.heap.size wr W→W.cell? ⟨ga,oa+k2*33+32,none⟩=some (.int .i64 x.n):=fun W hW=>dptC_n hxi (hxr W hW)
          have hE2:E++[x]=L.take (k2+1):=by rw [List.take_add_one,hx,←hE];rfl
          have hJ2:J++[x.id]=(L.take (k2+1)).map DpL.id:=by rw [List.take_add_one,hx,List.map_append,←hJ];rfl
          have hEl:E.length≤k2:=by rw [hE,List.length_take];omega
          have hJl:J.length≤k2:=by rw [hJ,List.length_map,List.length_take];omega
          have hbd:=fun W=>run_bldD0 x hxok W
          have hD33:(dptC x).toArray.size=33:=by rw [List.size_toArray];exact zBh hxok
          have hD1:=dptC_all x
          have hi32:(u8s x.id).size=32:=by rw [zAj,hxi]
          have hi132:(u8s x.id).size=1*32:=hi32
          have hi1' : ∀ u∈(u8s x.id).toList,u.oneCell'=true:=idC_one x.id
          have hAk:E.length+1≤9223372036854775807:=by omega
          have hAb:(E.length+1)*40≤140737488355328:=by omega
          have hBk:J.length+1≤9223372036854775807:=by omega
          have hBb:(J.length+1)*32≤140737488355328:=by omega
          obtain ⟨XC,hXC⟩ : ∃ XC,u8s x.id=XC:=⟨_,rfl⟩
          obtain ⟨DC,hDC⟩ : ∃ DC,(dptC x).toArray=DC:=⟨_,rfl⟩
          obtain ⟨XN,hXN⟩ : ∃ XN,x.n=XN:=⟨_,rfl⟩
          simp only [hXC] at hlx
          simp only [hXN] at hln
          simp only [hXC,hXN,hDC] at hbd
          rw [hDC] at hD33 hD1
          rw [hXC] at hi32 hi132 hi1'
          replace hXC:=Lib.hid hXC
          replace hDC:=Lib.hid hDC
          clear hca hatL hLok hxok hx hE hJ hxr hob1 hki1 k48 lS8 hK8 hXN hLnd hcp1
          go_upto_region 23 with (fail)
          have hpre:=preOkR (i:=13) hod
          have hrB : ∀ k,some k∈rowsOfP [(13,(Value.slice Ad E.length cd).ownBlock,fun w=>World.ownsRow w wq.heap.size 55 33 (.slice Ad E.length cd) E.length (rowsOf dptC E))]→wq.heap.size≤k:=fun k hk=>(World.ownsRow.lt hod k (rowsR hk)).1
          refine zBA 15 [(13,(Value.slice Ad E.length cd).ownBlock,fun w=>World.ownsRow w wq.heap.size 55 33 (.slice Ad E.length cd) E.length (rowsOf dptC E))] hpre (by kernel_rfl) (by kernel_rfl) (by kernel_rfl) (by kernel_rfl) ?_
          simp only [exSp]
          iterate 15 apply Exists.intro
          repeat
           first
            | ((with_reducible apply lx_ex)
               ·(go_simp;done)
               apply Exists.intro
               apply And.intro
               ·apply Eq.refl
               apply And.intro
               ·intro W hF hD
                first
                 | (have hf:=(zBF hF).below hbs2 hrB
                    have q1:=hlx W hf
                    have q2:=hln W hf
                    go_simp
                    rfl)
                 | (have hf:=(zBF hF).below hbs2 hrB
                    have q1:=hlx W hf
                    have q2:=hln W hf
                    have q3:=hbd W
                    go_simp
                    rfl)
               simp only [Act.put,zA,zB,zC])
            | ((with_reducible apply lx_pass)
               ·(first | rfl | (go_simp;done))
               ·apply Eq.refl
               simp only [Act.put,zA,zB,zC])
            | (first | (with_reducible apply zA1) | (with_reducible apply zAK)
               ·apply Eq.refl
               apply Exists.intro
               apply And.intro
               ·(go_simp;rfl)
               simp only [Act.put,zA,zB,zC])
            | ((with_reducible apply zB2 Tryz.ddtTy (fun cs=>cs=DC) (by omega))
               ·apply Eq.refl
               apply Exists.intro
               apply And.intro
               ·(go_simp;rfl)
               refine ⟨fun W hF hD=>?_,?_⟩
               ·exact ⟨DC,rfl,hD33,rfl⟩
               intro v
               simp only [Act.put,zA,zB,zC])
            | ((with_reducible apply zEr Tryz.ddtTy wq.heap.size (.slice Ad E.length cd) E.length (rowsOf dptC E) (fun xs=>xs=rowsOf dptC E++DC.toList) hAk hAb)
               ·exact hbs2
               ·first | exact List.Mem.head _ | exact List.Mem.tail _ (List.Mem.head _) | exact List.Mem.tail _ (List.Mem.tail _ (List.Mem.head _)) | exact List.Mem.tail _ (List.Mem.tail _ (List.Mem.tail _ (List.Mem.head _)))
               ·apply Eq.refl
               apply Exists.intro
               apply Exists.intro
               apply And.intro
               ·(go_simp;rfl)
               apply And.intro
               ·(go_simp;rfl)
               refine ⟨rfl,fun W hF hD=>?_,?_⟩
               ·obtain ⟨F,g5,cs,rfl,_,hk5,rfl⟩:=hD.at 0 rfl (by kernel_rfl)
                exact ⟨g5,_,rfl,hk5,hD33,hD1,rfl⟩
               intro v
               simp only [Act.put,zA,zB,zC])
          refine lxP_nil ?_ fun w6 hF6 hD6=>?_
          ·exact List.nodup_nil
          obtain ⟨_,xs,rfl,hv6,_⟩:=hD6 _ (.head _)
          have b6:=hF6.below hbs2 hrB
          have hod6:=ownD_snoc (x:=x) (by rw [hDC.out];exact hv6)
          have hoj6:OwnIds _ wq.heap.size (.slice Aj J.length cj) J:=hF6.own hoj fun q hq hm=>own_ne hoj hod (by decide) q hq (rowsR hm)
          have hlx6:=hlx _ b6
          have hz6:=Nat.le_trans hbs2 b6.size
          obtain ⟨ED,hED⟩ : ∃ ED,E++[x]=ED:=⟨_,rfl⟩
          rw [hED] at hod6 hE2
          obtain ⟨Ad6,cd6,hvd6⟩:=zAm hod6
          have hVd:=Lib.hid hvd6
          clear hv6 hD6 hF6 hpre hrB hod hoj hlx hln hbd hvd6
          go_wp2_with (first
           | ((with_reducible refine zAC (.tmp 123) Tryz.idsTy XC hi32 (by omega) ?_ ?_);rfl)
           | ((with_reducible refine zAp (.tmp 118) (.tmp 124) 1 _ Tryz.idsTy hoj6 XC hi132 hi1' hBk hBb hz6 ?_ ?_ ?_);rfl;rfl
              intro v9 w9 ho9 hb9 hg9 hn9))
          have hoj9:OwnIds w9 wq.heap.size v9 (J++[x.id]):=zDy (by rw [hXC.out];exact ho9)
          have hod9:=(Far.of_grown hg9).own hod6 fun q hq hm=>own_ne hod6 hoj6 (by decide) q hq (List.mem_singleton.1 hm).symm
          have b9:=(hbel2.trans b6).trans hb9
          clear hg9 hn9 ho9 hoj6 hod6 hlx6
          go_roundg f
          case rel=>exact ⟨_,_,k2+1,_,_,rfl,rfl,by go_num,by omega,hE2,hJ2,hod9,hoj9,b9⟩
          case measure=>omega
        | zero=>
          have hki3 : ¬ (k2:Int)<(L.length:Int):=by omega
          have hke2:L.take k2=L:=List.take_of_length_le (by omega)
          rw [hke2] at hE hJ
          subst hE
          have hJok : ∀ x∈J,x.length=32:=by rw [hJ];exact hid1
          rw [←hJ] at hcw1
          have hoi2:=zAf hoi hbel2
          rename World=>wz
          have b8z:=bthen hbel hbs hbel2
          have lSz:=fun W (hW:Below wz.heap.size wz W)=>lS8 W (bthen b8z b8z.size hW)
          have hobz:=fun W (hW:Below wz.heap.size wz W)=>hob1 W (bthen b8z b8z.size hW)
          have hkiz:=fun W (hW:Below wz.heap.size wz W)=>hki1 W (bthen b8z b8z.size hW)
          have hKz:=fun W (hW:Below wz.heap.size wz W)=>hK8 W (bthen b8z b8z.size hW)
          have k4z:=fun W (hW:Below wz.heap.size wz W)=>k48 W (bthen b8z b8z.size hW)
          have b0z:=bthen b08 b08.size b8z
          have hoaz:=zAf hoa b8z
          have hlr:=fun (hW:(0:Nat)<E.length)=>hatL hW
          have hatz:=fun W (hW:Below wz.heap.size wz W) y (hy:y.length=32)=>refAtD_calls E hLok _ y hy W (OwnDdts.at_ hLok (zAf hod hW))
          clear hJ hoi hbel hbel2 hbs hbs2 hkf hkf2 hki2 hke2 hatL hid1 b08 lS8 hob1 hki1 hK8 k48 hoa
          go_wp2_with (fail)
          go_loopg [21] E.length (fun f v21 wr => ∃ (k:Nat),v21 = .int .i64 k∧k+f=E.length∧Below wz.heap.size wz wr)
          case atStart=>exact ⟨0,rfl,by omega,Below.refl _ _⟩
          case round=>
           obtain ⟨k3,rfl,hkf3,hbel3⟩:=hrel
           have hbs3:=hbel3.size
           cases gk with
           | succ f=>
             have hki4:(k3:Int)<(E.length:Int):=by omega
             obtain ⟨ga,oa,rfl,hga,hca⟩:=hlr (by omega)
             obtain ⟨x,hx⟩ : ∃ x,E[k3]?=some x:=⟨_,List.getElem?_eq_getElem (by omega)⟩
             have hxm:=List.mem_of_getElem? hx
             have hxok:=hLok x hxm
             have hxi:=hxok.1
             have hxr:=fun W (hW:Below wz.heap.size wz W)=>zAc (hca k3 x hx) hga (bthen b8z b8z.size hW)
             have hlx : ∀ W,Below wz.heap.size wz W→(ldvI ⟨ga,oa+k3*33,none⟩).run Tryz.prog W = .ok (.agg (u8s x.id)) W:=fun W hW=>zAb (dptC_id (hxr W hW)) hxi
             have hln : ∀ W,Below wz.heap.size wz W→W.cell? ⟨ga,oa+k3*33+32,none⟩=some (.int .i64 x.n):=fun W hW=>dptC_n hxi (hxr W hW)
             have hlxr:=fun W (hW:Below wr.heap.size wr W)=>hlx W (bthen hbel3 hbs3 hW)
             have lSr:=fun W (hW:Below wr.heap.size wr W)=>lSz W (bthen hbel3 hbs3 hW)
             have hobp:=fun W (hW:Below wr.heap.size wr W)=>hobz W (bthen hbel3 hbs3 hW) x.id hxi
             have hfld:=fun (X:Array Value) (v:Value) (h:X[35]?=some v) W=>run_field_pars h W
             have hpar:=fun {q:Txt} (hq:q∈parS S x.id) (hk:kindS S q=3)=>hcp1 hxm hq hk
             obtain ⟨hps1,hps2⟩:=zCO S x.id
             clear hca hlr hx hxr hobz hcp1 hLok hKz k4z hcc1 hcw1 hwok hwlen
             go_upto_region 28 with (fail)
             refine zAA 9 (by kernel_rfl) (by kernel_rfl) (by kernel_rfl) (by kernel_rfl) ?_
             simp only [exSp]
             iterate 9 apply Exists.intro
             repeat
              first
               | ((with_reducible apply lx0_ex)
                  ·(go_simp;done)
                  apply Exists.intro
                  apply And.intro
                  ·apply Eq.refl
                  apply And.intro
                  ·intro W hW hD
                   have q0:=lSr W hW
                   have q1:=hlxr W hW
                   go_simp
                   rfl
                  simp only [Act.put,zA,zB,zC])
               | ((with_reducible apply zA2)
                  ·(first | rfl | (go_simp;done))
                  ·apply Eq.refl
                  simp only [Act.put,zA,zB,zC])
               | ((with_reducible refine lx0_new (parF w5 S x.id) rfl ?_ (parF_stab _ _ _) ?_ ?_)
                  ·(go_simp;done)
                  ·intro W hW hD
                   unfold doesAt Oper.wp execOp
                   go_simp
                   (with_reducible refine (hobp W hW).mono ?_)
                   rintro e w' ⟨⟨X,vp,rfl,h1,h2,h3,h4⟩,hb⟩
                   exact ⟨hb,fun _ _ _ _=>⟨X,vp,rfl,h1,h2,h3,h4⟩⟩
                  intro v
                  simp only [Act.put,zA,zB,zC])
               | ((with_reducible apply lx_fpar hfld)
                  ·apply Eq.refl
                  apply Exists.intro
                  apply And.intro
                  ·(go_simp;rfl)
                  refine ⟨fun W hW hD=>?_,?_⟩
                  ·obtain ⟨F,X,vp,rfl,_,_,h3,_⟩:=hD.at 0 rfl (by kernel_rfl)
                   exact ⟨X,vp,rfl,h3⟩
                  simp only [Act.put,zA,zB,zC])
               | (first | (with_reducible apply zA1) | (with_reducible apply zAK)
                  ·apply Eq.refl
                  apply Exists.intro
                  apply And.intro
                  ·(go_simp;rfl)
                  simp only [Act.put,zA,zB,zC])
             refine lx0_nil ?_ fun w5x hW5x hD5x=>?_
             ·exact List.nodup_nil
             obtain ⟨_,X,vp,rfl,hX72,hX1,hXp,hvp⟩:=hD5x _ (.head _)
             rw [parsV_at hXp]
             obtain ⟨Avp,cvp,rfl,hvp1,hvp2,hatv⟩:=hvp
             have b5x:=bthen hbel3 hbs3 hW5x
             clear hobp hlxr lSr hD5x hfld
             obtain ⟨PS,hPS⟩ : ∃ PS,parS S x.id=PS:=⟨_,rfl⟩
             rw [hPS] at hps1 hps2 hvp1 hatv
             simp only [hPS] at hatv hpar ⊢
             go_wp2_with (fail)
             go_loopg [23] PS.length (fun f3 v23 wr => ∃ (k:Nat),v23 = .int .i64 k∧k+f3=PS.length∧Below wz.heap.size wz wr)
             case atStart=>exact ⟨0,rfl,by omega,b5x⟩
             case round=>
              clear b5x hW5x hbel3 hbs3
              obtain ⟨j,rfl,hjf,hbel4⟩:=hrel
              have hbs4:=hbel4.size
              cases gk with
              | zero=>
                have hki5 : ¬ (j:Int)<(PS.length:Int):=by omega
                clear hatv hpar hlx hln lSz hkiz hatz
                go_wp2_with (fail)
                go_roundg f
                case rel=>exact ⟨k3+1,by go_num,by omega,hbel4⟩
                case measure=>omega
              | succ f3=>
                have hki5:(j:Int)<(PS.length:Int):=by omega
                obtain ⟨gp,op_,rfl,hgp,hcp⟩:=hatv (by omega)
                obtain ⟨q,hq⟩ : ∃ q,PS[j]?=some q:=⟨_,List.getElem?_eq_getElem (by omega)⟩
                have hqm:=List.mem_of_getElem? hq
                have hqi:=hps2 q hqm
                have b5r:=fun W (hW:Below wr.heap.size wr W)=>bthen b8 b8.size (bthen b8z b8z.size (bthen hbel4 hbs4 hW))
                have hlq:=fun W (hW:Below wr.heap.size wr W)=>zAb (show World.rangeAt W gp (op_+j*32) (u8s q).toList from zAc (hcp j q hq) hgp (b5r W hW)) hqi
                have lSr:=fun W (hW:Below wr.heap.size wr W)=>lSz W (bthen hbel4 hbs4 hW)
                have hkr:=fun W (hW:Below wr.heap.size wr W)=>hkiz W (bthen hbel4 hbs4 hW) q hqi
                have hatr:=fun W (hW:Below wr.heap.size wr W)=>hatz W (bthen hbel4 hbs4 hW) q hqi
                have hlnr:=fun W (hW:Below wr.heap.size wr W)=>hln W (bthen hbel4 hbs4 hW)
                obtain ⟨XN,hXN⟩ : ∃ XN,x.n=XN:=⟨_,rfl⟩
                have hXNl:XN≤2000000:=by rw [←hXN];exact hxok.2
                simp only [hXN] at hlnr hpar
                clear hcp hatv hq hlx hln lSz hkiz hatz b5r
                by_cases hk3:kindS S q=3
                ·have hpp:=hpar hqm hk3
                 obtain ⟨N,hN⟩ : ∃ N,atD E q=N:=⟨_,rfl⟩
                 rw [hN] at hpp
                 simp only [hN] at hatr
                 simp only [hk3] at hkr
                 have hz0 : ¬ (N:Int)=0:=by omega
                 have hz1:((N:Int)==0)=false:=by simp;omega
                 have hw1 : ¬ IntKind.i64.wrap ((XN:Int)+1)<(N:Int):=by rw [IntKind.wrap_i64];omega
                 clear hpar hk3 hN hpp
                 go_upto_region 32 with (fail)
                 refine zAd (C:=fun W=>Below wr.heap.size wr W) (by kernel_rfl) (by kernel_rfl) (Below.refl _ _).drew ?_
                 repeat
                  first
                   | ((with_reducible refine zAl ?_ ?_)
                      ·(go_simp;done)
                      apply Exists.intro
                      refine ⟨fun W hW=>?_,?_⟩
                      ·first
                        | (have q0:=lSr W hW
                           have q1:=hlq W hW
                           have q2:=zBL hW (hkr W hW)
                           have q3:=zBL hW (hatr W hW)
                           have q4:=hlnr W hW
                           go_simp
                           first
                            | rfl
                            | (with_reducible exact q2)
                            | (with_reducible exact q3))
                      simp only [Act.put,zA,zB,zC])
                   | ((with_reducible refine zAh ?_ ?_)
                      ·(first | rfl | (go_simp;done))
                      simp only [Act.put,zA,zB,zC])
                 with_reducible refine wpQuiet_nil ?_
                 intro w7 hW7
                 have b7:=bthen hbel4 hbs4 hW7
                 clear hlq lSr hkr hatr hlnr
                 go_wp2_with (fail)
                 go_roundg f3
                 case rel=>exact ⟨j+1,by go_num,by omega,b7⟩
                 case measure=>omega
                ·obtain ⟨K,hK⟩ : ∃ K,kindS S q=K:=⟨_,rfl⟩
                 rw [hK] at hk3
                 simp only [hK] at hkr
                 have hk31:(K==3)=false:=by simp [hk3]
                 clear hpar hK
                 go_upto_region 32 with (fail)
                 refine zAd (C:=fun W=>Below wr.heap.size wr W) (by kernel_rfl) (by kernel_rfl) (Below.refl _ _).drew ?_
                 repeat
                  first
                   | ((with_reducible refine zAl ?_ ?_)
                      ·(go_simp;done)
                      apply Exists.intro
                      refine ⟨fun W hW=>?_,?_⟩
                      ·first
                        | (have q0:=lSr W hW
                           have q1:=hlq W hW
                           have q2:=zBL hW (hkr W hW)
                           have q3:=zBL hW (hatr W hW)
                           have q4:=hlnr W hW
                           go_simp
                           first
                            | rfl
                            | (with_reducible exact q2)
                            | (with_reducible exact q3))
                      simp only [Act.put,zA,zB,zC])
                   | ((with_reducible refine zAh ?_ ?_)
                      ·(first | rfl | (go_simp;done))
                      simp only [Act.put,zA,zB,zC])
                 with_reducible refine wpQuiet_nil ?_
                 intro w7 hW7
                 have b7:=bthen hbel4 hbs4 hW7
                 clear hlq lSr hkr hatr hlnr
                 go_wp2_with (fail)
                 go_roundg f3
                 case rel=>exact ⟨j+1,by go_num,by omega,b7⟩
                 case measure=>omega
           | zero=>
             have hki4 : ¬ (k3:Int)<(E.length:Int):=by omega
             have hw1ok:=hwok SH
             have hw2ok:=hwok []
             have hw1l:=hwlen SH
             have hw2l:=hwlen []
             have hKr:=fun W (hW:Below wr.heap.size wr W)=>hKz W (bthen hbel3 hbs3 hW)
             have k4r:=k4z wr hbel3 SH hsok (by omega) _ (SliceAt.of_own (idsK hsok) (zAf hoaz hbel3))
             have k4n:=fun W (hW:Below wr.heap.size wr W)=>k4z W (bthen hbel3 hbs3 hW) [] (fun x hx=>absurd hx List.not_mem_nil) (Nat.zero_le _) _ SliceAt.nil
             obtain ⟨WA,hWA⟩ : ∃ WA,walkS S SH from_=WA:=⟨_,rfl⟩
             obtain ⟨WB,hWB⟩ : ∃ WB,walkS S [] from_=WB:=⟨_,rfl⟩
             rw [hWA] at k4r hcc1 hw1ok hw1l
             rw [hWB] at hcw1 hw2ok hw2l
             simp only [hWB] at k4n
             have hs1:=fun W v (h:Ids W v WA)=>Lib.hid (zDg WA hw1ok (by omega) v W h)
             have hs2:=fun W v (h:Ids W v WB)=>Lib.hid (zDg WB hw2ok (by omega) v W h)
             rw [hcc1] at hs1
             rw [hcw1] at hs2
             have hI2:=SliceAt.of_own (idsK hIok) (zAf hoi2 hbel3)
             have hJ2:=SliceAt.of_own (idsK hJok) (zAf hoj hbel3)
             have hsm1:=fun W (hW:Below wr.heap.size wr W) v (hv:Ids W v I)=>Lib.hid (zCX _ hIok _ _ W hv (hI2.below hW))
             have hsm2:=fun W (hW:Below wr.heap.size wr W) v (hv:Ids W v J)=>Lib.hid (zCX _ hJok _ _ W hv (hJ2.below hW))
             have b0r:=bthen b0z b0z.size hbel3
             clear hlr hcp1 hwok hwlen hKz k4z hobz hkiz hatz lSz hod hoj hoi2 hoaz hWA hWB hI2 hJ2 hcc1 hcw1 hLok
             go_wp2_with (first
              | ((with_reducible refine k4r.out.mono ?_);rintro e w10 ⟨v10,rfl,ho10,hb10⟩
                 have hs10:=hs1 w10 v10 (SliceAt.of_own (idsK hw1ok) ho10))
              | ((with_reducible refine hs10.out.mono ?_);rintro e w11 ⟨v11,rfl,ho11,hb11⟩
                 have b11:=bthen hb10 hb10.size hb11
                 have k411:=k4n w11 b11)
              | ((with_reducible refine k411.out.mono ?_);rintro e w12 ⟨v12,rfl,ho12,hb12⟩
                 have hs12:=hs2 w12 v12 (SliceAt.of_own (idsK hw2ok) ho12))
              | ((with_reducible refine hs12.out.mono ?_);rintro e w13 ⟨v13,rfl,ho13,hb13⟩
                 have b13x:=bthen b11 b11.size (bthen hb12 hb12.size hb13)
                 have hK13:=hKr w13 b13x)
              | ((with_reducible refine hK13.out.mono ?_);rintro e w14 ⟨rfl,hb14⟩
                 have b14:=bthen b13x b13x.size hb14
                 have hm14:=hsm1 w14 b14 v11 (SliceAt.of_own (idsK hIok) (zAf ho11 (bthen (bthen hb12 hb12.size hb13) (Nat.le_trans hb12.size hb13.size) hb14))))
              | ((with_reducible refine hm14.out.mono ?_);rintro e w15 ⟨rfl,hb15⟩
                 have b15:=bthen b14 b14.size hb15
                 have hm15:=hsm2 w15 b15 v13 (SliceAt.of_own (idsK hJok) (zAf ho13 (bthen hb14 hb14.size hb15))))
              | ((with_reducible refine hm15.out.mono ?_);rintro e w16 ⟨rfl,hb16⟩))
             go_ret
             exact ⟨rfl,bthen b0r b0r.size (bthen b15 b15.size hb16)⟩
   ·have hKb:=hkn3
    clear hkn hnm hid hld c2 c3 hcut hfrm
    by_cases hn1:n<1
    ·have hni1:(n:Int)<1:=by omega
     clear hn
     go_wp2_with (first
      | ((with_reducible refine hkn3.out.mono ?_);rintro e w5 ⟨rfl,hb5⟩))
     go_ret
     exact ⟨rfl,bthen b3 b3.size hb5⟩
    ·have hni1 : ¬ (n:Int)<1:=by omega
     have hni2:(30:Int)<(n:Int):=by omega
     clear hn
     go_wp2_with (first
      | ((with_reducible refine hkn3.out.mono ?_);rintro e w5 ⟨rfl,hb5⟩))
     go_ret
     exact ⟨rfl,bthen b3 b3.size hb5⟩
end
end Go.Proofs.YtbhdfaadedlcfaaGreatDoor
namespace Go.Proofs.YtbhdfaadedlcfaaGreatDoor
open Go.ChangeShapes Go.WideShapes Go.ChangeAt Go.RowKit
theorem gTab : Tryz.prog.globalNamed "knapsack/sha256.constants" = some 0:=by kernel_rfl
theorem gTabType : (Tryz.prog.globals[0]?).map (·.type)=some 171:=by kernel_rfl
theorem cellsTab : Tryz.prog.cellsOf 171=64:=by kernel_rfl
theorem cellsU32 : Tryz.prog.cellsOf 57=1:=by kernel_rfl
theorem laid_is : (Rows.laid_knapsack_sha256_constants:DataW Unit)=Lib.tabData .u32 (K256.map fun n=>((n:Nat):Int)):=by kernel_rfl
theorem tabK_of {W:World} (h:laidMetH Tryz.prog [("knapsack/sha256.constants",Rows.laid_knapsack_sha256_constants)] W):TabK W:=by
 rw [laid_is] at h
 have ht:=Lib.tabIs_of_head (rest:=[]) gTab gTabType Tryz.underlying171 Tryz.underlying57 cellsU32 cellsTab h
 have hc (t:Nat) (h64:t<64):W.cell? ⟨0,t,none⟩=some (.int .u32 (K256.getD t 0:Nat)):=by
  rw [ht.cell gTab t (by rw [List.length_map,zBo];exact h64)]
  have:t<K256.length:=by rw [zBo];exact h64
  simp [List.getD,List.getElem?_map,List.getElem?_eq_getElem this]
 exact ⟨World.block_lt_of_cell? W _ (hc 0 (by omega)),hc⟩
noncomputable def laidWorld (os:Os):World:=
 { World.holding Tryz.prog os ⟨#[], #[],[]⟩ with heap:=(World.holding Tryz.prog os ⟨#[], #[],[]⟩).heap.modify 0 fun
  | .cells _ t frozen => .cells (u32s K256) t frozen
  | o=>o }
end Go.Proofs.YtbhdfaadedlcfaaGreatDoor
