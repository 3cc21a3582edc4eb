/- Texts of this claim, laid together: GraE, ChkP, Kept, GidX, ChkA, ChkB, RefP, RefW, RefM, RefF, RefG. -/
import Derived.Test.YtfdfoplmijmnaaaGreatDoorMk
import Derived.Deep.CutBlock
import Derived.Below
import Derived.Lib.Hide
import Derived.Laws.Cover1
import Derived.Deep.MidRow
namespace Go.Proofs.YtfdfoplmijmnaaaGreatDoor
open Go.RowKit
attribute [local go_sem ↓] ldvI_eq ldvS_eq
theorem linksS_ok (S:List StL) (n:Txt) : ∀ y∈linksS S n,LinkOk y:=by
 intro y hy
 show y.id.length=32
 unfold linksS objS at hy
 cases hg:getS S n with
 | none=>rw [hg] at hy;simp at hy
 | some s=>
   rw [hg] at hy
   simp only at hy
   cases hd:decO s.text with
   | none=>rw [hd] at hy;simp at hy
   | some o=>
     rw [hd] at hy
     simp only at hy
     have hs:=(dec_back hd).2
     unfold linksL at hy
     split at hy
     ·obtain ⟨e,he,rfl⟩:=List.mem_map.1 hy
      exact hs.ents e he
     ·split at hy
      ·rcases List.mem_cons.1 hy with rfl | hy
       ·exact hs.tree
       ·obtain ⟨p,hp,rfl⟩:=List.mem_map.1 hy
        exact hs.pars p hp
      ·split at hy
       ·rw [List.mem_singleton.1 hy];exact hs.target
       ·simp at hy
theorem nextS_sub (S:List StL) (cut:List Txt) (n:Txt) : ∀ y∈nextS S cut n,y∈(linksS S n).map LinkL.id:=by
 intro y hy
 rw [←keptK_end (S:=S) (cut:=cut) (n:=n) rfl] at hy
 unfold keptK at hy
 obtain ⟨z,hz,rfl⟩:=List.mem_map.1 hy
 exact List.mem_map.2 ⟨z,List.mem_of_mem_take hz,rfl⟩
theorem nextS_ok (S:List StL) (cut:List Txt) (n:Txt) : ∀ y∈nextS S cut n,y.length=32:=by
 intro y hy
 obtain ⟨z,hz,rfl⟩:=List.mem_map.1 (nextS_sub S cut n y hy)
 exact linksS_ok S n z hz
theorem hasS_is {S:List StL} (h:StoOk S) (n:Txt):hasS S n=isS S n:=by
 unfold hasS isS objS
 cases hg:getS S n with
 | none=>rfl
 | some s=>
   obtain ⟨o,ho⟩:=(h.each s (getS_id hg).1).2
   simp only
   rw [ho]
   rfl
theorem Rch.ok {S:List StL} {cut ini:List Txt} (h : ∀ x∈ini,x.length=32) {x:Txt} (hx:Rch S cut ini x):x.length=32:=hx (fun x=>x.length=32) h fun y z _ hz=>nextS_ok S cut y z hz
theorem nodup_more {l:List Txt} {x:Txt} (h:l.Nodup) (hx:inL l x=false):(l++[x]).Nodup:=by
 refine List.pairwise_append.2 ⟨h,List.pairwise_singleton _ _,fun a ha b hb e=>?_⟩
 rw [List.mem_singleton.1 hb] at e
 rw [e] at ha
 rw [inL_iff.2 ha] at hx
 cases hx
theorem GrwI.more {S:List StL} {cut ini all:List Txt} {i:Nat} {y:Txt} (h:GrwI S cut ini all i) (hi:i≤all.length) (hy:Rch S cut ini y) (hn:inL all y=false):GrwI S cut ini (all++[y]) i:=by
 refine ⟨fun x hx=>(List.mem_append.1 hx).elim (h.a1 x) fun e=>by rw [List.mem_singleton.1 e];exact hy,nodup_more h.nd hn,fun x hx=>List.mem_append_left _ (h.ini_ x hx),fun j x hx hj z hz=>List.mem_append_left _ (h.next j x ?_ hj z hz)⟩
 rwa [List.getElem?_append_left (by omega)] at hx
theorem GrwI.len {S:List StL} {cut ini all:List Txt} {i:Nat} (h:GrwI S cut ini all i):all.length≤(allU S cut ini).length:=nodup_len h.nd fun x hx=>(h.a1 x hx).inU
theorem GrwI.step {S:List StL} {cut ini all:List Txt} {i:Nat} {x:Txt} (h:GrwI S cut ini all i) (hx:all[i]?=some x) (hn : ∀ y∈nextS S cut x,y∈all):GrwI S cut ini all (i+1):=by
 refine ⟨h.a1,h.nd,h.ini_,fun j z hz hj=>?_⟩
 by_cases e:j=i
 ·subst e
  rw [hx] at hz
  injection hz with hz
  subst hz
  exact hn
 ·exact h.next j z hz (by omega)
section
variable {w:World} {vm:Value} {es:List DiL}
set_option maxRecDepth 100000 in
set_option maxHeartbeats 8000000 in
theorem docReach_calls (h:DocSt w vm es) (ini cut:List Txt) (hiok : ∀ x∈ini,x.length=32) (hcok : ∀ x∈cut,x.length=32) (hU:ini.length+es.length*70≤800000) (vf vc:Value) (hvf:Ids w vf ini) (hvc:Ids w vc cut) :
 Calls Tryz.prog 17 #[.agg #[vm],vf,vc] w fun e w' => ∃ va vb a b,e = .returned (.tuple #[va,vb])∧RchIs (es.map (·.st)) cut ini true a∧RchIs (es.map (·.st)) cut ini false b∧OwnIds w' w.heap.size va a∧OwnIds w' w.heap.size vb b∧Below w.heap.size w w':=by
 obtain ⟨W1,hW1⟩ : ∃ W1,w.alloc (.cells #[vm] 30)=W1:=⟨_,rfl⟩
 have s1:Blk W1 w.heap.size 30 #[vm]:=by rw [←hW1];exact Blk.new _ _ _
 have b1:Below w.heap.size w W1:=by rw [←hW1];exact (Below.refl _ _).alloc (Nat.le_refl _) _
 have hsz1:=b1.size
 have l1:Hid (∀ W,Below w.heap.size w W→Below W1.heap.size W1 W→(ldvS ⟨w.heap.size,0,none⟩).run Tryz.prog W = .ok (.agg #[vm]) W):=Lib.hid fun W _ hW=>run_ldvS (s1.below hW s1.lt)
 have hin:=fun (l:List Txt) (hl : ∀ x∈l,x.length=32) (v:Value) (W:World) (hv:Ids W v l) (x:Txt) (hx:x.length=32)=>Lib.hid (in02_calls l hl v x hx W hv)
 have hnx:=fun W (hW:Below w.heap.size w W) (x:Txt) (hx:x.length=32)=>Lib.hid (docNext_calls (h.below hW) x hx cut hcok vc (hvc.below hW) (linksS_ok _ x))
 have hha:Hid (∀ W,Below w.heap.size w W → ∀ x:Txt,x.length=32→Calls Tryz.prog 20 #[.agg #[vm], .agg (u8s x)] W fun e w'=>e = .returned (.bool (isS (es.map (·.st)) x))∧Below W.heap.size W w'):=Lib.hid fun W hW x hx=>by
  have:=docHas_calls (h.below hW) x hx
  rwa [hasS_is h.ok] at this
 have hso:=fun (l:List Txt) (hl : ∀ x∈l,x.length=32) (hb:l.length≤1000000) (v:Value) (W:World) (hv:Ids W v l)=>Lib.hid (sorted02_calls l hl hb v W hv)
 have hUl:(allU (es.map (·.st)) cut ini).length≤800000:=Nat.le_trans (allU_len (K:=70) fun x _=>nextS_len _) (by rw [List.length_map];exact hU)
 obtain ⟨S,hS⟩ : ∃ S,es.map (·.st)=S:=⟨_,rfl⟩
 rw [hS] at hnx hha hUl ⊢
 have hvf0:=hvf
 obtain ⟨Af,cf,rfl,hf1,hf2,hatf⟩:=hvf
 obtain ⟨Ac,cc,rfl,_⟩:=hvc
 obtain ⟨vms,hvms⟩ : ∃ vms:Array Value,vms = #[vm]:=⟨_,rfl⟩
 have ids : ∀ {W:World} {B:Nat} {v:Value} {l:List Txt},(∀ x∈l,x.length=32)→OwnIds W B v l→Ids W v l:=fun hl ho=>SliceAt.of_own (idsK hl) ho
 clear hS h s1 hvf0 hvms
 go_enter Tryz.func17,Tryz.ntmps17
 go_wp2
 go_loopg [8,9] ini.length (fun f va vi wr => ∃ (k:Nat) (A:List Txt),vi = .int .i64 k∧k+f=ini.length∧OwnIds wr W1.heap.size va A∧A.Nodup∧Hid (∀ x∈A,x∈ini)∧Hid (∀ x∈ini.take k,x∈A)∧A.length≤k∧Below W1.heap.size W1 wr)
 case atStart=>exact ⟨0,[],rfl,by omega,World.ownsRow_nil _ _ _ _,List.nodup_nil,Lib.hid (by simp),Lib.hid (by simp),by simp,Below.refl _ _⟩
 case round=>
  clear hW1
  obtain ⟨k,A,rfl,hkf,hown,hnd,hA1,hA2,hAl,hbel⟩:=hrel
  have hbs:=hbel.size
  have hAok:Hid (∀ x∈A,x.length=32):=Lib.hid fun x hx=>hiok x (hA1.out x hx)
  obtain ⟨Aa,ca,rfl⟩:=own_form' hown
  cases gk with
  | succ f=>
    have hki:(k:Int)<(ini.length:Int):=by omega
    obtain ⟨gf,of_,rfl,hgf,hcf⟩:=hatf (by omega)
    obtain ⟨x,hx⟩ : ∃ x,ini[k]?=some x:=⟨_,List.getElem?_eq_getElem (by omega)⟩
    have hxi:=hiok x (List.mem_of_getElem? hx)
    have hlx : ∀ W,Below W1.heap.size W1 W→(ldvI ⟨gf,of_+k*32,none⟩).run Tryz.prog W = .ok (.agg (u8s x)) W:=fun W hW=>run_ldvI_at (show World.rangeAt W gf (of_+k*32) (u8s x).toList from rangeAt_below (hcf k x hx) hgf (bthen b1 hsz1 hW)) hxi
    have hl1:=hlx wr hbel
    have hi1:=hin A hAok.out _ wr (ids hAok.out hown) x hxi
    have hxm:=List.mem_of_getElem? hx
    have htk:Hid (∀ y∈ini.take (k+1),y∈A∨y=x):=Lib.hid fun y hy=>by
     rw [List.take_add_one,hx] at hy
     rcases List.mem_append.1 hy with h1 | h1
     ·exact .inl (hA2.out y h1)
     ·exact .inr (by simpa using h1)
    clear hx hcf hatf
    have hx32:(u8s x).size=32:=by rw [u8s_size,hxi]
    have hx132:(u8s x).size=1*32:=hx32
    have hx1 : ∀ u∈(u8s x).toList,u.oneCell'=true:=idC_one x
    have hAk:A.length+1≤9223372036854775807:=by omega
    have hAb:(A.length+1)*32≤140737488355328:=by omega
    have hlen2:Hid ((A++[x]).length=A.length+1):=Lib.hid (by rw [List.length_append];rfl)
    have hrow2:Hid (rowsOf idC (A++[x])=rowsOf idC A++(u8s x).toList):=Lib.hid (by rw [rowsOf_append,rowsOf_one];rfl)
    cases hb:inL A x with
    | true=>
      rw [hb] at hi1
      have hA3:Hid (∀ y∈ini.take (k+1),y∈A):=Lib.hid fun y hy=>(htk.out y hy).elim id fun e=>by rw [e];exact inL_iff.1 hb
      clear hb htk
      go_wp2_with (first
       | ((with_reducible refine hi1.out.mono ?_);rintro e w2 ⟨rfl,hb2⟩))
      have hown2:=own_below hown hb2
      have hb2':=hbel.trans (hb2.mono hbel.size)
      clear hi1 hl1 hlx
      go_roundg f
      case rel=>exact ⟨k+1,A,by go_num,by omega,hown2,hnd,hA1,hA3,by omega,hb2'⟩
      case measure=>omega
    | false=>
      rw [hb] at hi1
      have hnd2:=nodup_more hnd hb
      have hA3:Hid (∀ y∈ini.take (k+1),y∈A++[x]):=Lib.hid fun y hy=>by simpa using htk.out y hy
      have hA4:Hid (∀ y∈A++[x],y∈ini):=Lib.hid fun y hy=>(List.mem_append.1 hy).elim (hA1.out y) fun e=>by rw [List.mem_singleton.1 e];exact hxm
      clear hb htk hnd hxm
      go_wp2_with (first
       | ((with_reducible refine hi1.out.mono ?_);rintro e w2 ⟨rfl,hb2⟩
          have hb2':=hbel.trans (hb2.mono hbel.size)
          have hl2:=hlx w2 hb2'
          have hown2:=own_below hown hb2
          have hsz2:=Nat.le_trans hbs hb2.size)
       | ((with_reducible refine lit_slice1 (.tmp 37) Tryz.idsTy (u8s x) hx32 (by omega) ?_ ?_);rfl)
       | ((with_reducible refine lit_append_new (.tmp 33) (.tmp 38) 1 _ Tryz.idsTy hown2 (u8s x) hx132 hx1 hAk hAb hsz2 ?_ ?_ ?_);rfl;rfl
          intro v3 w3 ho3 hb3 _ _))
      have ho4:OwnIds w3 W1.heap.size v3 (A++[x]):=by unfold OwnIds;rw [hlen2.out,hrow2.out];exact ho3
      have hb4:=hb2'.trans hb3
      clear hi1 hl1 hl2 hlx hown hown2 ho3
      go_roundg f
      case rel=>exact ⟨k+1,A++[x],by go_num,by omega,ho4,hnd2,hA4,hA3,by rw [hlen2.out];omega,hb4⟩
      case measure=>omega
  | zero=>
    have hki : ¬ (k:Int)<(ini.length:Int):=by omega
    obtain rfl:k=ini.length:=by omega
    have hA3:=hA2.out
    rw [List.take_length] at hA3
    have hg0:GrwI S cut ini A 0:=⟨fun x hx => .base (hA1.out x hx),hnd,hA3,fun j x _ hj=>by omega⟩
    clear hA3 hA1 hA2 hnd hAok hatf hAl
    go_wp2_with (fail)
    go_loopg [8,11] (allU S cut ini).length (fun f va vi wr => ∃ (i:Nat) (A:List Txt),vi = .int .i64 i∧i+f=(allU S cut ini).length∧i≤A.length∧GrwI S cut ini A i∧OwnIds wr W1.heap.size va A∧Below W1.heap.size W1 wr)
    case atStart=>exact ⟨0,A,rfl,by omega,by omega,hg0,hown,hbel⟩
    case round=>
     clear hg0 hown hbel hbs
     obtain ⟨i,A,rfl,hif,hiA,hg,hown,hbel⟩:=hrel
     have hbs:=hbel.size
     have hAl:=hg.len
     have hAok:Hid (∀ x∈A,x.length=32):=Lib.hid fun x hx=>(hg.a1 x hx).ok hiok
     by_cases hlt:i<A.length
     ·cases gk with
      | zero=>omega
      | succ f=>
      have hki:(i:Int)<(A.length:Int):=by omega
      rcases Row.of_own (idsK hAok.out) hown with ⟨_,rfl⟩ | ⟨ga,ca,rfl,hga,hrow⟩
      ·simp at hlt
      obtain ⟨x,hx⟩ : ∃ x,A[i]?=some x:=⟨_,List.getElem?_eq_getElem hlt⟩
      have hxm:=List.mem_of_getElem? hx
      have hxi:=hAok.out x hxm
      have hlx : ∀ W,Below wr.heap.size wr W→(ldvI ⟨ga,i*32,none⟩).run Tryz.prog W = .ok (.agg (u8s x)) W:=fun W hW=>run_ldvI_at (show World.rangeAt W ga (i*32) (u8s x).toList from (hrow.below hW).at_ i x hx) hxi
      have hrch:=hg.a1 x hxm
      have hbw:=fun W (hW:Below wr.heap.size wr W)=>bthen hbel hbs hW
      have hcn:=fun W (hW:Below wr.heap.size wr W)=>(hnx W (bthen b1 hsz1 (hbw W hW)) x hxi).out
      have hNok:Hid (∀ y∈nextS S cut x,y.length=32∧Rch S cut ini y):=Lib.hid fun y hy=>⟨nextS_ok S cut x y hy,hrch.step hy⟩
      have hNl:=nextS_len (S:=S) (cut:=cut) x
      have hgs:Hid (∀ all:List Txt,GrwI S cut ini all i→all[i]?=some x→(∀ y∈nextS S cut x,y∈all)→GrwI S cut ini all (i+1)):=Lib.hid fun all h1 h2 h3=>h1.step h2 h3
      generalize nextS S cut x=Nx at *
      have hxh:=Lib.hid hx
      have hapa : ∀ k,(Value.slice (some ⟨ga,0,none⟩) A.length ca).ownBlock=some k→k<wr.heap.size:=own_lt hown
      clear hx hrow hxm
      go_upto_region 11 with (fail)
      refine wp_region_go0 8 (by kernel_rfl) (by kernel_rfl) (by kernel_rfl) (by kernel_rfl) ?_
      simp only [exSp]
      iterate 8 apply Exists.intro
      repeat
       first
        | ((with_reducible apply lx0_ex)
           ·(go_simp;done)
           apply Exists.intro
           apply And.intro
           ·apply Eq.refl
           apply And.intro
           ·intro W hW hD
            have q0:=l1.out W (bthen b1 hsz1 (hbw W hW)) (hbw W hW)
            have q1:=hlx W hW
            go_simp
            rfl
           simp only [Act.put,List.setIfInBounds_toArray,List.set_cons_zero,List.set_cons_succ])
        | ((with_reducible apply lx0_pass)
           ·(first | rfl | (go_simp;done))
           ·apply Eq.refl
           simp only [Act.put,List.setIfInBounds_toArray,List.set_cons_zero,List.set_cons_succ])
        | ((with_reducible refine lx0_new (ownR wr.heap.size 35 32 Nx.length (rowsOf idC Nx)) rfl ?_ (ownR_stab _ _ _ _ _) ?_ ?_)
           ·(go_simp;done)
           ·intro W hW hD
            unfold doesAt Oper.wp execOp
            go_simp
            (with_reducible refine (hcn W hW).mono ?_)
            rintro e w' ⟨v',rfl,ho,hb⟩
            exact ⟨hb,ownR_new hW.size ho⟩
           intro v
           simp only [Act.put,List.setIfInBounds_toArray,List.set_cons_zero,List.set_cons_succ])
        | (first | (with_reducible apply lx_move') | (with_reducible apply lx_assign')
           ·apply Eq.refl
           apply Exists.intro
           apply And.intro
           ·(go_simp;rfl)
           simp only [Act.put,List.setIfInBounds_toArray,List.set_cons_zero,List.set_cons_succ])
      refine lx0_nil ?_ fun w5 hW5 hD5=>?_
      ·exact List.nodup_nil
      obtain ⟨F5,ho5,_⟩:=hD5 _ (.head _)
      have hon5:OwnIds w5 wr.heap.size v Nx:=ho5
      have hown5:=own_below hown hW5
      have hb5:=hbw w5 hW5
      have hap5:Ap (.slice (some ⟨ga,0,none⟩) A.length ca) v:=fun k hk e=>by
       have h1:=hapa k hk
       have h2:=own_ge hon5 k e
       omega
      obtain ⟨An,cn,rfl⟩:=own_form' hon5
      clear hD5 ho5 hlx hcn hbw hown hbel
      go_wp2_with (fail)
      go_loopg [8,13] Nx.length (fun f va vj wz => ∃ (j:Nat) (A:List Txt),vj = .int .i64 j∧j+f=Nx.length∧GrwI S cut ini A i∧i<A.length∧A[i]?=some x∧Hid (∀ y∈Nx.take j,y∈A)∧OwnIds wz W1.heap.size va A∧OwnIds wz wr.heap.size (.slice An Nx.length cn) Nx∧Ap va (.slice An Nx.length cn)∧Below W1.heap.size W1 wz)
      case atStart=>exact ⟨0,A,rfl,by omega,hg,hlt,hxh.out,Lib.hid (by simp),hown5,hon5,hap5,hb5⟩
      case round=>
       rename World=>wz
       clear hg hxh hown5 hon5 hap5 hb5 hAok hAl hiA hlt hki hga hapa
       obtain ⟨j,A,rfl,hjf,hg,hlt,hx,hN1,hown,hon,hap,hbel⟩:=hrel
       have hbs2:=hbel.size
       have hAl:=hg.len
       have hAok:Hid (∀ x∈A,x.length=32):=Lib.hid fun x hx=>(hg.a1 x hx).ok hiok
       obtain ⟨Aa,ca',rfl⟩:=own_form' hown
       have hxh:=Lib.hid hx
       clear hx
       cases gk with
       | zero=>
         have hki : ¬ (j:Int)<(Nx.length:Int):=by omega
         obtain rfl:j=Nx.length:=by omega
         have hN2:=hN1.out
         rw [List.take_length] at hN2
         have hg2:=hgs.out A hg hxh.out hN2
         clear hN2 hN1 hon hap
         go_wp2_with (fail)
         go_roundg f
         case rel=>exact ⟨i+1,A,by go_num,by omega,by omega,hg2,hown,hbel⟩
         case measure=>omega
       | succ f2=>
         have hki:(j:Int)<(Nx.length:Int):=by omega
         rcases Row.of_own (idsK fun y hy=>(hNok.out y hy).1) hon with ⟨_,h0⟩ | ⟨gn,cn',hfe,hgn,hrown⟩
         ·rw [h0] at hjf;simp at hjf
         injection hfe with e1 e2 e3
         subst e1 e3
         obtain ⟨y,hy⟩ : ∃ y,Nx[j]?=some y:=⟨_,List.getElem?_eq_getElem (by omega)⟩
         have hym:=List.mem_of_getElem? hy
         have hxi2:y.length=32:=(hNok.out y hym).1
         have hyr:=(hNok.out y hym).2
         have hly : ∀ W,Below wz.heap.size wz W→(ldvI ⟨gn,j*32,none⟩).run Tryz.prog W = .ok (.agg (u8s y)) W:=fun W hW=>run_ldvI_at (show World.rangeAt W gn (j*32) (u8s y).toList from (hrown.below hW).at_ j y hy) hxi2
         have hl1:=hly wz (Below.refl _ _)
         have hi1:=hin A hAok.out _ wz (ids hAok.out hown) y hxi2
         have htk:Hid (∀ z∈Nx.take (j+1),z∈A∨z=y):=Lib.hid fun z hz=>by
          rw [List.take_add_one,hy] at hz
          rcases List.mem_append.1 hz with h1 | h1
          ·exact .inl (hN1.out z h1)
          ·exact .inr (by simpa using h1)
         clear hy hym hrown
         have hx32:(u8s y).size=32:=by rw [u8s_size,hxi2]
         have hx132:(u8s y).size=1*32:=hx32
         have hx1 : ∀ u∈(u8s y).toList,u.oneCell'=true:=idC_one y
         have hAk:A.length+1≤9223372036854775807:=by omega
         have hAb:(A.length+1)*32≤140737488355328:=by omega
         have hlen2:Hid ((A++[y]).length=A.length+1):=Lib.hid (by rw [List.length_append];rfl)
         have hrow2:Hid (rowsOf idC (A++[y])=rowsOf idC A++(u8s y).toList):=Lib.hid (by rw [rowsOf_append,rowsOf_one];rfl)
         cases hb:inL A y with
         | true=>
           rw [hb] at hi1
           have hA3:Hid (∀ z∈Nx.take (j+1),z∈A):=Lib.hid fun z hz=>(htk.out z hz).elim id fun e=>by rw [e];exact inL_iff.1 hb
           clear hb htk
           go_wp2_with (first
            | ((with_reducible refine hi1.out.mono ?_);rintro e w2 ⟨rfl,hb2⟩))
           have hown2:=own_below hown hb2
           have hon2:=own_below hon hb2
           have hb2':=hbel.trans (hb2.mono hbel.size)
           clear hi1 hl1 hly
           go_roundg f2
           case rel=>exact ⟨j+1,A,by go_num,by omega,hg,hlt,hxh.out,hA3,hown2,hon2,hap,hb2'⟩
           case measure=>omega
         | false=>
           rw [hb] at hi1
           have hg2:=hg.more (Nat.le_of_lt hlt) hyr hb
           have hA3:Hid (∀ z∈Nx.take (j+1),z∈A++[y]):=Lib.hid fun z hz=>by simpa using htk.out z hz
           have hx2:Hid ((A++[y])[i]?=some x):=Lib.hid (by rw [List.getElem?_append_left hlt];exact hxh.out)
           clear hb htk hg
           go_wp2_with (first
            | ((with_reducible refine hi1.out.mono ?_);rintro e w2 ⟨rfl,hb2⟩
               have hb2':=hbel.trans (hb2.mono hbel.size)
               have hl2:=hly w2 hb2
               have hown2:=own_below hown hb2
               have hon2:=own_below hon hb2
               have hsz2:=Nat.le_trans hbs2 hb2.size)
            | ((with_reducible refine lit_slice1 (.tmp 71) Tryz.idsTy (u8s y) hx32 (by omega) ?_ ?_);rfl)
            | ((with_reducible refine lit_append_new (.tmp 67) (.tmp 72) 1 _ Tryz.idsTy hown2 (u8s y) hx132 hx1 hAk hAb hsz2 ?_ ?_ ?_);rfl;rfl
               intro v3 w3 ho3 hb3 hg3 hn3))
           have ho4:OwnIds w3 W1.heap.size v3 (A++[y]):=by unfold OwnIds;rw [hlen2.out,hrow2.out];exact ho3
           have hb4:=hb2'.trans hb3
           have hon3:=(Far.of_grown hg3).own hon2 fun k hk hm=>hap k (List.mem_singleton.1 hm).symm hk
           have hap3:=hap.newer hn3 (own_lt hon2)
           clear hi1 hl1 hl2 hly hown hown2 ho3 hon hon2 hap
           go_roundg f2
           case rel=>exact ⟨j+1,A++[y],by go_num,by omega,hg2,by rw [hlen2.out];omega,hx2.out,hA3,ho4,hon3,hap3,hb4⟩
           case measure=>omega
     ·have hki : ¬ (i:Int)<(A.length:Int):=by omega
      have hend:=fun b=>Lib.hid (hg.end_ (by omega:A.length≤i) b)
      obtain ⟨Aa,ca',rfl⟩:=own_form' hown
      clear hg hif hiA hlt hnx
      go_wp2_with (fail)
      obtain ⟨TA,hTA⟩ : ∃ TA,A=TA:=⟨_,rfl⟩
      go_loopg [15,16,17] A.length (fun f vt vn vi wz => ∃ i:Nat,vi = .int .i64 i∧i+f=A.length∧OwnIds wz W1.heap.size vt ((A.take i).filter fun x=>isS S x==true)∧OwnIds wz W1.heap.size vn ((A.take i).filter fun x=>isS S x==false)∧OwnIds wz W1.heap.size (.slice Aa A.length ca') A∧Ap vt (.slice Aa A.length ca')∧Ap vn (.slice Aa A.length ca')∧Ap vt vn∧Below W1.heap.size W1 wz)
      case atStart=>exact ⟨0,rfl,by omega,World.ownsRow_nil _ _ _ _,World.ownsRow_nil _ _ _ _,hown, .nil_l _ _ _, .nil_l _ _ _, .nil_l _ _ _,hbel⟩
      case round=>
       rename World=>wz
       clear hown hbel hbs hTA
       obtain ⟨i,rfl,hif,hvt,hvn,hown,ha1,ha2,ha3,hbel⟩:=hrel
       have hbs2:=hbel.size
       cases gk with
       | zero=>
         have hki : ¬ (i:Int)<(A.length:Int):=by omega
         obtain rfl:i=A.length:=by omega
         rw [List.take_length] at hvt hvn
         have hok1 : ∀ x∈A.filter (fun x=>isS S x==true),x.length=32:=fun x hx=>hAok.out x (List.mem_filter.1 hx).1
         have hok2 : ∀ x∈A.filter (fun x=>isS S x==false),x.length=32:=fun x hx=>hAok.out x (List.mem_filter.1 hx).1
         have hl1:(A.filter (fun x=>isS S x==true)).length≤1000000:=Nat.le_trans (List.length_filter_le _ _) (by omega)
         have hl2:(A.filter (fun x=>isS S x==false)).length≤1000000:=Nat.le_trans (List.length_filter_le _ _) (by omega)
         have he1:=hend true
         have he2:=hend false
         generalize A.filter (fun x=>isS S x==true)=L1 at *
         generalize A.filter (fun x=>isS S x==false)=L2 at *
         have hc1:=hso L1 hok1 hl1 _ wz (ids hok1 hvt)
         have hc2:=fun W (hW:Below wz.heap.size wz W)=>hso L2 hok2 hl2 _ W ((ids hok2 hvn).below hW)
         obtain ⟨At,ct,rfl⟩:=own_form' hvt
         obtain ⟨An,cn,rfl⟩:=own_form' hvn
         clear hend hvt hvn hown ha1 ha2 ha3 hin hso
         go_wp2_with (first
          | ((with_reducible refine hc1.out.mono ?_);rintro e w5 ⟨v5,rfl,ho5,hb5⟩
             have hc3:=hc2 w5 hb5)
          | ((with_reducible refine hc3.out.mono ?_);rintro e w6 ⟨v6,rfl,ho6,hb6⟩))
         go_ret2
         have b0:=bthen b1 hsz1 hbel
         have b5:=bthen b0 b0.size hb5
         exact ⟨_,_,_,_,rfl,he1.out,he2.out,own_low' (own_below ho5 hb6) b0.size,own_low' ho6 b5.size,bthen b5 b5.size hb6⟩
       | succ f=>
         have hki:(i:Int)<(A.length:Int):=by omega
         rcases Row.of_own (idsK hAok.out) hown with ⟨_,h0⟩ | ⟨ga,ca2,hfe,hga,hrow⟩
         ·rw [h0] at hif;simp at hif
         injection hfe with e1 e2 e3
         subst e1 e3
         obtain ⟨x,hx⟩ : ∃ x,A[i]?=some x:=⟨_,List.getElem?_eq_getElem (by omega)⟩
         have hxi:=hAok.out x (List.mem_of_getElem? hx)
         have hlx : ∀ W,Below wz.heap.size wz W→(ldvI ⟨ga,i*32,none⟩).run Tryz.prog W = .ok (.agg (u8s x)) W:=fun W hW=>run_ldvI_at (show World.rangeAt W ga (i*32) (u8s x).toList from (hrow.below hW).at_ i x hx) hxi
         have hbw:=fun W (hW:Below wz.heap.size wz W)=>bthen hbel hbs2 hW
         have hch:=fun W (hW:Below wz.heap.size wz W)=>hha.out W (bthen b1 hsz1 (hbw W hW)) x hxi
         have htk : ∀ b,(A.take (i+1)).filter (fun x=>isS S x==b)=(A.take i).filter (fun x=>isS S x==b)++(if isS S x==b then [x] else []):=fun b=>by
          rw [List.take_add_one,hx,List.filter_append]
          congr 1
          simp [List.filter_cons]
         have ht1:=htk true
         have ht2:=htk false
         obtain ⟨L1,hL1⟩ : ∃ L1,(A.take i).filter (fun x=>isS S x==true)=L1:=⟨_,rfl⟩
         obtain ⟨L2,hL2⟩ : ∃ L2,(A.take i).filter (fun x=>isS S x==false)=L2:=⟨_,rfl⟩
         have hl1:L1.length≤800000:=by rw [←hL1];exact Nat.le_trans (List.length_filter_le _ _) (by rw [List.length_take];omega)
         have hl2:L2.length≤800000:=by rw [←hL2];exact Nat.le_trans (List.length_filter_le _ _) (by rw [List.length_take];omega)
         rw [hL1] at hvt ht1
         rw [hL2] at hvn ht2
         replace ht1:=Lib.hid ht1
         replace ht2:=Lib.hid ht2
         obtain ⟨At,ct,rfl⟩:=own_form' hvt
         obtain ⟨An,cn,rfl⟩:=own_form' hvn
         have hx32:(u8s x).size=32:=by rw [u8s_size,hxi]
         have hx132:(u8s x).size=1*32:=hx32
         have hx1 : ∀ u∈(u8s x).toList,u.oneCell'=true:=idC_one x
         generalize isS S x=b at *
         clear hx hrow htk hL1 hL2 hend
         go_upto_region 23 with (fail)
         refine wp_region_class (C:=fun W=>Below wz.heap.size wz W) (by kernel_rfl) (by kernel_rfl) (Below.refl _ _).drew ?_
         repeat
          first
           | ((with_reducible refine wpQuiet_ex ?_ ?_)
              ·(go_simp;done)
              apply Exists.intro
              refine ⟨fun W hW=>?_,?_⟩
              ·first
                | (have q0:=l1.out W (bthen b1 hsz1 (hbw W hW)) (hbw W hW)
                   have q1:=hlx W hW
                   have q2:=bel_keepG hW (hch W hW)
                   go_simp
                   first
                    | rfl
                    | (with_reducible exact q2))
              simp only [Act.put,List.setIfInBounds_toArray,List.set_cons_zero,List.set_cons_succ])
           | ((with_reducible refine wpQuiet_pass ?_ ?_)
              ·(first | rfl | (go_simp;done))
              simp only [Act.put,List.setIfInBounds_toArray,List.set_cons_zero,List.set_cons_succ])
         with_reducible refine wpQuiet_nil ?_
         intro w5 hW5
         have hl5:=hlx w5 hW5
         have hb5:=hbw w5 hW5
         have hvt5:=own_below hvt hW5
         have hvn5:=own_below hvn hW5
         have hown5:=own_below hown hW5
         have hsz5:=hb5.size
         clear hlx hch hbw hvt hvn hown
         cases b with
         | true=>
           have hAk:L1.length+1≤9223372036854775807:=by omega
           have hAb:(L1.length+1)*32≤140737488355328:=by omega
           have hlen2:Hid ((L1++[x]).length=L1.length+1):=Lib.hid (by rw [List.length_append];rfl)
           have hrow2:Hid (rowsOf idC (L1++[x])=rowsOf idC L1++(u8s x).toList):=Lib.hid (by rw [rowsOf_append,rowsOf_one];rfl)
           go_wp2_with (first
            | ((with_reducible refine lit_slice1 (.tmp 91) Tryz.idsTy (u8s x) hx32 (by omega) ?_ ?_);rfl)
            | ((with_reducible refine lit_append_new (.tmp 87) (.tmp 92) 1 _ Tryz.idsTy hvt5 (u8s x) hx132 hx1 hAk hAb hsz5 ?_ ?_ ?_);rfl;rfl
               intro v3 w3 ho3 hb3 hg3 hn3))
           have ho4:OwnIds w3 W1.heap.size v3 ((A.take (i+1)).filter fun x=>isS S x==true):=by rw [ht1.out];show OwnIds w3 W1.heap.size v3 (L1++[x]);unfold OwnIds;rw [hlen2.out,hrow2.out];exact ho3
           have hg4:=Far.of_grown hg3
           have ho5:OwnIds w3 W1.heap.size (.slice An L2.length cn) ((A.take (i+1)).filter fun x=>isS S x==false):=by rw [ht2.out];show OwnIds w3 W1.heap.size _ (L2++[]);rw [List.append_nil];exact hg4.own hvn5 fun k hk hm=>ha3 k (List.mem_singleton.1 hm).symm hk
           have ho6:=hg4.own hown5 fun k hk hm=>ha1 k (List.mem_singleton.1 hm).symm hk
           have ha4:=ha1.newer hn3 (own_lt hown5)
           have ha5:=ha3.newer hn3 (own_lt hvn5)
           have hb6:=hb5.trans hb3
           clear ho3 hvt5 hvn5 hown5 ha1 ha3 hl5
           go_roundg f
           case rel=>exact ⟨i+1,by go_num,by omega,ho4,ho5,ho6,ha4,ha2,ha5,hb6⟩
           case measure=>omega
         | false=>
           have hAk:L2.length+1≤9223372036854775807:=by omega
           have hAb:(L2.length+1)*32≤140737488355328:=by omega
           have hlen2:Hid ((L2++[x]).length=L2.length+1):=Lib.hid (by rw [List.length_append];rfl)
           have hrow2:Hid (rowsOf idC (L2++[x])=rowsOf idC L2++(u8s x).toList):=Lib.hid (by rw [rowsOf_append,rowsOf_one];rfl)
           go_wp2_with (first
            | ((with_reducible refine lit_slice1 (.tmp 98) Tryz.idsTy (u8s x) hx32 (by omega) ?_ ?_);rfl)
            | ((with_reducible refine lit_append_new (.tmp 94) (.tmp 99) 1 _ Tryz.idsTy hvn5 (u8s x) hx132 hx1 hAk hAb hsz5 ?_ ?_ ?_);rfl;rfl
               intro v3 w3 ho3 hb3 hg3 hn3))
           have ho4:OwnIds w3 W1.heap.size v3 ((A.take (i+1)).filter fun x=>isS S x==false):=by rw [ht2.out];show OwnIds w3 W1.heap.size v3 (L2++[x]);unfold OwnIds;rw [hlen2.out,hrow2.out];exact ho3
           have hg4:=Far.of_grown hg3
           have ho5:OwnIds w3 W1.heap.size (.slice At L1.length ct) ((A.take (i+1)).filter fun x=>isS S x==true):=by rw [ht1.out];show OwnIds w3 W1.heap.size _ (L1++[]);rw [List.append_nil];exact hg4.own hvt5 fun k hk hm=>ha3 k hk (List.mem_singleton.1 hm).symm
           have ho6:=hg4.own hown5 fun k hk hm=>ha2 k (List.mem_singleton.1 hm).symm hk
           have ha4:=ha2.newer hn3 (own_lt hown5)
           have ha5:=(ha3.symm.newer hn3 (own_lt hvt5)).symm
           have hb6:=hb5.trans hb3
           clear ho3 hvt5 hvn5 hown5 ha2 ha3 hl5
           go_roundg f
           case rel=>exact ⟨i+1,by go_num,by omega,ho5,ho4,ho6,ha1,ha4,ha5,hb6⟩
           case measure=>omega
end
end Go.Proofs.YtfdfoplmijmnaaaGreatDoor
namespace Go.Proofs.YtfdfoplmijmnaaaGreatDoor
open Go.RowKit
theorem objS_sound14 {S:List StL} {n:Txt} {o:ObjL} (h:objS S n=some o):o.kind=1∨o.kind=2∨o.kind=3∨o.kind=4:=by
 unfold objS at h
 cases hg:getS S n with
 | none=>rw [hg] at h;cases h
 | some s=>
   rw [hg] at h
   exact dec_kind4 h
def okL (S:List StL) (l:LinkL):Bool:=kindS S l.id==l.kind
/-- Is what an object leads to right? -/
def rightS (S:List StL) (cut:List Txt) (n:Txt):Bool:=match objS S n with
 | none=>false
 | some o=>(linksL (cutO cut n o)).all (okL S)
theorem right_none {S:List StL} {cut:List Txt} {n:Txt} (h:getS S n=none):rightS S cut n=false:=by
 unfold rightS
 rw [objS_none h]
theorem right_some {S:List StL} {cut:List Txt} {n:Txt} {o:ObjL} (h:objS S n=some o):rightS S cut n=(linksL (cutO cut n o)).all (okL S):=by
 unfold rightS
 rw [h]
theorem all_drop {α:Type} {p:α→Bool} {l:List α} {k:Nat} {x:α} (hx:l[k]?=some x):(l.drop k).all p=(p x&&(l.drop (k+1)).all p):=by
 obtain ⟨h1,h2⟩:=List.getElem?_eq_some_iff.1 hx
 rw [List.drop_eq_getElem_cons h1,List.all_cons,h2]
theorem all_drop_end {α:Type} {p:α→Bool} {l:List α} {k:Nat} (h:l.length≤k):(l.drop k).all p=true:=by rw [List.drop_of_length_le h];rfl
/-- The links that are looked at: all, or the first one. -/
def seenL (b:Bool) (L:List LinkL):List LinkL:=if b=true then L.take 1 else L
theorem seenL_at {b:Bool} {L:List LinkL} {j:Nat} {y:LinkL} (hy:L[j]?=some y) (h:b=false∨j=0):(seenL b L)[j]?=some y:=by
 unfold seenL
 rcases h with rfl | rfl
 ·simpa using hy
 ·split
  ·rw [List.getElem?_take_of_lt (by omega)];exact hy
  ·exact hy
theorem seenL_len (b:Bool) (L:List LinkL):(seenL b L).length≤L.length∧(b=true→(seenL b L).length≤1):=by
 unfold seenL
 split
 ·rw [List.length_take]
  exact ⟨Nat.min_le_right _ _,fun _=>Nat.min_le_left _ _⟩
 ·exact ⟨Nat.le_refl _,fun h=>by contradiction⟩
theorem kindS_obj (S:List StL) (n:Txt):kindS S n=match objS S n with | some o=>o.kind | none=>0:=by
 unfold kindS objS
 cases getS S n with
 | none=>rfl
 | some s=>rfl
theorem right_eq {S:List StL} {cut:List Txt} {n:Txt} {b:Bool} (hb:b=(decide (kindS S n=3)&&inL cut n)):rightS S cut n=(decide (0<kindS S n)&&(seenL b (linksS S n)).all (okL S)):=by
 rw [kindS_obj] at hb ⊢
 unfold rightS linksS seenL
 cases ho:objS S n with
 | none=>simp
 | some o=>
   rw [ho] at hb
   simp only at hb ⊢
   have hk:decide (0<o.kind)=true:=by
    rcases (objS_sound14 ho) with h | h | h | h<;>rw [h]<;>rfl
   rw [hk,Bool.true_and]
   unfold cutO
   by_cases hc:o.kind=3∧inL cut n=true
   ·rw [if_pos hc]
    have:b=true:=by rw [hb];simp [hc.1,hc.2]
    subst this
    have h3:linksL o=⟨o.tree,2⟩::parLinks o.pars:=links_three hc.1
    have h4:linksL { o with pars:=[] }=[⟨o.tree,2⟩]:=by rw [links_three (o:={ o with pars:=[] }) hc.1];rfl
    rw [h3,h4]
    simp
   ·rw [if_neg hc]
    have:b=false:=by
     rw [hb]
     cases h:inL cut n
     ·simp
     ·have : ¬ o.kind=3:=fun e=>hc ⟨e,h⟩
      simp [this]
    subst this
    simp
end Go.Proofs.YtfdfoplmijmnaaaGreatDoor
namespace Go.Proofs.YtfdfoplmijmnaaaGreatDoor
open Go.RowKit
/-- The place of the first one of some; -1: there is none. -/
def idxOf {α:Type} (p:α→Bool) (l:List α):Int:=match l.findIdx? p with | some i=>(i:Int) | none => -1
theorem idxOf_found {α:Type} {p:α→Bool} {l:List α} {k:Nat} {x:α} (hn:(l.take k).all (fun y => !p y)=true) (hx:l[k]?=some x) (hp:p x=true):idxOf p l=(k:Int):=by
 have:l.findIdx? p=some k:=by
  rw [List.findIdx?_eq_some_iff_getElem]
  obtain ⟨hk,he⟩:=List.getElem?_eq_some_iff.1 hx
  refine ⟨hk,by rw [he];exact hp,fun j hj=>?_⟩
  have hm:l[j]∈l.take k:=by
   rw [List.mem_take_iff_getElem]
   exact ⟨j,by omega,rfl⟩
  have:=List.all_eq_true.1 hn _ hm
  simpa using this
 simp [idxOf,this]
theorem idxOf_none {α:Type} {p:α→Bool} {l:List α} (hn:l.all (fun y => !p y)=true):idxOf p l = -1:=by
 have:l.findIdx? p=none:=by
  rw [List.findIdx?_eq_none_iff]
  intro x hx
  have:=List.all_eq_true.1 hn x hx
  simpa using this
 simp [idxOf,this]
theorem none_step {α:Type} {p:α→Bool} {l:List α} {k:Nat} {x:α} (hn:(l.take k).all (fun y => !p y)=true) (hx:l[k]?=some x) (hp:p x=false):(l.take (k+1)).all (fun y => !p y)=true:=by
 rw [List.take_add_one,List.all_append,hn,hx]
 simp [hp]
theorem idx_cases {α:Type} (p:α→Bool) (l:List α) :
 (∃ k x,l[k]?=some x∧k<l.length∧idxOf p l=(k:Int)∧p x=true∧(l.take k).all (fun y => !p y)=true)∨(idxOf p l = -1∧l.all (fun y => !p y)=true):=by
 cases h:l.findIdx? p with
 | some k=>
   obtain ⟨hk,hp,hn⟩:=List.findIdx?_eq_some_iff_getElem.1 h
   refine .inl ⟨k,l[k],List.getElem?_eq_getElem hk,hk,by simp [idxOf,h],hp,?_⟩
   rw [List.all_eq_true]
   intro y hy
   obtain ⟨j,hj,rfl⟩:=List.mem_take_iff_getElem.1 hy
   have:=hn j (by omega)
   simpa using this
 | none=>
   refine .inr ⟨by simp [idxOf,h],?_⟩
   rw [List.all_eq_true]
   intro y hy
   have:=List.findIdx?_eq_none_iff.1 h y hy
   simpa using this
end Go.Proofs.YtfdfoplmijmnaaaGreatDoor
namespace Go.Proofs.YtfdfoplmijmnaaaGreatDoor
open Go.RowKit
attribute [local go_sem ↓] ldvI_eq
theorem inL_idx (l:List Txt) (n:Txt):inL l n=decide (0≤idxOf (fun x=>decide (n=x)) l):=by
 rcases idx_cases (fun x=>decide (n=x)) l with ⟨k,x,hx,hk,hi,hp,_⟩ | ⟨hi,hall⟩
 ·rw [hi,decide_eq_true (by omega)]
  have:n=x:=by simpa using hp
  exact inL_iff.2 (this▸List.mem_of_getElem? hx)
 ·rw [hi,decide_eq_false (by omega)]
  cases hb:inL l n
  ·rfl
  ·have:=List.all_eq_true.1 hall n (inL_iff.1 hb)
   simp at this
set_option maxRecDepth 100000 in
set_option maxHeartbeats 2000000 in
theorem gidIndex_calls (l:List Txt) (hok : ∀ x∈l,x.length=32) (v:Value) (n:Txt) (hn:n.length=32) (w:World) (hv:Ids w v l) :
 Calls Tryz.prog 72 #[v, .agg (u8s n)] w fun e w'=>e = .returned (.int .i64 (idxOf (fun x=>decide (n=x)) l))∧Below w.heap.size w w':=by
 obtain ⟨W1,hW1⟩ : ∃ W1,w.alloc (.cells (u8s n) 35)=W1:=⟨_,rfl⟩
 have n1:Blk W1 w.heap.size 35 (u8s n):=by rw [←hW1];exact Blk.new _ _ _
 have b1:Below w.heap.size w W1:=by rw [←hW1];exact (Below.refl _ _).alloc (Nat.le_refl _) _
 have lnn:=fun W (hW:Below W1.heap.size W1 W)=>run_ldvI_at (range_blk (n1.below hW n1.lt)) hn
 obtain ⟨A,cap,rfl,hcap1,hcap2,hat⟩:=hv
 go_enter Tryz.func72,Tryz.ntmps72
 go_wp2
 go_loopw [8] (fun vi wr => ∃ k:Nat,vi = .int .i64 k∧k≤l.length∧Hid ((l.take k).all (fun y => !decide (n=y))=true)∧Below W1.heap.size W1 wr) (fun vi _=>l.length-(intOf vi).toNat)
 case atStart=>exact ⟨0,rfl,by omega,Lib.hid (by simp),Below.refl _ _⟩
 case round=>
  obtain ⟨k,rfl,hk,hall,hbel⟩:=hrel
  clear hW1
  by_cases hlt:k<l.length
  ·have hki:(k:Int)<(l.length:Int):=by omega
   obtain ⟨ga,oa,rfl,hga,hca⟩:=hat (by omega)
   obtain ⟨x,hx⟩ : ∃ x,l[k]?=some x:=⟨_,List.getElem?_eq_getElem hlt⟩
   have hxi:=hok x (List.mem_of_getElem? hx)
   have hlx : ∀ W,Below W1.heap.size W1 W→(ldvI ⟨ga,oa+k*32,none⟩).run Tryz.prog W = .ok (.agg (u8s x)) W:=fun W hW=>by
    have hr:=rangeAt_below (hca k x hx) hga (bthen b1 b1.size hW)
    exact run_ldvI_at (show World.rangeAt W ga (oa+k*32) (u8s x).toList from hr) hxi
   have heq:=fun W=>run_eql_id W n x hn hxi
   have hst1:decide (n=x)=false→Hid ((l.take (k+1)).all (fun y => !decide (n=y))=true):=fun hp=>Lib.hid (none_step hall.out hx hp)
   have hst2:decide (n=x)=true→Hid (idxOf (fun y=>decide (n=y)) l=(k:Int)):=fun hp=>Lib.hid (idxOf_found hall.out hx hp)
   generalize decide (n=x)=bo at *
   clear hx hca hat hok hall
   go_wp2
   refine wp_region_class (C:=fun W=>Below W1.heap.size W1 W) (by kernel_rfl) (by kernel_rfl) hbel.drew ?_
   repeat
    first
     | ((with_reducible refine wpQuiet_ex ?_ ?_)
        ·(go_simp;done)
        apply Exists.intro
        refine ⟨fun W hW=>?_,?_⟩
        ·first
          | (have q0:=lnn W hW
             have q1:=hlx W hW
             have q2:=heq W
             go_simp
             first
              | rfl
              | (simp only [Sem.run_bind,run_eqGuard_agg _ _ _ _ _ _ _ Tryz.eqGuardType35,q2,Result.andThen_ok];rfl))
        simp only [Act.put,List.setIfInBounds_toArray,List.set_cons_zero,List.set_cons_succ])
     | ((with_reducible refine wpQuiet_pass ?_ ?_)
        ·(first | rfl | (go_simp;done))
        simp only [Act.put,List.setIfInBounds_toArray,List.set_cons_zero,List.set_cons_succ])
   with_reducible refine wpQuiet_nil ?_
   intro w5 hW5
   clear heq hlx
   have b5:=hW5
   cases bo
   ·have hst:=hst1 rfl
    clear hst1 hst2
    go_wp2
    go_roundw
    case rel=>exact ⟨k+1,by go_num,by omega,hst,b5⟩
    case measure=>simp [intOf];omega
   ·have hst:=hst2 rfl
    clear hst1 hst2
    go_wp2
    go_ret
    exact ⟨by rw [hst.out];rfl,bthen b1 b1.size b5⟩
  ·have hki : ¬ (k:Int)<(l.length:Int):=by omega
   have hst:Hid (idxOf (fun y=>decide (n=y)) l = -1):=by
    have:=hall.out
    rw [List.take_of_length_le (by omega)] at this
    exact idxOf_none this
   clear hall hat
   go_wp2
   go_ret
   exact ⟨by rw [hst.out];rfl,bthen b1 b1.size hbel⟩
set_option maxRecDepth 100000 in
set_option maxHeartbeats 2000000 in
theorem gidContains_calls (l:List Txt) (hok : ∀ x∈l,x.length=32) (v:Value) (n:Txt) (hn:n.length=32) (w:World) (hv:Ids w v l) :
 Calls Tryz.prog 48 #[v, .agg (u8s n)] w fun e w'=>e = .returned (.bool (inL l n))∧Below w.heap.size w w':=by
 obtain ⟨W1,hW1⟩ : ∃ W1,w.alloc (.cells (u8s n) 35)=W1:=⟨_,rfl⟩
 have n1:Blk W1 w.heap.size 35 (u8s n):=by rw [←hW1];exact Blk.new _ _ _
 have b1:Below w.heap.size w W1:=by rw [←hW1];exact (Below.refl _ _).alloc (Nat.le_refl _) _
 have lnn:=run_ldvI_at (range_blk n1) hn
 have hc:=Lib.hid (gidIndex_calls l hok v n hn W1 (hv.below b1))
 rw [inL_idx]
 obtain ⟨A,cap,rfl,_⟩:=hv
 generalize idxOf (fun x=>decide (n=x)) l=I at *
 clear hok n1
 go_enter Tryz.func48,Tryz.ntmps48
 go_wp2_with (first
  | ((with_reducible refine hc.out.mono ?_);rintro e w2 ⟨rfl,hb2⟩))
 go_ret
 exact ⟨rfl,bthen b1 b1.size hb2⟩
end Go.Proofs.YtfdfoplmijmnaaaGreatDoor
namespace Go.Proofs.YtfdfoplmijmnaaaGreatDoor
open Go.RowKit
attribute [local go_sem ↓] ldvI_eq ldvO_eq ldvS_eq
theorem link_kindR {w:World} {g o:Nat} {y:LinkL} (h:w.rangeAt g o (linkC y)) (hy:y.id.length=32):w.cell? ⟨g,o+32,none⟩=some (.int .i64 y.kind):=h 32 _ (by
 unfold linkC
 rw [List.getElem?_append_right (by rw [u8s_lenS,hy];omega),u8s_lenS,hy]
 rfl)
set_option maxRecDepth 100000 in
set_option maxHeartbeats 8000000 in
theorem chkRight_calls {w:World} {base p:Nat} {vl:Value} {S:List StL} (hS:StoAt w base p vl S) (ids cut:List Txt) (hiok : ∀ x∈ids,x.length=32) (hcok : ∀ x∈cut,x.length=32) (vi vc:Value) (hvi:Ids w vi ids) (hvc:Ids w vc cut) :
 Calls Tryz.prog 29 #[.pointer (some ⟨p,0,none⟩),vi,vc] w fun e w'=>e = .returned (.bool (ids.all (rightS S cut)))∧Below w.heap.size w w':=by
 have hob:=fun W (hW:Below w.heap.size w W) (m:Txt) (hm:m.length=32)=>stoObject_calls (hS.below hW) m hm
 have hki:=fun W (hW:Below w.heap.size w W) (m:Txt) (hm:m.length=32)=>Lib.hid (stoKind_calls (hS.below hW) m hm)
 have hct:=fun W (hW:Below w.heap.size w W) (m:Txt) (hm:m.length=32)=>Lib.hid (gidContains_calls cut hcok vc m hm W (hvc.below hW))
 have hSok:=hS.ok
 have hzi:=zeroIdV
 have hzo:=zeroObj
 have hzl:=zeroLinkR
 have hZ32:(u8s noId).size=32:=by rw [u8s_size];rfl
 have hz72:=zObj_size
 have hzl33:zLink.cells.size=33:=zLink_cells
 obtain ⟨ZL,hZL⟩ : ∃ ZL,zLink = .agg ZL:=⟨_,rfl⟩
 rw [hZL] at hzl hzl33
 have hzl33:ZL.size=33:=hzl33
 generalize u8s noId=Z at *
 have hzone:zObj.all (·.oneCell')=true:=zObj_one
 obtain ⟨R,hR⟩ : ∃ R,ids.all (rightS S cut)=R:=⟨_,rfl⟩
 rw [hR]
 have hR0:Hid ((ids.drop 0).all (rightS S cut)=R):=Lib.hid hR
 obtain ⟨Ac,cc,rfl,_⟩:=hvc
 obtain ⟨A,cap,rfl,hcap1,hcap2,hat⟩:=hvi
 clear hR hS hZL
 go_enter Tryz.func29,Tryz.ntmps29
 go_wp2_with (fail)
 go_loopg [15] ids.length (fun f vi wr => ∃ k:Nat,vi = .int .i64 k∧k+f=ids.length∧Hid ((ids.drop k).all (rightS S cut)=R)∧Below w.heap.size w wr)
 case atStart=>exact ⟨0,rfl,by omega,hR0,Below.refl _ _⟩
 case round=>
  clear hR0
  obtain ⟨k,rfl,hkf,hrel,hbel⟩:=hrel
  have hbs:=hbel.size
  cases gk with
  | zero=>
    have hki0 : ¬ (k:Int)<(ids.length:Int):=by omega
    obtain rfl:true=R:=by rw [←hrel.out,all_drop_end (by omega)]
    clear hat
    go_wp2_with (fail)
    go_ret
    exact ⟨rfl,hbel⟩
  | succ f=>
    have hki0:(k:Int)<(ids.length:Int):=by omega
    obtain ⟨ga,oa,rfl,hga,hca⟩:=hat (by omega)
    obtain ⟨x,hx⟩ : ∃ x,ids[k]?=some x:=⟨_,List.getElem?_eq_getElem (by omega)⟩
    have hxi:=hiok x (List.mem_of_getElem? hx)
    have hl1:(ldvI ⟨ga,oa+k*32,none⟩).run Tryz.prog wr = .ok (.agg (u8s x)) wr:=by
     have hr:=rangeAt_below (hca k x hx) hga hbel
     exact run_ldvI_at (show World.rangeAt wr ga (oa+k*32) (u8s x).toList from hr) hxi
    have hx32:(u8s x).size=32:=by rw [u8s_size,hxi]
    have hx1:=u8s_one x
    have hld2 : ∀ W g,Blk W g 35 (u8s x)→(ldvI ⟨g,0,none⟩).run Tryz.prog W = .ok (.agg (u8s x)) W:=fun W g h=>run_ldvI_at (range_blk h) hxi
    have hrel2:=hrel.out
    rw [all_drop hx] at hrel2
    have hbw:=fun W (hW:Below wr.heap.size wr W)=>bthen hbel hbs hW
    clear hat hca hx hrel
    cases hG:getS S x with
    | none=>
      have hob2:Hid (∀ W,Below wr.heap.size wr W→Hid (Calls Tryz.prog 45 #[.pointer (some ⟨p,0,none⟩), .agg (u8s x)] W fun e w'=>e = .returned (.tuple #[.agg zObj, .bool false])∧Below W.heap.size W w')):=Lib.hid fun W hW=>Lib.hid (by
       have h:=hob W (hbw W hW) x hxi
       unfold ObjT at h
       rw [hG] at h
       exact h)
      obtain rfl:false=R:=by rw [←hrel2,right_none hG];rfl
      clear hob hki hct hG hrel2
      generalize zObj=ZO at *
      go_wp2_with (first
       | ((with_reducible refine lit_new 35 (.tmp 8) (.tmp 18) (u8s x) 32 sz32 hx32 hx1 _ ?_ ?_ ?_ ?_)
          ·first | exact hZ32 | rfl
          ·rfl
          ·rfl
          intro W2 hb2 hbl2
          have hl2:=hld2 W2 _ hb2
          have ho2:=hob2.out W2 hbl2)
       | ((with_reducible refine ho2.out.mono ?_);rintro e w3 ⟨rfl,hb3⟩
          have b3:=bthen hbl2 hbl2.size hb3)
       | ((with_reducible refine lit_new 70 (.tmp 9) (.tmp 23) ZO 72 szObj hz72 hzone _ ?_ ?_ ?_ ?_)
          ·first | exact hz72 | rfl
          ·rfl
          ·rfl
          intro W4 hb4 hbl4
          have b4:=hbw W4 (bthen b3 b3.size hbl4)))
      go_ret
      exact ⟨rfl,b4⟩
    | some s=>
      obtain ⟨o,hdo⟩:=(hSok.each s (getS_id hG).1).2
      have hobj:=objS_some hG hdo
      rw [right_some hobj] at hrel2
      have hsm:=dec_small hdo
      have hob2:Hid (∀ W,Below wr.heap.size wr W→Hid (Calls Tryz.prog 45 #[.pointer (some ⟨p,0,none⟩), .agg (u8s x)] W fun e w'=>(∃ A1 A2 k1 k2,e = .returned (.tuple #[.agg (objC o (.slice A1 o.ents.length k1) (.slice A2 o.pars.length k2)).toArray, .bool true])∧ObjV w' (.slice A1 o.ents.length k1) (.slice A2 o.pars.length k2) o)∧Below W.heap.size W w')):=Lib.hid fun W hW=>Lib.hid (by
       refine (hob W (hbw W hW) x hxi).mono fun e w' ⟨h,hb⟩=>⟨?_,hb⟩
       unfold ObjT at h
       rw [hG] at h
       obtain ⟨o',A1,A2,k1,k2,h1,h2,h3,h4,h5⟩:=h
       rw [hdo] at h1
       injection h1 with h1
       subst h1
       exact ⟨A1,A2,k1,k2,h2,h3⟩)
      obtain ⟨C,hC⟩ : ∃ C,(decide (o.kind=3)&&inL cut x)=C:=⟨_,rfl⟩
      have hcutT:C=true→Hid (cutO cut x o={ o with pars:=[] }):=fun h=>Lib.hid (by
       rw [←hC] at h
       have h':o.kind=3∧inL cut x=true:=by simpa using h
       unfold cutO;rw [if_pos h'])
      have hcutF:C=false→Hid (cutO cut x o=o):=fun h=>Lib.hid (by
       rw [←hC] at h
       unfold cutO;rw [if_neg (fun e=>by rw [e.2,decide_eq_true e.1] at h;cases h)])
      have hsmc:Small (cutO cut x o):=cut_small hsm
      replace hrel2:=Lib.hid hrel2
      replace hsmc:=Lib.hid hsmc
      generalize cutO cut x o=oc at *
      clear hob hobj hG hdo
      go_upto_region 7 with (first
       | ((with_reducible refine lit_new 35 (.tmp 8) (.tmp 18) (u8s x) 32 sz32 hx32 hx1 _ ?_ ?_ ?_ ?_)
          ·first | exact hZ32 | rfl
          ·rfl
          ·rfl
          intro W2 hb2 hbl2
          have hl2:=hld2 W2 _ hb2
          have ho2:=hob2.out W2 hbl2)
       | ((with_reducible refine ho2.out.mono ?_);rintro e w3 ⟨⟨A1,A2,k1,k2,rfl,hv3⟩,hb3⟩
          have b3:=bthen hbl2 hbl2.size hb3
          have hi3:=hb2.below hb3 hb2.lt
          have hc72:(objC o (.slice A1 o.ents.length k1) (.slice A2 o.pars.length k2)).toArray.size=72:=by rw [List.size_toArray,objC_len hv3.ok]
          have hcone:=objC_all o A1 A2 o.ents.length k1 o.pars.length k2)
       | ((with_reducible refine lit_new 70 (.tmp 9) (.tmp 23) (objC o (.slice A1 o.ents.length k1) (.slice A2 o.pars.length k2)).toArray 72 szObj hc72 hcone _ ?_ ?_ ?_ ?_)
          ·first | exact hz72 | rfl
          ·rfl
          ·rfl
          intro W4 hb4 hbl4
          have b4:=bthen b3 b3.size hbl4
          have hv4:=hv3.below hbl4
          have hO4:ObjB W4 w3.heap.size o (.slice A1 o.ents.length k1) (.slice A2 o.pars.length k2):=⟨hb4,hv3.ok.tree,hv3.ok.target⟩
          have hi4:=hi3.below hbl4 hi3.lt))
      have hsz3:wr.heap.size≤w3.heap.size:=b3.size
      clear hi3 hb2 hl1 hob2 ho2 hl2 hb3 hbl2 hb4 b3 hZ32 hz72 hzone hc72 hcone
      go_cut [15,34] from 15 to 51 (fun s15 s34 wx=>s15 = .int .i64 k∧s34 = .bool C∧Below W4.heap.size W4 wx)
      case first=>
       clear hrel2 hcutT hcutF hki
       have hck:=hO4.kind
       have hl4:=hld2 W4 _ hi4
       have hct4:=hct W4 (hbw W4 b4) x hxi
       by_cases hk3:o.kind=3
       ·have hkk:(o.kind==3)=true:=by rw [hk3];rfl
        obtain rfl:inL cut x=C:=by rw [←hC,hk3];rfl
        clear hk3 hC
        go_wp2_with (first
         | ((with_reducible refine hct4.out.mono ?_);rintro e w5 ⟨rfl,hb5⟩))
        go_meet
        case rel=>exact ⟨rfl,rfl,hb5⟩
       ·have hkk:(o.kind==3)=false:=by simpa using hk3
        obtain rfl:false=C:=by rw [←hC,decide_eq_false hk3];rfl
        clear hk3 hC
        go_wp2_with (fail)
        go_meet
        case rel=>exact ⟨rfl,rfl,Below.refl _ _⟩
      case rest=>
       obtain ⟨rfl,rfl,hb45⟩:=hcut
       rename World=>w5
       have hO5:=hO4.below hb45
       have hv5:=hv4.below hb45
       have b5:=bthen b4 b4.size hb45
       have b35:=bthen hbl4 hbl4.size hb45
       clear hO4 hv4 hi4 hct hC hld2 b4 hb45 hbl4
       go_upto_if 34 with (fail)
       go_cut [15] from 15 to 51 (fun s15 wx=>s15 = .int .i64 k ∧ ∃ A2' k2',ObjB wx w3.heap.size oc (.slice A1 oc.ents.length k1) (.slice A2' oc.pars.length k2')∧ObjV wx (.slice A1 oc.ents.length k1) (.slice A2' oc.pars.length k2') oc∧Below wr.heap.size wr wx)
       case first=>
        clear hrel2 hki
        cases C with
        | true=>
          have hco:=(hcutT rfl).out
          subst hco
          have q35:=hO5.at_ (obj_pars hv5.ok.tree)
          have f35:=hO5.fr 35
          have hO6:=hO5.setPars (.slice none 0 0) []
          have hb35:Below wr.heap.size wr (w5.setCell ⟨w3.heap.size,35,none⟩ (.slice none 0 0)):=below_setCells [.slice none 0 0] 35 wr w5 b5 hsz3
          have hv6:ObjV (w5.setCell ⟨w3.heap.size,35,none⟩ (.slice none 0 0)) (.slice A1 o.ents.length k1) (.slice none ([]:List Txt).length 0) { o with pars:=[] }:=⟨ok_cut hv5.ok,hv3.ents.below (below_setCells [.slice none 0 0] 35 w3 w5 b35 (Nat.le_refl _)),SliceAt.nil⟩
          clear hcutT hcutF
          go_wp2_with (fail)
          go_meet
          case rel=>exact ⟨rfl,none,0,hO6,hv6,hb35⟩
        | false=>
          have hco:=(hcutF rfl).out
          subst hco
          clear hcutT hcutF
          go_wp2_with (fail)
          go_meet
          case rel=>exact ⟨rfl,A2,k2,hO5,hv5,b5⟩
       case rest=>
        clear hO5 hv5 hv3 b35 hcutT hcutF b5
        obtain ⟨rfl,A2',k2',hO6,hv6,b6⟩:=hcut
        rename World=>w6
        have hlo:=run_ldvO hO6 hv6.ok
        have hlk:=Lib.hid (links_calls oc hsmc.out A1 A2' k1 k2' w6 hv6)
        have hlok : ∀ y∈linksL oc,LinkOk y:=linksR_ok hv6.ok
        obtain ⟨OC,hOC⟩ : ∃ OC,(objC oc (.slice A1 oc.ents.length k1) (.slice A2' oc.pars.length k2')).toArray=OC:=⟨_,rfl⟩
        rw [hOC] at hlo hlk
        have hL70:=links_len hsmc.out
        generalize linksL oc=L at *
        clear hOC hO6 hv6 hsmc hsm
        go_wp2_with (first
         | ((with_reducible refine hlk.out.mono ?_);rintro e w7 ⟨v7,rfl,hol7,hb7⟩
            obtain ⟨Al,cl,rfl⟩:=own_form' hol7))
        have b7:=hbw w7 (bthen b6 b6.size hb7)
        have hrel0:Hid (((L.drop 0).all (okL S)&&(ids.drop (k+1)).all (rightS S cut))=R):=hrel2
        clear hlo hlk hb7 b6 hrel2
        go_loopg [39] L.length (fun f vj wq => ∃ j:Nat,vj = .int .i64 j∧j+f=L.length∧Hid (((L.drop j).all (okL S)&&(ids.drop (k+1)).all (rightS S cut))=R)∧OwnLinks wq w6.heap.size (.slice Al L.length cl) L∧Below w.heap.size w wq)
        case atStart=>exact ⟨0,rfl,by omega,hrel0,hol7,b7⟩
        case round=>
         clear hrel0 hol7 b7
         rename World=>wq
         obtain ⟨j,rfl,hjf,hrel,hol,hbel2⟩:=hrel
         have hbs2:=hbel2.size
         cases gk with
         | zero=>
           have hki1 : ¬ (j:Int)<(L.length:Int):=by omega
           have hrel3:Hid ((ids.drop (k+1)).all (rightS S cut)=R):=Lib.hid (by have h:=hrel.out;rw [all_drop_end (by omega),Bool.true_and] at h;exact h)
           clear hrel hol
           go_wp2_with (fail)
           go_roundg f
           case rel=>exact ⟨k+1,by go_num,by omega,hrel3,hbel2⟩
           case measure=>omega
         | succ f2=>
           have hki1:(j:Int)<(L.length:Int):=by omega
           have hjl:j<L.length:=by omega
           obtain ⟨gl,ol,cl',hle,hgl,hra⟩:=(OwnLinks.links hlok hol).at_ hjl
           injection hle with e1 e2 e3
           subst e1 e3
           obtain ⟨y,hy⟩ : ∃ y,L[j]?=some y:=⟨_,List.getElem?_eq_getElem hjl⟩
           have hyg:L[j]=y:=by rw [List.getElem?_eq_getElem hjl] at hy;injection hy
           rw [hyg] at hra
           have hyok:LinkOk y:=hlok y (List.mem_of_getElem? hy)
           have hyi:y.id.length=32:=hyok
           have hy33:(linkC y).toArray.size=33:=by rw [List.size_toArray,linkC_len hyok]
           have hyone:(linkC y).toArray.all (·.oneCell')=true:=Array.all_eq_true_iff_forall_mem.2 fun u hu=>linkC_one y u (by simpa using hu)
           have hysz:(Tryz.prog.info? 104).map (·.size)=some (linkC y).length:=by rw [linkC_len hyok];exact szLinkR
           have hldy : ∀ W g,Blk W g 104 (linkC y).toArray→(ldvI ⟨g,0,none⟩).run Tryz.prog W = .ok (.agg (u8s y.id)) W∧W.cell? ⟨g,32,none⟩=some (.int .i64 y.kind):=fun W g h=>by
            have h2:=range_blk h
            rw [List.toList_toArray] at h2
            have h3:=link_kindR h2 hyi
            rw [Nat.zero_add] at h3
            exact ⟨run_ldvI_at (link_idR h2) hyi,h3⟩
           have hrel3:=hrel.out
           rw [all_drop hy] at hrel3
           have hok1:Hid (okL S y=(kindS S y.id==y.kind)):=Lib.hid rfl
           have hkj:=fun W (hW:Below wq.heap.size wq W)=>hki W (bthen hbel2 hbs2 hW) y.id hyi
           generalize kindS S y.id=K at *
           generalize okL S y=ob at *
           replace hrel3:=Lib.hid hrel3
           clear hy hyg hyok hrel
           go_upto_region 12 with (first
            | (refine wpList_load_mid rfl 104 (.tmp 41) rfl gl (ol+j*33) rfl (linkC y) _ hra Tryz.underlying104 rfl hysz ?_)
            | ((with_reducible refine lit_new 104 (.tmp 12) (.tmp 42) (linkC y).toArray 33 szLinkR hy33 hyone _ ?_ ?_ ?_ ?_)
               ·first | exact hzl33 | rfl
               ·rfl
               ·rfl
               intro W7 hb7 hbl7))
           have hlW:=fun W (hW:Below W7.heap.size W7 W)=>(hldy W _ (hb7.below hW hb7.lt)).1
           have hcW:=fun W (hW:Below W7.heap.size W7 W)=>(hldy W _ (hb7.below hW hb7.lt)).2
           have hkW:=fun W (hW:Below W7.heap.size W7 W)=>(hkj W (bthen hbl7 hbl7.size hW)).out
           generalize y.id=yi at *
           generalize y.kind=yk at *
           clear hldy
           refine wp_region_class (C:=fun W=>Below W7.heap.size W7 W) (by kernel_rfl) (by kernel_rfl) (Below.refl _ _).drew ?_
           repeat
            first
             | ((with_reducible refine wpQuiet_ex ?_ ?_)
                ·(go_simp;done)
                apply Exists.intro
                refine ⟨fun W hW=>?_,?_⟩
                ·first
                  | (have q0:=hlW W hW
                     have q1:=hcW W hW
                     have q2:=bel_keepG hW (hkW W hW)
                     go_simp
                     first
                      | rfl
                      | (with_reducible exact q2))
                simp only [Act.put,List.setIfInBounds_toArray,List.set_cons_zero,List.set_cons_succ])
             | ((with_reducible refine wpQuiet_pass ?_ ?_)
                ·(first | rfl | (go_simp;done))
                simp only [Act.put,List.setIfInBounds_toArray,List.set_cons_zero,List.set_cons_succ])
           with_reducible refine wpQuiet_nil ?_
           intro w8 hW8
           have b8:=bthen hbel2 hbs2 (bthen hbl7 hbl7.size hW8)
           have hol8:=own_below (own_below hol hbl7) hW8
           clear hlW hcW hkW hkj hb7 hra hol
           by_cases hK:K=yk
           ·have hne:(K != yk)=false:=by simp [hK]
            have heq:(K==yk)=true:=by simp [hK]
            obtain rfl:true=ob:=by rw [hok1.out,heq]
            have hrel4:Hid (((L.drop (j+1)).all (okL S)&&(ids.drop (k+1)).all (rightS S cut))=R):=Lib.hid (by have h:=hrel3.out;rw [Bool.true_and] at h;exact h)
            clear hK hok1 hrel3
            go_wp2_with (fail)
            go_roundg f2
            case rel=>exact ⟨j+1,by go_num,by omega,hrel4,hol8,b8⟩
            case measure=>omega
           ·have hne:(K != yk)=true:=by simp [hK]
            have heq:(K==yk)=false:=by simp [hK]
            obtain rfl:false=ob:=by rw [hok1.out,heq]
            obtain rfl:false=R:=by have h:=hrel3.out;rw [Bool.false_and,Bool.false_and] at h;exact h
            clear hK hok1 hrel3
            go_wp2_with (fail)
            go_ret
            exact ⟨rfl,b8⟩
set_option maxRecDepth 100000 in
set_option maxHeartbeats 4000000 in
theorem docRight_calls {w:World} {vm:Value} {es:List DiL} (h:DocSt w vm es) (n:Txt) (hn:n.length=32) (cut:List Txt) (hcok : ∀ x∈cut,x.length=32) (vc:Value) (hvc:Ids w vc cut) :
 Calls Tryz.prog 30 #[.agg #[vm], .agg (u8s n),vc] w fun e w'=>e = .returned (.bool (rightS (es.map (·.st)) cut n))∧Below w.heap.size w w':=by
 obtain ⟨W1,W2,hW1,hW2,b2,hl1,hl2,hf⟩:=boxSt (w:=w) vm n hn
 have hfs:=fun W (hW:Below W2.heap.size W2 W)=>run_ldvS (hf W hW).2.1
 have hfn:=fun W (hW:Below W2.heap.size W2 W)=>(hf W hW).2.2
 have hsz:=b2.size
 have hli:=fun W (hW:Below W2.heap.size W2 W)=>Lib.hid (docLinks_calls (h.below (bthen b2 hsz hW)) n hn)
 have hki:=fun W (hW:Below w.heap.size w W) (m:Txt) (hm:m.length=32)=>Lib.hid (docKind_calls (h.below hW) m hm)
 have hin:=Lib.hid (in02_calls cut hcok vc n hn W2 (hvc.below b2))
 have hlok:=linksS_ok (es.map (·.st)) n
 obtain ⟨b,hb⟩ : ∃ b,b=(decide (kindS (es.map (·.st)) n=3)&&inL cut n):=⟨_,rfl⟩
 have hfin:=Lib.hid (right_eq hb)
 have hL70:=linksS_len (es.map (·.st)) n
 have hkb:Hid ((kindS (es.map (·.st)) n==3)=decide (kindS (es.map (·.st)) n=3)):=Lib.hid rfl
 have hkn:=fun W (hW:Below W2.heap.size W2 W)=>hki W (bthen b2 hsz hW) n hn
 obtain ⟨L,hL⟩ : ∃ L,linksS (es.map (·.st)) n=L:=⟨_,rfl⟩
 obtain ⟨R,hR⟩ : ∃ R,rightS (es.map (·.st)) cut n=R:=⟨_,rfl⟩
 rw [hL] at hli hlok hfin hL70
 rw [hR] at hfin ⊢
 obtain ⟨S,hS⟩ : ∃ S,es.map (·.st)=S:=⟨_,rfl⟩
 rw [hS] at hki hb hfin hkb hkn
 clear hL hR hS
 obtain ⟨K,hK⟩ : ∃ K,kindS S n=K:=⟨_,rfl⟩
 rw [hK] at hb hfin hkb hkn
 obtain ⟨R0,hR0⟩ : ∃ R0,(seenL b L).all (okL S)=R0:=⟨_,rfl⟩
 rw [hR0] at hfin
 have hrel0:Hid (((seenL b L).drop 0).all (okL S)=R0):=Lib.hid hR0
 obtain ⟨hse1,hse2⟩:=seenL_len b L
 generalize inL cut n=bi at *
 clear hK hR0
 obtain ⟨Ac,cc,rfl,_⟩:=hvc
 have l20:=hfs W2 (Below.refl _ _)
 have l21:=hfn W2 (Below.refl _ _)
 obtain ⟨NC,hNC⟩ : ∃ NC,u8s n=NC:=⟨_,rfl⟩
 rw [hNC] at hW2 hli hkn hin hfn l21 ⊢
 clear hNC h hf
 go_enter Tryz.func30,Tryz.ntmps30
 go_wp2_with (first
  | ((with_reducible refine hin.out.mono ?_);rintro e w3 ⟨rfl,hb3⟩
     have l30:=hfs w3 hb3
     have l31:=hfn w3 hb3
     have hk3:=hkn w3 hb3)
  | ((with_reducible refine hk3.out.mono ?_);rintro e w4 ⟨rfl,hb4⟩
     have b24:=bthen hb3 hb3.size hb4
     have l40:=hfs w4 b24
     have l41:=hfn w4 b24
     have hi4:=hli w4 b24)
  | ((with_reducible refine hi4.out.mono ?_);rintro e w5 ⟨v5,rfl,ho5,hb5⟩))
 have b25:=bthen b24 b24.size hb5
 have b05:=bthen b2 hsz b25
 obtain ⟨Al,cl,rfl⟩:=own_form' ho5
 have hbw2:=fun W (hW:Below w5.heap.size w5 W)=>bthen b25 b25.size hW
 have hfs5:=fun W (hW:Below w5.heap.size w5 W)=>hfs W (hbw2 W hW)
 clear hin hi4 hk3 hkn hli hfn hfs l20 l21 l30 l31 l40 l41 hb3 hb4 hb5 b24 hbw2
 go_loopg [10] L.length (fun f vj wr => ∃ j:Nat,vj = .int .i64 j∧j+f=L.length∧Hid (((seenL b L).drop j).all (okL S)=R0)∧OwnLinks wr w4.heap.size (.slice Al L.length cl) L∧Below w5.heap.size w5 wr)
 case atStart=>exact ⟨0,rfl,by omega,hrel0,ho5,Below.refl _ _⟩
 case round=>
  clear hrel0 ho5
  obtain ⟨j,rfl,hjf,hrel,hol,hbel⟩:=hrel
  have hbs:=hbel.size
  have hbr:=bthen b05 b05.size hbel
  cases gk with
  | zero=>
    have hki : ¬ (j:Int)<(L.length:Int):=by omega
    have hR:decide (0<K)=R:=by rw [hfin.out,←hrel.out,all_drop_end (by omega),Bool.and_true]
    replace hR:=Lib.hid hR
    clear hrel hol hfs5 hfin hb hkb
    go_wp2_with (fail)
    go_ret
    exact ⟨by rw [←hR.out];rfl,hbr⟩
  | succ f=>
    have hki0:(j:Int)<(L.length:Int):=by omega
    have hjl:j<L.length:=by omega
    obtain ⟨D,hD⟩ : ∃ D,D=(b&&decide (0<j)):=⟨_,rfl⟩
    go_upto_region 7 with (fail)
    go_cut [34] from 20 to 47 (fun s34 wx=>s34 = .bool D∧wr=wx)
    case first=>
     rw [hb] at hD
     clear hrel hfs5 hki hol hfin hb
     have hj0:(0:Int)<(j:Int) ∨ ¬ (0:Int)<(j:Int):=Classical.em _
     cases hK:(K==3) with
     | false=>
       have hk : ¬ K=3:=by simpa using hK
       obtain rfl:D=false:=by rw [hD,decide_eq_false hk];rfl
       clear hkb hD hk
       go_wp2_with (fail)
       go_meet
       case rel=>exact ⟨rfl,rfl⟩
     | true=>
       have hk:K=3:=by simpa using hK
       cases bi with
       | false=>
         obtain rfl:D=false:=by rw [hD];simp
         clear hkb hD hk
         go_wp2_with (fail)
         go_meet
         case rel=>exact ⟨rfl,rfl⟩
       | true=>
         rw [decide_eq_true hk,Bool.true_and,Bool.true_and] at hD
         rcases hj0 with hj0 | hj0
         ·have hj1:decide (0<j)=true:=decide_eq_true (by omega)
          obtain rfl:D=true:=by rw [hD,hj1]
          clear hkb hD hk
          go_wp2_with (fail)
          go_meet
          case rel=>exact ⟨rfl,rfl⟩
         ·have hj1:decide (0<j)=false:=decide_eq_false (by omega)
          obtain rfl:D=false:=by rw [hD,hj1]
          clear hkb hD hk
          go_wp2_with (fail)
          go_meet
          case rel=>exact ⟨rfl,rfl⟩
    case rest=>
     obtain ⟨rfl,rfl⟩:=hcut
     cases D with
     | true=>
       have hD2:b=true∧0<j:=by
        have:=hD.symm
        simpa using this
       have hK3:K=3:=by
        rw [hD2.1] at hb
        have:=hb.symm
        simp at this
        exact this.1
       have hR:true=R:=by
        rw [hfin.out,←hrel.out,all_drop_end (by have:=hse2 hD2.1;omega),hK3]
        rfl
       subst hR
       clear hrel hol hfs5 hfin hb hkb hK3 hD2 hD
       go_wp2_with (fail)
       go_ret
       exact ⟨rfl,hbr⟩
     | false=>
       have hD2:b=false∨j=0:=by
        cases hbv:b with
        | false=>exact .inl rfl
        | true=>
          rw [hbv] at hD
          have:=hD.symm
          simp at this
          exact .inr this
       obtain ⟨gl,ol,cl',hle,hgl,hra⟩:=(OwnLinks.links hlok hol).at_ hjl
       injection hle with e1 e2 e3
       subst e1 e3
       obtain ⟨y,hy⟩ : ∃ y,L[j]?=some y:=⟨_,List.getElem?_eq_getElem hjl⟩
       have hyg:L[j]=y:=by rw [List.getElem?_eq_getElem hjl] at hy;injection hy
       rw [hyg] at hra
       have hyok:LinkOk y:=hlok y (List.mem_of_getElem? hy)
       have hyi:y.id.length=32:=hyok
       have hrel3:=hrel.out
       rw [all_drop (seenL_at hy hD2)] at hrel3
       have hraW:=fun W (hW:Below wr.heap.size wr W)=>rangeAt_below hra hgl hW
       have hlW:=fun W (hW:Below wr.heap.size wr W)=>run_ldvI_at (link_idR (hraW W hW)) hyi
       have hcW:=fun W (hW:Below wr.heap.size wr W)=>link_kindR (hraW W hW) hyi
       have hkW:=fun W (hW:Below wr.heap.size wr W)=>(hki W (bthen hbr hbr.size hW) y.id hyi).out
       have hsW:=fun W (hW:Below wr.heap.size wr W)=>hfs5 W (bthen hbel hbs hW)
       have hok1:Hid (okL S y=(kindS S y.id==y.kind)):=Lib.hid rfl
       generalize kindS S y.id=K2 at *
       generalize okL S y=ob at *
       generalize y.id=yi at *
       generalize y.kind=yk at *
       replace hrel3:=Lib.hid hrel3
       clear hy hyg hyok hrel hraW hki hb hkb hD hD2
       go_upto_region 9 with (fail)
       refine wp_region_class (C:=fun W=>Below wr.heap.size wr W) (by kernel_rfl) (by kernel_rfl) (Below.refl _ _).drew ?_
       repeat
        first
         | ((with_reducible refine wpQuiet_ex ?_ ?_)
            ·(go_simp;done)
            apply Exists.intro
            refine ⟨fun W hW=>?_,?_⟩
            ·first
              | (have q3:=hsW W hW
                 have q0:=hlW W hW
                 have q1:=hcW W hW
                 have q2:=bel_keepG hW (hkW W hW)
                 go_simp
                 first
                  | rfl
                  | (with_reducible exact q2))
            simp only [Act.put,List.setIfInBounds_toArray,List.set_cons_zero,List.set_cons_succ])
         | ((with_reducible refine wpQuiet_pass ?_ ?_)
            ·(first | rfl | (go_simp;done))
            simp only [Act.put,List.setIfInBounds_toArray,List.set_cons_zero,List.set_cons_succ])
       with_reducible refine wpQuiet_nil ?_
       intro w8 hW8
       have hbel8:=hbel.trans (hW8.mono hbs)
       have b8:=bthen hbr hbr.size hW8
       have hol8:=own_below hol hW8
       clear hlW hcW hkW hsW hra hol
       by_cases hK2:K2=yk
       ·have hne:(K2 != yk)=false:=by simp [hK2]
        have heq:(K2==yk)=true:=by simp [hK2]
        obtain rfl:true=ob:=by rw [hok1.out,heq]
        have hrel4:Hid (((seenL b L).drop (j+1)).all (okL S)=R0):=Lib.hid (by have h:=hrel3.out;rw [Bool.true_and] at h;exact h)
        clear hK2 hok1 hrel3
        go_wp2_with (fail)
        go_roundg f
        case rel=>exact ⟨j+1,by go_num,by omega,hrel4,hol8,hbel8⟩
        case measure=>omega
       ·have hne:(K2 != yk)=true:=by simp [hK2]
        have heq:(K2==yk)=false:=by simp [hK2]
        obtain rfl:false=ob:=by rw [hok1.out,heq]
        obtain rfl:false=R0:=by have h:=hrel3.out;rw [Bool.false_and] at h;exact h
        obtain rfl:R=false:=by rw [hfin.out,Bool.and_false]
        clear hK2 hok1 hrel3 hfin
        go_wp2_with (fail)
        go_ret
        exact ⟨rfl,b8⟩
end Go.Proofs.YtfdfoplmijmnaaaGreatDoor
namespace Go.Proofs.YtfdfoplmijmnaaaGreatDoor
open Go.RowKit
attribute [local go_sem ↓] ldvI_eq ldvO_eq ldvS_eq
/-- Do ids rise, one by one? -/
def riseB : List Txt→Bool
 | a::b::l=>Op.bytesLess a b&&riseB (b::l)
 | _=>true
theorem riseB_drop {l:List Txt} {i:Nat} {x y:Txt} (hx:l[i]?=some x) (hy:l[i+1]?=some y):riseB (l.drop i)=(Op.bytesLess x y&&riseB (l.drop (i+1))):=by
 obtain ⟨h1,h2⟩:=List.getElem?_eq_some_iff.1 hx
 obtain ⟨h3,h4⟩:=List.getElem?_eq_some_iff.1 hy
 rw [List.drop_eq_getElem_cons h1,List.drop_eq_getElem_cons h3,h2,h4]
 rfl
theorem riseB_end {l:List Txt} {i:Nat} (h:l.length≤i+1):riseB (l.drop i)=true:=by
 have:(l.drop i).length≤1:=by rw [List.length_drop];omega
 match h2:l.drop i,this with
 | [],_=>rfl
 | [a],_=>rfl
 | a::b::l,h=>simp at h
def k3 (S:List StL) (x:Txt):Bool:=kindS S x==3
/-- May shallow commits be? -/
def shalB (S:List StL) (l:List Txt):Bool:=l.all (k3 S)&&riseB l
set_option maxRecDepth 100000 in
set_option maxHeartbeats 4000000 in
theorem chkShallow_calls {w:World} {base p:Nat} {vl:Value} {S:List StL} (hS:StoAt w base p vl S) (l:List Txt) (hok : ∀ x∈l,x.length=32) (v:Value) (hv:Ids w v l) :
 Calls Tryz.prog 32 #[.pointer (some ⟨p,0,none⟩),v] w fun e w'=>e = .returned (.bool (shalB S l))∧Below w.heap.size w w':=by
 have hki:=fun W (hW:Below w.heap.size w W) (m:Txt) (hm:m.length=32)=>Lib.hid (stoKind_calls (hS.below hW) m hm)
 have hzi:=zeroIdV
 have hZ32:(u8s noId).size=32:=by rw [u8s_size];rfl
 generalize u8s noId=Z at *
 obtain ⟨R,hR⟩ : ∃ R,shalB S l=R:=⟨_,rfl⟩
 rw [hR]
 have hR0:Hid (((l.drop 0).all (k3 S)&&riseB (l.drop (0-1)))=R):=Lib.hid hR
 obtain ⟨A,cap,rfl,hcap1,hcap2,hat⟩:=hv
 clear hR hS
 go_enter Tryz.func32,Tryz.ntmps32
 go_wp2_with (fail)
 go_loopg [9] l.length (fun f vi wr => ∃ k:Nat,vi = .int .i64 k∧k+f=l.length∧Hid (((l.drop k).all (k3 S)&&riseB (l.drop (k-1)))=R)∧Below w.heap.size w wr)
 case atStart=>exact ⟨0,rfl,by omega,hR0,Below.refl _ _⟩
 case round=>
  clear hR0
  obtain ⟨k,rfl,hkf,hrel,hbel⟩:=hrel
  have hbs:=hbel.size
  cases gk with
  | zero=>
    have hki : ¬ (k:Int)<(l.length:Int):=by omega
    obtain rfl:true=R:=by rw [←hrel.out,all_drop_end (by omega),riseB_end (by omega)];rfl
    clear hat
    go_wp2_with (fail)
    go_ret
    exact ⟨rfl,hbel⟩
  | succ f=>
    have hki0:(k:Int)<(l.length:Int):=by omega
    obtain ⟨ga,oa,rfl,hga,hca⟩:=hat (by omega)
    obtain ⟨y,hy⟩ : ∃ y,l[k]?=some y:=⟨_,List.getElem?_eq_getElem (by omega)⟩
    have hyi:=hok y (List.mem_of_getElem? hy)
    have hy32:(u8s y).size=32:=by rw [u8s_size,hyi]
    have hy1:=u8s_one y
    have hrel2:=hrel.out
    rw [all_drop hy] at hrel2
    have hl1:(ldvI ⟨ga,oa+k*32,none⟩).run Tryz.prog wr = .ok (.agg (u8s y)) wr:=run_ldvI_at (show World.rangeAt wr ga (oa+k*32) (u8s y).toList from rangeAt_below (hca k y hy) hga hbel) hyi
    have hkd:=fun W (hW:Below wr.heap.size wr W)=>(hki W (bthen hbel hbs hW) y hyi).out
    have hk3e:Hid (k3 S y=(kindS S y==3)):=Lib.hid rfl
    generalize kindS S y=K at *
    generalize k3 S y=ob at *
    have hkl:k<l.length:=by omega
    by_cases h0:0<k
    ·have hk0:(0:Int)<(k:Int):=by omega
     obtain ⟨x,hx⟩ : ∃ x,l[k-1]?=some x:=⟨_,List.getElem?_eq_getElem (by omega)⟩
     have hxi:=hok x (List.mem_of_getElem? hx)
     rw [riseB_drop hx (by rw [Nat.sub_add_cancel h0];exact hy),Nat.sub_add_cancel h0] at hrel2
     replace hrel2:=Lib.hid hrel2
     have hlx : ∀ W,Below wr.heap.size wr W→(ldvI ⟨ga,oa+(k-1)*32,none⟩).run Tryz.prog W = .ok (.agg (u8s x)) W:=fun W hW=>run_ldvI_at (show World.rangeAt W ga (oa+(k-1)*32) (u8s x).toList from rangeAt_below (hca (k-1) x hx) hga (bthen hbel hbs hW)) hxi
     have hw1:IntKind.i64.wrap ((k:Int)-1)=((k-1:Nat):Int):=by rw [IntWalk.i64_in _ (by omega)];omega
     have hkb1:k-1<l.length:=by omega
     have hkb3:((k-1:Nat):Int)<(l.length:Int):=by omega
     obtain ⟨k1,hk1⟩ : ∃ k1,k-1=k1:=⟨_,rfl⟩
     rw [hk1] at hlx hw1 hkb1 hkb3
     have hls:=fun W=>less_calls x y hxi hyi W
     generalize Op.bytesLess x y=lb at *
     clear hat hca hx hy hrel hki hk1
     by_cases hK:K=3
     ·have hne:(K != 3)=false:=by simp [hK]
      have heq:(K==3)=true:=by simp [hK]
      obtain rfl:true=ob:=by rw [hk3e.out,heq]
      clear hK hk3e
      go_upto_region 4 with (first
       | ((with_reducible refine lit_new 35 (.tmp 6) (.tmp 13) (u8s y) 32 sz32 hy32 hy1 _ ?_ ?_ ?_ ?_)
          ·first | exact hZ32 | rfl
          ·rfl
          ·rfl
          intro W2 hb2 hbl2))
      have hl2:=fun W (hW:Below W2.heap.size W2 W)=>run_ldvI_at (range_blk (hb2.below hW hb2.lt)) hyi
      have hkd2:=fun W (hW:Below W2.heap.size W2 W)=>hkd W (bthen hbl2 hbl2.size hW)
      have hlx2:=fun W (hW:Below W2.heap.size W2 W)=>hlx W (bthen hbl2 hbl2.size hW)
      refine wp_region_class (C:=fun W=>Below W2.heap.size W2 W) (by kernel_rfl) (by kernel_rfl) (Below.refl _ _).drew ?_
      repeat
       first
        | ((with_reducible refine wpQuiet_ex ?_ ?_)
           ·(go_simp;done)
           apply Exists.intro
           refine ⟨fun W hW=>?_,?_⟩
           ·first
             | (have q0:=hl2 W hW
                have q1:=hlx2 W hW
                have q2:=bel_keepG hW (hls W)
                have q3:=bel_keepG hW (hkd2 W hW)
                go_simp
                first
                 | rfl
                 | (with_reducible exact q2)
                 | (with_reducible exact q3))
           simp only [Act.put,List.setIfInBounds_toArray,List.set_cons_zero,List.set_cons_succ])
        | ((with_reducible refine wpQuiet_pass ?_ ?_)
           ·(first | rfl | (go_simp;done))
           simp only [Act.put,List.setIfInBounds_toArray,List.set_cons_zero,List.set_cons_succ])
      with_reducible refine wpQuiet_nil ?_
      intro w8 hW8
      have b8:=bthen hbel hbs (bthen hbl2 hbl2.size hW8)
      clear hl2 hkd2 hlx2 hlx hls hkd hb2
      cases lb with
      | true=>
        have hrel4:Hid (((l.drop (k+1)).all (k3 S)&&riseB (l.drop (k+1-1)))=R):=Lib.hid (by have h:=hrel2.out;rw [Bool.true_and,Bool.true_and] at h;exact h)
        clear hrel2 hw1
        go_wp2_with (fail)
        go_roundg f
        case rel=>exact ⟨k+1,by go_num,by omega,hrel4,b8⟩
        case measure=>omega
      | false=>
        obtain rfl:false=R:=by have h:=hrel2.out;rw [Bool.false_and,Bool.and_false] at h;exact h
        clear hrel2 hw1
        go_wp2_with (fail)
        go_ret
        exact ⟨rfl,b8⟩
     ·have hne:(K != 3)=true:=by simp [hK]
      have heq:(K==3)=false:=by simp [hK]
      obtain rfl:false=ob:=by rw [hk3e.out,heq]
      obtain rfl:false=R:=by have h:=hrel2.out;rw [Bool.false_and,Bool.false_and] at h;exact h
      clear hK hk3e hrel2
      go_upto_region 4 with (first
       | ((with_reducible refine lit_new 35 (.tmp 6) (.tmp 13) (u8s y) 32 sz32 hy32 hy1 _ ?_ ?_ ?_ ?_)
          ·first | exact hZ32 | rfl
          ·rfl
          ·rfl
          intro W2 hb2 hbl2))
      have hl2:=fun W (hW:Below W2.heap.size W2 W)=>run_ldvI_at (range_blk (hb2.below hW hb2.lt)) hyi
      have hkd2:=fun W (hW:Below W2.heap.size W2 W)=>hkd W (bthen hbl2 hbl2.size hW)
      have hlx2:=fun W (hW:Below W2.heap.size W2 W)=>hlx W (bthen hbl2 hbl2.size hW)
      refine wp_region_class (C:=fun W=>Below W2.heap.size W2 W) (by kernel_rfl) (by kernel_rfl) (Below.refl _ _).drew ?_
      repeat
       first
        | ((with_reducible refine wpQuiet_ex ?_ ?_)
           ·(go_simp;done)
           apply Exists.intro
           refine ⟨fun W hW=>?_,?_⟩
           ·first
             | (have q0:=hl2 W hW
                have q1:=hlx2 W hW
                have q2:=bel_keepG hW (hls W)
                have q3:=bel_keepG hW (hkd2 W hW)
                go_simp
                first
                 | rfl
                 | (with_reducible exact q2)
                 | (with_reducible exact q3))
           simp only [Act.put,List.setIfInBounds_toArray,List.set_cons_zero,List.set_cons_succ])
        | ((with_reducible refine wpQuiet_pass ?_ ?_)
           ·(first | rfl | (go_simp;done))
           simp only [Act.put,List.setIfInBounds_toArray,List.set_cons_zero,List.set_cons_succ])
      with_reducible refine wpQuiet_nil ?_
      intro w8 hW8
      have b8:=bthen hbel hbs (bthen hbl2 hbl2.size hW8)
      clear hl2 hkd2 hlx2 hlx hls hkd hb2 hw1
      go_wp2_with (fail)
      go_ret
      exact ⟨rfl,b8⟩
    ·have hk0 : ¬ (0:Int)<(k:Int):=by omega
     have hj1:decide (0<k)=false:=decide_eq_false h0
     have hkk:k-1=k+1-1:=by omega
     rw [hkk] at hrel2
     replace hrel2:=Lib.hid hrel2
     clear hat hca hy hrel hki h0 hkk
     by_cases hK:K=3
     ·have hne:(K != 3)=false:=by simp [hK]
      have heq:(K==3)=true:=by simp [hK]
      obtain rfl:true=ob:=by rw [hk3e.out,heq]
      have hrel4:Hid (((l.drop (k+1)).all (k3 S)&&riseB (l.drop (k+1-1)))=R):=Lib.hid (by have h:=hrel2.out;rw [Bool.true_and] at h;exact h)
      clear hK hk3e hrel2
      go_upto_region 4 with (first
       | ((with_reducible refine lit_new 35 (.tmp 6) (.tmp 13) (u8s y) 32 sz32 hy32 hy1 _ ?_ ?_ ?_ ?_)
          ·first | exact hZ32 | rfl
          ·rfl
          ·rfl
          intro W2 hb2 hbl2))
      have hl2:=fun W (hW:Below W2.heap.size W2 W)=>run_ldvI_at (range_blk (hb2.below hW hb2.lt)) hyi
      have hkd2:=fun W (hW:Below W2.heap.size W2 W)=>hkd W (bthen hbl2 hbl2.size hW)
      refine wp_region_class (C:=fun W=>Below W2.heap.size W2 W) (by kernel_rfl) (by kernel_rfl) (Below.refl _ _).drew ?_
      repeat
       first
        | ((with_reducible refine wpQuiet_ex ?_ ?_)
           ·(go_simp;done)
           apply Exists.intro
           refine ⟨fun W hW=>?_,?_⟩
           ·first
             | (have q0:=hl2 W hW
                have q3:=bel_keepG hW (hkd2 W hW)
                go_simp
                first
                 | rfl
                 | (with_reducible exact q3))
           simp only [Act.put,List.setIfInBounds_toArray,List.set_cons_zero,List.set_cons_succ])
        | ((with_reducible refine wpQuiet_pass ?_ ?_)
           ·(first | rfl | (go_simp;done))
           simp only [Act.put,List.setIfInBounds_toArray,List.set_cons_zero,List.set_cons_succ])
      with_reducible refine wpQuiet_nil ?_
      intro w8 hW8
      have b8:=bthen hbel hbs (bthen hbl2 hbl2.size hW8)
      clear hl2 hkd2 hkd hb2
      go_wp2_with (fail)
      go_roundg f
      case rel=>exact ⟨k+1,by go_num,by omega,hrel4,b8⟩
      case measure=>omega
     ·have hne:(K != 3)=true:=by simp [hK]
      have heq:(K==3)=false:=by simp [hK]
      obtain rfl:false=ob:=by rw [hk3e.out,heq]
      obtain rfl:false=R:=by have h:=hrel2.out;rw [Bool.false_and,Bool.false_and] at h;exact h
      clear hK hk3e hrel2
      go_upto_region 4 with (first
       | ((with_reducible refine lit_new 35 (.tmp 6) (.tmp 13) (u8s y) 32 sz32 hy32 hy1 _ ?_ ?_ ?_ ?_)
          ·first | exact hZ32 | rfl
          ·rfl
          ·rfl
          intro W2 hb2 hbl2))
      have hl2:=fun W (hW:Below W2.heap.size W2 W)=>run_ldvI_at (range_blk (hb2.below hW hb2.lt)) hyi
      have hkd2:=fun W (hW:Below W2.heap.size W2 W)=>hkd W (bthen hbl2 hbl2.size hW)
      refine wp_region_class (C:=fun W=>Below W2.heap.size W2 W) (by kernel_rfl) (by kernel_rfl) (Below.refl _ _).drew ?_
      repeat
       first
        | ((with_reducible refine wpQuiet_ex ?_ ?_)
           ·(go_simp;done)
           apply Exists.intro
           refine ⟨fun W hW=>?_,?_⟩
           ·first
             | (have q0:=hl2 W hW
                have q3:=bel_keepG hW (hkd2 W hW)
                go_simp
                first
                 | rfl
                 | (with_reducible exact q3))
           simp only [Act.put,List.setIfInBounds_toArray,List.set_cons_zero,List.set_cons_succ])
        | ((with_reducible refine wpQuiet_pass ?_ ?_)
           ·(first | rfl | (go_simp;done))
           simp only [Act.put,List.setIfInBounds_toArray,List.set_cons_zero,List.set_cons_succ])
      with_reducible refine wpQuiet_nil ?_
      intro w8 hW8
      have b8:=bthen hbel hbs (bthen hbl2 hbl2.size hW8)
      clear hl2 hkd2 hkd hb2
      go_wp2_with (fail)
      go_ret
      exact ⟨rfl,b8⟩
/-- Are ids closed, of what is reached, and what is missing? -/
def closB (S:List StL) (cut a b:List Txt):Bool:=b.isEmpty&&a.all (rightS S cut)
/-- What Closed tells. -/
def ClosE (S:List StL) (cut ini:List Txt) (f:Bool→Value) (e:Ending):Prop := ∃ a b,RchIs S cut ini true a∧RchIs S cut ini false b∧e = .returned (f (closB S cut a b))
theorem ClosE.mk' {S:List StL} {cut ini a b:List Txt} (f:Bool→Value) (c:Bool) (ha:RchIs S cut ini true a) (hb:RchIs S cut ini false b) (h:Hid (closB S cut a b=c)):ClosE S cut ini f (.returned (f c)):=⟨a,b,ha,hb,by rw [h.out]⟩
def closN (c:Bool):Value := .int .i64 (if c=true then 0 else 7)
set_option maxRecDepth 100000 in
set_option maxHeartbeats 4000000 in
theorem chkClosed_calls {w:World} {base p:Nat} {vl:Value} {S:List StL} (hS:StoAt w base p vl S) (ini cut:List Txt) (hiok : ∀ x∈ini,x.length=32) (hcok : ∀ x∈cut,x.length=32) (hU:ini.length+S.length*70≤800000) (hcl:cut.length≤800000) (vf vc:Value) (hvf:Ids w vf ini) (hvc:Ids w vc cut) :
 Calls Tryz.prog 11 #[.pointer (some ⟨p,0,none⟩),vf,vc] w fun e w'=>ClosE S cut ini closN e∧Below w.heap.size w w':=by
 have hre:=Lib.hid (graReach_calls hS ini cut hiok hcok hU hcl vf vc hvf hvc)
 have hri:=fun W (hW:Below w.heap.size w W) (a:List Txt) (ha : ∀ x∈a,x.length=32) (va:Value) (hva:Ids W va a)=>Lib.hid (chkRight_calls (hS.below hW) a cut ha hcok va vc hva (hvc.below hW))
 obtain ⟨Af,cf,rfl,_⟩:=hvf
 obtain ⟨Ac,cc,rfl,_⟩:=hvc
 clear hS
 go_enter Tryz.func11,Tryz.ntmps11
 go_upto_region 2 with (first
  | ((with_reducible refine hre.out.mono ?_);rintro e w2 ⟨va,vb,a,b,rfl,ha,hb,oa,ob,oka,okb,hla,hlb,hb2⟩
     obtain ⟨Aa,ca,rfl⟩:=own_form' oa
     obtain ⟨Ab,cb,rfl⟩:=own_form' ob))
 have hva:=SliceAt.of_own (fun e h=>idC_len (oka e h)) oa
 have hri2:=hri w2 hb2 a oka _ hva
 clear hre hri oa ob
 by_cases h0:0<b.length
 ·have hcl:closB S cut a b=false:=by unfold closB;cases b with | nil=>simp at h0 | cons y b=>rfl
  replace hcl:=Lib.hid hcl
  clear hri2 hva
  have hb0:(0:Int)<(b.length:Int):=by omega
  go_wp2_with (fail)
  go_ret
  exact ⟨.mk' closN false ha hb hcl,hb2⟩
 ·obtain rfl:b=[]:=List.length_eq_zero_iff.1 (by omega)
  clear h0
  have hcl:Hid (closB S cut a []=a.all (rightS S cut)):=Lib.hid rfl
  generalize a.all (rightS S cut)=ra at *
  cases ra with
  | true=>
    go_wp2_with (first
     | ((with_reducible refine hri2.out.mono ?_);rintro e w3 ⟨rfl,hb3⟩))
    go_ret
    exact ⟨.mk' closN true ha hb hcl,bthen hb2 hb2.size hb3⟩
  | false=>
    go_wp2_with (first
     | ((with_reducible refine hri2.out.mono ?_);rintro e w3 ⟨rfl,hb3⟩))
    go_ret
    exact ⟨.mk' closN false ha hb hcl,bthen hb2 hb2.size hb3⟩
set_option maxRecDepth 100000 in
set_option maxHeartbeats 4000000 in
theorem docClosed_calls {w:World} {vm:Value} {es:List DiL} (h:DocSt w vm es) (ini cut:List Txt) (hiok : ∀ x∈ini,x.length=32) (hcok : ∀ x∈cut,x.length=32) (hU:ini.length+es.length*70≤800000) (vf vc:Value) (hvf:Ids w vf ini) (hvc:Ids w vc cut) :
 Calls Tryz.prog 12 #[.agg #[vm],vf,vc] w fun e w'=>ClosE (es.map (·.st)) cut ini Value.bool e∧Below w.heap.size w w':=by
 obtain ⟨W1,hW1⟩ : ∃ W1,w.alloc (.cells #[vm] 30)=W1:=⟨_,rfl⟩
 have s1:Blk W1 w.heap.size 30 #[vm]:=by rw [←hW1];exact Blk.new _ _ _
 have b1:Below w.heap.size w W1:=by rw [←hW1];exact (Below.refl _ _).alloc (Nat.le_refl _) _
 have hsz1:=b1.size
 have l1:Hid (∀ W,Below W1.heap.size W1 W→(ldvS ⟨w.heap.size,0,none⟩).run Tryz.prog W = .ok (.agg #[vm]) W):=Lib.hid fun W hW=>run_ldvS (s1.below hW s1.lt)
 have l10:=l1.out W1 (Below.refl _ _)
 have hre:=Lib.hid (docReach_calls (h.below b1) ini cut hiok hcok hU vf vc (hvf.below b1) (hvc.below b1))
 have hri:=fun W (hW:Below w.heap.size w W) (x:Txt) (hx:x.length=32)=>Lib.hid (docRight_calls (h.below hW) x hx cut hcok vc (hvc.below hW))
 obtain ⟨Af,cf,rfl,_⟩:=hvf
 obtain ⟨Ac,cc,rfl,_⟩:=hvc
 obtain ⟨S,hS⟩ : ∃ S,es.map (·.st)=S:=⟨_,rfl⟩
 rw [hS] at hre hri ⊢
 clear h s1 hS
 go_enter Tryz.func12,Tryz.ntmps12
 go_wp2_with (first
  | ((with_reducible refine hre.out.mono ?_);rintro e w2 ⟨va,vb,a,b,rfl,ha,hb,oa,ob,hb2⟩
     obtain ⟨Aa,ca,rfl⟩:=own_form' oa
     obtain ⟨Ab,cb,rfl⟩:=own_form' ob))
 have hb02:=bthen b1 hsz1 hb2
 have oka : ∀ x∈a,x.length=32:=fun x hx=>Rch.ok hiok ((ha.mem x).1 hx).1
 have hva:=SliceAt.of_own (fun e h=>idC_len (oka e h)) oa
 obtain ⟨A,cap,hfe,hcap1,hcap2,hat⟩:=hva
 injection hfe with e1 e2 e3
 subst e1 e3
 obtain ⟨R0,hR0⟩ : ∃ R0,a.all (rightS S cut)=R0:=⟨_,rfl⟩
 have hcl:Hid (closB S cut a b=(b.isEmpty&&R0)):=Lib.hid (by rw [←hR0];rfl)
 have hrel0:Hid ((a.drop 0).all (rightS S cut)=R0):=Lib.hid hR0
 clear hre oa ob hR0 l10
 go_loopg [9] a.length (fun f vi wr => ∃ k:Nat,vi = .int .i64 k∧k+f=a.length∧Hid ((a.drop k).all (rightS S cut)=R0)∧Below w2.heap.size w2 wr)
 case atStart=>exact ⟨0,rfl,by omega,hrel0,Below.refl _ _⟩
 case round=>
  clear hrel0
  obtain ⟨k,rfl,hkf,hrel,hbel⟩:=hrel
  have hbs:=hbel.size
  have hbr:=bthen hb02 hb02.size hbel
  cases gk with
  | zero=>
    have hki : ¬ (k:Int)<(a.length:Int):=by omega
    obtain rfl:true=R0:=by rw [←hrel.out,all_drop_end (by omega)]
    clear hat hri l1 hrel
    by_cases h0:0<b.length
    ·have hcl2:closB S cut a b=false:=by rw [hcl.out];cases b with | nil=>simp at h0 | cons y b=>rfl
     replace hcl2:=Lib.hid hcl2
     have hbe:((b.length:Int)==0)=false:=by rw [beq_eq_false_iff_ne];omega
     have hbe2:(b.length==0)=false:=by rw [beq_eq_false_iff_ne];omega
     clear hcl
     go_wp2_with (fail)
     go_ret
     exact ⟨.mk' Value.bool false ha hb hcl2,hbr⟩
    ·obtain rfl:b=[]:=List.length_eq_zero_iff.1 (by omega)
     have hcl3:Hid (closB S cut a []=true):=Lib.hid (by rw [hcl.out];rfl)
     clear hcl h0
     go_wp2_with (fail)
     go_ret
     exact ⟨.mk' Value.bool true ha hb hcl3,hbr⟩
  | succ f=>
    have hki:(k:Int)<(a.length:Int):=by omega
    obtain ⟨ga,oa,rfl,hga,hca⟩:=hat (by omega)
    obtain ⟨x,hx⟩ : ∃ x,a[k]?=some x:=⟨_,List.getElem?_eq_getElem (by omega)⟩
    have hxi:=oka x (List.mem_of_getElem? hx)
    have hrel2:=hrel.out
    rw [all_drop hx] at hrel2
    replace hrel2:=Lib.hid hrel2
    have hkl:k<a.length:=by omega
    have hlx : ∀ W,Below wr.heap.size wr W→(ldvI ⟨ga,oa+k*32,none⟩).run Tryz.prog W = .ok (.agg (u8s x)) W:=fun W hW=>run_ldvI_at (show World.rangeAt W ga (oa+k*32) (u8s x).toList from rangeAt_below (hca k x hx) hga (bthen hbel hbs hW)) hxi
    have hsW:=fun W (hW:Below wr.heap.size wr W)=>l1.out W (bthen hb2 hb2.size (bthen hbel hbs hW))
    have hrW:=fun W (hW:Below wr.heap.size wr W)=>(hri W (bthen hbr hbr.size hW) x hxi).out
    generalize rightS S cut x=ob at *
    clear hat hca hx hrel hri
    go_upto_region 5 with (fail)
    refine wp_region_class (C:=fun W=>Below wr.heap.size wr W) (by kernel_rfl) (by kernel_rfl) (Below.refl _ _).drew ?_
    repeat
     first
      | ((with_reducible refine wpQuiet_ex ?_ ?_)
         ·(go_simp;done)
         apply Exists.intro
         refine ⟨fun W hW=>?_,?_⟩
         ·first
           | (have q0:=hlx W hW
              have q1:=hsW W hW
              have q2:=bel_keepG hW (hrW W hW)
              go_simp
              first
               | rfl
               | (with_reducible exact q2))
         simp only [Act.put,List.setIfInBounds_toArray,List.set_cons_zero,List.set_cons_succ])
      | ((with_reducible refine wpQuiet_pass ?_ ?_)
         ·(first | rfl | (go_simp;done))
         simp only [Act.put,List.setIfInBounds_toArray,List.set_cons_zero,List.set_cons_succ])
    with_reducible refine wpQuiet_nil ?_
    intro w8 hW8
    have hbel8:=hbel.trans (hW8.mono hbs)
    have b8:=bthen hbr hbr.size hW8
    clear hlx hsW hrW
    cases ob with
    | true=>
      have hrel4:Hid ((a.drop (k+1)).all (rightS S cut)=R0):=Lib.hid (by have h:=hrel2.out;rw [Bool.true_and] at h;exact h)
      clear hrel2
      go_wp2_with (fail)
      go_roundg f
      case rel=>exact ⟨k+1,by go_num,by omega,hrel4,hbel8⟩
      case measure=>omega
    | false=>
      obtain rfl:false=R0:=by have h:=hrel2.out;rw [Bool.false_and] at h;exact h
      have hcl3:Hid (closB S cut a b=false):=Lib.hid (by rw [hcl.out,Bool.and_false])
      clear hrel2 hcl
      go_wp2_with (fail)
      go_ret
      exact ⟨.mk' Value.bool false ha hb hcl3,b8⟩
end Go.Proofs.YtfdfoplmijmnaaaGreatDoor
namespace Go.Proofs.YtfdfoplmijmnaaaGreatDoor
open Go.RowKit
/-- May a byte stand in a name? -/
def nameC (c:UInt8):Bool:=decide (33≤c.toNat)&&decide (c.toNat≤126)
def nameOk (s:List UInt8):Bool := !s.isEmpty&&decide (s.length≤40)&&s.all nameC
/-- A ref: a name, and an id. -/
structure RefL where
 name:List UInt8
 id:List UInt8
theorem all_take_step {s:List UInt8} {k:Nat} (hk:k<s.length) (h:(s.take k).all nameC=true) (hc:nameC (s.getD k 0)=true):(s.take (k+1)).all nameC=true:=by
 rw [List.take_add_one,List.all_append,h,List.getElem?_eq_getElem hk]
 simpa [List.getD,List.getElem?_eq_getElem hk] using hc
theorem nameOk_bad {s:List UInt8} {k:Nat} (hk:k<s.length) (hc:nameC (s.getD k 0)=false):nameOk s=false:=by
 have:s.all nameC=false:=by
  rw [List.all_eq_false]
  exact ⟨s[k],List.getElem_mem hk,by simpa [List.getD,List.getElem?_eq_getElem hk] using hc⟩
 simp [nameOk,this]
theorem nameOk_all {s:List UInt8} (h:s.all nameC=true):nameOk s=(!s.isEmpty&&decide (s.length≤40)):=by simp [nameOk,h]
def isNone (id:List UInt8):Bool:=decide (id=List.replicate 32 0)
/-- Is the ref at a place as it must be? -/
def fineAt (l:List RefL) (i:Nat):Bool:=
 match l[i]? with
 | none=>true
 | some r=>nameOk r.name && !isNone r.id&&(decide (i=0)||match l[i-1]? with | none=>true | some q=>Op.bytesLess q.name r.name)
def fineL (l:List RefL):Bool:=decide (l.length≤64)&&(List.range l.length).all (fineAt l)
theorem fineAt_of {l:List RefL} {i:Nat} {r:RefL} (hr:l[i]?=some r) (h1:nameOk r.name=true) (h2:isNone r.id=false) (h3:0<i → ∃ q,l[i-1]?=some q∧Op.bytesLess q.name r.name=true):fineAt l i=true:=by
 unfold fineAt
 rw [hr]
 simp only [h1,h2,Bool.not_false,Bool.and_self,Bool.true_and]
 rcases Nat.eq_zero_or_pos i with h0 | h0
 ·simp [h0]
 ·obtain ⟨q,hq,hl⟩:=h3 h0
  simp [hq,hl]
theorem fineAt_name {l:List RefL} {i:Nat} {r:RefL} (hr:l[i]?=some r) (h1:nameOk r.name=false):fineAt l i=false:=by
 unfold fineAt;rw [hr];simp [h1]
theorem fineAt_none {l:List RefL} {i:Nat} {r:RefL} (hr:l[i]?=some r) (h1:isNone r.id=true):fineAt l i=false:=by
 unfold fineAt;rw [hr];simp [h1]
theorem fineAt_less {l:List RefL} {i:Nat} {r q:RefL} (hr:l[i]?=some r) (h0:0<i) (hq:l[i-1]?=some q) (h1:Op.bytesLess q.name r.name=false):fineAt l i=false:=by
 unfold fineAt;rw [hr]
 have:i≠0:=by omega
 simp [hq,h1,this]
theorem fine_step {l:List RefL} {k:Nat} (h:(List.range k).all (fineAt l)=true) (hk:fineAt l k=true):(List.range (k+1)).all (fineAt l)=true:=by
 rw [List.range_succ,List.all_append,h];simp [hk]
theorem fineL_bad {l:List RefL} {k:Nat} (hk:k<l.length) (h:fineAt l k=false):fineL l=false:=by
 have:(List.range l.length).all (fineAt l)=false:=by
  rw [List.all_eq_false]
  exact ⟨k,List.mem_range.2 hk,by simp [h]⟩
 simp [fineL,this]
theorem fineL_all {l:List RefL} (h:(List.range l.length).all (fineAt l)=true):fineL l=decide (l.length≤64):=by simp [fineL,h]
end Go.Proofs.YtfdfoplmijmnaaaGreatDoor
namespace Go.Proofs.YtfdfoplmijmnaaaGreatDoor
open Go.RowKit
set_option maxRecDepth 100000 in
set_option maxHeartbeats 400000 in
theorem r09name_calls (s:List UInt8) (hs:s.length≤9223372036854775807) (w:World) :
 Calls Tryz.prog 51 #[.string (B s)] w fun e w'=>e = .returned (.bool (nameOk s))∧w=w':=by
 go_enter Tryz.func51,Tryz.ntmps51
 go_wp2
 go_loop [6] (fun i => ∃ k:Nat,i = .int .i64 k∧k≤s.length∧Hid ((s.take k).all nameC=true)) (fun i=>s.length-(intOf i).toNat)
 case atStart=>exact ⟨0,rfl,by omega,by show _=_;simp⟩
 case round=>
  obtain ⟨k,rfl,hk,hall⟩:=hrel
  by_cases hlt:k<s.length
  ·have hki:(k:Int)<(s.length:Int):=by omega
   obtain ⟨c,hc⟩ : ∃ c,s.getD k 0=c:=⟨_,rfl⟩
   have hck : ∀ h:k<s.length,s[k]'h=c:=fun h=>by rw [←hc,getD_at]
   cases hn:nameC c
   ·have hbad:=Lib.hid (nameOk_bad hlt (by rw [hc];exact hn))
    have hor:(c.toNat:Int)≤32∨126<(c.toNat:Int):=by
     simp only [nameC,Bool.and_eq_false_iff,decide_eq_false_iff_not] at hn
     omega
    clear hc hn hall
    rcases hor with h1 | h1
    ·go_wp2
     go_ret
     exact ⟨by rw [hbad.out];rfl,rfl⟩
    ·have h2 : ¬ (c.toNat:Int)≤32:=by omega
     go_wp2
     go_ret
     exact ⟨by rw [hbad.out];rfl,rfl⟩
   ·have hst:=Lib.hid (all_take_step hlt hall.out (by rw [hc];exact hn))
    simp only [nameC,Bool.and_eq_true,decide_eq_true_eq] at hn
    have h1 : ¬ (c.toNat:Int)≤32:=by omega
    have h2 : ¬ 126<(c.toNat:Int):=by omega
    clear hc hn hall
    go_wp2
    go_round
    case rel=>exact ⟨k+1,by go_num,by omega,hst⟩
    case measure=>simp [intOf];omega
  ·have hki : ¬ (k:Int)<(s.length:Int):=by omega
   have hok:Hid (nameOk s=(!s.isEmpty&&decide (s.length≤40))):=by
    have:=hall.out
    rw [List.take_of_length_le (by omega)] at this
    exact nameOk_all this
   clear hall
   by_cases he:s.isEmpty=true
   ·go_wp2
    go_ret
    exact ⟨by rw [hok.out,he];rfl,rfl⟩
   ·have he':s.isEmpty=false:=by simpa using he
    by_cases h40:s.length≤40
    ·have h40i:(s.length:Int)≤40:=by omega
     go_wp2
     go_ret
     exact ⟨by rw [hok.out,he'];simp [h40],rfl⟩
    ·have h40i : ¬ (s.length:Int)≤40:=by omega
     go_wp2
     go_ret
     exact ⟨by rw [hok.out,he'];simp [h40],rfl⟩
set_option maxRecDepth 100000 in
set_option maxHeartbeats 400000 in
theorem none_calls (l:List UInt8) (hl:l.length=32) (w:World) :
 Calls Tryz.prog 52 #[.agg (u8s l)] w fun e w'=>e = .returned (.bool (isNone l))∧Below w.heap.size w w':=by
 have heq:=fun W=>equalIn_zero l hl W
 have hb:=Blk.new w 35 (u8s l)
 go_enter Tryz.func52,Tryz.ntmps52
 go_wp2_with (first
  | (refine wpList_load_row rfl 35 (.tmp 1) rfl w.heap.size rfl _ _ _ _ hb Tryz.underlying35 rfl (by rw [u8s_size,hl];exact sz32) ?_))
 go_ret
 exact ⟨rfl,(Below.refl _ _).alloc (Nat.le_refl _) _⟩
end Go.Proofs.YtfdfoplmijmnaaaGreatDoor
namespace Go.Proofs.YtfdfoplmijmnaaaGreatDoor
open Go.RowKit
/-- The cells of a ref. -/
def refC (r:RefL):List Value := .string (B r.name)::r.id.map u8v
def RefOk (r:RefL):Prop:=r.id.length=32∧r.name.length≤9223372036854775807
def RefsOk (l:List RefL):Prop := ∀ r∈l,RefOk r
theorem RefsOk.at_ {l:List RefL} (h:RefsOk l) {i:Nat} (hi:i<l.length):RefOk l[i]:=h _ (List.getElem_mem hi)
theorem refC_len {r:RefL} (h:RefOk r):(refC r).length=33:=by simp [refC,h.1]
theorem refC_one (r:RefL) : ∀ u∈refC r,u.oneCell'=true:=by
 intro u hu
 simp only [refC,List.mem_cons,List.mem_map] at hu
 rcases hu with rfl | ⟨c,_,rfl⟩<;>rfl
theorem range_name {w:World} {g o:Nat} {r:RefL} (h:w.rangeAt g o (refC r)):w.cell? ⟨g,o,none⟩=some (.string (B r.name)):=h 0 _ rfl
theorem range_id {w:World} {g o:Nat} {r:RefL} (h:w.rangeAt g o (refC r)):w.rangeAt g (o+1) (u8s r.id).toList:=fun j u hu=>by
 have:=h (j+1) u (by simpa [refC,u8s] using hu)
 rwa [show o+(j+1)=o+1+j from by omega] at this
theorem szRef : (Tryz.prog.info? 37).map (·.size)=some 33:=by kernel_rfl
theorem sizedRef {r:RefL} (h:RefOk r):(Tryz.prog.info? 37).map (·.size)=some (refC r).length:=by rw [refC_len h];exact szRef
theorem wpList_store_newRef {W:World} {ops:Array Oper} {rest:List Oper} {o:Oper} {a:Act} {Q:Exit→Act→World→Prop} (hgd:o.guard=none) (x y:Operand) (ho:o.op = .store 37 x y)
 (r:RefL) (hr:RefOk r) (zs:Array Value) (hx:a.eval x = .pointer (some ⟨W.heap.size,0,none⟩)) (hy:a.eval y = .agg (refC r).toArray) (hz:zs.size=33)
 (h : ∀ W1,Blk W1 W.heap.size 37 (refC r).toArray→Below W.heap.size W W1→wpList Tryz.prog ops Q rest (a.put o.dst undef) W1):wpList Tryz.prog ops Q (o::rest) a (W.alloc (.cells zs 37)):=
 wpList_store_new hgd _ x y ho (refC r).toArray zs hx hy (by rw [List.size_toArray];exact sizedRef hr) (hz.trans (by simp [refC_len hr])) (Array.all_eq_true_iff_forall_mem.2 fun u hu=>refC_one r u (by simpa using hu)) h
abbrev Refs (w:World) (v:Value) (l:List RefL):Prop:=SliceAt w 33 refC v l
/-- What lies there while a ref is looked at. -/
structure FineC (w:World) (g gs os cap:Nat) (l:List RefL) (r:RefL) (w':World):Prop where
 blk:Blk w' g 37 (refC r).toArray
 at_ : ∀ i x,l[i]?=some x→w'.rangeAt gs (os+i*33) (refC x)
 gs_:gs<w'.heap.size
 bel:Below w.heap.size w w'
theorem range_blkRef {w:World} {g:Nat} {r:RefL} (h:Blk w g 37 (refC r).toArray):w.rangeAt g 0 (refC r):=by
 have:=range_blk h
 rwa [List.toList_toArray] at this
theorem FineC.id_ {w:World} {g gs os cap:Nat} {l:List RefL} {r:RefL} {w':World} (h:FineC w g gs os cap l r w'):w'.rangeAt g 1 (u8s r.id).toList:=range_id (range_blkRef h.blk)
theorem FineC.name_ {w:World} {g gs os cap:Nat} {l:List RefL} {r:RefL} {w':World} (h:FineC w g gs os cap l r w'):w'.cell? ⟨g,0,none⟩=some (.string (B r.name)):=range_name (range_blkRef h.blk)
theorem FineC.drew {w:World} {g gs os cap:Nat} {l:List RefL} {r:RefL} {w':World} (h:FineC w g gs os cap l r w'):FineC w g gs os cap l r w'.drew:=⟨h.blk,h.at_,h.gs_,h.bel.drew⟩
theorem FineC.below {w:World} {g gs os cap:Nat} {l:List RefL} {r:RefL} {w' w'':World} (h:FineC w g gs os cap l r w') (hb:Below w'.heap.size w' w''):FineC w g gs os cap l r w'':=
 ⟨h.blk.below hb h.blk.lt,fun i x hx=>rangeAt_below (h.at_ i x hx) h.gs_ hb,Nat.lt_of_lt_of_le h.gs_ hb.size,bthen h.bel h.bel.size hb⟩
theorem keepF {w:World} {g gs os cap:Nat} {l:List RefL} {r:RefL} {f:FuncId} {args:Array Value} {v:Value} {w0:World}
 (h:Calls Tryz.prog f args w0 fun e w'=>e = .returned v∧Below w0.heap.size w0 w') (hS:FineC w g gs os cap l r w0) :
 Calls Tryz.prog f args w0 fun e w'=>e = .returned v∧FineC w g gs os cap l r w':=
 h.mono fun _ _ ⟨he,hb⟩=>⟨he,hS.below hb⟩
theorem calls_same {P:Program} {f:FuncId} {args:Array Value} {v:Value} {w0:World} (h:Calls P f args w0 fun e w'=>e = .returned v∧w0=w'):Calls P f args w0 fun e w'=>e = .returned v∧Below w0.heap.size w0 w':=
 h.mono fun _ _ ⟨he,hw⟩=>⟨he,hw▸Below.refl _ _⟩
end Go.Proofs.YtfdfoplmijmnaaaGreatDoor
namespace Go.Proofs.YtfdfoplmijmnaaaGreatDoor
open Go.RowKit
set_option maxRecDepth 100000 in
set_option maxHeartbeats 1000000 in
theorem fine_calls (l:List RefL) (hok:RefsOk l) (v:Value) (w:World) (hv:Refs w v l) :
 Calls Tryz.prog 31 #[v] w fun e w'=>e = .returned (.bool (fineL l))∧Below w.heap.size w w':=by
 have hlen:=hv.len
 obtain ⟨A,cap,rfl,hcap1,hcap2,hat⟩:=hv
 go_enter Tryz.func31,Tryz.ntmps31
 go_wp2
 go_loopw [7] (fun i wr => ∃ k:Nat,i = .int .i64 k∧k≤l.length∧Hid ((List.range k).all (fineAt l)=true)∧Below w.heap.size w wr) (fun i _=>l.length-(intOf i).toNat)
 case atStart=>exact ⟨0,rfl,by omega,rfl,Below.refl _ _⟩
 case round=>
  obtain ⟨k,rfl,hk,hall,hbel⟩:=hrel
  by_cases hlt:k<l.length
  ·have hki:(k:Int)<(l.length:Int):=by omega
   obtain ⟨gs,os,rfl,hgs,hcell⟩:=hat (by omega)
   obtain ⟨x,hx⟩ : ∃ x,l[k]?=some x:=⟨_,List.getElem?_eq_getElem hlt⟩
   have hxok:RefOk x:=hok x (List.mem_of_getElem? hx)
   have hx0:=rangeAt_below (hcell k x hx) hgs hbel
   have hxh:=Lib.hid hx
   clear hx
   have hsz:=hbel.size
   go_wp2_with (first
    | (refine wpList_load_mid rfl 37 (.tmp 10) rfl gs (os+k*33) rfl (refC x) _ hx0 Tryz.underlying37 rfl (sizedRef hxok) ?_)
    | (refine wpList_store_newRef rfl (.tmp 4) (.tmp 11) rfl x hxok _ rfl rfl rfl ?_;intro W1 hb1 hbl1))
   obtain ⟨g,hg⟩ : ∃ g,wr.heap.size=g:=⟨_,rfl⟩
   have hS:FineC w g gs os cap l x W1:=by
    have h1:=bthen hbel hsz hbl1
    exact ⟨hg▸hb1,fun i y hy=>rangeAt_below (hcell i y hy) hgs h1,Nat.lt_of_lt_of_le hgs h1.size,h1⟩
   rw [hg]
   clear hb1 hbl1 hx0 hg hbel hat hcell
   have hid:(Tryz.prog.info? 35).map (·.size)=some (u8s x.id).toList.length:=by rw [Array.length_toList,u8s_size,hxok.1];exact sz32
   have hnm:=fun W=>r09name_calls x.name hxok.2 W
   have hno:=fun W=>none_calls x.id hxok.1 W
   cases bn:nameOk x.name
   ·rw [bn] at hnm
    have hbad:=Lib.hid (fineL_bad hlt (fineAt_name hxh.out bn))
    clear bn
    refine wp_region_class (C:=FineC w g gs os cap l x) (by kernel_rfl) (by kernel_rfl) hS.drew ?_
    repeat
     first
      | ((with_reducible refine wpQuiet_ex ?_ ?_)
         ·(go_simp;done)
         apply Exists.intro
         refine ⟨fun W hW=>?_,?_⟩
         ·first
           | exact quiet_load_mid _ _ rfl g 1 rfl (u8s x.id).toList _ hW.id_ Tryz.underlying35 rfl hid rfl
           | (have f1:=hW.name_
              go_simp
              first
               | rfl
               | (go_at_call 51;with_reducible exact keepF (calls_same (hnm _)) hW)
               | (go_at_call 52;with_reducible exact keepF (hno _) hW))
         simp only [Act.put,List.setIfInBounds_toArray,List.set_cons_zero,List.set_cons_succ])
      | ((with_reducible refine wpQuiet_pass ?_ ?_)
         ·(first | rfl | (go_simp;done))
         simp only [Act.put,List.setIfInBounds_toArray,List.set_cons_zero,List.set_cons_succ])
    with_reducible refine wpQuiet_nil ?_
    intro w5 hW5
    go_wp2
    go_ret
    exact ⟨by rw [hbad.out];rfl,hW5.bel⟩
   ·rw [bn] at hnm
    have bnh:=Lib.hid bn
    clear bn
    cases bz:isNone x.id
    ·rw [bz] at hno
     have bzh:=Lib.hid bz
     clear bz
     rcases Nat.eq_zero_or_pos k with h0 | h0
     ·have hst:=Lib.hid (fine_step hall.out (fineAt_of hxh.out bnh.out bzh.out (fun h=>absurd h (by omega))))
      have hk0 : ¬ (0:Int)<(k:Int):=by omega
      have hk0d:decide ((0:Int)<(k:Int))=false:=by simpa using h0
      have hk0n:decide (0<k)=false:=by simp [h0]
      clear h0
      refine wp_region_class (C:=FineC w g gs os cap l x) (by kernel_rfl) (by kernel_rfl) hS.drew ?_
      repeat
       first
        | ((with_reducible refine wpQuiet_ex ?_ ?_)
           ·(go_simp;done)
           apply Exists.intro
           refine ⟨fun W hW=>?_,?_⟩
           ·first
             | exact quiet_load_mid _ _ rfl g 1 rfl (u8s x.id).toList _ hW.id_ Tryz.underlying35 rfl hid rfl
             | (have f1:=hW.name_
                go_simp
                first
                 | rfl
                 | (go_at_call 51;with_reducible exact keepF (calls_same (hnm _)) hW)
                 | (go_at_call 52;with_reducible exact keepF (hno _) hW))
           simp only [Act.put,List.setIfInBounds_toArray,List.set_cons_zero,List.set_cons_succ])
        | ((with_reducible refine wpQuiet_pass ?_ ?_)
           ·(first | rfl | (go_simp;done))
           simp only [Act.put,List.setIfInBounds_toArray,List.set_cons_zero,List.set_cons_succ])
      with_reducible refine wpQuiet_nil ?_
      intro w5 hW5
      clear hk0 hk0d hk0n
      go_wp2
      go_roundw
      case rel=>exact ⟨k+1,by go_num,by omega,hst,hW5.bel⟩
      case measure=>simp [intOf];omega
     ·obtain ⟨q,hq⟩ : ∃ q,l[k-1]?=some q:=⟨_,List.getElem?_eq_getElem (show k-1<l.length by omega)⟩
      have hqh:=Lib.hid hq
      clear hq
      have hk0:(0:Int)<(k:Int):=by omega
      obtain ⟨u,s1,hu⟩ : ∃ u:Nat,IntKind.i64.wrap ((k:Int)-1)=(u:Int)∧u=k-1:=⟨k-1,by rw [IntWalk.i64_in _ (by omega)];omega,rfl⟩
      have s3:(u:Int)<(l.length:Int):=by omega
      have s4:u<l.length:=by omega
      have hqu:Hid (l[u]?=some q):=by show _=_;rw [hu];exact hqh.out
      clear hu
      cases bl:Op.bytesLess q.name x.name
      ·have hbad:=Lib.hid (fineL_bad hlt (fineAt_less hxh.out h0 hqh.out bl))
       refine wp_region_class (C:=FineC w g gs os cap l x) (by kernel_rfl) (by kernel_rfl) hS.drew ?_
       repeat
        first
         | ((with_reducible refine wpQuiet_ex ?_ ?_)
            ·(go_simp;done)
            apply Exists.intro
            refine ⟨fun W hW=>?_,?_⟩
            ·first
              | exact quiet_load_mid _ _ rfl g 1 rfl (u8s x.id).toList _ hW.id_ Tryz.underlying35 rfl hid rfl
              | (have f1:=hW.name_
                 have f2:W.cell? ⟨gs,os+u*33,none⟩=some (.string (B q.name)):=range_name (hW.at_ _ q hqu.out)
                 go_simp
                 first
                  | rfl
                  | (go_at_call 51;with_reducible exact keepF (calls_same (hnm _)) hW)
                  | (go_at_call 52;with_reducible exact keepF (hno _) hW))
            simp only [Act.put,List.setIfInBounds_toArray,List.set_cons_zero,List.set_cons_succ])
         | ((with_reducible refine wpQuiet_pass ?_ ?_)
            ·(first | rfl | (go_simp;done))
            simp only [Act.put,List.setIfInBounds_toArray,List.set_cons_zero,List.set_cons_succ])
       with_reducible refine wpQuiet_nil ?_
       intro w5 hW5
       go_wp2
       go_ret
       exact ⟨by rw [hbad.out];rfl,hW5.bel⟩
      ·have hst:=Lib.hid (fine_step hall.out (fineAt_of hxh.out bnh.out bzh.out (fun _=>⟨q,hqh.out,bl⟩)))
       refine wp_region_class (C:=FineC w g gs os cap l x) (by kernel_rfl) (by kernel_rfl) hS.drew ?_
       repeat
        first
         | ((with_reducible refine wpQuiet_ex ?_ ?_)
            ·(go_simp;done)
            apply Exists.intro
            refine ⟨fun W hW=>?_,?_⟩
            ·first
              | exact quiet_load_mid _ _ rfl g 1 rfl (u8s x.id).toList _ hW.id_ Tryz.underlying35 rfl hid rfl
              | (have f1:=hW.name_
                 have f2:W.cell? ⟨gs,os+u*33,none⟩=some (.string (B q.name)):=range_name (hW.at_ _ q hqu.out)
                 go_simp
                 first
                  | rfl
                  | (go_at_call 51;with_reducible exact keepF (calls_same (hnm _)) hW)
                  | (go_at_call 52;with_reducible exact keepF (hno _) hW))
            simp only [Act.put,List.setIfInBounds_toArray,List.set_cons_zero,List.set_cons_succ])
         | ((with_reducible refine wpQuiet_pass ?_ ?_)
            ·(first | rfl | (go_simp;done))
            simp only [Act.put,List.setIfInBounds_toArray,List.set_cons_zero,List.set_cons_succ])
       with_reducible refine wpQuiet_nil ?_
       intro w5 hW5
       clear s1 s3 s4 bl
       go_wp2
       go_roundw
       case rel=>exact ⟨k+1,by go_num,by omega,hst,hW5.bel⟩
       case measure=>simp [intOf];omega
    ·rw [bz] at hno
     have hbad:=Lib.hid (fineL_bad hlt (fineAt_none hxh.out bz))
     clear bz
     refine wp_region_class (C:=FineC w g gs os cap l x) (by kernel_rfl) (by kernel_rfl) hS.drew ?_
     repeat
      first
       | ((with_reducible refine wpQuiet_ex ?_ ?_)
          ·(go_simp;done)
          apply Exists.intro
          refine ⟨fun W hW=>?_,?_⟩
          ·first
            | exact quiet_load_mid _ _ rfl g 1 rfl (u8s x.id).toList _ hW.id_ Tryz.underlying35 rfl hid rfl
            | (have f1:=hW.name_
               go_simp
               first
                | rfl
                | (go_at_call 51;with_reducible exact keepF (calls_same (hnm _)) hW)
                | (go_at_call 52;with_reducible exact keepF (hno _) hW))
          simp only [Act.put,List.setIfInBounds_toArray,List.set_cons_zero,List.set_cons_succ])
       | ((with_reducible refine wpQuiet_pass ?_ ?_)
          ·(first | rfl | (go_simp;done))
          simp only [Act.put,List.setIfInBounds_toArray,List.set_cons_zero,List.set_cons_succ])
     with_reducible refine wpQuiet_nil ?_
     intro w5 hW5
     go_wp2
     go_ret
     exact ⟨by rw [hbad.out];rfl,hW5.bel⟩
  ·have hki : ¬ (k:Int)<(l.length:Int):=by omega
   have hf:Hid (fineL l=decide (l.length≤64)):=by
    have:=hall.out
    rw [show k=l.length from by omega] at this
    exact fineL_all this
   clear hall
   by_cases h64:l.length≤64
   ·have h64i:(l.length:Int)≤64:=by omega
    go_wp2
    go_ret
    exact ⟨by rw [hf.out];simp [h64],hbel⟩
   ·have h64i : ¬ (l.length:Int)≤64:=by omega
    go_wp2
    go_ret
    exact ⟨by rw [hf.out];simp [h64],hbel⟩
end Go.Proofs.YtfdfoplmijmnaaaGreatDoor
namespace Go.Proofs.YtfdfoplmijmnaaaGreatDoor
open Go.RowKit
attribute [local go_sem ↓] ldvI_eq
end Go.Proofs.YtfdfoplmijmnaaaGreatDoor
