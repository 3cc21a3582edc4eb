/- Texts of this claim, laid together: GraH, MkB, GraO, GraU, GraX, Kept, GidX, GidDf, AckA. -/
import Derived.Test.YtbcbmjdmlcldjaaGreatDoorMk
import Derived.Deep.RegionWith
import Derived.Below
import Derived.Lib.Hide
namespace Go.Proofs.YtbcbmjdmlcldjaaGreatDoor
open Go.RowKit
section
theorem method_row {name:String} {f:FuncId} {b:Bool} (h:(Tryz.prog.info? 158).map (fun i=>(i.methods.find? (·.name==name)).map fun m=>(m.path.size,m.func))=some (some (0,some (f,b)))) : ∃ i m,Tryz.prog.info? 158=some i∧i.methods.find? (·.name==name)=some m∧m.path = #[]∧m.func=some (f,b):=by
 obtain ⟨i,h1,h2⟩:=Option.map_eq_some_iff.1 h
 obtain ⟨m,h3,h4⟩:=Option.map_eq_some_iff.1 h2
 injection h4 with h5 h6
 exact ⟨i,m,h1,h3,Array.eq_empty_of_size_eq_zero h5,h6⟩
theorem zEm {name:String} {f:FuncId} (h0:(Tryz.prog.info? 158).map (fun i=>(i.methods.find? (·.name==name)).map fun m=>(m.path.size,m.func))=some (some (0,some (f,false)))) (n:Nat) {g:Nat} {v:Value} {w:World} (h:w.cell? ⟨g,1,none⟩=some v):(method (n+1) 158 (.pointer (some ⟨g,1,none⟩)) name).run Tryz.prog w = .ok (f,v) w:=by
 obtain ⟨i,m,h1,h2,h3,h4⟩:=method_row h0
 have hd:(Go.loadVar 119 ⟨g,1,none⟩).run Tryz.prog w = .ok v w:=by go_simp
 unfold method
 have hu:Tryz.prog.underlying 158=some (.pointer 119):=by kernel_rfl
 have hs : ∀ s1 s2:String,(Builtin.ssaWrapNilChk_ #[158] 158 #[.pointer (some ⟨g,1,none⟩),strVal s1,strVal s2]).run Tryz.prog w = .ok (.pointer (some ⟨g,1,none⟩)) w:=fun _ _=>rfl
 simp [typeInfo,h1,h2,h3,h4,follow,receiverAt,run_underlying hu,Place.get,asAddr,hs,hd]
section
variable (n:Nat) {g:Nat} {v:Value} {w:World} (h:w.cell? ⟨g,1,none⟩=some v)
include h
theorem method_len : (method (n+1) 158 (.pointer (some ⟨g,1,none⟩)) "Len").run Tryz.prog w = .ok (62,v) w:=zEm (by kernel_rfl) n h
theorem method_less : (method (n+1) 158 (.pointer (some ⟨g,1,none⟩)) "Less").run Tryz.prog w = .ok (185,v) w:=zEm (by kernel_rfl) n h
theorem zDv : (method (n+1) 158 (.pointer (some ⟨g,1,none⟩)) "Swap").run Tryz.prog w = .ok (186,v) w:=zEm (by kernel_rfl) n h
end
theorem method_push (n:Nat) (a:Addr) (w:World):(method (n+1) 158 (.pointer (some a)) "Push").run Tryz.prog w = .ok (189, .pointer (some a)) w:=by kernel_rfl
theorem zEk (n:Nat) (a:Addr) (w:World):(method (n+1) 158 (.pointer (some a)) "Pop").run Tryz.prog w = .ok (188, .pointer (some a)) w:=by kernel_rfl
section
variable {w w':World} {B g:Nat} {vs vq vn:Value} {Q:List DiL}
theorem WqAt.swap (h:WqAt w B g vs vq vn Q) {Q':List DiL} (hq:QAt w' B vq Q') (hf:Far [vq.ownBlock] w w'):WqAt w' B g vs vq vn Q':=
 ⟨hf.blk h.blk fun hm=>zAu h.q.own h.blk (by decide) (List.mem_singleton.1 hm),hq⟩
theorem QAt.mem (h:QAt w B vq Q) {i:Nat} (hi:i<Q.length):DitOk w (atQ Q i):=h.each _ (List.mem_of_getElem? (atQ_get hi))
end
set_option maxRecDepth 100000 in
set_option maxHeartbeats 4000000 in
theorem heapUp_calls {w:World} {B g:Nat} {vs vq vn:Value} {Q:List DiL} (h:WqAt w B g vs vq vn Q) (hbig:Q.length≤700000) (j:Nat) (hj:j<Q.length) (f:Nat) (hf:j<f) :
 Calls Tryz.prog 130 #[.iface 158 (.pointer (some ⟨g,1,none⟩)), .int .i64 j] w fun e w'=>e = .returned (.tuple #[])∧WqAt w' B g vs vq vn (upQ ltN f Q j)∧Far [vq.ownBlock] w w':=by
 obtain ⟨R,hR⟩ : ∃ R,upQ ltN f Q j=R:=⟨_,rfl⟩
 rw [hR]
 replace hR:=Lib.hid hR
 obtain ⟨N,hN⟩ : ∃ N,Q.length=N:=⟨_,rfl⟩
 rw [hN] at hbig hj
 go_enter Tryz.func130,Tryz.ntmps130
 go_wp2_with (fail)
 go_loopg [1] f (fun f vj wr => ∃ (j:Nat) (Q:List DiL),vj = .int .i64 j∧j<f∧j<N∧Hid (Q.length=N)∧WqAt wr B g vs vq vn Q∧Hid (upQ ltN f Q j=R)∧Far [vq.ownBlock] w wr)
 case atStart=>exact ⟨j,Q,rfl,hf,hj,Lib.hid hN,h,hR,Far.refl _ _⟩
 case round=>
  clear h hR hN hj hf
  obtain ⟨j,Q,rfl,hf,hj,hN,h,hR,hfar⟩:=hrel
  cases gk with
  | zero=>omega
  | succ f=>
    have hN':=hN.out
    by_cases h0:j=0
    ·subst h0
     have hRQ:Q=R:=by rw [←hR.out];unfold upQ;rw [if_pos (.inl rfl)]
     go_wp2_with (fail)
     go_end0
     exact ⟨rfl,hRQ▸h,hfar⟩
    ·have hw1:IntKind.i64.wrap ((j:Int)-1)=(j:Int)-1:=IntWalk.i64_in _ (by omega)
     have hw2:(((j:Int)-1).tdiv 2)=(par j:Int):=by rw [show (j:Int)-1=((j-1:Nat):Int) by omega];rfl
     have hpl:=par_lt (show 0<j by omega)
     have hpj:((par j:Int)==(j:Int))=false:=by simp;omega
     have ml:=fun n=>method_less n h.c1
     have hl:=Lib.hid (zCX h.q (atQ_get (show j<Q.length by omega)) (atQ_get (show par j<Q.length by omega)))
     have hst:par j≠j:=by omega
     have hno:ltN (atQ Q j) (atQ Q (par j))=false→Q=R:=fun e=>by rw [←hR.out];unfold upQ;rw [if_pos (.inr e)]
     have hyes:ltN (atQ Q j) (atQ Q (par j))=true→Hid (upQ ltN f (swapQ Q (par j) j) (par j)=R):=fun e=>Lib.hid (by
      have:=hR.out
      unfold upQ at this
      rwa [if_neg (fun h=>h.elim hst fun h=>by rw [e] at h;cases h)] at this)
     have hlen:Hid ((swapQ Q (par j) j).length=N):=Lib.hid (by rw [zA2];exact hN')
     have hsw:=fun W (hW:Below wr.heap.size wr W)=>Lib.hid (zB9 (h.below hW).q (show par j<Q.length by omega) (show j<Q.length by omega))
     generalize ltN (atQ Q j) (atQ Q (par j))=b at *
     generalize par j=pj at *
     clear hN' hR hst
     cases b with
     | false=>
       have hRQ:=hno rfl
       clear hyes hno hsw
       go_wp2_with (first
        | ((with_reducible refine hl.out.mono ?_);rintro e w2 ⟨rfl,hb2⟩))
       go_end0
       exact ⟨rfl,hRQ▸h.below hb2,hfar.more hb2⟩
     | true=>
       have hR2:=hyes rfl
       clear hyes hno
       go_wp2_with (first
        | ((with_reducible refine hl.out.mono ?_);rintro e w2 ⟨rfl,hb2⟩
           have h2:=h.below hb2
           have ms:=fun n=>zDv n h2.c1
           have hs2:=hsw w2 hb2)
        | ((with_reducible refine hs2.out.mono ?_);rintro e w3 ⟨rfl,hq3,hf3⟩))
       have h3:=h2.swap hq3 hf3
       have hfar3:=(hfar.more hb2).trans hf3
       clear hl hsw hs2 ml ms h2 hq3 h
       go_roundg f
       case rel=>exact ⟨pj,_,rfl,by omega,by omega,hlen,h3,hR2,hfar3⟩
       case measure=>omega
set_option maxRecDepth 100000 in
set_option maxHeartbeats 8000000 in
theorem heapDown_calls {w:World} {B g:Nat} {vs vq vn:Value} {Q:List DiL} (h:WqAt w B g vs vq vn Q) (hbig:Q.length≤700000) (n:Nat) (hn:n≤Q.length) (f:Nat) (hf:n≤f) :
 Calls Tryz.prog 131 #[.iface 158 (.pointer (some ⟨g,1,none⟩)), .int .i64 0, .int .i64 n] w fun e w'=>(∃ b,e = .returned (.bool b))∧WqAt w' B g vs vq vn (downQ ltN f Q 0 n)∧Far [vq.ownBlock] w w':=by
 obtain ⟨R,hR⟩ : ∃ R,downQ ltN f Q 0 n=R:=⟨_,rfl⟩
 rw [hR]
 replace hR:=Lib.hid hR
 obtain ⟨N,hN⟩ : ∃ N,Q.length=N:=⟨_,rfl⟩
 rw [hN] at hbig hn
 go_enter Tryz.func131,Tryz.ntmps131
 go_wp2_with (fail)
 go_loopg [7] f (fun f vi wr => ∃ (i:Nat) (Q:List DiL),vi = .int .i64 i∧n≤i+f∧i≤N∧Hid (Q.length=N)∧WqAt wr B g vs vq vn Q∧Hid (downQ ltN f Q i n=R)∧Far [vq.ownBlock] w wr)
 case atStart=>exact ⟨0,Q,rfl,by omega,by omega,Lib.hid hN,h,hR,Far.refl _ _⟩
 case round=>
  clear h hR hN hf
  obtain ⟨i,Q,rfl,hf,hi,hN,h,hR,hfar⟩:=hrel
  have hN':=hN.out
  obtain ⟨J1,hJ1⟩ : ∃ J1,2*i+1=J1:=⟨_,rfl⟩
  have hw1:IntKind.i64.wrap (2*(i:Int))=2*(i:Int):=IntWalk.i64_in _ (by omega)
  have hw2:IntKind.i64.wrap (2*(i:Int)+1)=(J1:Int):=by rw [IntWalk.i64_in _ (by omega)];omega
  by_cases hnJ:n≤J1
  ·have hRQ:Q=R:=by
    rw [←hR.out]
    cases gk with
    | zero=>rfl
    | succ f=>unfold downQ;rw [if_pos (.inl (by omega))]
   have hni:(n:Int)≤(J1:Int):=by omega
   clear hJ1
   go_wp2_with (fail)
   go_ret
   exact ⟨⟨_,rfl⟩,hRQ▸h,hfar⟩
  ·cases gk with
   | zero=>omega
   | succ f=>
     have hni : ¬ (n:Int)≤(J1:Int):=by omega
     have hnn : ¬ (J1:Int)<0:=by omega
     obtain ⟨J2,hJ2⟩ : ∃ J2,J1+1=J2:=⟨_,rfl⟩
     have hw3:IntKind.i64.wrap ((J1:Int)+1)=(J2:Int):=by rw [IntWalk.i64_in _ (by omega)];omega
     have hlen : ∀ k,Hid ((swapQ Q i k).length=N):=fun k=>Lib.hid (by rw [zA2];exact hN')
     have hno:ltN (atQ Q (minC ltN Q i n)) (atQ Q i)=false→Q=R:=fun e=>by rw [←hR.out];unfold downQ;rw [if_pos (.inr e)]
     have hyes:ltN (atQ Q (minC ltN Q i n)) (atQ Q i)=true→Hid (downQ ltN f (swapQ Q i (minC ltN Q i n)) (minC ltN Q i n) n=R):=fun e=>Lib.hid (by
      have:=hR.out
      unfold downQ at this
      rwa [if_neg (fun h=>h.elim (fun h=>by omega) fun h=>by rw [e] at h;cases h)] at this)
     have hmin:minC ltN Q i n=if J2<n∧ltN (atQ Q J2) (atQ Q J1)=true then J2 else J1:=by unfold minC;rw [hJ1,hJ2]
     have hles:=fun (a b:Nat) (ha:a<n) (hb:b<n) W (hW:Below wr.heap.size wr W)=>Lib.hid (zCX (h.below hW).q (atQ_get (show a<Q.length by omega)) (atQ_get (show b<Q.length by omega)))
     have hsw:=fun (a b:Nat) (ha:a<n) (hb:b<n) W (hW:Below wr.heap.size wr W)=>Lib.hid (zB9 (h.below hW).q (show a<Q.length by omega) (show b<Q.length by omega))
     have mls:=fun W (hW:Below wr.heap.size wr W) (k:Nat)=>method_less k (h.below hW).c1
     have mss:=fun W (hW:Below wr.heap.size wr W) (k:Nat)=>zDv k (h.below hW).c1
     have ml:=mls wr (Below.refl _ _)
     have hgt:i<J1∧i<J2∧J1<n:=by omega
     clear hJ1 hN' hR
     by_cases h2n:J2<n
     ·have h2i:(J2:Int)<(n:Int):=by omega
      have hl1:=hles J2 J1 h2n (by omega) wr (Below.refl _ _)
      cases hb1:ltN (atQ Q J2) (atQ Q J1) with
      | true=>
        rw [hb1] at hl1 hmin
        rw [if_pos ⟨h2n,rfl⟩] at hmin
        rw [hmin] at hno hyes
        have hmn:=h2n
        clear hmin hb1
        have hl2:=fun W (hW:Below wr.heap.size wr W)=>hles J2 i hmn (by omega) W hW
        have hsw2:=fun W (hW:Below wr.heap.size wr W)=>hsw i J2 (by omega) hmn W hW
        clear hles hsw
        generalize ltN (atQ Q J2) (atQ Q i)=b at *
        cases b with
        | false=>
          have hRQ:=hno rfl
          clear hyes hno hsw2
          go_wp2_with (first
           | ((with_reducible refine hl1.out.mono ?_);rintro e w2 ⟨rfl,hb2⟩
              have hl2':=hl2 w2 hb2
              have ml2:=mls w2 hb2)
           | ((with_reducible refine hl2'.out.mono ?_);rintro e w3 ⟨rfl,hb3⟩
              have b3:=bthen hb2 hb2.size hb3))
          go_ret
          exact ⟨⟨_,rfl⟩,hRQ▸h.below b3,hfar.more b3⟩
        | true=>
          have hR2:=hyes rfl
          clear hyes hno
          go_wp2_with (first
           | ((with_reducible refine hl1.out.mono ?_);rintro e w2 ⟨rfl,hb2⟩
              have hl2':=hl2 w2 hb2
              have ml2:=mls w2 hb2)
           | ((with_reducible refine hl2'.out.mono ?_);rintro e w3 ⟨rfl,hb3⟩
              have b3:=bthen hb2 hb2.size hb3
              have h3:=h.below b3
              have ms3:=mss w3 b3
              have hs3:=hsw2 w3 b3)
           | ((with_reducible refine hs3.out.mono ?_);rintro e w4 ⟨rfl,hq4,hf4⟩))
          have h4:=h3.swap hq4 hf4
          have hfar4:=(hfar.more b3).trans hf4
          have hlen4:=hlen J2
          clear hl2 hsw2 hs3 hl2' ml mls mss ms3 h3 hq4 h hlen
          go_roundg f
          case rel=>exact ⟨J2,_,rfl,by omega,by omega,hlen4,h4,hR2,hfar4⟩
          case measure=>omega
      | false=>
        rw [hb1] at hl1 hmin
        rw [if_neg (fun h=>by cases h.2)] at hmin
        rw [hmin] at hno hyes
        have hmn:=hgt.2.2
        clear hmin hb1
        have hl2:=fun W (hW:Below wr.heap.size wr W)=>hles J1 i hmn (by omega) W hW
        have hsw2:=fun W (hW:Below wr.heap.size wr W)=>hsw i J1 (by omega) hmn W hW
        clear hles hsw
        generalize ltN (atQ Q J1) (atQ Q i)=b at *
        cases b with
        | false=>
          have hRQ:=hno rfl
          clear hyes hno hsw2
          go_wp2_with (first
           | ((with_reducible refine hl1.out.mono ?_);rintro e w2 ⟨rfl,hb2⟩
              have hl2':=hl2 w2 hb2
              have ml2:=mls w2 hb2)
           | ((with_reducible refine hl2'.out.mono ?_);rintro e w3 ⟨rfl,hb3⟩
              have b3:=bthen hb2 hb2.size hb3))
          go_ret
          exact ⟨⟨_,rfl⟩,hRQ▸h.below b3,hfar.more b3⟩
        | true=>
          have hR2:=hyes rfl
          clear hyes hno
          go_wp2_with (first
           | ((with_reducible refine hl1.out.mono ?_);rintro e w2 ⟨rfl,hb2⟩
              have hl2':=hl2 w2 hb2
              have ml2:=mls w2 hb2)
           | ((with_reducible refine hl2'.out.mono ?_);rintro e w3 ⟨rfl,hb3⟩
              have b3:=bthen hb2 hb2.size hb3
              have h3:=h.below b3
              have ms3:=mss w3 b3
              have hs3:=hsw2 w3 b3)
           | ((with_reducible refine hs3.out.mono ?_);rintro e w4 ⟨rfl,hq4,hf4⟩))
          have h4:=h3.swap hq4 hf4
          have hfar4:=(hfar.more b3).trans hf4
          have hlen4:=hlen J1
          clear hl2 hsw2 hs3 hl2' ml mls mss ms3 h3 hq4 h hlen
          go_roundg f
          case rel=>exact ⟨J1,_,rfl,by omega,by omega,hlen4,h4,hR2,hfar4⟩
          case measure=>omega
     ·have h2i : ¬ (J2:Int)<(n:Int):=by omega
      rw [if_neg (fun h=>h2n h.1)] at hmin
      rw [hmin] at hno hyes
      have hmn:=hgt.2.2
      clear hmin
      have hl2:=fun W (hW:Below wr.heap.size wr W)=>hles J1 i hmn (by omega) W hW
      have hsw2:=fun W (hW:Below wr.heap.size wr W)=>hsw i J1 (by omega) hmn W hW
      clear hles hsw
      generalize ltN (atQ Q J1) (atQ Q i)=b at *
      cases b with
      | false=>
        have hRQ:=hno rfl
        clear hyes hno hsw2
        have hl2':=hl2 wr (Below.refl _ _)
        go_wp2_with (first
         | ((with_reducible refine hl2'.out.mono ?_);rintro e w3 ⟨rfl,hb3⟩
            have b3:=hb3))
        go_ret
        exact ⟨⟨_,rfl⟩,hRQ▸h.below b3,hfar.more b3⟩
      | true=>
        have hR2:=hyes rfl
        clear hyes hno
        have hl2':=hl2 wr (Below.refl _ _)
        go_wp2_with (first
         | ((with_reducible refine hl2'.out.mono ?_);rintro e w3 ⟨rfl,hb3⟩
            have b3:=hb3
            have h3:=h.below b3
            have ms3:=mss w3 b3
            have hs3:=hsw2 w3 b3)
         | ((with_reducible refine hs3.out.mono ?_);rintro e w4 ⟨rfl,hq4,hf4⟩))
        have h4:=h3.swap hq4 hf4
        have hfar4:=(hfar.more b3).trans hf4
        have hlen4:=hlen J1
        clear hl2 hsw2 hs3 hl2' ml mls mss ms3 h3 hq4 h hlen
        go_roundg f
        case rel=>exact ⟨J1,_,rfl,by omega,by omega,hlen4,h4,hR2,hfar4⟩
        case measure=>omega
set_option maxRecDepth 100000 in
set_option maxHeartbeats 4000000 in
theorem heapPush_calls {w:World} {B g:Nat} {vs vq vn:Value} {Q:List DiL} (h:WqAt w B g vs vq vn Q) (hB:B≤w.heap.size) (hbig:Q.length≤600000) {e0:DiL} (he:DitOk w e0) :
 Calls Tryz.prog 93 #[.iface 158 (.pointer (some ⟨g,1,none⟩)), .iface 126 (.agg (ndC e0).toArray)] w fun e w'=>e = .returned (.tuple #[]) ∧ ∃ vq',WqAt w' B g vs vq' vn (upQ ltN (Q.length+1) (Q++[e0]) Q.length)∧Far [some g,vq.ownBlock] w w'∧Newer w vq vq':=by
 have hp:=Lib.hid (queuePush_calls h hB hbig he)
 have hlen:(Q++[e0]).length=Q.length+1:=by rw [List.length_append];rfl
 have hgl:=h.blk.lt
 have hol : ∀ k,vq.ownBlock=some k→k<w.heap.size:=fun k hk=>(World.ownsRow.lt h.q.own k hk).2
 have mp:=fun n=>method_push n ⟨g,1,none⟩ w
 obtain ⟨M,hM⟩ : ∃ M,Q.length=M:=⟨_,rfl⟩
 rw [hM] at hbig hlen ⊢
 have hw1:IntKind.i64.wrap (((M+1:Nat):Int)-1)=(M:Int):=by rw [IntWalk.i64_in _ (by omega)];omega
 obtain ⟨Q1,hQ1⟩ : ∃ Q1,Q++[e0]=Q1:=⟨_,rfl⟩
 rw [hQ1] at hp hlen ⊢
 clear he hQ1 hM
 go_enter Tryz.func93,Tryz.ntmps93
 go_wp2_with (first
  | ((with_reducible refine hp.out.mono ?_);rintro e w2 ⟨rfl,vq2,h2,hf2,hn2⟩
     have ml:=fun n=>method_len n h2.c1
     obtain ⟨A2,c2,rfl⟩:=zAl h2.q.own
     have hln:=Lib.hid (zCh A2 (M+1) c2 w2)
     rw [hlen] at h2 ml hn2
     have hup:=Lib.hid (heapUp_calls h2 (by omega) M (by omega) (M+1) (by omega)))
  | ((with_reducible refine hln.out.mono ?_);rintro e w3 ⟨rfl,rfl⟩)
  | ((with_reducible refine hup.out.mono ?_);rintro e w4 ⟨rfl,h4,hf4⟩))
 go_end0
 exact ⟨rfl,_,h4,hf2.then_ hf4 (fun k hk=>by
  rw [List.mem_singleton] at hk
  rcases hn2 with h1 | h1
  ·exact .inl (by rw [hk,h1];simp)
  ·exact .inr (h1 k hk.symm)),hn2⟩
set_option maxRecDepth 100000 in
set_option maxHeartbeats 4000000 in
theorem heapPop_calls {w:World} {B g:Nat} {vs vq vn:Value} {Q:List DiL} (h:WqAt w B g vs vq vn Q) (hbig:Q.length≤700000) {n:Nat} (hn:Q.length=n+1) (hq:HeapQ ltN Q Q.length) :
 Calls Tryz.prog 94 #[.iface 158 (.pointer (some ⟨g,1,none⟩))] w fun e w'=>(∃ v,e = .returned v) ∧ ∃ vq' Q',WqAt w' B g vs vq' vn Q'∧HeapQ ltN Q' Q'.length∧(Q'++[atQ Q 0]).Perm Q∧vq'.ownBlock=vq.ownBlock∧Far [some g,vq.ownBlock] w w':=by
 obtain ⟨p1,p2,p3,p4⟩:=heap_pop ltN_ord hn hq
 have hsl:(swapQ Q 0 n).length=n+1:=by rw [zA2,hn]
 have hsplit:downQ ltN (n+1) (swapQ Q 0 n) 0 n=(downQ ltN (n+1) (swapQ Q 0 n) 0 n).take n++[atQ Q 0]:=by
  have h1:(downQ ltN (n+1) (swapQ Q 0 n) 0 n).length=n+1:=p4
  have h2:=atQ_get (Q:=downQ ltN (n+1) (swapQ Q 0 n) 0 n) (i:=n) (by omega)
  have h3:=List.take_of_length_le (l:=downQ ltN (n+1) (swapQ Q 0 n) 0 n) (i:=n+1) (by omega)
  rw [List.take_add_one,h2,p2] at h3
  exact h3.symm
 obtain ⟨D,hD⟩ : ∃ D,(downQ ltN (n+1) (swapQ Q 0 n) 0 n).take n=D:=⟨_,rfl⟩
 have hDl:D.length=n:=by rw [←hD,List.length_take,p4];omega
 rw [hD] at hsplit
 have hheap:HeapQ ltN D D.length:=by
  rw [hDl]
  intro c h0 h1
  have:=p1 c h0 h1
  have hc : ∀ k,k<n→atQ (downQ ltN (n+1) (swapQ Q 0 n) 0 n) k=atQ D k:=fun k hk=>by
   rw [hsplit]
   unfold atQ
   simp only [List.getD_eq_getElem?_getD]
   rw [List.getElem?_append_left (by omega)]
  have hpc:=par_lt h0
  rwa [hc c h1,hc (par c) (by omega)] at this
 rw [hsplit] at p3
 have hw1:IntKind.i64.wrap (((n+1:Nat):Int)-1)=(n:Int):=by rw [IntWalk.i64_in _ (by omega)];omega
 have ml:=fun k=>method_len k h.c1
 have ms:=fun k=>zDv k h.c1
 have hsw0:=zB9 h.q (show 0<Q.length by omega) (show n<Q.length by omega)
 rw [show ((0:Nat):Int)=0 from rfl] at hsw0
 have hsw:=Lib.hid hsw0
 clear hsw0
 have hdn:=fun W (h2:WqAt W B g vs vq vn (swapQ Q 0 n))=>Lib.hid (heapDown_calls h2 (by omega) n (by omega) (n+1) (by omega))
 obtain ⟨r0,hr0⟩ : ∃ r,atQ Q 0=r:=⟨_,rfl⟩
 rw [hr0] at hsplit p3 ⊢
 simp only [hsplit] at hdn
 have hpp:=fun W vq' (h4:WqAt W B g vs vq' vn (D++[r0]))=>Lib.hid (queuePop_calls h4)
 have hgm : ∀ W,zEk 0 ⟨g,1,none⟩ W=zEk 0 ⟨g,1,none⟩ W:=fun _=>rfl
 clear hgm p1 p2 p4 hsplit hD hr0 hsl
 obtain ⟨A1,c1,hA1⟩:=zAl h.q.own
 rw [hn] at hA1
 have hln:=Lib.hid (zCh A1 (n+1) c1 w)
 go_enter Tryz.func94,Tryz.ntmps94
 subst hA1
 go_wp2_with (first
  | ((with_reducible refine hln.out.mono ?_);rintro e w2 ⟨rfl,rfl⟩)
  | ((with_reducible refine hsw.out.mono ?_);rintro e w3 ⟨rfl,hq3,hf3⟩
     have h3:=h.swap hq3 hf3
     have hdn3:=hdn _ h3)
  | ((with_reducible refine hdn3.out.mono ?_);rintro e w4 ⟨⟨b,rfl⟩,h4,hf4⟩
     have hpp4:=hpp _ _ h4
     have mp:=fun k=>zEk k ⟨g,1,none⟩ w4)
  | ((with_reducible refine hpp4.out.mono ?_);rintro e w5 ⟨rfl,vq5,h5,hv5,hf5⟩))
 go_ret
 refine ⟨⟨_,rfl⟩,vq5,D,h5,hheap,p3,hv5,?_⟩
 have hf34:=hf3.trans hf4
 exact (hf34.mono fun k hk=>List.mem_cons_of_mem _ hk).then_ hf5 fun k hk => .inl (by rw [List.mem_singleton] at hk;rw [hk];exact List.mem_cons_self)
end
theorem len32 {x:List UInt8} (h:x.length=32) : ∃ f:Fin 32→UInt8,x=List.ofFn f:=
 ⟨fun i=>x[i.1]'(by omega),by
  apply List.ext_getElem
  ·rw [List.length_ofFn,h]
  ·intro i h1 h2
   rw [List.getElem_ofFn]⟩
set_option maxRecDepth 100000 in
theorem built_commit (x:Txt) (hx:x.length=32) (n:Nat) (t:Txt):Tryz.prog.built 68 [(0, .int .i64 3),(3, .agg (u8s x)),(5, .int .u32 n),(6, .string (B t))]=some (objC ⟨3,[],[],x,[],n,t,noId,0,[]⟩ (.slice none 0 0) (.slice none 0 0)).toArray:=by
 obtain ⟨f,rfl⟩:=len32 hx
 kernel_rfl
set_option maxRecDepth 100000 in
theorem built_tag (x:Txt) (hx:x.length=32) (k:Int) (t:Txt):Tryz.prog.built 68 [(0, .int .i64 4),(7, .agg (u8s x)),(8, .int .i64 k),(9, .string (B t))]=some (objC ⟨4,[],[],noId,[],0,[],x,k,t⟩ (.slice none 0 0) (.slice none 0 0)).toArray:=by
 obtain ⟨f,rfl⟩:=len32 hx
 kernel_rfl
theorem built_blob (t:Txt):Tryz.prog.built 68 [(0, .int .i64 1),(1, .string (B t))]=some (objC ⟨1,t,[],noId,[],0,[],noId,0,[]⟩ (.slice none 0 0) (.slice none 0 0)).toArray:=by kernel_rfl
section
theorem ltN_irr (e:DiL):ltN e e=false:=by
 unfold ltN aheadL
 rw [if_pos rfl]
 exact zBH _
section
variable {S:List StL} {Q:List DiL} {seen out:List Txt}
theorem root_best (hq:HeapQ ltN Q Q.length) (hp:(Q.map fun e=>e.st.id).Perm (leftW seen out)) (ho : ∀ e∈Q,objS S e.st.id=some e.o) (h0:0<Q.length):bestT S seen out=some (atQ Q 0).st.id:=by
 have ht : ∀ e∈Q,timeS S e.st.id=e.o.time:=fun e he=>by unfold timeS;rw [ho e he]
 have hm0:atQ Q 0∈Q:=List.mem_of_getElem? (atQ_get h0)
 refine best_one (hp.mem_iff.1 (List.mem_map.2 ⟨_,hm0,rfl⟩)) fun m hm=>?_
 obtain ⟨e,he,rfl⟩:=List.mem_map.1 (hp.mem_iff.2 hm)
 obtain ⟨c,hc,rfl⟩:=List.getElem_of_mem he
 have h1:=heap_root ltN_ord hq (ltN_irr _) (c+1) c (by omega) hc
 have e1:atQ Q c=Q[c]:=by unfold atQ;rw [List.getD_eq_getElem?_getD,List.getElem?_eq_getElem hc];rfl
 rw [e1] at h1
 unfold aheadS
 rw [ht _ he,ht _ hm0]
 exact h1
theorem left_told (n:Txt):leftW seen (out++[n])=(leftW seen out).filter fun x => !decide (x=n):=by
 unfold leftW
 rw [List.filter_filter]
 congr 1
 funext x
 unfold inL
 rw [List.any_append]
 simp only [List.any_cons,List.any_nil,Bool.or_false]
 by_cases h:n=x
 ·simp [h]
 ·have h' : ¬ x=n:=fun e=>h e.symm
  simp [h,h']
theorem perm_told {L M:List Txt} {n:Txt} (h:(M++[n]).Perm L) (hn:L.Nodup):M.Perm (L.filter fun x => !decide (x=n)):=by
 have h1:=h.filter fun x => !decide (x=n)
 have h2:=(h.nodup_iff).2 hn
 have h3:n ∉ M:=fun hm=>by
  have:=(List.nodup_append.1 h2).2.2 n hm n (List.mem_singleton.2 rfl)
  exact this rfl
 have h4:(M++[n]).filter (fun x => !decide (x=n))=M:=by
  rw [List.filter_append,List.filter_eq_self.2 fun x hx=>by simp;intro e;exact h3 (e▸hx)]
  simp
 rw [h4] at h1
 exact h1
theorem left_seen {n:Txt} (h:n ∉ out):leftW (seen++[n]) out=leftW seen out++[n]:=by
 unfold leftW
 rw [List.filter_append]
 congr 1
 cases hi:inL out n with
 | true=>exact absurd (inL_iff.1 hi) h
 | false=>simp [hi]
end
structure WalkAt (S:List StL) (w:World) (B g:Nat) (vs vq vn:Value) (Q:List DiL) (seen out:List Txt):Prop where
 q:WqAt w B g vs vq vn Q
 sn:OwnIds w B vn (sortU seen)
 ok : ∀ x∈seen,x.length=32
 heap:HeapQ ltN Q Q.length
 perm:(Q.map fun e=>e.st.id).Perm (leftW seen out)
 obj : ∀ e∈Q,objS S e.st.id=some e.o
 wi:WalkI S seen out
section
variable {S:List StL} {w w':World} {B g:Nat} {vs vq vn:Value} {Q:List DiL} {seen out:List Txt}
theorem WalkAt.below (h:WalkAt S w B g vs vq vn Q seen out) (hb:Below w.heap.size w w'):WalkAt S w' B g vs vq vn Q seen out:=⟨h.q.below hb,zAd h.sn hb,h.ok,h.heap,h.perm,h.obj,h.wi⟩
theorem WalkAt.len (h:WalkAt S w B g vs vq vn Q seen out):Q.length≤S.length:=by
 have h1:=h.perm.length_eq
 rw [List.length_map] at h1
 have h2:(leftW seen out).length≤seen.length:=List.length_filter_le _ _
 have:=h.wi.len.1
 omega
theorem WqAt.setRow (h:WqAt w B g vs vq vn Q) {k:Nat} {T:TypeId} {c0:Array Value} (hk:Blk w k T c0) (h1:k≠g) (h2:vq.ownBlock≠some k) (h3:138≠T) (h4:53≠T) (cs:Array Value):WqAt (w.setRow k cs) B g vs vq vn Q:=
 ⟨zDB h.blk (fun e=>h1 e.symm) cs,zBS h.q.own fun j hj=>setRow_other _ _ _ _ fun e=>h2 (e▸hj),fun e he=>(h.q.each e he).same (fun j hj=>setRow_other _ _ _ _ fun e'=>zAu (h.q.each e he).oe hk h3 (by rw [hj,e'])) fun j hj=>setRow_other _ _ _ _ fun e'=>zAu (h.q.each e he).op hk h4 (by rw [hj,e'])⟩
end
theorem built_node {w:World} (e:DiL) (he:DitOk w e):Tryz.prog.built 126 [(0, .agg (u8s e.st.id)),(1, .agg (objC e.o e.ve e.vp).toArray)]=some (ndC e).toArray:=by
 obtain ⟨⟨id,tx⟩,⟨kind,data,ents,tree,pars,time,text,target,of_,name⟩,ve,vp⟩:=e
 have h1:id.length=32:=he.id
 have h2:tree.length=32:=he.ok.tree
 have h3:target.length=32:=he.ok.target
 clear he
 obtain ⟨f1,rfl⟩:=len32 h1
 obtain ⟨f2,rfl⟩:=len32 h2
 obtain ⟨f3,rfl⟩:=len32 h3
 clear h1 h2 h3
 show Tryz.prog.built 126 [(0, .agg (u8s (List.ofFn f1))),(1, .agg (objC ⟨kind,data,ents,List.ofFn f2,pars,time,text,List.ofFn f3,of_,name⟩ ve vp).toArray)]=some (((u8s (List.ofFn f1)).toList++objC ⟨kind,data,ents,List.ofFn f2,pars,time,text,List.ofFn f3,of_,name⟩ ve vp).toArray)
 kernel_rfl
section
attribute [local go_sem ↓] ldvN_eq
set_option maxRecDepth 100000 in
set_option maxHeartbeats 4000000 in
theorem walkNext_calls {w:World} {B g:Nat} {vs vq vn:Value} {Q:List DiL} (h:WqAt w B g vs vq vn Q) (hbig:Q.length≤700000) (h0:0<Q.length) (hq:HeapQ ltN Q Q.length) :
 Calls Tryz.prog 63 #[.pointer (some ⟨g,0,none⟩)] w fun e w'=>e = .returned (.agg (ndC (atQ Q 0)).toArray) ∧ ∃ vq' Q',WqAt w' B g vs vq' vn Q'∧HeapQ ltN Q' Q'.length∧(Q'++[atQ Q 0]).Perm Q∧vq'.ownBlock=vq.ownBlock∧Far [some g,vq.ownBlock] w w':=by
 obtain ⟨n,hn⟩ : ∃ n,Q.length=n+1:=⟨Q.length-1,by omega⟩
 obtain ⟨W1,hW1⟩ : ∃ W1,w.alloc (.cells Tryz.zeroCells126 126)=W1:=⟨_,rfl⟩
 have z1:Blk W1 w.heap.size 126 Tryz.zeroCells126:=by rw [←hW1];exact Blk.new _ _ _
 have hzs:(Tryz.zeroCells126).size=104:=by kernel_rfl
 have b1:Below w.heap.size w W1:=by rw [←hW1];exact (Below.refl _ _).alloc (Nat.le_refl _) _
 have h1:=h.below b1
 have c1:=h1.c1
 have hx:=atQ_get h0
 have hxm:=h.q.each _ (List.mem_of_getElem? hx)
 have hxl:=ndC_len hxm
 have hxo:=ndC_one hxm
 have hat:=h1.q.at_
 have hol : ∀ k,vq.ownBlock=some k→k<w.heap.size:=fun k hk=>(World.ownsRow.lt h.q.own k hk).2
 have hgl:=h.blk.lt
 have hpo:=fun W (hW:Below W1.heap.size W1 W)=>Lib.hid (heapPop_calls (h1.below hW) hbig hn hq)
 obtain ⟨r,hr⟩ : ∃ r,atQ Q 0=r:=⟨_,rfl⟩
 rw [hr] at hx hxl hxo ⊢
 simp only [hr] at hpo
 obtain ⟨X,hX⟩ : ∃ X,(ndC r).toArray=X:=⟨_,rfl⟩
 have hX104:X.size=104:=by rw [←hX,List.size_toArray,hxl]
 have hX1:X.all (·.oneCell')=true:=by rw [←hX];exact all_oneCell_toArray hxo
 obtain ⟨A,cap,rfl,hcap1,hcap2,hatc⟩:=hat
 obtain ⟨gr,o,rfl,hgr,hc⟩:=hatc h0
 have lx:=zCA (hc 0 _ hx) hxl
 rw [Nat.zero_mul,Nat.add_zero] at lx
 rw [hX] at lx ⊢
 have hszX:(Tryz.prog.info? 126).map (·.size)=some X.size:=by rw [hX104];exact szNd
 have hzX:(Tryz.zeroCells126).size=X.size:=hzs.trans hX104.symm
 have h0i:(0:Int)<(Q.length:Int):=by omega
 have hlt1:w.heap.size<W1.heap.size:=z1.lt
 have hnot : ∀ k,w.heap.size≤k→some k ∉ [some g,(Value.slice (some ⟨gr,o,none⟩) Q.length cap).ownBlock]:=fun k hk hm=>by
  rcases List.mem_cons.1 hm with h | h
  ·injection h with h;omega
  ·have:=hol _ (List.mem_singleton.1 h).symm;omega
 have hnot1:=hnot W1.heap.size b1.size
 have hnot0:=hnot w.heap.size (Nat.le_refl _)
 clear hatc hc hx hxm hxl hxo hX hr h1 hnot hn
 go_enter Tryz.func63,Tryz.ntmps63
 go_wp2_with (first
  | ((with_reducible refine lit_new 126 (.tmp 3) (.tmp 9) X 104 szNd hX104 hX1 _ ?_ ?_ ?_ ?_)
     ·first | exact hX104 | kernel_rfl
     ·rfl
     ·rfl
     intro W2 hb2 hbl2
     have hpo2:=hpo W2 hbl2)
  | ((with_reducible refine hpo2.out.mono ?_);rintro e w3 ⟨⟨v,rfl⟩,vq3,Q3,h3,hh3,hp3,hv3,hf3⟩
     have hg3:some W1.heap.size ∉ [some g,(Value.slice (some ⟨gr,o,none⟩) Q.length cap).ownBlock]:=fun hm=>hnot1 hm
     have hz3:some w.heap.size ∉ [some g,(Value.slice (some ⟨gr,o,none⟩) Q.length cap).ownBlock]:=fun hm=>hnot0 hm
     have hb3:=hf3.blk hb2 hg3
     have ld3:=run_ldvN hb3 hX104
     have z3:=hf3.blk (z1.below hbl2 z1.lt) hz3)
  | (refine wpList_store_row rfl 126 (.tmp 2) (.tmp 15) rfl w.heap.size X rfl rfl _ _ z3 hszX hzX hX1 ?_))
 have hfar:Far [some g,(Value.slice (some ⟨gr,o,none⟩) Q.length cap).ownBlock] w (w3.setRow w.heap.size X):=((Far.of_below (bthen b1 b1.size hbl2)).trans hf3).row (.inr (Nat.le_refl _)) X
 have hfin:=h3.setRow z3 (by omega) (fun e=>by rw [hv3] at e;have:=hol _ e;omega) (by decide) (by decide) X
 refine bodyPost_ret (results_cell_row rfl _ _ w.heap.size _ _ _ _ rfl (setRow_heap _ _ _ _ _ _ z3) Tryz.underlying126 rfl hszX) rfl ⟨rfl,vq3,Q3,hfin,hh3,hp3,hv3,hfar⟩
end
end
section
def bldN (fs:Array (Nat×Value)):Sem Value:=Instr.build 126 fs
theorem bldN_eq (fs:Array (Nat×Value)):Instr.build 126 fs=bldN fs:=rfl
attribute [local go_sem ↓] ldvI_eq ldvO_eq bldN_eq
def objR (N:Nat) (x:StL) (o:ObjL) (v:Value) (F:Foot) (w:World):Prop := ∃ ve vp,v = .tuple #[.agg (objC o ve vp).toArray, .bool true]∧DitOk w ⟨x,o,ve,vp⟩∧(∀ k,vp.ownBlock=some k→N≤k)∧(∀ k,ve.ownBlock=some k→F k) ∧ ∀ k,vp.ownBlock=some k→F k
theorem objR_stab (N:Nat) (x:StL) (o:ObjL) (v:Value):Stab (objR N x o v):=fun _ _ _ _ hf ha ⟨ve,vp,h1,h2,h3,h4,h5⟩=>⟨ve,vp,h1,h2.same (fun k hk=>ha.same k (World.ownsRow.lt h2.oe k hk).2 (h4 k hk)) (fun k hk=>ha.same k (World.ownsRow.lt h2.op k hk).2 (h5 k hk)),h3,fun k hk=>hf k (h4 k hk),fun k hk=>hf k (h5 k hk)⟩
theorem sortU_snoc (l:List Txt) (x:Txt):sortU (l++[x])=insU (sortU l) x:=by unfold sortU;rw [List.foldl_append];rfl
theorem szObjZ : (Tryz.prog.info? 68).map (·.size)=some zObj.size:=by rw [zAF];exact szObj
structure WalkB (S:List StL) (w:World) (B g:Nat) (vs vq vn:Value) (Q:List DiL) (seen out:List Txt):Prop where
 at_:WalkAt S w B g vs vq vn Q seen out
 ap : ∀ e∈Q,Ap e.vp vn
section
variable {S:List StL} {w w':World} {B g:Nat} {vs vq vn:Value} {Q:List DiL} {seen out:List Txt}
theorem WalkB.below (h:WalkB S w B g vs vq vn Q seen out) (hb:Below w.heap.size w w'):WalkB S w' B g vs vq vn Q seen out:=⟨h.at_.below hb,h.ap⟩
theorem WalkB.setIn (h:WalkB S w B g vs vq vn Q seen out):SetIn w B g 2 122 #[vs,vq,vn] vn (sortU seen):=⟨h.at_.q.blk,rfl,h.at_.sn,fun x hx=>h.at_.ok x (((zBz seen).2 x).1 hx),(zBz seen).1⟩
theorem WalkB.set_ (h:WalkB S w B g vs vq vn Q seen out) {vn':Value} (hb:Blk w' g 122 #[vs,vq,vn']) (hf:Far [some g,vn.ownBlock] w w'):WqAt w' B g vs vq vn' Q:=by
 have hq : ∀ {e:DiL},e∈Q→DitOk w' e:=fun {e} he=>by
  have hd:=h.at_.q.q.each e he
  refine hd.far hf (fun k hk hm=>?_) (fun k hk hm=>?_)
  ·rcases List.mem_cons.1 hm with h1 | h1
   ·exact zAu hd.oe h.at_.q.blk (by decide) (h1.symm.trans hk.symm)
   ·exact own_ne hd.oe h.at_.sn (by decide) k hk (List.mem_singleton.1 h1).symm
  ·rcases List.mem_cons.1 hm with h1 | h1
   ·exact zAu hd.op h.at_.q.blk (by decide) (h1.symm.trans hk.symm)
   ·exact h.ap e he k hk (List.mem_singleton.1 h1).symm
 refine ⟨hb,hf.own h.at_.q.q.own (fun k hk hm=>?_),fun e he=>hq he⟩
 rcases List.mem_cons.1 hm with h1 | h1
 ·exact zAu h.at_.q.q.own h.at_.q.blk (by decide) (h1.symm.trans hk.symm)
 ·exact own_ne h.at_.q.q.own h.at_.sn (by decide) k hk (List.mem_singleton.1 h1).symm
end
def OfferR (S:List StL) (w:World) (B g:Nat) (vs vq vn:Value) (Q:List DiL) (seen' out:List Txt) (w':World):Prop := ∃ vq' vn' Q',WalkB S w' B g vs vq' vn' Q' seen' out∧(∀ e∈Q',e∈Q ∨ ∀ k,e.vp.ownBlock=some k→w.heap.size≤k)∧Far [some g,vq.ownBlock,vn.ownBlock] w w'∧Newer w vn vn'
section
variable {S:List StL} {w w5 w6 w7:World} {B g:Nat} {vs vq vn vn6 vq7:Value} {Q:List DiL} {seen out:List Txt} {n:Txt} {e0:DiL}
theorem Far.offer {T:List (Option Nat)} (hb:Below w.heap.size w w5) (hf:Far T w5 w6) (hT : ∀ k,some k∈T→some k∈[some g,vq.ownBlock,vn.ownBlock]):Far [some g,vq.ownBlock,vn.ownBlock] w w6:=(Far.of_below hb).trans (hf.mono hT)
theorem OfferR.old (h:WalkB S w B g vs vq vn Q seen out) (hb:Below w.heap.size w w5) (hs:SetIn w6 B g 2 122 #[vs,vq,vn6] vn6 (sortU seen)) (hf:Far [some g,vn.ownBlock] w5 w6) (hn:Newer w5 vn vn6):OfferR S w B g vs vq vn Q seen out w6:=by
 have h5:=h.below hb
 refine ⟨vq,vn6,Q,⟨⟨h5.set_ hs.blk hf,hs.own,h.at_.ok,h.at_.heap,h.at_.perm,h.at_.obj,h.at_.wi⟩,fun e he=>((h.ap e he).symm.newer hn fun k hk=>(World.ownsRow.lt (h5.at_.q.q.each e he).op k hk).2).symm⟩,fun e he => .inl he,Far.offer hb hf fun k hk=>?_,(Newer.refl w vn).then_ hn hb.size⟩
 rcases List.mem_cons.1 hk with h1 | h1
 ·rw [h1];exact List.mem_cons_self
 ·rw [List.mem_singleton.1 h1];simp
theorem OfferR.new (h:WalkB S w B g vs vq vn Q seen out) (hb:Below w.heap.size w w5) (hs:SetIn w6 B g 2 122 #[vs,vq,vn6] vn6 (insU (sortU seen) n)) (hf:Far [some g,vn.ownBlock] w5 w6) (hn:Newer w5 vn vn6)
 (hd5:DitOk w5 e0) (hid:e0.st.id=n) (hobj:objS S n=some e0.o) (hk:kindS S n=3) (hi:inL seen n=false) (hvp : ∀ k,e0.vp.ownBlock=some k→w.heap.size≤k) (h7:WqAt w7 B g vs vq7 vn6 (upQ ltN (Q.length+1) (Q++[e0]) Q.length)) (hf7:Far [some g,vq.ownBlock] w6 w7):OfferR S w B g vs vq vn Q (seen++[n]) out w7:=by
 have h5:=h.below hb
 obtain ⟨p1,p2⟩:=heap_push ltN_ord h.at_.heap e0
 have hlen:(upQ ltN (Q.length+1) (Q++[e0]) Q.length).length=Q.length+1:=by rw [upQ_len,List.length_append];rfl
 obtain ⟨U,hU⟩ : ∃ U,upQ ltN (Q.length+1) (Q++[e0]) Q.length=U:=⟨_,rfl⟩
 rw [hU] at p1 p2 hlen h7
 have hmem : ∀ e∈U,e∈Q∨e=e0:=fun e he=>by
  rcases List.mem_append.1 (p2.mem_iff.1 he) with h1 | h1
  ·exact .inl h1
  ·exact .inr (List.mem_singleton.1 h1)
 have hno:n ∉ out:=fun hm=>by
  rw [inL_iff.2 (h.at_.wi.sub n hm)] at hi
  cases hi
 have hsn:OwnIds w7 B vn6 (sortU (seen++[n])):=by
  rw [sortU_snoc]
  refine hf7.own hs.own fun k hk hm=>?_
  rcases List.mem_cons.1 hm with h1 | h1
  ·exact zAu hs.own hs.blk (by decide) (h1.symm.trans hk.symm)
  ·have hq6:=(h5.set_ hs.blk hf).q.own
   exact own_ne hs.own hq6 (by decide) k hk (List.mem_singleton.1 h1).symm
 have hvn : ∀ k,vn.ownBlock=some k→k<w.heap.size:=fun k hk=>(World.ownsRow.lt h.at_.sn k hk).2
 refine ⟨vq7,vn6,U,⟨⟨h7,hsn,fun x hx=>?_,by rw [hlen];exact p1,?_,fun e he=>?_,⟨zCw h.at_.wi.nd hi,fun x hx=>?_,fun x hx=>List.mem_append_left _ (h.at_.wi.sub x hx),h.at_.wi.ndo⟩⟩,fun e he=>?_⟩,fun e he=>?_,?_,(Newer.refl w vn).then_ hn hb.size⟩
 ·rcases List.mem_append.1 hx with h1 | h1
  ·exact h.at_.ok x h1
  ·rw [List.mem_singleton.1 h1,←hid];exact hd5.id
 ·rw [left_seen hno]
  have h1:=p2.map fun e=>e.st.id
  rw [List.map_append] at h1
  refine h1.trans ?_
  show (Q.map (fun e=>e.st.id)++[e0.st.id]).Perm _
  rw [hid]
  exact h.at_.perm.append_right _
 ·rcases hmem e he with h1 | rfl
  ·exact h.at_.obj e h1
  ·rw [hid];exact hobj
 ·rcases List.mem_append.1 hx with h1 | h1
  ·exact h.at_.wi.k3 x h1
  ·rw [List.mem_singleton.1 h1];exact hk
 ·rcases hmem e he with h1 | rfl
  ·exact ((h.ap e h1).symm.newer hn fun k hk=>(World.ownsRow.lt (h5.at_.q.q.each e h1).op k hk).2).symm
  ·have ha:Ap vn e.vp:=fun k hk hv=>by have:=hvp k hv;have:=hvn k hk;omega
   exact (ha.newer hn fun k hk=>(World.ownsRow.lt hd5.op k hk).2).symm
 ·rcases hmem e he with h1 | rfl
  ·exact .inl h1
  ·exact .inr hvp
 ·refine Far.trans (Far.offer hb hf fun k hk=>?_) (hf7.mono fun k hk=>?_)
  ·rcases List.mem_cons.1 hk with h1 | h1
   ·rw [h1];exact List.mem_cons_self
   ·rw [List.mem_singleton.1 h1];simp
  ·rcases List.mem_cons.1 hk with h1 | h1
   ·rw [h1];exact List.mem_cons_self
   ·rw [List.mem_singleton.1 h1];simp
end
set_option maxRecDepth 100000 in
set_option maxHeartbeats 8000000 in
theorem offer_calls {S:List StL} {w:World} {sb p B g:Nat} {vl vq vn:Value} {Q:List DiL} {seen out:List Txt} (hS:StoAt w sb p vl S) (h:WalkB S w B g (.pointer (some ⟨p,0,none⟩)) vq vn Q seen out) (hB:B≤w.heap.size) (n:Txt) (hn:n.length=32) :
 Calls Tryz.prog 60 #[.pointer (some ⟨g,0,none⟩), .agg (u8s n)] w fun e w'=>e = .returned (.tuple #[])∧OfferR S w B g (.pointer (some ⟨p,0,none⟩)) vq vn Q (offerS S seen n) out w':=by
 obtain ⟨W1,hW1,b1,n1,lid⟩:=boxId w n hn
 have hSl:S.length≤500000:=hS.ok.few
 have hgl:=h.at_.q.blk.lt
 have hc0 : ∀ W,Below W1.heap.size W1 W→W.cell? ⟨g,0,none⟩=some (.pointer (some ⟨p,0,none⟩)):=fun W hW=>(h.at_.q.blk.below (bthen b1 b1.size hW) hgl).cell 0
 have hob:=fun W (hW:Below W1.heap.size W1 W)=>zCL (hS.below (bthen b1 b1.size hW)) n hn
 have hzo:=zeroObj
 have hz72:=zAF
 have hzone:=zCG
 have hszZ:=szObjZ
 have hvnl : ∀ k,vn.ownBlock=some k→k<w.heap.size:=fun k hk=>(World.ownsRow.lt h.at_.sn k hk).2
 have hlen:=h.at_.len
 have hsl:=h.at_.wi.len
 have hSok:=hS.ok
 have h10:=b1.size
 have hn1l:=n1.lt
 obtain ⟨vs,hvs⟩ : ∃ vs,Value.pointer (some ⟨p,0,none⟩)=vs:=⟨_,rfl⟩
 have hsame:offerS S seen n=seen → ∀ W,Below W1.heap.size W1 W→OfferR S w B g vs vq vn Q (offerS S seen n) out W:=fun he W hW=>by
  rw [he,←hvs]
  exact ⟨vq,vn,Q,h.below (bthen b1 b1.size hW),fun e he => .inl he,Far.of_below (bthen b1 b1.size hW),Newer.refl _ _⟩
 rw [show (fun e w'=>e=Ending.returned (Value.tuple #[])∧OfferR S w B g (.pointer (some ⟨p,0,none⟩)) vq vn Q (offerS S seen n) out w')=(fun e w'=>e=Ending.returned (Value.tuple #[])∧OfferR S w B g vs vq vn Q (offerS S seen n) out w') by rw [hvs]]
 cases hG:getS S n with
 | none=>
   have hobA:=fun W (hW:Below W1.heap.size W1 W)=>(show Calls Tryz.prog 90 #[.pointer (some ⟨p,0,none⟩), .agg (u8s n)] W fun e w'=>e = .returned (.tuple #[.agg zObj, .bool false])∧Below W.heap.size W w' from by
    have h:=hob W hW
    unfold ObjT at h
    rw [hG] at h
    exact h)
   have hoff:offerS S seen n=seen:=by unfold offerS kindS;rw [hG];simp
   have hfin:=hsame hoff
   clear hob hsame hS h hvs hoff
   obtain ⟨NC,hNC⟩ : ∃ NC,u8s n=NC:=⟨_,rfl⟩
   rw [hNC] at hW1 lid hobA ⊢
   clear hNC n1
   generalize zObj=ZO at *
   go_enter Tryz.func60,Tryz.ntmps60
   go_upto_region 1 with (fail)
   refine zAr 12 (by kernel_rfl) (by kernel_rfl) (by kernel_rfl) (by kernel_rfl) ?_
   simp only [exSp]
   iterate 12 apply Exists.intro
   repeat
    first
     | ((with_reducible apply lx0_ex)
        ·(go_simp;done)
        apply Exists.intro
        apply And.intro
        ·apply Eq.refl
        apply And.intro
        ·intro W hW hD
         have q0:=hc0 W hW
         have q1:=lid W hW
         have q2:=hobA W hW
         go_simp
         first
          | rfl
          | (with_reducible exact q2)
        simp only [Act.put,zA,zB,zC])
     | ((with_reducible apply zAJ)
        ·(first | rfl | (go_simp;done))
        ·apply Eq.refl
        simp only [Act.put,zA,zB,zC])
     | ((with_reducible apply lx_al 68 ZO hzo)
        ·apply Eq.refl
        intro v
        simp only [Act.put,zA,zB,zC])
     | ((with_reducible apply lx_st' 9 68 ZO hszZ (by kernel_rfl))
        ·exact rfl
        ·apply Eq.refl
        apply Exists.intro
        apply Exists.intro
        apply And.intro
        ·(go_simp;rfl)
        apply And.intro
        ·(go_simp;rfl)
        refine ⟨?_,fun W hW hD=>?_,?_⟩
        ·first | exact List.Mem.head _ | exact List.Mem.tail _ (List.Mem.head _) | exact List.Mem.tail _ (List.Mem.tail _ (List.Mem.head _)) | exact List.Mem.tail _ (List.Mem.tail _ (List.Mem.tail _ (List.Mem.head _)))
        ·exact ⟨ZO,rfl,rfl,hzone⟩)
   refine lx0_nil ?_ fun w5 hW5 hD5=>?_
   ·exact (by simp [stsOf])
   go_upto_region 2 with (fail)
   refine zAe (C:=fun W=>Below w5.heap.size w5 W) (by kernel_rfl) (by kernel_rfl) (Below.refl _ _).drew ?_
   repeat
    first
     | ((with_reducible refine zAm ?_ ?_)
        ·(go_simp;done)
        apply Exists.intro
        refine ⟨fun W hW=>?_,?_⟩
        ·first
          | (go_simp
             rfl)
        simp only [Act.put,zA,zB,zC])
     | ((with_reducible refine zAj ?_ ?_)
        ·(first | rfl | (go_simp;done))
        simp only [Act.put,zA,zB,zC])
   with_reducible refine wpQuiet_nil ?_
   intro w6 hW6
   go_wp2_with (fail)
   go_end0
   exact ⟨rfl,hfin _ (bthen hW5 hW5.size hW6)⟩
 | some x=>
   obtain ⟨o0,ho0⟩:=(hSok.each x (getS_id hG).1).2
   have hxid:=(getS_id hG).2
   have hobj:objS S n=some o0:=zCM hG ho0
   have hkd:kindS S n=o0.kind:=by unfold kindS;rw [hG];simp only;rw [ho0]
   have hobB:=fun W (hW:Below W1.heap.size W1 W)=>(show Calls Tryz.prog 90 #[.pointer (some ⟨p,0,none⟩), .agg (u8s n)] W fun e w'=>(∃ ve vp,e = .returned (.tuple #[.agg (objC o0 ve vp).toArray, .bool true])∧DitOk w' ⟨x,o0,ve,vp⟩∧(∀ k,ve.ownBlock=some k→W.heap.size≤k) ∧ ∀ k,vp.ownBlock=some k→W.heap.size≤k)∧Below W.heap.size W w' from (hob W hW).mono fun e w' ⟨q1,q2⟩=>by
    unfold ObjT at q1
    rw [hG] at q1
    obtain ⟨o,A1,A2,k1,k2,d1,rfl,d3,d4,d5⟩:=q1
    rw [ho0] at d1
    injection d1 with d1
    subst d1
    exact ⟨⟨_,_,rfl,⟨ho0,by rw [hxid];exact hn,d3.ok,zAx d4 (Nat.zero_le _),zAx d5 (Nat.zero_le _)⟩,fun k hk=>(World.ownsRow.lt d4 k hk).1,fun k hk=>(World.ownsRow.lt d5 k hk).1⟩,q2⟩)
   have hNE:x.id=n:=hxid
   have hNn:n.length=32:=hn
   have n1':=n1
   obtain ⟨NC,hNC⟩ : ∃ NC,u8s n=NC:=⟨_,rfl⟩
   rw [hNC] at hW1 lid hobB n1' ⊢
   clear hob hG ho0 hS n1
   replace hvs:=Lib.hid hvs
   generalize zObj=ZO at *
   go_enter Tryz.func60,Tryz.ntmps60
   go_upto_region 1 with (fail)
   refine zAr 12 (by kernel_rfl) (by kernel_rfl) (by kernel_rfl) (by kernel_rfl) ?_
   simp only [exSp]
   iterate 12 apply Exists.intro
   repeat
    first
     | ((with_reducible apply lx0_ex)
        ·(go_simp;done)
        apply Exists.intro
        apply And.intro
        ·apply Eq.refl
        apply And.intro
        ·intro W hW hD
         have q0:=hc0 W hW
         have q1:=lid W hW
         go_simp
         rfl
        simp only [Act.put,zA,zB,zC])
     | ((with_reducible apply zAJ)
        ·(first | rfl | (go_simp;done))
        ·apply Eq.refl
        simp only [Act.put,zA,zB,zC])
     | ((with_reducible refine lx0_new (objR W1.heap.size x o0) rfl ?_ (objR_stab _ _ _) ?_ ?_)
        ·(go_simp;done)
        ·intro W hW hD
         unfold doesAt Oper.wp execOp
         have q0:=hobB W hW
         go_simp
         (with_reducible refine q0.mono ?_)
         rintro e w' ⟨⟨ve,vp,rfl,hd,he1,he2⟩,hb⟩
         exact ⟨hb,fun F f1 f2 f3=>⟨ve,vp,rfl,hd,fun k hk=>Nat.le_trans hW.size (he2 k hk),fun k hk=>f3 k (he1 k hk) (World.ownsRow.lt hd.oe k hk).2,fun k hk=>f3 k (he2 k hk) (World.ownsRow.lt hd.op k hk).2⟩⟩
        intro v
        simp only [Act.put,zA,zB,zC])
     | ((with_reducible apply zDL)
        ·apply Eq.refl
        apply Exists.intro
        apply And.intro
        ·(go_simp;rfl)
        refine ⟨fun W hW hD=>?_,?_⟩
        ·obtain ⟨F,ve,vp,rfl,_⟩:=hD.at 0 rfl (by kernel_rfl)
         exact ⟨_,rfl,by simp⟩
        simp only [Act.put,zA,zB,zC])
     | (first | (with_reducible apply zBc) | (with_reducible apply zAK)
        ·apply Eq.refl
        apply Exists.intro
        apply And.intro
        ·(go_simp;rfl)
        simp only [Act.put,zA,zB,zC])
     | ((with_reducible apply lx_al 68 ZO hzo)
        ·apply Eq.refl
        intro v
        simp only [Act.put,zA,zB,zC])
     | ((with_reducible apply lx_st' 9 68 ZO hszZ (by kernel_rfl))
        ·exact rfl
        ·apply Eq.refl
        apply Exists.intro
        apply Exists.intro
        apply And.intro
        ·(go_simp;rfl)
        apply And.intro
        ·(go_simp;rfl)
        refine ⟨?_,fun W hW hD=>?_,?_⟩
        ·first | exact List.Mem.head _ | exact List.Mem.tail _ (List.Mem.head _) | exact List.Mem.tail _ (List.Mem.tail _ (List.Mem.head _)) | exact List.Mem.tail _ (List.Mem.tail _ (List.Mem.tail _ (List.Mem.head _)))
        ·obtain ⟨F,ve,vp,rfl,hd,_⟩:=hD.at 1 rfl (by kernel_rfl)
         obtain ⟨A1,A2,k1,k2,e1,e2⟩:=hd.forms
         exact ⟨_,rfl,by rw [List.size_toArray,zAy hd.ok,hz72],by rw [show ve=_ from e1,show vp=_ from e2];exact zAv _ _ _ _ _ _ _⟩)
   refine lx0_nil ?_ fun w5 hW5 hD5=>?_
   ·exact (by simp [stsOf])
   obtain ⟨_,ve,vp,rfl,hd5,hvp5, -, -⟩:=hD5 _ (.tail _ (.tail _ (.head _)))
   obtain ⟨_,g4,cs4,rfl,hcs4,hg4,_,hb4⟩:=hD5 _ (.head _)
   obtain rfl:(objC o0 ve vp).toArray=cs4:=by injection hcs4
   simp only [extr2_0,extr2_1]
   have b5:=bthen b1 b1.size hW5
   have hOC72:(objC o0 ve vp).toArray.size=72:=by rw [List.size_toArray,zAy hd5.ok]
   have hk0 : ∀ W,Below w5.heap.size w5 W→W.cell? ⟨g4,0,none⟩=some (.int .i64 o0.kind):=fun W hW=>by rw [(hb4.below hW hb4.lt).cell];rfl
   have hbn:=fun (hd:DitOk w5 ⟨x,o0,ve,vp⟩)=>built_node _ hd
   simp only [hxid] at hbn
   clear hcs4 hD5 hobB hc0 hzo hzone hszZ hz72
   by_cases hk:o0.kind=3
   ·have hkb:(o0.kind==3)=true:=by simp [hk]
    rw [hk] at hkd
    cases hi:inL seen n with
    | true=>
      have hoff:offerS S seen n=seen:=by unfold offerS;rw [hi];simp
      have hins:insU (sortU seen) n=sortU seen:=insU_in (zBz seen).1 (by rw [zDA];exact hi)
      have hadd:=zCk (h.below b5.drew).setIn (by decide) (Nat.le_trans hB b5.size) (by have:=zCQ seen;omega) n hn
      rw [zDA,hi,hins,hNC] at hadd
      have hadd:=Lib.hid hadd
      have hkd0:=hk0 w5.drew (Below.refl _ _).drew
      have lid5:=lid w5.drew hW5.drew
      have Hoff:=Lib.hid hoff
      clear hk0 lid hins hoff hsame hbn
      go_upto_region 2 with (fail)
      go_region_with (first
       | (go_at_call 92;go_must (refine hadd.out.mono ?_);rintro e w6 ⟨rfl,vn6,hs6,hf6,hn6⟩))
      all_goals
       go_wp2_with (fail)
       go_end0
       refine ⟨rfl,?_⟩
       rw [Hoff.out,←hvs.out]
       exact OfferR.old h b5.drew hs6 hf6 hn6
    | false=>
      have Hoff:Hid (offerS S seen n=seen++[n]):=Lib.hid (by unfold offerS;rw [hi,hkd];rfl)
      have hadd:=zCk (h.below b5.drew).setIn (by decide) (Nat.le_trans hB b5.size) (by have:=zCQ seen;omega) n hn
      rw [zDA,hi,hNC] at hadd
      have hadd:=Lib.hid hadd
      have hkd0:=hk0 w5.drew (Below.refl _ _).drew
      have lid5:=lid w5.drew hW5.drew
      have hg4':W1.heap.size≤g4:=hg4
      have hpush:=fun W vn6 (hq:WqAt W B g (.pointer (some ⟨p,0,none⟩)) vq vn6 Q) (hBW:B≤W.heap.size) (hd:DitOk W ⟨x,o0,ve,vp⟩)=>Lib.hid (heapPush_calls hq hBW (by omega) hd)
      have hnd:=hbn hd5
      have hrb : ∀ W,(bldN #[(0, .agg (u8s n)),(1, .agg (objC o0 ve vp).toArray)]).run Tryz.prog W = .ok (.agg (ndC (⟨x,o0,ve,vp⟩:DiL)).toArray) W:=fun W=>run_build (P:=Tryz.prog) W _ _ _ hnd
      have hb4d:Blk w5.drew g4 68 (objC o0 ve vp).toArray:=hb4
      have n5d:=n1'.below hW5.drew n1'.lt
      have hset:=(h.below b5.drew)
      have hdd:DitOk w5.drew ⟨x,o0,ve,vp⟩:=hd5.below (Below.refl _ _).drew
      have hnotin : ∀ k,w.heap.size≤k→some k ∉ [some g,vn.ownBlock]:=fun k hk hm=>by
       rcases List.mem_cons.1 hm with h | h
       ·injection h with h;omega
       ·have:=hvnl k (List.mem_singleton.1 h).symm;omega
      clear hk0 lid hsame hbn
      go_upto_region 2 with (fail)
      go_cut [27] from 15 (fun s27 wx=>s27 = .bool true ∧ ∃ vn6,SetIn wx B g 2 122 #[.pointer (some ⟨p,0,none⟩),vq,vn6] vn6 (insU (sortU seen) n)∧Far [some g,vn.ownBlock] w5.drew wx∧Newer w5.drew vn vn6)
      case first=>
       go_region_with (first
        | (go_at_call 92;go_must (refine hadd.out.mono ?_);rintro e w6 ⟨rfl,vn6,hs6,hf6,hn6⟩))
       all_goals
        go_wp2_with (fail)
        go_meet
        case rel=>exact ⟨rfl,vn6,hs6,hf6,hn6⟩
      case rest=>
       rename World=>w6
       obtain ⟨rfl,vn6,hs6,hf6,hn6⟩:=hcut
       have hb6:=hf6.blk hb4d (hnotin g4 (by omega))
       have n6:=hf6.blk n5d (hnotin _ (Nat.le_refl _))
       have hd6:DitOk w6 ⟨x,o0,ve,vp⟩:=hdd.far hf6 (fun k hk hm=>by
        rcases List.mem_cons.1 hm with h1 | h1
        ·exact zAu hdd.oe hset.at_.q.blk (by decide) (h1.symm.trans hk.symm)
        ·exact own_ne hdd.oe hset.at_.sn (by decide) k hk (List.mem_singleton.1 h1).symm) (fun k hk=>hnotin k (Nat.le_trans h10 (hvp5 k hk)))
       have hq6:=hset.set_ hs6.blk hf6
       have hB6:B≤w6.drew.heap.size:=Nat.le_trans hB (Nat.le_trans b5.size hf6.size)
       have hp:=hpush w6.drew vn6 (hq6.below (Below.refl _ _).drew) hB6 (hd6.below (Below.refl _ _).drew)
       have lid6:(ldvI ⟨w.heap.size,0,none⟩).run Tryz.prog w6.drew = .ok (.agg NC) w6.drew:=by
        have h1:Blk w6.drew w.heap.size 53 (u8s n):=by rw [hNC];exact n6
        rw [←hNC]
        exact zAb (zAk h1) hNn
       have ldo6:(ldvO ⟨g4,0,none⟩).run Tryz.prog w6.drew = .ok (.agg (objC o0 ve vp).toArray) w6.drew:=run_loadVar_row w6.drew g4 _ _ _ _ _ hb6 Tryz.underlying68 rfl (by rw [hOC72];exact szObj)
       rw [hNC] at hrb
       have H1:=Lib.hid h
       have H2:=Lib.hid hs6
       have H3:=Lib.hid hdd
       generalize hOC:(objC o0 ve vp).toArray=OC at ldo6 hrb ⊢
       obtain ⟨NX,hNX⟩ : ∃ NX,(ndC (⟨x,o0,ve,vp⟩:DiL)).toArray=NX:=⟨_,rfl⟩
       rw [hNX] at hrb hp
       clear hOC hNX h hs6 hdd hd6 hq6 hset hpush hadd hkd0 lid5 n5d hb4d n6 hb6 hnd hd5 n1' hb4 hW5
       go_upto_region 3 with (fail)
       go_region_with (first
        | (go_at_call 93;go_must (refine hp.out.mono ?_);rintro e w7 ⟨rfl,vq7,h7,hf7,hn7⟩))
       all_goals
        go_wp2_with (fail)
        go_end0
        refine ⟨rfl,?_⟩
        rw [Hoff.out,←hvs.out]
        exact OfferR.new H1.out b5.drew H2.out hf6 hn6 H3.out hxid hobj hkd hi (fun k hk=>Nat.le_trans h10 (hvp5 k hk)) h7 (zBB hf7)
   ·have hkb:(o0.kind==3)=false:=by simp [hk]
    have hoff:offerS S seen n=seen:=by unfold offerS;rw [hkd];simp [hk]
    have hfin:=hsame hoff
    clear hsame hbn hoff
    go_upto_region 2 with (fail)
    refine zAe (C:=fun W=>Below w5.heap.size w5 W) (by kernel_rfl) (by kernel_rfl) (Below.refl _ _).drew ?_
    repeat
     first
      | ((with_reducible refine zAm ?_ ?_)
         ·(go_simp;done)
         apply Exists.intro
         refine ⟨fun W hW=>?_,?_⟩
         ·first
           | (have q0:=hk0 W hW
              go_simp
              rfl)
         simp only [Act.put,zA,zB,zC])
      | ((with_reducible refine zAj ?_ ?_)
         ·(first | rfl | (go_simp;done))
         simp only [Act.put,zA,zB,zC])
    with_reducible refine wpQuiet_nil ?_
    intro w6 hW6
    go_wp2_with (fail)
    go_end0
    exact ⟨rfl,hfin _ (bthen hW5 hW5.size hW6)⟩
end
section
attribute [local go_sem ↓] ldvI_eq ldvN_eq
structure WalkC (S:List StL) (w:World) (B g:Nat) (vs vq vn vo vE:Value) (Q:List DiL) (seen out ol ce:List Txt):Prop where
 b:WalkB S w B g vs vq vn Q seen out
 o:OwnIds w B vo ol
 e:OwnIds w B vE ce
 aoe:Ap vo vE
 aon:Ap vo vn
 aen:Ap vE vn
 ap : ∀ e∈Q,Ap e.vp vo∧Ap e.vp vE
section
variable {S:List StL} {w w':World} {B g:Nat} {vs vq vn vo vE:Value} {Q:List DiL} {seen out ol ce:List Txt}
theorem WalkI.told {n:Txt} (h:WalkI S seen out) (hn:n∈leftW seen out):WalkI S seen (out++[n]):=by
 have:=h.step (cut:=[n]) hn
 rwa [if_pos (by simp [inL])] at this
theorem WalkC.below (h:WalkC S w B g vs vq vn vo vE Q seen out ol ce) (hb:Below w.heap.size w w'):WalkC S w' B g vs vq vn vo vE Q seen out ol ce:=⟨h.b.below hb,zAd h.o hb,zAd h.e hb,h.aoe,h.aon,h.aen,h.ap⟩
theorem WalkB.keep (h:WalkB S w B g vs vq vn Q seen out) {v:Value} {l:List Txt} {C:Nat} (ho:OwnIds w C v l) (ha:Ap v vn) {T:List (Option Nat)} (hf:Far T w w') (hT : ∀ k,some k∈T→some k∈[some g,vq.ownBlock,vn.ownBlock]):OwnIds w' C v l:=
 hf.own ho fun k hk hm=>by
  rcases List.mem_cons.1 (hT k hm) with h1 | h1
  ·exact zAu ho h.at_.q.blk (by decide) (h1.symm.trans hk.symm)
  ·rcases List.mem_cons.1 h1 with h2 | h2
   ·exact own_ne ho h.at_.q.q.own (by decide) k hk h2.symm
   ·exact ha k hk (List.mem_singleton.1 h2).symm
theorem WalkC.offer (h:WalkC S w B g vs vq vn vo vE Q seen out ol ce) {seen':List Txt} (hr:OfferR S w B g vs vq vn Q seen' out w') : ∃ vq' vn' Q',WalkC S w' B g vs vq' vn' vo vE Q' seen' out ol ce∧Far [some g,vq.ownBlock,vn.ownBlock] w w'∧Newer w vn vn':=by
 obtain ⟨vq',vn',Q',hb,hQ,hf,hn⟩:=hr
 refine ⟨vq',vn',Q',⟨hb,h.b.keep h.o h.aon hf fun _ h=>h,h.b.keep h.e h.aen hf fun _ h=>h,h.aoe,(h.aon.symm.newer hn fun k hk=>(World.ownsRow.lt h.o k hk).2).symm,(h.aen.symm.newer hn fun k hk=>(World.ownsRow.lt h.e k hk).2).symm,fun e he=>?_⟩,hf,hn⟩
 rcases hQ e he with h1 | h1
 ·exact h.ap e h1
 ·exact ⟨fun k hk hv=>by have:=h1 k hk;have:=(World.ownsRow.lt h.o k hv).2;omega,fun k hk hv=>by have:=h1 k hk;have:=(World.ownsRow.lt h.e k hv).2;omega⟩
theorem WalkC.tell (h:WalkC S w B g vs vq vn vo vE Q seen out ol ce) {vo':Value} {ol':List Txt} (ho:OwnIds w' B vo' ol') (hg:w.grownBy w' vo.ownBlock) (hn:Newer w vo vo'):WalkC S w' B g vs vq vn vo' vE Q seen out ol' ce:=by
 have hf:=Far.of_grown hg
 have hbk:some g ∉ [vo.ownBlock]:=fun hm=>zAu h.o h.b.at_.q.blk (by decide) (List.mem_singleton.1 hm)
 have hid : ∀ {C:Nat} {v:Value} {l:List Txt},OwnIds w C v l→Ap v vo→OwnIds w' C v l:=fun ho ha=>hf.own ho fun k hk hm=>ha k hk (List.mem_singleton.1 hm).symm
 refine ⟨⟨⟨⟨hf.blk h.b.at_.q.blk hbk,hf.own h.b.at_.q.q.own fun k hk hm=>own_ne h.b.at_.q.q.own h.o (by decide) k hk (List.mem_singleton.1 hm).symm,fun e he=>?_⟩,hid h.b.at_.sn h.aon.symm,h.b.at_.ok,h.b.at_.heap,h.b.at_.perm,h.b.at_.obj,h.b.at_.wi⟩,h.b.ap⟩,ho,hid h.e h.aoe.symm,h.aoe.newer hn fun k hk=>(World.ownsRow.lt h.e k hk).2,h.aon.newer hn fun k hk=>(World.ownsRow.lt h.b.at_.sn k hk).2,h.aen,fun e he=>⟨((h.ap e he).1.symm.newer hn fun k hk=>(World.ownsRow.lt (h.b.at_.q.q.each e he).op k hk).2).symm,(h.ap e he).2⟩⟩
 have hd:=h.b.at_.q.q.each e he
 exact hd.far hf (fun k hk hm=>own_ne hd.oe h.o (by decide) k hk (List.mem_singleton.1 hm).symm) fun k hk hm=>(h.ap e he).1 k hk (List.mem_singleton.1 hm).symm
theorem WalkB.far_below (h:WalkB S w B g vs vq vn Q seen out) (hB:B≤w.heap.size) (hg:B≤g) (hf:Far [some g,vq.ownBlock,vn.ownBlock] w w'):Below B w w':=hf.below hB fun k hk=>by
 rcases List.mem_cons.1 hk with h1 | h1
 ·injection h1 with h1;omega
 ·rcases List.mem_cons.1 h1 with h2 | h2
  ·exact (World.ownsRow.lt h.at_.q.q.own k h2.symm).1
  ·exact (World.ownsRow.lt h.at_.sn k (List.mem_singleton.1 h2).symm).1
theorem WalkC.next (h:WalkC S w B g vs vq vn vo vE Q seen out ol ce) {vq':Value} {Q':List DiL} {r:DiL} (hq:WqAt w' B g vs vq' vn Q') (hh:HeapQ ltN Q' Q'.length) (hp:(Q'++[r]).Perm Q) (hf:Far [some g,vq.ownBlock] w w'):WalkC S w' B g vs vq' vn vo vE Q' seen (out++[r.st.id]) ol ce∧DitOk w' r:=by
 have hmem : ∀ e∈Q',e∈Q:=fun e he=>hp.mem_iff.1 (List.mem_append_left _ he)
 have hr:r∈Q:=hp.mem_iff.1 (by simp)
 have hT : ∀ k,some k∈[some g,vq.ownBlock]→some k∈[some g,vq.ownBlock,vn.ownBlock]:=fun k hk=>by
  rcases List.mem_cons.1 hk with h1 | h1
  ·rw [h1];exact List.mem_cons_self
  ·rw [List.mem_singleton.1 h1];simp
 have hk : ∀ {C:Nat} {v:Value} {l:List Txt},OwnIds w C v l→OwnIds w' C v l:=fun {C v l} ho=>hf.own ho fun k hk hm=>by
  rcases List.mem_cons.1 hm with h1 | h1
  ·exact zAu ho h.b.at_.q.blk (by decide) (h1.symm.trans hk.symm)
  ·exact own_ne ho h.b.at_.q.q.own (by decide) k hk (List.mem_singleton.1 h1).symm
 have hrl:r.st.id∈leftW seen out:=h.b.at_.perm.mem_iff.1 (List.mem_map.2 ⟨r,hr,rfl⟩)
 have hm:=hp.map fun e=>e.st.id
 rw [List.map_append] at hm
 refine ⟨⟨⟨⟨hq,hk h.b.at_.sn,h.b.at_.ok,hh,?_,fun e he=>h.b.at_.obj e (hmem e he),h.b.at_.wi.told hrl⟩,fun e he=>h.b.ap e (hmem e he)⟩,hk h.o,hk h.e,h.aoe,h.aon,h.aen,fun e he=>h.ap e (hmem e he)⟩,?_⟩
 ·rw [left_told]
  exact perm_told (hm.trans h.b.at_.perm) (h.b.at_.wi.nd.filter _)
 ·obtain ⟨a1,a2⟩:=h.b.at_.q.apart (h.b.at_.q.q.each r hr)
  exact (h.b.at_.q.q.each r hr).far hf a1 a2
theorem heap_nil : HeapQ ltN ([]:List DiL) ([]:List DiL).length:=fun c h0 h1=>by simp at h1
end
theorem built_walker (p:Nat):Tryz.prog.built 122 [(0, .pointer (some ⟨p,0,none⟩))]=some #[.pointer (some ⟨p,0,none⟩), .slice none 0 0, .slice none 0 0]:=by kernel_rfl
set_option maxRecDepth 100000 in
set_option maxHeartbeats 16000000 in
theorem graWalk_calls {w:World} {sb p:Nat} {vl:Value} {S:List StL} (hS:StoAt w sb p vl S) (ini cut:List Txt) (hiok : ∀ x∈ini,x.length=32) (hcok : ∀ x∈cut,x.length=32) (hcl:cut.length≤800000) (vf vc:Value) (hvf:Ids w vf ini) (hvc:Ids w vc cut) :
 Calls Tryz.prog 37 #[.pointer (some ⟨p,0,none⟩),vf,vc] w fun e w' => ∃ v,e = .returned v∧OwnIds w' w.heap.size v (walkS S cut ini)∧Below w.heap.size w w':=by
 obtain ⟨R,hR⟩ : ∃ R,walkS S cut ini=R:=⟨_,rfl⟩
 rw [hR]
 replace hR:=Lib.hid hR
 have hSl:S.length≤500000:=hS.ok.few
 obtain ⟨W1,hW1⟩ : ∃ W1,w.alloc (.cells #[.pointer (some ⟨p,0,none⟩), .slice none 0 0, .slice none 0 0] 122)=W1:=⟨_,rfl⟩
 have s1:Blk W1 w.heap.size 122 #[.pointer (some ⟨p,0,none⟩), .slice none 0 0, .slice none 0 0]:=by rw [←hW1];exact Blk.new _ _ _
 have b1:Below w.heap.size w W1:=by rw [←hW1];exact (Below.refl _ _).alloc (Nat.le_refl _) _
 have hrb:=fun W=>run_build (P:=Tryz.prog) W _ #[(0, .pointer (some ⟨p,0,none⟩))] _ (built_walker p)
 have hw0:WalkB S W1 w.heap.size w.heap.size (.pointer (some ⟨p,0,none⟩)) (.slice none 0 0) (.slice none 0 0) [] [] []:=⟨⟨⟨s1,⟨World.ownsRow_nil _ _ _ _,fun e he=>by simp at he⟩⟩,World.ownsRow_nil _ _ _ _,fun x hx=>by simp at hx,heap_nil,List.Perm.refl _,fun e he=>by simp at he, .start []⟩,fun e he=>by simp at he⟩
 have hen:=fun W (hW:Below w.heap.size w W) (n:Txt) (hn:n.length=32)=>Lib.hid (zEE (hS.below hW) n hn)
 have hof:=fun W (hW:Below w.heap.size w W)=>Lib.hid (graOf_calls cut hcok (by omega) vc W (hvc.below hW))
 have hoff:=fun {g:Nat} {vq vn:Value} {Q:List DiL} {seen out:List Txt} W (hW:Below w.heap.size w W) (h:WalkB S W w.heap.size g (.pointer (some ⟨p,0,none⟩)) vq vn Q seen out) (n:Txt) (hn:n.length=32)=>Lib.hid (offer_calls (hS.below hW) h hW.size n hn)
 have hvf0:=hvf
 obtain ⟨Af,cf,rfl,hf1,hf2,hatf⟩:=hvf
 obtain ⟨Ac,cc,rfl,_⟩:=hvc
 clear s1 hS hvf0
 go_enter Tryz.func37,Tryz.ntmps37
 go_wp2_with (fail)
 try rw [hW1]
 go_loopg [25] ini.length (fun f vi wr => ∃ (k:Nat) (vq vn:Value) (Q:List DiL),vi = .int .i64 k∧k+f=ini.length∧WalkB S wr w.heap.size w.heap.size (.pointer (some ⟨p,0,none⟩)) vq vn Q (endsL S (ini.take k)) []∧Below w.heap.size w wr)
 case atStart=>exact ⟨0,_,_,[],rfl,by omega,hw0,b1⟩
 case round=>
  clear hw0 hW1 b1 hrb
  obtain ⟨k,vq,vn,Q,rfl,hkf,hw,hbel⟩:=hrel
  have hbs:=hbel.size
  cases gk with
  | succ f=>
    have hki:(k:Int)<(ini.length:Int):=by omega
    obtain ⟨gf,of_,rfl,hgf,hcf⟩:=hatf (by omega)
    obtain ⟨x,hx⟩ : ∃ x,ini[k]?=some x:=⟨_,List.getElem?_eq_getElem (by omega)⟩
    have hxi:=hiok x (List.mem_of_getElem? hx)
    have hlx:=zAb (show World.rangeAt wr gf (of_+k*32) (u8s x).toList from zAc (hcf k x hx) hgf hbel) hxi
    have hmore:Hid (endsL S (ini.take (k+1))=offerE S (endsL S (ini.take k)) x):=Lib.hid (endsL_more hx)
    have hx32:(u8s x).size=32:=by rw [zAh,hxi]
    have hx1:=u8s_one x
    have hld2 : ∀ W g,Blk W g 53 (u8s x)→(ldvI ⟨g,0,none⟩).run Tryz.prog W = .ok (.agg (u8s x)) W:=fun W g h=>zAb (zAk h) hxi
    clear hx hcf hatf
    unfold offerE at hmore
    cases hE:endS S (S.length+1) x with
    | none=>
      rw [hE] at hmore
      have hen2:Hid (∀ W,Below w.heap.size w W→Hid (Calls Tryz.prog 57 #[.pointer (some ⟨p,0,none⟩), .agg (u8s x)] W fun e w'=>e = .returned (.tuple #[.agg (u8s noId), .bool false])∧Below W.heap.size W w')):=Lib.hid fun W hW=>by
       have h:=hen W hW x hxi
       rw [hE] at h
       exact h
      have hZ32:(u8s noId).size=32:=by rw [zAh];rfl
      have hZ1:=u8s_one noId
      clear hE hen hoff hof
      generalize u8s noId=Z at *
      go_wp2_with (first
       | ((with_reducible refine lit_new 53 (.tmp 10) (.tmp 28) (u8s x) 32 sz32 hx32 hx1 _ ?_ ?_ ?_ ?_)
          ·first | rfl | kernel_rfl
          ·rfl
          ·rfl
          intro W2 hb2 hbl2
          have hl2:=hld2 W2 _ hb2
          have b2:=bthen hbel hbs hbl2
          have he2:=hen2.out W2 b2)
       | ((with_reducible refine he2.out.mono ?_);rintro e w3 ⟨rfl,hb3⟩)
       | ((with_reducible refine lit_new 53 (.tmp 11) (.tmp 33) Z 32 sz32 hZ32 hZ1 _ ?_ ?_ ?_ ?_)
          ·first | rfl | kernel_rfl
          ·rfl
          ·rfl
          intro W4 hb4 hbl4))
      have b24:=bthen hbl2 hbl2.size (bthen hb3 hb3.size hbl4)
      have hw4:=hw.below b24
      have b4:=bthen hbel hbs b24
      rw [←hmore.out] at hw4
      clear hl2 he2 hlx hen2
      go_roundg f
      case rel=>exact ⟨k+1,vq,vn,Q,by go_num,by omega,hw4,b4⟩
      case measure=>omega
    | some m=>
      rw [hE] at hmore
      have hmi:=endS_ok _ _ _ hxi hE
      have hen2:Hid (∀ W,Below w.heap.size w W→Hid (Calls Tryz.prog 57 #[.pointer (some ⟨p,0,none⟩), .agg (u8s x)] W fun e w'=>e = .returned (.tuple #[.agg (u8s m), .bool true])∧Below W.heap.size W w')):=Lib.hid fun W hW=>by
       have h:=hen W hW x hxi
       rw [hE] at h
       exact h
      have hm32:(u8s m).size=32:=by rw [zAh,hmi]
      have hm1:=u8s_one m
      have hlm : ∀ W g,Blk W g 53 (u8s m)→(ldvI ⟨g,0,none⟩).run Tryz.prog W = .ok (.agg (u8s m)) W:=fun W g h=>zAb (zAk h) hmi
      clear hE hen hof
      go_wp2_with (first
       | ((with_reducible refine lit_new 53 (.tmp 10) (.tmp 28) (u8s x) 32 sz32 hx32 hx1 _ ?_ ?_ ?_ ?_)
          ·first | rfl | kernel_rfl
          ·rfl
          ·rfl
          intro W2 hb2 hbl2
          have hl2:=hld2 W2 _ hb2
          have b2:=bthen hbel hbs hbl2
          have he2:=hen2.out W2 b2)
       | ((with_reducible refine he2.out.mono ?_);rintro e w3 ⟨rfl,hb3⟩)
       | ((with_reducible refine lit_new 53 (.tmp 11) (.tmp 33) (u8s m) 32 sz32 hm32 hm1 _ ?_ ?_ ?_ ?_)
          ·first | rfl | kernel_rfl
          ·rfl
          ·rfl
          intro W4 hb4 hbl4
          have hl4:=hlm W4 _ hb4
          have b24:=bthen hbl2 hbl2.size (bthen hb3 hb3.size hbl4)
          have hw4:=hw.below b24
          have b4:=bthen hbel hbs b24
          have ho4:=hoff W4 b4 hw4 m hmi)
       | ((with_reducible refine ho4.out.mono ?_);rintro e w5 ⟨rfl,vq5,vn5,Q5,hw5,_,hf5,_⟩))
      have b5:=b4.trans (hw4.far_below b4.size (Nat.le_refl _) hf5)
      rw [←hmore.out] at hw5
      clear hl2 he2 hlx hen2 hlm hl4 ho4 hoff hw hw4
      go_roundg f
      case rel=>exact ⟨k+1,vq5,vn5,Q5,by go_num,by omega,hw5,b5⟩
      case measure=>omega
  | zero=>
    have hki : ¬ (k:Int)<(ini.length:Int):=by omega
    have hke:ini.take k=ini:=List.take_of_length_le (by omega)
    rw [hke] at hw
    have hofr:=hof wr hbel
    clear hke hatf hof hen
    go_wp2_with (first
     | ((with_reducible refine hofr.out.mono ?_);rintro e w8 ⟨vE,rfl,hoE,hbE⟩))
    have b8:=bthen hbel hbs hbE
    have hC:WalkC S w8 w.heap.size w.heap.size (.pointer (some ⟨p,0,none⟩)) vq vn (.slice none 0 0) vE Q (endsL S ini) [] [] (sortU cut):=by
     refine ⟨hw.below hbE,World.ownsRow_nil _ _ _ _,zAx hoE hbs, .nil_l _ _ _, .nil_l _ _ _,fun k hk hv=>?_,fun e he=>⟨.nil_r _ _ _,fun k hk hv=>?_⟩⟩
     ·have:=(World.ownsRow.lt hoE k hk).1
      have:=(World.ownsRow.lt hw.at_.sn k hv).2
      omega
     ·have:=(World.ownsRow.lt hoE k hv).1
      have:=(World.ownsRow.lt (hw.at_.q.q.each e he).op k hk).2
      omega
    have hR0:Hid (walkW S cut (S.length+1) (endsL S ini) []=R):=hR
    have hEok : ∀ x∈sortU cut,x.length=32:=fun x hx=>hcok x (((zBz cut).2 x).1 hx)
    have hEr:=(zBz cut).1
    have hEl:=zCQ cut
    have hEin:=fun n=>zDA cut n
    generalize endsL S ini=seen0 at *
    clear hofr hoE hbE hw hR
    go_loopg [14] (S.length+1) (fun f vo wr => ∃ (vq vn:Value) (Q:List DiL) (seen out:List Txt),WalkC S wr w.heap.size w.heap.size (.pointer (some ⟨p,0,none⟩)) vq vn vo vE Q seen out out (sortU cut)∧f+out.length=S.length+1∧Hid (walkW S cut f seen out=R)∧Below w.heap.size w wr)
    case atStart=>exact ⟨vq,vn,Q,seen0,[],hC,rfl,hR0,b8⟩
    case round=>
     clear hC hR0 b8
     obtain ⟨vq,vn,Q,seen,out,hC,hfl,hR,hbel⟩:=hrel
     have hbs:=hbel.size
     have hlen:=hC.b.at_.len
     have hol:=hC.b.at_.wi.len.2
     have hc1:=hC.b.at_.q.c1
     obtain ⟨Aq,cq,rfl⟩:=zAl hC.b.at_.q.q.own
     obtain ⟨Ao,co,rfl⟩:=zAl hC.o
     have hqn:=Lib.hid (zCh Aq Q.length cq wr)
     by_cases hQ:Q.length=0
     ·have hQi : ¬ (0:Int)<(Q.length:Int):=by omega
      have hleft:leftW seen out=[]:=by
       have:=hC.b.at_.perm.length_eq
       rw [List.length_map] at this
       exact List.eq_nil_of_length_eq_zero (by omega)
      have hbn:bestT S seen out=none:=by unfold bestT;rw [hleft];rfl
      have hRo:out=R:=by rw [←hR.out];exact (walk_stop hbn).symm
      have hown:=hC.o
      have HRo:=Lib.hid hRo
      clear hC hR hoff hEin hleft hbn hRo hQ hlen hol hfl
      go_wp2_with (first
       | ((with_reducible refine hqn.out.mono ?_);rintro e w2 ⟨rfl,rfl⟩))
      go_ret
      refine ⟨_,rfl,?_,hbel⟩
      rw [←HRo.out]
      exact hown
     ·have hQi:(0:Int)<(Q.length:Int):=by omega
      cases gk with
      | zero=>omega
      | succ f=>
        have hbest:=root_best hC.b.at_.heap hC.b.at_.perm hC.b.at_.obj (show 0<Q.length by omega)
        have hstep:Hid (walkW S cut f (if inL cut (atQ Q 0).st.id=true then seen else offerL S seen (parS S (atQ Q 0).st.id)) (out++[(atQ Q 0).st.id])=R):=Lib.hid (by rw [←walkW_go hbest];exact hR.out)
        have hrQ:atQ Q 0∈Q:=List.mem_of_getElem? (atQ_get (by omega))
        have hobj:=hC.b.at_.obj _ hrQ
        have hrap:=hC.ap _ hrQ
        have hran:=hC.b.ap _ hrQ
        have hnx:=Lib.hid (walkNext_calls hC.b.at_.q (by omega) (show 0<Q.length by omega) hC.b.at_.heap)
        have hnext:=fun {w':World} {vq':Value} {Q':List DiL} (hq:WqAt w' w.heap.size w.heap.size (.pointer (some ⟨p,0,none⟩)) vq' vn Q') (hh:HeapQ ltN Q' Q'.length) (hp:(Q'++[atQ Q 0]).Perm Q) (hf:Far [some w.heap.size,(Value.slice Aq Q.length cq).ownBlock] wr w')=>hC.next hq hh hp hf
        have hfb:=fun {w':World} (hf:Far [some w.heap.size,(Value.slice Aq Q.length cq).ownBlock] wr w')=>(hf.below hbs fun k hk=>by
         rcases List.mem_cons.1 hk with h1 | h1
         ·injection h1 with h1;omega
         ·exact (World.ownsRow.lt hC.b.at_.q.q.own k (List.mem_singleton.1 h1).symm).1:Below w.heap.size wr w')
        have hd0:=hC.b.at_.q.q.each _ hrQ
        have hid32:=hd0.id
        have htree:=hd0.ok.tree
        have hndl:=ndC_len hd0
        have hndo:=ndC_one hd0
        have hparS:parS S (atQ Q 0).st.id=(atQ Q 0).o.pars:=by unfold parS;rw [hobj]
        rw [hparS] at hstep
        obtain ⟨r,hr⟩ : ∃ r,atQ Q 0=r:=⟨_,rfl⟩
        rw [hr] at hstep hobj hrap hran hd0 hid32 htree hndl hndo
        simp only [hr] at hnx hnext
        obtain ⟨X,hX⟩ : ∃ X,(ndC r).toArray=X:=⟨_,rfl⟩
        have hX104:X.size=104:=by rw [←hX,List.size_toArray,hndl]
        have hX1:X.all (·.oneCell')=true:=by rw [←hX];exact all_oneCell_toArray hndo
        have hXr : ∀ W g,Blk W g 126 X→W.rangeAt g 0 (ndC r):=fun W g h=>by
         have:=zAk h
         rwa [←hX,List.toList_toArray] at this
        have hown0:=hC.o
        have hgn4:=fun w3 (hf:Far [some w.heap.size,(Value.slice Aq Q.length cq).ownBlock] wr w3)=>(fun hm=>by
         have h1:=(World.ownsRow.lt hown0 _ (List.mem_singleton.1 hm).symm).2
         have h2:=hf.size
         omega:some w3.heap.size ∉ [(Value.slice Ao out.length co).ownBlock])
        have hi32:(u8s r.st.id).size=32:=by rw [zAh,hid32]
        have hi132:(u8s r.st.id).size=1*32:=hi32
        have hi1 : ∀ u∈(u8s r.st.id).toList,u.oneCell'=true:=idC_one r.st.id
        have hhs:=fun {W:World} (h:OwnIds W w.heap.size vE (sortU cut))=>Lib.hid (setHas_calls (sortU cut) hEok hEr (by omega) vE r.st.id hid32 W (SliceAt.of_own (fun e h=>idC_len (hEok e h)) h))
        rw [hEin r.st.id] at hhs
        have hAk:out.length+1≤9223372036854775807:=by omega
        have hAb:(out.length+1)*32≤140737488355328:=by omega
        have hfl2:=hfl
        have hlen2:Hid ((out++[r.st.id]).length=out.length+1):=Lib.hid (by rw [List.length_append];rfl)
        have hrow2:Hid (rowsOf idC (out++[r.st.id])=rowsOf idC out++(u8s r.st.id).toList):=Lib.hid (by rw [zAo,zAp];rfl)
        rw [hX] at hnx
        have hown5:=fun {W:World} {v:Value} (h:W.ownsRow w.heap.size 53 32 v (out.length+1) (rowsOf idC out++(u8s r.st.id).toList))=>(by unfold OwnIds;rw [hlen2.out,hrow2.out];exact h:OwnIds W w.heap.size v (out++[r.st.id]))
        have hgl:w.heap.size<wr.heap.size:=hC.b.at_.q.blk.lt
        have HX:=Lib.hid hX
        have HC:=Lib.hid hC
        clear hC hR hbest hrQ hparS hr hndl hndo hX hEin hQ
        go_wp2_with (first
         | ((with_reducible refine hqn.out.mono ?_);rintro e w2 ⟨rfl,rfl⟩)
         | ((with_reducible refine hnx.out.mono ?_);rintro e w3 ⟨rfl,vq3,Q3,hq3,hh3,hp3,hv3,hf3⟩
            have hC3:=hnext hq3 hh3 hp3 hf3
            have b3:=hfb hf3)
         | ((with_reducible refine lit_new 126 (.tmp 15) (.tmp 49) X 104 szNd hX104 hX1 _ ?_ ?_ ?_ ?_)
            ·first | exact hX104 | kernel_rfl
            ·rfl
            ·rfl
            intro W4 hb4 hbl4
            have li4:=zAb (nd_id (hXr W4 _ hb4)) hid32
            have hC4:=hC3.1.below hbl4
            have b4:=b3.trans (hbl4.mono (Nat.le_trans hbs b3.size))
            have hn4:=Nat.le_trans hbs b4.size
            have hown4:=hC4.o)
         | ((with_reducible refine zAq (.tmp 52) Tryz.idsTy (u8s r.st.id) hi32 (by omega) ?_ ?_);rfl)
         | ((with_reducible refine zAn (.tmp 50) (.tmp 53) 1 _ Tryz.idsTy hown4 (u8s r.st.id) hi132 hi1 hAk hAb hn4 ?_ ?_ ?_);rfl;rfl
            intro v5 w5 ho5 hb5 hg5 hn5
            have hb5n:=(Far.of_grown hg5).blk hb4 (hgn4 w3 hf3)
            have li5:=zAb (nd_id (hXr w5 _ hb5n)) hid32
            have hC5:=hC4.tell (hown5 ho5) hg5 hn5
            have hhas:=hhs hC5.e))
        have b5:=hbel.trans (b4.trans hb5)
        have hd4:=hC3.2.below hbl4
        have hd5:DitOk w5 r:=hd4.far (Far.of_grown hg5) (fun k hk hm=>own_ne hd4.oe hown4 (by decide) k hk (List.mem_singleton.1 hm).symm) (fun k hk hm=>hrap.1 k hk (List.mem_singleton.1 hm).symm)
        have h5s:w.heap.size≤w5.heap.size:=b5.size
        clear hC3 hC4 hd4 hb4 hbl4 li4 hown4 ho5 hg5 hn5 hgn4 hhs hown5 hqn hnx hnext hfb hd0 HC hfl b4 hb5 hc1 hown0
        obtain ⟨bE,hbE⟩ : ∃ b,inL cut r.st.id=b:=⟨_,rfl⟩
        rw [hbE] at hhas hstep
        clear hbE
        cases bE with
        | true=>
          rw [if_pos rfl] at hstep
          go_wp2_with (first
           | ((with_reducible refine hhas.out.mono ?_);rintro e w6 ⟨rfl,hb6⟩))
          have hC6:=hC5.below hb6
          have b6:=bthen b5 h5s hb6
          clear hhas li5 hoff
          go_roundg f
          case rel=>exact ⟨vq3,vn,Q3,seen,out++[r.st.id],hC6,by rw [hlen2.out];omega,hstep,b6⟩
          case measure=>omega
        | false=>
          rw [if_neg (by decide)] at hstep
          obtain ⟨A1,A2,k1,k2,e1,e2⟩:=hd5.forms
          have hop5:=hd5.op
          rw [e2] at hop5 hran
          have hcp : ∀ W,Below w5.heap.size w5 W→W.cell? ⟨w3.heap.size,67,none⟩=some (.slice A2 r.o.pars.length k2):=fun W hW=>by
           have:=nd_pars (hXr W _ (hb5n.below hW hb5n.lt)) hid32 htree
           rw [e2] at this
           exact this
          have hpok:=hd5.ok.pars
          obtain ⟨PS,hPS⟩ : ∃ PS,r.o.pars=PS:=⟨_,rfl⟩
          rw [hPS] at hop5 hran hcp hpok hstep
          clear e1 e2 hPS hd5 htree
          go_wp2_with (first
           | ((with_reducible refine hhas.out.mono ?_);rintro e w6 ⟨rfl,hb6⟩
              have hcp6:=hcp w6 hb6
              have hC6:=hC5.below hb6
              have b6:=bthen b5 h5s hb6
              have hop6:=zAd hop5 hb6))
          obtain ⟨ON,hON⟩ : ∃ ON,out++[r.st.id]=ON:=⟨_,rfl⟩
          rw [hON] at hC6 hstep hlen2
          clear hhas li5 hC5 hcp hcp6 hop5 hON hb6 b5
          go_loopg [63] PS.length (fun f3 vi wq => ∃ (k:Nat) (vq vn:Value) (Q:List DiL),vi = .int .i64 k∧k+f3=PS.length∧WalkC S wq w.heap.size w.heap.size (.pointer (some ⟨p,0,none⟩)) vq vn v5 vE Q (offerL S seen (PS.take k)) ON ON (sortU cut)∧OwnIds wq 0 (.slice A2 PS.length k2) PS∧Ap (.slice A2 PS.length k2) vn∧Below w.heap.size w wq)
          case atStart=>exact ⟨0,vq3,vn,Q3,rfl,by omega,hC6,hop6,hran,b6⟩
          case round=>
           clear hC6 hop6 hran b6
           obtain ⟨k,vq,vn,Q,rfl,hkf,hC,hop,hap,hbel⟩:=hrel
           have hbs:=hbel.size
           cases gk with
           | succ f3=>
             have hki:(k:Int)<(PS.length:Int):=by omega
             obtain ⟨A2',k2',hpe,_,_,hatp⟩:=SliceAt.of_own (fun e h=>idC_len (hpok e h)) hop
             obtain ⟨gp,op_,hpe2,hgp,hcp⟩:=hatp (by omega)
             injection hpe with hpe1 _ hpe3
             subst hpe3
             obtain rfl:A2=some ⟨gp,op_,none⟩:=hpe1.trans hpe2
             obtain ⟨x,hx⟩ : ∃ x,PS[k]?=some x:=⟨_,List.getElem?_eq_getElem (by omega)⟩
             have hxi:=hpok x (List.mem_of_getElem? hx)
             have hlx:=zAb (show World.rangeAt wr gp (op_+k*32) (u8s x).toList from hcp k x hx) hxi
             have hmore:Hid (offerL S seen (PS.take (k+1))=offerS S (offerL S seen (PS.take k)) x):=Lib.hid (zCI hx)
             have hx32:(u8s x).size=32:=by rw [zAh,hxi]
             have hx1:=u8s_one x
             have hld2 : ∀ W g,Blk W g 53 (u8s x)→(ldvI ⟨g,0,none⟩).run Tryz.prog W = .ok (.agg (u8s x)) W:=fun W g h=>zAb (zAk h) hxi
             clear hx hcp hatp hpe1 hpe2
             go_wp2_with (first
              | ((with_reducible refine lit_new 53 (.tmp 17) (.tmp 66) (u8s x) 32 sz32 hx32 hx1 _ ?_ ?_ ?_ ?_)
                 ·first | rfl | kernel_rfl
                 ·rfl
                 ·rfl
                 intro W2 hb2 hbl2
                 have hl2:=hld2 W2 _ hb2
                 have b2:=bthen hbel hbs hbl2
                 have hC2:=hC.below hbl2
                 have ho2:=hoff W2 b2 hC2.b x hxi)
              | ((with_reducible refine ho2.out.mono ?_);rintro e w7 ⟨rfl,hr7⟩))
             obtain ⟨vq7,vn7,Q7,hC7,hf7,hn7⟩:=hC2.offer hr7
             have hop2:=zAd hop hbl2
             have hop7:=hC2.b.keep hop2 hap hf7 fun _ h=>h
             have hap7:=(hap.symm.newer hn7 fun k hk=>(World.ownsRow.lt hop2 k hk).2).symm
             have b7:=b2.trans (hC2.b.far_below b2.size (Nat.le_refl _) hf7)
             rw [←hmore.out] at hC7
             clear hl2 ho2 hlx hld2 hr7 hC2 hC hop hop2
             go_roundg f3
             case rel=>exact ⟨k+1,vq7,vn7,Q7,by go_num,by omega,hC7,hop7,hap7,b7⟩
             case measure=>omega
           | zero=>
             have hki : ¬ (k:Int)<(PS.length:Int):=by omega
             have hke:PS.take k=PS:=List.take_of_length_le (by omega)
             rw [hke] at hC
             clear hop hap hke
             go_wp2_with (fail)
             go_roundg f
             case rel=>exact ⟨vq,vn,Q,offerL S seen PS,ON,hC,by rw [hlen2.out];omega,hstep,hbel⟩
             case measure=>omega
end
def idxOf {α:Type} (p:α→Bool) (l:List α):Int:=match l.findIdx? p with | some i=>(i:Int) | none => -1
theorem idxOf_found {α:Type} {p:α→Bool} {l:List α} {k:Nat} {x:α} (hn:(l.take k).all (fun y => !p y)=true) (hx:l[k]?=some x) (hp:p x=true):idxOf p l=(k:Int):=by
 have:l.findIdx? p=some k:=by
  rw [List.findIdx?_eq_some_iff_getElem]
  obtain ⟨hk,he⟩:=List.getElem?_eq_some_iff.1 hx
  refine ⟨hk,by rw [he];exact hp,fun j hj=>?_⟩
  have hm:l[j]∈l.take k:=by
   rw [List.mem_take_iff_getElem]
   exact ⟨j,by omega,rfl⟩
  have:=List.all_eq_true.1 hn _ hm
  simpa using this
 simp [idxOf,this]
theorem idxOf_none {α:Type} {p:α→Bool} {l:List α} (hn:l.all (fun y => !p y)=true):idxOf p l = -1:=by
 have:l.findIdx? p=none:=by
  rw [List.findIdx?_eq_none_iff]
  intro x hx
  have:=List.all_eq_true.1 hn x hx
  simpa using this
 simp [idxOf,this]
theorem none_step {α:Type} {p:α→Bool} {l:List α} {k:Nat} {x:α} (hn:(l.take k).all (fun y => !p y)=true) (hx:l[k]?=some x) (hp:p x=false):(l.take (k+1)).all (fun y => !p y)=true:=by
 rw [List.take_add_one,List.all_append,hn,hx]
 simp [hp]
theorem idx_cases {α:Type} (p:α→Bool) (l:List α) :
 (∃ k x,l[k]?=some x∧k<l.length∧idxOf p l=(k:Int)∧p x=true∧(l.take k).all (fun y => !p y)=true)∨(idxOf p l = -1∧l.all (fun y => !p y)=true):=by
 cases h:l.findIdx? p with
 | some k=>
   obtain ⟨hk,hp,hn⟩:=List.findIdx?_eq_some_iff_getElem.1 h
   refine .inl ⟨k,l[k],List.getElem?_eq_getElem hk,hk,by simp [idxOf,h],hp,?_⟩
   rw [List.all_eq_true]
   intro y hy
   obtain ⟨j,hj,rfl⟩:=List.mem_take_iff_getElem.1 hy
   have:=hn j (by omega)
   simpa using this
 | none=>
   refine .inr ⟨by simp [idxOf,h],?_⟩
   rw [List.all_eq_true]
   intro y hy
   have:=List.findIdx?_eq_none_iff.1 h y hy
   simpa using this
section
attribute [local go_sem ↓] ldvI_eq
theorem inL_idx (l:List Txt) (n:Txt):inL l n=decide (0≤idxOf (fun x=>decide (n=x)) l):=by
 rcases idx_cases (fun x=>decide (n=x)) l with ⟨k,x,hx,hk,hi,hp,_⟩ | ⟨hi,hall⟩
 ·rw [hi,decide_eq_true (by omega)]
  have:n=x:=by simpa using hp
  exact inL_iff.2 (this▸List.mem_of_getElem? hx)
 ·rw [hi,decide_eq_false (by omega)]
  cases hb:inL l n
  ·rfl
  ·have:=List.all_eq_true.1 hall n (inL_iff.1 hb)
   simp at this
set_option maxRecDepth 100000 in
set_option maxHeartbeats 2000000 in
theorem gidIndex_calls (l:List Txt) (hok : ∀ x∈l,x.length=32) (v:Value) (n:Txt) (hn:n.length=32) (w:World) (hv:Ids w v l) :
 Calls Tryz.prog 39 #[v, .agg (u8s n)] w fun e w'=>e = .returned (.int .i64 (idxOf (fun x=>decide (n=x)) l))∧Below w.heap.size w w':=by
 obtain ⟨W1,hW1⟩ : ∃ W1,w.alloc (.cells (u8s n) 53)=W1:=⟨_,rfl⟩
 have n1:Blk W1 w.heap.size 53 (u8s n):=by rw [←hW1];exact Blk.new _ _ _
 have b1:Below w.heap.size w W1:=by rw [←hW1];exact (Below.refl _ _).alloc (Nat.le_refl _) _
 have lnn:=fun W (hW:Below W1.heap.size W1 W)=>zAb (zAk (n1.below hW n1.lt)) hn
 obtain ⟨A,cap,rfl,hcap1,hcap2,hat⟩:=hv
 go_enter Tryz.func39,Tryz.ntmps39
 go_wp2
 go_loopw [8] (fun vi wr => ∃ k:Nat,vi = .int .i64 k∧k≤l.length∧Hid ((l.take k).all (fun y => !decide (n=y))=true)∧Below W1.heap.size W1 wr) (fun vi _=>l.length-(intOf vi).toNat)
 case atStart=>exact ⟨0,rfl,by omega,Lib.hid (by simp),Below.refl _ _⟩
 case round=>
  obtain ⟨k,rfl,hk,hall,hbel⟩:=hrel
  clear hW1
  by_cases hlt:k<l.length
  ·have hki:(k:Int)<(l.length:Int):=by omega
   obtain ⟨ga,oa,rfl,hga,hca⟩:=hat (by omega)
   obtain ⟨x,hx⟩ : ∃ x,l[k]?=some x:=⟨_,List.getElem?_eq_getElem hlt⟩
   have hxi:=hok x (List.mem_of_getElem? hx)
   have hlx : ∀ W,Below W1.heap.size W1 W→(ldvI ⟨ga,oa+k*32,none⟩).run Tryz.prog W = .ok (.agg (u8s x)) W:=fun W hW=>by
    have hr:=zAc (hca k x hx) hga (bthen b1 b1.size hW)
    exact zAb (show World.rangeAt W ga (oa+k*32) (u8s x).toList from hr) hxi
   have heq:=fun W=>zEg W n x hn hxi
   have hst1:decide (n=x)=false→Hid ((l.take (k+1)).all (fun y => !decide (n=y))=true):=fun hp=>Lib.hid (none_step hall.out hx hp)
   have hst2:decide (n=x)=true→Hid (idxOf (fun y=>decide (n=y)) l=(k:Int)):=fun hp=>Lib.hid (idxOf_found hall.out hx hp)
   generalize decide (n=x)=bo at *
   clear hx hca hat hok hall
   go_wp2
   refine zAe (C:=fun W=>Below W1.heap.size W1 W) (by kernel_rfl) (by kernel_rfl) hbel.drew ?_
   repeat
    first
     | ((with_reducible refine zAm ?_ ?_)
        ·(go_simp;done)
        apply Exists.intro
        refine ⟨fun W hW=>?_,?_⟩
        ·first
          | (have q0:=lnn W hW
             have q1:=hlx W hW
             have q2:=heq W
             go_simp
             first
              | rfl
              | (simp only [Sem.run_bind,run_eqGuard_agg _ _ _ _ _ _ _ Tryz.eqGuardType53,q2,Result.andThen_ok];rfl))
        simp only [Act.put,zA,zB,zC])
     | ((with_reducible refine zAj ?_ ?_)
        ·(first | rfl | (go_simp;done))
        simp only [Act.put,zA,zB,zC])
   with_reducible refine wpQuiet_nil ?_
   intro w5 hW5
   clear heq hlx
   have b5:=hW5
   cases bo
   ·have hst:=hst1 rfl
    clear hst1 hst2
    go_wp2
    go_roundw
    case rel=>exact ⟨k+1,by go_num,by omega,hst,b5⟩
    case measure=>simp [intOf];omega
   ·have hst:=hst2 rfl
    clear hst1 hst2
    go_wp2
    go_ret
    exact ⟨by rw [hst.out];rfl,bthen b1 b1.size b5⟩
  ·have hki : ¬ (k:Int)<(l.length:Int):=by omega
   have hst:Hid (idxOf (fun y=>decide (n=y)) l = -1):=by
    have:=hall.out
    rw [List.take_of_length_le (by omega)] at this
    exact idxOf_none this
   clear hall hat
   go_wp2
   go_ret
   exact ⟨by rw [hst.out];rfl,bthen b1 b1.size hbel⟩
set_option maxRecDepth 100000 in
set_option maxHeartbeats 2000000 in
theorem zCu (l:List Txt) (hok : ∀ x∈l,x.length=32) (v:Value) (n:Txt) (hn:n.length=32) (w:World) (hv:Ids w v l) :
 Calls Tryz.prog 30 #[v, .agg (u8s n)] w fun e w'=>e = .returned (.bool (inL l n))∧Below w.heap.size w w':=by
 obtain ⟨W1,hW1⟩ : ∃ W1,w.alloc (.cells (u8s n) 53)=W1:=⟨_,rfl⟩
 have n1:Blk W1 w.heap.size 53 (u8s n):=by rw [←hW1];exact Blk.new _ _ _
 have b1:Below w.heap.size w W1:=by rw [←hW1];exact (Below.refl _ _).alloc (Nat.le_refl _) _
 have lnn:=zAb (zAk n1) hn
 have hc:=Lib.hid (gidIndex_calls l hok v n hn W1 (hv.below b1))
 rw [inL_idx]
 obtain ⟨A,cap,rfl,_⟩:=hv
 generalize idxOf (fun x=>decide (n=x)) l=I at *
 clear hok n1
 go_enter Tryz.func30,Tryz.ntmps30
 go_wp2_with (first
  | ((with_reducible refine hc.out.mono ?_);rintro e w2 ⟨rfl,hb2⟩))
 go_ret
 exact ⟨rfl,bthen b1 b1.size hb2⟩
end
set_option maxRecDepth 100000 in
set_option maxHeartbeats 400000 in
theorem zDw (l:List Txt) (hok:GidsOk l) (v:Value) (w:World) (hv:Gids w v l) (f:FuncId) (hf : ∀ (a:Array Value) (W:World),(callFunc f a).run Tryz.prog W = .ok (.enter f a) W) (c:Value) (p:Txt→Bool)
 (hcl : ∀ (W:World) (x:Txt),x∈l→Below w.heap.size w W→Calls Tryz.prog f #[.agg (idC x).toArray,c] W fun e w'=>e = .returned (.bool (p x))∧Below W.heap.size W w') :
 Calls Tryz.prog 91 #[v, .func (.func f) #[] #[c]] w fun e w'=>e = .returned (.int .i64 (idxOf p l))∧Below w.heap.size w w':=by
 have hlen:=hv.len
 obtain ⟨A,cap,rfl,hcap1,hcap2,hat⟩:=hv
 go_enter Tryz.func91,Tryz.ntmps91
 go_wp2
 go_loopw [8] (fun i wr => ∃ k:Nat,i = .int .i64 k∧k≤l.length∧Hid ((l.take k).all (fun y => !p y)=true)∧Below w.heap.size w wr) (fun i _=>l.length-(intOf i).toNat)
 case atStart=>exact ⟨0,rfl,by omega,by show _=_;simp,Below.refl _ _⟩
 case round=>
  obtain ⟨k,rfl,hk,hall,hbel⟩:=hrel
  by_cases hlt:k<l.length
  ·have hki:(k:Int)<(l.length:Int):=by omega
   obtain ⟨gs,os,rfl,hgs,hcell⟩:=hat (by omega)
   obtain ⟨x,hx⟩ : ∃ x,l[k]?=some x:=⟨_,List.getElem?_eq_getElem hlt⟩
   have hxm:=List.mem_of_getElem? hx
   have hxok:GidOk x:=hok x hxm
   have hx0:=zAc (hcell k x hx) hgs hbel
   have hxh:=Lib.hid hx
   clear hx
   have hc:=Lib.hid (hcl wr x hxm hbel)
   clear hcl hat hcell
   cases hp:p x
   ·have hst:=Lib.hid (none_step hall.out hxh.out hp)
    rw [hp] at hc
    clear hp
    go_wp2_with (first
     | (refine wpList_load_mid rfl 53 (.tmp 14) rfl gs (os+k*32) rfl (idC x) _ hx0 Tryz.underlying53 rfl (sizedGid hxok) ?_)
     | ((with_reducible refine hc.out.mono ?_);rintro e w1 ⟨rfl,hb1⟩))
    go_roundw
    case rel=>exact ⟨k+1,by go_num,by omega,hst,bthen hbel hbel.size hb1⟩
    case measure=>simp [intOf];omega
   ·have hst:=Lib.hid (idxOf_found hall.out hxh.out hp)
    rw [hp] at hc
    clear hp
    go_wp2_with (first
     | (refine wpList_load_mid rfl 53 (.tmp 14) rfl gs (os+k*32) rfl (idC x) _ hx0 Tryz.underlying53 rfl (sizedGid hxok) ?_)
     | ((with_reducible refine hc.out.mono ?_);rintro e w1 ⟨rfl,hb1⟩))
    go_ret
    exact ⟨by rw [hst.out];rfl,bthen hbel hbel.size hb1⟩
  ·have hki : ¬ (k:Int)<(l.length:Int):=by omega
   have hst:Hid (idxOf p l = -1):=by
    have:=hall.out
    rw [List.take_of_length_le (by omega)] at this
    exact idxOf_none this
   clear hall hat hcl
   go_wp2
   go_ret
   exact ⟨by rw [hst.out];rfl,hbel⟩
section
attribute [local go_sem ↓] ldvI_eq
theorem own_snocA {w:World} {B:Nat} {v:Value} {acc:List Txt} {x:Txt} (h:w.ownsRow B 53 32 v (acc.length+1) (rowsOf idC acc++(u8s x).toList)):OwnIds w B v (acc++[x]):=by
 unfold OwnIds
 rw [List.length_append,List.length_singleton,zAo,zAp]
 exact h
theorem id_one {w:World} {g:Nat} {a:Txt} (h:Blk w g 53 (u8s a)):Ids w (.slice (some ⟨g,0,none⟩) 1 1) [a]:=by
 refine ⟨_,1,rfl,by simp,by omega,fun _=>⟨g,0,rfl,h.lt,fun i x hx=>?_⟩⟩
 cases i with
 | succ i=>simp at hx
 | zero=>
   have:a=x:=by simpa using hx
   subst this
   exact zAk h
theorem walkS_okA {S:List StL} {cut ini:List Txt} (hS:StoOk S) {x:Txt} (hx:x∈walkS S cut ini):x.length=32:=by
 have hw : ∀ (f:Nat) {seen out:List Txt},WalkI S seen out → ∀ x∈walkW S cut f seen out,kindS S x=3:=fun f=>by
  induction f with
  | zero=>exact fun h x hx=>h.k3 x (h.sub x hx)
  | succ f ih=>
    intro seen out h x hx
    cases hb:bestT S seen out with
    | none=>rw [walk_stop hb] at hx;exact h.k3 x (h.sub x hx)
    | some n=>rw [walkW_go hb] at hx;exact ih (h.step (best_some hb).1) x hx
 obtain ⟨s,hs,he⟩:=List.mem_map.1 (kind3_mem (hw _ (WalkI.start ini) x hx))
 rw [←he,(hS.each s hs).1]
 exact zBd _
theorem offer_len (S:List StL) (l:List Txt):(offerL S [] l).length≤S.length:=by
 obtain ⟨a1,a2,_⟩:=zBE (S:=S) l (seen:=[]) List.nodup_nil (fun x hx=>by cases hx)
 exact (⟨a1,a2,(fun x hx=>by cases hx),List.nodup_nil⟩:WalkI S (offerL S [] l) []).len.1
set_option maxRecDepth 100000 in
set_option maxHeartbeats 4000000 in
theorem ackAcks_calls {S:List StL} {w:World} {sb p:Nat} {vs vi:Value} {haves:List Txt} (hS:StoAt w sb p vs S) (hvi:Ids w vi haves) (hok : ∀ x∈haves,x.length=32) :
 Calls Tryz.prog 9 #[.pointer (some ⟨p,0,none⟩),vi] w fun e w' => ∃ v,e = .returned v∧OwnIds w' w.heap.size v (offerL S [] haves)∧Below w.heap.size w w':=by
 have hSl:S.length≤500000:=hS.ok.few
 have hfin:haves.take haves.length=haves:=List.take_length
 have hkd:=fun W (hW:Below w.heap.size w W) x (hx:x.length=32)=>Lib.hid (zDH (hS.below hW) x hx)
 have hlen:=fun k=>offer_len S (haves.take k)
 have hall : ∀ k, ∀ x∈offerL S [] (haves.take k),x.length=32:=fun k x hx=>by
  rcases (zBE (S:=S) (haves.take k) (seen:=[]) List.nodup_nil (fun x hx=>by cases hx)).2.2.2 x hx with h | h
  ·cases h
  ·exact hok x (List.mem_of_mem_take h)
 obtain ⟨Ai,ci,rfl,hi1,hi2,hat⟩:=hvi
 clear hS
 go_enter Tryz.func9,Tryz.ntmps9
 go_wp2_with (fail)
 go_loopg [5,10] haves.length (fun f v5 v10 wr => ∃ (vo:Value) (k:Nat) (acc:List Txt),vo=v5∧v10 = .int .i64 k∧k+f=haves.length∧acc=offerL S [] (haves.take k)∧OwnIds wr w.heap.size vo acc∧Below w.heap.size w wr)
 case atStart=>exact ⟨_,0,[],rfl,rfl,by omega,rfl,World.ownsRow_nil _ _ _ _,Below.refl _ _⟩
 case round=>
  obtain ⟨vo,k,acc,rfl,rfl,hkf,hacc,hown,hbel⟩:=hrel
  have hbs:=hbel.size
  obtain ⟨Ao,co,rfl⟩:=zAl hown
  cases gk with
  | zero=>
    have hki : ¬ (k:Int)<(haves.length:Int):=by omega
    obtain rfl:k=haves.length:=by omega
    rw [hfin] at hacc
    have HA:=Lib.hid hacc
    clear hat hacc hkd hall hlen
    go_wp2_with (fail)
    go_ret
    rw [←HA.out]
    exact ⟨_,rfl,hown,hbel⟩
  | succ f=>
    have hki:(k:Int)<(haves.length:Int):=by omega
    obtain ⟨ga,oa,rfl,hga,hca⟩:=hat (by omega)
    obtain ⟨x,hx⟩ : ∃ x,haves[k]?=some x:=⟨_,List.getElem?_eq_getElem (by omega)⟩
    have hxi:=hok x (List.mem_of_getElem? hx)
    have hlx:(ldvI ⟨ga,oa+k*32,none⟩).run Tryz.prog wr = .ok (.agg (u8s x)) wr:=zAb (show World.rangeAt wr ga (oa+k*32) (u8s x).toList from zAc (hca k x hx) hga hbel) hxi
    have hmo:Hid (offerL S [] (haves.take (k+1))=offerS S acc x):=Lib.hid (by rw [zCI hx,←hacc])
    have hak : ∀ x∈acc,x.length=32:=by rw [hacc];exact hall k
    have hal:acc.length≤500000:=by rw [hacc];exact Nat.le_trans (hlen k) hSl
    have hk2:=fun W (hW:Below wr.heap.size wr W)=>hkd W (bthen hbel hbs hW) x hxi
    have hco:=fun W (hW:Below wr.heap.size wr W)=>Lib.hid (zCu acc hak _ x hxi W (SliceAt.of_own (idsK hak) (zAd hown hW)))
    have hx32:(u8s x).size=32:=by rw [zAh,hxi]
    have hx132:(u8s x).size=1*32:=hx32
    have hx1:=u8s_one x
    have hx1' : ∀ u∈(u8s x).toList,u.oneCell'=true:=idC_one x
    have hlm : ∀ W g,Blk W g 53 (u8s x)→(ldvI ⟨g,0,none⟩).run Tryz.prog W = .ok (.agg (u8s x)) W:=fun W g h=>zAb (zAk h) hxi
    have hzI:=zeroIdV
    have hZ32:(u8s noId).size=32:=by rw [zAh,zAi]
    have hAk:acc.length+1≤9223372036854775807:=by omega
    have hAb:(acc.length+1)*32≤140737488355328:=by omega
    unfold offerS at hmo
    obtain ⟨XC,hXC⟩ : ∃ XC,u8s x=XC:=⟨_,rfl⟩
    obtain ⟨K,hK⟩ : ∃ K,kindS S x=K:=⟨_,rfl⟩
    obtain ⟨bi,hbi⟩ : ∃ bi,inL acc x=bi:=⟨_,rfl⟩
    rw [hK,hbi] at hmo
    simp only [hK,hXC] at hk2
    simp only [hbi,hXC] at hco
    rw [hXC] at hlx hx32 hx132 hx1 hx1'
    simp only [hXC] at hlm
    replace hXC:=Lib.hid hXC
    clear hca hat hx hkd hall hlen hacc hK hbi hfin
    by_cases hK3:K=3
    ·subst hK3
     cases bi with
     | true=>
       have hmo2:Hid (acc=offerL S [] (haves.take (k+1))):=Lib.hid (by rw [hmo.out];rfl)
       clear hmo
       go_wp2_with (first
        | ((with_reducible refine lit_new 53 (.tmp 7) (.tmp 13) XC 32 sz32 hx32 hx1 _ ?_ ?_ ?_ ?_)
           ·first | exact hZ32 | rfl
           ·rfl
           ·rfl
           intro w2 hb2 hbl2
           have l2:=hlm w2 _ hb2
           have p2:=hk2 w2 hbl2)
        | ((with_reducible refine p2.out.mono ?_);rintro e w3 ⟨rfl,hb3⟩
           have b3:=bthen hbl2 hbl2.size hb3
           have l3:=hlm w3 _ (hb2.below hb3 hb2.lt)
           have q3:=hco w3 b3)
        | ((with_reducible refine q3.out.mono ?_);rintro e w4 ⟨rfl,hb4⟩))
       have b4:=bthen b3 b3.size hb4
       have o4:=zAd hown b4
       have bb4:=bthen hbel hbs b4
       clear hown
       go_roundg f
       case rel=>exact ⟨_,k+1,acc,rfl,by go_num,by omega,hmo2.out,o4,bb4⟩
       case measure=>omega
     | false=>
       have hmo2:Hid (acc++[x]=offerL S [] (haves.take (k+1))):=Lib.hid (by rw [hmo.out];rfl)
       clear hmo
       go_wp2_with (first
        | ((with_reducible refine lit_new 53 (.tmp 7) (.tmp 13) XC 32 sz32 hx32 hx1 _ ?_ ?_ ?_ ?_)
           ·first | exact hZ32 | rfl
           ·rfl
           ·rfl
           intro w2 hb2 hbl2
           have l2:=hlm w2 _ hb2
           have p2:=hk2 w2 hbl2)
        | ((with_reducible refine p2.out.mono ?_);rintro e w3 ⟨rfl,hb3⟩
           have b3:=bthen hbl2 hbl2.size hb3
           have l3:=hlm w3 _ (hb2.below hb3 hb2.lt)
           have q3:=hco w3 b3)
        | ((with_reducible refine q3.out.mono ?_);rintro e w4 ⟨rfl,hb4⟩
           have b4:=bthen b3 b3.size hb4
           have l4:=hlm w4 _ ((hb2.below hb3 hb2.lt).below hb4 (hb2.below hb3 hb2.lt).lt)
           have o4:=zAd hown b4
           have z4:=Nat.le_trans hbs b4.size)
        | ((with_reducible refine zAq (.tmp 25) Tryz.idsTy XC hx32 (by omega) ?_ ?_);rfl)
        | ((with_reducible refine zAn (.tmp 24) (.tmp 26) 1 _ Tryz.idsTy o4 XC hx132 hx1' hAk hAb z4 ?_ ?_ ?_);rfl;rfl
           intro v5 w5 ho5 hb5 _ _))
       have o5:OwnIds w5 w.heap.size v5 (acc++[x]):=own_snocA (by rw [hXC.out];exact ho5)
       have bb5:=(bthen hbel hbs b4).trans hb5
       clear hown o4 ho5
       go_roundg f
       case rel=>exact ⟨_,k+1,_,rfl,by go_num,by omega,hmo2.out,o5,bb5⟩
       case measure=>omega
    ·have hKb:(K==3)=false:=by simp [hK3]
     have hmo2:Hid (acc=offerL S [] (haves.take (k+1))):=Lib.hid (by rw [hmo.out,hKb,Bool.and_false];rfl)
     clear hmo
     go_wp2_with (first
      | ((with_reducible refine lit_new 53 (.tmp 7) (.tmp 13) XC 32 sz32 hx32 hx1 _ ?_ ?_ ?_ ?_)
         ·first | exact hZ32 | rfl
         ·rfl
         ·rfl
         intro w2 hb2 hbl2
         have l2:=hlm w2 _ hb2
         have p2:=hk2 w2 hbl2)
      | ((with_reducible refine p2.out.mono ?_);rintro e w3 ⟨rfl,hb3⟩
         have b3:=bthen hbl2 hbl2.size hb3))
     have o4:=zAd hown b3
     have bb4:=bthen hbel hbs b3
     clear hown
     go_roundg f
     case rel=>exact ⟨_,k+1,acc,rfl,by go_num,by omega,hmo2.out,o4,bb4⟩
     case measure=>omega
set_option maxRecDepth 100000 in
set_option maxHeartbeats 1000000 in
theorem covered1_calls (l:List Txt) (hok : ∀ x∈l,x.length=32) (v:Value) (b:Nat) (n:Txt) (hn:n.length=32) (w:World) (hb:b<w.heap.size) (hc0:w.cell? ⟨b,0,none⟩=some v) (hv:Ids w v l) :
 Calls Tryz.prog 59 #[.agg (idC n).toArray, .pointer (some ⟨b,0,none⟩)] w fun e w'=>e = .returned (.bool (inL l n))∧Below w.heap.size w w':=by
 have hag:(idC n).toArray=u8s n:=by simp [idC]
 rw [hag]
 obtain ⟨W1,hW1⟩ : ∃ W1,w.alloc (.cells (u8s n) 53)=W1:=⟨_,rfl⟩
 have n1:Blk W1 w.heap.size 53 (u8s n):=by rw [←hW1];exact Blk.new _ _ _
 have b1:Below w.heap.size w W1:=by rw [←hW1];exact (Below.refl _ _).alloc (Nat.le_refl _) _
 have lnn:=zAb (zAk n1) hn
 have c1:W1.cell? ⟨b,0,none⟩=some v:=by rw [←hW1];exact (World.cell?_alloc_lt w _ ⟨b,0,none⟩ hb).trans hc0
 have hc:=Lib.hid (zCu l hok v n hn W1 (hv.below b1))
 obtain ⟨A,cap,rfl,_⟩:=hv
 clear hok n1 hc0 hag
 go_enter Tryz.func59,Tryz.ntmps59
 go_wp2_with (first
  | ((with_reducible refine hc.out.mono ?_);rintro e w2 ⟨rfl,hb2⟩))
 go_ret
 exact ⟨rfl,bthen b1 b1.size hb2⟩
theorem covered1_func (a:Array Value) (W:World):(callFunc 59 a).run Tryz.prog W = .ok (.enter 59 a) W:=by kernel_rfl
theorem any_idx (p:Txt→Bool) (l:List Txt):decide (0≤idxOf p l)=l.any p:=by
 rcases idx_cases p l with ⟨k,x,hx,hk,hi,hp,_⟩ | ⟨hi,hall⟩
 ·rw [hi,decide_eq_true (by omega)]
  exact (List.any_eq_true.2 ⟨x,List.mem_of_getElem? hx,hp⟩).symm
 ·rw [hi,decide_eq_false (by omega)]
  symm
  rw [List.any_eq_false]
  intro x hx
  have:=List.all_eq_true.1 hall x hx
  simpa using this
set_option maxRecDepth 100000 in
theorem zD1 (l:List Txt) (hok:GidsOk l) (v:Value) (w:World) (hv:Gids w v l) (f:FuncId) (hf : ∀ (a:Array Value) (W:World),(callFunc f a).run Tryz.prog W = .ok (.enter f a) W) (c:Value) (p:Txt→Bool)
 (hcl : ∀ (W:World) (x:Txt),x∈l→Below w.heap.size w W→Calls Tryz.prog f #[.agg (idC x).toArray,c] W fun e w'=>e = .returned (.bool (p x))∧Below W.heap.size W w') :
 Calls Tryz.prog 58 #[v, .func (.func f) #[] #[c]] w fun e w'=>e = .returned (.bool (l.any p))∧Below w.heap.size w w':=by
 have hi:=Lib.hid (zDw l hok v w hv f hf c p hcl)
 have ha:Hid (decide (0≤idxOf p l)=l.any p):=Lib.hid (any_idx p l)
 obtain ⟨I,hI⟩ : ∃ I,idxOf p l=I:=⟨_,rfl⟩
 rw [hI] at hi ha
 obtain ⟨A,cap,rfl,_⟩:=hv
 clear hcl hf hok hI
 go_enter Tryz.func58,Tryz.ntmps58
 go_wp2_with (first
  | ((with_reducible refine hi.out.mono ?_);rintro e w2 ⟨rfl,hb2⟩))
 go_ret
 exact ⟨by rw [←ha.out];rfl,hb2⟩
set_option maxRecDepth 100000 in
set_option maxHeartbeats 4000000 in
theorem zEM {S:List StL} {w:World} {sb p:Nat} {vs vc:Value} {common:List Txt} (hS:StoAt w sb p vs S) (x:Txt) (hx:x.length=32) (hvc:Ids w vc common) (hcok : ∀ x∈common,x.length=32) :
 Calls Tryz.prog 31 #[.pointer (some ⟨p,0,none⟩), .agg (u8s x),vc] w fun e w'=>e = .returned (.bool (covS S common x))∧Below w.heap.size w w':=by
 obtain ⟨W1,hW1,b1,n1,lid⟩:=boxId w x hx
 obtain ⟨W2,hW2⟩ : ∃ W2,W1.alloc (.cells #[vc] 26)=W2:=⟨_,rfl⟩
 have c2:Blk W2 W1.heap.size 26 #[vc]:=by rw [←hW2];exact Blk.new _ _ _
 have bb2:Below W1.heap.size W1 W2:=by rw [←hW2];exact (Below.refl _ _).alloc (Nat.le_refl _) _
 have b2:=bthen b1 b1.size bb2
 have l2:=lid W2 bb2
 have hen:=Lib.hid (zEE (hS.below b2) x hx)
 have hkd:=fun W (hW:Below w.heap.size w W) y (hy:y.length=32)=>Lib.hid (zDH (hS.below hW) y hy)
 have hwk:=fun W (hW:Below w.heap.size w W) y (hy:y.length=32) g (hg:Blk W g 53 (u8s y))=>Lib.hid (graWalk_calls (hS.below hW) [y] [] (fun z hz=>by rw [List.mem_singleton.1 hz];exact hy) (fun z hz=>absurd hz List.not_mem_nil) (Nat.zero_le _) _ _ (id_one hg) SliceAt.nil)
 have hwok : ∀ y, ∀ z∈walkS S [] [y],z.length=32:=fun y z hz=>walkS_okA hS.ok hz
 have hcf:=fun W (hW:Below W2.heap.size W2 W) (y:Txt) v (hv:Ids W v (walkS S [] [y]))=>Lib.hid (zD1 (walkS S [] [y]) (hwok y) v W hv 59 covered1_func (.pointer (some ⟨W1.heap.size,0,none⟩)) (fun z=>inL common z) (fun W' z hz hW'=>covered1_calls common hcok vc W1.heap.size z (hwok y z hz) W' (Nat.lt_of_lt_of_le c2.lt (Nat.le_trans hW.size hW'.size)) ((c2.below (bthen hW hW.size hW') c2.lt).cell 0) (hvc.below (bthen b2 b2.size (bthen hW hW.size hW')))))
 have hzI:=zeroIdV
 have hZ32:(u8s noId).size=32:=by rw [zAh,zAi]
 have hlm : ∀ W g (y:Txt),y.length=32→Blk W g 53 (u8s y)→(ldvI ⟨g,0,none⟩).run Tryz.prog W = .ok (.agg (u8s y)) W:=fun W g y hy h=>zAb (zAk h) hy
 obtain ⟨R,hR⟩ : ∃ R,Hid (covS S common x=R):=⟨_,Lib.hid rfl⟩
 rw [hR.out]
 have hRR:=hR.out
 unfold covS at hRR
 clear hR
 obtain ⟨Ac,cc,rfl,_⟩:=hvc
 obtain ⟨XC,hXC⟩ : ∃ XC,u8s x=XC:=⟨_,rfl⟩
 rw [hXC] at hW1 l2 hen n1 ⊢
 clear hXC lid n1 hS
 cases hE:endS S (S.length+1) x with
 | none=>
   rw [hE] at hen hRR
   simp only [endV] at hen
   have HR:Hid (false=R):=Lib.hid hRR
   clear hRR hE hkd hwk hcf hlm hwok
   go_enter Tryz.func31,Tryz.ntmps31
   go_wp2_with (first
    | ((with_reducible refine hen.out.mono ?_);rintro e w3 ⟨rfl,hb3⟩)
    | ((with_reducible refine lit_new 53 (.tmp 7) (.tmp 13) (u8s noId) 32 sz32 hZ32 (u8s_one noId) _ ?_ ?_ ?_ ?_)
       ·first | exact hZ32 | rfl
       ·rfl
       ·rfl
       intro w4 hb4 hbl4))
   go_ret
   exact ⟨by rw [←HR.out];rfl,bthen b2 b2.size (bthen hb3 hb3.size hbl4)⟩
 | some m=>
   have hmi:=endS_ok _ _ _ hx hE
   rw [hE] at hen hRR
   simp only [endV] at hen
   simp only at hRR
   have hm32:(u8s m).size=32:=by rw [zAh,hmi]
   have hm1:=u8s_one m
   have hlm2:=fun W g=>hlm W g m hmi
   have hkm:=fun W (hW:Below w.heap.size w W)=>hkd W hW m hmi
   have hwm:=fun W (hW:Below w.heap.size w W) g hg=>hwk W hW m hmi g hg
   have hwkok:=hwok m
   have hcm:=fun W hW v hv=>hcf W hW m v hv
   obtain ⟨WK,hWK⟩ : ∃ WK,walkS S [] [m]=WK:=⟨_,rfl⟩
   rw [hWK] at hRR hwkok
   simp only [hWK] at hwm hcm
   clear hE hkd hwk hcf hlm hwok hWK
   by_cases hK:kindS S m=3
   ·rw [if_pos hK] at hRR
    simp only [hK] at hkm
    obtain ⟨bA,hbA⟩ : ∃ bA,(WK.any fun y=>inL common y)=bA:=⟨_,rfl⟩
    simp only [hbA] at hcm
    rw [hbA] at hRR
    have HR:=Lib.hid hRR
    clear hRR hK hbA
    go_enter Tryz.func31,Tryz.ntmps31
    go_wp2_with (first
     | ((with_reducible refine hen.out.mono ?_);rintro e w3 ⟨rfl,hb3⟩
        have b23:=bthen b2 b2.size hb3)
     | ((with_reducible refine lit_new 53 (.tmp 7) (.tmp 13) (u8s m) 32 sz32 hm32 hm1 _ ?_ ?_ ?_ ?_)
        ·first | exact hZ32 | rfl
        ·rfl
        ·rfl
        intro w4 hb4 hbl4
        have b4:=bthen hb3 hb3.size hbl4
        have l4:=hlm2 w4 _ hb4
        have k4:=hkm w4 (bthen b2 b2.size b4))
     | ((with_reducible refine k4.out.mono ?_);rintro e w5 ⟨rfl,hb5⟩
        have b5:=bthen b4 b4.size hb5
        have l5:=hlm2 w5 _ (hb4.below hb5 hb4.lt))
     | ((with_reducible refine zAq (.tmp 22) Tryz.idsTy (u8s m) hm32 (by omega) ?_ ?_);rfl
        obtain ⟨w6,hw6⟩ : ∃ w6,w5.alloc (.cells (u8s m) 53)=w6:=⟨_,rfl⟩
        have n6:Blk w6 w5.heap.size 53 (u8s m):=by rw [←hw6];exact Blk.new _ _ _
        have bb6:Below w5.heap.size w5 w6:=by rw [←hw6];exact (Below.refl _ _).alloc (Nat.le_refl _) _
        have b6:=bthen b5 b5.size bb6
        rw [hw6]
        clear hw6
        have k6:=hwm w6 (bthen b2 b2.size b6) _ n6)
     | ((with_reducible refine k6.out.mono ?_);rintro e w7 ⟨v7,rfl,ho7,hb7⟩
        have b7:=bthen b6 b6.size hb7
        have k7:=hcm w7 b7 v7 (SliceAt.of_own (idsK hwkok) ho7))
     | ((with_reducible refine k7.out.mono ?_);rintro e w8 ⟨rfl,hb8⟩))
    go_ret
    exact ⟨by rw [←HR.out];rfl,bthen b2 b2.size (bthen b7 b7.size hb8)⟩
   ·rw [if_neg hK] at hRR
    have HR:Hid (true=R):=Lib.hid hRR
    obtain ⟨K,hKe⟩ : ∃ K,kindS S m=K:=⟨_,rfl⟩
    rw [hKe] at hK
    simp only [hKe] at hkm
    have hKn:(K != 3)=true:=by simp [hK]
    clear hRR hKe hwm hcm
    go_enter Tryz.func31,Tryz.ntmps31
    go_wp2_with (first
     | ((with_reducible refine hen.out.mono ?_);rintro e w3 ⟨rfl,hb3⟩
        have b23:=bthen b2 b2.size hb3)
     | ((with_reducible refine lit_new 53 (.tmp 7) (.tmp 13) (u8s m) 32 sz32 hm32 hm1 _ ?_ ?_ ?_ ?_)
        ·first | exact hZ32 | rfl
        ·rfl
        ·rfl
        intro w4 hb4 hbl4
        have b4:=bthen hb3 hb3.size hbl4
        have l4:=hlm2 w4 _ hb4
        have k4:=hkm w4 (bthen b2 b2.size b4))
     | ((with_reducible refine k4.out.mono ?_);rintro e w5 ⟨rfl,hb5⟩))
    go_ret
    exact ⟨by rw [←HR.out];rfl,bthen b2 b2.size (bthen b4 b4.size hb5)⟩
set_option maxRecDepth 100000 in
set_option maxHeartbeats 2000000 in
theorem zBJ {S:List StL} {w:World} {sb p:Nat} {vs vi vc:Value} {wants common:List Txt} (hS:StoAt w sb p vs S) (hvi:Ids w vi wants) (hok : ∀ x∈wants,x.length=32) (hvc:Ids w vc common) (hcok : ∀ x∈common,x.length=32) :
 Calls Tryz.prog 11 #[.pointer (some ⟨p,0,none⟩),vi,vc] w fun e w'=>e = .returned (.bool (readyS S wants common))∧Below w.heap.size w w':=by
 have hcv:=fun W (hW:Below w.heap.size w W) x (hx:x.length=32)=>Lib.hid (zEM (hS.below hW) x hx (hvc.below hW) hcok)
 have hstop:=fun {k:Nat} {x:Txt} (h:wants[k]?=some x) (hc:covS S common x=false)=>ready_stop h hc
 have hmore:=fun {k:Nat} {x:Txt} (h:wants[k]?=some x)=>ready_take (S:=S) (common:=common) h
 have hfin:readyS S (wants.take wants.length) common=readyS S wants common:=by rw [List.take_length]
 obtain ⟨R,hR⟩ : ∃ R,readyS S wants common=R:=⟨_,rfl⟩
 simp only [hR] at hstop
 rw [hR] at hfin ⊢
 obtain ⟨Ai,ci,rfl,hi1,hi2,hat⟩:=hvi
 obtain ⟨Ac,cc,rfl,_⟩:=hvc
 clear hS hR
 go_enter Tryz.func11,Tryz.ntmps11
 go_wp2_with (fail)
 go_loopg [11] wants.length (fun f v11 wr => ∃ (k:Nat),v11 = .int .i64 k∧k+f=wants.length∧readyS S (wants.take k) common=true∧Below w.heap.size w wr)
 case atStart=>exact ⟨0,rfl,by omega,rfl,Below.refl _ _⟩
 case round=>
  obtain ⟨k,rfl,hkf,hrd,hbel⟩:=hrel
  have hbs:=hbel.size
  cases gk with
  | zero=>
    have hki : ¬ (k:Int)<(wants.length:Int):=by omega
    obtain rfl:k=wants.length:=by omega
    have HR:Hid (true=R):=Lib.hid (by rw [←hfin,hrd])
    clear hat hcv hstop hmore hfin hrd
    go_wp2_with (fail)
    go_ret
    exact ⟨by rw [←HR.out];rfl,hbel⟩
  | succ f=>
    have hki:(k:Int)<(wants.length:Int):=by omega
    obtain ⟨ga,oa,rfl,hga,hca⟩:=hat (by omega)
    obtain ⟨x,hx⟩ : ∃ x,wants[k]?=some x:=⟨_,List.getElem?_eq_getElem (by omega)⟩
    have hxi:=hok x (List.mem_of_getElem? hx)
    have hlx:(ldvI ⟨ga,oa+k*32,none⟩).run Tryz.prog wr = .ok (.agg (u8s x)) wr:=zAb (show World.rangeAt wr ga (oa+k*32) (u8s x).toList from zAc (hca k x hx) hga hbel) hxi
    have hcx:=fun W (hW:Below wr.heap.size wr W)=>hcv W (bthen hbel hbs hW) x hxi
    have hst:=hstop hx
    have hmo:=hmore hx
    rw [hrd,Bool.true_and] at hmo
    have hx32:(u8s x).size=32:=by rw [zAh,hxi]
    have hx1:=u8s_one x
    have hlm : ∀ W g,Blk W g 53 (u8s x)→(ldvI ⟨g,0,none⟩).run Tryz.prog W = .ok (.agg (u8s x)) W:=fun W g h=>zAb (zAk h) hxi
    have hzI:=zeroIdV
    have hZ32:(u8s noId).size=32:=by rw [zAh,zAi]
    obtain ⟨XC,hXC⟩ : ∃ XC,u8s x=XC:=⟨_,rfl⟩
    obtain ⟨bc,hbc⟩ : ∃ bc,covS S common x=bc:=⟨_,rfl⟩
    rw [hbc] at hst hmo
    simp only [hbc,hXC] at hcx
    rw [hXC] at hlx hx32 hx1
    simp only [hXC] at hlm
    clear hca hat hx hcv hstop hmore hbc hfin hrd hXC
    cases bc with
    | true=>
      go_wp2_with (first
       | ((with_reducible refine lit_new 53 (.tmp 8) (.tmp 14) XC 32 sz32 hx32 hx1 _ ?_ ?_ ?_ ?_)
          ·first | exact hZ32 | rfl
          ·rfl
          ·rfl
          intro w2 hb2 hbl2
          have l2:=hlm w2 _ hb2
          have p2:=hcx w2 hbl2)
       | ((with_reducible refine p2.out.mono ?_);rintro e w3 ⟨rfl,hb3⟩))
      have bb3:=bthen hbel hbs (bthen hbl2 hbl2.size hb3)
      go_roundg f
      case rel=>exact ⟨k+1,by go_num,by omega,hmo,bb3⟩
      case measure=>omega
    | false=>
      have HR:Hid (false=R):=Lib.hid (hst rfl).symm
      clear hst hmo
      go_wp2_with (first
       | ((with_reducible refine lit_new 53 (.tmp 8) (.tmp 14) XC 32 sz32 hx32 hx1 _ ?_ ?_ ?_ ?_)
          ·first | exact hZ32 | rfl
          ·rfl
          ·rfl
          intro w2 hb2 hbl2
          have l2:=hlm w2 _ hb2
          have p2:=hcx w2 hbl2)
       | ((with_reducible refine p2.out.mono ?_);rintro e w3 ⟨rfl,hb3⟩))
      go_ret
      exact ⟨by rw [←HR.out];rfl,bthen hbel hbs (bthen hbl2 hbl2.size hb3)⟩
theorem many_cases (r:Int):(r<1∧manyN r=1)∨(r=1∧manyN r=2)∨(r=2∧manyN r=4)∨(r=3∧manyN r=8)∨(4≤r∧manyN r=16):=by
 unfold manyN
 by_cases h1:r<1
 ·exact .inl ⟨h1,if_pos h1⟩
 ·rw [if_neg h1]
  by_cases h2:r<2
  ·exact .inr (.inl ⟨by omega,if_pos h2⟩)
  ·rw [if_neg h2]
   by_cases h3:r<3
   ·exact .inr (.inr (.inl ⟨by omega,if_pos h3⟩))
   ·rw [if_neg h3]
    by_cases h4:r<4
    ·exact .inr (.inr (.inr (.inl ⟨by omega,if_pos h4⟩)))
    ·exact .inr (.inr (.inr (.inr ⟨by omega,if_neg h4⟩)))
def pow4 : Nat→Nat | 0=>1 | 1=>2 | 2=>4 | 3=>8 | _=>16
theorem many_pow {r:Int} {k:Nat} (h4:k≤4) (hk:k=0∨(k:Int)≤r) (hr:r≤k∨k=4):(manyN r:Int)=(pow4 k:Nat):=by
 rcases many_cases r with ⟨h,e⟩ | ⟨h,e⟩ | ⟨h,e⟩ | ⟨h,e⟩ | ⟨h,e⟩
 ·obtain rfl:k=0:=by omega
  rw [e];rfl
 ·obtain rfl:k=1:=by omega
  rw [e];rfl
 ·obtain rfl:k=2:=by omega
  rw [e];rfl
 ·obtain rfl:k=3:=by omega
  rw [e];rfl
 ·obtain rfl:k=4:=by omega
  rw [e];rfl
theorem pow4_lt {k:Nat} (h:k<4):(pow4 k:Int)<16∧(pow4 (k+1):Int)=(pow4 k:Int)*2:=by
 rcases (show k=0∨k=1∨k=2∨k=3 by omega) with rfl | rfl | rfl | rfl<;>decide
set_option maxRecDepth 100000 in
set_option maxHeartbeats 2000000 in
theorem zBV (r:Int) (w:World):Calls Tryz.prog 13 #[.int .i64 r] w fun e w'=>e = .returned (.int .i64 (manyN r))∧w'=w:=by
 have hmp:=fun {k:Nat} (h4:k≤4) (hk:k=0∨(k:Int)≤r) (hr:r≤k∨k=4)=>many_pow h4 hk hr
 obtain ⟨M,hM⟩ : ∃ M:Int,(manyN r:Int)=M:=⟨_,rfl⟩
 rw [hM] at hmp ⊢
 clear hM
 go_enter Tryz.func13,Tryz.ntmps13
 go_wp2_with (fail)
 go_loopg [3,4] 4 (fun f v3 v4 wr => ∃ (k:Nat) (P:Int),k+f=4∧v3 = .int .i64 P∧P=(pow4 k:Nat)∧v4 = .int .i64 k∧(k=0∨(k:Int)≤r)∧wr=w)
 case atStart=>exact ⟨0,1,rfl,rfl,rfl,rfl, .inl rfl,rfl⟩
 case round=>
  obtain ⟨k,P,hkf,rfl,hP,rfl,hkr,hw⟩:=hrel
  obtain rfl:=hw.symm
  by_cases hlt:(k:Int)<r
  ·by_cases h4:k<4
   ·obtain ⟨f,rfl⟩ : ∃ f,gk=f+1:=⟨gk-1,by omega⟩
    have hkr2:((k+1:Nat):Int)≤r:=by omega
    obtain ⟨hp1,hp2⟩:=pow4_lt h4
    rw [←hP] at hp1 hp2
    have hp0:0≤P:=by rw [hP];omega
    clear hmp hP
    go_wp2_with (fail)
    go_roundg f
    case rel=>exact ⟨k+1,_,by omega,rfl,by go_num,by go_num, .inr hkr2,rfl⟩
    case measure=>omega
   ·obtain rfl:k=4:=by omega
    have hR:Hid (M=P):=Lib.hid (by rw [hmp (Nat.le_refl _) hkr (.inr rfl),hP])
    have hp1 : ¬ P<16:=by rw [hP];decide
    clear hmp hP
    go_wp2_with (fail)
    go_ret
    exact ⟨by rw [hR.out];rfl,rfl⟩
  ·have hR:Hid (M=P):=Lib.hid (by rw [hmp (by omega) hkr (.inl (by omega)),hP])
   clear hmp hP
   go_wp2_with (fail)
   go_ret
   exact ⟨by rw [hR.out];rfl,rfl⟩
end
end Go.Proofs.YtbcbmjdmlcldjaaGreatDoor
