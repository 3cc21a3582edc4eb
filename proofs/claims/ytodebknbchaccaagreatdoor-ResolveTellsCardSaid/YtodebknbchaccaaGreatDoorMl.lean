/- Texts of this claim, laid together: RsM, LzC, DlaC, DlaE, RsL, RsN, RsI, ObjId, RsO, RsR. -/
import Derived.Test.YtodebknbchaccaaGreatDoorMk
import Derived.Deep.CutBlock
namespace Go.Proofs.YtodebknbchaccaaGreatDoor
open Go.RowKit
section
inductive MkO (bases:List Txt) (ofs thin:Bool) (pre:Option (Txt×Nat)) (t:Txt):PItL→Nat→Prop where
 | full:MkO bases ofs thin pre t ⟨0,0,noId',t⟩ 0
 | ref {b d:Txt}:thin=true→b∈bases→(t.length≤4096→apD b d=(t,0))→d.length<t.length→MkO bases ofs thin pre t ⟨2,0,shaOf b,d⟩ 1
 | ofs {p d:Txt} {n:Nat}:ofs=true→pre=some (p,n)→n<8→(t.length≤4096→apD p d=(t,0))→d.length<t.length→MkO bases ofs thin pre t ⟨1,1,noId',d⟩ (n+1)
def mustO (bases:List Txt) (ofs thin:Bool) (pre:Option (Txt×Nat)) (t:Txt):Prop:=100≤t.length∧t.length≤4096∧((thin=true∧t∈bases)∨(ofs=true∧pre=some (t,0)))
inductive MkL (bases:List Txt) (ofs thin:Bool):List Txt→List PItL→List Nat→Prop where
 | nil:MkL bases ofs thin [] [] []
 | snoc {ts:List Txt} {l:List PItL} {c:List Nat} {t:Txt} {x:PItL} {n:Nat}:MkL bases ofs thin ts l c→MkO bases ofs thin ((ts.zip c).getLast?) t x n→(mustO bases ofs thin ((ts.zip c).getLast?) t→x.kind≠0)→MkL bases ofs thin (ts++[t]) (l++[x]) (c++[n])
section
variable {bases ts:List Txt} {ofs thin:Bool} {l:List PItL} {c:List Nat}
theorem MkL.len (h:MkL bases ofs thin ts l c):l.length=ts.length∧c.length=ts.length:=by
 induction h with
 | nil=>exact ⟨rfl,rfl⟩
 | snoc _ _ _ ih=>simp [ih.1,ih.2]
theorem MkL.ok (h:MkL bases ofs thin ts l c) : ∀ x∈l,x.base.length=32:=by
 induction h with
 | nil=>intro x hx;simp at hx
 | snoc _ ho _ ih=>
   intro x hx
   rcases List.mem_append.1 hx with hx | hx
   ·exact ih x hx
   ·rw [List.mem_singleton.1 hx]
    cases ho with
    | full=>exact zA5
    | ref _ _ _ _=>exact zAQ _
    | ofs _ _ _ _ _=>exact zA5
theorem resR_snoc {s:List StL} : ∀ {l:List PItL} {a b:List Ahd} {x:PItL} {t:Ahd},resR s l a = .inl b→oneR s b x = .inl t→resR s (l++[x]) a = .inl (b++[t])
 | [],a,b,x,t,h,h2=>by
   rw [resR] at h
   cases h
   rw [List.nil_append,resR_step h2,resR]
 | y::l,a,b,x,t,h,h2=>by
   rw [List.cons_append]
   rw [resR] at h ⊢
   split at h
   ·cases h
   ·rename_i u hu
    exact resR_snoc h h2
theorem MkL.res (h:MkL bases ofs thin ts l c) {s:List StL} (hs : ∀ b∈bases,getS s (shaOf b)=some ⟨shaOf b,b⟩) (ht : ∀ t∈ts,(decO t).isSome=true):resR s l [] = .inl (ts.zip c):=by
 induction h with
 | nil=>rfl
 | @snoc ts l c t x n hm ho hmu ih=>
   have hl:=hm.len
   have hts : ∀ u∈ts,(decO u).isSome=true:=fun u hu=>ht u (by simp [hu])
   have htt:=ht t (by simp)
   have ih:=ih hts
   have hz:(ts++[t]).zip (c++[n])=ts.zip c++[(t,n)]:=by rw [List.zip_append (by omega)];rfl
   rw [hz]
   refine resR_snoc ih ?_
   have h4:=decO_le htt
   cases ho with
   | full=>rw [oneR_full rfl];simp only;rw [if_pos htt]
   | @ref b d h1 h2 h3 h5=>
     have hb:baseR s (ts.zip c) ⟨2,0,shaOf b,d⟩ = .inl (b,1):=by rw [zDB rfl];simp only;rw [hs b h2]
     rw [zCq (by simp) hb]
     simp only
     rw [h3 h4,if_neg (by simp),if_pos htt]
   | @ofs p d m h1 h2 h3 h5 h6=>
     have hzl:(ts.zip c).length=ts.length:=by rw [List.length_zip];omega
     have hlast:=h2
     rw [List.getLast?_eq_getElem?] at hlast
     have hpos:0<(ts.zip c).length:=by
      have:=(List.getElem?_eq_some_iff.1 hlast).1
      omega
     have hb:baseR s (ts.zip c) ⟨1,1,noId',d⟩ = .inl (p,m+1):=by
      rw [baseR_ofs (t:=p) (n:=m) rfl (by simp) (by show (1:Int)≤_;omega) (by show (ts.zip c)[(ts.zip c).length-(1:Int).toNat]?=_;exact hlast)]
      rw [if_neg (by omega)]
     rw [zCq (by simp) hb]
     simp only
     rw [h5 h4,if_neg (by simp),if_pos htt]
end
end
end Go.Proofs.YtodebknbchaccaaGreatDoor
namespace Go.Proofs.YtodebknbchaccaaGreatDoor
open Go.RowKit Go.Maps
structure PackRel (s e:List UInt8) (fr i:Nat) (D:DataW Unit):Prop where
 fri:fr≤i
 leads:Leads e [] (s.take fr)
 map:MapOk s i D
 run:RunOk s e fr i
theorem zDh {s e:List UInt8} {fr i:Nat} (h:Leads e [] (s.take fr)) (hf:fr≤i) (hi:i≤s.length) (hs:s.length≤70368744177664):Leads (e++plainOf ((s.drop fr).take (i-fr))) [] (s.take i):=by
 have ht:s.take fr++(s.drop fr).take (i-fr)=s.take i:=by
  rw [show i=fr+(i-fr) from by omega,List.take_add,show fr+(i-fr)-fr=i-fr from by omega]
 have hl:((s.drop fr).take (i-fr)).length=i-fr:=by rw [List.length_take,List.length_drop];omega
 unfold plainOf
 split
 ·rename_i h0
  rw [h0,List.append_nil] at ht
  rw [List.append_nil,←ht]
  exact h
 ·rename_i h0
  have:=h.trans (Leads.plain _ (s.take fr) h0 (by rw [hl];omega))
  rwa [ht] at this
theorem PackRel.miss {s e:List UInt8} {fr i:Nat} {D:DataW Unit} (h:PackRel s e fr i D) (hi:i+4≤s.length) (hno:Maps.has D (kl (keyAt s i))=false):PackRel s e fr (i+1) (D.put (kl (keyAt s i)) (vl i)):=
 ⟨by have:=h.fri;omega,h.leads,h.map.next hi (by omega),h.run.miss h.map hi hno⟩
theorem PackRel.far {s e:List UInt8} {fr i a:Nat} {D:DataW Unit} (h:PackRel s e fr i D) (hi:i+4≤s.length) (ha:a<i) (hf:65535<i-a):PackRel s e fr (i+1) (D.put (kl (keyAt s i)) (vl i)):=
 ⟨by have:=h.fri;omega,h.leads,h.map.next hi (by omega),h.run.far hi ha hf⟩
theorem plainOf_one (t:List UInt8) (h:t.length≤1):(plainOf t).length≤2:=by
 unfold plainOf
 split
 ·simp
 ·have:=zDk (2*t.length) (by omega)
  rw [List.length_append];omega
theorem PackRel.hit {s e:List UInt8} {fr i a n:Nat} {D:DataW Unit} (h:PackRel s e fr i D) (hs:s.length≤70368744177664) (hi:i+4≤s.length) (ha:a<i) (hf:i-a≤65535) (hk:keyAt s a=keyAt s i)
 (hn:i+n≤s.length) (hal : ∀ j,j<n→s.getD (a+j) 0=s.getD (i+j) 0) (hmax:i+n<s.length→s.getD (a+n) 0≠s.getD (i+n) 0) :
 PackRel s (e++(plainOf ((s.drop fr).take (i-fr))++(put (2*n+1)++put (i-a)))) (i+n) (i+n) (D.put (kl (keyAt s i)) (vl i)):=by
 have hmax':(h:i+n<s.length)→s[a+n]'(by omega)≠s[i+n]:=fun hlt=>by
  have:=hmax hlt
  rwa [getD_lt (by omega),getD_lt (by omega)] at this
 have h4:=alike_four hi ha hk hmax'
 have hl:(s.take i).length=i:=by rw [List.length_take];omega
 refine ⟨Nat.le_refl _,?_,h.map.next hi (by omega),h.run.hit hi ha hn hmax' _ fun h0 h1=>plainOf_one _ (by rw [List.length_take];omega)⟩
 have:=(zDh h.leads h.fri (by omega) hs).trans (Leads.far n (i-a) (s.take i) h4 (by omega) (by omega) hf (by omega))
 rw [back_alike s a i ha n hn (fun j hj hjn=>by
  have:=hal j hjn
  rwa [getD_lt (by omega),getD_lt (by omega)] at this)] at this
 rwa [List.append_assoc] at this
theorem PackRel.done {s e:List UInt8} {fr i:Nat} {D:DataW Unit} (h:PackRel s e fr i D) (hs:s.length≤70368744177664) (hi:s.length<i+4) (hfr:fr≤s.length) :
 ((1::(e++plainOf (s.drop fr))).length≤s.length→PackOk s (1::(e++plainOf (s.drop fr))))∧(s.length<(1::(e++plainOf (s.drop fr))).length→PackOk s (0::s)):=by
 have hle:Leads (e++plainOf (s.drop fr)) [] s:=by
  have:=zDh h.leads hfr (Nat.le_refl _) hs
  rwa [List.take_of_length_le (by rw [List.length_drop];omega),List.take_length] at this
 have hrun : ∀ (c:UInt8) (n:Nat),s=List.replicate n c→n≤4096→(1::(e++plainOf (s.drop fr))).length≤8∧(s.length<(1::(e++plainOf (s.drop fr))).length→s.length+1≤8):=by
  intro c n hc hn
  have hl:s.length=n:=by rw [hc];simp
  rcases h.run c n hc hn with ⟨h1,h2,h3⟩ | ⟨h1,h2,h3⟩
  ·have hb:(plainOf (s.drop fr)).length≤5:=by
    have hn4:n≤4:=by omega
    have hd:(s.drop fr).length=n:=by rw [List.length_drop];omega
    unfold plainOf
    split
    ·simp
    ·have:=zDk (2*(s.drop fr).length) (by omega)
     rw [List.length_append];omega
   simp only [h2,List.nil_append,List.length_cons]
   omega
  ·have hd:s.drop fr=[]:=List.drop_of_length_le (by omega)
   have hp:plainOf []=[]:=rfl
   simp only [hd,hp,List.append_nil,List.length_cons]
   omega
 refine ⟨fun hm=>⟨by omega, .inr ⟨_,rfl,hle⟩,fun c n hc hn=>(hrun c n hc hn).1⟩,fun hm=>⟨by simp, .inl rfl,fun c n hc hn=>?_⟩⟩
 have:=(hrun c n hc hn).2 hm
 simpa using this
theorem wf_u32 (n:Nat) (h:n<4294967296):(Lit.int .u32 (n:Int)).wf=true:=by
 simp [Lit.wf,IntKind.min,IntKind.max,IntKind.signed,IntKind.bits];omega
theorem at_eq {c:Int} {a:Nat} (h:(DataW.lit (.int .i64 c):DataW Unit)=vl a):c=(a:Int):=by
 injection h with h
 injection h with _ h
theorem zBj {P:Program} {k:TypeId} {R:Value→Option (DataW Unit×List MemPlace)} {w w':World} {b n:Nat} {D:DataW Unit} (h:w.ownsMap P k R b n D) (hb:Below w.heap.size w w'):w'.ownsMap P k R b n D:=
 World.ownsMap.kept (row:=none) h ⟨hb.os,hb.tape,hb.output,hb.size,fun k hk _=>hb.block k hk⟩ (by simp)
end Go.Proofs.YtodebknbchaccaaGreatDoor
namespace Go.Proofs.YtodebknbchaccaaGreatDoor
open Go.RowKit Go.Maps
set_option maxRecDepth 100000 in
set_option maxHeartbeats 800000 in
theorem dkey_calls0 (l:List UInt8) (hl:4≤l.length) (hr:l.length≤4611686018427387904) (w:World) :
 Calls Tryz.prog 147 #[.string (B l)] w fun e w'=>e = .returned (.int .u32 (key4 l[0] l[1] l[2] l[3])) ∧ ∃ n,w'=w.drewN n:=by
 have q0:(0:Int)<(l.length:Int):=by omega
 have q1:(1:Int)<(l.length:Int):=by omega
 have q2:(2:Int)<(l.length:Int):=by omega
 have q3:(3:Int)<(l.length:Int):=by omega
 generalize ha:l[0]=a
 generalize hb:l[1]=b
 generalize hc:l[2]=c
 generalize hd:l[3]=d
 go_enter Tryz.func147,Tryz.ntmps147
 go_wp2
 go_quiet (fail)
 go_wp2
 go_ret
 exact ⟨congrArg (fun n:Int=>Ending.returned (.int .u32 n)) (u32_bits a b c d),_,rfl⟩
theorem zCP (s:List UInt8) (i:Nat) (hi:i+4≤s.length) (hr:s.length≤4611686018427387904) (w:World) :
 Calls Tryz.prog 147 #[.string (B (s.drop i))] w fun e w'=>e = .returned (.int .u32 (keyAt s i)) ∧ ∃ n,w'=w.drewN n:=by
 have hl:(s.drop i).length=s.length-i:=List.length_drop
 refine (dkey_calls0 (s.drop i) (by omega) (by omega) w).mono fun e w' ⟨he,hw⟩=>⟨?_,hw⟩
 rw [he]
 unfold keyAt
 rw [getD_lt (by omega),getD_lt (by omega),getD_lt (by omega),getD_lt (by omega)]
 simp
def AlkIs (s t:List UInt8) (w:World) (e:Ending) (w':World):Prop:=
 ∃ n:Nat,e = .returned (.int .i64 n)∧n≤s.length∧n≤t.length∧(∀ j,j<n→s.getD j 0=t.getD j 0)∧(n<s.length→n<t.length→s.getD n 0≠t.getD n 0) ∧ ∃ q,w'=w.drewN q
set_option maxRecDepth 100000 in
set_option maxHeartbeats 800000 in
theorem dalike_calls (s t:List UInt8) (hs:s.length≤4611686018427387904) (ht:t.length≤4611686018427387904) (w:World) :
 Calls Tryz.prog 148 #[.string (B s), .string (B t)] w (AlkIs s t w):=by
 go_enter Tryz.func148,Tryz.ntmps148
 go_wp2
 go_loopw [5] (fun n wr => ∃ k q:Nat,n = .int .i64 k∧k≤s.length∧k≤t.length∧Hid (∀ j,j<k→s.getD j 0=t.getD j 0)∧wr=w.drewN q) (fun n _=>s.length-(intOf n).toNat)
 case atStart=>exact ⟨0,0,rfl,by omega,by omega,fun j hj=>absurd hj (by omega),rfl⟩
 case round=>
  obtain ⟨k,q,rfl,hk,hk2,hal,rfl⟩:=hrel
  by_cases hlt:k<s.length
  ·by_cases hlt2:k<t.length
   ·have hl1:(k:Int)<(s.length:Int):=by omega
    have hl2:(k:Int)<(t.length:Int):=by omega
    have hx1:t[k]=t.getD k 0:=(getD_lt hlt2).symm
    have hx2:s[k]=s.getD k 0:=(getD_lt hlt).symm
    have hstep:Hid (s.getD k 0=t.getD k 0 → ∀ j,j<k+1→s.getD j 0=t.getD j 0):=by
     intro he j hj
     by_cases h:j<k
     ·exact hal.out j h
     ·obtain rfl:j=k:=by omega
      exact he
    generalize hy:t.getD k 0=y at *
    generalize hz:s.getD k 0=x at *
    have hy':=Lib.hid hy
    have hz':=Lib.hid hz
    clear hy hz
    by_cases he:x=y
    ·subst he
     go_wp2
     all_goals try (exfalso;omega)
     go_quiet (fail)
     go_wp2
     go_roundw
     case rel=>exact ⟨k+1,q+nq,by go_num,by omega,by omega,hstep.out trivial,rfl⟩
     case measure=>simp [intOf];omega
    ·have hxy:((x.toNat:Int)==(y.toNat:Int))=false:=by
      simp only [beq_eq_false_iff_ne,ne_eq]
      intro h
      exact he (UInt8.toNat_inj.1 (by omega))
     go_wp2
     all_goals try (exfalso;omega)
     go_quiet (fail)
     go_wp2
     go_ret
     exact ⟨k,rfl,by omega,by omega,hal.out,fun _ _=>by rw [hy'.out,hz'.out];exact he,q+nq,World.drewN_drewN _ _ _⟩
   ·have hl1:(k:Int)<(s.length:Int):=by omega
    have hl2 : ¬ (k:Int)<(t.length:Int):=by omega
    go_wp2
    all_goals try (exfalso;omega)
    go_quiet (fail)
    go_wp2
    go_ret
    exact ⟨k,rfl,by omega,by omega,hal.out,fun _ h=>absurd h hlt2,_,World.drewN_drewN _ _ _⟩
  ·have hl1 : ¬ (k:Int)<(s.length:Int):=by omega
   go_wp2
   all_goals try (exfalso;omega)
   go_quiet (fail)
   go_wp2
   go_ret
   exact ⟨k,rfl,by omega,by omega,hal.out,fun h=>absurd h hlt,_,World.drewN_drewN _ _ _⟩
set_option maxRecDepth 100000 in
set_option maxHeartbeats 800000 in
theorem zCx (s:List UInt8) (hs:s.length≤70368744177664) (w:World) :
 Calls Tryz.prog 122 #[.string (B s)] w fun e w'=>e = .returned (.string (B (plnD s)))∧Below w.heap.size w w':=by
 by_cases h:s=[]
 ·subst h
  go_enter Tryz.func122,Tryz.ntmps122
  go_wp2
  go_ret
  exact ⟨rfl,Below.refl _ _⟩
 ·have he:s.isEmpty=false:=by simp [h]
  have hp:Hid (plnD s=put (2*s.length)++s):=by rw [plnD,if_neg h];rfl
  have hl:=zAn (2*s.length)
  have hi:(2*(s.length:Int)).toNat=2*s.length:=by omega
  go_enter Tryz.func122,Tryz.ntmps122
  go_wp2_with (go_at_call 61;go_must (refine (zDQ (2*(s.length:Int)) (by omega) (by omega) _).mono ?_);rintro e w1 ⟨rfl,hb1⟩;rw [hi])
  all_goals first | (exfalso;omega) | skip
  go_ret
  exact ⟨by rw [hp.out];rfl,hb1⟩
end Go.Proofs.YtodebknbchaccaaGreatDoor
namespace Go.Proofs.YtodebknbchaccaaGreatDoor
open Go.RowKit Go.Maps
theorem key_four {b t:Txt} {a i n:Nat} (hk:keyAt b a=keyAt t i) (h4:a+4≤b.length) (h5:i+4≤t.length) (hmax:a+n<b.length→i+n<t.length→b.getD (a+n) 0≠t.getD (i+n) 0):4≤n:=by
 obtain ⟨k0,k1,k2,k3⟩:=key4_inj hk
 rcases Nat.lt_or_ge n 4 with hlt | hge
 ·exfalso
  have hne:=hmax (by omega) (by omega)
  obtain rfl | rfl | rfl | rfl:n=0∨n=1∨n=2∨n=3:=by omega
  ·exact hne k0
  ·exact hne k1
  ·exact hne k2
  ·exact hne k3
 ·exact hge
def alkN : Txt→Txt→Nat
 | c::s,d::t=>if c=d then alkN s t+1 else 0
 | _,_=>0
theorem alkN_spec : ∀ s t:Txt,alkN s t≤s.length∧alkN s t≤t.length∧(∀ j,j<alkN s t→s.getD j 0=t.getD j 0)∧(alkN s t<s.length→alkN s t<t.length→s.getD (alkN s t) 0≠t.getD (alkN s t) 0)
 | [],t=>by simp [alkN]
 | c::s,[]=>by simp [alkN]
 | c::s,d::t=>by
   obtain ⟨h1,h2,h3,h4⟩:=alkN_spec s t
   unfold alkN
   split
   ·rename_i he
    refine ⟨by rw [List.length_cons];omega,by rw [List.length_cons];omega,fun j hj=>?_,fun k1 k2=>?_⟩
    ·cases j with
     | zero=>simpa using he
     | succ j=>simpa using h3 j (by omega)
    ·rw [List.length_cons] at k1 k2
     simpa using h4 (by omega) (by omega)
   ·rename_i he
    exact ⟨Nat.zero_le _,Nat.zero_le _,fun j hj=>absurd hj (Nat.not_lt_zero _),fun _ _=>by simpa using he⟩
theorem alkN_eq : ∀ (n:Nat) (s t:Txt),n≤s.length→n≤t.length→(∀ j,j<n→s.getD j 0=t.getD j 0)→(n<s.length→n<t.length→s.getD n 0≠t.getD n 0)→n=alkN s t
 | 0,[],t,_,_,_,_=>by simp [alkN]
 | 0,c::s,[],_,_,_,_=>by simp [alkN]
 | 0,c::s,d::t,_,_,_,h=>by
   have:=h (by simp) (by simp)
   unfold alkN
   rw [if_neg (by simpa using this)]
 | n+1,c::s,d::t,h1,h2,h3,h4=>by
   have h0:=h3 0 (by omega)
   unfold alkN
   rw [if_pos (by simpa using h0)]
   rw [List.length_cons] at h1 h2
   rw [←alkN_eq n s t (by omega) (by omega) (fun j hj=>by simpa using h3 (j+1) (by omega)) (fun k1 k2=>by simpa using h4 (by rw [List.length_cons];omega) (by rw [List.length_cons];omega))]
 | n+1,[],t,h1,_,_,_=>by simp at h1
 | n+1,c::s,[],_,h2,_,_=>by simp at h2
structure AlkAt (b t:Txt) (a i n:Nat):Prop where
 n0:a+n≤b.length
 n1:i+n≤t.length
 same : ∀ j,j<n→b.getD (a+j) 0=t.getD (i+j) 0
 ends:a+n<b.length→i+n<t.length→b.getD (a+n) 0≠t.getD (i+n) 0
theorem alk_at {b t:Txt} {a i:Nat} (ha:a≤b.length) (hi:i≤t.length):AlkAt b t a i (alkN (b.drop a) (t.drop i)):=by
 have h1:(b.drop a).length=b.length-a:=List.length_drop
 have h2:(t.drop i).length=t.length-i:=List.length_drop
 have hd : ∀ (l:Txt) (p q:Nat),(l.drop p).getD q 0=l.getD (p+q) 0:=fun l p q=>by simp [List.getD,List.getElem?_drop]
 obtain ⟨k1,k2,k3,k4⟩:=alkN_spec (b.drop a) (t.drop i)
 simp only [hd] at k3 k4
 exact ⟨by omega,by omega,k3,fun h h'=>k4 (by omega) (by omega)⟩
theorem dalike_at (b t:Txt) (a i:Nat) (hs:b.length≤4611686018427387904) (ht:t.length≤4611686018427387904) (w:World) :
 Calls Tryz.prog 148 #[.string (B (b.drop a)), .string (B (t.drop i))] w fun e w'=>e = .returned (.int .i64 (alkN (b.drop a) (t.drop i))) ∧ ∃ q,w'=w.drewN q:=by
 have h1:(b.drop a).length=b.length-a:=List.length_drop
 have h2:(t.drop i).length=t.length-i:=List.length_drop
 refine (dalike_calls (b.drop a) (t.drop i) (by omega) (by omega) w).mono fun e w' h=>?_
 obtain ⟨n,he,k1,k2,k3,k4,hq⟩:=h
 exact ⟨by rw [he,←alkN_eq n _ _ k1 k2 k3 k4],hq⟩
theorem Tryz.dla_u32key : Keyed Tryz.prog 72:=int_keyed Tryz.underlying72
theorem Tryz.dla_zeroInt (w:World):(zeroValue 3).run Tryz.prog w = .ok (.int .i64 0) w:=by kernel_rfl
def StpIs (b t:Txt) (w:World) (e:Ending) (w':World):Prop := ∃ d,e = .returned (.string (B d))∧LeadsD b d [] t∧(b=t→4≤t.length→d.length≤11)∧d.length≤40*t.length+20∧Below w.heap.size w w'
set_option maxRecDepth 100000 in
set_option maxHeartbeats 1000000 in
theorem dsteps_calls (b t:Txt) (hb1:b.length≤1000000) (hs:t.length≤1000000) (w:World) :
 Calls Tryz.prog 121 #[.string (B b), .string (B t)] w (StpIs b t w):=by
 have hmm := @run_makeMap Tryz.prog
 go_enter Tryz.func121,Tryz.ntmps121
 go_wp2
 go_loopw [6] (fun x wr => ∃ (i cnt:Nat) (D:DataW Unit),x = .int .i64 i∧i≤b.length∧cnt≤i∧Hid (FstOk b i D)∧wr.ownsMap Tryz.prog 72 (plainElem Tryz.prog 3) w.heap.size cnt D∧Below w.heap.size w wr) (fun x _=>b.length-(intOf x).toNat)
 case atStart=>exact ⟨0,0, .map [],rfl,by omega,by omega,FstOk.start b,World.ownsMap_made _ _ _ _,(Below.refl _ _).alloc (Nat.le_refl _) _⟩
 case round=>
  obtain ⟨i,cnt,D,rfl,hi,hcnt,hrel,hown,hb⟩:=hrel
  have hbs:=hb.size
  by_cases h4:i+4≤b.length
  ·have hk:=keyAt_lt b i
   have wfk:=Lib.hid (wf_u32 (keyAt b i) hk)
   have wfi:=Lib.hid (WalkArith.wf_i64 (n:=(i:Int)) (by omega))
   rcases hh:Maps.has D (kl (keyAt b i)) with _ | _
   ·have hnext:=Lib.hid (hrel.out.next h4 hh)
    clear hrel
    go_wp2_with (first
     | (go_at_call 147;go_must (refine (zCP b i h4 (by omega) _).mono ?_);rintro e1 w1 ⟨rfl,q,rfl⟩)
     | (at_lookup;go_must (refine wpList_lookup_own_ok_int _ rfl _ _ 220 rfl 72 3 .i64 Tryz.dla_u32key Tryz.underlying220 Tryz.underlying3 (Tryz.dla_zeroInt _) w.heap.size cnt D rfl hown _ _ rfl (keyOf_int_mk Tryz.underlying72 wfk.out) ?_);intro c hat hwc;clear hat hwc)
     | (at_mapUpdate;go_must (refine wpList_mapUpdate_own _ rfl _ _ _ 220 rfl 72 3 Tryz.dla_u32key Tryz.underlying220 _ w.heap.size cnt D rfl hown (by unfold maxLen;omega) _ _ _ rfl rfl (keyOf_int_mk Tryz.underlying72 wfk.out) _ [] (plainElem_int Tryz.underlying3 wfi.out) ?_);intro w2 hown2 hgrow2;have hb2:Below w.heap.size w w2:=(bdrewN hb q).grown hgrow2 hbs (fun j hj=>by cases hj;exact Nat.le_refl _);clear hgrow2))
    all_goals first | (exfalso;omega) | skip
    go_roundw
    case rel=>exact ⟨i+1,cnt+1,_,by go_num,by omega,by omega,hnext,hown2,hb2⟩
    case measure=>simp [intOf];omega
   ·have hnext:=Lib.hid (hrel.out.here hh)
    clear hrel
    go_wp2_with (first
     | (go_at_call 147;go_must (refine (zCP b i h4 (by omega) _).mono ?_);rintro e1 w1 ⟨rfl,q,rfl⟩)
     | (at_lookup;go_must (refine wpList_lookup_own_ok_int _ rfl _ _ 220 rfl 72 3 .i64 Tryz.dla_u32key Tryz.underlying220 Tryz.underlying3 (Tryz.dla_zeroInt _) w.heap.size cnt D rfl hown _ _ rfl (keyOf_int_mk Tryz.underlying72 wfk.out) ?_);intro c hat hwc;clear hat hwc))
    all_goals first | (exfalso;omega) | skip
    go_roundw
    case rel=>exact ⟨i+1,cnt,D,by go_num,by omega,by omega,hnext,zBj hown (bdrewN (Below.refl _ _) q),bdrewN hb q⟩
    case measure=>simp [intOf];omega
  ·have hm4:b.length<i+4:=by omega
   obtain ⟨m,rfl⟩ : ∃ m,m=i:=⟨_,rfl⟩
   have hfst:=hrel
   clear hrel
   go_wp2_with (fail)
   go_loopw [10,11,12] (fun o f x wx => ∃ (i fr:Nat) (e:Txt),x = .int .i64 i∧f = .int .i64 fr∧o = .string (B e)∧i≤t.length∧fr≤i∧e.length≤40*fr∧Hid (StpRel b t e fr i)∧wx.ownsMap Tryz.prog 72 (plainElem Tryz.prog 3) w.heap.size cnt D∧Below w.heap.size w wx) (fun _ _ x _=>t.length-(intOf x).toNat)
   case atStart=>exact ⟨0,0,[],rfl,rfl,rfl,by omega,by omega,by simp,StpRel.start b t,hown,hb⟩
   case round=>
    clear hown hb hbs
    obtain ⟨i,fr,e,rfl,rfl,rfl,hi,hfr,he,hrel,hown,hb⟩:=hrel
    have hbs:=hb.size
    by_cases h4:i+4≤t.length
    ·have hk:=keyAt_lt t i
     have wfk:=Lib.hid (wf_u32 (keyAt t i) hk)
     rcases hh:Maps.has D (kl (keyAt t i)) with _ | _
     ·have hnext:=Lib.hid (hrel.out.miss hfst.out hm4 h4 hh)
      clear hrel hm4
      go_wp2_with (first
       | (go_at_call 147;go_must (refine (zCP t i h4 (by omega) _).mono ?_);rintro e1 w1 ⟨rfl,q,rfl⟩)
       | (at_lookup;go_must (refine wpList_lookup_own_ok_int _ rfl _ _ 220 rfl 72 3 .i64 Tryz.dla_u32key Tryz.underlying220 Tryz.underlying3 (Tryz.dla_zeroInt _) w.heap.size cnt D rfl hown _ _ rfl (keyOf_int_mk Tryz.underlying72 wfk.out) ?_);intro c hat hwc;clear hat hwc))
      all_goals first | (exfalso;omega) | skip
      go_roundw
      case rel=>exact ⟨i+1,fr,e,by go_num,rfl,rfl,by omega,by omega,by omega,hnext,zBj hown (bdrewN (Below.refl _ _) q),bdrewN hb q⟩
      case measure=>simp [intOf];omega
     ·obtain ⟨a,ha1,ha2,ha3,ha4⟩:=hfst.out.told _ hh
      have hm4':=Lib.hid hm4
      clear hm4
      go_wp2_with (first
       | (go_at_call 147;go_must (refine (zCP t i h4 (by omega) _).mono ?_);rintro e1 w1 ⟨rfl,q,rfl⟩)
       | (at_lookup;go_must (refine wpList_lookup_own_ok_int _ rfl _ _ 220 rfl 72 3 .i64 Tryz.dla_u32key Tryz.underlying220 Tryz.underlying3 (Tryz.dla_zeroInt _) w.heap.size cnt D rfl hown _ _ rfl (keyOf_int_mk Tryz.underlying72 wfk.out) ?_);intro c hat hwc;have hca:c=(a:Int):=at_eq (hat.symm.trans ha1);subst hca;clear hat hwc))
      all_goals first | (exfalso;omega) | skip
      obtain ⟨n,hn⟩ : ∃ n,alkN (b.drop a) (t.drop i)=n:=⟨_,rfl⟩
      have hal:=alk_at (b:=b) (t:=t) (a:=a) (i:=i) (by omega) hi
      have hac:=fun W=>dalike_at b t a i (by omega) (by omega) W
      rw [hn] at hal
      simp only [hn] at hac
      have hn0:=hal.n0
      have hn1:=hal.n1
      have hal:=Lib.hid hal
      have ka:a≤b.length:=by omega
      have kb:(a:Int)≤(b.length:Int):=by omega
      have kc:(i:Int)≤(t.length:Int):=by omega
      clear hn
      have hb0:=bdrewN hb q
      have hown0:=zBj hown (bdrewN (Below.refl _ _) q)
      clear hb hown hbs
      generalize wr.drewN q=wq0 at *
      go_quiet (first | (go_at_call 148;exact (hac _).mono fun e w1 ⟨he,n1,hn1⟩=>⟨he,_,hn1.trans (World.drewN_drewN _ _ _)⟩))
      have hbq:=bdrewN hb0 nq
      have hmq:=zBj hown0 (bdrewN (Below.refl _ _) nq)
      clear hac
      clear hb0 hown0
      generalize wq0.drewN nq=wq at *
      go_wp2_with (first
       | (go_at_call 122;go_must (refine (zCx ((t.drop fr).take (i-fr)) (by rw [List.length_take,List.length_drop];omega) _).mono ?_);rintro e1 w4 ⟨rfl,hb4⟩;have hb4':Below w.heap.size w w4:=bthen hbq hbq.size hb4;have hbs4:=hb4'.size;have hm4:=zBj hmq hb4;have hp4:=zBV ((t.drop fr).take (i-fr));rw [List.length_take,List.length_drop] at hp4)
       | (go_at_call 61;have _t:=hp5;go_must (with_reducible refine (zDQ (a:Int) (by omega) (by omega) _).mono ?_);rintro e1 w6 ⟨rfl,hb6⟩;have hb6':Below w.heap.size w w6:=bthen hb5' hbs5 hb6;have hm6:=zBj hm5 hb6;rw [show ((a:Int)).toNat=a from by omega];have hp6:=zAn a;clear _t)
       | (go_at_call 61;have _t:=hp4;go_must (with_reducible refine (zDQ (2*(n:Int)+1) (by omega) (by omega) _).mono ?_);rintro e1 w5 ⟨rfl,hb5⟩;have hb5':Below w.heap.size w w5:=bthen hb4' hbs4 hb5;have hbs5:=hb5'.size;have hm5:=zBj hm4 hb5;rw [show (2*(n:Int)+1).toNat=2*n+1 from by omega];have hp5:=zAn (2*n+1);clear _t)
       )
      all_goals first | (exfalso;omega) | skip
      have hn4:4≤n:=key_four ha4 ha2 h4 hal.out.ends
      have hnext:=Lib.hid (hrel.out.hit hfst.out hm4'.out (by omega) (by omega) h4 ha1 hn4 hn1 hn0 hal.out.same hal.out.ends)
      go_roundw
      case rel=>exact ⟨i+n,i+n,_,by go_num,by go_num,rfl,by omega,by omega,by simp only [List.length_append];omega,hnext,hm6,hb6'⟩
      case measure=>simp [intOf];omega
    ·have hdone:=Lib.hid (hrel.out.done hfst.out hm4 (by omega) (by omega) (by omega) (by omega))
     clear hrel hm4
     have hpl:=zBV (t.drop fr)
     rw [List.length_drop] at hpl
     go_wp2_with (go_at_call 122;go_must (refine (zCx (t.drop fr) (by rw [List.length_drop];omega) _).mono ?_);rintro e1 w4 ⟨rfl,hb4⟩;have hb4':Below w.heap.size w w4:=bthen hb hbs hb4)
     all_goals first | (exfalso;omega) | skip
     go_ret
     exact ⟨_,rfl,hdone.out.1,hdone.out.2,by rw [List.length_append];omega,hb4'⟩
def DmkIs (b t:Txt) (w:World) (e:Ending) (w':World):Prop := ∃ d,e = .returned (.string (B d))∧MkdIs b t d∧Below w.heap.size w w'
set_option maxRecDepth 100000 in
set_option maxHeartbeats 1000000 in
theorem dmake_calls (b t:Txt) (hb:b.length≤1000000) (hs:t.length≤1000000) (w:World) :
 Calls Tryz.prog 95 #[.string (B b), .string (B t)] w (DmkIs b t w):=by
 have hpl:=zBV t
 have hst:=Lib.hid (dsteps_calls b t hb hs w)
 have hl1:=zAn b.length
 have hl2:=zAn t.length
 go_enter Tryz.func95,Tryz.ntmps95
 go_upto_if 16 with (first
  | ((with_reducible refine hst.out.mono ?_);rintro e w1 ⟨d,rfl,h1,h2,hdl,hb1⟩)
  | ((with_reducible refine (zCx t (by omega) _).mono ?_);rintro e w2 ⟨rfl,hb2⟩;have hb2':=bthen hb1 hb1.size hb2))
 all_goals first | (exfalso;omega) | skip
 have k1:=Lib.hid h1
 have k2:=Lib.hid h2
 clear h1 h2
 by_cases hlt:(plnD t).length<d.length
 ·have hr:=Lib.hid (mkd_plain (b:=b) (t:=t) (e:=d) (by omega) (by omega) k2.out hlt)
  have hli:((plnD t).length:Int)<(d.length:Int):=by omega
  generalize plnD t=p at *
  go_wp2_with (first
   | ((with_reducible refine (zCw b.length (by omega) _).mono ?_);rintro e w3 ⟨rfl,hb3⟩;have hb3':=bthen hb2' hb2'.size hb3)
   | ((with_reducible refine (zCw t.length (by omega) _).mono ?_);rintro e w4 ⟨rfl,hb4⟩;have hb4':=bthen hb3' hb3'.size hb4))
  all_goals first | (exfalso;omega) | skip
  go_ret
  exact ⟨_,rfl,hr.out,hb4'⟩
 ·have hr:=Lib.hid (mkd_steps (b:=b) (t:=t) (e:=d) (by omega) (by omega) k1.out k2.out (by omega))
  have hli : ¬ ((plnD t).length:Int)<(d.length:Int):=by omega
  generalize plnD t=p at *
  go_wp2_with (first
   | ((with_reducible refine (zCw b.length (by omega) _).mono ?_);rintro e w3 ⟨rfl,hb3⟩;have hb3':=bthen hb2' hb2'.size hb3)
   | ((with_reducible refine (zCw t.length (by omega) _).mono ?_);rintro e w4 ⟨rfl,hb4⟩;have hb4':=bthen hb3' hb3'.size hb4))
  all_goals first | (exfalso;omega) | skip
  go_ret
  exact ⟨_,rfl,hr.out,hb4'⟩
end Go.Proofs.YtodebknbchaccaaGreatDoor
namespace Go.Proofs.YtodebknbchaccaaGreatDoor
open Go.RowKit
section
def kndZ : Txt→Int
 | [] => -1
 | c::_=>(c.toNat:Int)
set_option maxRecDepth 100000 in
theorem zDV (s:Txt) (hs:s.length≤1000000) (w:World):Calls Tryz.prog 94 #[.string (B s)] w fun e w'=>e = .returned (.int .i64 (kndZ s)) ∧ ∃ n,w'=w.drewN n:=by
 cases s with
 | nil=>
   go_enter Tryz.func94,Tryz.ntmps94
   go_wp2
   go_ret
   exact ⟨rfl,0,rfl⟩
 | cons c s=>
   have hl:(0:Int)<((c::s).length:Int):=by rw [List.length_cons];omega
   have hcl:=c.toNat_lt
   go_enter Tryz.func94,Tryz.ntmps94
   go_wp2
   all_goals try (exfalso;omega)
   go_ret
   exact ⟨rfl,0,rfl⟩
def BetR (x y:PItL) (b t:Txt) (e:Ending):Prop := ∃ r c,e = .returned (.tuple #[.agg (pitC r).toArray, .bool c])∧((c=false∧r=x∧(kndZ b=kndZ t → ∃ d,MkdIs b t d∧x.data.length≤d.length))∨(c=true ∧ ∃ d,r={ y with data:=d }∧MkdIs b t d∧d.length<x.data.length))
attribute [local go_sem ↓] ldvP_eq
set_option maxRecDepth 100000 in
set_option maxHeartbeats 4000000 in
theorem zDX (x y:PItL) (hx:x.base.length=32) (hy:y.base.length=32) (b t:Txt) (hb:b.length≤1000000) (ht:t.length≤1000000) (hxd:x.data.length≤1000000) (w:World) :
 Calls Tryz.prog 59 #[.agg (pitC x).toArray, .agg (pitC y).toArray, .string (B b), .string (B t)] w fun e w'=>BetR x y b t e∧Below w.heap.size w w':=by
 have hz:=zeroPit
 obtain ⟨W1,hW1⟩ : ∃ W1,w.alloc (.cells (pitC x).toArray 30)=W1:=⟨_,rfl⟩
 obtain ⟨W2,hW2⟩ : ∃ W2,W1.alloc (.cells (pitC y).toArray 30)=W2:=⟨_,rfl⟩
 obtain ⟨W3,hW3⟩ : ∃ W3,W2.alloc (.cells (pitC zPit).toArray 30)=W3:=⟨_,rfl⟩
 have bb1:Below w.heap.size w W1:=by rw [←hW1];exact (Below.refl _ _).alloc (Nat.le_refl _) _
 have bb2:Below W1.heap.size W1 W2:=by rw [←hW2];exact (Below.refl _ _).alloc (Nat.le_refl _) _
 have bb3:Below W2.heap.size W2 W3:=by rw [←hW3];exact (Below.refl _ _).alloc (Nat.le_refl _) _
 have x1:PitB W1 w.heap.size x:=⟨by rw [←hW1];exact Blk.new _ _ _,hx⟩
 have y2:PitB W2 W1.heap.size y:=⟨by rw [←hW2];exact Blk.new _ _ _,hy⟩
 have z3:Blk W3 W2.heap.size 30 (pitC zPit).toArray:=by rw [←hW3];exact Blk.new _ _ _
 have x3:=(x1.below bb2).below bb3
 have y3:=y2.below bb3
 have l1:=x1.blk.lt
 have l2:=y2.blk.lt
 have l3:=z3.lt
 have b3:=bthen bb1 bb1.size (bthen bb2 bb2.size bb3)
 have hsz : ∀ r:PItL,r.base.length=32→(Tryz.prog.info? 30).map (·.size)=some (pitC r).toArray.size:=fun r h=>by rw [zAG h];exact szPit
 have hszz : ∀ r:PItL,r.base.length=32→(pitC zPit).toArray.size=(pitC r).toArray.size:=fun r h=>by rw [zAG h];exact zAG (by kernel_rfl)
 have hk1:=fun W=>zDV b hb W
 have hk2:=fun W=>zDV t ht W
 have hmk:=fun W=>dmake_calls b t hb ht W
 have hxa:=zB0 x
 generalize (pitC zPit).toArray=ZC at *
 clear x1 y2 bb1 bb2 bb3
 by_cases hk:kndZ b=kndZ t
 ·have hke:(kndZ b != kndZ t)=false:=by simp [hk]
  have hke2:(kndZ t != kndZ t)=false:=by simp
  rw [hk] at hk1
  have hkh:=Lib.hid hk
  clear hk
  generalize kndZ t=K at *
  go_enter Tryz.func59,Tryz.ntmps59
  go_upto_region 4 with (first
   | ((with_reducible refine (hk1 _).mono ?_);rintro e w4 ⟨rfl,n4,rfl⟩)
   | ((with_reducible refine (hk2 _).mono ?_);rintro e w5 ⟨rfl,n5,rfl⟩)
   | ((with_reducible refine (hmk _).mono ?_);rintro e w6 ⟨d,rfl,hd,hb6⟩
      have b36:Below W3.heap.size W3 w6:=(bdrewN (Below.refl _ _) _).trans hb6
      have x6:=x3.below b36
      have y6:=y3.below b36
      have z6:=z3.below b36 l3
      have m1:=y6.data
      have m2:=y6.fr 34))
  have hn1:W2.heap.size≠W1.heap.size:=by omega
  have hn2:w.heap.size≠W1.heap.size:=by omega
  have b06:=bthen b3 b3.size b36
  have x7:PitB (w6.setCell ⟨W1.heap.size,34,none⟩ (.string (B d))) w.heap.size x:=⟨Blk.far x6.blk (p:=⟨W1.heap.size,34,none⟩) hn2 _,hx⟩
  have y7:=y6.setData d
  have z7:Blk (w6.setCell ⟨W1.heap.size,34,none⟩ (.string (B d))) W2.heap.size 30 ZC:=Blk.far z6 (p:=⟨W1.heap.size,34,none⟩) hn1 _
  have b7:=b06.setCell (p:=⟨W1.heap.size,34,none⟩) (Nat.le_of_lt l1) (.string (B d))
  generalize w6.setCell ⟨W1.heap.size,34,none⟩ (.string (B d))=w7 at *
  have c1:w7.cell? ⟨W1.heap.size,34,none⟩=some (.string (B d)):=y7.data
  have c2:=x7.data
  have dl:d.length≤1000040:=by have:=hd.1;omega
  by_cases hlt:x.data.length≤d.length
  ·have hli:((x.data.length:Nat):Int)≤(d.length:Int):=by omega
   have ldx:=x7.load
   have hres:BetR x y b t (.returned (.tuple #[.agg (pitC x).toArray, .bool false])):=⟨x,false,rfl, .inl ⟨rfl,rfl,fun _=>⟨d,hd,hlt⟩⟩⟩
   have hs1:=hsz x hx
   have hs2:=hszz x hx
   have hres:=Lib.hid hres
   obtain ⟨CX,hCX⟩ : ∃ CX,(pitC x).toArray=CX:=⟨_,rfl⟩
   rw [hCX] at ldx hres hs1 hs2 hxa
   clear hCX hd x3 y3 x6 y6 z6 hsz hszz
   go_wp2_with (first
    | (refine wpList_store_row rfl 30 (.tmp 8) (.tmp 27) rfl W2.heap.size CX rfl rfl _ _ z7 hs1 hs2 hxa ?_))
   all_goals try (exfalso;omega)
   refine bodyPost_ret (zAe rfl _ _ W2.heap.size _ _ _ _ rfl (setRow_heap _ _ _ _ _ _ z7) Tryz.underlying30 rfl hs1) rfl ?_
   exact ⟨hres.out,zAa b7 (by omega) _⟩
  ·have hli : ¬ ((x.data.length:Nat):Int)≤(d.length:Int):=by omega
   have ldy:=y7.load
   have hres:BetR x y b t (.returned (.tuple #[.agg (pitC { y with data:=d }).toArray, .bool true])):=⟨_,true,rfl, .inr ⟨rfl,d,rfl,hd,by omega⟩⟩
   have hs1:=hsz { y with data:=d } hy
   have hs2:=hszz { y with data:=d } hy
   have hya:=zB0 { y with data:=d }
   have hres:=Lib.hid hres
   obtain ⟨CX,hCX⟩ : ∃ CX,(pitC { y with data:=d }).toArray=CX:=⟨_,rfl⟩
   rw [hCX] at ldy hres hs1 hs2 hya
   clear hCX hd x3 y3 x6 y6 z6 hsz hszz
   go_wp2_with (first
    | (refine wpList_store_row rfl 30 (.tmp 8) (.tmp 28) rfl W2.heap.size CX rfl rfl _ _ z7 hs1 hs2 hya ?_))
   all_goals try (exfalso;omega)
   refine bodyPost_ret (zAe rfl _ _ W2.heap.size _ _ _ _ rfl (setRow_heap _ _ _ _ _ _ z7) Tryz.underlying30 rfl hs1) rfl ?_
   exact ⟨hres.out,zAa b7 (by omega) _⟩
 ·have hke:(kndZ b != kndZ t)=true:=by simp [hk]
  have hkd:(kndZ b==kndZ t)=false:=by simp [hk]
  have ldx:=fun n=>(x3.drewN n).load
  have hres:BetR x y b t (.returned (.tuple #[.agg (pitC x).toArray, .bool false])):=⟨x,false,rfl, .inl ⟨rfl,rfl,fun h=>absurd h hk⟩⟩
  have hs1:=hsz x hx
  have hs2:=hszz x hx
  have hres:=Lib.hid hres
  obtain ⟨CX,hCX⟩ : ∃ CX,(pitC x).toArray=CX:=⟨_,rfl⟩
  rw [hCX] at hres hs1 hs2 hxa hW1
  simp only [hCX] at ldx
  rw [hCX]
  clear hCX hk hsz hszz hmk x3 y3
  generalize kndZ b=K1 at *
  generalize kndZ t=K2 at *
  go_enter Tryz.func59,Tryz.ntmps59
  go_wp2_with (first
   | ((with_reducible refine (hk1 _).mono ?_);rintro e w4 ⟨rfl,n4,rfl⟩)
   | ((with_reducible refine (hk2 _).mono ?_);rintro e w5 ⟨rfl,n5,rfl⟩
      have z5:=z3.drewN (n4+n5)
      have l5:=ldx (n4+n5)
      have b5:=bdrewN b3 (n4+n5))
   | (refine wpList_store_row rfl 30 (.tmp 8) (.tmp 15) rfl W2.heap.size CX rfl rfl _ _ z5 hs1 hs2 hxa ?_))
  all_goals try (exfalso;omega)
  refine bodyPost_ret (zAe rfl _ _ W2.heap.size _ _ _ _ rfl (setRow_heap _ _ _ _ _ _ z5) Tryz.underlying30 rfl hs1) rfl ?_
  exact ⟨hres.out,zAa b5 (by omega) _⟩
end
section
def mustB (bases:List Txt) (thin:Bool) (t:Txt):Prop:=thin=true∧100≤t.length∧t.length≤4096∧t∈bases
structure InI (bases:List Txt) (thin:Bool) (t:Txt) (x:PItL) (m j:Nat):Prop where
 form:(x=⟨0,0,noId',t⟩∧m=0∧(¬ mustB (bases.take j) thin t))∨(∃ b d,thin=true∧b∈bases∧x=⟨2,0,shaOf b,d⟩∧m=1∧(t.length≤4096→apD b d=(t,0))∧d.length<t.length)
structure InE (bases:List Txt) (ofs thin:Bool) (pre:Option (Txt×Nat)) (t:Txt) (x:PItL) (m:Nat):Prop where
 mko:MkO bases ofs thin pre t x m
 must:mustB bases thin t→x.kind≠0
 le:m≤8
section
variable {bases:List Txt} {ofs thin:Bool} {pre:Option (Txt×Nat)} {t b:Txt} {x r:PItL} {m j:Nat}
theorem mk_data (h:MkO bases ofs thin pre t x m):x.data.length≤t.length:=by
 cases h with
 | full=>exact Nat.le_refl _
 | ref _ _ _ h=>exact Nat.le_of_lt h
 | ofs _ _ _ _ h=>exact Nat.le_of_lt h
theorem mk_full (h:MkO bases ofs thin pre t x m) (h0:x.kind=0):x.data=t:=by
 cases h with
 | full=>rfl
 | ref _ _ _ _=>simp at h0
 | ofs _ _ _ _ _=>simp at h0
theorem InI.start : InI bases thin t ⟨0,0,noId',t⟩ 0 0:=⟨.inl ⟨rfl,rfl,fun h=>by have:=h.2.2.2;simp at this⟩⟩
theorem InI.base (h:InI bases thin t x m j):x.base.length=32:=by
 rcases h.form with ⟨rfl,_⟩ | ⟨b,d,_,_,rfl,_⟩
 ·exact zA5
 ·exact zAQ _
theorem InI.data (h:InI bases thin t x m j):x.data.length≤t.length:=by
 rcases h.form with ⟨rfl,_⟩ | ⟨b,d,_,_,rfl,_,_,h⟩
 ·exact Nat.le_refl _
 ·exact Nat.le_of_lt h
theorem InI.ends (h:InI bases thin t x m j) (he:thin=false∨x.data.length≤64∨bases.length≤j):InE bases ofs thin pre t x m:=by
 rcases h.form with ⟨rfl,rfl,h3⟩ | ⟨b,d,h1,h2,rfl,rfl,h5,h6⟩
 ·refine ⟨MkO.full,fun hm=>absurd ?_ h3,by omega⟩
  obtain ⟨k1,k2,k3,k4⟩:=hm
  rcases he with he | he | he
  ·rw [he] at k1;cases k1
  ·have:t.length≤64:=he
   omega
  ·rw [List.take_of_length_le he];exact ⟨k1,k2,k3,k4⟩
 ·exact ⟨MkO.ref h1 h2 h5 h6,fun _=>by simp,by omega⟩
theorem mkd_own {d:Txt} (hd:MkdIs b t d) (he:b=t) (h1:100≤t.length) (h2:t.length≤4096):d.length<t.length:=hd.2.2 he h1 h2
theorem InI.no (h:InI bases thin t x m j) (hb:bases[j]?=some b) (hn:kndZ b=kndZ t → ∃ d,MkdIs b t d∧x.data.length≤d.length):InI bases thin t x m (j+1):=by
 rcases h.form with ⟨rfl,rfl,h3⟩ | h
 ·refine ⟨.inl ⟨rfl,rfl,fun hm=>?_⟩⟩
  obtain ⟨k1,k2,k3,k4⟩:=hm
  rw [List.take_add_one,hb] at k4
  rcases List.mem_append.1 k4 with k4 | k4
  ·exact h3 ⟨k1,k2,k3,k4⟩
  ·have he:t=b:=by simpa using k4
   subst he
   obtain ⟨d,hd,hle⟩:=hn rfl
   have:=mkd_own hd rfl k2 k3
   have hle:t.length≤d.length:=hle
   omega
 ·exact ⟨.inr h⟩
theorem InI.yes (h:InI bases thin t x m j) (ht:thin=true) (hb:bases[j]?=some b) {d:Txt} (hd:MkdIs b t d) (hlt:d.length<x.data.length):InI bases thin t ⟨2,0,shaOf b,d⟩ 1 (j+1):=
 ⟨.inr ⟨b,d,ht,List.mem_of_getElem? hb,rfl,rfl,hd.2.1,by have:=h.data;omega⟩⟩
structure InO (bases:List Txt) (ofs thin:Bool) (pre:Option (Txt×Nat)) (t:Txt) (x:PItL) (m:Nat):Prop where
 mko:MkO bases ofs thin pre t x m
 must:mustO bases ofs thin pre t→x.kind≠0
 le:m≤8
theorem mustO_split (h:mustO bases ofs thin pre t):mustB bases thin t∨(ofs=true∧pre=some (t,0)∧100≤t.length∧t.length≤4096):=by
 obtain ⟨h1,h2,h3 | h3⟩:=h
 ·exact .inl ⟨h3.1,h1,h2,h3.2⟩
 ·exact .inr ⟨h3.1,h3.2,h1,h2⟩
theorem InE.skip (h:InE bases ofs thin pre t x m) (hn : ¬ (ofs=true ∧ ∃ p n,pre=some (p,n)∧n<8)):InO bases ofs thin pre t x m:=by
 refine ⟨h.mko,fun hm=>?_,h.le⟩
 rcases mustO_split hm with hm | ⟨h1,h2,_⟩
 ·exact h.must hm
 ·exact absurd ⟨h1,t,0,h2,by omega⟩ hn
theorem InE.no (h:InE bases ofs thin pre t x m) {p:Txt} {n:Nat} (hp:pre=some (p,n)) (hn:kndZ p=kndZ t → ∃ d,MkdIs p t d∧x.data.length≤d.length):InO bases ofs thin pre t x m:=by
 refine ⟨h.mko,fun hm=>?_,h.le⟩
 rcases mustO_split hm with hm | ⟨h1,h2,h3,h4⟩
 ·exact h.must hm
 ·intro h0
  rw [hp] at h2
  obtain ⟨rfl,rfl⟩:p=t∧n=0:=by simpa using h2
  obtain ⟨d,hd,hle⟩:=hn rfl
  have:=mkd_own hd rfl h3 h4
  rw [mk_full h.mko h0] at hle
  omega
theorem InE.yes (h:InE bases ofs thin pre t x m) (ho:ofs=true) {p:Txt} {n:Nat} (hp:pre=some (p,n)) (h8:n<8) {d:Txt} (hd:MkdIs p t d) (hlt:d.length<x.data.length):InO bases ofs thin pre t ⟨1,1,noId',d⟩ (n+1):=
 ⟨MkO.ofs ho hp h8 hd.2.1 (by have:=mk_data h.mko;omega),fun _=>by simp,by omega⟩
end
def PreI (ts:List Txt) (c:List Nat) (k n:Nat):Prop:=(k=0→(ts.take k).zip c=[])∧(∀ p,0<k→ts[k-1]?=some p→((ts.take k).zip c).getLast?=some (p,n))
theorem PreI.none {ts:List Txt} {c:List Nat} {n:Nat} (h:PreI ts c 0 n):((ts.take 0).zip c).getLast?=none:=by rw [h.1 rfl];rfl
theorem PreI.next {ts:List Txt} {c:List Nat} {k n:Nat} {t:Txt} (hk:ts[k]?=some t) (hc:c.length=k):PreI ts (c++[n]) (k+1) n:=by
 refine ⟨fun h=>by omega,fun p _ hp=>?_⟩
 rw [Nat.add_sub_cancel,hk] at hp
 cases hp
 have hlt:=(List.getElem?_eq_some_iff.1 hk).1
 rw [List.take_add_one,hk]
 show ((ts.take k++[t]).zip (c++[n])).getLast?=_
 rw [List.zip_append (by rw [List.length_take];omega)]
 simp
theorem MkL.push {bases ts:List Txt} {ofs thin:Bool} {l:List PItL} {c:List Nat} {k m:Nat} {t:Txt} {x:PItL} (h:MkL bases ofs thin (ts.take k) l c) (hk:ts[k]?=some t) (hx:InO bases ofs thin (((ts.take k).zip c).getLast?) t x m):MkL bases ofs thin (ts.take (k+1)) (l++[x]) (c++[m]):=by
 rw [List.take_add_one,hk]
 exact MkL.snoc h hx.mko hx.must
theorem MkL.data {bases ts:List Txt} {ofs thin:Bool} {l:List PItL} {c:List Nat} (h:MkL bases ofs thin ts l c) : ∀ x∈l, ∃ t∈ts,x.data.length≤t.length:=by
 induction h with
 | nil=>intro x hx;simp at hx
 | @snoc ts l c t x n _ ho _ ih=>
   intro y hy
   rcases List.mem_append.1 hy with hy | hy
   ·obtain ⟨u,hu,hd⟩:=ih y hy
    exact ⟨u,by simp [hu],hd⟩
   ·rw [List.mem_singleton.1 hy]
    exact ⟨t,by simp,mk_data ho⟩
end
section
theorem ownP_snoc {w:World} {b:Nat} {v:Value} {L:List Pl} {p:Pl} {DC:Array Value} (hDC:(pitC p.1).toArray=DC) (h:w.ownsRow b 30 35 v (L.length+1) (rowsOf (fun p:Pl=>pitC p.1) L++DC.toList)):OwnPits w b v (L++[p]):=by
 subst hDC
 unfold OwnPits
 rw [List.length_append,List.length_singleton,zAo,zAx]
 rwa [List.toList_toArray] at h
def bldP (fs:Array (Nat×Value)):Sem Value:=Instr.build 30 fs
theorem bldP_eq (fs:Array (Nat×Value)):Instr.build 30 fs=bldP fs:=rfl
attribute [local go_sem ↓] ldvI_eq bldP_eq
theorem preOkQ {w:World} {B:Nat} {e:TypeId} {size n i:Nat} {v:Value} {xs:List Value} (h:w.ownsRow B e size v n xs):PreOk w [(i,v.ownBlock,fun w=>World.ownsRow w B e size v n xs)]:=PreOk.cons (PreOk.nil w) (fun q hq=>by simp at hq) (fun k hk=>(World.ownsRow.lt h k hk).2) h fun w' _ hs=>zCk h hs
theorem rowsQ {i k:Nat} {row:Option Nat} {p:World→Prop} (h:some k∈rowsOfP [(i,row,p)]):row=some k:=by
 have:some k=row:=by simpa [rowsOfP] using h
 exact this.symm
theorem built_pit4 (x:PItL) (hid:x.base.length=32):Tryz.prog.built 30 [(0, .int .i64 x.kind),(1, .int .i64 x.back),(2, .agg (u8s x.base)),(3, .string (B x.data))]=some (pitC x).toArray:=by
 obtain ⟨k,b,i,d⟩:=x
 obtain ⟨f,rfl⟩:=len32 hid
 kernel_rfl
theorem run_bldP (x:PItL) (hid:x.base.length=32) (W:World):(bldP #[(0, .int .i64 x.kind),(1, .int .i64 x.back),(2, .agg (u8s x.base)),(3, .string (B x.data))]).run Tryz.prog W = .ok (.agg (pitC x).toArray) W:=run_build (P:=Tryz.prog) W _ _ _ (built_pit4 x hid)
set_option maxRecDepth 100000 in
set_option maxHeartbeats 4000000 in
theorem zDb (l:List Pl) (hok : ∀ p∈l,p.1.base.length=32) (hll:l.length≤1000000) (va:Value) (w:World) (ha:Rits w va l) :
 Calls Tryz.prog 11 #[va] w fun e w' => ∃ v,e = .returned v∧OwnPits w' w.heap.size v l∧Below w.heap.size w w':=by
 have hla:=ha.len
 obtain ⟨A,capa,rfl,ha1,ha2,hata⟩:=ha
 have hfin:l.take l.length=l:=List.take_length
 go_enter Tryz.func11,Tryz.ntmps11
 go_wp2
 go_loopg [3,4] l.length (fun f vo vi wr => ∃ v k,v=vo∧vi = .int .i64 ((k:Nat):Int)∧k+f=l.length∧OwnPits wr w.heap.size v (l.take k)∧Below w.heap.size w wr)
 case atStart=>exact ⟨_,0,rfl,rfl,by omega,World.ownsRow_nil _ _ _ _,Below.refl _ _⟩
 case round=>
  obtain ⟨vo,k,rfl,rfl,hkf,hown,hbel⟩:=hrel
  cases gk with
  | zero=>
    obtain rfl:k=l.length:=by omega
    rw [hfin] at hown
    clear hfin
    go_wp2
    all_goals try (exfalso;omega)
    go_ret
    exact ⟨_,rfl,hown,hbel⟩
  | succ f=>
    have hlt:k<l.length:=by omega
    have hki:(k:Int)<(l.length:Int):=by omega
    obtain ⟨ga,oa,rfl,hga,hca⟩:=hata (by omega)
    obtain ⟨p,hx⟩ : ∃ p,l[k]?=some p:=⟨_,List.getElem?_eq_getElem hlt⟩
    have hx32:p.1.base.length=32:=hok p (List.mem_of_getElem? hx)
    have hr:=hca k p hx
    have hmore:Hid (l.take (k+1)=l.take k++[p]):=by
     show _=_
     rw [List.take_add_one,hx];rfl
    have hLk:(l.take k).length≤1000000:=by rw [List.length_take];omega
    obtain ⟨L,hL⟩ : ∃ L,l.take k=L:=⟨_,rfl⟩
    rw [hL] at hown hmore hLk
    obtain ⟨A',c',rfl⟩:=zAm hown
    have hc0:=fun W (hW:Below w.heap.size w W)=>rit_kind (zAb hr hga hW)
    have hc1:=fun W (hW:Below w.heap.size w W)=>rit_back (zAb hr hga hW)
    have hc2:=fun W (hW:Below w.heap.size w W)=>zCL (rit_base (zAb hr hga hW)) hx32
    have hc3:=fun W (hW:Below w.heap.size w W)=>rit_data hx32 (zAb hr hga hW)
    have hbd:=run_bldP p.1 hx32
    have h35:(pitC p.1).toArray.size=35:=zAG hx32
    have h1 : ∀ u∈(pitC p.1).toArray.toList,u.oneCell'=true:=by rw [List.toList_toArray];exact pitC_one _
    obtain ⟨DC,hDC⟩ : ∃ DC,(pitC p.1).toArray=DC:=⟨_,rfl⟩
    rw [hDC] at h35 h1
    simp only [hDC] at hbd
    replace hDC:=Lib.hid hDC
    have hAk:L.length+1≤9223372036854775807:=by omega
    have hAb:(L.length+1)*64≤140737488355328:=by omega
    have hpre:=preOkQ (i:=23) hown
    have hbs:=hbel.size
    have hrB : ∀ k,some k∈rowsOfP [(23,(Value.slice A' L.length c').ownBlock,fun W=>World.ownsRow W w.heap.size 30 35 (.slice A' L.length c') L.length (rowsOf (fun p=>pitC p.1) L))]→w.heap.size≤k:=fun k hk=>(World.ownsRow.lt hown k (rowsQ hk)).1
    clear hr hL hx hca hata
    go_upto_region 5 with (fail)
    refine zBG 25 [(23,(Value.slice A' L.length c').ownBlock,fun W=>World.ownsRow W w.heap.size 30 35 (.slice A' L.length c') L.length (rowsOf (fun p=>pitC p.1) L))] hpre (by kernel_rfl) (by kernel_rfl) (by kernel_rfl) (by kernel_rfl) ?_
    simp only [exSp]
    iterate 25 apply Exists.intro
    repeat
     first
      | ((with_reducible apply lx_ex)
         ·(go_simp;done)
         apply Exists.intro
         apply And.intro
         ·apply Eq.refl
         apply And.intro
         ·intro W hF hD
          first
           | (have hb:=hbel.trans ((zBg hF).below hbs hrB)
              have q0:=hc0 W hb
              have q1:=hc1 W hb
              have q2:=hc2 W hb
              have q3:=hc3 W hb
              go_simp
              rfl)
           | (have hb:=hbel.trans ((zBg hF).below hbs hrB)
              have q3:=hbd W
              go_simp
              rfl)
           | (have hb:=hbel.trans ((zBg hF).below hbs hrB)
              go_simp
              rfl)
         simp only [Act.put,zA,zB,zC])
      | ((with_reducible apply lx_pass)
         ·(first | rfl | (go_simp;done))
         ·apply Eq.refl
         simp only [Act.put,zA,zB,zC])
      | (first | (with_reducible apply zBi) | (with_reducible apply zAO)
         ·apply Eq.refl
         apply Exists.intro
         apply And.intro
         ·(go_simp;rfl)
         simp only [Act.put,zA,zB,zC])
      | ((with_reducible apply lx_slice1 Tryz.pitTy (fun cs=>cs=DC) (by omega))
         ·apply Eq.refl
         apply Exists.intro
         apply And.intro
         ·(go_simp;rfl)
         refine ⟨fun W hF hD=>?_,?_⟩
         ·exact ⟨DC,rfl,h35,rfl⟩
         intro v
         simp only [Act.put,zA,zB,zC])
      | ((with_reducible apply lx_append1 Tryz.pitTy w.heap.size (.slice A' L.length c') L.length (rowsOf (fun p=>pitC p.1) L) (fun xs=>xs=rowsOf (fun p=>pitC p.1) L++DC.toList) hAk hAb)
         ·exact hbs
         ·first | exact List.Mem.head _ | exact List.Mem.tail _ (List.Mem.head _) | exact List.Mem.tail _ (List.Mem.tail _ (List.Mem.head _)) | exact List.Mem.tail _ (List.Mem.tail _ (List.Mem.tail _ (List.Mem.head _)))
         ·apply Eq.refl
         apply Exists.intro
         apply Exists.intro
         apply And.intro
         ·(go_simp;rfl)
         apply And.intro
         ·(go_simp;rfl)
         refine ⟨rfl,fun W hF hD=>?_,?_⟩
         ·obtain ⟨F,g5,cs,rfl,_,hk5,rfl⟩:=hD.at 0 rfl (by kernel_rfl)
          exact ⟨g5,_,rfl,hk5,h35,h1,rfl⟩
         intro v
         simp only [Act.put,zA,zB,zC])
    refine lxP_nil ?_ fun w8 hF8 hD8=>?_
    ·exact List.nodup_nil
    obtain ⟨_,xs,rfl,hv8,_⟩:=hD8 _ (.head _)
    have b8:=hbel.trans (hF8.below hbs hrB)
    have hown8:=ownP_snoc hDC.out hv8
    clear hv8 hD8 hF8 hpre hrB hown hc0 hc1 hc2 hc3 hbd
    go_wp2_with (fail)
    go_roundg f
    case rel=>exact ⟨_,k+1,rfl,by go_num,by omega,by rw [hmore.out];exact hown8,b8⟩
    case measure=>omega
end
theorem TabK.alloc_ {w:World} (h:TabK w) (o:Obj):TabK (w.alloc o):=h.below ((Below.refl _ _).alloc (Nat.le_refl _) o)
set_option maxRecDepth 100000 in
set_option maxHeartbeats 2000000 in
theorem objId_calls (s:Txt) (hs:s.length≤1000000000) (w:World) (hK:TabK w):Calls Tryz.prog 48 #[.string (B s)] w fun e w'=>e = .returned (.agg (u8s (shaOf s)))∧Below w.heap.size w w':=by
 have hzv:=zeroIdV
 have hzl:(u8s noId).size=32:=by rw [zAh,zAc]
 generalize u8s noId=Z at *
 obtain ⟨W1,hW1⟩ : ∃ W1,w.alloc (.cells Z 28)=W1:=⟨_,rfl⟩
 have hx1:Blk W1 w.heap.size 28 Z:=by rw [←hW1];exact Blk.new _ _ _
 have b1:Below w.heap.size w W1:=by rw [←hW1];exact (Below.refl _ _).alloc (Nat.le_refl _) _
 obtain ⟨W2,hW2⟩ : ∃ W2,W1.alloc (.cells #[.string (B s)] 9)=W2:=⟨_,rfl⟩
 have hb2:Below W1.heap.size W1 W2:=by rw [←hW2];exact (Below.refl _ _).alloc (Nat.le_refl _) _
 have hy2:Blk W2 W1.heap.size 9 #[.string (B s)]:=by rw [←hW2];exact Blk.new _ _ _
 have hx2:=hx1.below hb2 hx1.lt
 have b2:=bthen b1 b1.size hb2
 have hK2:TabK W2:=by rw [←hW2,←hW1];exact (hK.alloc_ _).alloc_ _
 have hst:Strs W2 (.slice (some ⟨W1.heap.size,0,none⟩) 1 1) [s] := .inr ⟨W1.heap.size,0,1,rfl,fun j l hj=>by
  match j,hj with
  | 0,hj=>
    injection hj with hj
    subst hj
    rw [hy2.cell];rfl
  | j+1,hj=>simp at hj,hy2.lt,by simp,by simp⟩
 have hsum:=sum_calls [s] _ W2 hK2 hst (by simp;omega)
 have hfl:[s].flatten=s:=by simp
 rw [hfl] at hsum
 have hsum:=Lib.hid hsum
 have hl:=zAQ s
 have hsz:(Tryz.prog.info? 28).map (·.size)=some (u8s (shaOf s)).size:=by rw [zAh,hl];exact sz32
 have h32:(u8s (shaOf s)).size=32:=by rw [zAh,hl]
 have hone:=u8s_one (shaOf s)
 obtain ⟨D,hD⟩ : ∃ D,Hid (u8s (shaOf s)=D):=⟨_,Lib.hid rfl⟩
 rw [hD.out] at hsum hsz h32 hone
 clear hy2 hK2 hst hfl hl hx1 b1 hb2
 go_enter Tryz.func48,Tryz.ntmps48
 go_wp2_with (first
  | ((with_reducible refine hsum.out.mono ?_);rintro e w3 ⟨rfl,hb3⟩
     have hx3:=hx2.below hb3 hx2.lt
     have b3:=bthen b2 b2.size hb3
     clear hsum hW1 hW2)
  | (refine wpList_store_row rfl 28 (.tmp 2) (.tmp 5) rfl w.heap.size D rfl rfl _ _ hx3 hsz (by rw [hzl,h32]) hone ?_))
 exact bodyPost_ret (results_cell_row rfl _ _ w.heap.size _ _ _ _ rfl (setRow_heap _ _ _ _ _ _ hx3) Tryz.underlying28 rfl hsz) rfl ⟨by rw [hD.out],zAa b3 (Nat.le_refl _) _⟩
section
abbrev OwnPitL (w:World) (b:Nat) (v:Value) (l:List PItL):Prop:=w.ownsRow b 30 35 v l.length (rowsOf pitC l)
def Mk16R (bases ts:List Txt) (ofs thin:Bool) (b:Nat) (e:Ending) (w':World):Prop := ∃ v l c,e = .returned v∧OwnPitL w' b v l∧MkL bases ofs thin ts l c ∧ ∀ x∈l,x.data.length≤1000000∧x.base.length=32
def BetV (x y:PItL) (b t:Txt) (v:Value):Prop := ∃ r c,v = .tuple #[.agg (pitC r).toArray, .bool c]∧r.base.length=32∧((c=false∧r=x∧(kndZ b=kndZ t → ∃ d,MkdIs b t d∧x.data.length≤d.length))∨(c=true ∧ ∃ d,r={ y with data:=d }∧MkdIs b t d∧d.length<x.data.length))
theorem BetR.val {x y:PItL} {b t:Txt} {e:Ending} (hx:x.base.length=32) (hy:y.base.length=32) (h:BetR x y b t e) : ∃ v,e = .returned v∧BetV x y b t v:=by
 obtain ⟨r,c,rfl,h⟩:=h
 refine ⟨_,rfl,r,c,rfl,?_,h⟩
 rcases h with ⟨_,rfl,_⟩ | ⟨_,d,rfl,_⟩
 ·exact hx
 ·exact hy
theorem built_tPit (t:Txt):Tryz.prog.built 30 [(3, .string (B t))]=some (pitC ⟨0,0,noId',t⟩).toArray:=by kernel_rfl
theorem built_rPit (i:Txt) (hi:i.length=32):Tryz.prog.built 30 [(0, .int .i64 2),(2, .agg (u8s i))]=some (pitC ⟨2,0,i,[]⟩).toArray:=by
 obtain ⟨f,rfl⟩:=len32 hi
 kernel_rfl
theorem built_oPit : Tryz.prog.built 30 [(0, .int .i64 1),(1, .int .i64 1)]=some (pitC ⟨1,1,noId',[]⟩).toArray:=by kernel_rfl
theorem bld_tPit (t:Txt) (W:World):(bldP #[(3, .string (B t))]).run Tryz.prog W = .ok (.agg (pitC ⟨0,0,noId',t⟩).toArray) W:=run_build (P:=Tryz.prog) W _ _ _ (built_tPit t)
theorem bld_rPit (i:Txt) (hi:i.length=32) (W:World):(bldP #[(0, .int .i64 2),(2, .agg (u8s i))]).run Tryz.prog W = .ok (.agg (pitC ⟨2,0,i,[]⟩).toArray) W:=run_build (P:=Tryz.prog) W _ _ _ (built_rPit i hi)
theorem bld_oPit (W:World):(bldP #[(0, .int .i64 1),(1, .int .i64 1)]).run Tryz.prog W = .ok (.agg (pitC ⟨1,1,noId',[]⟩).toArray) W:=run_build (P:=Tryz.prog) W _ _ _ built_oPit
attribute [local go_sem ↓] ldvP_eq bldP_eq
set_option maxRecDepth 100000 in
set_option maxHeartbeats 16000000 in
theorem make16_calls (ts bases:List Txt) (hts : ∀ t∈ts,t.length≤1000000) (htl:ts.length≤1000000) (hbs : ∀ t∈bases,t.length≤1000000) (hbl:bases.length≤1000000) (ofs thin:Bool) (va vb:Value) (w:World) (hva:Txs w va ts) (hvb:Txs w vb bases) (hK:TabK w) :
 Calls Tryz.prog 29 #[va,vb, .bool ofs, .bool thin] w fun e w'=>Mk16R bases ts ofs thin w.heap.size e w'∧Below w.heap.size w w':=by
 obtain ⟨At,ct,rfl,ht1,ht2,hatt⟩:=hva
 obtain ⟨Ab,cb,rfl,hb1,hb2,hatb⟩:=hvb
 have h35z:(pitC zPit).toArray.size=35:=zAG (by kernel_rfl)
 have hzP:=zeroPit
 have hszZ:(Tryz.prog.info? 30).map (·.size)=some (pitC zPit).toArray.size:=by rw [h35z];exact szPit
 have hszr : ∀ r:PItL,r.base.length=32→(pitC r).toArray.size=(pitC zPit).toArray.size:=fun r h=>by rw [zAG h,h35z]
 obtain ⟨ZC,hZC⟩ : ∃ ZC,(pitC zPit).toArray=ZC:=⟨_,rfl⟩
 rw [hZC] at h35z hszZ
 simp only [hZC] at hzP hszr
 clear hZC
 go_enter Tryz.func29,Tryz.ntmps29
 go_wp2_with (fail)
 go_loopg [9,10,23] ts.length (fun f v9 v10 v23 wr => ∃ (v:Value) (l:List PItL) (c:List Nat) (k n:Nat),v=v9∧v10 = .int .i64 n∧v23 = .int .i64 k∧k+f=ts.length∧OwnPitL wr w.heap.size v l∧Hid (MkL bases ofs thin (ts.take k) l c)∧Hid (PreI ts c k n)∧n≤8∧(k=0→n=0)∧Below w.heap.size w wr)
 case atStart=>exact ⟨_,[],[],0,0,rfl,rfl,rfl,by omega,World.ownsRow_nil _ _ _ _,Lib.hid (by rw [List.take_zero];exact MkL.nil),Lib.hid ⟨fun _=>by simp,fun p h=>absurd h (Nat.lt_irrefl _)⟩,by omega,fun _=>rfl,Below.refl _ _⟩
 case round=>
  obtain ⟨v,l,c,k,n,rfl,rfl,rfl,hkf,hown,hmk,hpre,hn8,hk0,hbel⟩:=hrel
  have hbz:=hbel.size
  obtain ⟨A7,c7,rfl⟩:=zAm hown
  cases gk with
  | zero=>
    obtain rfl:k=ts.length:=by omega
    have hm:=hmk.out
    rw [List.take_length] at hm
    have hres:Mk16R bases ts ofs thin w.heap.size (.returned (.slice A7 l.length c7)) wr:=⟨_,l,c,rfl,hown,hm,fun x hx=>by
     obtain ⟨t,ht,hd⟩:=hm.data x hx
     exact ⟨Nat.le_trans hd (hts t ht),hm.ok x hx⟩⟩
    clear hatt hatb hm
    go_wp2_with (fail)
    all_goals try (exfalso;omega)
    go_ret
    exact ⟨hres,hbel⟩
  | succ f=>
    have hki:(k:Int)<(ts.length:Int):=by omega
    obtain ⟨gt,ot,rfl,hgt,hct⟩:=hatt (by omega)
    obtain ⟨t,ht⟩ : ∃ t,ts[k]?=some t:=⟨_,List.getElem?_eq_getElem (by omega)⟩
    have htm:=hts t (List.mem_of_getElem? ht)
    have ct0:=(zAb (hct k t ht) hgt hbel) 0 _ rfl
    rw [Nat.add_zero,Nat.mul_one] at ct0
    have hlc:=hmk.out.len
    have hlen:l.length=k∧c.length=k:=by rw [List.length_take] at hlc;omega
    obtain ⟨pre,hpr⟩ : ∃ pre,((ts.take k).zip c).getLast?=pre:=⟨_,rfl⟩
    have hpn:k=0→pre=none:=fun h=>by subst h;rw [←hpr];exact hpre.out.none
    have hps : ∀ p,0<k→ts[k-1]?=some p→pre=some (p,n):=fun p h0 hp=>by rw [←hpr];exact hpre.out.2 p h0 hp
    have hpush : ∀ (x:PItL) (m:Nat),InO bases ofs thin pre t x m→MkL bases ofs thin (ts.take (k+1)) (l++[x]) (c++[m]):=fun x m h=>hmk.out.push ht (by rw [hpr];exact h)
    have hpnx : ∀ m,PreI ts (c++[m]) (k+1) m:=fun m=>PreI.next ht hlen.2
    have hpush:=Lib.hid hpush
    have hpnx:=Lib.hid hpnx
    have hl1:l.length≤1000000:=by omega
    have hbd:=bld_tPit t
    have h35:(pitC ⟨0,0,noId',t⟩).toArray.size=35:=zAG zA5
    have hone:=zB0 ⟨0,0,noId',t⟩
    have hR3 : ∀ W g,Blk W g 30 (pitC ⟨0,0,noId',t⟩).toArray→PitB W g ⟨0,0,noId',t⟩:=fun W g h=>⟨h,zA5⟩
    have hI0:InI bases thin t ⟨0,0,noId',t⟩ 0 0:=InI.start
    obtain ⟨CX,hCX⟩ : ∃ CX,(pitC ⟨0,0,noId',t⟩).toArray=CX:=⟨_,rfl⟩
    rw [hCX] at h35 hone
    simp only [hCX] at hbd hR3
    generalize (⟨0,0,noId',t⟩:PItL)=x0 at *
    have hR3:=Lib.hid hR3
    clear hCX hmk hpre hpr hlc hlen
    go_upto_block 2 with (first
     | ((with_reducible refine lit_new 30 (.tmp 13) (.tmp 29) CX 35 szPit h35 hone _ ?_ ?_ ?_ ?_)
        ·first | exact h35 | exact h35z | rfl
        ·rfl
        ·rfl
        intro w3 hk3 hb3))
    all_goals try (exfalso;omega)
    have r3:=hR3.out _ _ hk3
    have n7 : ∀ k,(Value.slice A7 l.length c7).ownBlock=some k→some k ∉ [some wr.heap.size]:=fun k hk hm=>by have h1:=(World.ownsRow.lt hown k hk).2;rw [List.mem_singleton.1 hm |> Option.some.inj] at h1;omega
    have w7o:=zAf hown hb3
    have b3:Below w.heap.size w w3:=hbel.trans (hb3.mono hbz)
    have hsz3:=b3.size
    have hgs:some wr.heap.size∈[some wr.heap.size]:=List.mem_singleton.2 rfl
    have F0 : ∀ W,Far [some wr.heap.size] w3 W→Below w.heap.size w W:=fun W hf=>b3.trans (hf.below hsz3 fun k hk=>by rw [List.mem_singleton.1 hk |> Option.some.inj];omega)
    have f3:Far [some wr.heap.size] w3 w3:=Far.refl _ _
    (try simp only [Act.put,zA,zB,zC])
    clear hR3 hk3 hb3 hbd h35 hone ct0 hown hbel
    go_cut [14,23] from 23 to 87 (fun s14 s23 wx=>s23 = .int .i64 k ∧ ∃ (m:Nat) (x:PItL),s14 = .int .i64 m∧PitB wx wr.heap.size x∧InE bases ofs thin pre t x m∧Far [some wr.heap.size] w3 wx)
    case first=>
     clear hpush hpnx hps hpn hct ht
     go_wp2_with (fail)
     go_loopg [14,32] bases.length (fun f2 v14 v32 wx => ∃ (m j:Nat) (x:PItL),v14 = .int .i64 m∧v32 = .int .i64 j∧j+f2=bases.length∧PitB wx wr.heap.size x∧InI bases thin t x m j∧Far [some wr.heap.size] w3 wx)
     case atStart=>exact ⟨0,0,x0,rfl,rfl,by omega,r3,hI0,f3⟩
     case round=>
      obtain ⟨m,j,x,rfl,rfl,hjf,rx,hI,hf⟩:=hrel
      clear r3 f3 hI0
      rename World=>wx
      cases gk with
      | zero=>
        have hji : ¬ (j:Int)<(bases.length:Int):=by omega
        have hE:=hI.ends (ofs:=ofs) (pre:=pre) (.inr (.inr (by omega)))
        clear hatb
        go_wp2_with (fail)
        all_goals try (exfalso;omega)
        go_meet
        case rel=>exact ⟨rfl,m,x,rfl,rx,hE,hf⟩
      | succ f2=>
        have hji:(j:Int)<(bases.length:Int):=by omega
        obtain ⟨gb,ob,rfl,hgb,hcb⟩:=hatb (by omega)
        obtain ⟨b,hb⟩ : ∃ b,bases[j]?=some b:=⟨_,List.getElem?_eq_getElem (by omega)⟩
        have hbm:=hbs b (List.mem_of_getElem? hb)
        have hbf:=F0 wx hf
        have cb0:=(zAb (hcb j b hb) hgb hbf) 0 _ rfl
        rw [Nat.add_zero,Nat.mul_one] at cb0
        have cx:=rx.data
        have hxd:=hI.data
        clear hcb hatb
        by_cases hbr:thin=false∨x.data.length≤64
        ·have hE:=hI.ends (ofs:=ofs) (pre:=pre) (hbr.elim .inl fun h => .inr (.inl h))
         cases thin with
         | false=>
           clear hbr
           go_wp2_with (fail)
           all_goals try (exfalso;omega)
           go_meet
           case rel=>exact ⟨rfl,m,x,rfl,rx,hE,hf⟩
         | true=>
           have hxi:((x.data.length:Nat):Int)≤64:=by rcases hbr with h | h;cases h;omega
           clear hbr
           go_wp2_with (fail)
           all_goals try (exfalso;omega)
           go_meet
           case rel=>exact ⟨rfl,m,x,rfl,rx,hE,hf⟩
        ·obtain rfl:thin=true:=by cases thin;exact absurd (.inl rfl) hbr;rfl
         have hxi : ¬ ((x.data.length:Nat):Int)≤64:=by intro h;exact hbr (.inr (by omega))
         have hsha:=zAQ b
         have hpx:=fun W (hW:Below wx.heap.size wx W)=>(rx.below hW).load
         have hid:=fun W (hW:Below wx.heap.size wx W)=>objId_calls b (by omega) W (hK.below (bthen hbf hbf.size hW))
         have hbd:=bld_rPit (shaOf b) hsha
         have hbe:=fun W=>(zDX x ⟨2,0,shaOf b,[]⟩ rx.base hsha b t hbm htm (by omega) W).mono fun e w' (h:BetR x ⟨2,0,shaOf b,[]⟩ b t e∧Below W.heap.size W w')=>(⟨h.1.val rx.base hsha,h.2⟩:(∃ v,e = .returned v∧BetV x ⟨2,0,shaOf b,[]⟩ b t v)∧Below W.heap.size W w')
         have hyes:=fun d (h1:MkdIs b t d) (h2:d.length<x.data.length)=>hI.yes rfl hb h1 h2
         have hno:=fun h=>hI.no hb h
         obtain ⟨CX2,hCX2⟩ : ∃ CX2,(pitC x).toArray=CX2:=⟨_,rfl⟩
         obtain ⟨CY,hCY⟩ : ∃ CY,(pitC ⟨2,0,shaOf b,[]⟩).toArray=CY:=⟨_,rfl⟩
         simp only [hCX2] at hpx hbe
         simp only [hCY] at hbd hbe
         clear hbr hCX2 hCY
         go_upto_region 12 with (fail)
         all_goals try (exfalso;omega)
         refine zAw 13 (by kernel_rfl) (by kernel_rfl) (by kernel_rfl) (by kernel_rfl) ?_
         simp only [exSp]
         iterate 13 apply Exists.intro
         repeat
          first
           | ((with_reducible apply lx0_ex)
              ·(go_simp;done)
              apply Exists.intro
              apply And.intro
              ·apply Eq.refl
              apply And.intro
              ·intro W hW hD
               have q0:=hpx W hW
               have q1:=hid W hW
               have q2:=hbd W
               go_simp
               first
                | rfl
                | (with_reducible exact q1)
              simp only [Act.put,zA,zB,zC])
           | ((with_reducible apply zAZ)
              ·(first | rfl | (go_simp;done))
              ·apply Eq.refl
              simp only [Act.put,zA,zB,zC])
           | ((with_reducible refine lx0_new (fun v _ _=>BetV x ⟨2,0,shaOf b,[]⟩ b t v) rfl ?_ (zBf (BetV x ⟨2,0,shaOf b,[]⟩ b t)) ?_ ?_)
              ·(go_simp;done)
              ·intro W hW hD
               unfold doesAt Oper.wp execOp
               go_simp
               (with_reducible refine (hbe W).mono ?_)
               rintro e w' ⟨⟨v,rfl,hv⟩,hb⟩
               exact ⟨hb,fun _ _ _ _=>hv⟩
              intro v
              simp only [Act.put,zA,zB,zC])
           | (first | (with_reducible apply zBi) | (with_reducible apply zAO)
              ·apply Eq.refl
              apply Exists.intro
              apply And.intro
              ·(go_simp;rfl)
              simp only [Act.put,zA,zB,zC])
           | ((with_reducible apply zCn)
              ·apply Eq.refl
              apply Exists.intro
              apply And.intro
              ·(go_simp;rfl)
              refine ⟨fun W hW hD=>?_,?_⟩
              ·obtain ⟨F,r,bb,rfl,_⟩:=hD.at 0 rfl (by kernel_rfl)
               exact ⟨_,rfl,by simp⟩
              simp only [Act.put,zA,zB,zC])
           | ((with_reducible apply lx_al 30 ZC hzP)
              ·apply Eq.refl
              intro v
              simp only [Act.put,zA,zB,zC])
           | ((with_reducible apply lx_st' 10 30 ZC hszZ (by kernel_rfl))
              ·exact rfl
              ·apply Eq.refl
              apply Exists.intro
              apply Exists.intro
              apply And.intro
              ·(go_simp;rfl)
              apply And.intro
              ·(go_simp;rfl)
              refine ⟨?_,fun W hW hD=>?_,?_⟩
              ·first | exact List.Mem.head _ | exact List.Mem.tail _ (List.Mem.head _) | exact List.Mem.tail _ (List.Mem.tail _ (List.Mem.head _)) | exact List.Mem.tail _ (List.Mem.tail _ (List.Mem.tail _ (List.Mem.head _)))
              ·obtain ⟨F,r,bb,rfl,hr32,_⟩:=hD.at 1 rfl (by kernel_rfl)
               exact ⟨(pitC r).toArray,rfl,hszr r hr32,zB0 r⟩)
         refine lx0_nil ?_ fun w5 hW5 hD5=>?_
         ·exact (by simp [stsOf])
         obtain ⟨_,r,bb,rfl,hr32,hbet⟩:=hD5 _ (.tail _ (.tail _ (.head _)))
         obtain ⟨_,g17,cs,rfl,hcs,hg1,_,hg2⟩:=hD5 _ (.head _)
         obtain rfl:(pitC r).toArray=cs:=by injection hcs
         have r17:PitB w5 g17 r:=⟨hg2,hr32⟩
         have rx5:=rx.below hW5
         have f5:=hf.more hW5
         clear hcs hD5 hpx hid hbe hg2
         simp only [extr2_0,extr2_1]
         rcases hbet with ⟨rfl,rfl,hnn⟩ | ⟨rfl,d,rfl,hd,hlt⟩
         ·have hI2:=hno hnn
          clear hno hyes hnn
          go_wp2_with (fail)
          all_goals try (exfalso;omega)
          go_roundg f2
          case rel=>exact ⟨m,j+1,_,rfl,by go_num,by omega,rx5,hI2,f5⟩
          case measure=>omega
         ·have hI2:=hyes d hd hlt
          have ld:=r17.load
          have hsr:=hszr { (⟨2,0,shaOf b,[]⟩:PItL) with data:=d } hsha
          have hs1:(Tryz.prog.info? 30).map (·.size)=some (pitC { (⟨2,0,shaOf b,[]⟩:PItL) with data:=d }).toArray.size:=by rw [zAG hsha];exact szPit
          have hs2:(pitC x).toArray.size=(pitC { (⟨2,0,shaOf b,[]⟩:PItL) with data:=d }).toArray.size:=by rw [zAG rx.base,zAG hsha]
          have ha:=zB0 { (⟨2,0,shaOf b,[]⟩:PItL) with data:=d }
          have bx5:=rx5.blk
          have hfin : ∀ W,Blk W wr.heap.size 30 (pitC { (⟨2,0,shaOf b,[]⟩:PItL) with data:=d }).toArray→PitB W wr.heap.size ⟨2,0,shaOf b,d⟩:=fun W h=>⟨h,hsha⟩
          have hfin:=Lib.hid hfin
          obtain ⟨CR,hCR⟩ : ∃ CR,(pitC { (⟨2,0,shaOf b,[]⟩:PItL) with data:=d }).toArray=CR:=⟨_,rfl⟩
          rw [hCR] at ld hs1 hs2 ha hfin
          clear hCR hno hyes hd hlt hsr r17
          go_wp2_with (first
           | (refine wpList_store_row rfl 30 (.tmp 13) (.tmp 55) rfl wr.heap.size CR rfl rfl _ _ bx5 hs1 hs2 ha ?_))
          all_goals try (exfalso;omega)
          go_roundg f2
          case rel=>exact ⟨1,j+1,_,rfl,by go_num,by omega,hfin.out _ (setRow_heap _ _ _ _ _ _ bx5),hI2,Far.row f5 (.inl hgs) _⟩
          case measure=>omega
    case rest=>
     obtain ⟨rfl,m,x,rfl,rx,hE,hf⟩:=hcut
     rename World=>w4
     clear r3 f3 hI0 hatb
     obtain ⟨G,hG⟩ : ∃ G,(ofs&&(decide (0<k)&&decide (n<8)))=G:=⟨_,rfl⟩
     go_upto_region 16 with (fail)
     go_cut [23,65] from 23 to 87 (fun s23 s65 wx=>s23 = .int .i64 k∧s65 = .bool G∧wx=w4)
     case first=>
      cases ofs with
      | false=>
        have hG2:Hid (G=false):=Lib.hid (by rw [←hG];rfl)
        clear hG
        go_wp2_with (fail)
        all_goals try (exfalso;omega)
        go_meet
        case rel=>exact ⟨rfl,by rw [hG2.out],rfl⟩
      | true=>
        by_cases h0:0<k
        ·have h0i:(0:Int)<(k:Int):=by omega
         have hG2:Hid (G=decide (n<8)):=Lib.hid (by rw [←hG];simp [h0])
         clear hG
         by_cases h8:n<8
         ·have h8i:(n:Int)<8:=by omega
          go_wp2_with (fail)
          all_goals try (exfalso;omega)
          go_meet
          case rel=>exact ⟨rfl,by rw [hG2.out];simp [h8],rfl⟩
         ·have h8i : ¬ (n:Int)<8:=by omega
          go_wp2_with (fail)
          all_goals try (exfalso;omega)
          go_meet
          case rel=>exact ⟨rfl,by rw [hG2.out];simp [h8],rfl⟩
        ·have h0i : ¬ (0:Int)<(k:Int):=by omega
         have hG2:Hid (G=false):=Lib.hid (by rw [←hG];simp [h0])
         clear hG
         go_wp2_with (fail)
         all_goals try (exfalso;omega)
         go_meet
         case rel=>exact ⟨rfl,by rw [hG2.out],rfl⟩
     case rest=>
     obtain ⟨rfl,rfl,rfl⟩:=hcut
     rename World=>w4
     go_upto_if 65 with (fail)
     go_cut [14,23] from 23 to 87 (fun s14 s23 wx=>s23 = .int .i64 k ∧ ∃ (m:Nat) (x:PItL),s14 = .int .i64 m∧PitB wx wr.heap.size x∧InO bases ofs thin pre t x m∧Far [some wr.heap.size] w3 wx)
     case first=>
      cases G with
      | false=>
        have hO:=hE.skip (fun ⟨h1,p,n1,h2,h3⟩=>by
         subst h1
         have h0:0<k:=Nat.pos_of_ne_zero fun h=>by rw [hpn h] at h2;cases h2
         obtain ⟨q,hq⟩ : ∃ q,ts[k-1]?=some q:=⟨_,List.getElem?_eq_getElem (by omega)⟩
         rw [hps q h0 hq] at h2
         have:n=n1:=by simpa using congrArg (fun o=>o.map (·.2)) h2
         simp [h0] at hG
         omega)
        clear hG hpush hpnx
        go_wp2_with (fail)
        go_meet
        case rel=>exact ⟨rfl,m,x,rfl,rx,hO,hf⟩
      | true=>
        simp only [Bool.and_eq_true,decide_eq_true_eq] at hG
        obtain ⟨ho,h0,h8⟩:=hG
        obtain ⟨p,hp⟩ : ∃ p,ts[k-1]?=some p:=⟨_,List.getElem?_eq_getElem (by omega)⟩
        have hpp:=hps p h0 hp
        have hpm:=hts p (List.mem_of_getElem? hp)
        have b04:=F0 w4 hf
        have cp:=fun W (hW:Below w4.heap.size w4 W)=>(show W.cell? ⟨gt,ot+(k-1),none⟩=some (.string (B p)) from by have:=(zAb (hct (k-1) p hp) hgt (bthen b04 b04.size hW)) 0 _ rfl;rwa [Nat.add_zero,Nat.mul_one] at this)
        have hw1:IntKind.i64.wrap ((k:Int)-1)=((k-1:Nat):Int):=by rw [IntWalk.i64_in _ (by omega)];omega
        have hw2:((k-1:Nat):Int)<(ts.length:Int):=by omega
        have hxd:=mk_data hE.mko
        have hpx:=fun W (hW:Below w4.heap.size w4 W)=>(rx.below hW).load
        have hbd:=bld_oPit
        have hni:=zA5
        have hbe:=fun W=>(zDX x ⟨1,1,noId',[]⟩ rx.base hni p t hpm htm (by omega) W).mono fun e w' (h:BetR x ⟨1,1,noId',[]⟩ p t e∧Below W.heap.size W w')=>(⟨h.1.val rx.base hni,h.2⟩:(∃ v,e = .returned v∧BetV x ⟨1,1,noId',[]⟩ p t v)∧Below W.heap.size W w')
        have hyes:=fun d (h1:MkdIs p t d) (h2:d.length<x.data.length)=>hE.yes ho hpp h8 h1 h2
        have hno:=fun h=>hE.no hpp h
        have hlm:k-1<ts.length:=by omega
        obtain ⟨CX2,hCX2⟩ : ∃ CX2,(pitC x).toArray=CX2:=⟨_,rfl⟩
        obtain ⟨CY,hCY⟩ : ∃ CY,(pitC ⟨1,1,noId',[]⟩).toArray=CY:=⟨_,rfl⟩
        simp only [hCX2] at hpx hbe
        simp only [hCY] at hbd hbe
        have hw3:IntKind.i64.wrap ((n:Int)+1)=((n+1:Nat):Int):=by rw [IntWalk.i64_in _ (by omega)];omega
        clear hCX2 hCY hpush hpnx hct hp hpp hps hpn ho
        go_upto_region 17 with (fail)
        all_goals try (exfalso;omega)
        refine zAw 15 (by kernel_rfl) (by kernel_rfl) (by kernel_rfl) (by kernel_rfl) ?_
        simp only [exSp]
        iterate 15 apply Exists.intro
        repeat
         first
          | ((with_reducible apply lx0_ex)
             ·(go_simp;done)
             apply Exists.intro
             apply And.intro
             ·apply Eq.refl
             apply And.intro
             ·intro W hW hD
              have q0:=hpx W hW
              have q1:=cp W hW
              have q2:=hbd W
              go_simp
              rfl
             simp only [Act.put,zA,zB,zC])
          | ((with_reducible apply zAZ)
             ·(first | rfl | (go_simp;done))
             ·apply Eq.refl
             simp only [Act.put,zA,zB,zC])
          | ((with_reducible refine lx0_new (fun v _ _=>BetV x ⟨1,1,noId',[]⟩ p t v) rfl ?_ (zBf (BetV x ⟨1,1,noId',[]⟩ p t)) ?_ ?_)
             ·(go_simp;done)
             ·intro W hW hD
              unfold doesAt Oper.wp execOp
              go_simp
              (with_reducible refine (hbe W).mono ?_)
              rintro e w' ⟨⟨v,rfl,hv⟩,hb⟩
              exact ⟨hb,fun _ _ _ _=>hv⟩
             intro v
             simp only [Act.put,zA,zB,zC])
          | (first | (with_reducible apply zBi) | (with_reducible apply zAO)
             ·apply Eq.refl
             apply Exists.intro
             apply And.intro
             ·(go_simp;rfl)
             simp only [Act.put,zA,zB,zC])
          | ((with_reducible apply zCn)
             ·apply Eq.refl
             apply Exists.intro
             apply And.intro
             ·(go_simp;rfl)
             refine ⟨fun W hW hD=>?_,?_⟩
             ·obtain ⟨F,r,bb,rfl,_⟩:=hD.at 0 rfl (by kernel_rfl)
              exact ⟨_,rfl,by simp⟩
             simp only [Act.put,zA,zB,zC])
          | ((with_reducible apply lx_al 30 ZC hzP)
             ·apply Eq.refl
             intro v
             simp only [Act.put,zA,zB,zC])
          | ((with_reducible apply lx_st' 12 30 ZC hszZ (by kernel_rfl))
             ·exact rfl
             ·apply Eq.refl
             apply Exists.intro
             apply Exists.intro
             apply And.intro
             ·(go_simp;rfl)
             apply And.intro
             ·(go_simp;rfl)
             refine ⟨?_,fun W hW hD=>?_,?_⟩
             ·first | exact List.Mem.head _ | exact List.Mem.tail _ (List.Mem.head _) | exact List.Mem.tail _ (List.Mem.tail _ (List.Mem.head _)) | exact List.Mem.tail _ (List.Mem.tail _ (List.Mem.tail _ (List.Mem.head _)))
             ·obtain ⟨F,r,bb,rfl,hr32,_⟩:=hD.at 1 rfl (by kernel_rfl)
              exact ⟨(pitC r).toArray,rfl,hszr r hr32,zB0 r⟩)
        refine lx0_nil ?_ fun w5 hW5 hD5=>?_
        ·exact (by simp [stsOf])
        obtain ⟨_,r,bb,rfl,hr32,hbet⟩:=hD5 _ (.tail _ (.tail _ (.head _)))
        obtain ⟨_,g17,cs,rfl,hcs,hg1,_,hg2⟩:=hD5 _ (.head _)
        obtain rfl:(pitC r).toArray=cs:=by injection hcs
        have r17:PitB w5 g17 r:=⟨hg2,hr32⟩
        have rx5:=rx.below hW5
        have f5:=hf.more hW5
        clear hcs hD5 hpx hbe hg2 cp
        simp only [extr2_0,extr2_1]
        rcases hbet with ⟨rfl,rfl,hnn⟩ | ⟨rfl,d,rfl,hd,hlt⟩
        ·have hO:=hno hnn
         clear hno hyes hnn
         go_wp2_with (fail)
         all_goals try (exfalso;omega)
         go_meet
         case rel=>exact ⟨rfl,m,_,rfl,rx5,hO,f5⟩
        ·have hO:=hyes d hd hlt
         have ld:=r17.load
         have hs1:(Tryz.prog.info? 30).map (·.size)=some (pitC { (⟨1,1,noId',[]⟩:PItL) with data:=d }).toArray.size:=by rw [zAG hni];exact szPit
         have hs2:(pitC x).toArray.size=(pitC { (⟨1,1,noId',[]⟩:PItL) with data:=d }).toArray.size:=by rw [zAG rx.base,zAG hni]
         have ha:=zB0 { (⟨1,1,noId',[]⟩:PItL) with data:=d }
         have bx5:=rx5.blk
         have hfin : ∀ W,Blk W wr.heap.size 30 (pitC { (⟨1,1,noId',[]⟩:PItL) with data:=d }).toArray→PitB W wr.heap.size ⟨1,1,noId',d⟩:=fun W h=>⟨h,hni⟩
         have hfin:=Lib.hid hfin
         obtain ⟨CR,hCR⟩ : ∃ CR,(pitC { (⟨1,1,noId',[]⟩:PItL) with data:=d }).toArray=CR:=⟨_,rfl⟩
         rw [hCR] at ld hs1 hs2 ha hfin
         clear hCR hno hyes hd hlt r17
         go_wp2_with (first
          | (refine wpList_store_row rfl 30 (.tmp 13) (.tmp 79) rfl wr.heap.size CR rfl rfl _ _ bx5 hs1 hs2 ha ?_))
         all_goals try (exfalso;omega)
         go_meet
         case rel=>exact ⟨rfl,n+1,_,by go_num,hfin.out _ (setRow_heap _ _ _ _ _ _ bx5),hO,Far.row f5 (.inl hgs) _⟩
     case rest=>
     obtain ⟨rfl,m2,x2,rfl,rx2,hO,hf2⟩:=hcut
     rename World=>w6
     have o6:=hf2.own w7o n7
     have b6:=F0 w6 hf2
     have hsz6:=b6.size
     have ldx:=rx2.load
     have h35:=zAG rx2.base
     have h351:(pitC x2).toArray.size=1*35:=h35
     have hone : ∀ u∈(pitC x2).toArray.toList,u.oneCell'=true:=by rw [List.toList_toArray];exact pitC_one x2
     have hpsh:=Lib.hid (hpush.out x2 m2 hO)
     have hpn2:=Lib.hid (hpnx.out m2)
     have hm8:=hO.le
     have m1:l.length+1≤9223372036854775807:=by omega
     have m3:(l.length+1)*64≤140737488355328:=by omega
     obtain ⟨CP,hCP⟩ : ∃ CP,(pitC x2).toArray=CP:=⟨_,rfl⟩
     rw [hCP] at ldx h35 h351 hone
     have hrow : ∀ (W:World) (v:Value),W.ownsRow w.heap.size 30 35 v (l.length+1) (rowsOf pitC l++CP.toList)→OwnPitL W w.heap.size v (l++[x2]):=fun W v h=>by
      rw [←hCP,List.toList_toArray] at h
      unfold OwnPitL
      rw [List.length_append,List.length_singleton,zAo,zAx]
      exact h
     have hrow:=Lib.hid hrow
     clear hCP hpush hpnx hps hpn hct F0 w7o rx rx2 hE hO hf hf2 hG
     go_wp2_with (first
      | ((with_reducible refine zAN (.tmp 83) Tryz.pitTy CP h35 (by omega) ?_ ?_);rfl)
      | (at_builtin
         (with_reducible refine zAl (.tmp 82) (.tmp 84) 1 _ Tryz.pitTy o6 CP h351 hone m1 m3 hsz6 ?_ ?_ ?_);rfl;rfl
         intro v8 w8 hv8 hb8 hg8 hn8'
         clear hn8'
         have b8:=b6.trans hb8))
     all_goals try (exfalso;omega)
     go_roundg f
     case rel=>exact ⟨_,l++[x2],c++[m2],k+1,m2,rfl,rfl,by go_num,by omega,hrow.out _ _ hv8,hpsh,hpn2,hm8,fun h=>by omega,b8⟩
     case measure=>omega
end
section
def knT16 : Txt:=[1,200,1]++List.replicate 200 0
theorem knT16_dec : (decO knT16).isSome=true:=by kernel_rfl
theorem knT16_len : knT16.length=203:=by kernel_rfl
def knX : PItL:=⟨2,0,noId',[120]⟩
theorem knX_res : resR [] [knX] [] = .inr 6:=by kernel_rfl
theorem kn_make {T:Txt} (hT:T.length=203) {l:List PItL} {c:List Nat} (h:MkL [] true false [T,T] l c) : ∃ d,l=[⟨0,0,noId',T⟩,⟨1,1,noId',d⟩]∧d.length<203:=by
 have hl:=h.len
 generalize hts:[T,T]=ts at h
 cases h with
 | nil=>cases hts
 | @snoc ts1 l1 c1 t1 x1 n1 h1 ho1 hm1=>
   obtain ⟨rfl,rfl⟩:ts1=[T]∧t1=T:=by
    have e:[T]++[T]=ts1++[t1]:=hts
    obtain ⟨a,b⟩:=List.append_inj' e rfl
    exact ⟨a.symm,by simpa using b.symm⟩
   generalize hts2:[t1]=ts2 at h1 ho1 hm1
   cases h1 with
   | nil=>cases hts2
   | @snoc ts0 l0 c0 t0 x0 n0 h0 ho0 hm0=>
     obtain ⟨rfl,rfl⟩:ts0=[]∧t0=t1:=by
      have e:[]++[t1]=ts0++[t0]:=hts2
      obtain ⟨a,b⟩:=List.append_inj' e rfl
      exact ⟨a.symm,by simpa using b.symm⟩
     have hl0:=h0.len
     obtain rfl:l0=[]:=List.eq_nil_of_length_eq_zero hl0.1
     obtain rfl:c0=[]:=List.eq_nil_of_length_eq_zero hl0.2
     cases ho0 with
     | ref h _ _ _=>cases h
     | ofs _ h _ _ _=>simp at h
     | full=>
       have hp:(([]++[t0]).zip ([]++[0]):List (Txt×Nat)).getLast?=some (t0,0):=rfl
       rw [hp] at ho1 hm1
       have hk:=hm1 ⟨by omega,by omega, .inr ⟨rfl,rfl⟩⟩
       cases ho1 with
       | full=>exact absurd rfl hk
       | ref h _ _ _=>cases h
       | @ofs p d n _ _ _ _ hd=>exact ⟨d,rfl,by omega⟩
theorem slice_one {α:Type} {enc:α→List Value} {k:Nat} {W:World} {g:Nat} {T:TypeId} {x:α} (h:Blk W g T (enc x).toArray):SliceAt W k enc (.slice (some ⟨g,0,none⟩) 1 1) [x]:=by
 refine ⟨_,_,rfl,by simp,by simp,fun _=>⟨g,0,rfl,h.lt,fun i y hy=>?_⟩⟩
 cases i with
 | zero=>
   obtain rfl:x=y:=by simpa using hy
   have:=zAj h
   rw [List.toList_toArray] at this
   simpa using this
 | succ i=>simp at hy
theorem slice_two {W:World} {g:Nat} {T:TypeId} {a b:Txt} (h:Blk W g T #[.string (B a), .string (B b)]):Txs W (.slice (some ⟨g,0,none⟩) 2 2) [a,b]:=by
 refine ⟨_,_,rfl,by simp,by simp,fun _=>⟨g,0,rfl,h.lt,fun i y hy j u hu=>?_⟩⟩
 rw [h.cell]
 match i,hy with
 | 0,hy=>
   obtain rfl:a=y:=by simpa using hy
   match j,hu with
   | 0,hu=>simpa [txC] using hu
   | j+1,hu=>simp [txC] at hu
 | 1,hy=>
   obtain rfl:b=y:=by simpa using hy
   match j,hu with
   | 0,hu=>simpa [txC] using hu
   | j+1,hu=>simp [txC] at hu
def KnM (T:Txt) (b:Nat) (e:Ending) (w':World):Prop := ∃ v d,e = .returned v∧OwnPitL w' b v [⟨0,0,noId',T⟩,⟨1,1,noId',d⟩]∧d.length<203 ∧ ∃ a,resR [] [⟨0,0,noId',T⟩,⟨1,1,noId',d⟩] [] = .inl a∧a.map (·.1)=[T,T]
theorem kn_make_calls {T : Txt} (hT : T.length = 203) (hd : (decO T).isSome = true) (va : Value) (W : World) (hva : Txs W va [T, T]) (hK : TabK W) : Calls Tryz.prog 29 #[va, .slice none 0 0, .bool true, .bool false] W fun e w' => KnM T W.heap.size e w' ∧ Below W.heap.size W w' := by
  refine (make16_calls [T, T] [] (fun t ht => ?_) (by simp) (fun t ht => by simp at ht) (by simp) true false va (.slice none 0 0) W hva SliceAt.nil hK).mono ?_
  · have : t = T := by simpa using ht
    rw [this]; omega
  · rintro e w' ⟨⟨v, l, c, rfl, ho, hm, _⟩, hb⟩
    have hlen := hm.len
    have hr := hm.res (s := []) (fun b hb => by simp at hb) (fun t ht => by have : t = T := by simpa using ht
                                                                            rw [this]; exact hd)
    obtain ⟨d, rfl, hdl⟩ := kn_make hT hm
    refine ⟨⟨v, d, rfl, ho, hdl, _, hr, ?_⟩, hb⟩
    rw [List.map_fst_zip (by rw [hlen.2]; exact Nat.le_refl _)]
attribute [local go_sem ↓] ldvP_eq bldP_eq
theorem built_kPitX : Tryz.prog.built 30 [(0, .int .i64 2),(3, .string ⟨#[120]⟩)]=some (pitC knX).toArray:=by kernel_rfl
theorem bld_kPitX (W:World):(bldP #[(0, .int .i64 2),(3, .string ⟨#[120]⟩)]).run Tryz.prog W = .ok (.agg (pitC knX).toArray) W:=run_build (P:=Tryz.prog) W _ _ _ built_kPitX
set_option maxRecDepth 100000 in
set_option maxHeartbeats 4000000 in
theorem knows_calls16 (w:World) (hK:TabK w):Calls Tryz.prog 8 #[] w fun e w'=>e = .returned (.bool true)∧Below w.heap.size w w':=by
 have hbd:=bld_kPitX
 have hx32:knX.base.length=32:=by kernel_rfl
 have h35:(pitC knX).toArray.size=35:=zAG hx32
 obtain ⟨W1,hW1⟩ : ∃ W1,w.alloc (.cells (pitC knX).toArray 30)=W1:=⟨_,rfl⟩
 have x1:Blk W1 w.heap.size 30 (pitC knX).toArray:=by rw [←hW1];exact Blk.new _ _ _
 have b1:Below w.heap.size w W1:=by rw [←hW1];exact (Below.refl _ _).alloc (Nat.le_refl _) _
 have hnew:=fun W=>zDY W
 have hrs : ∀ W p,Below W1.heap.size W1 W→StoAt W p p (.slice none 0 0) []→Calls Tryz.prog 10 #[.slice (some ⟨w.heap.size,0,none⟩) 1 1, .pointer (some ⟨p,0,none⟩)] W fun e w'=>(∃ v,e = .returned (.tuple #[v, .int .i64 6]))∧Below W.heap.size W w':=fun W p hW hs=>by
  have h:=zBI [knX] (fun x hx=>by rw [List.mem_singleton.1 hx];exact ⟨hx32,by decide,by decide⟩) (by simp) [] (.slice (some ⟨w.heap.size,0,none⟩) 1 1) (.pointer (some ⟨p,0,none⟩)) W (slice_one (x1.below hW x1.lt)) (.inr ⟨_,_,_,rfl,hs⟩)
  rw [knX_res] at h
  exact h.mono fun e w' ⟨⟨v,he,_⟩,hb⟩=>⟨⟨v,he⟩,hb⟩
 obtain ⟨CX,hCX⟩ : ∃ CX,(pitC knX).toArray=CX:=⟨_,rfl⟩
 rw [hCX] at h35 hW1
 simp only [hCX] at hbd
 clear hCX x1
 go_enter Tryz.func8,Tryz.ntmps8
 go_upto_region 2 with (first
  | ((with_reducible refine zAN (.tmp 8) Tryz.pitTy CX h35 (by omega) ?_ ?_);rfl;rw [hW1])
  | ((with_reducible refine (hnew _).mono ?_);rintro e w2 ⟨rfl,hs2,hb2⟩)
  | ((with_reducible refine (hrs _ _ hb2 hs2).mono ?_);rintro e w3 ⟨⟨v3,rfl⟩,hb3⟩))
 have hcells:madeCells (Value.int .u8 0).cells ((200:Int).toNat*1)=u8s (List.replicate 200 0):=by kernel_rfl
 have hmk : ∀ W:World,(Instr.makeSlice 24 (.int .i64 200) (.int .i64 200)).run Tryz.prog W = .ok (.slice (some ⟨W.heap.size,0,none⟩) 200 200) (W.alloc (.cells (u8s (List.replicate 200 0)) 5)):=fun W=>by
  obtain ⟨it,h1,h2,h3,h4⟩:=info_parts (P:=Tryz.prog) (e:=5) (z := .int .u8 0) (size:=1) (bytes:=1) (by kernel_rfl)
  have:=run_makeSlice (P:=Tryz.prog) W 24 5 it (.int .u8 0) Tryz.underlying24 h1 h2 .i64 .i64 200 200 (by omega) (by omega) (by rw [h3];decide) (by rw [h4];decide) (by decide)
  rw [h3,hcells] at this
  exact this
 have hZl:(List.replicate 200 (0:UInt8)).length=200:=by simp
 have hcv:(convert 24 9 (.slice (some ⟨w3.heap.size,0,none⟩) 200 200)).run Tryz.prog (w3.alloc (.cells (u8s (List.replicate 200 0)) 5)) = .ok (.string (B (List.replicate 200 0))) (w3.alloc (.cells (u8s (List.replicate 200 0)) 5)):=by
  have h:=str_of_blk (w3.alloc (.cells (u8s (List.replicate 200 0)) 5)) (Blk.new _ _ _)
  rwa [hZl] at h
 have hTe:knT16=1::200::1::List.replicate 200 0:=rfl
 have hTd:=knT16_dec
 have hTl:=knT16_len
 rw [hTe] at hTd hTl
 have hzl : ¬ 9223372036854775807<3+(List.replicate 200 (0:UInt8)).length:=by simp
 generalize List.replicate 200 (0:UInt8)=ZT at *
 have b3:=bthen (bthen b1 b1.size hb2) (bthen b1 b1.size hb2).size hb3
 clear hcells hTe hZl
 go_upto_region 3 with (fail)
 have b4:Below w.heap.size w (w3.alloc (.cells (u8s ZT) 5)):=b3.alloc b3.size _
 generalize w3.alloc (.cells (u8s ZT) 5)=w4 at *
 generalize 1::200::1::ZT=T at *
 obtain ⟨W5,hW5⟩ : ∃ W5,w4.alloc (.cells #[.string (B T), .string (B T)] 9)=W5:=⟨_,rfl⟩
 have k5:Blk W5 w4.heap.size 9 #[.string (B T), .string (B T)]:=by rw [←hW5];exact Blk.new _ _ _
 have b45:Below w4.heap.size w4 W5:=by rw [←hW5];exact (Below.refl _ _).alloc (Nat.le_refl _) _
 have b5:=bthen b4 b4.size b45
 have hmake:=Lib.hid (kn_make_calls hTl hTd _ W5 (slice_two k5) (hK.below b5))
 clear hmk hcv hrs hnew hbd hTd
 go_upto_region 4 with (first
  | ((with_reducible refine hmake.out.mono ?_);rintro e w6 ⟨⟨v,d,rfl,ho,hdl,a,hra,ham⟩,hb6⟩))
 have hP:SliceAt w6 35 pitC v [⟨0,0,noId',T⟩,⟨1,1,noId',d⟩]:=SliceAt.of_own (fun x hx=>zEq (by
  have:x=⟨0,0,noId',T⟩∨x=⟨1,1,noId',d⟩:=by simpa using hx
  rcases this with rfl | rfl<;>exact zA5)) ho
 have hrs2:Hid (Calls Tryz.prog 10 #[v, .pointer none] w6 fun e w'=>(∃ u,e = .returned (.tuple #[u, .int .i64 0])∧OwnTxs w' w6.heap.size u [T,T])∧Below w6.heap.size w6 w'):=Lib.hid (by
  have h:=zBI [⟨0,0,noId',T⟩,⟨1,1,noId',d⟩] (fun x hx=>by
   have:x=⟨0,0,noId',T⟩∨x=⟨1,1,noId',d⟩:=by simpa using hx
   rcases this with rfl | rfl
   ·exact ⟨zA5,by show (0:Int)≤_;omega,by show T.length≤_;omega⟩
   ·exact ⟨zA5,by show (1:Int)≤_;omega,by show d.length≤_;omega⟩) (by simp) [] v (.pointer none) w6 hP (.inl ⟨rfl,rfl⟩)
  rw [hra] at h
  exact h.mono fun e w' ⟨⟨u,he,hu⟩,hb⟩=>⟨⟨u,he,by rw [←ham];exact hu⟩,hb⟩)
 obtain ⟨A6,c6,rfl,hc6,hc6',hat6⟩:=hP
 obtain ⟨g6,o6,rfl,hg6,hce6⟩:=hat6 (by simp)
 have b6:=bthen b5 b5.size hb6
 have hrs3:=hrs2.out
 simp only [List.length_cons,List.length_nil,Nat.zero_add,Nat.reduceAdd] at hrs3
 have hrs3:=Lib.hid hrs3
 simp only [List.length_cons,List.length_nil,Nat.zero_add,Nat.reduceAdd]
 clear hat6 ho hra ham hmake hrs2
 go_upto_region 5 with (first
  | ((with_reducible refine hrs3.out.mono ?_);rintro e w7 ⟨⟨u,rfl,hu⟩,hb7⟩))
 obtain ⟨A7,c7,rfl,hc7,hc7',hat7⟩:=OwnTxs.txs hu
 obtain ⟨g7,o7,rfl,hg7,hce7⟩:=hat7 (by simp)
 have q0:=zEl (zAb (hce6 0 _ rfl) hg6 hb7)
 have q1:=zEl (zAb (hce6 1 _ rfl) hg6 hb7)
 have q2:=pit_data zA5 (zAb (hce6 1 _ rfl) hg6 hb7)
 have q3:=hce7 1 _ rfl 0 _ rfl
 simp only [Nat.zero_mul,Nat.one_mul,Nat.add_zero] at q0 q1 q2 q3
 have b7:=bthen b6 b6.size hb7
 have hdli:(d.length:Int)<(T.length:Int):=by omega
 have hTT:(T==T)=true:=by simp
 clear hce6 hce7 hat7 hu hrs3 hTl hdl
 go_wp2_with (fail)
 all_goals try (exfalso;omega)
 go_ret
 exact ⟨rfl,b7⟩
end
end Go.Proofs.YtodebknbchaccaaGreatDoor
