/- Texts of this claim, laid together: ObjS, ObjF, GsF, Sha, ShaB, ShaS, ShaT. -/
import Derived.Test.YtbhdfaadedlcfaaGreatDoorMh
import Derived.Deep.MidRow
import Derived.StillTailTactics
import Derived.Deep.RegionHeld3
import Derived.Deep.DrawnRows
import Derived.Laws.CopyRow
import Derived.Lib.SlBuf
namespace Go.Proofs.YtbhdfaadedlcfaaGreatDoor
open Go.RowKit
section
attribute [local go_sem ↓] ldvI_eq
theorem kind_eq (n:Int):(n<1→kindB n=false)∧(4<n→kindB n=false)∧(¬ n<1 → ¬ 4<n→kindB n=true):=by
 unfold kindB
 refine ⟨fun h=>?_,fun h=>?_,fun h1 h2=>?_⟩
 ·rw [decide_eq_false (p:=1≤n) (by omega)];rfl
 ·rw [decide_eq_false (p:=n≤4) (by omega)];simp
 ·rw [decide_eq_true (p:=1≤n) (by omega),decide_eq_true (p:=n≤4) (by omega)];rfl
set_option maxRecDepth 100000 in
set_option maxHeartbeats 4000000 in
theorem refMay_calls1 (o:ObjL) (hk:o.kind=1) (A1 A2:Option Addr) (k1 k2:Nat) (w:World) (hv:ObjV w (.slice A1 o.ents.length k1) (.slice A2 o.pars.length k2) o):Calls Tryz.prog 61 #[.agg (objC o (.slice A1 o.ents.length k1) (.slice A2 o.pars.length k2)).toArray] w fun e w'=>e = .returned (.bool (mayB o))∧Below w.heap.size w w':=by
 have ho:=hv.ok
 have hO:=boxed (w:=w) (ve := .slice A1 o.ents.length k1) (vp := .slice A2 o.pars.length k2) ho
 have b0:Below w.heap.size w (w.alloc (.cells (objC o (.slice A1 o.ents.length k1) (.slice A2 o.pars.length k2)).toArray 59)):=(Below.refl _ _).alloc (Nat.le_refl _) _
 have hv0:=hv.below b0
 obtain ⟨W0,hW0⟩ : ∃ W0,w.alloc (.cells (objC o (.slice A1 o.ents.length k1) (.slice A2 o.pars.length k2)).toArray 59)=W0:=⟨_,rfl⟩
 rw [hW0] at hO b0 hv0
 have c0:=hO.kind
 have g1:=fun W=>zAb (w:=W) (g:=w.heap.size) (o:=3) (l:=o.tree)
 have g2:=fun W=>zAb (w:=W) (g:=w.heap.size) (o:=38) (l:=o.target)
 have z1:=fun W=>zAN o.tree ho.tree W
 have z2:=fun W=>zAN o.target ho.target W
 have e1:=Lib.hid (zBY o)
 have e2:=Lib.hid (tag_eq o)
 have ht:o.time<4294967296:=ho.time
 obtain ⟨r,hr⟩ : ∃ r,Hid (r=mayB o):=⟨_,Lib.hid rfl⟩
 rw [←hr.out]
 have hr2:=hr.out
 rw [may_one o hk,zBY,tag_eq] at hr2
 replace hr2:=Lib.hid hr2
 rw [hk] at c0
 have htr:=Lib.hid ho.tree
 have hta:=Lib.hid ho.target
 obtain ⟨Ez,hEz⟩ : ∃ Ez,treeN o=Ez:=⟨_,rfl⟩
 have hE1:Hid (0<o.ents.length→Ez=false):=fun h=>by rw [←hEz];unfold treeN;rw [beq_eq_false_iff_ne];omega
 have hE2:Hid (¬ 0<o.ents.length→Ez=true):=fun h=>by rw [←hEz];unfold treeN;rw [beq_iff_eq];omega
 have hr1:=hr2.out
 rw [hEz] at hr1
 replace hr2:=Lib.hid hr1
 clear hEz hr1
 clear hr ho hv e1 e2
 generalize decide (o.tree=List.replicate 32 0)=T at *
 generalize decide (o.target=List.replicate 32 0)=G at *
 obtain ⟨Pz,hPz⟩ : ∃ Pz,decide ((o.pars.length:Int)=0)=Pz:=⟨_,rfl⟩
 have hP1:0<o.pars.length→Pz=false:=fun h=>by rw [←hPz];exact decide_eq_false (by omega)
 have hP2 : ¬ 0<o.pars.length→Pz=true:=fun h=>by rw [←hPz];exact decide_eq_true (by omega)
 replace hP1:=Lib.hid hP1
 replace hP2:=Lib.hid hP2
 have hr3:=hr2.out
 rw [hPz] at hr3
 replace hr2:=Lib.hid hr3
 clear hPz hr3
 generalize hcs:(objC o (.slice A1 o.ents.length k1) (.slice A2 o.pars.length k2)).toArray=cs at *
 clear hcs
 have s0:=b0.size
 go_enter Tryz.func61,Tryz.ntmps61
 go_upto_region 4 with (first
  | ((with_reducible refine zCa (.tmp 3) (.tmp 16) _ ?_ ?_ ?_ ?_);rfl;rfl;rfl
     intro W1 hb1 hbl1
     have hO1:=hO.below hbl1
     have c1:=hO1.data
     have c2:=hO1.ents
     have c35:=hO1.pars
     have c36:=hO1.time
     have c37:=hO1.text
     have c70:=hO1.of_
     have c71:=hO1.name
     have c0':=hO1.kind
     rw [hk] at c0'
     have q1:=g1 W1 hO1.tree htr.out
     have q2:=g2 W1 hO1.target hta.out
     have q3:=zE3 hb1))
 clear c0 hO hb1 htr hta g1 g2 hW0
 have b1:=b0.trans (hbl1.mono s0)
 have sz1:=Nat.le_trans s0 hbl1.size
 clear b0 hbl1 hv0
 go_upto_region 16 with fail
 all_goals try (exfalso;omega)
 all_goals try
  (go_ret
   refine ⟨?_,b1⟩
   rw [hr2.out]
   have hP1:=hP1.out
   have hP2:=hP2.out
   have hE1:=hE1.out
   have hE2:=hE2.out
   clear z1 z2 c1 c2 c35 c36 c37 c70 c71 q1 q2 q3 hO1 c0' hr2
   simp_all
   done)
 have hrT:Hid (r=true):=by
  show r=true
  rw [hr2.out]
  have hP1:=hP1.out
  have hP2:=hP2.out
  have hE1:=hE1.out
  have hE2:=hE2.out
  clear z1 z2 c1 c2 c35 c36 c37 c70 c71 q1 q2 q3 hO1 c0' hr2
  simp_all
 have hn0 : ¬ 0<o.ents.length:=by assumption
 have hni : ¬ (0:Int)<(o.ents.length:Int):=by omega
 clear hr2 z1 z2 c1 c35 c36 c37 c70 c71 q1 q2 q3 c0' ht
 go_cut [5] (fun s5 wx=>s5 = .int .i64 0∧wx=W1)
 case first=>
  go_wp2
  go_meet
  case rel=>exact ⟨rfl,rfl⟩
 obtain ⟨rfl,rfl⟩:=hcut
 go_wp2
 go_loopw [5] (fun vi wr=>vi = .int .i64 0∧wr=wc) (fun _ _=>0)
 case atStart=>exact ⟨rfl,rfl⟩
 case round=>
  obtain ⟨rfl,rfl⟩:=hrel
  go_wp2
  go_ret
  exact ⟨by rw [hrT.out];rfl,b1⟩
set_option maxRecDepth 100000 in
set_option maxHeartbeats 4000000 in
theorem refMay_calls3 (o:ObjL) (hk:o.kind=3) (A1 A2:Option Addr) (k1 k2:Nat) (w:World) (hv:ObjV w (.slice A1 o.ents.length k1) (.slice A2 o.pars.length k2) o):Calls Tryz.prog 61 #[.agg (objC o (.slice A1 o.ents.length k1) (.slice A2 o.pars.length k2)).toArray] w fun e w'=>e = .returned (.bool (mayB o))∧Below w.heap.size w w':=by
 have ho:=hv.ok
 have hO:=boxed (w:=w) (ve := .slice A1 o.ents.length k1) (vp := .slice A2 o.pars.length k2) ho
 have b0:Below w.heap.size w (w.alloc (.cells (objC o (.slice A1 o.ents.length k1) (.slice A2 o.pars.length k2)).toArray 59)):=(Below.refl _ _).alloc (Nat.le_refl _) _
 have hv0:=hv.below b0
 obtain ⟨W0,hW0⟩ : ∃ W0,w.alloc (.cells (objC o (.slice A1 o.ents.length k1) (.slice A2 o.pars.length k2)).toArray 59)=W0:=⟨_,rfl⟩
 rw [hW0] at hO b0 hv0
 have c0:=hO.kind
 have g1:=fun W=>zAb (w:=W) (g:=w.heap.size) (o:=3) (l:=o.tree)
 have g2:=fun W=>zAb (w:=W) (g:=w.heap.size) (o:=38) (l:=o.target)
 have z1:=fun W=>zAN o.tree ho.tree W
 have z2:=fun W=>zAN o.target ho.target W
 have e1:=Lib.hid (zBY o)
 have e2:=Lib.hid (tag_eq o)
 have ht:o.time<4294967296:=ho.time
 obtain ⟨r,hr⟩ : ∃ r,Hid (r=mayB o):=⟨_,Lib.hid rfl⟩
 rw [←hr.out]
 have hr2:=hr.out
 rw [may_three o hk,tag_eq] at hr2
 have hX:blobN o=List.isEmpty o.data:=rfl
 rw [hX] at hr2
 replace hr2:=Lib.hid hr2
 rw [hk] at c0
 have htr:=Lib.hid ho.tree
 have hta:=Lib.hid ho.target
 obtain ⟨Ez,hEz⟩ : ∃ Ez,treeN o=Ez:=⟨_,rfl⟩
 have hE1:Hid (0<o.ents.length→Ez=false):=fun h=>by rw [←hEz];unfold treeN;rw [beq_eq_false_iff_ne];omega
 have hE2:Hid (¬ 0<o.ents.length→Ez=true):=fun h=>by rw [←hEz];unfold treeN;rw [beq_iff_eq];omega
 have hr1:=hr2.out
 rw [hEz] at hr1
 replace hr2:=Lib.hid hr1
 clear hEz hr1
 clear hr ho hX hv e1 e2
 generalize decide (o.tree=List.replicate 32 0)=T at *
 generalize decide (o.target=List.replicate 32 0)=G at *
 obtain ⟨Pz,hPz⟩ : ∃ Pz,decide (o.pars.length≤8)=Pz:=⟨_,rfl⟩
 have hP1:(8:Int)<(o.pars.length:Int)→Pz=false:=fun h=>by rw [←hPz];exact decide_eq_false (by omega)
 have hP2:(o.pars.length:Int)≤8→Pz=true:=fun h=>by rw [←hPz];exact decide_eq_true (by omega)
 replace hP1:=Lib.hid hP1
 replace hP2:=Lib.hid hP2
 have hr3:=hr2.out
 rw [hPz] at hr3
 replace hr2:=Lib.hid hr3
 clear hPz hr3
 generalize hcs:(objC o (.slice A1 o.ents.length k1) (.slice A2 o.pars.length k2)).toArray=cs at *
 clear hcs
 have s0:=b0.size
 go_enter Tryz.func61,Tryz.ntmps61
 go_upto_region 4 with (first
  | ((with_reducible refine zCa (.tmp 3) (.tmp 16) _ ?_ ?_ ?_ ?_);rfl;rfl;rfl
     intro W1 hb1 hbl1
     have hO1:=hO.below hbl1
     have c1:=hO1.data
     have c2:=hO1.ents
     have c35:=hO1.pars
     have c36:=hO1.time
     have c37:=hO1.text
     have c70:=hO1.of_
     have c71:=hO1.name
     have c0':=hO1.kind
     rw [hk] at c0'
     have q1:=g1 W1 hO1.tree htr.out
     have q2:=g2 W1 hO1.target hta.out
     have q3:=zE3 hb1))
 clear c0 hO hb1 htr hta g1 g2 hW0
 have b1:=b0.trans (hbl1.mono s0)
 have sz1:=Nat.le_trans s0 hbl1.size
 clear b0 hbl1 hv0
 go_upto_region 16 with fail
 all_goals try (exfalso;omega)
 all_goals try
  (go_ret
   refine ⟨?_,b1⟩
   rw [hr2.out]
   have hP1:=hP1.out
   have hP2:=hP2.out
   have hE1:=hE1.out
   have hE2:=hE2.out
   clear z1 z2 c1 c2 c35 c36 c37 c70 c71 q1 q2 q3 hO1 c0' hr2
   simp_all
   done)
 have hrT:Hid (r=true):=by
  show r=true
  rw [hr2.out]
  have hP1:=hP1.out
  have hP2:=hP2.out
  have hE1:=hE1.out
  have hE2:=hE2.out
  clear z1 z2 c1 c2 c35 c36 c37 c70 c71 q1 q2 q3 hO1 c0' hr2
  simp_all
 have hn0 : ¬ 0<o.ents.length:=by assumption
 have hni : ¬ (0:Int)<(o.ents.length:Int):=by omega
 clear hr2 z1 z2 c1 c35 c36 c37 c70 c71 q1 q2 q3 c0' ht
 go_cut [5] (fun s5 wx=>s5 = .int .i64 0∧wx=W1)
 case first=>
  go_wp2
  go_meet
  case rel=>exact ⟨rfl,rfl⟩
 obtain ⟨rfl,rfl⟩:=hcut
 go_wp2
 go_loopw [5] (fun vi wr=>vi = .int .i64 0∧wr=wc) (fun _ _=>0)
 case atStart=>exact ⟨rfl,rfl⟩
 case round=>
  obtain ⟨rfl,rfl⟩:=hrel
  go_wp2
  go_ret
  exact ⟨by rw [hrT.out];rfl,b1⟩
set_option maxRecDepth 100000 in
set_option maxHeartbeats 4000000 in
theorem refMay_calls4 (o:ObjL) (hk:o.kind=4) (A1 A2:Option Addr) (k1 k2:Nat) (w:World) (hv:ObjV w (.slice A1 o.ents.length k1) (.slice A2 o.pars.length k2) o):Calls Tryz.prog 61 #[.agg (objC o (.slice A1 o.ents.length k1) (.slice A2 o.pars.length k2)).toArray] w fun e w'=>e = .returned (.bool (mayB o))∧Below w.heap.size w w':=by
 have ho:=hv.ok
 have hO:=boxed (w:=w) (ve := .slice A1 o.ents.length k1) (vp := .slice A2 o.pars.length k2) ho
 have b0:Below w.heap.size w (w.alloc (.cells (objC o (.slice A1 o.ents.length k1) (.slice A2 o.pars.length k2)).toArray 59)):=(Below.refl _ _).alloc (Nat.le_refl _) _
 have hv0:=hv.below b0
 obtain ⟨W0,hW0⟩ : ∃ W0,w.alloc (.cells (objC o (.slice A1 o.ents.length k1) (.slice A2 o.pars.length k2)).toArray 59)=W0:=⟨_,rfl⟩
 rw [hW0] at hO b0 hv0
 have c0:=hO.kind
 have g1:=fun W=>zAb (w:=W) (g:=w.heap.size) (o:=3) (l:=o.tree)
 have g2:=fun W=>zAb (w:=W) (g:=w.heap.size) (o:=38) (l:=o.target)
 have z1:=fun W=>zAN o.tree ho.tree W
 have z2:=fun W=>zAN o.target ho.target W
 have e1:=Lib.hid (zBY o)
 have e2:=Lib.hid (tag_eq o)
 have ht:o.time<4294967296:=ho.time
 obtain ⟨r,hr⟩ : ∃ r,Hid (r=mayB o):=⟨_,Lib.hid rfl⟩
 rw [←hr.out]
 have hr2:=hr.out
 rw [may_four o hk,zBY] at hr2
 have hX:blobN o=List.isEmpty o.data:=rfl
 rw [hX] at hr2
 replace hr2:=Lib.hid hr2
 rw [hk] at c0
 have htr:=Lib.hid ho.tree
 have hta:=Lib.hid ho.target
 obtain ⟨Ez,hEz⟩ : ∃ Ez,treeN o=Ez:=⟨_,rfl⟩
 have hE1:Hid (0<o.ents.length→Ez=false):=fun h=>by rw [←hEz];unfold treeN;rw [beq_eq_false_iff_ne];omega
 have hE2:Hid (¬ 0<o.ents.length→Ez=true):=fun h=>by rw [←hEz];unfold treeN;rw [beq_iff_eq];omega
 have hr1:=hr2.out
 rw [hEz] at hr1
 replace hr2:=Lib.hid hr1
 clear hEz hr1
 clear hr ho hX hv e1 e2
 generalize decide (o.tree=List.replicate 32 0)=T at *
 generalize decide (o.target=List.replicate 32 0)=G at *
 obtain ⟨Pz,hPz⟩ : ∃ Pz,decide ((o.pars.length:Int)=0)=Pz:=⟨_,rfl⟩
 have hP1:0<o.pars.length→Pz=false:=fun h=>by rw [←hPz];exact decide_eq_false (by omega)
 have hP2 : ¬ 0<o.pars.length→Pz=true:=fun h=>by rw [←hPz];exact decide_eq_true (by omega)
 replace hP1:=Lib.hid hP1
 replace hP2:=Lib.hid hP2
 have hr3:=hr2.out
 rw [hPz] at hr3
 replace hr2:=Lib.hid hr3
 clear hPz hr3
 obtain ⟨k1',k2',k3'⟩:=kind_eq o.of_
 have hK1:=Lib.hid k1'
 have hK2:=Lib.hid k2'
 have hK3:=Lib.hid k3'
 have hnm:=fun W=>Lib.hid (zDS o.name hv0.ok.name W)
 clear k1' k2' k3'
 generalize kindB o.of_=K at *
 generalize nameB o.name=N at *
 generalize hcs:(objC o (.slice A1 o.ents.length k1) (.slice A2 o.pars.length k2)).toArray=cs at *
 clear hcs
 have s0:=b0.size
 go_enter Tryz.func61,Tryz.ntmps61
 go_upto_region 4 with (first
  | ((with_reducible refine zCa (.tmp 3) (.tmp 16) _ ?_ ?_ ?_ ?_);rfl;rfl;rfl
     intro W1 hb1 hbl1
     have hO1:=hO.below hbl1
     have c1:=hO1.data
     have c2:=hO1.ents
     have c35:=hO1.pars
     have c36:=hO1.time
     have c37:=hO1.text
     have c70:=hO1.of_
     have c71:=hO1.name
     have c0':=hO1.kind
     rw [hk] at c0'
     have q1:=g1 W1 hO1.tree htr.out
     have q2:=g2 W1 hO1.target hta.out
     have q3:=zE3 hb1))
 clear c0 hO hb1 htr hta g1 g2 hW0
 have b1:=b0.trans (hbl1.mono s0)
 have sz1:=Nat.le_trans s0 hbl1.size
 clear b0 hbl1 hv0
 go_upto_region 16 with (first
  | ((with_reducible refine (hnm _).out.mono ?_);rintro e w3 ⟨rfl,hw3⟩;rw [hw3];clear hw3))
 all_goals try (exfalso;omega)
 all_goals try
  (go_ret
   refine ⟨?_,b1⟩
   rw [hr2.out]
   have hP1:=hP1.out
   have hP2:=hP2.out
   have hE1:=hE1.out
   have hE2:=hE2.out
   have hK1:=hK1.out
   have hK2:=hK2.out
   have hK3:=hK3.out
   clear z1 z2 c1 c2 c35 c36 c37 c70 c71 q1 q2 q3 hO1 c0' hr2
   simp_all
   done)
 have hrT:Hid (r=true):=by
  show r=true
  rw [hr2.out]
  have hP1:=hP1.out
  have hP2:=hP2.out
  have hE1:=hE1.out
  have hE2:=hE2.out
  have hK1:=hK1.out
  have hK2:=hK2.out
  have hK3:=hK3.out
  clear z1 z2 c1 c2 c35 c36 c37 c70 c71 q1 q2 q3 hO1 c0' hr2
  simp_all
 have hn0 : ¬ 0<o.ents.length:=by assumption
 have hni : ¬ (0:Int)<(o.ents.length:Int):=by omega
 clear hr2 z1 z2 c1 c35 c36 c37 c70 c71 q1 q2 q3 c0' ht
 go_cut [5] (fun s5 wx=>s5 = .int .i64 0∧wx=W1)
 case first=>
  go_wp2
  go_meet
  case rel=>exact ⟨rfl,rfl⟩
 obtain ⟨rfl,rfl⟩:=hcut
 go_wp2
 go_loopw [5] (fun vi wr=>vi = .int .i64 0∧wr=wc) (fun _ _=>0)
 case atStart=>exact ⟨rfl,rfl⟩
 case round=>
  obtain ⟨rfl,rfl⟩:=hrel
  go_wp2
  go_ret
  exact ⟨by rw [hrT.out];rfl,b1⟩
set_option maxRecDepth 100000 in
set_option maxHeartbeats 4000000 in
theorem refMay_calls0 (o:ObjL) (hk:o.kind<1∨4<o.kind) (A1 A2:Option Addr) (k1 k2:Nat) (w:World) (hv:ObjV w (.slice A1 o.ents.length k1) (.slice A2 o.pars.length k2) o):Calls Tryz.prog 61 #[.agg (objC o (.slice A1 o.ents.length k1) (.slice A2 o.pars.length k2)).toArray] w fun e w'=>e = .returned (.bool (mayB o))∧Below w.heap.size w w':=by
 have ho:=hv.ok
 have hO:=boxed (w:=w) (ve := .slice A1 o.ents.length k1) (vp := .slice A2 o.pars.length k2) ho
 have b0:Below w.heap.size w (w.alloc (.cells (objC o (.slice A1 o.ents.length k1) (.slice A2 o.pars.length k2)).toArray 59)):=(Below.refl _ _).alloc (Nat.le_refl _) _
 obtain ⟨W0,hW0⟩ : ∃ W0,w.alloc (.cells (objC o (.slice A1 o.ents.length k1) (.slice A2 o.pars.length k2)).toArray 59)=W0:=⟨_,rfl⟩
 rw [hW0] at hO b0
 have c0:=hO.kind
 obtain ⟨r,hr⟩ : ∃ r,Hid (r=mayB o):=⟨_,Lib.hid rfl⟩
 rw [←hr.out]
 have hf:Hid (r=false):=by show r=false;rw [hr.out];exact may_none o hk
 clear hr hv ho hO
 generalize (objC o (.slice A1 o.ents.length k1) (.slice A2 o.pars.length k2)).toArray=cs at *
 generalize o.kind=n at *
 go_enter Tryz.func61,Tryz.ntmps61
 by_cases h1:n<1
 ·clear hk
  go_wp2
  all_goals try (exfalso;omega)
  go_ret
  exact ⟨by rw [hf.out];rfl,b0⟩
 ·have h4:4<n:=by omega
  clear hk
  go_wp2
  all_goals try (exfalso;omega)
  go_ret
  exact ⟨by rw [hf.out];rfl,b0⟩
theorem refMay_calls (o:ObjL) (A1 A2:Option Addr) (k1 k2:Nat) (w:World) (hv:ObjV w (.slice A1 o.ents.length k1) (.slice A2 o.pars.length k2) o):Calls Tryz.prog 61 #[.agg (objC o (.slice A1 o.ents.length k1) (.slice A2 o.pars.length k2)).toArray] w fun e w'=>e = .returned (.bool (mayB o))∧Below w.heap.size w w':=by
 by_cases h1:o.kind=1
 ·exact refMay_calls1 o h1 A1 A2 k1 k2 w hv
 by_cases h2:o.kind=2
 ·exact refMay_calls2 o h2 A1 A2 k1 k2 w hv
 by_cases h3:o.kind=3
 ·exact refMay_calls3 o h3 A1 A2 k1 k2 w hv
 by_cases h4:o.kind=4
 ·exact refMay_calls4 o h4 A1 A2 k1 k2 w hv
 exact refMay_calls0 o (by omega) A1 A2 k1 k2 w hv
end
section
attribute [local go_sem ↓] ldvO_eq
def encD (o:ObjL):Value:=match encO o with
 | some t => .tuple #[.string (B t), .bool true]
 | none => .tuple #[.string (B []), .bool false]
theorem zDE {o:ObjL} (h:encO o=none):encD o = .tuple #[.string (B []), .bool false]:=by unfold encD;rw [h]
theorem encD_some {o:ObjL} {t:Txt} (h:encO o=some t):encD o = .tuple #[.string (B t), .bool true]:=by unfold encD;rw [h]
set_option maxRecDepth 100000 in
set_option maxHeartbeats 4000000 in
theorem zCJ (o:ObjL) (hs:Small o) (A1 A2:Option Addr) (k1 k2:Nat) (w:World) (hv:ObjV w (.slice A1 o.ents.length k1) (.slice A2 o.pars.length k2) o):Calls Tryz.prog 39 #[.agg (objC o (.slice A1 o.ents.length k1) (.slice A2 o.pars.length k2)).toArray] w fun e w'=>e = .returned (encD o)∧Below w.heap.size w w':=by
 have ho:=hv.ok
 have hO:=boxed (w:=w) (ve := .slice A1 o.ents.length k1) (vp := .slice A2 o.pars.length k2) ho
 have b0:Below w.heap.size w (w.alloc (.cells (objC o (.slice A1 o.ents.length k1) (.slice A2 o.pars.length k2)).toArray 59)):=(Below.refl _ _).alloc (Nat.le_refl _) _
 have hv0:=hv.below b0
 obtain ⟨W0,hW0⟩ : ∃ W0,w.alloc (.cells (objC o (.slice A1 o.ents.length k1) (.slice A2 o.pars.length k2)).toArray 59)=W0:=⟨_,rfl⟩
 rw [hW0] at hO b0 hv0
 have hE0:EncC w w.heap.size o (.slice A1 o.ents.length k1) (.slice A2 o.pars.length k2) W0:=⟨hO,hv0,b0⟩
 have hmay:=Lib.hid (refMay_calls o A1 A2 k1 k2 W0 hv0)
 have q0:=hE0.whole
 obtain ⟨r,hr⟩ : ∃ r,Hid (r=encD o):=⟨_,Lib.hid rfl⟩
 rw [←hr.out]
 have hbl:=whole_len hs ho
 have hem:mayB o=false→encO o=none:=fun h=>by unfold encO;rw [h];simp
 have hbody:=fun W (h:EncC w w.heap.size o (.slice A1 o.ents.length k1) (.slice A2 o.pars.length k2) W)=>Lib.hid (refBody_calls o hs A1 A2 k1 k2 W h.val)
 have hone:=fun W=>Lib.hid (one_calls o.kind W)
 have hew:Hid (mayB o=true→encO o=if (byteK o.kind::textE (bodyO o)).length≤4096 then some (byteK o.kind::textE (bodyO o)) else none):=fun h=>by
  unfold encO wholeO
  rw [h];simp
 have hsame := @body_same o
 have htext:=fun W=>Lib.hid (zBP (bodyO o) (by omega) W)
 have htl:(textE (bodyO o)).length≤400010:=by have:=zAQ (bodyO o).length;unfold textE;rw [List.length_append];omega
 have hsz:(Tryz.prog.info? 59).map (·.size)=some (objC o (.slice A1 o.ents.length k1) (.slice A2 o.pars.length k2)).length:=by rw [zAv ho];exact szObj
 clear hv ho hs hv0 hO hbl
 cases hM:mayB o with
 | false=>
   rw [hM] at hmay
   have hf:Hid (r=_):=hr.out.trans (zDE (hem hM))
   clear hr hem hew hbody htext hM hsz hsame
   generalize (objC o (.slice A1 o.ents.length k1) (.slice A2 o.pars.length k2)).toArray=cs at *
   go_enter Tryz.func39,Tryz.ntmps39
   go_wp2_with (first
    | ((with_reducible refine hmay.out.mono ?_);rintro e w1 ⟨rfl,hb1⟩))
   go_ret2
   exact ⟨by rw [hf.out];rfl,bthen b0 b0.size hb1⟩
 | true=>
   rw [hM] at hmay
   rw [hsame hM] at hbody
   have hew:=Lib.hid (hew.out hM)
   clear hem hM hsame
   generalize textE (bodyO o)=TX at *
   generalize bodyO o=BD at *
   have n1 : ¬ 9223372036854775807<1+TX.length:=by omega
   have n2 : ¬ 9223372036854775807<TX.length+1:=by omega
   go_enter Tryz.func39,Tryz.ntmps39
   go_upto_region 4 with (first
    | ((with_reducible refine hmay.out.mono ?_);rintro e w1 ⟨rfl,hb1⟩))
   have hE1:=hE0.below hb1
   clear hE0 hmay q0 hb1 b0 hW0
   obtain ⟨g,hg⟩ : ∃ g,w.heap.size=g:=⟨_,rfl⟩
   simp only [hg] at hbody hE1 ⊢
   go_cut [5] (fun s5 wx=>s5 = .string (B (byteK o.kind::TX))∧Below w.heap.size w wx)
   case first=>
    refine zAd (C:=EncC w g o (.slice A1 o.ents.length k1) (.slice A2 o.pars.length k2)) (by kernel_rfl) (by kernel_rfl) hE1.drew ?_
    repeat
     first
      | ((with_reducible refine zAl ?_ ?_)
         ·(go_simp;done)
         apply Exists.intro
         refine ⟨fun W hW=>?_,?_⟩
         ·first
           | exact zAy _ _ rfl g 0 rfl (objC o (.slice A1 o.ents.length k1) (.slice A2 o.pars.length k2)) _ hW.obj.whole Tryz.underlying59 rfl hsz rfl
           | (have f2:=hW.obj.kind
              go_simp
              first
               | rfl
               | (go_at_call 62;with_reducible exact keepEnc (hone _).out hW)
               | (go_at_call 64;with_reducible exact keepEnc (hbody _ hW).out hW)
               | (go_at_call 63;with_reducible exact keepEnc (htext _).out hW))
         simp only [Act.put,zA,zB,zC])
      | ((with_reducible refine zAh ?_ ?_)
         ·(first | rfl | (go_simp;done))
         simp only [Act.put,zA,zB,zC])
    with_reducible refine wpQuiet_nil ?_
    intro w5 hW5
    go_wp2
    go_meet
    case rel=>exact ⟨rfl,hW5.bel⟩
   obtain ⟨rfl,hbx⟩:=hcut
   clear hbody htext hE1 n1 n2 hsz hone
   generalize hn:byteK o.kind::TX=TT at *
   by_cases h4:TT.length≤4096
   ·have i4 : ¬ (4096:Int)<(TT.length:Int):=by omega
    have hf:Hid (r=_):=hr.out.trans (encD_some (t:=TT) (by rw [hew.out,if_pos h4]))
    clear hr hew h4 hn
    go_wp2
    all_goals try (exfalso;omega)
    go_ret2
    exact ⟨by rw [hf.out];rfl,by first | exact hbx | (rw [←hg];exact hbx)⟩
   ·have i4:(4096:Int)<(TT.length:Int):=by omega
    have hf:Hid (r=_):=hr.out.trans (zDE (by rw [hew.out,if_neg h4]))
    clear hr hew h4 hn
    go_wp2
    all_goals try (exfalso;omega)
    go_ret2
    exact ⟨by rw [hf.out];rfl,by first | exact hbx | (rw [←hg];exact hbx)⟩
end
section
attribute [local go_sem ↓] ldvO_eq
theorem gTree_len : ∀ (f:Nat) (t:Txt) (acc:List EntL),(gTree f t acc).length≤acc.length+f
 | 0,t,acc=>by rw [zCK (.inl rfl)];exact Nat.le_refl _
 | f+1,[],acc=>by rw [zCK (.inr rfl)];omega
 | f+1,d::t,acc=>by
   rw [zEe]
   refine Nat.le_trans (gTree_len f _ _) ?_
   rw [List.length_append]
   simp only [List.length_cons,List.length_nil]
   omega
theorem gPars_len : ∀ (n:Nat) (t:Txt) (acc:List Txt),(gPars n t acc).1.length≤acc.length+n
 | 0,t,acc=>Nat.le_refl _
 | n+1,t,acc=>by
   rw [gPars]
   refine Nat.le_trans (gPars_len n _ _) ?_
   rw [List.length_append]
   simp only [List.length_cons,List.length_nil]
   omega
theorem gTree_names : ∀ (f:Nat) (t:Txt) (acc:List EntL),t.length≤5000→(∀ e∈acc,e.name.length≤5000) → ∀ e∈gTree f t acc,e.name.length≤5000
 | 0,t,acc,_,h=>by rw [zCK (.inl rfl)];exact h
 | f+1,[],acc,_,h=>by rw [zCK (.inr rfl)];exact h
 | f+1,d::t,acc,hl,h=>by
   rw [zEe]
   simp only [List.length_cons] at hl
   refine gTree_names f _ _ (by simp only [List.length_drop];omega) ?_
   intro e he
   rcases List.mem_append.1 he with he | he
   ·exact h e he
   ·obtain rfl:=List.mem_singleton.1 he
    have:=(zAZ t).2
    show (takeN t).1.length≤_
    omega
theorem gCommit_small (t:Txt) (ht:t.length≤5000):Small (gCommit t):=by
 have h1:=gPars_len (min (getN (t.drop 32)).1 9) ((t.drop 32).drop (getN (t.drop 32)).2) []
 have h2:=gPars_le (min (getN (t.drop 32)).1 9) ((t.drop 32).drop (getN (t.drop 32)).2) []
 rw [List.length_drop,List.length_drop] at h2
 unfold gCommit
 simp only
 generalize gPars (min (getN (t.drop 32)).1 9) ((t.drop 32).drop (getN (t.drop 32)).2) []=p at *
 have h3:=(zAZ (p.2.drop (getN p.2).2)).2
 rw [List.length_drop] at h3
 simp only [List.length_nil] at h1
 exact ⟨by simp,by simp,by show p.1.length≤20;omega,by simp,by show (takeN _).1.length≤5000;omega,by simp⟩
theorem gTag_small (t:Txt) (ht:t.length≤5000):Small (gTag t):=by
 have h3:=(zAZ ((t.drop 1).drop 32)).2
 rw [List.length_drop,List.length_drop] at h3
 unfold gTag
 exact ⟨by simp,by simp,by simp,by simp,by simp,by show (takeN _).1.length≤5000;omega⟩
theorem guess_small (c:UInt8) (q:Txt) (hl:q.length≤5000):Small (guessL c q):=by
 have ht:=(zAZ q).2
 have z:([]:Txt).length≤5000:=by simp
 unfold guessL guessB
 repeat' split
 ·exact zero_smallG
 ·exact ⟨by simp,by simp,by simp,by show (takeN q).1.length≤_;omega,z,z⟩
 ·exact ⟨by have:=gTree_len 65 (takeN q).1 [];simp only [List.length_nil] at this;show (gTree 65 (takeN q).1 []).length≤70;omega,gTree_names 65 _ _ (by omega) (by simp),by simp,z,z,z⟩
 ·exact gCommit_small _ (by omega)
 ·exact gTag_small _ (by omega)
 ·exact ⟨by simp [nObj],by simp [nObj],by simp [nObj],z,z,z⟩
set_option maxRecDepth 100000 in
set_option maxHeartbeats 2000000 in
theorem guess_zero (c:UInt8) (q:Txt) (hl:q.length≤5000) (hn0:(takeN q).2=0) (w:World):Calls Tryz.prog 96 #[.string (B (c::q))] w fun e w'=>GsR zeroO w e w':=by
 have hzv:=zeroObj
 have hzl:zObj.size=72:=zAB
 have htk : ∀ W,Calls Tryz.prog 119 #[.string (B q)] W fun e w'=>e = .returned (.tuple #[.string (B (takeN q).1), .int .i64 (takeN q).2])∧W=w':=fun W=>(zAM q (by omega) W).mono fun _ _ h=>⟨h.1,h.2.symm⟩
 rw [hn0] at htk
 generalize (takeN q).1=t at *
 have hex:(B (c::q)).extract 1 (q.length+1)=B q:=by
  rw [zAV]
  simp
 obtain ⟨W1,hW1⟩ : ∃ W1,w.alloc (.cells zObj 59)=W1:=⟨_,rfl⟩
 have hx1:Blk W1 w.heap.size 59 zObj:=by rw [←hW1];exact Blk.new _ _ _
 have b1:Below w.heap.size w W1:=by rw [←hW1];exact (Below.refl _ _).alloc (Nat.le_refl _) _
 have htk:=Lib.hid htk
 have hc0:0≤(c.toNat:Int):=by omega
 have hc1:(c.toNat:Int)<256:=by have:=c.toNat_lt;omega
 have hbd:=zBu (c.toNat:Int)
 have hrb:=fun W=>run_build (P:=Tryz.prog) W _ _ _ zBt
 have hone:=zCd
 have hsz:=zE0
 have e72:(objC ⟨c.toNat,[],[],noId,[],0,[],noId,0,[]⟩ (.slice none 0 0) (.slice none 0 0)).toArray.size=72:=by rw [List.size_toArray];unfold objC;simp only [List.length_cons,List.length_append,u8s_len,zAg,List.length_nil]
 have eone:(objC ⟨c.toNat,[],[],noId,[],0,[],noId,0,[]⟩ (.slice none 0 0) (.slice none 0 0)).toArray.all (·.oneCell')=true:=by kernel_rfl
 go_enter Tryz.func96,Tryz.ntmps96
 go_wp2_with (first
  | ((with_reducible refine zAL hbd ?_ ?_);rfl)
  | ((with_reducible refine lit_new 59 (.tmp 3) (.tmp 18) (objC ⟨c.toNat,[],[],noId,[],0,[],noId,0,[]⟩ (.slice none 0 0) (.slice none 0 0)).toArray 72 szObj e72 eone _ ?_ ?_ ?_ ?_)
     ·first | exact hzl | rfl
     ·rfl
     ·rfl
     intro W2 hb2 hbl2
     have hx2:=hx1.below hbl2 hx1.lt
     have b2:=bthen b1 b1.size hbl2
     have tk2:=htk.out W2
     have tk2:=Lib.hid tk2
     clear hx1 b1 hb2 hbl2)
  | ((with_reducible refine tk2.out.mono ?_);rintro e w3 ⟨rfl,rfl⟩)
  | (refine wpList_store_row rfl 59 (.tmp 2) (.tmp 27) rfl w.heap.size zObj rfl rfl _ _ hx2 hsz rfl hone ?_))
 exact bodyPost_ret (results_cell_row rfl _ _ w.heap.size _ _ _ _ rfl (setRow_heap _ _ _ _ _ _ hx2) Tryz.underlying59 rfl hsz) rfl ⟨⟨none,none,0,0,rfl,zero_okG _,World.ownsRow_nil _ _ _ _,World.ownsRow_nil _ _ _ _⟩,zAa b2 (Nat.le_refl _) _⟩
theorem guess_calls (c:UInt8) (q:Txt) (hl:q.length≤5000) (w:World):Calls Tryz.prog 96 #[.string (B (c::q))] w fun e w'=>GsR (guessL c q) w e w':=by
 unfold guessL
 split
 ·exact guess_zero c q hl (by assumption) w
 ·unfold guessB
  split
  ·exact guess_blob c q hl (by assumption) (by assumption) w
  ·split
   ·exact guess_tree c q hl (by assumption) (by assumption) w
   ·split
    ·exact guess_commit c q hl (by assumption) (by assumption) w
    ·split
     ·exact guess_tag c q hl (by assumption) (by assumption) w
     ·exact guess_other c q hl ⟨by assumption,by assumption,by assumption,by assumption⟩ (by assumption) w
def DecG (x:Option ObjL) (B:Nat) (w':World) (e:Ending):Prop:=match x with
 | some o => ∃ A1 A2 k1 k2,e = .returned (.tuple #[.agg (objC o (.slice A1 o.ents.length k1) (.slice A2 o.pars.length k2)).toArray, .bool true])∧ObjV w' (.slice A1 o.ents.length k1) (.slice A2 o.pars.length k2) o∧OwnEnts w' B (.slice A1 o.ents.length k1) o.ents∧OwnIds w' B (.slice A2 o.pars.length k2) o.pars
 | none=>e = .returned (.tuple #[.agg zObj, .bool false])
set_option maxRecDepth 100000 in
set_option maxHeartbeats 4000000 in
theorem zB0 (s:Txt) (hs:s.length≤5000) (w:World):Calls Tryz.prog 67 #[.string (B s)] w fun e w'=>DecG (decO s) w.heap.size w' e∧Below w.heap.size w w':=by
 have hzv:=zeroObj
 have hz72:zObj.size=72:=zAB
 obtain ⟨W0,hW0⟩ : ∃ W0,w.alloc (.cells zObj 59)=W0:=⟨_,rfl⟩
 have hz0:Blk W0 w.heap.size 59 zObj:=by rw [←hW0];exact Blk.new _ _ _
 have b0:Below w.heap.size w W0:=by rw [←hW0];exact (Below.refl _ _).alloc (Nat.le_refl _) _
 have hrb:=fun W=>run_build (P:=Tryz.prog) W _ _ _ zBt
 have hone:=zCd
 have hsz:=zE0
 have hz0W:w.heap.size<W0.heap.size:=hz0.lt
 cases s with
 | nil=>
   have hD:DecG (decO []) w.heap.size (W0.setRow w.heap.size zObj) (.returned (.tuple #[.agg zObj, .bool false])):=rfl
   have hD:=Lib.hid hD
   go_enter Tryz.func67,Tryz.ntmps67
   go_wp2_with (first
    | (refine wpList_store_row rfl 59 (.tmp 2) (.tmp 9) rfl w.heap.size zObj rfl rfl _ _ hz0 hsz rfl hone ?_))
   refine bodyPost_ret (zAe rfl _ _ w.heap.size _ _ _ _ rfl (setRow_heap _ _ _ _ _ _ hz0) Tryz.underlying59 rfl hsz) rfl ⟨?_,zAa b0 (Nat.le_refl _) _⟩
   exact hD.out
 | cons c q=>
   simp only [List.length_cons] at hs
   have hg:=Lib.hid (guess_calls c q (by omega) W0)
   have hsm:=guess_small c q (by omega)
   have hds:=Lib.hid (dec_same c q)
   generalize guessL c q=o at *
   have hcm:Hid (∀ W,(if encO o=some (c::q) then some o else none)=(none:Option ObjL)→DecG (decO (c::q)) w.heap.size W (.returned (.tuple #[.agg zObj, .bool false]))):=fun W h=>by rw [hds.out,h];rfl
   obtain ⟨tt,bb,hval,htold⟩ : ∃ tt bb,encD o = .tuple #[.string (B tt), .bool bb]∧Hid ((bb=true∧encO o=some tt)∨(bb=false∧encO o=none)):=by
    cases hq:encO o with
    | none=>exact ⟨[],false,zDE hq, .inr ⟨rfl,rfl⟩⟩
    | some t=>exact ⟨t,true,encD_some hq, .inl ⟨rfl,rfl⟩⟩
   go_enter Tryz.func67,Tryz.ntmps67
   go_upto_region 4 with (first
    | ((with_reducible refine hg.out.mono ?_);rintro e w1 ⟨⟨A1,A2,k1,k2,rfl,hv1,he1,hp1⟩,hb1⟩
       have hz1:=hz0.below hb1 hz0.lt
       have b1:=bthen b0 b0.size hb1
       have hc72:(objC o (.slice A1 o.ents.length k1) (.slice A2 o.pars.length k2)).toArray.size=72:=by rw [List.size_toArray,zAv hv1.ok]
       have hcone:=zAr o A1 A2 o.ents.length k1 o.pars.length k2
       clear hg hz0 b0)
    | ((with_reducible refine lit_new 59 (.tmp 4) (.tmp 11) (objC o (.slice A1 o.ents.length k1) (.slice A2 o.pars.length k2)).toArray 72 szObj hc72 hcone _ ?_ ?_ ?_ ?_)
       ·first | exact hz72 | rfl
       ·rfl
       ·rfl
       intro W2 hb2 hbl2
       have hz2:=hz1.below hbl2 hz1.lt
       have b2:=bthen b1 b1.size hbl2
       have hv2:=hv1.below hbl2
       have he2:=zAf he1 hbl2
       have hp2:=zAf hp1 hbl2
       have hO2:ObjB W2 w1.heap.size o (.slice A1 o.ents.length k1) (.slice A2 o.pars.length k2):=⟨hb2,hv1.ok.tree,hv1.ok.target⟩
       have hq2:=zAT hO2 hv1.ok
       have hre:=zCJ o hsm A1 A2 k1 k2 W2 hv2
       rw [hval] at hre
       have hre:=Lib.hid hre))
   have hok:=hv1.ok
   have hlt1:w.heap.size<w1.heap.size:=hz1.lt
   have hwW:w.heap.size<W0.heap.size:=hz0W
   clear hW0 hv1 hz1 b1 hsm hval hb2
   have hfin:Hid (∀ W,ObjV W (.slice A1 o.ents.length k1) (.slice A2 o.pars.length k2) o→OwnEnts W w.heap.size (.slice A1 o.ents.length k1) o.ents→OwnIds W w.heap.size (.slice A2 o.pars.length k2) o.pars→encO o=some (c::q)→DecG (decO (c::q)) w.heap.size W (.returned (.tuple #[.agg (objC o (.slice A1 o.ents.length k1) (.slice A2 o.pars.length k2)).toArray, .bool true]))):=fun W h1 h3 h4 h2=>by
    rw [hds.out,if_pos h2]
    exact ⟨A1,A2,k1,k2,rfl,h1,h3,h4⟩
   have hqq : ∀ W,ObjB W w1.heap.size o (.slice A1 o.ents.length k1) (.slice A2 o.pars.length k2)→(ldvO ⟨w1.heap.size,0,none⟩).run Tryz.prog W = .ok (.agg (objC o (.slice A1 o.ents.length k1) (.slice A2 o.pars.length k2)).toArray) W:=fun W h=>zAT h hok
   generalize hcs:(objC o (.slice A1 o.ents.length k1) (.slice A2 o.pars.length k2)).toArray=cs at *
   clear hcs
   generalize w1.heap.size=g1 at *
   rcases htold.out with ⟨rfl,henc⟩ | ⟨rfl,henc⟩
   ·by_cases hne:tt=c::q
    ·have hDn:=Lib.hid (fun W h h3 h4=>hfin.out W h h3 h4 (by rw [henc,hne]))
     subst hne
     clear htold henc hds hcm hfin
     go_wp2_with (first
      | ((with_reducible refine hre.out.mono ?_);rintro e w3 ⟨rfl,hb3⟩
         have hz3:=hz2.below hb3 hz2.lt
         have b3:=bthen b2 b2.size hb3
         have hO3:=hO2.below hb3
         have he3:=zAf he2 hb3
         have hp3:=zAf hp2 hb3
         have hq3:=hqq w3 hO3
         clear hre hq2)
      | (refine wpList_store_row rfl 59 (.tmp 2) (.tmp 25) rfl w.heap.size cs rfl rfl _ _ hz3 (by rw [hc72];exact szObj) (by rw [hc72];rfl) hcone ?_))
     refine bodyPost_ret (zAe rfl _ _ w.heap.size _ _ _ _ rfl (setRow_heap _ _ _ _ _ _ hz3) Tryz.underlying59 rfl (by rw [hc72];exact szObj)) rfl ⟨?_,zAa b3 (Nat.le_refl _) _⟩
     exact hDn.out _ (zCD hok he3 hp3 hwW cs) (zAw (own_row he3 hwW cs) (Nat.le_of_lt hwW)) (zAw (own_row hp3 hwW cs) (Nat.le_of_lt hwW))
    ·have hDn:=Lib.hid (fun W=>hcm.out W (by rw [if_neg (by rw [henc];intro h;injection h with h;exact hne h)]))
     have hbq:(tt==c::q)=false:=by simpa using hne
     clear htold henc hds hcm hfin hO2 hv2 hne
     go_wp2_with (first
      | ((with_reducible refine hre.out.mono ?_);rintro e w3 ⟨rfl,hb3⟩
         have hz3:=hz2.below hb3 hz2.lt
         have b3:=bthen b2 b2.size hb3
         clear hre hq2)
      | (refine wpList_store_row rfl 59 (.tmp 2) (.tmp 24) rfl w.heap.size zObj rfl rfl _ _ hz3 hsz rfl hone ?_))
     refine bodyPost_ret (zAe rfl _ _ w.heap.size _ _ _ _ rfl (setRow_heap _ _ _ _ _ _ hz3) Tryz.underlying59 rfl hsz) rfl ⟨?_,zAa b3 (Nat.le_refl _) _⟩
     exact hDn.out _
   ·have hDn:=Lib.hid (fun W=>hcm.out W (by rw [if_neg (by rw [henc];intro h;cases h)]))
    clear htold henc hds hcm hfin hO2 hv2
    go_wp2_with (first
     | ((with_reducible refine hre.out.mono ?_);rintro e w3 ⟨rfl,hb3⟩
        have hz3:=hz2.below hb3 hz2.lt
        have b3:=bthen b2 b2.size hb3
        clear hre hq2)
     | (refine wpList_store_row rfl 59 (.tmp 2) (.tmp 24) rfl w.heap.size zObj rfl rfl _ _ hz3 hsz rfl hone ?_))
    refine bodyPost_ret (zAe rfl _ _ w.heap.size _ _ _ _ rfl (setRow_heap _ _ _ _ _ _ hz3) Tryz.underlying59 rfl hsz) rfl ⟨?_,zAa b3 (Nat.le_refl _) _⟩
    exact hDn.out _
end
theorem and31 (k:Int) (h0 : -31≤k) (h1:k ≤ -1):bits .and .u64 (IntKind.u64.wrap k) 31=32+k:=by
 have h : ∀ m:Fin 31,bits .and .u64 (IntKind.u64.wrap (-((m.val:Int)+1))) 31=31-(m.val:Int):=by decide +kernel
 have:=h ⟨(-k-1).toNat,by omega⟩
 simp only at this
 rw [show -((((-k-1).toNat:Nat):Int)+1)=k from by omega] at this
 rw [this]
 omega
theorem rot_bits (x n:Nat) (hx:x<4294967296) (h0:1≤n) (h1:n≤31):bits .or .u32 ((x:Int)*2 ^ (32-n)%4294967296) ((x:Int) / 2 ^ n)=((rotr x n:Nat):Int):=by
 have hp:(2:Nat) ^ (32-n)*2 ^ n=4294967296:=by rw [←Nat.pow_add,show 32-n+n=32 from by omega]
 have e1:(x:Int)*2 ^ (32-n)%4294967296=((x*2 ^ (32-n)%4294967296:Nat):Int):=by simp
 have e2:(x:Int) / 2 ^ n=((x / 2 ^ n:Nat):Int):=by simp
 have hd:x / 2 ^ n<2 ^ (32-n):=Nat.div_lt_of_lt_mul (by rw [Nat.mul_comm,hp];exact hx)
 have hm:x*2 ^ (32-n)%4294967296=2 ^ (32-n)*(x%2 ^ n):=by
  rw [←hp,Nat.mul_comm x,Nat.mul_mod_mul_left]
 have hlt:x / 2 ^ n<4294967296:=Nat.lt_of_le_of_lt (Nat.div_le_self _ _) hx
 rw [e1,e2,u32_or_nat _ _ (Nat.mod_lt _ (by omega)) hlt,rotr,hm,←Nat.two_pow_add_eq_or_of_lt hd,Nat.add_comm]
set_option maxRecDepth 100000 in
set_option maxHeartbeats 800000 in
theorem rot_calls (x:Nat) (k:Int) (hx:x<4294967296) (h0 : -31≤k) (h1:k ≤ -1) (w:World) :
 Calls Tryz.prog 141 #[.int .u32 x, .int .i64 k] w fun e w'=>e = .returned (.int .u32 (rotr x (-k).toNat))∧w=w':=by
 have hb:=and31 k h0 h1
 have hs0:0≤32+k:=by omega
 have hs1:32+k≤32:=by omega
 go_enter Tryz.func141,Tryz.ntmps141
 go_wp2
 go_ret
 refine ⟨congrArg (fun n:Int=>Ending.returned (.int .u32 n)) ?_,rfl⟩
 have:=rot_bits x (-k).toNat hx (by omega) (by omega)
 rw [show 32-(-k).toNat=(32+k).toNat from by omega,show (-k).toNat=(32-(32+k)).toNat from by omega] at this
 rw [show (-k).toNat=(32-(32+k)).toNat from by omega]
 exact this
theorem rot_at (x:Nat) (k:Int) (n:Nat) (hk:k = -(n:Int)) (hx:x<4294967296) (h0:1≤n) (h1:n≤31) (w:World) :
 Calls Tryz.prog 141 #[.int .u32 x, .int .i64 k] w fun e w'=>e = .returned (.int .u32 (rotr x n))∧w=w':=by
 subst hk
 have:=rot_calls x (-(n:Int)) hx (by omega) (by omega) w
 rwa [show (- -(n:Int)).toNat=n from by omega] at this
def u32s (l:List Nat):Array Value:=(l.map fun n=>Value.int .u32 (n:Nat)).toArray
theorem zBj (l:List Nat):(u32s l).size=l.length:=by simp [u32s]
theorem zA3 (l:List Nat) (i:Nat) (h:i<l.length):(u32s l)[i]?=some (.int .u32 (l.getD i 0:Nat)):=by
 simp [u32s,List.getD,List.getElem?_eq_getElem h]
theorem zB9 (l:List Nat) (i x:Nat):(u32s l).setIfInBounds i (.int .u32 (x:Nat))=u32s (l.set i x):=by
 apply Array.ext'
 simp [u32s,List.map_set]
theorem or_byte (x:Nat) (c:UInt8) (hx:x<16777216):bits .or .u32 ((x:Int)*256) ((c.toNat:Int)%4294967296)=((x*256%4294967296+c.toNat:Nat):Int):=by
 have hc:=c.toNat_lt
 have e1:(x:Int)*256=((2 ^ 8*x:Nat):Int):=by omega
 have e2:(c.toNat:Int)%4294967296=((c.toNat:Nat):Int):=by omega
 rw [e1,e2,u32_or_nat _ _ (by omega) (by omega),←Nat.two_pow_add_eq_or_of_lt (by omega)]
 omega
theorem zE2 {w:World} {g i j:Nat} {v x:Value} (h:w.cell? ⟨g,j,none⟩=some v) (hne:j≠i):((w.setCell ⟨g,i,none⟩ x).drew).cell? ⟨g,j,none⟩=some v:=by
 have:(w.setCell ⟨g,i,none⟩ x).cell? ⟨g,j,none⟩=w.cell? ⟨g,j,none⟩:=World.cell?_setCell_other w _ _ _ (fun e=>hne (by injection e with _ e;exact e.symm))
 exact this.trans h
theorem blk_new2 (w:World) (o:Obj) (t:TypeId) (cs:Array Value):Blk ((w.alloc o).alloc (.cells cs t)) (w.heap.size+1) t cs:=by
 have:=Blk.new (w.alloc o) t cs
 rwa [show (w.alloc o).heap.size=w.heap.size+1 from by simp] at this
theorem sz64 : (Tryz.prog.info? 171).map (·.size)=some 64:=by kernel_rfl
set_option maxRecDepth 100000 in
set_option maxHeartbeats 2000000 in
theorem words_calls (b:List UInt8) (hb:b.length=64) (w:World) :
 Calls Tryz.prog 142 #[.string (B b)] w fun e w'=>e = .returned (.agg (u32s (wordsOf b)))∧Below w.heap.size w w':=by
 go_enter Tryz.func142,Tryz.ntmps142
 go_wp2
 go_loopw [9] (fun i wr => ∃ k:Nat,i = .int .i64 k∧k≤64∧Blk wr (w.heap.size+1) 171 (u32s (parts b k))∧Blk wr w.heap.size 171 (u32s (List.replicate 64 0))∧Below w.heap.size w wr) (fun i _=>64-(intOf i).toNat)
 case atStart=>exact ⟨0,rfl,by omega,by rw [parts_zero];exact blk_new2 _ _ _ _,(Blk.new w _ _).alloc _,((Below.refl _ _).alloc (Nat.le_refl _) _).alloc (by simp) _⟩
 case round=>
  obtain ⟨k,rfl,hk,h1,h2,hbel⟩:=hrel
  have hbs:=h1.lt
  by_cases hlt:k<64
  ·have hki:(k:Int)<64:=by omega
   have hq0:(0:Int)≤(k:Int) / 4:=by omega
   have hq1:(k:Int) / 4<64:=by omega
   have hq2:(k:Int)<(b.length:Int):=by omega
   have hc:=h1.cell (k / 4)
   rw [zA3 _ _ (by rw [parts_length];omega),parts_get _ _ _ (by omega)] at hc
   have hf:=h1.frozen (k / 4)
   have hbk:b[k]'(by omega)=b.getD k 0:=by simp [List.getD,List.getElem?_eq_getElem (show k<b.length by omega)]
   have hst:=parts_step b k
   rw [parts_get _ _ _ (by omega)] at hst
   unfold byteAt at hst
   have hx:=(part4_here b k).2
   generalize part4 b k (k / 4)=x at *
   generalize b.getD k 0=c at *
   have hor:=or_byte x c hx
   generalize x*256%4294967296+c.toNat=y at *
   have hsth:=Lib.hid hst
   clear hst
   go_wp2
   go_region
   have hn1:Blk ((wr.setCell ⟨w.heap.size+1,k / 4,none⟩ (.int .u32 (y:Int))).drew) (w.heap.size+1) 171 (u32s (parts b (k+1))):=by
    have:=(h1.set_ (k / 4) (.int .u32 (y:Int)))
    rw [zB9,hsth.out] at this
    exact this.drew
   have hn2:=(h2.far (p:=⟨w.heap.size+1,k / 4,none⟩) (by simp) (.int .u32 (y:Int))).drew
   have hn3:=(hbel.setCell (p:=⟨w.heap.size+1,k / 4,none⟩) (by simp) (.int .u32 (y:Int))).drew
   go_wp2
   go_roundw
   case rel=>exact ⟨k+1,by go_num,by omega,hn1,hn2,hn3⟩
   case measure=>simp [intOf];omega
  ·have hk64:k=64:=by omega
   have hki : ¬ (k:Int)<64:=by omega
   rw [hk64,parts_all] at h1
   clear hk64
   have hgoal:Hid (sched 48 (first b 16)=wordsOf b):=rfl
   go_wp2
   go_loopw [6] (fun i wr => ∃ (t:Nat) (l:List Nat),i = .int .i64 t∧16≤t∧t≤64∧Hid (l.length=t)∧Hid (Fit32 l)∧Hid (sched (64-t) l=wordsOf b)∧Blk wr (w.heap.size+1) 171 (u32s (l++List.replicate (64-t) 0))∧Blk wr w.heap.size 171 (u32s (List.replicate 64 0))∧Below w.heap.size w wr) (fun i _=>64-(intOf i).toNat)
   case atStart=>exact ⟨16,first b 16,rfl,by omega,by omega,zBI b 16,first_fit b 16,hgoal,h1,h2,hbel⟩
   case round=>
    obtain ⟨t,l,rfl,ht0,ht1,hlen,hfit,hsc,h1,h2,hbel⟩:=hrel
    by_cases hlt:t<64
    ·have hti:(t:Int)<64:=by omega
     have get (j:Nat) (hj:j<t):wr.cell? ⟨w.heap.size+1,j,none⟩=some (.int .u32 (l.getD j 0:Nat)):=by
      rw [h1.cell,zA3 _ _ (by rw [List.length_append,hlen.out,List.length_replicate];omega),getD_left (by rw [hlen.out];exact hj)]
     have c16:=get (t-16) (by omega)
     have c15:=get (t-15) (by omega)
     have c7:=get (t-7) (by omega)
     have c2:=get (t-2) (by omega)
     have ct:wr.cell? ⟨w.heap.size+1,t,none⟩=some (.int .u32 ((l++List.replicate (64-t) 0).getD t 0:Nat)):=by
      rw [h1.cell,zA3 _ _ (by rw [List.length_append,hlen.out,List.length_replicate];omega)]
     have hft:=h1.frozen t
     have b16:=hfit.out (t-16)
     have b15:=hfit.out (t-15)
     have b7:=hfit.out (t-7)
     have b2:=hfit.out (t-2)
     have hnext:Hid (nextW l=(l.getD (t-16) 0+l.getD (t-7) 0+sig0 (l.getD (t-15) 0)+sig1 (l.getD (t-2) 0))%4294967296):=by
      unfold nextW;rw [hlen.out];rfl
     clear get
     generalize l.getD (t-16) 0=x16 at *
     generalize l.getD (t-15) 0=x15 at *
     generalize l.getD (t-7) 0=x7 at *
     generalize l.getD (t-2) 0=x2 at *
     generalize (l++List.replicate (64-t) 0).getD t 0=old at *
     obtain ⟨u16,i16,v16⟩ : ∃ u:Nat,IntKind.i64.wrap ((t:Int)-16)=(u:Int)∧u=t-16:=⟨t-16,by rw [IntWalk.i64_in _ (by omega)];omega,rfl⟩
     rw [←v16] at c16
     have m16:(u16:Int)<64:=by omega
     have n16:u16<64:=by omega
     have v16h:=Lib.hid v16
     clear v16
     obtain ⟨u15,i15,v15⟩ : ∃ u:Nat,IntKind.i64.wrap ((t:Int)-15)=(u:Int)∧u=t-15:=⟨t-15,by rw [IntWalk.i64_in _ (by omega)];omega,rfl⟩
     rw [←v15] at c15
     have m15:(u15:Int)<64:=by omega
     have n15:u15<64:=by omega
     have v15h:=Lib.hid v15
     clear v15
     obtain ⟨u7,i7,v7⟩ : ∃ u:Nat,IntKind.i64.wrap ((t:Int)-7)=(u:Int)∧u=t-7:=⟨t-7,by rw [IntWalk.i64_in _ (by omega)];omega,rfl⟩
     rw [←v7] at c7
     have m7:(u7:Int)<64:=by omega
     have n7:u7<64:=by omega
     have v7h:=Lib.hid v7
     clear v7
     obtain ⟨u2,i2,v2⟩ : ∃ u:Nat,IntKind.i64.wrap ((t:Int)-2)=(u:Int)∧u=t-2:=⟨t-2,by rw [IntWalk.i64_in _ (by omega)];omega,rfl⟩
     rw [←v2] at c2
     have m2:(u2:Int)<64:=by omega
     have n2:u2<64:=by omega
     have v2h:=Lib.hid v2
     clear v2
     go_wp2
     go_quiet (fail)
     go_wp2
     have r1:=rotr_lt (n:=7) b15 (by omega) (by omega)
     have r2:=rotr_lt (n:=18) b15 (by omega) (by omega)
     have r3:=rotr_lt (n:=17) b2 (by omega) (by omega)
     have r4:=rotr_lt (n:=19) b2 (by omega) (by omega)
     have e1:bits .xor .u32 (rotr x15 7:Int) (rotr x15 18:Int)=((rotr x15 7 ^^^ rotr x15 18:Nat):Int):=u32_xor_nat _ _ r1 r2
     have e2:bits .xor .u32 ((rotr x15 7 ^^^ rotr x15 18:Nat):Int) ((x15:Int) / 8)=((sig0 x15:Nat):Int):=by
      rw [show (x15:Int) / 8=((x15 / 8:Nat):Int) from by omega];exact u32_xor_nat _ _ (xor_lt r1 r2) (by omega)
     have e3:bits .xor .u32 (rotr x2 17:Int) (rotr x2 19:Int)=((rotr x2 17 ^^^ rotr x2 19:Nat):Int):=u32_xor_nat _ _ r3 r4
     have e4:bits .xor .u32 ((rotr x2 17 ^^^ rotr x2 19:Nat):Int) ((x2:Int) / 1024)=((sig1 x2:Nat):Int):=by
      rw [show (x2:Int) / 1024=((x2 / 1024:Nat):Int) from by omega];exact u32_xor_nat _ _ (xor_lt r3 r4) (by omega)
     have c16d:(wr.drewN nq).cell? ⟨w.heap.size+1,u16,none⟩=some (.int .u32 (x16:Int)):=c16
     have c7d:(wr.drewN nq).cell? ⟨w.heap.size+1,u7,none⟩=some (.int .u32 (x7:Int)):=c7
     have ctd:(wr.drewN nq).cell? ⟨w.heap.size+1,t,none⟩=some (.int .u32 (old:Int)):=ct
     have h1d:=h1.drewN nq
     have h2d:=h2.drewN nq
     have hbeld:=bdrewN hbel nq
     have hftd:(wr.drewN nq).frozen? ⟨w.heap.size+1,t,none⟩=false:=hft
     clear h1 h2 hbel hft c16 c15 c7 c2 ct
     generalize wr.drewN nq=wo at *
     obtain ⟨nx,hval,hnx⟩ : ∃ nx:Nat,IntKind.u32.wrap (IntKind.u32.wrap (IntKind.u32.wrap ((x16:Int)+(x7:Int))+((sig0 x15:Nat):Int))+((sig1 x2:Nat):Int))=(nx:Int)∧nx=nextW l:=by
      refine ⟨nextW l,?_,rfl⟩
      rw [hnext.out,IntKind.wrap_u32,IntKind.wrap_u32,IntKind.wrap_u32]
      omega
     have hnxh:=Lib.hid hnx
     clear hnx
     have ne16:u16≠t:=by have:=v16h.out;omega
     have ne7:u7≠t:=by have:=v7h.out;omega
     go_region_held3 (fun w'=>w'.cell? ⟨w.heap.size+1,u16,none⟩=some (.int .u32 (x16:Int))∧w'.cell? ⟨w.heap.size+1,u7,none⟩=some (.int .u32 (x7:Int))) (first | exact ⟨c16d,c7d⟩ | exact ⟨zE2 c16d ne16,zE2 c7d ne7⟩ | go_keep)
      (first
        | (go_at_call 141;(with_reducible refine (rot_at x15 (-7) 7 rfl b15 (by omega) (by omega) _).mono ?_);rintro e w1 ⟨rfl,rfl⟩)
        | (go_at_call 141;(with_reducible refine (rot_at x15 (-18) 18 rfl b15 (by omega) (by omega) _).mono ?_);rintro e w1 ⟨rfl,rfl⟩)
        | (go_at_call 141;(with_reducible refine (rot_at x2 (-17) 17 rfl b2 (by omega) (by omega) _).mono ?_);rintro e w1 ⟨rfl,rfl⟩)
        | (go_at_call 141;(with_reducible refine (rot_at x2 (-19) 19 rfl b2 (by omega) (by omega) _).mono ?_);rintro e w1 ⟨rfl,rfl⟩))
     have hn1:Blk ((wo.setCell ⟨w.heap.size+1,t,none⟩ (.int .u32 (nx:Int))).drew) (w.heap.size+1) 171 (u32s ((l++[nx])++List.replicate (64-(t+1)) 0)):=by
      have:=(h1d.set_ t (.int .u32 (nx:Int)))
      have hs:=zEg l (64-t) nx (by omega)
      rw [hlen.out] at hs
      rw [zB9,hs,show 64-t-1=64-(t+1) from by omega] at this
      exact this.drew
     have hn2:=(h2d.far (p:=⟨w.heap.size+1,t,none⟩) (by simp) (.int .u32 (nx:Int))).drew
     have hn3:=(hbeld.setCell (p:=⟨w.heap.size+1,t,none⟩) (by simp) (.int .u32 (nx:Int))).drew
     have hnlen:Hid ((l++[nx]).length=t+1):=by rw [List.length_append,hlen.out];rfl
     have hnfit:Hid (Fit32 (l++[nx])):=hfit.out.append (by rw [hnxh.out];exact nextW_lt l)
     have hnsc:Hid (sched (64-(t+1)) (l++[nx])=wordsOf b):=by
      rw [←hsc.out,show 64-t=(64-(t+1))+1 from by omega,sched,←hnxh.out];rfl
     go_wp2
     go_roundw
     case rel=>exact ⟨t+1,l++[nx],by go_num,by omega,by omega,hnlen,hnfit,hnsc,hn1,hn2,hn3⟩
     case measure=>simp [intOf];omega
    ·have ht64:t=64:=by omega
     have hti : ¬ (t:Int)<64:=by omega
     have hl:l=wordsOf b:=by have:=hsc.out;rw [ht64] at this;exact this
     rw [ht64,hl,List.replicate_zero,List.append_nil] at h1
     clear ht64 hl hsc hfit hlen
     have hwf : ∀ v∈u32s (wordsOf b),v.oneCell'=true:=by
      intro v hv
      obtain ⟨n, -,rfl⟩:=by simpa [u32s] using hv
      rfl
     have hsz:(u32s (wordsOf b)).size=64:=by rw [zBj,zCh]
     have hi:=sz64
     rw [←hsz] at hi
     have hi':=Lib.hid hi
     clear hi
     have hold:(u32s (List.replicate 64 0)).size=(u32s (wordsOf b)).size:=by rw [hsz,zBj];simp
     have hall:=Array.all_eq_true_iff_forall_mem.2 hwf
     have hsz':=Lib.hid hsz
     clear hsz
     go_wp2_with (first
      | (refine wpList_load_row rfl 171 (.tmp 3) rfl (w.heap.size+1) rfl _ _ _ _ h1 Tryz.underlying171 rfl hi'.out ?_)
      | (refine wpList_store_row rfl 171 (.tmp 2) (.tmp 71) rfl w.heap.size (u32s (wordsOf b)) rfl rfl _ _ h2 hi'.out hold hall ?_))
     exact bodyPost_ret (results_cell_row rfl _ _ w.heap.size _ _ _ _ rfl (setRow_heap _ _ _ _ _ _ h2) Tryz.underlying171 rfl hi'.out) rfl ⟨rfl,zAa hbel (Nat.le_refl _) _⟩
section
attribute [local go_sem ↓] Go.wp_at_zero Go.wp_at_succ
structure TabK (w:World):Prop where
 pos:0<w.heap.size
 at_ : ∀ t,t<64→w.cell? ⟨0,t,none⟩=some (.int .u32 (K256.getD t 0:Nat))
theorem TabK.below {w w':World} (h:TabK w) (hb:Below w.heap.size w w'):TabK w':=
 ⟨Nat.lt_of_lt_of_le h.pos hb.size,fun t ht=>(hb.cell (p:=⟨0,t,none⟩) h.pos).trans (h.at_ t ht)⟩
theorem run_index_words (l:List Nat) (hl:l.length=64) (t:Nat) (ht:t<64) (w:World) :
 (Instr.index 171 (.agg (u32s l)) (.int .i64 (t:Int))).run Tryz.prog w = .ok (.int .u32 (l.getD t 0:Nat)) w:=by
 have hu:Tryz.prog.underlying 171=some (.array 64 57):=by kernel_rfl
 have h0:(0:Int)≤(t:Int)∧(t:Int)<((64:Nat):Int):=by omega
 have h64 : ¬ 64≤t:=by omega
 have hg:=zA3 l t (by omega)
 have ha:(isAgg 57).run Tryz.prog w = .ok false w:=by kernel_rfl
 have hz:(sizeOf 57).run Tryz.prog w = .ok 1 w:=by kernel_rfl
 simp only [Instr.index,asIntOf,Sem.run_bind,Sem.run_pure,Result.andThen_ok,run_underlying hu]
 rw [if_pos h0]
 simp only [Sem.run_bind,Sem.run_pure,Result.andThen_ok,hz,part,ha,Int.toNat_natCast,Nat.mul_one,hg]
 rfl
theorem blk_new3 (w:World) (o1 o2:Obj) (t:TypeId) (cs:Array Value):Blk (((w.alloc o1).alloc o2).alloc (.cells cs t)) (w.heap.size+2) t cs:=by
 have:=Blk.new ((w.alloc o1).alloc o2) t cs
 rwa [show ((w.alloc o1).alloc o2).heap.size=w.heap.size+2 from by simp] at this
theorem sz8 : (Tryz.prog.info? 170).map (·.size)=some 8:=by kernel_rfl
theorem zBv (l:List Nat):(u32s l).all (·.oneCell')=true:=by
 refine Array.all_eq_true_iff_forall_mem.2 fun v hv=>?_
 obtain ⟨n, -,rfl⟩:=by simpa [u32s] using hv
 rfl
theorem zAq (s:H8):(u32s s.list).size=8:=rfl
theorem copy_up (wp:World) (g xa xb xc xd xe xf xg xh:Nat) (h:Blk wp g 170 (u32s [xa,xb,xc,xd,xe,xf,xg,xh])) :
 (Builtin.copy_ #[217,217] 3 #[.slice (some ⟨g,1,none⟩) 7 7, .slice (some ⟨g,0,none⟩) 7 8]).run Tryz.prog wp = .ok (goInt 7) (wp.setRow g (u32s [xa,xa,xb,xc,xd,xe,xf,xg])):=by
 have:=run_copy_row (P:=Tryz.prog) wp 217 217 3 57 g 1 7 7 ⟨g,0,none⟩ 7 8 (u32s [xa,xb,xc,xd,xe,xf,xg,xh]) 170 (u32s [xa,xb,xc,xd,xe,xf,xg]).toList (by kernel_rfl) (by kernel_rfl) h rfl (fun j v hj=>by
  rw [Addr.add_mid,Nat.zero_add,h.cell]
  have hlt:j<7:=by
   have:=(List.getElem?_eq_some_iff.1 hj).1
   simpa [u32s] using this
  rw [←hj]
  match j,hlt with
  | 0,_ | 1,_ | 2,_ | 3,_ | 4,_ | 5,_ | 6,_=>rfl) (by simp [u32s]) (fun v hv=>by
  obtain ⟨n, -,rfl⟩:=by simpa only [u32s,List.mem_map] using hv
  rfl)
 exact this
set_option maxRecDepth 100000 in
set_option maxHeartbeats 2000000 in
theorem block_calls (s0:H8) (hs0:s0.Fit) (b:List UInt8) (hb:b.length=64) (w:World) (hK:TabK w) :
 Calls Tryz.prog 113 #[.agg (u32s s0.list), .string (B b)] w fun e w'=>e = .returned (.agg (u32s (blockOf s0 b).list))∧Below w.heap.size w w':=by
 go_enter Tryz.func113,Tryz.ntmps113
 have hbox:Blk ((w.alloc (.cells (u32s s0.list) 170)).alloc (.cells (u32s (List.replicate 8 0)) 170)) w.heap.size 170 (u32s s0.list):=(Blk.new w _ _).alloc _
 have hv0:=blk_new3 w (.cells (u32s s0.list) 170) (.cells (u32s (List.replicate 8 0)) 170) 170 (u32s (List.replicate 8 0))
 have hi8:(Tryz.prog.info? 170).map (·.size)=some (u32s s0.list).size:=by rw [zAq];exact sz8
 have hall:=zBv s0.list
 have hold:(u32s (List.replicate 8 0)).size=(u32s s0.list).size:=by rw [zAq];rfl
 obtain ⟨R,hR⟩ : ∃ R,Hid (blockOf s0 b=R):=⟨_,rfl⟩
 go_wp2_with (first
  | (refine wpList_load_row rfl 170 (.tmp 2) rfl w.heap.size rfl _ _ _ _ hbox Tryz.underlying170 rfl hi8 ?_)
  | (refine wpList_store_row rfl 170 (.tmp 6) (.tmp 14) rfl (w.heap.size+2) (u32s s0.list) rfl rfl _ _ hv0 hi8 hold hall ?_)
  | (go_at_call 142;go_must (refine (words_calls b hb _).mono ?_);rintro e w1 ⟨rfl,hb1⟩))
 have hv1:Blk w1 (w.heap.size+1+1) 170 (u32s s0.list):=Blk.below (w:=World.setRow _ (w.heap.size+2) _) (setRow_heap _ _ _ _ _ _ hv0) hb1 (by simp)
 have hbx1:Blk w1 w.heap.size 170 (u32s s0.list):=Blk.below (w:=World.setRow _ (w.heap.size+2) _) (by unfold Blk;rw [setRow_other _ _ _ _ (by omega)];exact hbox.alloc _) hb1 (by simp;omega)
 have hr1:Blk w1 (w.heap.size+1) 170 (u32s (List.replicate 8 0)):=Blk.below (w:=World.setRow _ (w.heap.size+2) _) (by unfold Blk;rw [setRow_other _ _ _ _ (by omega)];exact (blk_new2 w _ _ _).alloc _) hb1 (by simp)
 have hbl1:Below w.heap.size w w1:=(zAa ((((Below.refl _ _).alloc (Nat.le_refl _) _).alloc (by simp) _).alloc (by simp;omega) _) (by omega) _).trans (hb1.mono (by simp;omega))
 clear hb1 hbox hv0
 go_loopw [17] (fun i wr => ∃ (t:Nat) (s:H8),i = .int .i64 t∧t≤64∧Hid (s=after (wordsOf b) s0 t)∧s.Fit∧Blk wr (w.heap.size+1+1) 170 (u32s s.list)∧Blk wr w.heap.size 170 (u32s s0.list)∧Blk wr (w.heap.size+1) 170 (u32s (List.replicate 8 0))∧Below w.heap.size w wr) (fun i _=>64-(intOf i).toNat)
 case atStart=>exact ⟨0,s0,rfl,by omega,rfl,hs0,hv1,hbx1,hr1,hbl1⟩
 case round=>
  obtain ⟨t,s,rfl,ht,hst,hfit,h1,h2,h3,hbel⟩:=hrel
  have hbs:=h1.lt
  by_cases hlt:t<64
  ·have hti:(t:Int)<64:=by omega
   have hidx:=run_index_words (wordsOf b) (zCh b) t hlt
   have hnext:Hid (after (wordsOf b) s0 (t+1)=rnd s (K256.getD t 0) ((wordsOf b).getD t 0)):=by rw [hst.out];rfl
   have bw:=wordsOf_fit b t
   have bk:=K256_fit t
   have ck:wr.cell? ⟨0,t,none⟩=some (.int .u32 (K256.getD t 0:Nat)):=(hbel.cell (p:=⟨0,t,none⟩) hK.pos).trans (hK.at_ t hlt)
   generalize (wordsOf b).getD t 0=wt at *
   generalize K256.getD t 0=kt at *
   obtain ⟨xa,xb,xc,xd,xe,xf,xg,xh⟩:=s
   obtain ⟨ba,bb,bc,bd,be,bf,bg,bh⟩:=hfit
   simp only at ba bb bc bd be bf bg bh
   have c0:wr.cell? ⟨w.heap.size+1+1,0,none⟩=some (.int .u32 (xa:Int)):=h1.cell 0
   have c1:wr.cell? ⟨w.heap.size+1+1,1,none⟩=some (.int .u32 (xb:Int)):=h1.cell 1
   have c2:wr.cell? ⟨w.heap.size+1+1,2,none⟩=some (.int .u32 (xc:Int)):=h1.cell 2
   have c3:wr.cell? ⟨w.heap.size+1+1,3,none⟩=some (.int .u32 (xd:Int)):=h1.cell 3
   have c4:wr.cell? ⟨w.heap.size+1+1,4,none⟩=some (.int .u32 (xe:Int)):=h1.cell 4
   have c5:wr.cell? ⟨w.heap.size+1+1,5,none⟩=some (.int .u32 (xf:Int)):=h1.cell 5
   have c6:wr.cell? ⟨w.heap.size+1+1,6,none⟩=some (.int .u32 (xg:Int)):=h1.cell 6
   have c7:wr.cell? ⟨w.heap.size+1+1,7,none⟩=some (.int .u32 (xh:Int)):=h1.cell 7
   go_wp2
   go_quiet (fail)
   go_wp2
   obtain ⟨wo,hwo⟩ : ∃ wo:World,wo=wr.drewN nq:=⟨_,rfl⟩
   rw [←hwo]
   have d0:wo.cell? ⟨w.heap.size+1+1,0,none⟩=some (.int .u32 (xa:Int)):=by rw [hwo];exact c0
   have d1:wo.cell? ⟨w.heap.size+1+1,1,none⟩=some (.int .u32 (xb:Int)):=by rw [hwo];exact c1
   have d2:wo.cell? ⟨w.heap.size+1+1,2,none⟩=some (.int .u32 (xc:Int)):=by rw [hwo];exact c2
   have d3:wo.cell? ⟨w.heap.size+1+1,3,none⟩=some (.int .u32 (xd:Int)):=by rw [hwo];exact c3
   have d4:wo.cell? ⟨w.heap.size+1+1,4,none⟩=some (.int .u32 (xe:Int)):=by rw [hwo];exact c4
   have d5:wo.cell? ⟨w.heap.size+1+1,5,none⟩=some (.int .u32 (xf:Int)):=by rw [hwo];exact c5
   have d6:wo.cell? ⟨w.heap.size+1+1,6,none⟩=some (.int .u32 (xg:Int)):=by rw [hwo];exact c6
   have d7:wo.cell? ⟨w.heap.size+1+1,7,none⟩=some (.int .u32 (xh:Int)):=by rw [hwo];exact c7
   have dk:wo.cell? ⟨0,t,none⟩=some (.int .u32 (kt:Int)):=by rw [hwo];exact ck
   have h1d:=h1.drewN nq
   have h2d:=h2.drewN nq
   have h3d:=h3.drewN nq
   have hbeld:=bdrewN hbel nq
   rw [←hwo] at h1d h2d h3d hbeld
   clear h1 h2 h3 hbel c0 c1 c2 c3 c4 c5 c6 c7 ck hwo
   have r6:=rotr_lt (n:=6) be (by omega) (by omega)
   have r11:=rotr_lt (n:=11) be (by omega) (by omega)
   have r25:=rotr_lt (n:=25) be (by omega) (by omega)
   have r2:=rotr_lt (n:=2) ba (by omega) (by omega)
   have r13:=rotr_lt (n:=13) ba (by omega) (by omega)
   have r22:=rotr_lt (n:=22) ba (by omega) (by omega)
   have e1:bits .xor .u32 (rotr xe 6:Int) (rotr xe 11:Int)=((rotr xe 6 ^^^ rotr xe 11:Nat):Int):=u32_xor_nat _ _ r6 r11
   have e2:bits .xor .u32 ((rotr xe 6 ^^^ rotr xe 11:Nat):Int) (rotr xe 25:Int)=((sum1 xe:Nat):Int):=u32_xor_nat _ _ (xor_lt r6 r11) r25
   have e3:bits .and .u32 (xe:Int) (xf:Int)=((xe &&& xf:Nat):Int):=u32_and_nat _ _ be bf
   have e4:bits .xor .u32 IntKind.u32.max (xe:Int)=((4294967295 ^^^ xe:Nat):Int):=u32_xor_nat 4294967295 _ (by omega) be
   have bn:4294967295 ^^^ xe<4294967296:=xor_lt (by omega) be
   have e5:bits .and .u32 ((4294967295 ^^^ xe:Nat):Int) (xg:Int)=(((4294967295 ^^^ xe) &&& xg:Nat):Int):=u32_and_nat _ _ bn bg
   have e6:bits .xor .u32 ((xe &&& xf:Nat):Int) (((4294967295 ^^^ xe) &&& xg:Nat):Int)=(((xe &&& xf) ^^^ ((4294967295 ^^^ xe) &&& xg):Nat):Int):=u32_xor_nat _ _ (and_lt bf) (and_lt bg)
   obtain ⟨X,hX,hXe⟩ : ∃ X:Nat,IntKind.u32.wrap (IntKind.u32.wrap (IntKind.u32.wrap (IntKind.u32.wrap ((xh:Int)+((sum1 xe:Nat):Int))+(((xe &&& xf) ^^^ ((4294967295 ^^^ xe) &&& xg):Nat):Int))+(kt:Int))+(wt:Int))=(X:Int)∧X=rndX ⟨xa,xb,xc,xd,xe,xf,xg,xh⟩ kt wt:=by
    refine ⟨_,?_,rfl⟩
    unfold rndX
    generalize ((xe &&& xf) ^^^ ((4294967295 ^^^ xe) &&& xg))=ch
    simp only [IntKind.wrap_u32]
    omega
   have hXh:=Lib.hid hXe
   clear hXe
   have f1:bits .xor .u32 (rotr xa 2:Int) (rotr xa 13:Int)=((rotr xa 2 ^^^ rotr xa 13:Nat):Int):=u32_xor_nat _ _ r2 r13
   have f2:bits .xor .u32 ((rotr xa 2 ^^^ rotr xa 13:Nat):Int) (rotr xa 22:Int)=((sum0 xa:Nat):Int):=u32_xor_nat _ _ (xor_lt r2 r13) r22
   have f3:bits .and .u32 (xa:Int) (xb:Int)=((xa &&& xb:Nat):Int):=u32_and_nat _ _ ba bb
   have f4:bits .and .u32 (xa:Int) (xc:Int)=((xa &&& xc:Nat):Int):=u32_and_nat _ _ ba bc
   have f5:bits .and .u32 (xb:Int) (xc:Int)=((xb &&& xc:Nat):Int):=u32_and_nat _ _ bb bc
   have f6:bits .xor .u32 ((xa &&& xb:Nat):Int) ((xa &&& xc:Nat):Int)=(((xa &&& xb) ^^^ (xa &&& xc):Nat):Int):=u32_xor_nat _ _ (and_lt bb) (and_lt bc)
   have f7:bits .xor .u32 (((xa &&& xb) ^^^ (xa &&& xc):Nat):Int) ((xb &&& xc:Nat):Int)=(((xa &&& xb) ^^^ (xa &&& xc) ^^^ (xb &&& xc):Nat):Int):=u32_xor_nat _ _ (xor_lt (and_lt bb) (and_lt bc)) (and_lt bc)
   obtain ⟨Y,hY,hYe⟩ : ∃ Y:Nat,IntKind.u32.wrap (((sum0 xa:Nat):Int)+(((xa &&& xb) ^^^ (xa &&& xc) ^^^ (xb &&& xc):Nat):Int))=(Y:Int)∧Y=rndY ⟨xa,xb,xc,xd,xe,xf,xg,xh⟩:=by
    refine ⟨_,?_,rfl⟩
    unfold rndY
    generalize (xa &&& xb) ^^^ (xa &&& xc) ^^^ (xb &&& xc)=mj
    simp only [IntKind.wrap_u32]
    omega
   have hYh:=Lib.hid hYe
   clear hYe
   go_region_held3 (fun w'=>w'.cell? ⟨w.heap.size+1+1,7,none⟩=some (.int .u32 (xh:Int))∧w'.cell? ⟨w.heap.size+1+1,5,none⟩=some (.int .u32 (xf:Int))∧w'.cell? ⟨w.heap.size+1+1,6,none⟩=some (.int .u32 (xg:Int))∧w'.cell? ⟨0,t,none⟩=some (.int .u32 (kt:Int))) (first | exact ⟨d7,d5,d6,dk⟩ | go_keep)
    (first
      | (go_at_call 141;(with_reducible refine (rot_at xe (-6) 6 rfl be (by omega) (by omega) _).mono ?_);rintro e w1 ⟨rfl,rfl⟩)
      | (go_at_call 141;(with_reducible refine (rot_at xe (-11) 11 rfl be (by omega) (by omega) _).mono ?_);rintro e w1 ⟨rfl,rfl⟩)
      | (go_at_call 141;(with_reducible refine (rot_at xe (-25) 25 rfl be (by omega) (by omega) _).mono ?_);rintro e w1 ⟨rfl,rfl⟩))
   go_wp2
   have d1':wo.drew.cell? ⟨w.heap.size+1+1,1,none⟩=some (.int .u32 (xb:Int)):=d1
   have d2':wo.drew.cell? ⟨w.heap.size+1+1,2,none⟩=some (.int .u32 (xc:Int)):=d2
   go_region_held3 (fun w'=>w'.cell? ⟨w.heap.size+1+1,1,none⟩=some (.int .u32 (xb:Int))∧w'.cell? ⟨w.heap.size+1+1,2,none⟩=some (.int .u32 (xc:Int))) (first | exact ⟨d1',d2'⟩ | exact ⟨d1,d2⟩ | go_keep)
    (first
      | (go_at_call 141;(with_reducible refine (rot_at xa (-2) 2 rfl ba (by omega) (by omega) _).mono ?_);rintro e w1 ⟨rfl,rfl⟩)
      | (go_at_call 141;(with_reducible refine (rot_at xa (-13) 13 rfl ba (by omega) (by omega) _).mono ?_);rintro e w1 ⟨rfl,rfl⟩)
      | (go_at_call 141;(with_reducible refine (rot_at xa (-22) 22 rfl ba (by omega) (by omega) _).mono ?_);rintro e w1 ⟨rfl,rfl⟩))
   go_wp2
   have g1:=h1d.drew.drew
   have g2:=h2d.drew.drew
   have g3:=h3d.drew.drew
   have gbel:=hbeld.drew.drew
   have gsz:w.heap.size+1+1<wo.drew.drew.heap.size:=g1.lt
   clear h1d h2d h3d hbeld d0 d1 d2 d3 d4 d5 d6 d7 dk d1' d2' e1 e2 e3 e4 e5 e6 f1 f2 f3 f4 f5 f6 f7 hX hY r2 r13 r22 r6 r11 r25
   generalize wo.drew.drew=wp at *
   obtain ⟨wq,hcp,hwq⟩ : ∃ wq,(Builtin.copy_ #[217,217] 3 #[.slice (some ⟨w.heap.size+1+1,1,none⟩) 7 7, .slice (some ⟨w.heap.size+1+1,0,none⟩) 7 8]).run Tryz.prog wp.drew = .ok (goInt 7) wq∧wq=wp.drew.setRow (w.heap.size+1+1) (u32s [xa,xa,xb,xc,xd,xe,xf,xg]):=⟨_,copy_up _ _ _ _ _ _ _ _ _ _ g1.drew,rfl⟩
   have q1:Blk wq (w.heap.size+1+1) 170 (u32s [xa,xa,xb,xc,xd,xe,xf,xg]):=by rw [hwq];exact setRow_heap _ _ _ _ _ _ g1.drew
   have q2:Blk wq w.heap.size 170 (u32s s0.list):=by rw [hwq];unfold Blk;rw [setRow_other _ _ _ _ (by omega)];exact g2.drew
   have q3:Blk wq (w.heap.size+1) 170 (u32s (List.replicate 8 0)):=by rw [hwq];unfold Blk;rw [setRow_other _ _ _ _ (by omega)];exact g3.drew
   have qbel:Below w.heap.size w wq:=by rw [hwq];exact zAa gbel.drew (by omega) _
   clear g1 g2 g3 gbel hwq
   go_region
   clear hcp
   have c4:wq.cell? ⟨w.heap.size+1+1,4,none⟩=some (.int .u32 (xd:Int)):=q1.cell 4
   have c0:wq.cell? ⟨w.heap.size+1+1,0,none⟩=some (.int .u32 (xa:Int)):=q1.cell 0
   have z4:=q1.frozen 4
   have z0:=q1.frozen 0
   obtain ⟨D,hD,hDe⟩ : ∃ D:Nat,IntKind.u32.wrap ((xd:Int)+(X:Int))=(D:Int)∧D=(xd+X)%4294967296:=⟨_,by rw [IntKind.wrap_u32];omega,rfl⟩
   obtain ⟨A0,hA,hAe⟩ : ∃ A0:Nat,IntKind.u32.wrap ((X:Int)+(Y:Int))=(A0:Int)∧A0=(X+Y)%4294967296:=⟨_,by rw [IntKind.wrap_u32];omega,rfl⟩
   have hDh:=Lib.hid hDe
   have hAh:=Lib.hid hAe
   clear hDe hAe
   go_wp2
   go_roundw
   case rel=>
    refine ⟨t+1,⟨A0,xa,xb,xc,D,xe,xf,xg⟩,by go_num,by omega,?_,⟨?_,ba,bb,bc,?_,be,bf,bg⟩,?_,?_,?_,?_⟩
    ·show _=_
     rw [hnext.out,rnd,←hXh.out,←hYh.out,←hDh.out,←hAh.out]
    ·have:=hAh.out;show A0<_;omega
    ·have:=hDh.out;show D<_;omega
    ·have:=((q1.set_ 4 (.int .u32 (D:Int))).set_ 0 (.int .u32 (A0:Int)))
     rw [zB9,zB9] at this
     exact this
    ·exact (q2.far (p:=⟨w.heap.size+1+1,4,none⟩) (by simp;omega) _).far (p:=⟨w.heap.size+1+1,0,none⟩) (by simp;omega) _
    ·exact (q3.far (p:=⟨w.heap.size+1+1,4,none⟩) (by simp) _).far (p:=⟨w.heap.size+1+1,0,none⟩) (by simp) _
    ·exact (qbel.setCell (p:=⟨w.heap.size+1+1,4,none⟩) (by simp;omega) _).setCell (p:=⟨w.heap.size+1+1,0,none⟩) (by simp;omega) _
   case measure=>simp [intOf];omega
  ·have ht64:t=64:=by omega
   have hti : ¬ (t:Int)<64:=by omega
   have hsv:Hid (R=s.plus s0):=by show _=_;rw [←hR.out,blockOf,←ht64,←hst.out]
   clear ht64 hst
   go_wp2
   go_loopw [96] (fun i wr => ∃ i':Nat,i = .int .i64 i'∧i'≤8∧Blk wr (w.heap.size+1+1) 170 (u32s (mixed s.list s0.list i'))∧Blk wr w.heap.size 170 (u32s s0.list)∧Blk wr (w.heap.size+1) 170 (u32s (List.replicate 8 0))∧Below w.heap.size w wr) (fun i _=>8-(intOf i).toNat)
   case atStart=>exact ⟨0,rfl,by omega,h1,h2,h3,hbel⟩
   case round=>
    obtain ⟨i,rfl,hi,h1,h2,h3,hbel⟩:=hrel
    have hbs:=h1.lt
    by_cases hi8:i<8
    ·have hii:(i:Int)<8:=by omega
     have ml:(mixed s.list s0.list i).length=8:=zED s.list s0.list rfl i hi
     have cv:wr.cell? ⟨w.heap.size+1+1,i,none⟩=some (.int .u32 (s.list.getD i 0:Nat)):=by
      rw [h1.cell,zA3 _ _ (by omega),mixed_get s.list s0.list rfl i hi8]
     have cs:wr.cell? ⟨w.heap.size,i,none⟩=some (.int .u32 (s0.list.getD i 0:Nat)):=by
      rw [h2.cell,zA3 _ _ hi8]
     have zv:=h1.frozen i
     have hms:=Lib.hid (mixed_step s.list s0.list rfl i hi8)
     unfold add32 at hms
     generalize s.list.getD i 0=xv at *
     generalize s0.list.getD i 0=xs at *
     obtain ⟨N,hN,hNe⟩ : ∃ N:Nat,IntKind.u32.wrap ((xv:Int)+(xs:Int))=(N:Int)∧N=(xv+xs)%4294967296:=⟨_,by rw [IntKind.wrap_u32];omega,rfl⟩
     have hNh:=Lib.hid hNe
     clear hNe
     go_wp2
     go_region
     go_wp2
     go_roundw
     case rel=>
      refine ⟨i+1,by go_num,by omega,?_,?_,?_,?_⟩
      ·have:=(h1.set_ i (.int .u32 (N:Int))).drew
       rw [zB9,hNh.out,hms.out] at this
       rw [hNh.out]
       exact this
      ·exact (h2.far (p:=⟨w.heap.size+1+1,i,none⟩) (by simp;omega) _).drew
      ·exact (h3.far (p:=⟨w.heap.size+1+1,i,none⟩) (by simp) _).drew
      ·exact (hbel.setCell (p:=⟨w.heap.size+1+1,i,none⟩) (by simp;omega) _).drew
     case measure=>simp [intOf];omega
    ·have hi8':i=8:=by omega
     have hii : ¬ (i:Int)<8:=by omega
     rw [hi8',mixed_all,←hsv.out] at h1
     clear hi8'
     have hi':(Tryz.prog.info? 170).map (·.size)=some (u32s R.list).size:=by rw [zAq];exact sz8
     have hall':=zBv R.list
     have hold':(u32s (List.replicate 8 0)).size=(u32s R.list).size:=by rw [zAq];rfl
     go_wp2_with (first
      | (refine wpList_load_row rfl 170 (.tmp 6) rfl (w.heap.size+1+1) rfl _ _ _ _ h1 Tryz.underlying170 rfl hi' ?_)
      | (refine wpList_store_row rfl 170 (.tmp 4) (.tmp 108) rfl (w.heap.size+1) (u32s R.list) rfl rfl _ _ h3 hi' hold' hall' ?_))
     exact bodyPost_ret (results_cell_row rfl _ _ (w.heap.size+1) _ _ _ _ rfl (setRow_heap _ _ _ _ _ _ h3) Tryz.underlying170 rfl hi') rfl ⟨by rw [hR.out],zAa hbel (by omega) _⟩
end
section
attribute [local go_sem ↓] Go.wp_at_zero Go.wp_at_succ
def Strs (w:World) (v:Value) (ls:List (List UInt8)):Prop:=
 (ls=[] ∧ ∃ a c,v = .slice a 0 c) ∨
 ∃ bk o c,v = .slice (some ⟨bk,o,none⟩) ls.length c∧(∀ (j:Nat) l,ls[j]?=some l→w.cell? ⟨bk,o+j,none⟩=some (.string (B l)))∧bk<w.heap.size∧ls.length≤c∧ls.length≤140737488355328
theorem Strs.below {w w':World} {v:Value} {ls:List (List UInt8)} (h:Strs w v ls) (hb:Below w.heap.size w w'):Strs w' v ls:=by
 rcases h with h | ⟨bk,o,c,h1,h2,h3,h4,h5⟩
 ·exact .inl h
 ·exact .inr ⟨bk,o,c,h1,fun j l hj=>(hb.cell (p:=⟨bk,o+j,none⟩) h3).trans (h2 j l hj),Nat.lt_of_lt_of_le h3 hb.size,h4,h5⟩
theorem zEx (ls:List (List UInt8)):Lib.join ls []=ls.flatten:=by
 have : ∀ l:List (List UInt8),(l.intersperse []).flatten=l.flatten:=by
  intro l
  induction l with
  | nil=>rfl
  | cons a r ih=>
    cases r with
    | nil=>rfl
    | cons b r=>rw [List.intersperse_cons_cons,List.flatten_cons,List.flatten_cons,ih];rfl
 exact this ls
theorem join_calls (ls:List (List UInt8)) (v:Value) (w:World) (hv:Strs w v ls) (hlen:ls.flatten.length≤140737488355328) :
 Calls Tryz.prog 111 #[v, .string ⟨#[]⟩] w fun e w'=>e = .returned (.string (B ls.flatten))∧Below w.heap.size w w':=by
 rcases hv with ⟨rfl,a,c,rfl⟩ | ⟨bk,o,c,rfl,h1,h2,h3,h4⟩
 ·exact (Tryz.strings_Join_none a c ⟨#[]⟩ w).mono fun e w' h=>⟨h.1,h.2▸Below.refl _ _⟩
 ·have hm:(ls.map B).map (·.data.toList)=ls:=by simp [List.map_map,Function.comp_def,B]
  have:=Tryz.strings_Join bk o c (ls.map B) ⟨#[]⟩ w (fun j x hj=>by
   rw [List.getElem?_map] at hj
   obtain ⟨l,hl,rfl⟩:=Option.map_eq_some_iff.1 hj
   exact h1 j l hl) h2 (by simpa using h4) (by simpa using h3) (by rw [hm,zEx];exact hlen)
  rw [List.length_map,hm,zEx] at this
  exact this
theorem repeat_zeros (n:Nat):Lib.repeatL [0] n=List.replicate n 0:=by
 induction n with
 | zero=>rfl
 | succ n ih=>rw [Lib.repeatL,ih,List.replicate_succ];rfl
theorem zeros_calls (n:Nat) (hn:n≤64) (w:World) :
 Calls Tryz.prog 112 #[.string ⟨#[0]⟩, .int .i64 n] w fun e w'=>e = .returned (.string (B (List.replicate n 0)))∧Below w.heap.size w w':=by
 have:=Tryz.strings_Repeat ⟨#[0]⟩ n w (by omega) (by show 1*n≤_;omega)
 rw [show (⟨#[0]⟩:ByteArray).data.toList=[0] from rfl,repeat_zeros] at this
 exact this
def ldv8 (p:Addr):Sem Value:=loadVar 170 p
def stv8 (p:Addr) (v:Value):Sem Unit:=storeVar 170 p v
theorem ldv8_eq (p:Addr):loadVar 170 p=ldv8 p:=rfl
theorem stv8_eq (p:Addr) (v:Value):storeVar 170 p v=stv8 p v:=rfl
theorem run_ldv8 (w:World) (g:Nat) (hh:HasRow w g 170 8):(ldv8 ⟨g,0,none⟩).run Tryz.prog w = .ok (.agg (RowOf w g)) w:=by
 obtain ⟨cs,hn,h⟩:=hh
 rw [zB4 h]
 exact run_loadVar_row w g _ _ _ _ _ h Tryz.underlying170 rfl (by rw [hn];exact sz8)
theorem run_stv8 (w:World) (g:Nat) (r:H8) (hh:HasRow w g 170 8):(stv8 ⟨g,0,none⟩ (.agg (u32s r.list))).run Tryz.prog w = .ok () (w.setRow g (u32s r.list)):=by
 obtain ⟨cs,hn,h⟩:=hh
 exact run_storeVar_row w g _ _ _ _ h (by rw [zAq];exact sz8) (by rw [zAq,hn]) (zBv _)
attribute [local go_sem ↓] ldv8_eq stv8_eq
attribute [local go_sem] run_ldv8 run_stv8
theorem zDz (n k:Nat) (hk:k<8):(zAU n).take k++[UInt8.ofNat ((n:Int)*8 / 2 ^ (56-8*k)%256).toNat]=(zAU n).take (k+1):=by
 have hlen:(zAU n).length=8:=by simp [zAU]
 have e:((n:Int)*8 / 2 ^ (56-8*k)%256).toNat=8*n / 2 ^ (56-8*k)%256:=by
  have:(n:Int)*8 / 2 ^ (56-8*k)%256=((8*n / 2 ^ (56-8*k)%256:Nat):Int):=by
   rw [Int.mul_comm];simp
  rw [this];rfl
 rw [e,List.take_add_one,List.getElem?_eq_getElem (by omega)]
 simp [zAU]
theorem zA9 (n:Nat):(zAU n).length=8:=by simp [zAU]
theorem zDH (l:List UInt8) : ∃ m,(padded l).length=64*m:=by
 refine ⟨(padded l).length / 64,?_⟩
 have:(padded l).length=l.length+1+padLen l.length+8:=by simp [padded,zA9];omega
 rw [this]
 unfold padLen
 omega
theorem take_set (L:List UInt8) (i n:Nat) (hi:i<L.length) (hn:n=L.length):(L.take i++List.replicate (n-i) 0).set i (L.getD i 0)=L.take (i+1)++List.replicate (n-(i+1)) 0:=by
 subst hn
 have hl:(L.take i).length=i:=by simp;omega
 rw [List.set_append_right _ _ (by omega),hl,Nat.sub_self,show L.length-i=(L.length-(i+1))+1 from by omega,List.replicate_succ,List.set_cons_zero,List.take_add_one,List.append_assoc,List.getElem?_eq_getElem hi]
 simp [List.getD,List.getElem?_eq_getElem hi]
theorem zAO (s:H8):(idOf s).length=32:=by simp [idOf]
theorem idOf_get (s:H8) (i:Nat) (hi:i<32):(idOf s).getD i 0=(s.list.getD (i / 4) 0 / 2 ^ (24-8*(i%4))%256).toUInt8:=by
 have:i<(idOf s).length:=by rw [zAO];exact hi
 rw [List.getD,List.getElem?_eq_getElem this]
 simp only [idOf,List.getElem_map,List.getElem_range,Option.getD_some]
set_option maxRecDepth 100000 in
set_option maxHeartbeats 2000000 in
theorem sum_calls (ls:List (List UInt8)) (v:Value) (w:World) (hK:TabK w) (hv:Strs w v ls) (hlen:ls.flatten.length≤1099511627776) :
 Calls Tryz.prog 80 #[v] w fun e w'=>e = .returned (.agg (u8s (shaOf ls.flatten)))∧Below w.heap.size w w':=by
 go_enter Tryz.func80,Tryz.ntmps80
 obtain ⟨l,hl⟩ : ∃ l,ls.flatten=l:=⟨_,rfl⟩
 rw [hl] at hlen ⊢
 have hll:(l.length:Int)≤1099511627776:=by omega
 obtain ⟨p,hpe⟩ : ∃ p,Hid (padLen l.length=p):=⟨_,rfl⟩
 have hp64:p≤64:=by rw [←hpe.out];unfold padLen;omega
 have hp1:(120-((l.length:Int)+1))%64=(p:Int):=by rw [←hpe.out];unfold padLen;omega
 have hp2:(120-((l.length:Int)+1)%64)%64=(p:Int):=by rw [←hpe.out];unfold padLen;omega
 go_wp2_with (first
  | (go_at_call 111;go_must (refine (join_calls ls v _ (hv.below ((Below.refl _ _).alloc (Nat.le_refl _) _)) (by rw [hl];omega)).mono ?_);rw [hl];rintro e w1 ⟨rfl,hb1⟩)
  | (go_at_call 112;go_must (refine (zeros_calls p hp64 _).mono ?_);rintro e w2 ⟨rfl,hb2⟩))
 have hr1:Blk w1 w.heap.size 46 (u8s (List.replicate 32 0)):=Blk.below (Blk.new w _ _) hb1 (by rw [zA4];omega)
 have hl1:Below w.heap.size w w1:=bthen ((Below.refl _ _).alloc (Nat.le_refl _) _) (by rw [zA4];omega) hb1
 have hr2:Blk w2 w.heap.size 46 (u8s (List.replicate 32 0)):=hr1.below hb2 hr1.lt
 have hl2:Below w.heap.size w w2:=bthen hl1 hl1.size hb2
 clear hb1 hb2 hr1 hl1
 have hbase0:(l++128::List.replicate p 0).length=l.length+1+p:=by simp;omega
 generalize hbs:l++128::List.replicate p 0=bs at *
 have hbsh:=Lib.hid hbs
 have hbase:=Lib.hid hbase0
 have hbl:bs.length≤1099511627776+100:=by omega
 clear hbs hbase0
 go_loopw [25,3] (fun i tx wr => ∃ k:Nat,i = .int .i64 k∧k≤8∧tx = .string (B (bs++(zAU l.length).take k))∧Blk wr w.heap.size 46 (u8s (List.replicate 32 0))∧Below w.heap.size w wr) (fun i _ _=>8-(intOf i).toNat)
 case atStart=>exact ⟨0,rfl,by omega,by rw [List.take_zero,List.append_nil],hr2,hl2⟩
 case round=>
  obtain ⟨k,rfl,hk,rfl,hr,hbel⟩:=hrel
  have hrl:=hr.lt
  by_cases hk8:k<8
  ·have hki:(k:Int)<8:=by omega
   have hst1:=Tryz.str_of_one
   go_wp2
   have hstep:=Lib.hid (zDz l.length k hk8)
   go_roundw
   case rel=>exact ⟨k+1,by go_num,by omega,by rw [hstep.out],hr.alloc _,hbel.alloc (by omega) _⟩
   case measure=>simp [intOf];omega
  ·have hk8':k=8:=by omega
   have hki : ¬ (k:Int)<8:=by omega
   have hpd:bs++(zAU l.length).take k=padded l:=by
    rw [hk8',List.take_of_length_le (by rw [zA9];omega),←hbsh.out,←hpe.out]
    simp [padded]
   rw [hpd]
   clear hk8' hpd
   obtain ⟨m0,hm0⟩:=zDH l
   have hst0:Hid (blocks m0 H0 (padded l)=stateOf l):=by
    show _=_
    rw [stateOf,hm0,Nat.mul_div_cancel_left _ (by omega)]
   have hpdl:(padded l).length≤1099511627976:=by
    have:(padded l).length=l.length+1+padLen l.length+8:=by simp [padded,zA9];omega
    rw [this,hpe.out];omega
   generalize padded l=pd at *
   have hi8:(Tryz.prog.info? 170).map (·.size)=some (u32s H0.list).size:=by rw [zAq];exact sz8
   have hall:=zBv H0.list
   have hold:(u32s (List.replicate 8 0)).size=(u32s H0.list).size:=rfl
   have hv0:=Blk.new wr 170 (u32s (List.replicate 8 0))
   go_wp2_with (first
    | (refine wpList_store_row rfl 170 (.tmp 6) (.tmp 39) rfl wr.heap.size (u32s H0.list) rfl rfl _ _ hv0 hi8 hold hall ?_))
   have h1:Blk (World.setRow (wr.alloc (.cells (u32s (List.replicate 8 0)) 170)) wr.heap.size (u32s H0.list)) wr.heap.size 170 (u32s H0.list):=setRow_heap _ _ _ _ _ _ hv0
   have h2:Blk (World.setRow (wr.alloc (.cells (u32s (List.replicate 8 0)) 170)) wr.heap.size (u32s H0.list)) w.heap.size 46 (u8s (List.replicate 32 0)):=by
    unfold Blk;rw [setRow_other _ _ _ _ (by omega)];exact hr.alloc _
   have h3:Below w.heap.size w (World.setRow (wr.alloc (.cells (u32s (List.replicate 8 0)) 170)) wr.heap.size (u32s H0.list)):=zAa (hbel.alloc (by omega) _) (by omega) _
   clear hv0 hr hbel
   obtain ⟨vb,hvb⟩ : ∃ vb,wr.heap.size=vb:=⟨_,rfl⟩
   have hvw:w.heap.size<vb:=by omega
   go_loopw [3] (fun tx wr => ∃ (m:Nat) (rest:List UInt8) (s:H8),tx = .string (B rest)∧Hid (rest.length=64*m)∧rest.length≤1099511627976∧Hid (blocks m s rest=stateOf l)∧s.Fit∧Blk wr vb 170 (u32s s.list)∧Blk wr w.heap.size 46 (u8s (List.replicate 32 0))∧Below w.heap.size w wr) (fun tx _=>(strOf tx).length)
   case atStart=>exact ⟨m0,pd,H0,rfl,hm0,hpdl,hst0,H0_fit,hvb▸h1,h2,h3⟩
   case round=>
    rw [hvb]
    clear h1 h2 h3 hvb
    obtain ⟨m,rest,s,rfl,hm,hrl2,hst,hfit,h1,h2,h3⟩:=hrel
    have hbs1:=h1.lt
    by_cases hre:rest=[]
    ·have hemp:rest.isEmpty=true:=by rw [hre];rfl
     have hsl:Hid (s=stateOf l):=by
      have hm0':m=0:=by have:=hm.out;rw [hre] at this;simp at this;omega
      have:=hst.out
      rw [hm0'] at this
      exact this
     clear hst hm hre
     have hg0:=Blk.new wr 46 (u8s (List.replicate 32 0))
     have k1:=h1.alloc (.cells (u8s (List.replicate 32 0)) 46)
     have k2:=h2.alloc (.cells (u8s (List.replicate 32 0)) 46)
     have k3:=h3.alloc (Nat.le_of_lt h2.lt) (.cells (u8s (List.replicate 32 0)) 46)
     go_wp2
     obtain ⟨ib,hib⟩ : ∃ ib,wr.heap.size=ib:=⟨_,rfl⟩
     rw [hib] at hg0 ⊢
     have hvi:vb<ib:=by omega
     clear h1 h2 h3 hib
     go_loopw [48] (fun i wr => ∃ k:Nat,i = .int .i64 k∧k≤32∧Blk wr ib 46 (u8s ((idOf s).take k++List.replicate (32-k) 0))∧Blk wr vb 170 (u32s s.list)∧Blk wr w.heap.size 46 (u8s (List.replicate 32 0))∧Below w.heap.size w wr) (fun i _=>32-(intOf i).toNat)
     case atStart=>exact ⟨0,rfl,by omega,hg0,k1,k2,k3⟩
     case round=>
      clear hg0 k1 k2 k3
      obtain ⟨i,rfl,hi,h0,h1,h2,h3⟩:=hrel
      have hbi:=h0.lt
      by_cases hi32:i<32
      ·have hii:(i:Int)<32:=by omega
       have hq:(i:Int) / 4<8:=by omega
       have hq0:(0:Int)≤(i:Int) / 4:=by omega
       have hqn:i / 4<8:=by omega
       have cw:wr.cell? ⟨vb,i / 4,none⟩=some (.int .u32 (s.list.getD (i / 4) 0:Nat)):=by
        rw [h1.cell,zA3 _ _ hqn]
       have cz:wr.cell? ⟨ib,i,none⟩=some (.int .u8 ((((idOf s).take i++List.replicate (32-i) 0).getD i 0).toNat:Nat)):=by
        rw [h0.cell,u8s_get _ _ (by rw [List.length_append,List.length_take,zAO,List.length_replicate];omega)]
       have fz:=h0.frozen i
       have hset:=Lib.hid (take_set (idOf s) i 32 (by rw [zAO];exact hi32) (zAO s).symm)
       have hget:=Lib.hid (idOf_get s i hi32)
       generalize (((idOf s).take i++List.replicate (32-i) 0).getD i 0).toNat=oz at *
       generalize s.list.getD (i / 4) 0=x at *
       go_wp2
       have hvv:(x:Int) / 2 ^ (24-8*(i%4))%256=((x / 2 ^ (24-8*(i%4))%256:Nat):Int):=by simp
       rw [hvv]
       have hlt:=Nat.mod_lt (x / 2 ^ (24-8*(i%4))) (show 0<256 by omega)
       have hn:=h0.set_ i (.int .u8 ((x / 2 ^ (24-8*(i%4))%256:Nat):Int))
       rw [u8s_set _ _ _ hlt,←hget.out,hset.out] at hn
       go_roundw
       case rel=>exact ⟨i+1,by go_num,by omega,hn,h1.far (by simp;omega) _,h2.far (by simp;omega) _,h3.setCell (by simp;omega) _⟩
       case measure=>simp [intOf];omega
      ·have hi32':i=32:=by omega
       have hii : ¬ (i:Int)<32:=by omega
       have h0':Blk wr ib 46 (u8s (idOf s)):=by
        rw [hi32',List.take_of_length_le (by rw [zAO];omega),Nat.sub_self,List.replicate_zero,List.append_nil] at h0
        exact h0
       clear hi32' h0
       have hid:(idOf s).length=32:=zAO s
       have hfin:Hid (shaOf l=idOf s):=by show _=_;rw [hsl.out];rfl
       clear hsl
       generalize idOf s=id at *
       have hi':(Tryz.prog.info? 46).map (·.size)=some (u8s id).size:=by rw [zAj,hid];exact sz32
       have hall':=u8s_one id
       have hold':(u8s (List.replicate 32 0)).size=(u8s id).size:=by rw [zAj,zAj,hid,List.length_replicate]
       go_wp2_with (first
        | (refine wpList_load_row rfl 46 (.tmp 7) rfl ib rfl _ _ _ _ h0' Tryz.underlying46 rfl hi' ?_)
        | (refine wpList_store_row rfl 46 (.tmp 2) (.tmp 64) rfl w.heap.size (u8s id) rfl rfl _ _ h2 hi' hold' hall' ?_))
       exact bodyPost_ret (results_cell_row rfl _ _ w.heap.size _ _ _ _ rfl (setRow_heap _ _ _ _ _ _ h2) Tryz.underlying46 rfl hi') rfl ⟨by rw [hfin.out],zAa h3 (Nat.le_refl _) _⟩
    ·have hemp:rest.isEmpty=false:=by cases rest with | nil=>exact absurd rfl hre | cons=>rfl
     have h64:64≤rest.length:=by
      have:=hm.out
      have h0:rest.length≠0:=fun h=>hre (List.length_eq_zero_iff.1 h)
      omega
     have h64i:(64:Int)≤(rest.length:Int):=by omega
     have hR:HasRow wr vb 170 8:=zCt h1 (zAq s)
     have hO:RowOf wr vb=u32s s.list:=zB4 h1
     have hRd:HasRow wr.drew vb 170 8:=hR
     have hOd:RowOf wr.drew vb=u32s s.list:=hO
     have hKd:TabK wr.drew:=hK.below h3.drew
     have h1d:Blk wr.drew vb 170 (u32s s.list):=h1
     have hbs1d:vb<wr.drew.heap.size:=hbs1
     go_wp2
     go_region_with (first
      | (go_at_call 113;go_must (refine (block_calls s hfit (rest.take 64) (by rw [List.length_take];omega) _ hKd).mono ?_);rintro e w1 ⟨rfl,hb1⟩;have hRc:=zCt (h1d.below hb1 hbs1d) (zAq s);have hOc:=zB4 (h1d.below hb1 hbs1d)))
     have e1:=setRow_heap w1 vb _ (u32s (blockOf s (rest.take 64)).list) _ _ (h1d.below hb1 hbs1d)
     have e2:Blk (w1.setRow vb (u32s (blockOf s (rest.take 64)).list)) w.heap.size 46 (u8s (List.replicate 32 0)):=by
      unfold Blk;rw [setRow_other _ _ _ _ (by omega)];exact Blk.below (w:=wr.drew) h2 hb1 h2.lt
     have e3:=zAa (bthen h3.drew (Nat.le_of_lt h2.lt) hb1) (Nat.le_of_lt hvw) (u32s (blockOf s (rest.take 64)).list)
     have hnst:Hid (blocks (m-1) (blockOf s (rest.take 64)) (rest.drop 64)=stateOf l):=by
      have:=hst.out
      obtain ⟨m',rfl⟩ : ∃ m',m=m'+1:=⟨m-1,by have:=hm.out;omega⟩
      exact this
     have hnm:Hid ((rest.drop 64).length=64*(m-1)):=by have:=hm.out;show _=_;rw [List.length_drop];omega
     have hdl:(rest.drop 64).length=rest.length-64:=List.length_drop
     have hfit2:(blockOf s (rest.take 64)).Fit:=plus_fit _ _
     generalize blockOf s (rest.take 64)=s' at *
     clear hRc hOc hb1
     generalize w1.setRow vb (u32s s'.list)=wz at *
     go_wp2
     go_roundw
     case rel=>exact ⟨m-1,rest.drop 64,s',rfl,hnm,by omega,hnst,hfit2,e1,e2,e3⟩
     case measure=>rw [strOf_B,strOf_B];omega
end
set_option maxRecDepth 100000 in
set_option maxHeartbeats 400000 in
theorem turn_calls (x n:Nat) (hx:x<4294967296) (h0:1≤n) (h1:n≤31) (w:World) :
 Calls Tryz.prog 123 #[.int .u32 x, .int .u64 n] w fun e w'=>e = .returned (.int .u32 (rotr x n))∧w=w':=by
 have hn0:0≤(n:Int):=by omega
 have hn1:(n:Int)≤31:=by omega
 go_enter Tryz.func123,Tryz.ntmps123
 go_wp2
 go_ret
 refine ⟨congrArg (fun n:Int=>Ending.returned (.int .u32 n)) ?_,rfl⟩
 have e:((rotr x n:Nat):Int)=(x:Int) / 2 ^ n+(x:Int)*2 ^ (32-n)%4294967296:=by simp [rotr]
 have:=rotr_lt hx h0 h1
 rw [←e]
 omega
set_option maxRecDepth 100000 in
set_option maxHeartbeats 400000 in
theorem k_calls (w:World) :
 Calls Tryz.prog 97 #[] w fun e w'=>e = .returned (.agg (u32s K256))∧Below w.heap.size w w':=by
 have hi':(Tryz.prog.info? 171).map (·.size)=some (u32s K256).size:=by rw [zBj,zBo];exact sz64
 have hall':=zBv K256
 have hold':(u32s (List.replicate 64 0)).size=(u32s K256).size:=by rw [zBj,zBj,zBo,List.length_replicate]
 have hv0:=Blk.new w 171 (u32s (List.replicate 64 0))
 go_enter Tryz.func97,Tryz.ntmps97
 go_wp2_with (first
  | (refine wpList_store_row rfl 171 (.tmp 0) (.tmp 1) rfl w.heap.size (u32s K256) rfl rfl _ _ hv0 hi' hold' hall' ?_))
 exact bodyPost_ret (results_cell_row rfl _ _ w.heap.size _ _ _ _ rfl (setRow_heap _ _ _ _ _ _ hv0) Tryz.underlying171 rfl hi') rfl ⟨rfl,zAa ((Below.refl _ _).alloc (Nat.le_refl _) _) (Nat.le_refl _) _⟩
end Go.Proofs.YtbhdfaadedlcfaaGreatDoor
