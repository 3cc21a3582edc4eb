/- Texts of this claim, laid together: DptIn, GraN, GraQ, GraH, GraO, GraU, DptV, DptO, DptB, ObjQ, DptX. -/
import Derived.Test.YtbhdfaadedlcfaaGreatDoorMl
import Derived.Shelf.RegionOpenPlain
import Derived.Lib.Overlaps
import Derived.BigRegion
import Derived.Deep.RegionWith
namespace Go.Proofs.YtbhdfaadedlcfaaGreatDoor
open Go.RowKit
theorem run_overlaps_dpts (w:World) (g vb o:Nat) (cur cv:Array Value) (e ev:TypeId) (hb:Blk w g e cur) (hv:Blk w vb ev cv) (hc:0<cur.size) (hne:vb≠g) (m vc lb cb:Nat) :
 (callFunc 88 #[.slice (some ⟨vb,0,none⟩) m vc, .slice (some ⟨g,o,none⟩) lb cb]).run Tryz.prog w = .ok (.value (.bool false)) w:=by
 have hsz : ∀ w,(Go.sizeOf 48).run Tryz.prog w = .ok 33 w:=fun w=>by
  obtain ⟨i,h1,_,h3,_⟩:=Tryz.dptTy.hi
  simp [sizeOf,typeInfo,h1,h3]
 rw [run_callFunc_extern Tryz.func88 (by kernel_rfl) (by kernel_rfl) (by kernel_rfl) (e:=Extern.SlicesOverlaps.overlaps #[37,37] #[4]) (by kernel_rfl),
  Lib.run_overlaps_apart w 37 4 48 Tryz.underlying37 33 hsz ⟨vb,0,none⟩ ⟨g,o,none⟩ m vc lb cb hne ev e cv.size cur.size (by unfold World.shape?;rw [show w.heap[vb]?=_ from hv]) (by unfold World.shape?;rw [show w.heap[g]?=_ from hb]) (by omega) (hv.frozen _) (hv.frozen _)]
 rfl
set_option maxRecDepth 100000 in
set_option maxHeartbeats 2000000 in
theorem insertDpts_room (l:List DpL) (hok:DptsOk l) (w:World) (g cap i vb:Nat) (x:DpL) (hx:DptOk x) (hrow:Row w g 48 33 dptC cap l) (hi:i<l.length) (hcap:l.length+1≤cap)
 (hv:Blk w vb 48 (dptC x).toArray) (hne:vb≠g) :
 Calls Tryz.prog 53 #[.slice (some ⟨g,0,none⟩) l.length cap, .int .i64 i, .slice (some ⟨vb,0,none⟩) 1 1] w fun e w'=>
  e = .returned (.slice (some ⟨g,0,none⟩) (l.length+1) cap)∧Row w' g 48 33 dptC cap (l.take i++[x]++l.drop i)∧w.grownBy w' (some g):=by
 have h63:=hrow.top63
 have hdl:(l.drop i).length=l.length-i:=List.length_drop
 have hdk : ∀ y∈l.drop i,(dptC y).length=33:=fun y hy=>dptK hok y (List.mem_of_mem_drop hy)
 have hbi:(0:Int)≤(i:Int)+1:=by omega
 have htn:((i:Int)+1).toNat=i+1:=by omega
 have hz2 : ¬ ((i:Int)=(l.length:Int)):=by omega
 have hil:(i:Int)≤(l.length:Int):=by omega
 have hil1:(i:Int)+1≤(l.length:Int)+1:=by omega
 have hil2:(i:Int)≤(l.length:Int)+1:=by omega
 have mixed:Tryz.prog.follows Departure.mixedOrders=true:=by kernel_rfl
 have hci : ¬ (cap=i):=by omega
 have hci1 : ¬ (cap=i+1):=by omega
 have hnc : ¬ ((cap:Int)<(l.length:Int)+1):=by omega
 have hcn:(l.length:Int)+1≤(cap:Int):=by omega
 have hw1:IntKind.i64.wrap ((i:Int)+1)=(i:Int)+1:=by rw [IntKind.wrap_i64];omega
 have hw2:IntKind.i64.wrap ((l.length:Int)+1)=(l.length:Int)+1:=by rw [IntKind.wrap_i64];omega
 have htl:((l.length:Int)+1).toNat=l.length+1:=by omega
 have hov : ∀ lb cb o,(callFunc 88 #[.slice (some ⟨vb,0,none⟩) 1 1, .slice (some ⟨g,o,none⟩) lb cb]).run Tryz.prog w = .ok (.value (.bool false)) w:=fun lb cb o=>by
  obtain ⟨cur,hb,hs⟩:=hrow.blk
  exact run_overlaps_dpts w g vb o cur _ _ _ hb hv (by rw [hs];omega) hne 1 1 lb cb
 have hput:=hrow.drew.put (dptK hok) hdk (i:=i+1) (by omega) (by omega)
 have hcp1 : ∀ ty dc sc,(Builtin.copy_ #[37,37] ty #[.slice (some ⟨g,(i+1)*33,none⟩) (l.length-i) dc, .slice (some ⟨g,i*33,none⟩) (l.length+1-i) sc]).run Tryz.prog w.drew = .ok (goInt ((l.drop i).length:Nat)) (w.drew.setCells g ((i+1)*33) (rowsOf dptC (l.drop i))):=fun ty dc sc=>
  run_copy_rows w.drew _ _ ty 48 g ((i+1)*33) _ dc ⟨g,i*33,none⟩ _ sc _ _ Tryz.underlying37 szDpt (by rw [hdl];simp only [Nat.min_def];split<;>omega) (rowsOf_length hdk)
   (range_news ((hrow.drew).range_from (dptK hok) i)) ((hrow.drew).there (by rw [rowsOf_length hdk,←Nat.add_mul];exact Nat.mul_le_mul_right _ (by omega))) (dptOne _)
 obtain ⟨W1,hW1⟩ : ∃ W1,W1=w.drew.setCells g ((i+1)*33) (rowsOf dptC (l.drop i)):=⟨_,rfl⟩
 have hbel1:w.grownBy W1 (some g):=by rw [hW1];exact grown_cells (grown_drew (grown_refl' w _)) _ _
 rw [←hW1] at hcp1 hput
 have hv1:Blk W1 vb 48 (dptC x).toArray:=by
  rw [hW1]
  exact hv.drew.setCells_far hne _ _ _
 have hs2:DptsOk (l.take (i+1)++l.drop i++l.drop (i+1+(l.drop i).length)):=by
  intro y hy
  simp only [List.mem_append] at hy
  rcases hy with (hy | hy) | hy
  ·exact hok y (List.mem_of_mem_take hy)
  ·exact hok y (List.mem_of_mem_drop hy)
  ·exact hok y (List.mem_of_mem_drop hy)
 have hset:=hput.set (dptK hs2) (i:=i) (by simp;omega) (dptC_len hx)
 rw [ins_place hi] at hset
 have hcp2 : ∀ ty dc,(Builtin.copy_ #[37,37] ty #[.slice (some ⟨g,i*33,none⟩) (l.length+1-i) dc, .slice (some ⟨vb,0,none⟩) 1 1]).run Tryz.prog W1 = .ok (goInt (1:Nat)) (W1.setCells g (i*33) (dptC x)):=fun ty dc=>
  run_copy_rows W1 _ _ ty 48 g (i*33) _ dc ⟨vb,0,none⟩ _ 1 _ _ Tryz.underlying37 szDpt (by simp only [Nat.min_def];split<;>omega) (by rw [dptC_len hx])
   (range_news (range_blkDpt hv1)) (hput.there (by rw [dptC_len hx];omega)) (dptC_one x)
 have hbel2:=grown_cells hbel1 (i*33) (dptC x)
 clear hput hv hv1 hrow hs2 hdk hW1
 go_enter Tryz.func53,Tryz.ntmps53
 go_wp2_with (simp only [hov])
 go_region_law_o (refine step_copy_run rfl _ _ 37 37 rfl (.slice (some ⟨g,(i+1)*33,none⟩) (l.length-i) (cap-(i+1))) (.slice (some ⟨g,i*33,none⟩) (l.length+1-i) (cap-i)) (by simp [Act.eval,Act.put]) (by simp [Act.eval,Act.put]) (hcp1 _ _ _) ?_)
 go_wp2_with (at_builtin;refine wpList_copy_run _ rfl _ _ 37 37 rfl _ _ rfl rfl (hcp2 _ _) ?_)
 go_ret
 exact ⟨rfl,hset,hbel2⟩
set_option maxRecDepth 100000 in
set_option maxHeartbeats 500000 in
theorem insertDpts_grow (l:List DpL) (hok:DptsOk l) (hbig:l.length≤1000000) (w:World) (base g cap i vb:Nat) (x:DpL) (hx:DptOk x) (hbase:base≤w.heap.size) (hrow:Row w g 48 33 dptC cap l) (hi:i<l.length) (hcap:cap<l.length+1)
 (hv:Blk w vb 48 (dptC x).toArray) :
 Calls Tryz.prog 53 #[.slice (some ⟨g,0,none⟩) l.length cap, .int .i64 i, .slice (some ⟨vb,0,none⟩) 1 1] w fun e w'=>
  ∃ G,e = .returned (.slice (some ⟨w.heap.size,0,none⟩) (l.length+1) G)∧Row w' w.heap.size 48 33 dptC G (l.take i++[x]++l.drop i)∧Below base w w':=by
 have h63:=hrow.top63
 have hle:=hrow.le
 have hgw:=hrow.lt
 have hdl:(l.drop i).length=l.length-i:=List.length_drop
 have htkl:(l.take i).length=i:=by simp;omega
 have hdk : ∀ y∈l.drop i,(dptC y).length=33:=fun y hy=>dptK hok y (List.mem_of_mem_drop hy)
 have htk : ∀ y∈l.take i,(dptC y).length=33:=fun y hy=>dptK hok y (List.mem_of_mem_take hy)
 have hbi:(0:Int)≤(i:Int)+1:=by omega
 have htn:((i:Int)+1).toNat=i+1:=by omega
 have hz2 : ¬ ((i:Int)=(l.length:Int)):=by omega
 have hil:(i:Int)≤(l.length:Int):=by omega
 have hil0:(i:Int)≤(cap:Int):=by omega
 have hil1:(i:Int)+1≤(l.length:Int)+1:=by omega
 have hil2:(i:Int)≤(l.length:Int)+1:=by omega
 have mixed:Tryz.prog.follows Departure.mixedOrders=true:=by kernel_rfl
 have hci : ¬ (cap=i):=by omega
 have hnc:(cap:Int)<(l.length:Int)+1:=by omega
 have hw1:IntKind.i64.wrap ((i:Int)+1)=(i:Int)+1:=by rw [IntKind.wrap_i64];omega
 have hw2:IntKind.i64.wrap ((l.length:Int)+1)=(l.length:Int)+1:=by rw [IntKind.wrap_i64];omega
 have hw3:IntKind.i64.wrap ((l.length:Int)+1-(i:Int))=(l.length:Int)+1-(i:Int):=by rw [IntKind.wrap_i64];omega
 have hkk:(l.length:Int)+1-(i:Int)=((l.length+1-i:Nat):Int):=by omega
 have hik:i+(l.length+1-i)=l.length+1:=by omega
 obtain ⟨i0,hi0,hz0,hzs,hzb⟩:=Tryz.dptTy.hi
 have hold:(Builtin.firstCells i0.size i (.slice (some ⟨g,0,none⟩) i cap)).run Tryz.prog w.drew = .ok (rowsOf dptC (l.take i)).toArray w.drew:=by
  rw [hzs]
  refine run_firstCells_some w.drew 33 i ⟨g,0,none⟩ i cap _ (by rw [rowsOf_length htk,htkl]) (range_news ?_)
  have:=(hrow.cut i).drew.range_from htk 0
  rw [Nat.zero_mul,List.drop_zero] at this
  exact this
 have hrz : ∀ ty,(Builtin.append_ #[37,3] ty #[.slice (some ⟨g,0,none⟩) i cap, .int .i64 ((l.length:Int)+1-(i:Int))]).run Tryz.prog w =
  .ok (.slice (some ⟨w.heap.size,0,none⟩) (l.length+1) (grownCap w (l.length+1) cap 48)) (w.drew.alloc (.cells ((rowsOf dptC (l.take i)).toArray++Builtin.zeroCells zDpt.cells (l.length+1-i)++Builtin.zeroCells zDpt.cells (grownCap w (l.length+1) cap 48-(l.length+1))) 48)):=fun ty=>by
  have h:=Lib.run_append_grow_zeros w 37 3 ty 48 i0 _ .i64 .i64 Tryz.underlying37 Tryz.underlying3 hi0 hz0 (some ⟨g,0,none⟩) i cap (rowsOf dptC (l.take i)) hold (l.length+1-i) (by omega) (by omega) (by omega) (by omega) (by rw [hzb];omega) (by rw [hzb,hik];exact growslice_fits hcap (by omega))
  rw [hik] at h
  rw [hkk]
  exact h
 obtain ⟨G,hG⟩ : ∃ G,G=grownCap w (l.length+1) cap 48:=⟨_,rfl⟩
 have hGn:l.length+1≤G:=by rw [hG];exact grownCap_ge w _ _ _
 have hGt:G≤maxLen:=by rw [hG];exact grownCap_le_maxLen w _ cap _ (by unfold maxLen;omega)
 have hG63:G≤9223372036854775807:=by simpa [maxLen] using hGt
 rw [←hG] at hrz
 have hnew:=Row.of_new (s:=l.take i) (enc:=dptC) (e:=48) (cap:=G) htk w.drew (Builtin.zeroCells zDpt.cells (l.length+1-i)++Builtin.zeroCells zDpt.cells (G-(l.length+1))) (by
  rw [htkl,Array.size_append,size_zeroCells,size_zeroCells,zDpt_cells];omega) (by rw [htkl];omega) hGt
 rw [←Array.append_assoc] at hnew
 have hbel0:Below base w (w.drew.alloc (.cells ((rowsOf dptC (l.take i)).toArray++Builtin.zeroCells zDpt.cells (l.length+1-i)++Builtin.zeroCells zDpt.cells (G-(l.length+1))) 48)):=(Below.refl _ _).drew.alloc hbase _
 have hoff:Below w.heap.size w (w.drew.alloc (.cells ((rowsOf dptC (l.take i)).toArray++Builtin.zeroCells zDpt.cells (l.length+1-i)++Builtin.zeroCells zDpt.cells (G-(l.length+1))) 48)):=(Below.refl _ _).drew.alloc (Nat.le_refl _) _
 obtain ⟨W1,hW1⟩ : ∃ W1,W1=w.drew.alloc (.cells ((rowsOf dptC (l.take i)).toArray++Builtin.zeroCells zDpt.cells (l.length+1-i)++Builtin.zeroCells zDpt.cells (G-(l.length+1))) 48):=⟨_,rfl⟩
 rw [←hW1] at hrz hnew hbel0 hoff
 clear hW1 hG
 have hold1:=hrow.below hoff
 have hv1:=hv.below hoff hv.lt
 obtain ⟨N,hN⟩ : ∃ N,N=w.heap.size:=⟨_,rfl⟩
 have hgN:g≠N:=by omega
 have hbN:base≤N:=by omega
 have hnew':Row W1 N 48 33 dptC G (l.take i):=by rw [hN];exact hnew
 rw [←hN] at hrz ⊢
 clear hnew hoff hold hN
 have hput:=hnew'.put htk (t:=[x]) (fun y hy=>by simp at hy;subst hy;exact dptC_len hx) (i:=i) (by omega) (by simp;omega)
 have e1:(l.take i).take i=l.take i:=List.take_of_length_le (by omega)
 have e2:(l.take i).drop (i+[x].length)=[]:=List.drop_of_length_le (by simp;omega)
 rw [rowsOf_one,e1,e2,List.append_nil] at hput
 have hcp1 : ∀ ty dc,(Builtin.copy_ #[37,37] ty #[.slice (some ⟨N,i*33,none⟩) (l.length+1-i) dc, .slice (some ⟨vb,0,none⟩) 1 1]).run Tryz.prog W1 = .ok (goInt (1:Nat)) (W1.setCells N (i*33) (dptC x)):=fun ty dc=>
  run_copy_rows W1 _ _ ty 48 N (i*33) _ dc ⟨vb,0,none⟩ _ 1 _ _ Tryz.underlying37 szDpt (by simp only [Nat.min_def];split<;>omega) (by rw [dptC_len hx])
   (range_news (range_blkDpt hv1)) (hnew'.there (by rw [dptC_len hx];omega)) (dptC_one x)
 have hbel1:=below_setCells (dptC x) (i*33) w W1 hbel0 hbN
 have hold2:Row (W1.setCells N (i*33) (dptC x)) g 48 33 dptC cap l:=by
  obtain ⟨cur,hb,hs⟩:=hold1.blk
  exact ⟨⟨cur,hb.setCells_far hgN _ _ _,hs⟩,fun j y hy=>World.rangeAt_setCells_apart (hold1.at_ j y hy) _ _ _ (.inl hgN),hold1.le,hold1.top⟩
 obtain ⟨W2,hW2⟩ : ∃ W2,W2=W1.setCells N (i*33) (dptC x):=⟨_,rfl⟩
 rw [←hW2] at hcp1 hput hbel1 hold2
 clear hW2 hold1 hv1 hnew' hbel0 hrow hv
 have hk2 : ∀ y∈l.take i++[x],(dptC y).length=33:=by
  intro y hy
  rcases List.mem_append.1 hy with hy | hy
  ·exact htk y hy
  ·simp at hy;subst hy;exact dptC_len hx
 have hput2:=hput.drew.put hk2 hdk (i:=i+1) (by simp;omega) (by omega)
 have e3:(l.take i++[x]).take (i+1)=l.take i++[x]:=List.take_of_length_le (by simp;omega)
 have e4:(l.take i++[x]).drop (i+1+(l.drop i).length)=[]:=List.drop_of_length_le (by simp;omega)
 rw [e3,e4,List.append_nil] at hput2
 have hcp2 : ∀ ty dc sc,(Builtin.copy_ #[37,37] ty #[.slice (some ⟨N,(i+1)*33,none⟩) (l.length-i) dc, .slice (some ⟨g,i*33,none⟩) (l.length-i) sc]).run Tryz.prog W2.drew = .ok (goInt ((l.drop i).length:Nat)) (W2.drew.setCells N ((i+1)*33) (rowsOf dptC (l.drop i))):=fun ty dc sc=>
  run_copy_rows W2.drew _ _ ty 48 N ((i+1)*33) _ dc ⟨g,i*33,none⟩ _ sc _ _ Tryz.underlying37 szDpt (by rw [hdl];simp only [Nat.min_def];split<;>omega) (rowsOf_length hdk)
   (range_news (hold2.drew.range_from (dptK hok) i)) (hput.drew.there (by rw [rowsOf_length hdk,←Nat.add_mul];exact Nat.mul_le_mul_right _ (by omega))) (dptOne _)
 have hbel2:=below_setCells (rowsOf dptC (l.drop i)) ((i+1)*33) w W2.drew hbel1.drew hbN
 obtain ⟨W3,hW3⟩ : ∃ W3,W3=W2.drew.setCells N ((i+1)*33) (rowsOf dptC (l.drop i)):=⟨_,rfl⟩
 rw [←hW3] at hcp2 hput2 hbel2
 clear hW3 hput hold2 hk2 hdk htk hbel1 e1 e2 e3 e4 hi0 hz0 hzs hzb hbig hGt hkk hik hdl htkl hgw
 have hGi : ¬ (G=i):=by omega
 have hGim : ¬ (G=i+1):=by omega
 go_enter Tryz.func53,Tryz.ntmps53
 go_wp2_with (first
  | (at_builtin;refine Lib.wpList_append_run _ rfl _ _ _ _ rfl _ _ rfl rfl _ _ (hrz _) ?_)
  | (at_builtin;refine wpList_copy_run _ rfl _ _ 37 37 rfl _ _ rfl rfl (hcp1 _ _) ?_))
 go_region_law_o (refine step_copy_run rfl _ _ 37 37 rfl (.slice (some ⟨N,(i+1)*33,none⟩) (l.length-i) (G-(i+1))) (.slice (some ⟨g,i*33,none⟩) (l.length-i) (cap-i)) (by simp [Act.eval,Act.put]) (by simp [Act.eval,Act.put]) (hcp2 _ _ _) ?_)
 go_wp2
 go_ret
 exact ⟨G,rfl,hput2,hbel2⟩
theorem dptsOk_ins {l:List DpL} (hok:DptsOk l) (i:Nat) {x:DpL} (hx:DptOk x):DptsOk (l.take i++[x]++l.drop i):=by
 intro y hy
 simp only [List.mem_append,List.mem_singleton] at hy
 rcases hy with (hy | rfl) | hy
 ·exact hok y (List.mem_of_mem_take hy)
 ·exact hx
 ·exact hok y (List.mem_of_mem_drop hy)
set_option maxRecDepth 100000 in
set_option maxHeartbeats 500000 in
theorem insertDpts_end (l:List DpL) (hok:DptsOk l) (hbig:l.length≤1000000) (v:Value) (w:World) (base vb:Nat) (x:DpL) (hx:DptOk x) (hbase:base≤w.heap.size) (hown:OwnDpts w base v l)
 (hv:Blk w vb 48 (dptC x).toArray) :
 Calls Tryz.prog 53 #[v, .int .i64 (l.length:Nat), .slice (some ⟨vb,0,none⟩) 1 1] w fun e w'=>
  ∃ v',e = .returned v'∧OwnDpts w' base v' (l++[x])∧w.grownBy w' v.ownBlock∧Newer w v v':=by
 have hcap : ∃ A cap,v = .slice A l.length cap∧l.length≤cap∧cap≤9223372036854775807∧(A=none→l.length=0∧cap=0):=by
  rcases Row.of_own (dptK hok) hown with ⟨rfl,rfl⟩ | ⟨g,cap,rfl,hg,hrow⟩
  ·exact ⟨none,0,rfl,by simp,by omega,fun _=>⟨rfl,rfl⟩⟩
  ·exact ⟨_,cap,rfl,hrow.le,hrow.top63,fun h=>by cases h⟩
 obtain ⟨A,cap,rfl,hc1,hc2,hnil⟩:=hcap
 have hlk:=dptC_len hx
 have hone : ∀ u∈(dptC x).toArray.toList,u.oneCell'=true:=fun u hu=>dptC_one x u (by simpa using hu)
 have h1:l.length+1≤9223372036854775807:=by omega
 have h2:(l.length+1)*40≤140737488355328:=by omega
 have hlen:l.length≤9223372036854775807:=by omega
 clear hbig
 go_enter Tryz.func53,Tryz.ntmps53
 go_wp2_with (first
  | (at_builtin
     (with_reducible refine lit_append_at (.tmp 23) (.tmp 24) 1 _ Tryz.dptTy hown hv (by rw [List.size_toArray,hlk]) hone h1 h2 hbase ?_ ?_ ?_);rfl;rfl
     intro v' w' hown3 hg3 hnw3))
 all_goals
  go_ret
  have hown4:OwnDpts w' base v' (l++[x]):=by
   unfold OwnDpts
   rw [List.length_append,List.length_singleton,rowsOf_append,rowsOf_one]
   exact hown3
  first
   | exact ⟨_,rfl,hown4,hg3,hnw3⟩
   | exact ⟨_,rfl,hown4,by cases A<;>exact hg3,by cases A<;>exact hnw3⟩
/-- slices.Insert of one ref. -/
theorem insertDpts_calls (l:List DpL) (hok:DptsOk l) (hbig:l.length≤1000000) (v:Value) (w:World) (base i vb:Nat) (x:DpL) (hx:DptOk x) (hbase:base≤w.heap.size) (hown:OwnDpts w base v l) (hi:i≤l.length)
 (hv:Blk w vb 48 (dptC x).toArray) (hne:v.ownBlock≠some vb) :
 Calls Tryz.prog 53 #[v, .int .i64 i, .slice (some ⟨vb,0,none⟩) 1 1] w fun e w'=>
  ∃ v',e = .returned v'∧OwnDpts w' base v' (l.take i++[x]++l.drop i)∧w.grownBy w' v.ownBlock∧Newer w v v':=by
 rcases Nat.lt_or_ge i l.length with hlt | hge
 ·rcases Row.of_own (dptK hok) hown with ⟨rfl,rfl⟩ | ⟨g,cap,rfl,hg,hrow⟩
  ·simp at hlt
  have hlen:l.length+1=(l.take i++[x]++l.drop i).length:=by simp;omega
  by_cases hcap:l.length+1≤cap
  ·refine (insertDpts_room l hok w g cap i vb x hx hrow hlt hcap hv (fun e=>hne (by rw [e];rfl))).mono ?_
   rintro e w' ⟨rfl,h1,h2⟩
   exact ⟨_,rfl,OwnDpts.of_row (dptsOk_ins hok i hx) h1 hg hlen,h2, .inl rfl⟩
  ·refine (insertDpts_grow l hok hbig w w.heap.size g cap i vb x hx (Nat.le_refl _) hrow hlt (by omega) hv).mono ?_
   rintro e w' ⟨G,rfl,h1,h2⟩
   exact ⟨_,rfl,OwnDpts.of_row (dptsOk_ins hok i hx) h1 hbase hlen,grown_of_below h2 _, .inr fun k hk=>by simp only [Value.ownBlock,Option.some.injEq] at hk;omega⟩
 ·obtain rfl:i=l.length:=by omega
  rw [List.take_length,List.drop_length,List.append_nil]
  exact insertDpts_end l hok hbig v w base vb x hx hbase hown hv
end Go.Proofs.YtbhdfaadedlcfaaGreatDoor
namespace Go.Proofs.YtbhdfaadedlcfaaGreatDoor
open Go.RowKit
attribute [local go_sem ↓] ldvI_eq
instance : Inhabited DiL:=⟨⟨⟨[],[]⟩,zeroO, .slice none 0 0, .slice none 0 0⟩⟩
def ndC (e:DiL):List Value:=(u8s e.st.id).toList++objC e.o e.ve e.vp
theorem ndC_len {w:World} {e:DiL} (h:DitOk w e):(ndC e).length=104:=by
 unfold ndC
 rw [List.length_append,u8s_lenS,h.id,objC_len h.val.ok]
section
variable {w w':World} {g o:Nat} {e:DiL}
theorem DitOk.same {e:DiL} (h:DitOk w e) (h1 : ∀ k,e.ve.ownBlock=some k→w'.heap[k]?=w.heap[k]?) (h2 : ∀ k,e.vp.ownBlock=some k→w'.heap[k]?=w.heap[k]?):DitOk w' e:=⟨h.dec,h.id,h.ok,own_same h.oe h1,own_same h.op h2⟩
theorem DitOk.far {S:List (Option Nat)} {e:DiL} (h:DitOk w e) (hf:Far S w w') (h1 : ∀ k,e.ve.ownBlock=some k→some k ∉ S) (h2 : ∀ k,e.vp.ownBlock=some k→some k ∉ S):DitOk w' e:=⟨h.dec,h.id,h.ok,hf.own h.oe h1,hf.own h.op h2⟩
end
/-- A slice value reads as a queue's nodes. -/
abbrev OwnNds (w:World) (B:Nat) (v:Value) (l:List DiL):Prop:=w.ownsRow B 94 104 v l.length (rowsOf ndC l)
structure QAt (w:World) (B:Nat) (v:Value) (Q:List DiL):Prop where
 own:OwnNds w B v Q
 each : ∀ e∈Q,DitOk w e
section
variable {w w':World} {B:Nat} {v:Value} {Q:List DiL}
theorem QAt.len (h:QAt w B v Q) : ∀ e∈Q,(ndC e).length=104:=fun e he=>ndC_len (h.each e he)
theorem QAt.at_ (h:QAt w B v Q):SliceAt w 104 ndC v Q:=SliceAt.of_own h.len h.own
theorem QAt.below (h:QAt w B v Q) (hb:Below w.heap.size w w'):QAt w' B v Q:=⟨own_below h.own hb,fun e he=>(h.each e he).below hb⟩
/-- What the queue's slice uses is used by no node. -/
theorem QAt.apart (h:QAt w B v Q) {e:DiL} (he:DitOk w e):(∀ k,e.ve.ownBlock=some k→some k ∉ [v.ownBlock]) ∧ ∀ k,e.vp.ownBlock=some k→some k ∉ [v.ownBlock]:=
 ⟨fun k hk hm=>own_ne he.oe h.own (by decide) k hk (List.mem_singleton.1 hm).symm,fun k hk hm=>own_ne he.op h.own (by decide) k hk (List.mem_singleton.1 hm).symm⟩
end
/-- Is a node told ahead? -/
def ltN (a b:DiL):Bool:=aheadL a.o.time b.o.time a.st.id b.st.id
theorem ltN_ord : Ord ltN:=ahead_ord (fun e:DiL=>e.o.time) (fun e=>e.st.id)
end Go.Proofs.YtbhdfaadedlcfaaGreatDoor
namespace Go.Proofs.YtbhdfaadedlcfaaGreatDoor
open Go.RowKit
def ldvN (p:Addr):Sem Value:=loadVar 94 p
theorem ldvN_eq (p:Addr):loadVar 94 p=ldvN p:=rfl
def stvN (p:Addr) (v:Value):Sem Unit:=storeVar 94 p v
theorem stvN_eq (p:Addr) (v:Value):storeVar 94 p v=stvN p v:=rfl
section
attribute [local go_sem ↓] ldvN_eq stvN_eq
end
section
variable {P:Program} {ops:Array Oper} {w0:World} {rows:List (Option Nat)} {pres:Pres} {sps:List Sp} {E:Act→Facts→Prop} {i:Nat} {rest:List Oper} {s:Sp} {ss:List Sp} {a:Act} {D:Facts}
end
/-- The walker: block g holds a store, a queue, and what is seen. -/
structure WqAt (w:World) (B g:Nat) (vs vq vn:Value) (Q:List DiL):Prop where
 blk:Blk w g 89 #[vs,vq,vn]
 q:QAt w B vq Q
section
variable {w w':World} {B g:Nat} {vs vq vn:Value} {Q:List DiL}
theorem WqAt.c1 (h:WqAt w B g vs vq vn Q):w.cell? ⟨g,1,none⟩=some vq:=by rw [h.blk.cell];rfl
theorem WqAt.below (h:WqAt w B g vs vq vn Q) (hb:Below w.heap.size w w'):WqAt w' B g vs vq vn Q:=⟨h.blk.below hb h.blk.lt,h.q.below hb⟩
/-- What no node uses: the walker's block, the queue's row. -/
theorem WqAt.apart (h:WqAt w B g vs vq vn Q) {e:DiL} (he:DitOk w e):(∀ k,e.ve.ownBlock=some k→some k ∉ [some g,vq.ownBlock]) ∧ ∀ k,e.vp.ownBlock=some k→some k ∉ [some g,vq.ownBlock]:=by
 obtain ⟨a1,a2⟩:=h.q.apart he
 refine ⟨fun k hk hm=>?_,fun k hk hm=>?_⟩
 ·rcases List.mem_cons.1 hm with h1 | h1
  ·exact own_blk_ne he.oe h.blk (by decide) (h1.symm.trans hk.symm)
  ·exact a1 k hk h1
 ·rcases List.mem_cons.1 hm with h1 | h1
  ·exact own_blk_ne he.op h.blk (by decide) (h1.symm.trans hk.symm)
  ·exact a2 k hk h1
end
attribute [local go_sem ↓] ldvN_eq
end Go.Proofs.YtbhdfaadedlcfaaGreatDoor
namespace Go.Proofs.YtbhdfaadedlcfaaGreatDoor
open Go.RowKit
section
variable (n:Nat) {g:Nat} {v:Value} {w:World} (h:w.cell? ⟨g,1,none⟩=some v)
include h
end
section
variable {w w':World} {B g:Nat} {vs vq vn:Value} {Q:List DiL}
/-- Two nodes change places. -/
theorem WqAt.swap (h:WqAt w B g vs vq vn Q) {Q':List DiL} (hq:QAt w' B vq Q') (hf:Far [vq.ownBlock] w w'):WqAt w' B g vs vq vn Q':=
 ⟨hf.blk h.blk fun hm=>own_blk_ne h.q.own h.blk (by decide) (List.mem_singleton.1 hm),hq⟩
theorem QAt.mem (h:QAt w B vq Q) {i:Nat} (hi:i<Q.length):DitOk w (atQ Q i):=h.each _ (List.mem_of_getElem? (atQ_get hi))
end
end Go.Proofs.YtbhdfaadedlcfaaGreatDoor
namespace Go.Proofs.YtbhdfaadedlcfaaGreatDoor
open Go.RowKit
section
variable {S:List StL} {Q:List DiL} {seen out:List Txt}
theorem left_seen {n:Txt} (h:n ∉ out):leftW (seen++[n]) out=leftW seen out++[n]:=by
 unfold leftW
 rw [List.filter_append]
 congr 1
 cases hi:inL out n with
 | true=>exact absurd (inL_iff.1 hi) h
 | false=>simp [hi]
end
/-- The walker, and what is seen and told. -/
structure WalkAt (S:List StL) (w:World) (B g:Nat) (vs vq vn:Value) (Q:List DiL) (seen out:List Txt):Prop where
 q:WqAt w B g vs vq vn Q
 sn:OwnIds w B vn (sortU seen)
 ok : ∀ x∈seen,x.length=32
 heap:HeapQ ltN Q Q.length
 perm:(Q.map fun e=>e.st.id).Perm (leftW seen out)
 obj : ∀ e∈Q,objS S e.st.id=some e.o
 wi:WalkI S seen out
section
variable {S:List StL} {w w':World} {B g:Nat} {vs vq vn:Value} {Q:List DiL} {seen out:List Txt}
theorem WalkAt.below (h:WalkAt S w B g vs vq vn Q seen out) (hb:Below w.heap.size w w'):WalkAt S w' B g vs vq vn Q seen out:=⟨h.q.below hb,own_below h.sn hb,h.ok,h.heap,h.perm,h.obj,h.wi⟩
theorem WalkAt.len (h:WalkAt S w B g vs vq vn Q seen out):Q.length≤S.length:=by
 have h1:=h.perm.length_eq
 rw [List.length_map] at h1
 have h2:(leftW seen out).length≤seen.length:=List.length_filter_le _ _
 have:=h.wi.len.1
 omega
theorem WqAt.setRow (h:WqAt w B g vs vq vn Q) {k:Nat} {T:TypeId} {c0:Array Value} (hk:Blk w k T c0) (h1:k≠g) (h2:vq.ownBlock≠some k) (h3:132≠T) (h4:46≠T) (cs:Array Value):WqAt (w.setRow k cs) B g vs vq vn Q:=
 ⟨keep_row h.blk (fun e=>h1 e.symm) cs,own_same h.q.own fun j hj=>setRow_other _ _ _ _ fun e=>h2 (e▸hj),fun e he=>(h.q.each e he).same (fun j hj=>setRow_other _ _ _ _ fun e'=>own_blk_ne (h.q.each e he).oe hk h3 (by rw [hj,e'])) fun j hj=>setRow_other _ _ _ _ fun e'=>own_blk_ne (h.q.each e he).op hk h4 (by rw [hj,e'])⟩
end
section
attribute [local go_sem ↓] ldvN_eq
end
end Go.Proofs.YtbhdfaadedlcfaaGreatDoor
namespace Go.Proofs.YtbhdfaadedlcfaaGreatDoor
open Go.RowKit
def bldN (fs:Array (Nat×Value)):Sem Value:=Instr.build 94 fs
theorem bldN_eq (fs:Array (Nat×Value)):Instr.build 94 fs=bldN fs:=rfl
attribute [local go_sem ↓] ldvI_eq ldvO_eq bldN_eq
theorem sortU_snoc (l:List Txt) (x:Txt):sortU (l++[x])=insU (sortU l) x:=by unfold sortU;rw [List.foldl_append];rfl
/-- The walker's nodes lie apart from what is seen. -/
structure WalkB (S:List StL) (w:World) (B g:Nat) (vs vq vn:Value) (Q:List DiL) (seen out:List Txt):Prop where
 at_:WalkAt S w B g vs vq vn Q seen out
 ap : ∀ e∈Q,Ap e.vp vn
section
variable {S:List StL} {w w':World} {B g:Nat} {vs vq vn:Value} {Q:List DiL} {seen out:List Txt}
theorem WalkB.below (h:WalkB S w B g vs vq vn Q seen out) (hb:Below w.heap.size w w'):WalkB S w' B g vs vq vn Q seen out:=⟨h.at_.below hb,h.ap⟩
/-- The set is another one, the queue as it was. -/
theorem WalkB.set_ (h:WalkB S w B g vs vq vn Q seen out) {vn':Value} (hb:Blk w' g 89 #[vs,vq,vn']) (hf:Far [some g,vn.ownBlock] w w'):WqAt w' B g vs vq vn' Q:=by
 have hq : ∀ {e:DiL},e∈Q→DitOk w' e:=fun {e} he=>by
  have hd:=h.at_.q.q.each e he
  refine hd.far hf (fun k hk hm=>?_) (fun k hk hm=>?_)
  ·rcases List.mem_cons.1 hm with h1 | h1
   ·exact own_blk_ne hd.oe h.at_.q.blk (by decide) (h1.symm.trans hk.symm)
   ·exact own_ne hd.oe h.at_.sn (by decide) k hk (List.mem_singleton.1 h1).symm
  ·rcases List.mem_cons.1 hm with h1 | h1
   ·exact own_blk_ne hd.op h.at_.q.blk (by decide) (h1.symm.trans hk.symm)
   ·exact h.ap e he k hk (List.mem_singleton.1 h1).symm
 refine ⟨hb,hf.own h.at_.q.q.own (fun k hk hm=>?_),fun e he=>hq he⟩
 rcases List.mem_cons.1 hm with h1 | h1
 ·exact own_blk_ne h.at_.q.q.own h.at_.q.blk (by decide) (h1.symm.trans hk.symm)
 ·exact own_ne h.at_.q.q.own h.at_.sn (by decide) k hk (List.mem_singleton.1 h1).symm
end
/-- What offer leaves. -/
def OfferR (S:List StL) (w:World) (B g:Nat) (vs vq vn:Value) (Q:List DiL) (seen' out:List Txt) (w':World):Prop := ∃ vq' vn' Q',WalkB S w' B g vs vq' vn' Q' seen' out∧(∀ e∈Q',e∈Q ∨ ∀ k,e.vp.ownBlock=some k→w.heap.size≤k)∧Far [some g,vq.ownBlock,vn.ownBlock] w w'∧Newer w vn vn'
section
variable {S:List StL} {w w5 w6 w7:World} {B g:Nat} {vs vq vn vn6 vq7:Value} {Q:List DiL} {seen out:List Txt} {n:Txt} {e0:DiL}
theorem Far.offer {T:List (Option Nat)} (hb:Below w.heap.size w w5) (hf:Far T w5 w6) (hT : ∀ k,some k∈T→some k∈[some g,vq.ownBlock,vn.ownBlock]):Far [some g,vq.ownBlock,vn.ownBlock] w w6:=(Far.of_below hb).trans (hf.mono hT)
/-- One that was seen is offered. -/
theorem OfferR.old (h:WalkB S w B g vs vq vn Q seen out) (hb:Below w.heap.size w w5) (hs:SetIn w6 B g 2 89 #[vs,vq,vn6] vn6 (sortU seen)) (hf:Far [some g,vn.ownBlock] w5 w6) (hn:Newer w5 vn vn6):OfferR S w B g vs vq vn Q seen out w6:=by
 have h5:=h.below hb
 refine ⟨vq,vn6,Q,⟨⟨h5.set_ hs.blk hf,hs.own,h.at_.ok,h.at_.heap,h.at_.perm,h.at_.obj,h.at_.wi⟩,fun e he=>((h.ap e he).symm.newer hn fun k hk=>(World.ownsRow.lt (h5.at_.q.q.each e he).op k hk).2).symm⟩,fun e he => .inl he,Far.offer hb hf fun k hk=>?_,(Newer.refl w vn).then_ hn hb.size⟩
 rcases List.mem_cons.1 hk with h1 | h1
 ·rw [h1];exact List.mem_cons_self
 ·rw [List.mem_singleton.1 h1];simp
/-- A new one is offered. -/
theorem OfferR.new (h:WalkB S w B g vs vq vn Q seen out) (hb:Below w.heap.size w w5) (hs:SetIn w6 B g 2 89 #[vs,vq,vn6] vn6 (insU (sortU seen) n)) (hf:Far [some g,vn.ownBlock] w5 w6) (hn:Newer w5 vn vn6)
 (hd5:DitOk w5 e0) (hid:e0.st.id=n) (hobj:objS S n=some e0.o) (hk:kindS S n=3) (hi:inL seen n=false) (hvp : ∀ k,e0.vp.ownBlock=some k→w.heap.size≤k) (h7:WqAt w7 B g vs vq7 vn6 (upQ ltN (Q.length+1) (Q++[e0]) Q.length)) (hf7:Far [some g,vq.ownBlock] w6 w7):OfferR S w B g vs vq vn Q (seen++[n]) out w7:=by
 have h5:=h.below hb
 obtain ⟨p1,p2⟩:=heap_push ltN_ord h.at_.heap e0
 have hlen:(upQ ltN (Q.length+1) (Q++[e0]) Q.length).length=Q.length+1:=by rw [upQ_len,List.length_append];rfl
 obtain ⟨U,hU⟩ : ∃ U,upQ ltN (Q.length+1) (Q++[e0]) Q.length=U:=⟨_,rfl⟩
 rw [hU] at p1 p2 hlen h7
 have hmem : ∀ e∈U,e∈Q∨e=e0:=fun e he=>by
  rcases List.mem_append.1 (p2.mem_iff.1 he) with h1 | h1
  ·exact .inl h1
  ·exact .inr (List.mem_singleton.1 h1)
 have hno:n ∉ out:=fun hm=>by
  rw [inL_iff.2 (h.at_.wi.sub n hm)] at hi
  cases hi
 have hsn:OwnIds w7 B vn6 (sortU (seen++[n])):=by
  rw [sortU_snoc]
  refine hf7.own hs.own fun k hk hm=>?_
  rcases List.mem_cons.1 hm with h1 | h1
  ·exact own_blk_ne hs.own hs.blk (by decide) (h1.symm.trans hk.symm)
  ·have hq6:=(h5.set_ hs.blk hf).q.own
   exact own_ne hs.own hq6 (by decide) k hk (List.mem_singleton.1 h1).symm
 have hvn : ∀ k,vn.ownBlock=some k→k<w.heap.size:=fun k hk=>(World.ownsRow.lt h.at_.sn k hk).2
 refine ⟨vq7,vn6,U,⟨⟨h7,hsn,fun x hx=>?_,by rw [hlen];exact p1,?_,fun e he=>?_,⟨nodup_more h.at_.wi.nd hi,fun x hx=>?_,fun x hx=>List.mem_append_left _ (h.at_.wi.sub x hx),h.at_.wi.ndo⟩⟩,fun e he=>?_⟩,fun e he=>?_,?_,(Newer.refl w vn).then_ hn hb.size⟩
 ·rcases List.mem_append.1 hx with h1 | h1
  ·exact h.at_.ok x h1
  ·rw [List.mem_singleton.1 h1,←hid];exact hd5.id
 ·rw [left_seen hno]
  have h1:=p2.map fun e=>e.st.id
  rw [List.map_append] at h1
  refine h1.trans ?_
  show (Q.map (fun e=>e.st.id)++[e0.st.id]).Perm _
  rw [hid]
  exact h.at_.perm.append_right _
 ·rcases hmem e he with h1 | rfl
  ·exact h.at_.obj e h1
  ·rw [hid];exact hobj
 ·rcases List.mem_append.1 hx with h1 | h1
  ·exact h.at_.wi.k3 x h1
  ·rw [List.mem_singleton.1 h1];exact hk
 ·rcases hmem e he with h1 | rfl
  ·exact ((h.ap e h1).symm.newer hn fun k hk=>(World.ownsRow.lt (h5.at_.q.q.each e h1).op k hk).2).symm
  ·have ha:Ap vn e.vp:=fun k hk hv=>by have:=hvp k hv;have:=hvn k hk;omega
   exact (ha.newer hn fun k hk=>(World.ownsRow.lt hd5.op k hk).2).symm
 ·rcases hmem e he with h1 | rfl
  ·exact .inl h1
  ·exact .inr hvp
 ·refine Far.trans (Far.offer hb hf fun k hk=>?_) (hf7.mono fun k hk=>?_)
  ·rcases List.mem_cons.1 hk with h1 | h1
   ·rw [h1];exact List.mem_cons_self
   ·rw [List.mem_singleton.1 h1];simp
  ·rcases List.mem_cons.1 hk with h1 | h1
   ·rw [h1];exact List.mem_cons_self
   ·rw [List.mem_singleton.1 h1];simp
end
end Go.Proofs.YtbhdfaadedlcfaaGreatDoor
namespace Go.Proofs.YtbhdfaadedlcfaaGreatDoor
open Go.RowKit
attribute [local go_sem ↓] ldvI_eq
set_option maxRecDepth 100000 in
theorem built_dpt (id:Txt) (k:Nat) (hid:id.length=32):Tryz.prog.built 48 [(0, .agg (u8s id)),(1, .int .i64 (k:Nat))]=some (dptC ⟨id,k⟩).toArray:=by
 obtain ⟨it,hi,hz,hs,hb⟩:=Tryz.dptTy.hi
 have hpl:(match Tryz.prog.underlying 48 with | some (.struct fields)=>fields.toList.mapM (fun f=>(Tryz.prog.info? f.type).map fun i=>(f.offset,i.size)) | _=>none)=some [(0,32),(32,1)]:=by kernel_rfl
 have hu:=Tryz.underlying48
 rw [hu] at hpl
 unfold Program.built
 rw [hi,hu]
 simp only [hz]
 simp only at hpl
 rw [hpl]
 have hf:=fold_link zDpt.cells (.int .i64 (k:Nat)) (id.map u8v) 32 (by simpa using hid) zDpt_cells
 have h33:=zDpt_cells
 have e1:(Value.int .i64 (k:Nat)).cells = #[.int .i64 (k:Nat)]:=rfl
 have e2:(Value.agg (u8s id)).cells=u8s id:=rfl
 have f1 : ∀ c:Array Value,Array.foldl (fun cs (x:Value×Nat)=>cs.setIfInBounds (32+x.snd) x.fst) c (#[.int .i64 (k:Nat)]:Array Value).zipIdx=c.setIfInBounds 32 (.int .i64 (k:Nat)):=fun c=>rfl
 have f2 : ∀ c:Array Value,Array.foldl (fun cs (x:Value×Nat)=>cs.setIfInBounds (0+x.snd) x.fst) c (u8s id).zipIdx=(id.map u8v).zipIdx.foldl (fun cs (x:Value×Nat)=>cs.setIfInBounds (0+x.snd) x.fst) c:=fun c=>by
  rw [←Array.foldl_toList,Array.toList_zipIdx]
  rfl
 have g0:(#[(0,32),(32,1)]:Array (Nat×Nat))[0]?=some (0,32):=rfl
 have g1:(#[(0,32),(32,1)]:Array (Nat×Nat))[1]?=some (32,1):=rfl
 have hsz:((id.map u8v).zipIdx.foldl (fun cs (x:Value×Nat)=>cs.setIfInBounds (0+x.snd) x.fst) zDpt.cells).size=33:=by
  rw [(Great.foldl_set 0 (id.map u8v) 0 zDpt.cells).1,h33]
 simp only [Instr.fill,g0,g1,e1,e2]
 rw [f2,if_neg (by simp [u8s_size,hid,h33]),f1,hf,if_neg (by rw [hsz];simp)]
 show some (dptC ⟨id,k⟩).toArray=_
 unfold dptC
 rw [show (u8s id).toList=id.map u8v from by simp [u8s]]
set_option maxRecDepth 100000 in
theorem built_ddt (id:Txt) (k:Nat) (hid:id.length=32):Tryz.prog.built 55 [(0, .agg (u8s id)),(1, .int .i64 (k:Nat))]=some (dptC ⟨id,k⟩).toArray:=by
 obtain ⟨it,hi,hz,hs,hb⟩:=Tryz.ddtTy.hi
 have hpl:(match Tryz.prog.underlying 55 with | some (.struct fields)=>fields.toList.mapM (fun f=>(Tryz.prog.info? f.type).map fun i=>(f.offset,i.size)) | _=>none)=some [(0,32),(32,1)]:=by kernel_rfl
 have hu:=Tryz.underlying55
 rw [hu] at hpl
 unfold Program.built
 rw [hi,hu]
 simp only [hz]
 simp only at hpl
 rw [hpl]
 have hf:=fold_link zDpt.cells (.int .i64 (k:Nat)) (id.map u8v) 32 (by simpa using hid) zDpt_cells
 have h33:=zDpt_cells
 have e1:(Value.int .i64 (k:Nat)).cells = #[.int .i64 (k:Nat)]:=rfl
 have e2:(Value.agg (u8s id)).cells=u8s id:=rfl
 have f1 : ∀ c:Array Value,Array.foldl (fun cs (x:Value×Nat)=>cs.setIfInBounds (32+x.snd) x.fst) c (#[.int .i64 (k:Nat)]:Array Value).zipIdx=c.setIfInBounds 32 (.int .i64 (k:Nat)):=fun c=>rfl
 have f2 : ∀ c:Array Value,Array.foldl (fun cs (x:Value×Nat)=>cs.setIfInBounds (0+x.snd) x.fst) c (u8s id).zipIdx=(id.map u8v).zipIdx.foldl (fun cs (x:Value×Nat)=>cs.setIfInBounds (0+x.snd) x.fst) c:=fun c=>by
  rw [←Array.foldl_toList,Array.toList_zipIdx]
  rfl
 have g0:(#[(0,32),(32,1)]:Array (Nat×Nat))[0]?=some (0,32):=rfl
 have g1:(#[(0,32),(32,1)]:Array (Nat×Nat))[1]?=some (32,1):=rfl
 have hsz:((id.map u8v).zipIdx.foldl (fun cs (x:Value×Nat)=>cs.setIfInBounds (0+x.snd) x.fst) zDpt.cells).size=33:=by
  rw [(Great.foldl_set 0 (id.map u8v) 0 zDpt.cells).1,h33]
 simp only [Instr.fill,g0,g1,e1,e2]
 rw [f2,if_neg (by simp [u8s_size,hid,h33]),f1,hf,if_neg (by rw [hsz];simp)]
 show some (dptC ⟨id,k⟩).toArray=_
 unfold dptC
 rw [show (u8s id).toList=id.map u8v from by simp [u8s]]
/-- What Object tells: kind, parents. -/
def ObjK (S:List StL) (n:Txt) (B0:Nat) (w':World) (e:Ending):Prop := ∃ OC K th vp,e = .returned (.tuple #[.agg OC, .bool th])∧OC.size=72∧OC.all (·.oneCell')=true∧OC[0]?=some (.int .i64 K)∧OC[35]?=some vp∧OwnIds w' B0 vp (parS S n)∧(th=true∧K=3↔kindS S n=3)
theorem objC_kind (o:ObjL) (ve vp:Value):(objC o ve vp)[0]?=some (.int .i64 o.kind):=rfl
theorem par_small (S:List StL) (n:Txt):(parS S n).length≤20 ∧ ∀ x∈parS S n,x.length=32:=by
 unfold parS
 cases ho:objS S n with
 | none=>exact ⟨Nat.zero_le _,fun x hx=>by cases hx⟩
 | some o=>
   refine ⟨?_,(objS_sound ho).1.pars⟩
   unfold objS at ho
   cases hg:getS S n with
   | none=>rw [hg] at ho;cases ho
   | some s=>rw [hg] at ho;exact (dec_small ho).pars
theorem nextP_small (S:List StL) (D:List DpL) (a:Nat):(nextP S D a).length≤D.length*20 ∧ ∀ x∈nextP S D a,x.length=32:=by
 unfold nextP
 constructor
 ·have h : ∀ l:List DpL,(l.flatMap fun p=>parS S p.id).length≤l.length*20:=fun l=>by
   induction l with
   | nil=>simp
   | cons p l ih=>
     rw [List.flatMap_cons,List.length_append,List.length_cons]
     have:=(par_small S p.id).1
     omega
  refine Nat.le_trans (h _) ?_
  rw [List.length_drop]
  omega
 ·intro x hx
  obtain ⟨p,_,hp⟩:=List.mem_flatMap.1 hx
  exact (par_small S p.id).2 x hp
section
variable {w w':World} {sb p:Nat} {vs:Value} {S:List StL}
theorem stoObjK_calls (h:StoAt w sb p vs S) (n:Txt) (hn:n.length=32) :
 Calls Tryz.prog 30 #[.pointer (some ⟨p,0,none⟩), .agg (u8s n)] w fun e w'=>ObjK S n w.heap.size w' e∧Below w.heap.size w w':=by
 refine (stoObject_calls h n hn).mono fun e w' ⟨q1,q2⟩=>⟨?_,q2⟩
 unfold ObjT at q1
 unfold ObjK
 cases hG:getS S n with
 | none=>
   rw [hG] at q1
   have hp:parS S n=[]:=by unfold parS;rw [objS_none hG]
   have hk:kindS S n=0:=by unfold kindS;rw [hG]
   rw [hp,hk]
   exact ⟨zObj,0,false, .slice none 0 0,q1,zObj_size,zObj_one,by kernel_rfl,by kernel_rfl,World.ownsRow_nil _ _ _ _,by simp⟩
 | some x=>
   rw [hG] at q1
   obtain ⟨o,A1,A2,k1,k2,hd,rfl,hv,_,hop⟩:=q1
   have ho:=objS_some hG hd
   have hp:parS S n=o.pars:=by unfold parS;rw [ho]
   have hk:kindS S n=o.kind:=by unfold kindS;rw [hG];simp only;rw [hd]
   rw [hp,hk]
   exact ⟨_,o.kind,true,_,rfl,by rw [List.size_toArray,objC_len hv.ok],objC_all o A1 A2 _ k1 _ k2,by rw [List.getElem?_toArray];exact objC_kind _ _ _,by rw [List.getElem?_toArray];exact (objC_at hv.ok.tree _ _).1,hop,by simp⟩
end
theorem lit_append_srcN {P:Program} {ops:Array Oper} {rest:List Oper} {a:Act} {W:World} {Q:Exit→Act→World→Prop} {d:Option Tmp} {rt:TypeId} {pos:String} {af:Array Edge}
 (s x:Operand) (t:TypeId) {e:TypeId} {z:Value} {size bytes:Nat} (hT:SliceTy P t e z size bytes) {base n:Nat} {v:Value} {xs:List Value} (hown:W.ownsRow base e size v n xs)
 {m:Nat} {v2:Value} {ys:List Value} (hsrc:SrcAt size W v2 m ys) (h1 : ∀ u∈ys,u.oneCell'=true) (h63:n+m≤9223372036854775807) (hbytes:(n+m)*bytes≤140737488355328) (hbase:base≤W.heap.size)
 (hs:a.eval s=v) (hx:a.eval x=v2)
 (h : ∀ v' w',w'.ownsRow base e size v' (n+m) (xs++ys)→W.grownBy w' v.ownBlock→Newer W v v'→wpList P ops Q rest (a.put d v') w') :
 wpList P ops Q ({ dst:=d,op := .call { callee := .builtin .append,args := #[s,x],argTypes := #[t,t] },type:=rt,pos:=pos,after:=af,guard:=none }::rest) a W:=
 wpList_plain rfl fun _ hK=>by
  obtain ⟨v',w',hrun,ho,hg,hat⟩:=run_append_src (rt:=rt) hT hown hsrc h1 h63 hbytes hbase
  unfold Oper.wp execOp
  simp only [resolve,invoke,builtin,Sem.run_bind,Sem.run_pure,Result.andThen_ok,List.map_toArray,List.map_cons,List.map_nil,hs,hx,hrun]
  refine hK _ _ (h v' w' ho hg ?_)
  rcases hat with h2 | h2
  ·exact .inl h2
  ·exact .inr fun k hk=>by rw [h2] at hk;injection hk with hk;omega
/-- What level's loop keeps. -/
structure LevI (S:List StL) (w0:World) (B:Nat) (v:Value) (D:List DpL) (ids:List Txt) (n k:Nat) (wr:World) (vl vp:Value) (L:List DpL) (NP:List Txt):Prop where
 s:DptS L (addL S n D (ids.take k))
 ok:DptsOk L
 inv:DptI S (addL S n D (ids.take k))
 np:NP=nextP S (addL S n D (ids.take k)) D.length
 own:OwnDpts wr B vl L
 ownp:OwnIds wr w0.heap.size vp NP
 far:Far [v.ownBlock] w0 wr
 newer:Newer w0 v vl
section
variable {S:List StL} {w0 w1 w2 w3 w4:World} {B n k:Nat} {v vl vp vl' vp' vo:Value} {D L:List DpL} {ids NP:List Txt} {x:Txt}
theorem LevI.same (h:LevI S w0 B v D ids n k w1 vl vp L NP) (hB:B≤w0.heap.size) (hx:ids[k]?=some x) (hb:Below w1.heap.size w1 w2) (hno:inL ((addL S n D (ids.take k)).map DpL.id) x=true∨kindS S x≠3):LevI S w0 B v D ids n (k+1) w2 vl vp L NP:=by
 have e:addL S n D (ids.take (k+1))=addL S n D (ids.take k):=by rw [addL_more hx,addD_no hno]
 exact ⟨by rw [e];exact h.s,h.ok,by rw [e];exact h.inv,by rw [e];exact h.np,own_below h.own hb,own_below h.ownp hb,h.far.more hb,h.newer⟩
theorem LevI.more (h:LevI S w0 B v D ids n k w1 vl vp L NP) (hB:B≤w0.heap.size) (hx:ids[k]?=some x) (hx32:x.length=32) (hn:n≤2000000) (hb:Below w1.heap.size w1 w2) (hi:inL ((addL S n D (ids.take k)).map DpL.id) x=false) (hk3:kindS S x=3)
 (ho3:OwnDpts w3 B vl' (L.take (posK DpL.id L x)++[⟨x,n⟩]++L.drop (posK DpL.id L x))) (hg3:w2.grownBy w3 vl.ownBlock) (hn3:Newer w2 vl vl')
 (ho4:w4.ownsRow w0.heap.size 46 32 vp' (NP.length+(parS S x).length) (rowsOf idC NP++rowsOf idC (parS S x))) (hg4:w3.grownBy w4 vp.ownBlock) :
 LevI S w0 B v D ids n (k+1) w4 vl' vp' (L.take (posK DpL.id L x)++[⟨x,n⟩]++L.drop (posK DpL.id L x)) (NP++parS S x):=by
 have e:addL S n D (ids.take (k+1))=addL S n D (ids.take k)++[⟨x,n⟩]:=by rw [addL_more hx,addD_yes hi hk3]
 have hI:=addD_I (n:=n) h.inv x
 rw [addD_yes hi hk3] at hI
 have hp2:OwnIds w2 w0.heap.size vp NP:=own_below h.ownp hb
 have hf3:Far [vl.ownBlock] w2 w3:=Far.of_grown hg3
 have hf4:Far [vp.ownBlock] w3 w4:=Far.of_grown hg4
 have hp3:OwnIds w3 w0.heap.size vp NP:=hf3.own hp2 fun q hq hm=>own_ne hp2 (own_below h.own hb) (by decide) q hq (List.mem_singleton.1 hm).symm
 refine ⟨by rw [e];exact h.s.add (x:=⟨x,n⟩) hi,dptsOk_ins h.ok _ ⟨hx32,hn⟩,by rw [e];exact hI,?_,?_,?_,?_,?_⟩
 ·rw [e,nextP_yes (by exact addL_len _),←h.np]
 ·exact hf4.own ho3 fun q hq hm=>own_ne ho3 hp3 (by decide) q hq (List.mem_singleton.1 hm).symm
 ·unfold OwnIds
  rw [List.length_append,rowsOf_append]
  exact ho4
 ·have h2:Far [v.ownBlock] w0 w2:=h.far.more hb
  have h3:Far [v.ownBlock] w0 w3:=h2.then_ hf3 fun q hq=>by
   rcases h.newer with h5 | h5
   ·rw [←h5];exact .inl hq
   ·exact .inr (h5 q (List.mem_singleton.1 hq).symm)
  exact h3.then_ hf4 fun q hq => .inr (World.ownsRow.lt h.ownp q (List.mem_singleton.1 hq).symm).1
 ·exact h.newer.then_ hn3 (Nat.le_trans h.far.size hb.size)
end
set_option maxRecDepth 100000 in
set_option maxHeartbeats 4000000 in
theorem depLevel_calls {S:List StL} {w:World} {sb p B:Nat} {vs v vi:Value} {L D:List DpL} {ids:List Txt} (hS:StoAt w sb p vs S) (hB:B≤w.heap.size) (hv:OwnDpts w B v L) (hL:DptS L D) (hok:DptsOk L) (hI:DptI S D)
 (hvi:OwnIds w B vi ids) (hids : ∀ x∈ids,x.length=32) (n:Nat) (hn:n≤2000000) :
 Calls Tryz.prog 29 #[.pointer (some ⟨p,0,none⟩),v,vi, .int .i64 n] w fun e w' => ∃ v' vp,e = .returned (.tuple #[v',vp]) ∧ ∃ L',DptS L' (addL S n D ids)∧DptsOk L'∧OwnDpts w' B v' L'∧OwnIds w' w.heap.size vp (nextP S (addL S n D ids) D.length)∧Far [v.ownBlock] w w':=by
 have hSl:S.length≤500000:=hS.ok.few
 obtain ⟨Ai,ci,rfl⟩:=own_form' hvi
 have hSr : ∀ wr,Far [v.ownBlock] w wr→StoAt wr sb p vs S:=fun wr hf=>hS.far hf (fun hm=>own_blk_ne hv hS.blk (by decide) (List.mem_singleton.1 hm)) fun q hq hm=>own_ne hS.own hv (by decide) q hq (List.mem_singleton.1 hm).symm
 have hIr : ∀ wr,Far [v.ownBlock] w wr→OwnIds wr B (.slice Ai ids.length ci) ids:=fun wr hf=>hf.own hvi fun q hq hm=>own_ne hvi hv (by decide) q hq (List.mem_singleton.1 hm).symm
 have hst:LevI S w B v D ids n 0 w v (.slice none 0 0) L []:=⟨hL,hok,hI,(nextP_self D).symm,hv,World.ownsRow_nil _ _ _ _,Far.refl _ _,Newer.refl _ _⟩
 have hfin:Hid (ids.take ids.length=ids):=Lib.hid List.take_length
 clear hL hok hI hv hvi hS
 go_enter Tryz.func29,Tryz.ntmps29
 go_wp2_with (fail)
 go_loopg [1,10,19] ids.length (fun f v1 v10 vk wr => ∃ (vl vp:Value) (k:Nat) (L:List DpL) (NP:List Txt),vl=v1∧vp=v10∧vk = .int .i64 k∧k+f=ids.length∧LevI S w B v D ids n k wr vl vp L NP)
 case atStart=>exact ⟨_,_,0,L,[],rfl,rfl,rfl,by omega,hst⟩
 case round=>
  obtain ⟨vl,vp,k,L1,NP,rfl,rfl,rfl,hkf,hr⟩:=hrel
  cases gk with
  | zero=>
    have hki : ¬ (k:Int)<(ids.length:Int):=by omega
    obtain rfl:k=ids.length:=by omega
    clear hSr hIr hst
    go_wp2_with (fail)
    go_ret2
    obtain ⟨r1,r2,r3,r4,r5,r6,r7,r8⟩:=hr
    rw [hfin.out] at r1 r4
    rw [r4] at r6
    exact ⟨_,_,rfl,L1,r1,r2,r5,r6,r7⟩
  | succ f=>
    have hki:(k:Int)<(ids.length:Int):=by omega
    obtain ⟨x,hx⟩ : ∃ x,ids[k]?=some x:=⟨_,List.getElem?_eq_getElem (by omega)⟩
    have hxi:=hids x (List.mem_of_getElem? hx)
    have hSw:=hSr _ hr.far
    obtain ⟨A',c',he,_,_,hat⟩:=SliceAt.of_own (idsK hids) (hIr _ hr.far)
    injection he with e1 _ e3
    subst e1
    subst e3
    obtain ⟨ga,oa,rfl,hga,hca⟩:=hat (by omega)
    have hlx:(ldvI ⟨ga,oa+k*32,none⟩).run Tryz.prog wr = .ok (.agg (u8s x)) wr:=run_ldvI_at (show World.rangeAt wr ga (oa+k*32) (u8s x).toList from hca k x hx) hxi
    have hLl:L1.length≤500000:=by rw [hr.s.len];exact Nat.le_trans hr.inv.len hSl
    have hpl:=fun W (hW:Below wr.heap.size wr W)=>Lib.hid (depPlace_calls (SliceAt.of_own (dptK hr.ok) (own_below hr.own hW)) hr.ok hr.s.sorted (by omega) x hxi)
    have hob:=fun W (hW:Below wr.heap.size wr W)=>Lib.hid (stoObjK_calls (hSw.below hW) x hxi)
    have hin:hasK DpL.id L1 x=inL ((addL S n D (ids.take k)).map DpL.id) x:=hr.s.has x
    have hx32:(u8s x).size=32:=by rw [u8s_size,hxi]
    have hx1:=u8s_one x
    have hlm : ∀ W g,Blk W g 46 (u8s x)→(ldvI ⟨g,0,none⟩).run Tryz.prog W = .ok (.agg (u8s x)) W:=fun W g h=>run_ldvI_at (range_blk h) hxi
    have hbd:=built_dpt x n hxi
    have hPle:posK DpL.id L1 x≤L1.length:=posK_le
    have hins:=fun W (hW:Below wr.heap.size wr W) vb (hvb:Blk W vb 48 (dptC ⟨x,n⟩).toArray) (hne:vl.ownBlock≠some vb)=>Lib.hid (insertDpts_calls L1 hr.ok (by omega) vl W B (posK DpL.id L1 x) vb ⟨x,n⟩ ⟨hxi,hn⟩ (Nat.le_trans hB (Nat.le_trans hr.far.size hW.size)) (own_below hr.own hW) hPle hvb hne)
    have hvlt : ∀ q,vl.ownBlock=some q→q<wr.heap.size:=fun q hq=>(World.ownsRow.lt hr.own q hq).2
    have hpart : ∀ W,Below wr.heap.size wr W→OwnIds W w.heap.size vp NP:=fun W hW=>own_below hr.ownp hW
    have hnps:NP.length≤10000000:=by
     have h1:=(nextP_small S (addL S n D (ids.take k)) D.length).1
     rw [←hr.np,←hr.s.len] at h1
     omega
    obtain ⟨hps1,hps2⟩:=par_small S x
    have hz72:=zObj_size
    have hzo:=zeroObj
    have hzI:=zeroIdV
    have hZ32:(u8s noId).size=32:=by rw [u8s_size,noId_len]
    obtain ⟨XC,hXC⟩ : ∃ XC,u8s x=XC:=⟨_,rfl⟩
    obtain ⟨DC,hDC⟩ : ∃ DC,(dptC ⟨x,n⟩).toArray=DC:=⟨_,rfl⟩
    have hD33:DC.size=33:=by rw [←hDC,List.size_toArray];exact dptC_len ⟨hxi,hn⟩
    rw [hDC] at hbd
    simp only [hDC] at hins
    rw [hXC] at hlx hx32 hx1 hbd
    simp only [hXC] at hpl hob hlm
    obtain ⟨P,hP⟩ : ∃ P,posK DpL.id L1 x=P:=⟨_,rfl⟩
    obtain ⟨HB,hHB⟩ : ∃ HB,hasK DpL.id L1 x=HB:=⟨_,rfl⟩
    simp only [hP,hHB] at hpl hins
    rw [hHB] at hin
    replace hP:=Lib.hid hP
    replace hXC:=Lib.hid hXC
    replace hDC:=Lib.hid hDC
    replace hin:=Lib.hid hin
    have hwr:=hr.far.size
    clear hHB hat hca hst hfin hSw hPle
    go_upto_region 7 with (first
     | ((with_reducible refine lit_new 46 (.tmp 12) (.tmp 22) XC 32 sz32 hx32 hx1 _ ?_ ?_ ?_ ?_)
        ·first | exact hZ32 | rfl
        ·rfl
        ·rfl
        intro w2 hb2 hbl2
        have l2:=hlm w2 _ hb2
        have p2:=hpl w2 hbl2)
     | ((with_reducible refine p2.out.mono ?_);rintro e w3 ⟨rfl,hb3⟩
        have b3:=bthen hbl2 hbl2.size hb3
        have l3:=hlm w3 _ (hb2.below hb3 hb2.lt)
        have o3:=hob w3 b3)
     | ((with_reducible refine o3.out.mono ?_);rintro e w4 ⟨⟨OC,K,th,vo,rfl,hc72,hcone,hc0,hc35,hvo,hk3⟩,hb4⟩
        have b4:=bthen b3 b3.size hb4)
     | ((with_reducible refine lit_new 59 (.tmp 15) (.tmp 33) OC 72 szObj hc72 hcone _ ?_ ?_ ?_ ?_)
        ·first | exact hz72 | rfl
        ·rfl
        ·rfl
        intro w5 hb5 hbl5))
    have b5:=bthen b4 b4.size hbl5
    have l5:=hlm w5 _ ((hb2.below hb3 hb2.lt).below (bthen hb4 hb4.size hbl5) (hb2.below hb3 hb2.lt).lt)
    have k5:w5.cell? ⟨w4.heap.size,0,none⟩=some (.int .i64 K):=by rw [hb5.cell];exact hc0
    have hvo5:=own_below hvo hbl5
    clear p2 o3 l2 l3 hpl hob hlm hlx hb2 hcone hc72 hc0 hbl5 hbl2 hb3
    by_cases hyes:HB=false∧th=true∧K=3
    ·obtain ⟨rfl,rfl,rfl⟩:=hyes
     have hkd:=hk3.1 ⟨rfl,rfl⟩
     have hin6:=hins
     clear hk3
     go_upto_region 9 with (first
      | ((with_reducible refine lit_build2 hbd ?_ ?_ ?_);rfl;rfl)
      | ((with_reducible refine lit_slice1 (.tmp 49) Tryz.dptTy DC hD33 (by omega) ?_ ?_);rfl
         obtain ⟨w6,hw6⟩ : ∃ w6,w5.alloc (.cells DC 48)=w6:=⟨_,rfl⟩
         have n6:Blk w6 w5.heap.size 48 DC:=by rw [←hw6];exact Blk.new _ _ _
         have bb6:Below w5.heap.size w5 w6:=by rw [←hw6];exact (Below.refl _ _).alloc (Nat.le_refl _) _
         have b6:=bthen b5 b5.size bb6
         rw [hw6]
         clear hw6
         have i6:=hins w6 b6 w5.heap.size n6 (fun h=>by have:=hvlt _ h;have:=b5.size;omega))
      | ((with_reducible refine i6.out.mono ?_);rintro e w7 ⟨vl',rfl,ho7,hg7,hn7⟩))
     have hf7:Far [vl.ownBlock] w6 w7:=Far.of_grown hg7
     have c35:w7.cell? ⟨w4.heap.size,35,none⟩=some vo:=by
      have h6:=hb5.below bb6 hb5.lt
      rw [(hf7.blk h6 (fun hm=>by have:=hvlt _ (List.mem_singleton.1 hm).symm;have:=b4.size;omega)).cell]
      exact hc35
     have hap : ∀ q,vl.ownBlock=some q→q<w6.heap.size:=fun q hq=>Nat.lt_of_lt_of_le (hvlt q hq) b6.size
     have hvo7:OwnIds w7 w3.heap.size vo (parS S x):=hf7.own (own_below hvo5 bb6) fun q hq hm=>own_ne (own_below hvo5 bb6) (own_below hr.own b6) (by decide) q hq (List.mem_singleton.1 hm).symm
     have hvp7:OwnIds w7 w.heap.size vp NP:=hf7.own (hpart w6 b6) fun q hq hm=>own_ne (hpart w6 b6) (own_below hr.own b6) (by decide) q hq (List.mem_singleton.1 hm).symm
     have hsrc:=SrcAt.of (idsK hps2) (SliceAt.of_own (idsK hps2) hvo7)
     have hone : ∀ u∈rowsOf idC (parS S x),u.oneCell'=true:=rowsOf_one' fun x _=>idC_one x
     have k63:NP.length+(parS S x).length≤9223372036854775807:=by omega
     have kby:(NP.length+(parS S x).length)*32≤140737488355328:=by omega
     have hz7:w.heap.size≤w7.heap.size:=Nat.le_trans hwr (Nat.le_trans b6.size hf7.size)
     clear hins i6 hvlt hpart hnps hps1 hbd hD33 n6 hap hvo7 l5 k5 hb5 hc35 hvo hvo5 hf7
     go_wp2_with (first
      | ((with_reducible refine lit_append_srcN (.tmp 52) (.tmp 54) 34 Tryz.idsTy hvp7 hsrc hone k63 kby hz7 ?_ ?_ ?_);rfl;rfl
         intro vp' w8 ho8 hg8 hn8))
     rw [←hP.out] at ho7
     have hr2:=hr.more hB hx hxi hn b6 hin.out.symm hkd ho7 hg7 hn7 ho8 hg8
     clear hr hin
     go_roundg f
     case rel=>exact ⟨_,_,k+1,_,_,rfl,rfl,by go_num,by omega,hr2⟩
     case measure=>omega
    ·have hno:inL ((addL S n D (ids.take k)).map DpL.id) x=true∨kindS S x≠3:=by
      rw [←hin.out]
      cases HB with
      | true=>exact .inl rfl
      | false=>exact .inr fun h=>hyes ⟨rfl,hk3.2 h⟩
     have hr2:=hr.same hB hx b5 hno
     clear hr hin hno hk3 hins hbd hvlt hpart hnps hps1 hps2 hD33 hvo5 hvo hb5 l5 hx hxi
     cases HB with
     | true=>
       go_wp2_with (fail)
       go_roundg f
       case rel=>exact ⟨_,_,k+1,L1,NP,rfl,rfl,by go_num,by omega,hr2⟩
       case measure=>omega
     | false=>
       cases th with
       | false=>
         go_wp2_with (fail)
         go_roundg f
         case rel=>exact ⟨_,_,k+1,L1,NP,rfl,rfl,by go_num,by omega,hr2⟩
         case measure=>omega
       | true=>
         have hK : ¬ K=3:=fun h=>hyes ⟨rfl,rfl,h⟩
         go_wp2_with (fail)
         go_roundg f
         case rel=>exact ⟨_,_,k+1,L1,NP,rfl,rfl,by go_num,by omega,hr2⟩
         case measure=>omega
end Go.Proofs.YtbhdfaadedlcfaaGreatDoor
namespace Go.Proofs.YtbhdfaadedlcfaaGreatDoor
open Go.RowKit
attribute [local go_sem ↓] ldvI_eq
theorem own_snoc {w:World} {B:Nat} {v:Value} {acc:List Txt} {x:Txt} (h:w.ownsRow B 46 32 v (acc.length+1) (rowsOf idC acc++(u8s x).toList)):OwnIds w B v (acc++[x]):=by
 unfold OwnIds
 rw [List.length_append,List.length_singleton,rowsOf_append,rowsOf_one]
 exact h
theorem endsM_len {S:List StL} {l:List Txt}:(endsM S l).length≤l.length:=by unfold endsM;exact List.length_filterMap_le _ _
theorem endsM_ok {S:List StL} {l:List Txt} (h : ∀ x∈l,x.length=32) : ∀ x∈endsM S l,x.length=32:=fun x hx=>by
 unfold endsM at hx
 obtain ⟨y,hy,he⟩:=List.mem_filterMap.1 hx
 exact endS_ok _ _ _ (h y hy) he
set_option maxRecDepth 100000 in
theorem depOfNo_calls (vp vf:Value) (n:Int) (hn : ¬ (1≤n∧n≤1048576)) (w:World) :
 Calls Tryz.prog 10 #[vp,vf, .int .i64 n] w fun e w'=>e = .returned (.tuple #[.slice none 0 0, .int .i64 1])∧w'=w:=by
 have hf:=Lib.hid (fineB_calls n w)
 rw [decide_eq_false hn] at hf
 go_enter Tryz.func10,Tryz.ntmps10
 go_wp2_with (first
  | ((with_reducible refine hf.out.mono ?_);rintro e w1 ⟨rfl,rfl⟩))
 go_ret2
 exact ⟨rfl,rfl⟩
/-- What Of's second loop keeps. -/
structure DpoI (S:List StL) (w0:World) (most:Nat) (R:List DpL) (f n:Nat) (wr:World) (vi vo:Value) (ids:List Txt) (L D:List DpL):Prop where
 s:DptS L D
 ok:DptsOk L
 inv:DptI S D
 own:OwnDpts wr w0.heap.size vo L
 owni:OwnIds wr w0.heap.size vi ids
 iok : ∀ x∈ids,x.length=32
 fuel:FuelD S f D ids
 num:n≤most+1
 res:levQ S most f D ids n=R
 bel:Below w0.heap.size w0 wr
/-- What Of tells. -/
def DpoR (S:List StL) (R:List DpL) (B:Nat) (v:Value) (w':World):Prop := ∃ L,DptS L R∧DptsOk L∧OwnDpts w' B v L
set_option maxRecDepth 100000 in
set_option maxHeartbeats 4000000 in
theorem depOf_calls {S:List StL} {w:World} {sb p:Nat} {vs vf:Value} {ini:List Txt} (hS:StoAt w sb p vs S) (hvf:Ids w vf ini) (hini : ∀ x∈ini,x.length=32) (hil:ini.length≤800000) (most:Nat) (h1:1≤most) (h2:most≤1048576) :
 Calls Tryz.prog 10 #[.pointer (some ⟨p,0,none⟩),vf, .int .i64 most] w fun e w' => ∃ v,e = .returned (.tuple #[v, .int .i64 0])∧DpoR S (depS S most (endsM S ini)) w.heap.size v w'∧Below w.heap.size w w':=by
 have hf:=Lib.hid (fineB_calls most w)
 rw [decide_eq_true (show 1≤(most:Int)∧(most:Int)≤1048576 by omega)] at hf
 have hR:=dep_lev (S:=S) h1 (endsM S ini)
 obtain ⟨R,hRe⟩ : ∃ R,depS S most (endsM S ini)=R:=⟨_,rfl⟩
 rw [hRe] at hR ⊢
 clear hRe
 have hSl:S.length≤500000:=hS.ok.few
 have hSr:=fun wr (hW:Below w.heap.size w wr)=>hS.below hW
 have hfin:ini.take ini.length=ini:=List.take_length
 have hEok:=endsM_ok (S:=S) hini
 obtain ⟨Ai,ci,rfl,hi1,hi2,hat⟩:=hvf
 replace hR:=Lib.hid hR
 have h0:OwnIds w w.heap.size (.slice none 0 0) (endsM S (ini.take 0)):=World.ownsRow_nil _ _ _ _
 clear hS
 go_enter Tryz.func10,Tryz.ntmps10
 go_wp2_with (first
  | ((with_reducible refine hf.out.mono ?_);rintro e w1 ⟨rfl,hw1⟩;obtain rfl:=hw1.symm))
 clear hf
 go_loopg [8,20] ini.length (fun f v8 v20 wr => ∃ (vi:Value) (k:Nat),vi=v8∧v20 = .int .i64 k∧k+f=ini.length∧OwnIds wr w.heap.size vi (endsM S (ini.take k))∧Below w.heap.size w wr)
 case atStart=>exact ⟨_,0,rfl,rfl,by omega,h0,Below.refl _ _⟩
 case round=>
  obtain ⟨vi,k,rfl,rfl,hkf,hown,hbel⟩:=hrel
  cases gk with
  | zero=>
    have hki : ¬ (k:Int)<(ini.length:Int):=by omega
    obtain rfl:k=ini.length:=by omega
    rw [hfin] at hown
    have hst:DpoI S w most R (S.length+2) 1 wr vi (.slice none 0 0) (endsM S ini) [] []:=⟨DptS.nil,(fun x hx=>by cases hx),DptI.nil,World.ownsRow_nil _ _ _ _,hown,hEok, .inr (by simp),by omega,hR.out,hbel⟩
    clear hat hown h0 hfin hEok hR hini hil hi1 hi2 hkf hki hbel
    go_wp2_with (fail)
    go_loopg [8,13,14] (S.length+2) (fun f v8 v13 v14 wr => ∃ (vi vo:Value) (ids:List Txt) (L D:List DpL) (n:Nat),vi=v8∧vo=v13∧v14 = .int .i64 n∧DpoI S w most R f n wr vi vo ids L D)
    case atStart=>exact ⟨_,_,_,_,_,1,rfl,rfl,rfl,hst⟩
    case round=>
     obtain ⟨vi,vo,ids,L,D,n,rfl,rfl,rfl,hr⟩:=hrel
     have hbs:=hr.bel.size
     obtain ⟨Ad,cd,rfl⟩:=own_form' hr.owni
     by_cases hn:n≤most
     ·have hni:(n:Int)≤(most:Int):=by omega
      by_cases hids:ids=[]
      ·have hli : ¬ (0:Int)<(ids.length:Int):=by rw [hids];simp
       have hre:=hr.res
       rw [lev_end (fun h=>h.2 hids)] at hre
       have hres:DpoR S R w.heap.size vo wr:=⟨L,hre▸hr.s,hr.ok,hr.own⟩
       have hb:=hr.bel
       clear hr hre hids hSr hst
       go_wp2_with (fail)
       go_ret2
       exact ⟨_,rfl,hres,hb⟩
      ·have hfp:=hr.fuel.pos hr.inv hids
       obtain ⟨f,rfl⟩ : ∃ f,gk=f+1:=⟨gk-1,by omega⟩
       have hli:(0:Int)<(ids.length:Int):=by
        have:=List.length_pos_iff.2 hids
        omega
       have hlev:=Lib.hid (depLevel_calls (hSr wr hr.bel) hbs hr.own hr.s hr.ok hr.inv hr.owni hr.iok n (by omega))
       clear hSr hst
       go_wp2_with (first
        | ((with_reducible refine hlev.out.mono ?_);rintro e w5 ⟨vo',vi',rfl,L',q1,q2,q3,q4,q5⟩))
       have hb5:Below w.heap.size w w5:=hr.bel.trans (q5.below hbs fun q hq=>(World.ownsRow.lt hr.own q (List.mem_singleton.1 hq).symm).1)
       have hnext:DpoI S w most R f (n+1) w5 vi' vo' (nextP S (addL S n D ids) D.length) L' (addL S n D ids):=⟨q1,q2,addL_I _ hr.inv,q3,own_low' q4 hbs,(nextP_small S _ _).2,hr.fuel.go hids,by omega,by rw [←lev_go hn hids];exact hr.res,hb5⟩
       clear hlev q1 q2 q3 q4 q5 hr hb5 hids hli
       go_roundg f
       case rel=>exact ⟨_,_,_,_,_,n+1,rfl,rfl,by go_num,hnext⟩
       case measure=>omega
     ·have hni : ¬ (n:Int)≤(most:Int):=by omega
      have hre:=hr.res
      rw [lev_end (fun h=>hn h.1)] at hre
      have hres:DpoR S R w.heap.size vo wr:=⟨L,hre▸hr.s,hr.ok,hr.own⟩
      have hb:=hr.bel
      clear hr hre hSr hst
      go_wp2_with (fail)
      go_ret2
      exact ⟨_,rfl,hres,hb⟩
  | succ f=>
    have hki:(k:Int)<(ini.length:Int):=by omega
    obtain ⟨ga,oa,rfl,hga,hca⟩:=hat (by omega)
    obtain ⟨x,hx⟩ : ∃ x,ini[k]?=some x:=⟨_,List.getElem?_eq_getElem (by omega)⟩
    have hxi:=hini x (List.mem_of_getElem? hx)
    have hbs:=hbel.size
    have hlx:(ldvI ⟨ga,oa+k*32,none⟩).run Tryz.prog wr = .ok (.agg (u8s x)) wr:=run_ldvI_at (show World.rangeAt wr ga (oa+k*32) (u8s x).toList from rangeAt_below (hca k x hx) hga hbel) hxi
    have hen:=fun W (hW:Below wr.heap.size wr W)=>Lib.hid (graEnd_calls (hSr W (bthen hbel hbs hW)) x hxi)
    have hmo:=endsM_more (S:=S) hx
    have hx32:(u8s x).size=32:=by rw [u8s_size,hxi]
    have hx1:=u8s_one x
    have hlm : ∀ W g (y:Txt),y.length=32→Blk W g 46 (u8s y)→(ldvI ⟨g,0,none⟩).run Tryz.prog W = .ok (.agg (u8s y)) W:=fun W g y hy h=>run_ldvI_at (range_blk h) hy
    have hlx2:=fun W g=>hlm W g x hxi
    have hzI:=zeroIdV
    have hZ32:(u8s noId).size=32:=by rw [u8s_size,noId_len]
    have hel:(endsM S (ini.take k)).length≤k:=Nat.le_trans endsM_len (by rw [List.length_take];omega)
    obtain ⟨E,hE⟩ : ∃ E,endsM S (ini.take k)=E:=⟨_,rfl⟩
    rw [hE] at hown hmo hel
    clear hat hca h0 hfin hE
    obtain ⟨XC,hXC⟩ : ∃ XC,u8s x=XC:=⟨_,rfl⟩
    rw [hXC] at hlx hx32 hx1
    simp only [hXC] at hen hlx2
    cases he:endS S (S.length+1) x with
    | none=>
      rw [he] at hmo
      simp only [he,endV] at hen
      have hown2 : ∀ W,Below wr.heap.size wr W→OwnIds W w.heap.size vi (endsM S (ini.take (k+1))):=fun W hW=>by rw [hmo,List.append_nil];exact own_below hown hW
      clear hmo he hlm hown hXC
      go_wp2_with (first
       | ((with_reducible refine lit_new 46 (.tmp 10) (.tmp 23) XC 32 sz32 hx32 hx1 _ ?_ ?_ ?_ ?_)
          ·first | exact hZ32 | rfl
          ·rfl
          ·rfl
          intro w2 hb2 hbl2
          have l2:=hlx2 w2 _ hb2
          have p2:=hen w2 hbl2)
       | ((with_reducible refine p2.out.mono ?_);rintro e w3 ⟨rfl,hb3⟩
          have b3:=bthen hbl2 hbl2.size hb3)
       | ((with_reducible refine lit_new 46 (.tmp 11) (.tmp 28) (u8s noId) 32 sz32 hZ32 (u8s_one noId) _ ?_ ?_ ?_ ?_)
          ·first | exact hZ32 | rfl
          ·rfl
          ·rfl
          intro w4 hb4 hbl4
          have b4:=bthen b3 b3.size hbl4))
      have o4:=hown2 w4 b4
      have bb4:=bthen hbel hbs b4
      clear hown2 hen hlx2 hb2 hb4
      go_roundg f
      case rel=>exact ⟨_,k+1,rfl,by go_num,by omega,o4,bb4⟩
      case measure=>omega
    | some m=>
      have hmi:=endS_ok _ _ _ hxi he
      have hm32:(u8s m).size=32:=by rw [u8s_size,hmi]
      have hm1:=u8s_one m
      have hm132:(u8s m).size=1*32:=hm32
      have hm1' : ∀ u∈(u8s m).toList,u.oneCell'=true:=idC_one m
      have hAk:E.length+1≤9223372036854775807:=by omega
      have hAb:(E.length+1)*32≤140737488355328:=by omega
      have hlm2:=fun W g=>hlm W g m hmi
      rw [he] at hmo
      simp only [he,endV] at hen
      clear he hlm hXC
      replace hmo:=Lib.hid hmo
      go_wp2_with (first
       | ((with_reducible refine lit_new 46 (.tmp 10) (.tmp 23) XC 32 sz32 hx32 hx1 _ ?_ ?_ ?_ ?_)
          ·first | exact hZ32 | rfl
          ·rfl
          ·rfl
          intro w2 hb2 hbl2
          have l2:=hlx2 w2 _ hb2
          have p2:=hen w2 hbl2)
       | ((with_reducible refine p2.out.mono ?_);rintro e w3 ⟨rfl,hb3⟩
          have b3:=bthen hbl2 hbl2.size hb3)
       | ((with_reducible refine lit_new 46 (.tmp 11) (.tmp 28) (u8s m) 32 sz32 hm32 hm1 _ ?_ ?_ ?_ ?_)
          ·first | exact hZ32 | rfl
          ·rfl
          ·rfl
          intro w4 hb4 hbl4
          have b4:=bthen b3 b3.size hbl4
          have l4:=hlm2 w4 _ hb4
          have hown4:=own_below hown b4
          have hz4:=Nat.le_trans hbs b4.size)
       | ((with_reducible refine lit_slice1 (.tmp 32) Tryz.idsTy (u8s m) hm32 (by omega) ?_ ?_);rfl)
       | ((with_reducible refine lit_append_new (.tmp 31) (.tmp 33) 1 _ Tryz.idsTy hown4 (u8s m) hm132 hm1' hAk hAb hz4 ?_ ?_ ?_);rfl;rfl
          intro v5 w5 ho5 hb5 _ _))
      have o5:OwnIds w5 w.heap.size v5 (endsM S (ini.take (k+1))):=by rw [hmo.out];exact own_snoc ho5
      have bb5:=(bthen hbel hbs b4).trans hb5
      clear hmo hown hown4 ho5 hen hlx2 hlm2 hb2 hb4 l4 l2 hm32 hm1 hm132 hm1' hAk hAb
      go_roundg f
      case rel=>exact ⟨_,k+1,rfl,by go_num,by omega,o5,bb5⟩
      case measure=>omega
end Go.Proofs.YtbhdfaadedlcfaaGreatDoor
namespace Go.Proofs.YtbhdfaadedlcfaaGreatDoor
open Go.RowKit
attribute [local go_sem ↓] ldvI_eq ldvDpt_eq
def zDptA : Array Value:=(dptC ⟨List.replicate 32 0,0⟩).toArray
theorem zeroDpt (W:World):(zeroValue 48).run Tryz.prog W = .ok (.agg zDptA) W:=by
 have h:(Tryz.prog.info? 48).map (·.zero)=some (some (.agg zDptA)):=by kernel_rfl
 obtain ⟨i,h1,h2⟩:=Option.map_eq_some_iff.1 h
 simp [zeroValue,typeInfo,h1,h2]
/-- What is deep; what is shallow. -/
def deepP (n:Nat) (p:DpL):Bool:=decide (p.n<n)
def shalP (S:List StL) (n:Nat) (p:DpL):Bool := !decide (p.n<n)&&decide (parS S p.id≠[])
def deepL (L:List DpL) (n:Nat):List Txt:=(L.filter (deepP n)).map DpL.id
def shalL (S:List StL) (L:List DpL) (n:Nat):List Txt:=(L.filter (shalP S n)).map DpL.id
section
variable {S:List StL} {L:List DpL} {n k:Nat} {x:DpL}
theorem deepL_more (h:L[k]?=some x):deepL (L.take (k+1)) n=deepL (L.take k) n++(if deepP n x=true then [x.id] else []):=by
 unfold deepL
 rw [List.take_add_one,h,List.filter_append,List.map_append]
 congr 1
 show ([x].filter _).map _=_
 rw [List.filter_cons,List.filter_nil]
 split<;>rfl
theorem shalL_more (h:L[k]?=some x):shalL S (L.take (k+1)) n=shalL S (L.take k) n++(if shalP S n x=true then [x.id] else []):=by
 unfold shalL
 rw [List.take_add_one,h,List.filter_append,List.map_append]
 congr 1
 show ([x].filter _).map _=_
 rw [List.filter_cons,List.filter_nil]
 split<;>rfl
theorem deepL_len : (deepL (L.take k) n).length≤k:=by
 unfold deepL
 rw [List.length_map]
 exact Nat.le_trans (List.length_filter_le _ _) (by rw [List.length_take];omega)
theorem shalL_len : (shalL S (L.take k) n).length≤k:=by
 unfold shalL
 rw [List.length_map]
 exact Nat.le_trans (List.length_filter_le _ _) (by rw [List.length_take];omega)
end
set_option maxRecDepth 100000 in
theorem depBoundNo_calls (vp vf:Value) (n:Int) (hn : ¬ (1≤n∧n≤1048576)) (w:World) :
 Calls Tryz.prog 11 #[vp,vf, .int .i64 n] w fun e w'=>e = .returned (.tuple #[.slice none 0 0, .slice none 0 0, .int .i64 1])∧w'=w:=by
 have hf:=Lib.hid (depOfNo_calls vp vf n hn w)
 go_enter Tryz.func11,Tryz.ntmps11
 go_wp2_with (first
  | ((with_reducible refine hf.out.mono ?_);rintro e w1 ⟨rfl,rfl⟩))
 go_ret3
 exact ⟨rfl,rfl⟩
/-- What Bound tells. -/
def BoundR (S:List StL) (R:List DpL) (n:Nat) (B:Nat) (va vb:Value) (w':World):Prop := ∃ L,DptS L R∧(∀ x∈L,x.id.length=32)∧OwnIds w' B va (shalL S L n)∧OwnIds w' B vb (deepL L n)
set_option maxRecDepth 100000 in
set_option maxHeartbeats 4000000 in
theorem depBound_calls {S:List StL} {w:World} {sb p:Nat} {vs vf:Value} {ini:List Txt} (hS:StoAt w sb p vs S) (hvf:Ids w vf ini) (hini : ∀ x∈ini,x.length=32) (hil:ini.length≤800000) (n:Nat) (h1:1≤n) (h2:n≤1048576) :
 Calls Tryz.prog 11 #[.pointer (some ⟨p,0,none⟩),vf, .int .i64 n] w fun e w' => ∃ va vb,e = .returned (.tuple #[va,vb, .int .i64 0])∧BoundR S (depS S n (endsM S ini)) n w.heap.size va vb w'∧Below w.heap.size w w':=by
 have hof:=Lib.hid (depOf_calls hS hvf hini hil n h1 h2)
 have hI:=depS_I S n (endsM S ini)
 obtain ⟨R,hR⟩ : ∃ R,depS S n (endsM S ini)=R:=⟨_,rfl⟩
 rw [hR] at hof hI ⊢
 clear hR
 have hSl:S.length≤500000:=hS.ok.few
 have hSr:=fun wr (hW:Below w.heap.size w wr)=>hS.below hW
 clear hS hvf
 go_enter Tryz.func11,Tryz.ntmps11
 go_upto_region 4 with (first
  | ((with_reducible refine hof.out.mono ?_);rintro e w1 ⟨v1,rfl,⟨L,hLs,hLok,hLo⟩,hb1⟩
     obtain ⟨Al,cl,rfl⟩:=own_form' hLo))
 have hLl:L.length≤500000:=by rw [hLs.len];exact Nat.le_trans hI.len hSl
 have hLi:=SliceAt.of_own (dptK hLok) hLo
 obtain ⟨A',c',he,_,_,hat⟩:=hLi
 injection he with e1 _ e3
 subst e1
 subst e3
 have z1:=hb1.size
 have h0a:OwnIds w1 w1.heap.size (.slice none 0 0) (shalL S (L.take 0) n):=World.ownsRow_nil _ _ _ _
 have h0b:OwnIds w1 w1.heap.size (.slice none 0 0) (deepL (L.take 0) n):=World.ownsRow_nil _ _ _ _
 have hfin:L.take L.length=L:=List.take_length
 clear hof hI hLo
 go_wp2_with (fail)
 go_loopg [6,7,26] L.length (fun f v6 v7 v26 wr => ∃ (va vb:Value) (k:Nat) (SH DP:List Txt),va=v6∧vb=v7∧v26 = .int .i64 k∧k+f=L.length∧SH=shalL S (L.take k) n∧DP=deepL (L.take k) n∧OwnIds wr w1.heap.size va SH∧OwnIds wr w1.heap.size vb DP∧(∀ q,va.ownBlock=some q→vb.ownBlock≠some q)∧Below w1.heap.size w1 wr)
 case atStart=>exact ⟨_,_,0,_,_,rfl,rfl,rfl,by omega,rfl,rfl,h0a,h0b,fun q hq=>(by cases hq),Below.refl _ _⟩
 case round=>
  obtain ⟨va,vb,k,SH,DP,rfl,rfl,rfl,hkf,hSH,hDP,hoa,hob,hap,hbel⟩:=hrel
  have hbs:=hbel.size
  cases gk with
  | zero=>
    have hki : ¬ (k:Int)<(L.length:Int):=by omega
    obtain rfl:k=L.length:=by omega
    rw [hfin] at hSH hDP
    subst hSH
    subst hDP
    have hres:BoundR S R n w.heap.size va vb wr:=⟨L,hLs,fun x hx=>(hLok x hx).1,own_low' hoa z1,own_low' hob z1⟩
    have hb:=bthen hb1 z1 hbel
    clear hat hSr h0a h0b hLs hLok hoa hob
    go_wp2_with (fail)
    go_ret3
    exact ⟨_,_,rfl,hres,hb⟩
  | succ f=>
    have hki:(k:Int)<(L.length:Int):=by omega
    obtain ⟨ga,oa,rfl,hga,hca⟩:=hat (by omega)
    obtain ⟨x,hx⟩ : ∃ x,L[k]?=some x:=⟨_,List.getElem?_eq_getElem (by omega)⟩
    have hxok:=hLok x (List.mem_of_getElem? hx)
    have hxi:=hxok.1
    have hlx:=run_ldvDpt (rangeAt_below (hca k x hx) hga hbel) hxok
    have hx33:(dptC x).toArray.size=33:=by rw [List.size_toArray,dptC_len hxok]
    have hx1:(dptC x).toArray.all (·.oneCell')=true:=all_oneCell_toArray (dptC_one x)
    have hxa:=dptC_all x
    have hli : ∀ W g,Blk W g 48 (dptC x).toArray→(ldvI ⟨g,0,none⟩).run Tryz.prog W = .ok (.agg (u8s x.id)) W:=fun W g h=>by
     have:=range_blk h
     rw [List.toList_toArray] at this
     exact run_ldvI_at (dptC_id this) hxi
    have hln : ∀ W g,Blk W g 48 (dptC x).toArray→W.cell? ⟨g,32,none⟩=some (.int .i64 x.n):=fun W g h=>by
     have:=range_blk h
     rw [List.toList_toArray] at this
     have:=dptC_n hxi this
     rwa [Nat.zero_add] at this
    have hob':=fun W (hW:Below wr.heap.size wr W)=>Lib.hid (stoObjK_calls (hSr W (bthen hb1 z1 (bthen hbel hbs hW))) x.id hxi)
    have hms:=shalL_more (S:=S) (n:=n) hx
    have hmd:=deepL_more (n:=n) hx
    rw [←hSH] at hms
    rw [←hDP] at hmd
    have hSHl:SH.length≤k:=by rw [hSH];exact shalL_len
    have hDPl:DP.length≤k:=by rw [hDP];exact deepL_len
    have hi32:(u8s x.id).size=32:=by rw [u8s_size,hxi]
    have hi132:(u8s x.id).size=1*32:=hi32
    have hi1' : ∀ u∈(u8s x.id).toList,u.oneCell'=true:=idC_one x.id
    have hAk:SH.length+1≤9223372036854775807:=by omega
    have hAb:(SH.length+1)*32≤140737488355328:=by omega
    have hBk:DP.length+1≤9223372036854775807:=by omega
    have hBb:(DP.length+1)*32≤140737488355328:=by omega
    obtain ⟨hps1,hps2⟩:=par_small S x.id
    have hz72:=zObj_size
    have hzo:=zeroObj
    have hzD:=zeroDpt
    have hZ33:zDptA.size=33:=by rfl
    have hdp:deepP n x=decide (x.n<n):=rfl
    have hsp:shalP S n x=(!decide (x.n<n)&&decide (parS S x.id≠[])):=rfl
    obtain ⟨XC,hXC⟩ : ∃ XC,u8s x.id=XC:=⟨_,rfl⟩
    obtain ⟨DC,hDC⟩ : ∃ DC,(dptC x).toArray=DC:=⟨_,rfl⟩
    obtain ⟨XN,hXN⟩ : ∃ XN,x.n=XN:=⟨_,rfl⟩
    rw [hDC] at hlx hx33 hx1
    simp only [hDC,hXC] at hli hob'
    simp only [hDC,hXN] at hln
    rw [hXN] at hdp hsp
    rw [hXC] at hi32 hi132 hi1'
    replace hXC:=Lib.hid hXC
    have hne : ∀ q,vb.ownBlock=some q→va.ownBlock≠some q:=fun q hq h=>hap q h hq
    clear hat hca hSH hDP hfin h0a h0b hx hxa hDC hXN hLs hLok hSr
    go_upto_region 8 with (first
     | ((with_reducible refine lit_new 48 (.tmp 11) (.tmp 29) DC 33 szDpt hx33 hx1 _ ?_ ?_ ?_ ?_)
        ·first | exact hZ33 | rfl
        ·rfl
        ·rfl
        intro w2 hb2 hbl2
        have l2:=hli w2 _ hb2
        have p2:=hob' w2 hbl2)
     | ((with_reducible refine p2.out.mono ?_);rintro e w3 ⟨⟨OC,K,th,vo,rfl,hc72,hcone,hc0,hc35,hvo,hk3⟩,hb3⟩
        have b3:=bthen hbl2 hbl2.size hb3)
     | ((with_reducible refine lit_new 59 (.tmp 12) (.tmp 35) OC 72 szObj hc72 hcone _ ?_ ?_ ?_ ?_)
        ·first | exact hz72 | rfl
        ·rfl
        ·rfl
        intro w4 hb4 hbl4))
    have b4:=bthen b3 b3.size hbl4
    have d4:=(hb2.below hb3 hb2.lt).below hbl4 (hb2.below hb3 hb2.lt).lt
    have i4:=hli w4 _ d4
    have n4:=hln w4 _ d4
    have c35:w4.cell? ⟨w3.heap.size,35,none⟩=some vo:=by rw [hb4.cell];exact hc35
    have hvo4:=own_below hvo hbl4
    obtain ⟨Ao,co,rfl⟩:=own_form' hvo4
    have hoa4:=own_below hoa b4
    have hob4:=own_below hob b4
    have hz4:=Nat.le_trans hbs b4.size
    have b14:=bthen hbel hbs b4
    clear p2 l2 hli hln hob' hlx hb2 hcone hc72 hc0 hbl4 hbl2 hb3 hk3 hvo hvo4 hb4 hc35 d4 hoa hob
    by_cases hd:XN<n
    ·have hdi:(XN:Int)<(n:Int):=by omega
     rw [decide_eq_true hd] at hdp hsp
     rw [hdp,if_pos rfl] at hmd
     rw [hsp,if_neg (by simp),List.append_nil] at hms
     clear hdp hsp hd hps2
     replace hmd:=Lib.hid hmd
     replace hms:=Lib.hid hms
     go_wp2_with (first
      | ((with_reducible refine lit_slice1 (.tmp 44) Tryz.idsTy XC hi32 (by omega) ?_ ?_);rfl)
      | ((with_reducible refine lit_append_new (.tmp 42) (.tmp 45) 1 _ Tryz.idsTy hob4 XC hi132 hi1' hBk hBb hz4 ?_ ?_ ?_);rfl;rfl
         intro v5 w5 ho5 hb5 hg5 hn5))
     have hoa5:OwnIds w5 w1.heap.size va SH:=(Far.of_grown hg5).own hoa4 fun q hq hm=>hap q hq (List.mem_singleton.1 hm).symm
     have hob5:OwnIds w5 w1.heap.size v5 (DP++[x.id]):=own_snoc (by rw [hXC.out];exact ho5)
     have hap5 : ∀ q,va.ownBlock=some q→v5.ownBlock≠some q:=fun q hq h5=>by
      rcases hn5 with h6 | h6
      ·rw [h6] at h5;exact hap q hq h5
      ·have:=h6 q h5
       have:=(World.ownsRow.lt hoa4 q hq).2
       omega
     have b15:=b14.trans hb5
     clear ho5 hob4 hoa4 hg5 hn5 hap hne
     go_roundg f
     case rel=>exact ⟨_,_,k+1,_,_,rfl,rfl,by go_num,by omega,hms.out.symm,hmd.out.symm,hoa5,hob5,hap5,b15⟩
     case measure=>omega
    ·have hdi : ¬ (XN:Int)<(n:Int):=by omega
     rw [decide_eq_false hd] at hdp hsp
     rw [hdp,if_neg (by simp),List.append_nil] at hmd
     by_cases hp:parS S x.id=[]
     ·have hli0 : ¬ (0:Int)<((parS S x.id).length:Int):=by rw [hp];simp
      rw [hsp,hp,if_neg (by simp),List.append_nil] at hms
      clear hdp hsp hd hp hps1 hps2
      replace hmd:=Lib.hid hmd
      replace hms:=Lib.hid hms
      go_wp2_with (fail)
      go_roundg f
      case rel=>exact ⟨_,_,k+1,_,_,rfl,rfl,by go_num,by omega,hms.out.symm,hmd.out.symm,hoa4,hob4,hap,b14⟩
      case measure=>omega
     ·have hli0:(0:Int)<((parS S x.id).length:Int):=by
       have:=List.length_pos_iff.2 hp
       omega
      rw [hsp,if_pos (by simp [hp])] at hms
      clear hdp hsp hd hp hps1 hps2
      replace hmd:=Lib.hid hmd
      replace hms:=Lib.hid hms
      go_wp2_with (first
       | ((with_reducible refine lit_slice1 (.tmp 54) Tryz.idsTy XC hi32 (by omega) ?_ ?_);rfl)
       | ((with_reducible refine lit_append_new (.tmp 52) (.tmp 55) 1 _ Tryz.idsTy hoa4 XC hi132 hi1' hAk hAb hz4 ?_ ?_ ?_);rfl;rfl
          intro v5 w5 ho5 hb5 hg5 hn5))
      have hob5:OwnIds w5 w1.heap.size vb DP:=(Far.of_grown hg5).own hob4 fun q hq hm=>hne q hq (List.mem_singleton.1 hm).symm
      have hoa5:OwnIds w5 w1.heap.size v5 (SH++[x.id]):=own_snoc (by rw [hXC.out];exact ho5)
      have hap5 : ∀ q,v5.ownBlock=some q→vb.ownBlock≠some q:=fun q h5 hq=>by
       rcases hn5 with h6 | h6
       ·rw [h6] at h5;exact hap q h5 hq
       ·have:=h6 q h5
        have:=(World.ownsRow.lt hob4 q hq).2
        omega
      have b15:=b14.trans hb5
      clear ho5 hob4 hoa4 hg5 hn5 hap hne
      go_roundg f
      case rel=>exact ⟨_,_,k+1,_,_,rfl,rfl,by go_num,by omega,hms.out.symm,hmd.out.symm,hoa5,hob5,hap5,b15⟩
      case measure=>omega
end Go.Proofs.YtbhdfaadedlcfaaGreatDoor
namespace Go.Proofs.YtbhdfaadedlcfaaGreatDoor
open Go.RowKit
/-- What the document's Object tells: its parents. -/
def ObjQ (S:List StL) (n:Txt) (e:Ending) (w:World):Prop := ∃ X vp,e = .returned (.agg X)∧X.size=72∧X.all (·.oneCell')=true∧X[35]?=some vp∧Ids w vp (parS S n)
theorem docObjQ_calls {w w0:World} {vm:Value} {es:List DiL} (h:DocSt w0 vm es) (hb:Below w0.heap.size w0 w) (n:Txt) (hn:n.length=32):Calls Tryz.prog 17 #[.agg #[vm], .agg (u8s n)] w fun e w'=>ObjQ (es.map (·.st)) n e w0∧Below w.heap.size w w':=by
 refine (docObjectW_calls h hb n hn).mono fun e w' ⟨q1,q2⟩=>⟨?_,q2⟩
 unfold ObjG at q1
 unfold ObjQ
 cases hG:getS (es.map (·.st)) n with
 | none=>
   rw [hG] at q1
   have hp:parS (es.map (·.st)) n=[]:=by unfold parS;rw [objS_none hG]
   rw [hp]
   exact ⟨zObj, .slice none 0 0,q1,zObj_size,zObj_one,by kernel_rfl,SliceAt.nil⟩
 | some x=>
   rw [hG] at q1
   obtain ⟨o,A1,A2,k1,k2,hd,rfl,hv⟩:=q1
   have ho:=objS_some hG hd
   have hp:parS (es.map (·.st)) n=o.pars:=by unfold parS;rw [ho]
   refine ⟨_, .slice A2 o.pars.length k2,rfl,by rw [List.size_toArray,objC_len hv.ok],objC_all o A1 A2 _ k1 _ k2,?_,?_⟩
   ·rw [List.getElem?_toArray];exact (objC_at hv.ok.tree _ _).1
   ·rw [hp];exact hv.pars
def parF (w0:World) (S:List StL) (n:Txt) (v:Value) (_:Foot) (_:World):Prop := ∃ X vp,v = .agg X∧X.size=72∧X.all (·.oneCell')=true∧X[35]?=some vp∧Ids w0 vp (parS S n)
theorem parF_stab (w0:World) (S:List StL) (n:Txt) (v:Value):Stab (parF w0 S n v):=fun _ _ _ _ _ _ h=>h
/-- The parents' field of what is only known by parF. -/
def parsV : Value→Value | .agg xs=>xs.getD 35 undef | _=>undef
theorem parsV_at {X:Array Value} {vp:Value} (h:X[35]?=some vp):parsV (.agg X)=vp:=by
 obtain ⟨h1,h2⟩:=Array.getElem?_eq_some_iff.1 h
 simp [parsV,Array.getD,h1,h2]
section
variable {P:Program} {T:TypeId} {ops:Array Oper} {pres:Pres} {sps:List Sp} {E:Act→Facts→Prop} {i:Nat} {rest:List Oper} {s:Sp} {ss:List Sp} {a:Act} {D:Facts}
theorem lx_fpar (hf : ∀ (X:Array Value) (v:Value),X[35]?=some v → ∀ W,(Instr.field T (.agg X) 4).run P W = .ok v W) {w0:World} {rows:List (Option Nat)} {d:Option Tmp} {rt:TypeId} {pos:String} {af:Array Edge} {x:Operand} (hs:s = .det fun ρ=>parsV (ρ.headD undef)) (h : ∃ v,a.eval x=v∧(∀ w,Far rows w0 w→Have ops pres i D w → ∃ (X:Array Value) (vp:Value),v = .agg X∧X[35]?=some vp)∧LxL P ops w0 rows pres sps E (i+1) rest ss (a.put d (parsV v)) D) :
 LxL P ops w0 rows pres sps E i ({ dst:=d,op := .field T x 4,type:=rt,pos:=pos,after:=af,guard:=none }::rest) (s::ss) a D:=by
 obtain ⟨_,rfl,hc,h⟩:=h
 subst hs
 unfold LxL
 rw [if_pos (by simp [Region.wanted])]
 have hv:parsV ((vals { dst:=d,op := .field T x 4,type:=rt,pos:=pos,after:=af,guard:=none } a).headD undef)=parsV (a.eval x):=rfl
 refine ⟨fun w hw hh=>?_,fun v hv'=>by rw [show v=parsV (a.eval x) from hv'.trans hv];exact h⟩
 obtain ⟨X,vp,hx,hp⟩:=hc w hw hh
 refine does_val (v:=parsV (a.eval x)) ?_ ⟨hv.symm,Below.refl _ _⟩
 unfold execOp
 simp only [hx,hf X vp hp,Sem.run_bind,Sem.run_pure,Result.andThen_ok,parsV_at hp]
end
end Go.Proofs.YtbhdfaadedlcfaaGreatDoor
namespace Go.Proofs.YtbhdfaadedlcfaaGreatDoor
open Go.RowKit
def bldD (fs:Array (Nat×Value)):Sem Value:=Instr.build 55 fs
theorem bldD_eq (fs:Array (Nat×Value)):Instr.build 55 fs=bldD fs:=rfl
attribute [local go_sem ↓] ldvI_eq ldvS_eq bldD_eq
abbrev OwnDdts (w:World) (base:Nat) (v:Value) (l:List DpL):Prop:=w.ownsRow base 55 33 v l.length (rowsOf dptC l)
theorem OwnDdts.at_ {w:World} {base:Nat} {v:Value} {l:List DpL} (hok:DptsOk l) (h:OwnDdts w base v l):Dpts w v l:=SliceAt.of_own (dptK hok) h
/-- A commit's depth; 0: it has none. -/
def atD (D:List DpL) (n:Txt):Nat:=match D.find? fun p=>decide (p.id=n) with
 | some p=>p.n
 | none=>0
theorem atD_drop {D:List DpL} {k:Nat} {x:DpL} (h:D[k]?=some x) (n:Txt):atD (D.drop k) n=if x.id=n then x.n else atD (D.drop (k+1)) n:=by
 obtain ⟨hlt,he⟩:=List.getElem?_eq_some_iff.1 h
 unfold atD
 rw [List.drop_eq_getElem_cons hlt,he,List.find?_cons]
 by_cases hx:x.id=n
 ·simp [hx]
 ·simp [hx]
theorem atD_no {D:List DpL} {n:Txt} (h:inL (D.map DpL.id) n=false):atD D n=0:=by
 unfold atD
 rw [List.find?_eq_none.2 fun p hp hd=>?_]
 have:n∈D.map DpL.id:=List.mem_map.2 ⟨p,hp,by simpa using hd⟩
 rw [inL_iff.2 this] at h
 cases h
theorem atD_mem {D:List DpL} (hI:(D.map DpL.id).Nodup) : ∀ {p:DpL},p∈D→atD D p.id=p.n:=by
 induction D with
 | nil=>intro p hp;cases hp
 | cons q D ih=>
   intro p hp
   unfold atD
   rw [List.find?_cons]
   rcases List.mem_cons.1 hp with rfl | hp
   ·simp
   ·have hq:q.id≠p.id:=fun e=>(List.nodup_cons.1 hI).1 (List.mem_map.2 ⟨p,hp,e.symm⟩)
    simp only [hq,decide_false]
    exact ih (List.nodup_cons.1 hI).2 hp
theorem atD_pos {D:List DpL} (hI:(D.map DpL.id).Nodup) (hp : ∀ p∈D,1≤p.n) {n:Txt} (h:inL (D.map DpL.id) n=true):1≤atD D n:=by
 obtain ⟨p,hpm,rfl⟩:=List.mem_map.1 (inL_iff.1 h)
 rw [atD_mem hI hpm]
 exact hp p hpm
set_option maxRecDepth 100000 in
set_option maxHeartbeats 2000000 in
theorem refAtD_calls (D:List DpL) (hok:DptsOk D) (v:Value) (n:Txt) (hn:n.length=32) (w:World) (hv:Dpts w v D) :
 Calls Tryz.prog 13 #[v, .agg (u8s n)] w fun e w'=>e = .returned (.int .i64 (atD D n))∧Below w.heap.size w w':=by
 obtain ⟨W1,hW1⟩ : ∃ W1,w.alloc (.cells (u8s n) 46)=W1:=⟨_,rfl⟩
 have n1:Blk W1 w.heap.size 46 (u8s n):=by rw [←hW1];exact Blk.new _ _ _
 have b1:Below w.heap.size w W1:=by rw [←hW1];exact (Below.refl _ _).alloc (Nat.le_refl _) _
 have hG0:Hid (atD (D.drop 0) n=atD D n):=rfl
 have lnn:=fun W (hW:Below W1.heap.size W1 W)=>run_ldvI_at (range_blk (n1.below hW n1.lt)) hn
 obtain ⟨A,cap,rfl,hcap1,hcap2,hat⟩:=hv
 generalize atD D n=G at *
 go_enter Tryz.func13,Tryz.ntmps13
 go_wp2
 go_loopg [5] D.length (fun f vi wr => ∃ k:Nat,vi = .int .i64 k∧k+f=D.length∧Hid (atD (D.drop k) n=G)∧Below W1.heap.size W1 wr)
 case atStart=>exact ⟨0,rfl,by omega,hG0,Below.refl _ _⟩
 case round=>
  obtain ⟨k,rfl,hkf,hrel,hbel⟩:=hrel
  clear hW1
  cases gk with
  | succ f=>
    have hki:(k:Int)<(D.length:Int):=by omega
    obtain ⟨ga,oa,rfl,hga,hca⟩:=hat (by omega)
    obtain ⟨x,hx⟩ : ∃ x,D[k]?=some x:=⟨_,List.getElem?_eq_getElem (by omega)⟩
    have hxok:=hok x (List.mem_of_getElem? hx)
    have hxi:=hxok.1
    have hxr:=fun W (hW:Below W1.heap.size W1 W)=>rangeAt_below (hca k x hx) hga (bthen b1 b1.size hW)
    have hlx : ∀ W,Below W1.heap.size W1 W→(ldvI ⟨ga,oa+k*33,none⟩).run Tryz.prog W = .ok (.agg (u8s x.id)) W:=fun W hW=>run_ldvI_at (dptC_id (hxr W hW)) hxi
    have hln : ∀ W,Below W1.heap.size W1 W→W.cell? ⟨ga,oa+k*33+32,none⟩=some (.int .i64 x.n):=fun W hW=>dptC_n hxi (hxr W hW)
    have heq:=fun W=>run_eql_id W x.id n hxi hn
    have hmd:=atD_drop hx n
    obtain ⟨bo,hbo⟩ : ∃ bo,decide (x.id=n)=bo:=⟨_,rfl⟩
    rw [hbo] at heq
    have hmd2:Hid (atD (D.drop k) n=if bo=true then x.n else atD (D.drop (k+1)) n):=Lib.hid (by rw [hmd,←hbo];simp)
    clear hx hca hat hok hbo hmd hxr
    go_upto_region 4 with (fail)
    refine wp_region_go0 7 (by kernel_rfl) (by kernel_rfl) (by kernel_rfl) (by kernel_rfl) ?_
    simp only [exSp]
    iterate 7 apply Exists.intro
    repeat
     first
      | ((with_reducible apply lx0_ex)
         ·(go_simp;done)
         apply Exists.intro
         apply And.intro
         ·apply Eq.refl
         apply And.intro
         ·intro W hW hD
          have hW2:=hbel.trans (hW.mono hbel.size)
          have q0:=lnn W hW2
          have q1:=hlx W hW2
          have q2:=heq W
          go_simp
          first
           | rfl
           | (simp only [Sem.run_bind,run_eqGuard_agg _ _ _ _ _ _ _ Tryz.eqGuardType46,q2,Result.andThen_ok];rfl)
         simp only [Act.put,List.setIfInBounds_toArray,List.set_cons_zero,List.set_cons_succ])
      | ((with_reducible apply lx0_pass)
         ·(first | rfl | (go_simp;done))
         ·apply Eq.refl
         simp only [Act.put,List.setIfInBounds_toArray,List.set_cons_zero,List.set_cons_succ])
    refine lx0_nil ?_ fun w5 hW5 hD5=>?_
    ·exact List.nodup_nil
    clear hD5 heq hlx
    have b5:=hbel.trans (hW5.mono hbel.size)
    have c5:=hln w5 b5
    clear hln
    cases bo with
    | false=>
      have hnext:Hid (atD (D.drop (k+1)) n=G):=Lib.hid (by rw [←hrel.out,hmd2.out,if_neg (by decide)])
      clear hrel hmd2
      go_wp2_with (fail)
      go_roundg f
      case rel=>exact ⟨k+1,by go_num,by omega,hnext,b5⟩
      case measure=>omega
    | true=>
      have hG:Hid (x.n=G):=Lib.hid (by rw [←hrel.out,hmd2.out,if_pos rfl])
      clear hrel hmd2
      go_wp2_with (fail)
      go_ret
      exact ⟨by rw [←hG.out];rfl,bthen b1 b1.size b5⟩
  | zero=>
    have hki : ¬ (k:Int)<(D.length:Int):=by omega
    have hG:Hid (G=0):=Lib.hid (by rw [←hrel.out,List.drop_eq_nil_of_le (by omega)];rfl)
    clear hrel hat
    go_wp2_with (fail)
    go_ret
    exact ⟨by rw [hG.out];rfl,bthen b1 b1.size hbel⟩
theorem preOkR {w:World} {B:Nat} {e:TypeId} {size n i:Nat} {v:Value} {xs:List Value} (h:w.ownsRow B e size v n xs):PreOk w [(i,v.ownBlock,fun w=>World.ownsRow w B e size v n xs)]:=PreOk.cons (PreOk.nil w) (fun q hq=>by simp at hq) (fun k hk=>(World.ownsRow.lt h k hk).2) h fun w' _ hs=>own_same h hs
theorem rowsR {i k:Nat} {row:Option Nat} {p:World→Prop} (h:some k∈rowsOfP [(i,row,p)]):row=some k:=by
 have:some k=row:=by simpa [rowsOfP] using h
 exact this.symm
theorem ownD_snoc {w:World} {B:Nat} {v:Value} {D:List DpL} {x:DpL} (h:w.ownsRow B 55 33 v (D.length+1) (rowsOf dptC D++(dptC x).toArray.toList)):OwnDdts w B v (D++[x]):=by
 unfold OwnDdts
 rw [List.length_append,List.length_singleton,rowsOf_append,rowsOf_one]
 rwa [List.toList_toArray] at h
theorem ddt_cell {w:World} {B ga oa c i:Nat} {D:List DpL} {p:DpL} (hok:DptsOk D) (h:OwnDdts w B (.slice (some ⟨ga,oa,none⟩) D.length c) D) (hp:D[i]?=some p):w.cell? ⟨ga,oa+i*33+32,none⟩=some (.int .i64 p.n):=by
 obtain ⟨A',c',he,_,_,hat⟩:=OwnDdts.at_ hok h
 injection he with e1 _ _
 have hi:=(List.getElem?_eq_some_iff.1 hp).1
 obtain ⟨g,o,e2,_,hc⟩:=hat (by omega)
 rw [e2] at e1
 injection e1 with e1
 injection e1 with e1 e3 _
 subst e1
 subst e3
 exact dptC_n (hok p (List.mem_of_getElem? hp)).1 (hc i p hp)
theorem endsD_snoc {l:List Txt} {k:Nat} {x:Txt} (h:l[k]?=some x):(l.take (k+1)).map (fun x=>(⟨x,1⟩:DpL))=(l.take k).map (fun x=>(⟨x,1⟩:DpL))++[⟨x,1⟩]:=by
 rw [List.take_add_one,h,List.map_append]
 rfl
/-- What the document's loop over its list keeps. -/
structure DOfI (S:List StL) (most:Nat) (R:List DpL) (f i:Nat) (D:List DpL):Prop where
 inv:DptI S D
 ok:DptsOk D
 pos : ∀ p∈D,1≤p.n
 res:docQ S most f i D=R
 fuel:f+i=S.length+1
 le:i≤D.length
theorem DOfI.add {S:List StL} {most n:Nat} {D:List DpL} {x:Txt} (hI:DptI S D) (hok:DptsOk D) (hp : ∀ p∈D,1≤p.n) (hx:x.length=32) (hn:1≤n∧n≤2000000):DptI S (addD S n D x)∧DptsOk (addD S n D x) ∧ ∀ p∈addD S n D x,1≤p.n:=by
 refine ⟨addD_I hI x,?_,?_⟩
 ·intro p hp
  unfold addD at hp
  split at hp
  ·rcases List.mem_append.1 hp with hp | hp
   ·exact hok p hp
   ·rw [List.mem_singleton.1 hp];exact ⟨hx,hn.2⟩
  ·exact hok p hp
 ·intro p hp2
  unfold addD at hp2
  split at hp2
  ·rcases List.mem_append.1 hp2 with hp2 | hp2
   ·exact hp p hp2
   ·rw [List.mem_singleton.1 hp2];exact hn.1
  ·exact hp p hp2
/-- What the document's Of tells. -/
def DOfR (R:List DpL) (B:Nat) (v:Value) (w':World):Prop:=OwnDdts w' B v R∧DptsOk R ∧ ∀ p∈R,1≤p.n
theorem run_bldD (p:DpL) (x:Txt) (hx:x.length=32) (hb:p.n+1≤2000000) (W:World):(bldD #[(0, .agg (u8s x)),(1, .int .i64 (IntKind.i64.wrap ((p.n:Int)+1)))]).run Tryz.prog W = .ok (.agg (dptC ⟨x,p.n+1⟩).toArray) W:=by
 have hw:IntKind.i64.wrap ((p.n:Int)+1)=((p.n+1:Nat):Int):=by rw [IntKind.wrap_i64];omega
 rw [hw]
 exact run_build (P:=Tryz.prog) W _ _ _ (built_ddt x (p.n+1) hx)
section
variable {w:World} {vm:Value} {es:List DiL}
set_option maxRecDepth 100000 in
set_option maxHeartbeats 16000000 in
theorem docOf_calls (h:DocSt w vm es) (ini:List Txt) (hiok : ∀ x∈ini,x.length=32) (hil:ini.length≤800000) (vf:Value) (hvf:Ids w vf ini) (most:Nat) (h1:1≤most) (h2:most≤1048576) :
 Calls Tryz.prog 12 #[.agg #[vm],vf, .int .i64 most] w fun e w' => ∃ v,e = .returned v∧DOfR (depS (es.map (·.st)) most (endsM (es.map (·.st)) ini)) w.heap.size v w'∧Below w.heap.size w w':=by
 obtain ⟨W1,hW1⟩ : ∃ W1,w.alloc (.cells #[vm] 28)=W1:=⟨_,rfl⟩
 have s1:Blk W1 w.heap.size 28 #[vm]:=by rw [←hW1];exact Blk.new _ _ _
 have b1:Below w.heap.size w W1:=by rw [←hW1];exact (Below.refl _ _).alloc (Nat.le_refl _) _
 have hsz1:=b1.size
 have l1:=fun W (hW:Below W1.heap.size W1 W)=>run_ldvS (s1.below hW s1.lt)
 have l11:=l1 W1 (Below.refl _ _)
 have hen:=Lib.hid (docEnds_calls (h.below b1) ini hiok hil vf (hvf.below b1))
 have hob:=fun W (hW:Below w.heap.size w W) (n:Txt) (hn:n.length=32)=>docObjQ_calls h hW n hn
 have hki:=fun W (hW:Below w.heap.size w W) (n:Txt) (hn:n.length=32)=>docKind_calls (h.below hW) n hn
 have hSl:es.length≤500000:=h.few
 obtain ⟨S,hS⟩ : ∃ S,es.map (·.st)=S:=⟨_,rfl⟩
 have hel:es.length=S.length:=by rw [←hS,List.length_map]
 rw [hS] at hen
 simp only [hS] at hob hki ⊢
 rw [hel] at hSl
 have hone:=ends_ones (S:=S) ini
 have hstart:DOfI S most (depS S most (endsM S ini)) (S.length+1) 0 (addL S 1 [] (endsM S ini)):=by
  have hE : ∀ l:List Txt,(∀ x∈l,x.length=32) → ∀ D:List DpL,DptI S D→DptsOk D→(∀ p∈D,1≤p.n)→DptI S (addL S 1 D l)∧DptsOk (addL S 1 D l) ∧ ∀ p∈addL S 1 D l,1≤p.n:=fun l=>by
   induction l with
   | nil=>exact fun _ D a b c=>⟨a,b,c⟩
   | cons x l ih=>
     intro hx D a b c
     obtain ⟨a',b',c'⟩:=DOfI.add (most:=most) (n:=1) a b c (hx x List.mem_cons_self) (by omega)
     exact ih (fun y hy=>hx y (List.mem_cons_of_mem _ hy)) _ a' b' c'
  obtain ⟨a,b,c⟩:=hE _ (endsM_ok hiok) [] DptI.nil (fun x hx=>by cases hx) (fun x hx=>by cases hx)
  exact ⟨a,b,c,rfl,rfl,Nat.zero_le _⟩
 rw [hone] at hstart
 obtain ⟨R,hR⟩ : ∃ R,depS S most (endsM S ini)=R:=⟨_,rfl⟩
 rw [hR] at hstart ⊢
 obtain ⟨EL,hEL⟩ : ∃ EL,endsL S ini=EL:=⟨_,rfl⟩
 rw [hEL] at hen hstart
 have hEl:EL.length≤500000:=by
  have h3:=hstart.inv.len
  rw [List.length_map] at h3
  omega
 clear hS h s1 hel hvf hil hone hR hEL
 go_enter Tryz.func12,Tryz.ntmps12
 go_wp2_with (first
  | ((with_reducible refine hen.out.mono ?_);rintro e w2 ⟨ve,rfl,hoe,heok,hb2⟩
     obtain ⟨Ae,ce,rfl⟩:=own_form' hoe))
 have hb12:=hb2
 obtain ⟨A',c',he,_,_,hat⟩:=SliceAt.of_own (idsK heok) hoe
 injection he with e1 _ e3
 subst e1
 subst e3
 have hd0:OwnDdts w2 w2.heap.size (.slice none 0 0) []:=World.ownsRow_nil _ _ _ _
 have hfinE:EL.take EL.length=EL:=List.take_length
 clear hen l11 hoe
 go_loopg [7,9] EL.length (fun f v7 v9 wr => ∃ (vo:Value) (k:Nat) (E:List DpL),vo=v7∧v9 = .int .i64 k∧k+f=EL.length∧Hid (E=(EL.take k).map fun x=>(⟨x,1⟩:DpL))∧E.length≤k∧OwnDdts wr w2.heap.size vo E∧Below w2.heap.size w2 wr)
 case atStart=>exact ⟨_,0,[],rfl,rfl,by omega,Lib.hid rfl,Nat.zero_le _,hd0,Below.refl _ _⟩
 case round=>
  obtain ⟨vo,k,E,rfl,rfl,hkf,hE,hEk,hown,hbel⟩:=hrel
  have hbs:=hbel.size
  obtain ⟨Ao,co,rfl⟩:=own_form' hown
  cases gk with
  | succ f=>
    have hki':(k:Int)<(EL.length:Int):=by omega
    obtain ⟨ga,oa,rfl,hga,hca⟩:=hat (by omega)
    obtain ⟨x,hx⟩ : ∃ x,EL[k]?=some x:=⟨_,List.getElem?_eq_getElem (by omega)⟩
    have hxi:=heok x (List.mem_of_getElem? hx)
    have hlx:(ldvI ⟨ga,oa+k*32,none⟩).run Tryz.prog wr = .ok (.agg (u8s x)) wr:=run_ldvI_at (show World.rangeAt wr ga (oa+k*32) (u8s x).toList from rangeAt_below (hca k x hx) hga hbel) hxi
    have hbd:=built_ddt x 1 hxi
    have hsn:=Lib.hid (endsD_snoc hx)
    have hD33:(dptC ⟨x,1⟩).toArray.size=33:=by rw [List.size_toArray];exact dptC_len ⟨hxi,by show 1≤2000000;omega⟩
    have hD133:(dptC ⟨x,1⟩).toArray.size=1*33:=hD33
    have hD1:=dptC_all ⟨x,1⟩
    have hE2:Hid (E++[⟨x,1⟩]=(EL.take (k+1)).map fun x=>(⟨x,1⟩:DpL)):=Lib.hid (by rw [hsn.out,←hE.out])
    have hEk2:(E++[(⟨x,1⟩:DpL)]).length≤k+1:=by rw [List.length_append,List.length_singleton];omega
    have hAk:E.length+1≤9223372036854775807:=by omega
    have hAb:(E.length+1)*40≤140737488355328:=by omega
    obtain ⟨DC,hDC⟩ : ∃ DC,(dptC ⟨x,1⟩).toArray=DC:=⟨_,rfl⟩
    obtain ⟨XC,hXC⟩ : ∃ XC,u8s x=XC:=⟨_,rfl⟩
    rw [hDC] at hbd hD33 hD133 hD1
    rw [hXC] at hbd hlx
    replace hDC:=Lib.hid hDC
    clear hXC hx hca hat hE hsn hd0 hfinE hob hki
    go_wp2_with (first
     | ((with_reducible refine lit_build2 hbd ?_ ?_ ?_);rfl;rfl)
     | ((with_reducible refine lit_slice1 (.tmp 27) Tryz.ddtTy DC hD33 (by omega) ?_ ?_);rfl)
     | ((with_reducible refine lit_append_new (.tmp 22) (.tmp 28) 1 _ Tryz.ddtTy hown DC hD133 hD1 hAk hAb hbs ?_ ?_ ?_);rfl;rfl
        intro v5 w5 ho5 hb5 _ _))
    have o5:OwnDdts w5 w2.heap.size v5 (E++[⟨x,1⟩]):=ownD_snoc (by rw [hDC.out];exact ho5)
    have b5:=hbel.trans hb5
    clear ho5 hown
    go_roundg f
    case rel=>exact ⟨_,k+1,_,rfl,by go_num,by omega,hE2,hEk2,o5,b5⟩
    case measure=>omega
  | zero=>
    have hki' : ¬ (k:Int)<(EL.length:Int):=by omega
    obtain rfl:k=EL.length:=by omega
    have hE3:=hE.out
    rw [hfinE] at hE3
    rw [←hE3] at hstart
    have hb02:=bthen b1 hsz1 hb2
    have hz2:=hb2.size
    clear hat hd0 hfinE heok hki' hkf hE hE3 hEk
    go_wp2_with (fail)
    go_loopg [7,10] (S.length+1) (fun f v7 v10 wr => ∃ (vo:Value) (i:Nat) (D:List DpL),vo=v7∧v10 = .int .i64 i∧DOfI S most R f i D∧OwnDdts wr w2.heap.size vo D∧Below w2.heap.size w2 wr)
    case atStart=>exact ⟨_,0,_,rfl,rfl,hstart,hown,hbel⟩
    case round=>
     clear hstart hown hbel hbs
     obtain ⟨vo,i,D,rfl,rfl,hr,hown,hbel⟩:=hrel
     have hbs:=hbel.size
     have hlen:=hr.inv.len
     obtain ⟨Ao,co,rfl⟩:=own_form' hown
     by_cases hi:i<D.length
     ·have hii:(i:Int)<(D.length:Int):=by omega
      obtain ⟨f,rfl⟩ : ∃ f,gk=f+1:=⟨gk-1,by have:=hr.fuel;omega⟩
      obtain ⟨p,hp⟩ : ∃ p,D[i]?=some p:=⟨_,List.getElem?_eq_getElem hi⟩
      have hpm:=List.mem_of_getElem? hp
      have hpok:=hr.ok p hpm
      have hpi:=hpok.1
      have hgo:Hid (docQ S most f (i+1) (if p.n<most then addL S (p.n+1) D (parS S p.id) else D)=R):=Lib.hid (by rw [←doc_go hp];exact hr.res)
      obtain ⟨A',c',he,_,_,hat⟩:=OwnDdts.at_ hr.ok hown
      injection he with e1 _ e3
      subst e1
      subst e3
      obtain ⟨ga,oa,rfl,hga,hca⟩:=hat (by omega)
      have hpr:=fun W (hW:Below wr.heap.size wr W)=>rangeAt_below (hca i p hp) hga hW
      have hlp : ∀ W,Below wr.heap.size wr W→(ldvI ⟨ga,oa+i*33,none⟩).run Tryz.prog W = .ok (.agg (u8s p.id)) W:=fun W hW=>run_ldvI_at (dptC_id (hpr W hW)) hpi
      have bw:=fun W (hW:Below wr.heap.size wr W)=>bthen hb02 hb02.size (bthen hbel hbs hW)
      have lSr:=fun W (hW:Below wr.heap.size wr W)=>l1 W (bthen hb12 hz2 (bthen hbel hbs hW))
      have hobp:=fun W (hW:Below wr.heap.size wr W)=>hob W (bw W hW) p.id hpi
      have hfld:=fun (X:Array Value) (v:Value) (h:X[35]?=some v) W=>run_field_pars h W
      obtain ⟨hps1,hps2⟩:=par_small S p.id
      clear hat hca hpr hob
      go_upto_region 10 with (fail)
      refine wp_region_go0 9 (by kernel_rfl) (by kernel_rfl) (by kernel_rfl) (by kernel_rfl) ?_
      simp only [exSp]
      iterate 9 apply Exists.intro
      repeat
       first
        | ((with_reducible apply lx0_ex)
           ·(go_simp;done)
           apply Exists.intro
           apply And.intro
           ·apply Eq.refl
           apply And.intro
           ·intro W hW hD
            have q0:=lSr W hW
            have q1:=hlp W hW
            go_simp
            rfl
           simp only [Act.put,List.setIfInBounds_toArray,List.set_cons_zero,List.set_cons_succ])
        | ((with_reducible apply lx0_pass)
           ·(first | rfl | (go_simp;done))
           ·apply Eq.refl
           simp only [Act.put,List.setIfInBounds_toArray,List.set_cons_zero,List.set_cons_succ])
        | ((with_reducible refine lx0_new (parF w S p.id) rfl ?_ (parF_stab _ _ _) ?_ ?_)
           ·(go_simp;done)
           ·intro W hW hD
            unfold doesAt Oper.wp execOp
            go_simp
            (with_reducible refine (hobp W hW).mono ?_)
            rintro e w' ⟨⟨X,vp,rfl,h1,h2,h3,h4⟩,hb⟩
            exact ⟨hb,fun _ _ _ _=>⟨X,vp,rfl,h1,h2,h3,h4⟩⟩
           intro v
           simp only [Act.put,List.setIfInBounds_toArray,List.set_cons_zero,List.set_cons_succ])
        | ((with_reducible apply lx_fpar hfld)
           ·apply Eq.refl
           apply Exists.intro
           apply And.intro
           ·(go_simp;rfl)
           refine ⟨fun W hW hD=>?_,?_⟩
           ·obtain ⟨F,X,vp,rfl,_,_,h3,_⟩:=hD.at 0 rfl (by kernel_rfl)
            exact ⟨X,vp,rfl,h3⟩
           simp only [Act.put,List.setIfInBounds_toArray,List.set_cons_zero,List.set_cons_succ])
        | (first | (with_reducible apply lx_move') | (with_reducible apply lx_assign')
           ·apply Eq.refl
           apply Exists.intro
           apply And.intro
           ·(go_simp;rfl)
           simp only [Act.put,List.setIfInBounds_toArray,List.set_cons_zero,List.set_cons_succ])
      refine lx0_nil ?_ fun w5 hW5 hD5=>?_
      ·exact List.nodup_nil
      obtain ⟨_,X,vp,rfl,hX72,hX1,hXp,hvp⟩:=hD5 _ (.head _)
      rw [parsV_at hXp]
      have b5:=bthen hbel hbs hW5
      have hown5:=own_below hown hW5
      have bw5:=bthen (bthen hb02 hb02.size hbel) (bthen hb02 hb02.size hbel).size hW5
      obtain ⟨Avp,cvp,rfl,hvp1,hvp2,hatv⟩:=hvp
      clear hobp hlp lSr bw hD5 hown hfld
      have hz5:=b5.size
      obtain ⟨PS,hPS⟩ : ∃ PS,parS S p.id=PS:=⟨_,rfl⟩
      rw [hPS] at hps1 hps2 hgo hvp1 hatv
      simp only [hPS] at hatv ⊢
      by_cases hn:p.n<most
      ·have hni:(p.n:Int)<(most:Int):=by omega
       rw [if_pos hn] at hgo
       go_wp2_with (fail)
       go_loopg [7,12] PS.length (fun f3 v7 v12 wr => ∃ (vo:Value) (k:Nat) (D3:List DpL),vo=v7∧v12 = .int .i64 k∧k+f3=PS.length∧D3=addL S (p.n+1) D (PS.take k)∧DptI S D3∧DptsOk D3∧(∀ p∈D3,1≤p.n)∧D3[i]?=some p∧OwnDdts wr w2.heap.size vo D3∧Below w2.heap.size w2 wr)
       case atStart=>exact ⟨_,0,D,rfl,rfl,by omega,rfl,hr.inv,hr.ok,hr.pos,hp,hown5,hbel.trans (hW5.mono hbs)⟩
       case round=>
        have hfu:=hr.fuel
        clear hown5 b5 bw5 hW5 hr hbel hbs hga
        obtain ⟨vo,k,D3,rfl,rfl,hkf,hD3,hI3,hok3,hpos3,hp3,hown3,hbel⟩:=hrel
        have hbs:=hbel.size
        have hl3:=hI3.len
        have hi3:=(List.getElem?_eq_some_iff.1 hp3).1
        have hii3:(i:Int)<(D3.length:Int):=by omega
        obtain ⟨A3,c3,rfl⟩:=own_form' hown3
        cases gk with
        | zero=>
          have hki3 : ¬ (k:Int)<(PS.length:Int):=by omega
          have hke:PS.take k=PS:=List.take_of_length_le (by omega)
          rw [hke] at hD3
          have hnx:DOfI S most R f (i+1) D3:=⟨hI3,hok3,hpos3,by rw [hD3];exact hgo.out,by omega,by omega⟩
          clear hgo hD3 hI3 hok3 hpos3 hp3 hatv hki
          go_wp2_with (fail)
          go_roundg f
          case rel=>exact ⟨_,i+1,D3,rfl,by go_num,hnx,hown3,hbel⟩
          case measure=>omega
        | succ f3=>
          have hki3:(k:Int)<(PS.length:Int):=by omega
          obtain ⟨gp,op_,rfl,hgp,hcp⟩:=hatv (by omega)
          obtain ⟨x,hx⟩ : ∃ x,PS[k]?=some x:=⟨_,List.getElem?_eq_getElem (by omega)⟩
          have hxi:=hps2 x (List.mem_of_getElem? hx)
          have hA3 : ∃ g o,A3=some ⟨g,o,none⟩:=by
           obtain ⟨A',c',he,_,_,hat⟩:=OwnDdts.at_ hok3 hown3
           injection he with e1 _ _
           obtain ⟨g,o,e2,_⟩:=hat (by omega)
           exact ⟨g,o,e1.trans e2⟩
          obtain ⟨g3,o3,rfl⟩:=hA3
          have bww:=fun W (hW:Below w2.heap.size wr W)=>bthen hb02 hb02.size (hbel.trans hW)
          have hlx:=fun W (hW:Below w2.heap.size wr W)=>run_ldvI_at (show World.rangeAt W gp (op_+k*32) (u8s x).toList from rangeAt_below (hcp k x hx) hgp (bww W hW)) hxi
          have hlx0:=hlx wr (Below.refl _ _)
          have hN:=fun W (h:OwnDdts W w2.heap.size (.slice (some ⟨g3,o3,none⟩) D3.length c3) D3)=>ddt_cell hok3 h hp3
          have hN0:=hN wr hown3
          have hatx:=fun W (hW:Below wr.heap.size wr W)=>refAtD_calls D3 hok3 _ x hxi W (OwnDdts.at_ hok3 (own_below hown3 hW))
          have hkx:=fun W (hW:Below wr.heap.size wr W)=>hki W (bww W (hW.mono hbs)) x hxi
          have lSr:=fun W (hW:Below wr.heap.size wr W)=>l1 W (bthen hb12 hz2 (hbel.trans (hW.mono hbs)))
          have hadd:=DOfI.add (most:=most) (n:=p.n+1) hI3 hok3 hpos3 hxi ⟨by omega,by omega⟩
          have hmore:addL S (p.n+1) D (PS.take (k+1))=addD S (p.n+1) D3 x:=by rw [addL_more hx,←hD3]
          clear hx hcp hatv hki hok3 hD3
          cases hin:inL (D3.map DpL.id) x with
          | true=>
            have hz:=atD_pos hI3.nd hpos3 hin
            obtain ⟨N,hNe⟩ : ∃ N,atD D3 x=N:=⟨_,rfl⟩
            rw [hNe] at hz
            simp only [hNe] at hatx
            have hz0 : ¬ (N:Int)=0:=by omega
            have hz1:((N:Int)==0)=false:=by simp;omega
            rw [addD_no (.inl hin)] at hadd hmore
            replace hmore:=Lib.hid hmore
            clear hin hNe hkx hz
            go_upto_region 14 with (fail)
            refine wp_region_class (C:=fun W=>Below wr.heap.size wr W) (by kernel_rfl) (by kernel_rfl) (Below.refl _ _).drew ?_
            repeat
             first
              | ((with_reducible refine wpQuiet_ex ?_ ?_)
                 ·(go_simp;done)
                 apply Exists.intro
                 refine ⟨fun W hW=>?_,?_⟩
                 ·first
                   | (have q1:=hlx W (hW.mono hbs)
                      have q2:=bel_keepG hW (hatx W hW)
                      go_simp
                      first
                       | rfl
                       | (with_reducible exact q2))
                 simp only [Act.put,List.setIfInBounds_toArray,List.set_cons_zero,List.set_cons_succ])
              | ((with_reducible refine wpQuiet_pass ?_ ?_)
                 ·(first | rfl | (go_simp;done))
                 simp only [Act.put,List.setIfInBounds_toArray,List.set_cons_zero,List.set_cons_succ])
            with_reducible refine wpQuiet_nil ?_
            intro w7 hW7
            have b7:=hbel.trans (hW7.mono hbs)
            have hown7:=own_below hown3 hW7
            clear hlx hlx0 hN hN0 hatx lSr bww hown3 hpos3 hI3
            go_wp2_with (fail)
            go_roundg f3
            case rel=>exact ⟨_,k+1,D3,rfl,by go_num,by omega,hmore.out.symm,hadd.1,hadd.2.1,hadd.2.2,hp3,hown7,b7⟩
            case measure=>omega
          | false=>
            have hz:=atD_no hin
            simp only [hz] at hatx
            by_cases hk3:kindS S x=3
            ·rw [addD_yes hin hk3] at hadd hmore
             simp only [hk3] at hkx
             replace hmore:=Lib.hid hmore
             have hbl:p.n+1≤2000000:=by omega
             have hbd:=fun W=>run_bldD p x hxi hbl W
             have hnum:(p.n:Int)+1≤2000000:=by omega
             have hD33:(dptC ⟨x,p.n+1⟩).toArray.size=33:=by rw [List.size_toArray];exact dptC_len ⟨hxi,hbl⟩
             have hD1:=dptC_all ⟨x,p.n+1⟩
             have hAk:D3.length+1≤9223372036854775807:=by omega
             have hAb:(D3.length+1)*40≤140737488355328:=by omega
             clear hin hz hk3
             go_upto_region 14 with (fail)
             refine wp_region_class (C:=fun W=>Below wr.heap.size wr W) (by kernel_rfl) (by kernel_rfl) (Below.refl _ _).drew ?_
             repeat
              first
               | ((with_reducible refine wpQuiet_ex ?_ ?_)
                  ·(go_simp;done)
                  apply Exists.intro
                  refine ⟨fun W hW=>?_,?_⟩
                  ·first
                    | (have q0:=lSr W hW
                       have q1:=hlx W (hW.mono hbs)
                       have q2:=bel_keepG hW (hatx W hW)
                       have q3:=bel_keepG hW (hkx W hW)
                       go_simp
                       first
                        | rfl
                        | (with_reducible exact q2)
                        | (with_reducible exact q3))
                  simp only [Act.put,List.setIfInBounds_toArray,List.set_cons_zero,List.set_cons_succ])
               | ((with_reducible refine wpQuiet_pass ?_ ?_)
                  ·(first | rfl | (go_simp;done))
                  simp only [Act.put,List.setIfInBounds_toArray,List.set_cons_zero,List.set_cons_succ])
             with_reducible refine wpQuiet_nil ?_
             intro w7 hW7
             have hown7:=own_below hown3 hW7
             have hsz7:=Nat.le_trans hbs hW7.size
             have hlx7:=fun W (hW:Below w2.heap.size w7 W)=>hlx W ((hW7.mono hbs).trans hW)
             have b7:=hbel.trans (hW7.mono hbs)
             have hp3':(D3++[(⟨x,p.n+1⟩:DpL)])[i]?=some p:=by rw [List.getElem?_append_left hi3];exact hp3
             obtain ⟨DC,hDC⟩ : ∃ DC,(dptC ⟨x,p.n+1⟩).toArray=DC:=⟨_,rfl⟩
             rw [hDC] at hD33 hD1
             simp only [hDC] at hbd
             replace hDC:=Lib.hid hDC
             obtain ⟨XC,hXC⟩ : ∃ XC,u8s x=XC:=⟨_,rfl⟩
             simp only [hXC] at hbd hlx7
             have hpre:=preOkR (i:=13) hown7
             have hrB : ∀ k,some k∈rowsOfP [(13,(Value.slice (some ⟨g3,o3,none⟩) D3.length c3).ownBlock,fun w=>World.ownsRow w w2.heap.size 55 33 (.slice (some ⟨g3,o3,none⟩) D3.length c3) D3.length (rowsOf dptC D3))]→w2.heap.size≤k:=fun k hk=>(World.ownsRow.lt hown7 k (rowsR hk)).1
             clear hlx hlx0 hN0 hatx lSr bww hown3 hpos3 hI3 hkx hXC
             go_upto_region 15 with (fail)
             refine wp_region_goP 15 [(13,(Value.slice (some ⟨g3,o3,none⟩) D3.length c3).ownBlock,fun w=>World.ownsRow w w2.heap.size 55 33 (.slice (some ⟨g3,o3,none⟩) D3.length c3) D3.length (rowsOf dptC D3))] hpre (by kernel_rfl) (by kernel_rfl) (by kernel_rfl) (by kernel_rfl) ?_
             simp only [exSp]
             iterate 15 apply Exists.intro
             repeat
              first
               | ((with_reducible apply lx_ex)
                  ·(go_simp;done)
                  apply Exists.intro
                  apply And.intro
                  ·apply Eq.refl
                  apply And.intro
                  ·intro W hF hD
                   first
                    | (have hf:=(far_drew hF).below hsz7 hrB
                       have q1:=hlx7 W hf
                       have q2:=hN W (hD.was 0 rfl (by kernel_rfl))
                       go_simp
                       rfl)
                    | (have hf:=(far_drew hF).below hsz7 hrB
                       have q1:=hlx7 W hf
                       have q3:=hbd W
                       go_simp
                       rfl)
                    | (have hf:=(far_drew hF).below hsz7 hrB
                       have q1:=hlx7 W hf
                       go_simp
                       rfl)
                  simp only [Act.put,List.setIfInBounds_toArray,List.set_cons_zero,List.set_cons_succ])
               | ((with_reducible apply lx_pass)
                  ·(first | rfl | (go_simp;done))
                  ·apply Eq.refl
                  simp only [Act.put,List.setIfInBounds_toArray,List.set_cons_zero,List.set_cons_succ])
               | (first | (with_reducible apply lx_move') | (with_reducible apply lx_assign')
                  ·apply Eq.refl
                  apply Exists.intro
                  apply And.intro
                  ·(go_simp;rfl)
                  simp only [Act.put,List.setIfInBounds_toArray,List.set_cons_zero,List.set_cons_succ])
               | ((with_reducible apply lx_slice1 Tryz.ddtTy (fun cs=>cs=DC) (by omega))
                  ·apply Eq.refl
                  apply Exists.intro
                  apply And.intro
                  ·(go_simp;rfl)
                  refine ⟨fun W hF hD=>?_,?_⟩
                  ·exact ⟨DC,rfl,hD33,rfl⟩
                  intro v
                  simp only [Act.put,List.setIfInBounds_toArray,List.set_cons_zero,List.set_cons_succ])
               | ((with_reducible apply lx_append1 Tryz.ddtTy w2.heap.size (.slice (some ⟨g3,o3,none⟩) D3.length c3) D3.length (rowsOf dptC D3) (fun xs=>xs=rowsOf dptC D3++DC.toList) hAk hAb)
                  ·exact hsz7
                  ·first | exact List.Mem.head _ | exact List.Mem.tail _ (List.Mem.head _) | exact List.Mem.tail _ (List.Mem.tail _ (List.Mem.head _)) | exact List.Mem.tail _ (List.Mem.tail _ (List.Mem.tail _ (List.Mem.head _)))
                  ·apply Eq.refl
                  apply Exists.intro
                  apply Exists.intro
                  apply And.intro
                  ·(go_simp;rfl)
                  apply And.intro
                  ·(go_simp;rfl)
                  refine ⟨rfl,fun W hF hD=>?_,?_⟩
                  ·obtain ⟨F,g5,cs,rfl,_,hk5,rfl⟩:=hD.at 0 rfl (by kernel_rfl)
                   exact ⟨g5,_,rfl,hk5,hD33,hD1,rfl⟩
                  intro v
                  simp only [Act.put,List.setIfInBounds_toArray,List.set_cons_zero,List.set_cons_succ])
             refine lxP_nil ?_ fun w8 hF8 hD8=>?_
             ·exact List.nodup_nil
             obtain ⟨_,xs,rfl,hv8,_⟩:=hD8 _ (.head _)
             have b8:=b7.trans (hF8.below hsz7 hrB)
             have hown8:=ownD_snoc (x:=⟨x,p.n+1⟩) (by rw [hDC.out];exact hv8)
             clear hv8 hD8 hF8 hpre hrB hown7 hlx7 hN hbd hW7
             go_wp2_with (fail)
             go_roundg f3
             case rel=>exact ⟨_,k+1,_,rfl,by go_num,by omega,hmore.out.symm,hadd.1,hadd.2.1,hadd.2.2,hp3',hown8,b8⟩
             case measure=>omega
            ·rw [addD_no (.inr hk3)] at hadd hmore
             replace hmore:=Lib.hid hmore
             obtain ⟨K,hK⟩ : ∃ K,kindS S x=K:=⟨_,rfl⟩
             rw [hK] at hk3
             simp only [hK] at hkx
             have hk31:(K==3)=false:=by simp [hk3]
             clear hin hz hK
             go_upto_region 14 with (fail)
             refine wp_region_class (C:=fun W=>Below wr.heap.size wr W) (by kernel_rfl) (by kernel_rfl) (Below.refl _ _).drew ?_
             repeat
              first
               | ((with_reducible refine wpQuiet_ex ?_ ?_)
                  ·(go_simp;done)
                  apply Exists.intro
                  refine ⟨fun W hW=>?_,?_⟩
                  ·first
                    | (have q0:=lSr W hW
                       have q1:=hlx W (hW.mono hbs)
                       have q2:=bel_keepG hW (hatx W hW)
                       have q3:=bel_keepG hW (hkx W hW)
                       go_simp
                       first
                        | rfl
                        | (with_reducible exact q2)
                        | (with_reducible exact q3))
                  simp only [Act.put,List.setIfInBounds_toArray,List.set_cons_zero,List.set_cons_succ])
               | ((with_reducible refine wpQuiet_pass ?_ ?_)
                  ·(first | rfl | (go_simp;done))
                  simp only [Act.put,List.setIfInBounds_toArray,List.set_cons_zero,List.set_cons_succ])
             with_reducible refine wpQuiet_nil ?_
             intro w7 hW7
             have b7:=hbel.trans (hW7.mono hbs)
             have hown7:=own_below hown3 hW7
             clear hlx hlx0 hN hN0 hatx lSr bww hown3 hpos3 hI3 hkx
             go_wp2_with (fail)
             go_roundg f3
             case rel=>exact ⟨_,k+1,D3,rfl,by go_num,by omega,hmore.out.symm,hadd.1,hadd.2.1,hadd.2.2,hp3,hown7,b7⟩
             case measure=>omega
      ·have hni : ¬ (p.n:Int)<(most:Int):=by omega
       rw [if_neg hn] at hgo
       have hnx:DOfI S most R f (i+1) D:=⟨hr.inv,hr.ok,hr.pos,hgo.out,by have:=hr.fuel;omega,by omega⟩
       have hN:=fun W (h:OwnDdts W w2.heap.size (.slice (some ⟨ga,oa,none⟩) D.length co) D)=>ddt_cell hr.ok h hp
       have b25:=hbel.trans (hW5.mono hbs)
       clear hgo hr hp hatv hki
       go_wp2_with (fail)
       go_loopg [7,12] 0 (fun f3 v7 v12 wr=>v7 = .slice (some ⟨ga,oa,none⟩) D.length co∧v12 = .int .i64 0∧Below w5.heap.size w5 wr)
       case atStart=>exact ⟨rfl,rfl,Below.refl _ _⟩
       case round=>
        obtain ⟨rfl,rfl,hb6⟩:=hrel
        have hown6:=own_below hown5 hb6
        have hN6:=hN _ hown6
        have b6:=b25.trans (hb6.mono (Nat.le_trans hbs hW5.size))
        clear hN hown5
        by_cases hps0:0<PS.length
        ·have hpi0:(0:Int)<(PS.length:Int):=by omega
         go_wp2_with (fail)
         go_roundg f
         case rel=>exact ⟨_,i+1,D,rfl,by go_num,hnx,hown6,b6⟩
         case measure=>omega
        ·have hpi0 : ¬ (0:Int)<(PS.length:Int):=by omega
         go_wp2_with (fail)
         go_roundg f
         case rel=>exact ⟨_,i+1,D,rfl,by go_num,hnx,hown6,b6⟩
         case measure=>omega
     ·have hii : ¬ (i:Int)<(D.length:Int):=by omega
      have hre:=hr.res
      rw [doc_end (by omega)] at hre
      subst hre
      have hres:DOfR D w.heap.size (.slice Ao D.length co) wr:=⟨own_low' hown hb02.size,hr.ok,hr.pos⟩
      have hb:=bthen hb02 hb02.size hbel
      clear hr hob hki hown
      go_wp2_with (fail)
      go_ret
      exact ⟨_,rfl,hres,hb⟩
end
end Go.Proofs.YtbhdfaadedlcfaaGreatDoor
