/- The walk of the statement Sha256Writes (layer 2). Condition: the table of constants is as the program laid it. -/
import Derived.Test.YtmgijjfjldkgaaaDoorShaM
import Derived.Test.YtmgijjfjldkgaaaDoorQuiet
namespace Go.Proofs.YtmgijjfjldkgaaaDoor
open Go.RowKit

/-- What lies there while the last test is made. -/
structure WKeep (w : World) (g3 g4 gx gy gz : Nat) (a b u : List UInt8) (w' : World) : Prop where
  b3 : Blk w' g3 24 (u8s a)
  b4 : Blk w' g4 24 (u8s b)
  bx : Blk w' gx 24 (u8s u)
  by_ : Blk w' gy 24 (u8s u)
  bz : Blk w' gz 24 (u8s a)
  bel : Below w.heap.size w w'
  tab : TabK w'
  la : a.length = 32
  lb : b.length = 32
  lu : u.length = 32
theorem WKeep.drew {w : World} {g3 g4 gx gy gz : Nat} {a b u : List UInt8} {w' : World} (h : WKeep w g3 g4 gx gy gz a b u w') : WKeep w g3 g4 gx gy gz a b u w'.drew :=
  ⟨h.b3, h.b4, h.bx, h.by_, h.bz, h.bel.drew, ⟨h.tab.pos, h.tab.at_⟩, h.la, h.lb, h.lu⟩
theorem WKeep.below {w : World} {g3 g4 gx gy gz : Nat} {a b u : List UInt8} {w' w'' : World} (h : WKeep w g3 g4 gx gy gz a b u w') (hb : Below w'.heap.size w' w'') : WKeep w g3 g4 gx gy gz a b u w'' :=
  ⟨h.b3.below hb h.b3.lt, h.b4.below hb h.b4.lt, h.bx.below hb h.bx.lt, h.by_.below hb h.by_.lt, h.bz.below hb h.bz.lt, bthen h.bel h.bel.size hb, h.tab.below hb, h.la, h.lb, h.lu⟩
theorem keepW {w : World} {g3 g4 gx gy gz : Nat} {a b u : List UInt8} {f : FuncId} {args : Array Value} {v : Value} {w0 : World}
    (h : ∀ W : World, TabK W → Calls Tryd.prog f args W fun e w' => e = .returned v ∧ Below W.heap.size W w') (hS : WKeep w g3 g4 gx gy gz a b u w0) :
    Calls Tryd.prog f args w0 fun e w' => e = .returned v ∧ WKeep w g3 g4 gx gy gz a b u w' :=
  (h w0 hS.tab).mono fun _ _ ⟨he, hb⟩ => ⟨he, hS.below hb⟩
set_option maxRecDepth 100000 in
set_option maxHeartbeats 2000000 in
theorem writes_calls (a b s : List UInt8) (ha : a.length = 32) (hb : b.length = 32) (hs : s.length ≤ 9223372036854775807) (w : World) (hK : TabK w) :
    Calls Tryd.prog 5 #[.agg (u8s a), .agg (u8s b), .string (B s)] w fun e w' => e = .returned (.bool true) ∧ Below w.heap.size w w' := by
  have h0 : Blk ((w.alloc (.cells (u8s a) 24)).alloc (.cells (u8s b) 24)) w.heap.size 24 (u8s a) := (Blk.new w _ _).alloc _
  have h1 : Blk ((w.alloc (.cells (u8s a) 24)).alloc (.cells (u8s b) 24)) (w.heap.size + 1) 24 (u8s b) := blk_at2 _ _ _ _
  have hbel : Below w.heap.size w ((w.alloc (.cells (u8s a) 24)).alloc (.cells (u8s b) 24)) := ((Below.refl _ _).alloc (Nat.le_refl _) _).alloc (by simp) _
  have hs3 : w.heap.size + 1 < ((w.alloc (.cells (u8s a) 24)).alloc (.cells (u8s b) 24)).heap.size := h1.lt
  go_enter Tryd.func5, Tryd.ntmps5
  by_cases h2 : s.length ≤ 200
  · have h2i : ¬ (200 : Int) < (s.length : Int) := by omega
    obtain ⟨u, hu⟩ : ∃ u, unhexOr s = u := ⟨_, rfl⟩
    have lu : u.length = 32 := by rw [← hu]; exact unhexOr_length s
    obtain ⟨q, hq⟩ : ∃ q, isHex s = q := ⟨_, rfl⟩
    have hun := fun W => Lib.hid (unhex_calls s hs W)
    have hru := fun W => Lib.hid (refUnhex_calls s hs W)
    rw [hu, hq] at hun hru
    clear hu hq
    have hback := unhex_hex a ha
    have hbk2 : unhexOr (hexOf a) = a := by rw [unhexOr, hback.1]; exact hback.2
    have hlx : (hexOf a).length = 64 := by rw [hexOf_length, ha]
    have hua := fun W => Lib.hid (unhex_calls (hexOf a) (by omega) W)
    rw [hbk2, hback.1] at hua
    have hhx := fun W => Lib.hid (hex_calls a ha W)
    have hrx := fun W => Lib.hid (refHex_calls a ha W)
    have hle := fun W => Lib.hid (less_calls a b ha hb W)
    have hrl := fun W => Lib.hid (refLess_calls a b ha hb W)
    clear hback hbk2
    generalize hexOf a = x at *
    generalize Op.bytesLess a b = lt at *
    go_wp2_with (first
      | (refine wpList_store_newId rfl (.tmp 7) (.tmp 20) rfl u lu _ rfl rfl rfl ?_
         intro W1 bx0 hbx
         obtain ⟨gx, hgx⟩ : ∃ gx, w1.heap.size = gx := ⟨_, rfl⟩
         have c0 := (h0.below hb1 h0.lt).below hbx (h0.below hb1 h0.lt).lt
         have c1 := (h1.below hb1 h1.lt).below hbx (h1.below hb1 h1.lt).lt
         have cb := bthen (bthen hbel hbel.size hb1) (bthen hbel hbel.size hb1).size hbx
         rw [hgx] at bx0 ⊢
         clear h0 h1 hbel hb1 hbx hgx)
      | (refine wpList_store_newId rfl (.tmp 9) (.tmp 25) rfl u lu _ rfl rfl rfl ?_
         intro W2 by0 hby
         obtain ⟨gy, hgy⟩ : ∃ gy, w2.heap.size = gy := ⟨_, rfl⟩
         have d0 := (c0.below hb2 c0.lt).below hby (c0.below hb2 c0.lt).lt
         have d1 := (c1.below hb2 c1.lt).below hby (c1.below hb2 c1.lt).lt
         have dx := (bx0.below hb2 bx0.lt).below hby (bx0.below hb2 bx0.lt).lt
         have db := bthen (bthen cb cb.size hb2) (bthen cb cb.size hb2).size hby
         rw [hgy] at by0 ⊢
         clear c0 c1 cb bx0 hb2 hby hgy
         skip)
      | (refine wpList_load_row rfl 24 (.tmp 3) rfl w.heap.size rfl _ _ _ _ d0 Tryd.underlying24 rfl (sized32 ha) ?_)
      | (refine wpList_store_newId rfl (.tmp 11) (.tmp 31) rfl a ha _ rfl rfl rfl ?_
         intro W3 bz0 hbz
         obtain ⟨gz, hgz⟩ : ∃ gz, w4.heap.size = gz := ⟨_, rfl⟩
         have k0 : WKeep w w.heap.size (w.heap.size + 1) gx gy gz a b u W3 := by
           have e0 := d0.below hb3 d0.lt
           have e1 := d1.below hb3 d1.lt
           have ex := dx.below hb3 dx.lt
           have ey := by0.below hb3 by0.lt
           have eb := bthen db db.size hb3
           have f0 := e0.below hb4 e0.lt
           have f1 := e1.below hb4 e1.lt
           have fx := ex.below hb4 ex.lt
           have fy := ey.below hb4 ey.lt
           have fb := bthen eb eb.size hb4
           have gb := bthen fb fb.size hbz
           exact ⟨f0.below hbz f0.lt, f1.below hbz f1.lt, fx.below hbz fx.lt, fy.below hbz fy.lt, hgz ▸ bz0, gb, hK.below gb, ha, hb, lu⟩
         rw [hgz]
         clear d0 d1 dx by0 db hb3 hb4 hbz hgz bz0)
      | (go_at_call 9; have _t := h0; clear _t; go_must (refine ((hun _).out).mono ?_); rintro e w1 ⟨rfl, hb1⟩)
      | (go_at_call 10; go_must (refine ((hru _).out).mono ?_); rintro e w2 ⟨rfl, hb2⟩)
      | (go_at_call 11; go_must (refine ((hhx _).out).mono ?_); rintro e w3 ⟨rfl, hb3⟩)
      | (go_at_call 9; go_must (refine ((hua _).out).mono ?_); rintro e w4 ⟨rfl, hb4⟩))
    have hq1 := fun W => run_eql_id W u u lu lu
    have hq2 := fun W => run_eql_id W a a ha ha
    clear h2i hs3 hlx
    have hu24 := Tryd.underlying24
    have hia : (Tryd.prog.info? 24).map (·.size) = some (u8s a).toList.length := by rw [Array.length_toList]; exact sized32 ha
    have hib : (Tryd.prog.info? 24).map (·.size) = some (u8s b).toList.length := by rw [Array.length_toList]; exact sized32 hb
    have hiu : (Tryd.prog.info? 24).map (·.size) = some (u8s u).toList.length := by rw [Array.length_toList]; exact sized32 lu
    refine wp_region_class (C := WKeep w w.heap.size (w.heap.size + 1) gx gy gz a b u) (by kernel_rfl) (by kernel_rfl) k0.drew ?_
    repeat
      (refine wpQuiet_ex rfl ?_
       apply Exists.intro
       refine ⟨fun W hW => ?_, ?_⟩
       · first
           | exact quiet_load_mid _ _ rfl _ _ rfl _ _ (range_blk hW.b3) hu24 rfl hia rfl
           | exact quiet_load_mid _ _ rfl _ _ rfl _ _ (range_blk hW.b4) hu24 rfl hib rfl
           | exact quiet_load_mid _ _ rfl _ _ rfl _ _ (range_blk hW.bx) hu24 rfl hiu rfl
           | exact quiet_load_mid _ _ rfl _ _ rfl _ _ (range_blk hW.by_) hu24 rfl hiu rfl
           | exact quiet_load_mid _ _ rfl _ _ rfl _ _ (range_blk hW.bz) hu24 rfl hia rfl
           | (go_simp
              first
                | rfl
                | (go_at_call 6; with_reducible exact keepW (fun W hW => knows_calls W hW) hW)
                | (go_at_call 11; with_reducible exact keepW (fun W _ => (hhx W).out) hW)
                | (go_at_call 12; with_reducible exact keepW (fun W _ => (hrx W).out) hW)
                | (go_at_call 13; with_reducible exact keepW (fun W _ => (hle W).out) hW)
                | (go_at_call 14; with_reducible exact keepW (fun W _ => (hrl W).out) hW))
       (simp only [Act.put, List.setIfInBounds_toArray, List.set_cons_zero, List.set_cons_succ, Array.toArray_toList]))
    refine wpQuiet_nil ?_
    intro w5 hW5
    go_wp2
    go_ret
    exact ⟨rfl, hW5.bel⟩
  · have h2i : (200 : Int) < (s.length : Int) := by omega
    go_wp2_with (first
      | (go_at_call 6; go_must (refine (knows_calls _ (hK.below hbel)).mono ?_); rintro e w1 ⟨rfl, hb1⟩))
    go_ret
    exact ⟨rfl, bthen hbel hbel.size hb1⟩
end Go.Proofs.YtmgijjfjldkgaaaDoor
