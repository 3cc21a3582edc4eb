/- The walk of layer 2's block (sha256). Condition: the table of constants is as the program laid it. -/
import Derived.Test.YtmgijjfjldkgaaaDoorSha
import Derived.Test.YtmgijjfjldkgaaaDoorShaR
import Derived.Laws.CopyRow
import Derived.Lib.SlBuf
namespace Go.Proofs.YtmgijjfjldkgaaaDoor
open Go.RowKit
attribute [local go_sem ↓] Go.wp_at_zero Go.wp_at_succ

/-- The table of constants lies there. -/
structure TabK (w : World) : Prop where
  pos : 0 < w.heap.size
  at_ : ∀ t, t < 64 → w.cell? ⟨0, t, none⟩ = some (.int .u32 (K256.getD t 0 : Nat))
theorem TabK.below {w w' : World} (h : TabK w) (hb : Below w.heap.size w w') : TabK w' :=
  ⟨Nat.lt_of_lt_of_le h.pos hb.size, fun t ht => (hb.cell (p := ⟨0, t, none⟩) h.pos).trans (h.at_ t ht)⟩
theorem run_index_words (l : List Nat) (hl : l.length = 64) (t : Nat) (ht : t < 64) (w : World) :
    (Instr.index 45 (.agg (u32s l)) (.int .i64 (t : Int))).run Tryd.prog w = .ok (.int .u32 (l.getD t 0 : Nat)) w := by
  have hu : Tryd.prog.underlying 45 = some (.array 64 41) := by kernel_rfl
  have h0 : (0 : Int) ≤ (t : Int) ∧ (t : Int) < ((64 : Nat) : Int) := by omega
  have h64 : ¬ 64 ≤ t := by omega
  have hg := u32s_get l t (by omega)
  have ha : (isAgg 41).run Tryd.prog w = .ok false w := by kernel_rfl
  have hz : (sizeOf 41).run Tryd.prog w = .ok 1 w := by kernel_rfl
  simp only [Instr.index, asIntOf, Sem.run_bind, Sem.run_pure, Result.andThen_ok, run_underlying hu]
  rw [if_pos h0]
  simp only [Sem.run_bind, Sem.run_pure, Result.andThen_ok, hz, part, ha, Int.toNat_natCast, Nat.mul_one, hg]
  rfl
theorem blk_new3 (w : World) (o1 o2 : Obj) (t : TypeId) (cs : Array Value) : Blk (((w.alloc o1).alloc o2).alloc (.cells cs t)) (w.heap.size + 2) t cs := by
  have := Blk.new ((w.alloc o1).alloc o2) t cs
  rwa [show ((w.alloc o1).alloc o2).heap.size = w.heap.size + 2 from by simp] at this
theorem sz8 : (Tryd.prog.info? 42).map (·.size) = some 8 := by kernel_rfl
theorem u32s_one (l : List Nat) : (u32s l).all (·.oneCell') = true := by
  refine Array.all_eq_true_iff_forall_mem.2 fun v hv => ?_
  obtain ⟨n, -, rfl⟩ := by simpa [u32s] using hv
  rfl
theorem u32s_list_size (s : H8) : (u32s s.list).size = 8 := rfl
theorem copy_up (wp : World) (g xa xb xc xd xe xf xg xh : Nat) (h : Blk wp g 42 (u32s [xa, xb, xc, xd, xe, xf, xg, xh])) :
    (Builtin.copy_ #[65, 65] 3 #[.slice (some ⟨g, 1, none⟩) 7 7, .slice (some ⟨g, 0, none⟩) 7 8]).run Tryd.prog wp = .ok (goInt 7) (wp.setRow g (u32s [xa, xa, xb, xc, xd, xe, xf, xg])) := by
  have := run_copy_row (P := Tryd.prog) wp 65 65 3 41 g 1 7 7 ⟨g, 0, none⟩ 7 8 (u32s [xa, xb, xc, xd, xe, xf, xg, xh]) 42 (u32s [xa, xb, xc, xd, xe, xf, xg]).toList (by kernel_rfl) (by kernel_rfl) h rfl (fun j v hj => by
    rw [Addr.add_mid, Nat.zero_add, h.cell]
    have hlt : j < 7 := by
      have := (List.getElem?_eq_some_iff.1 hj).1
      simpa [u32s] using this
    rw [← hj]
    match j, hlt with
    | 0, _ | 1, _ | 2, _ | 3, _ | 4, _ | 5, _ | 6, _ => rfl) (by simp [u32s]) (fun v hv => by
    obtain ⟨n, -, rfl⟩ := by simpa only [u32s, List.mem_map] using hv
    rfl)
  exact this
set_option maxRecDepth 100000 in
set_option maxHeartbeats 2000000 in
theorem block_calls (s0 : H8) (hs0 : s0.Fit) (b : List UInt8) (hb : b.length = 64) (w : World) (hK : TabK w) :
    Calls Tryd.prog 17 #[.agg (u32s s0.list), .string (B b)] w fun e w' => e = .returned (.agg (u32s (blockOf s0 b).list)) ∧ Below w.heap.size w w' := by
  go_enter Tryd.func17, Tryd.ntmps17
  have hbox : Blk ((w.alloc (.cells (u32s s0.list) 42)).alloc (.cells (u32s (List.replicate 8 0)) 42)) w.heap.size 42 (u32s s0.list) := (Blk.new w _ _).alloc _
  have hv0 := blk_new3 w (.cells (u32s s0.list) 42) (.cells (u32s (List.replicate 8 0)) 42) 42 (u32s (List.replicate 8 0))
  have hi8 : (Tryd.prog.info? 42).map (·.size) = some (u32s s0.list).size := by rw [u32s_list_size]; exact sz8
  have hall := u32s_one s0.list
  have hold : (u32s (List.replicate 8 0)).size = (u32s s0.list).size := by rw [u32s_list_size]; rfl
  obtain ⟨R, hR⟩ : ∃ R, Hid (blockOf s0 b = R) := ⟨_, rfl⟩
  go_wp2_with (first
    | (refine wpList_load_row rfl 42 (.tmp 2) rfl w.heap.size rfl _ _ _ _ hbox Tryd.underlying42 rfl hi8 ?_)
    | (refine wpList_store_row rfl 42 (.tmp 6) (.tmp 14) rfl (w.heap.size + 2) (u32s s0.list) rfl rfl _ _ hv0 hi8 hold hall ?_)
    | (go_at_call 29; go_must (refine (words_calls b hb _).mono ?_); rintro e w1 ⟨rfl, hb1⟩))
  have hv1 : Blk w1 (w.heap.size + 1 + 1) 42 (u32s s0.list) := Blk.below (w := World.setRow _ (w.heap.size + 2) _) (setRow_heap _ _ _ _ _ _ hv0) hb1 (by simp)
  have hbx1 : Blk w1 w.heap.size 42 (u32s s0.list) := Blk.below (w := World.setRow _ (w.heap.size + 2) _) (by unfold Blk; rw [setRow_other _ _ _ _ (by omega)]; exact hbox.alloc _) hb1 (by simp; omega)
  have hr1 : Blk w1 (w.heap.size + 1) 42 (u32s (List.replicate 8 0)) := Blk.below (w := World.setRow _ (w.heap.size + 2) _) (by unfold Blk; rw [setRow_other _ _ _ _ (by omega)]; exact (blk_new2 w _ _ _).alloc _) hb1 (by simp)
  have hbl1 : Below w.heap.size w w1 := (below_setRow ((((Below.refl _ _).alloc (Nat.le_refl _) _).alloc (by simp) _).alloc (by simp; omega) _) (by omega) _).trans (hb1.mono (by simp; omega))
  clear hb1 hbox hv0
  go_loopw [17] (fun i wr => ∃ (t : Nat) (s : H8), i = .int .i64 t ∧ t ≤ 64 ∧ Hid (s = after (wordsOf b) s0 t) ∧ s.Fit ∧ Blk wr (w.heap.size + 1 + 1) 42 (u32s s.list) ∧ Blk wr w.heap.size 42 (u32s s0.list) ∧ Blk wr (w.heap.size + 1) 42 (u32s (List.replicate 8 0)) ∧ Below w.heap.size w wr) (fun i _ => 64 - (intOf i).toNat)
  case atStart => exact ⟨0, s0, rfl, by omega, rfl, hs0, hv1, hbx1, hr1, hbl1⟩
  case round =>
    obtain ⟨t, s, rfl, ht, hst, hfit, h1, h2, h3, hbel⟩ := hrel
    have hbs := h1.lt
    by_cases hlt : t < 64
    · have hti : (t : Int) < 64 := by omega
      have hidx := run_index_words (wordsOf b) (wordsOf_length b) t hlt
      have hnext : Hid (after (wordsOf b) s0 (t + 1) = rnd s (K256.getD t 0) ((wordsOf b).getD t 0)) := by rw [hst.out]; rfl
      have bw := wordsOf_fit b t
      have bk := K256_fit t
      have ck : wr.cell? ⟨0, t, none⟩ = some (.int .u32 (K256.getD t 0 : Nat)) := (hbel.cell (p := ⟨0, t, none⟩) hK.pos).trans (hK.at_ t hlt)
      generalize (wordsOf b).getD t 0 = wt at *
      generalize K256.getD t 0 = kt at *
      obtain ⟨xa, xb, xc, xd, xe, xf, xg, xh⟩ := s
      obtain ⟨ba, bb, bc, bd, be, bf, bg, bh⟩ := hfit
      simp only at ba bb bc bd be bf bg bh
      have c0 : wr.cell? ⟨w.heap.size + 1 + 1, 0, none⟩ = some (.int .u32 (xa : Int)) := h1.cell 0
      have c1 : wr.cell? ⟨w.heap.size + 1 + 1, 1, none⟩ = some (.int .u32 (xb : Int)) := h1.cell 1
      have c2 : wr.cell? ⟨w.heap.size + 1 + 1, 2, none⟩ = some (.int .u32 (xc : Int)) := h1.cell 2
      have c3 : wr.cell? ⟨w.heap.size + 1 + 1, 3, none⟩ = some (.int .u32 (xd : Int)) := h1.cell 3
      have c4 : wr.cell? ⟨w.heap.size + 1 + 1, 4, none⟩ = some (.int .u32 (xe : Int)) := h1.cell 4
      have c5 : wr.cell? ⟨w.heap.size + 1 + 1, 5, none⟩ = some (.int .u32 (xf : Int)) := h1.cell 5
      have c6 : wr.cell? ⟨w.heap.size + 1 + 1, 6, none⟩ = some (.int .u32 (xg : Int)) := h1.cell 6
      have c7 : wr.cell? ⟨w.heap.size + 1 + 1, 7, none⟩ = some (.int .u32 (xh : Int)) := h1.cell 7
      go_wp2
      go_quiet (fail)
      go_wp2
      obtain ⟨wo, hwo⟩ : ∃ wo : World, wo = wr.drewN nq := ⟨_, rfl⟩
      rw [← hwo]
      have d0 : wo.cell? ⟨w.heap.size + 1 + 1, 0, none⟩ = some (.int .u32 (xa : Int)) := by rw [hwo]; exact c0
      have d1 : wo.cell? ⟨w.heap.size + 1 + 1, 1, none⟩ = some (.int .u32 (xb : Int)) := by rw [hwo]; exact c1
      have d2 : wo.cell? ⟨w.heap.size + 1 + 1, 2, none⟩ = some (.int .u32 (xc : Int)) := by rw [hwo]; exact c2
      have d3 : wo.cell? ⟨w.heap.size + 1 + 1, 3, none⟩ = some (.int .u32 (xd : Int)) := by rw [hwo]; exact c3
      have d4 : wo.cell? ⟨w.heap.size + 1 + 1, 4, none⟩ = some (.int .u32 (xe : Int)) := by rw [hwo]; exact c4
      have d5 : wo.cell? ⟨w.heap.size + 1 + 1, 5, none⟩ = some (.int .u32 (xf : Int)) := by rw [hwo]; exact c5
      have d6 : wo.cell? ⟨w.heap.size + 1 + 1, 6, none⟩ = some (.int .u32 (xg : Int)) := by rw [hwo]; exact c6
      have d7 : wo.cell? ⟨w.heap.size + 1 + 1, 7, none⟩ = some (.int .u32 (xh : Int)) := by rw [hwo]; exact c7
      have dk : wo.cell? ⟨0, t, none⟩ = some (.int .u32 (kt : Int)) := by rw [hwo]; exact ck
      have h1d := h1.drewN nq
      have h2d := h2.drewN nq
      have h3d := h3.drewN nq
      have hbeld := bdrewN hbel nq
      rw [← hwo] at h1d h2d h3d hbeld
      clear h1 h2 h3 hbel c0 c1 c2 c3 c4 c5 c6 c7 ck hwo
      have r6 := rotr_lt (n := 6) be (by omega) (by omega)
      have r11 := rotr_lt (n := 11) be (by omega) (by omega)
      have r25 := rotr_lt (n := 25) be (by omega) (by omega)
      have r2 := rotr_lt (n := 2) ba (by omega) (by omega)
      have r13 := rotr_lt (n := 13) ba (by omega) (by omega)
      have r22 := rotr_lt (n := 22) ba (by omega) (by omega)
      have e1 : bits .xor .u32 (rotr xe 6 : Int) (rotr xe 11 : Int) = ((rotr xe 6 ^^^ rotr xe 11 : Nat) : Int) := u32_xor_nat _ _ r6 r11
      have e2 : bits .xor .u32 ((rotr xe 6 ^^^ rotr xe 11 : Nat) : Int) (rotr xe 25 : Int) = ((sum1 xe : Nat) : Int) := u32_xor_nat _ _ (xor_lt r6 r11) r25
      have e3 : bits .and .u32 (xe : Int) (xf : Int) = ((xe &&& xf : Nat) : Int) := u32_and_nat _ _ be bf
      have e4 : bits .xor .u32 IntKind.u32.max (xe : Int) = ((4294967295 ^^^ xe : Nat) : Int) := u32_xor_nat 4294967295 _ (by omega) be
      have bn : 4294967295 ^^^ xe < 4294967296 := xor_lt (by omega) be
      have e5 : bits .and .u32 ((4294967295 ^^^ xe : Nat) : Int) (xg : Int) = (((4294967295 ^^^ xe) &&& xg : Nat) : Int) := u32_and_nat _ _ bn bg
      have e6 : bits .xor .u32 ((xe &&& xf : Nat) : Int) (((4294967295 ^^^ xe) &&& xg : Nat) : Int) = (((xe &&& xf) ^^^ ((4294967295 ^^^ xe) &&& xg) : Nat) : Int) := u32_xor_nat _ _ (and_lt bf) (and_lt bg)
      obtain ⟨X, hX, hXe⟩ : ∃ X : Nat, IntKind.u32.wrap (IntKind.u32.wrap (IntKind.u32.wrap (IntKind.u32.wrap ((xh : Int) + ((sum1 xe : Nat) : Int)) + (((xe &&& xf) ^^^ ((4294967295 ^^^ xe) &&& xg) : Nat) : Int)) + (kt : Int)) + (wt : Int)) = (X : Int) ∧ X = rndX ⟨xa, xb, xc, xd, xe, xf, xg, xh⟩ kt wt := by
        refine ⟨_, ?_, rfl⟩
        unfold rndX
        generalize ((xe &&& xf) ^^^ ((4294967295 ^^^ xe) &&& xg)) = ch
        simp only [IntKind.wrap_u32]
        omega
      have hXh := Lib.hid hXe
      clear hXe
      have f1 : bits .xor .u32 (rotr xa 2 : Int) (rotr xa 13 : Int) = ((rotr xa 2 ^^^ rotr xa 13 : Nat) : Int) := u32_xor_nat _ _ r2 r13
      have f2 : bits .xor .u32 ((rotr xa 2 ^^^ rotr xa 13 : Nat) : Int) (rotr xa 22 : Int) = ((sum0 xa : Nat) : Int) := u32_xor_nat _ _ (xor_lt r2 r13) r22
      have f3 : bits .and .u32 (xa : Int) (xb : Int) = ((xa &&& xb : Nat) : Int) := u32_and_nat _ _ ba bb
      have f4 : bits .and .u32 (xa : Int) (xc : Int) = ((xa &&& xc : Nat) : Int) := u32_and_nat _ _ ba bc
      have f5 : bits .and .u32 (xb : Int) (xc : Int) = ((xb &&& xc : Nat) : Int) := u32_and_nat _ _ bb bc
      have f6 : bits .xor .u32 ((xa &&& xb : Nat) : Int) ((xa &&& xc : Nat) : Int) = (((xa &&& xb) ^^^ (xa &&& xc) : Nat) : Int) := u32_xor_nat _ _ (and_lt bb) (and_lt bc)
      have f7 : bits .xor .u32 (((xa &&& xb) ^^^ (xa &&& xc) : Nat) : Int) ((xb &&& xc : Nat) : Int) = (((xa &&& xb) ^^^ (xa &&& xc) ^^^ (xb &&& xc) : Nat) : Int) := u32_xor_nat _ _ (xor_lt (and_lt bb) (and_lt bc)) (and_lt bc)
      obtain ⟨Y, hY, hYe⟩ : ∃ Y : Nat, IntKind.u32.wrap (((sum0 xa : Nat) : Int) + (((xa &&& xb) ^^^ (xa &&& xc) ^^^ (xb &&& xc) : Nat) : Int)) = (Y : Int) ∧ Y = rndY ⟨xa, xb, xc, xd, xe, xf, xg, xh⟩ := by
        refine ⟨_, ?_, rfl⟩
        unfold rndY
        generalize (xa &&& xb) ^^^ (xa &&& xc) ^^^ (xb &&& xc) = mj
        simp only [IntKind.wrap_u32]
        omega
      have hYh := Lib.hid hYe
      clear hYe
      go_region_held3 (fun w' => w'.cell? ⟨w.heap.size + 1 + 1, 7, none⟩ = some (.int .u32 (xh : Int)) ∧ w'.cell? ⟨w.heap.size + 1 + 1, 5, none⟩ = some (.int .u32 (xf : Int)) ∧ w'.cell? ⟨w.heap.size + 1 + 1, 6, none⟩ = some (.int .u32 (xg : Int)) ∧ w'.cell? ⟨0, t, none⟩ = some (.int .u32 (kt : Int))) (first | exact ⟨d7, d5, d6, dk⟩ | go_keep)
        (first
          | (go_at_call 28; (with_reducible refine (rot_at xe (-6) 6 rfl be (by omega) (by omega) _).mono ?_); rintro e w1 ⟨rfl, rfl⟩)
          | (go_at_call 28; (with_reducible refine (rot_at xe (-11) 11 rfl be (by omega) (by omega) _).mono ?_); rintro e w1 ⟨rfl, rfl⟩)
          | (go_at_call 28; (with_reducible refine (rot_at xe (-25) 25 rfl be (by omega) (by omega) _).mono ?_); rintro e w1 ⟨rfl, rfl⟩))
      go_wp2
      have d1' : wo.drew.cell? ⟨w.heap.size + 1 + 1, 1, none⟩ = some (.int .u32 (xb : Int)) := d1
      have d2' : wo.drew.cell? ⟨w.heap.size + 1 + 1, 2, none⟩ = some (.int .u32 (xc : Int)) := d2
      go_region_held3 (fun w' => w'.cell? ⟨w.heap.size + 1 + 1, 1, none⟩ = some (.int .u32 (xb : Int)) ∧ w'.cell? ⟨w.heap.size + 1 + 1, 2, none⟩ = some (.int .u32 (xc : Int))) (first | exact ⟨d1', d2'⟩ | exact ⟨d1, d2⟩ | go_keep)
        (first
          | (go_at_call 28; (with_reducible refine (rot_at xa (-2) 2 rfl ba (by omega) (by omega) _).mono ?_); rintro e w1 ⟨rfl, rfl⟩)
          | (go_at_call 28; (with_reducible refine (rot_at xa (-13) 13 rfl ba (by omega) (by omega) _).mono ?_); rintro e w1 ⟨rfl, rfl⟩)
          | (go_at_call 28; (with_reducible refine (rot_at xa (-22) 22 rfl ba (by omega) (by omega) _).mono ?_); rintro e w1 ⟨rfl, rfl⟩))
      go_wp2
      have g1 := h1d.drew.drew
      have g2 := h2d.drew.drew
      have g3 := h3d.drew.drew
      have gbel := hbeld.drew.drew
      have gsz : w.heap.size + 1 + 1 < wo.drew.drew.heap.size := g1.lt
      clear h1d h2d h3d hbeld d0 d1 d2 d3 d4 d5 d6 d7 dk d1' d2' e1 e2 e3 e4 e5 e6 f1 f2 f3 f4 f5 f6 f7 hX hY r2 r13 r22 r6 r11 r25
      generalize wo.drew.drew = wp at *
      obtain ⟨wq, hcp, hwq⟩ : ∃ wq, (Builtin.copy_ #[65, 65] 3 #[.slice (some ⟨w.heap.size + 1 + 1, 1, none⟩) 7 7, .slice (some ⟨w.heap.size + 1 + 1, 0, none⟩) 7 8]).run Tryd.prog wp.drew = .ok (goInt 7) wq ∧ wq = wp.drew.setRow (w.heap.size + 1 + 1) (u32s [xa, xa, xb, xc, xd, xe, xf, xg]) := ⟨_, copy_up _ _ _ _ _ _ _ _ _ _ g1.drew, rfl⟩
      have q1 : Blk wq (w.heap.size + 1 + 1) 42 (u32s [xa, xa, xb, xc, xd, xe, xf, xg]) := by rw [hwq]; exact setRow_heap _ _ _ _ _ _ g1.drew
      have q2 : Blk wq w.heap.size 42 (u32s s0.list) := by rw [hwq]; unfold Blk; rw [setRow_other _ _ _ _ (by omega)]; exact g2.drew
      have q3 : Blk wq (w.heap.size + 1) 42 (u32s (List.replicate 8 0)) := by rw [hwq]; unfold Blk; rw [setRow_other _ _ _ _ (by omega)]; exact g3.drew
      have qbel : Below w.heap.size w wq := by rw [hwq]; exact below_setRow gbel.drew (by omega) _
      clear g1 g2 g3 gbel hwq
      go_region
      clear hcp
      have c4 : wq.cell? ⟨w.heap.size + 1 + 1, 4, none⟩ = some (.int .u32 (xd : Int)) := q1.cell 4
      have c0 : wq.cell? ⟨w.heap.size + 1 + 1, 0, none⟩ = some (.int .u32 (xa : Int)) := q1.cell 0
      have z4 := q1.frozen 4
      have z0 := q1.frozen 0
      obtain ⟨D, hD, hDe⟩ : ∃ D : Nat, IntKind.u32.wrap ((xd : Int) + (X : Int)) = (D : Int) ∧ D = (xd + X) % 4294967296 := ⟨_, by rw [IntKind.wrap_u32]; omega, rfl⟩
      obtain ⟨A0, hA, hAe⟩ : ∃ A0 : Nat, IntKind.u32.wrap ((X : Int) + (Y : Int)) = (A0 : Int) ∧ A0 = (X + Y) % 4294967296 := ⟨_, by rw [IntKind.wrap_u32]; omega, rfl⟩
      have hDh := Lib.hid hDe
      have hAh := Lib.hid hAe
      clear hDe hAe
      go_wp2
      go_roundw
      case rel =>
        refine ⟨t + 1, ⟨A0, xa, xb, xc, D, xe, xf, xg⟩, by go_num, by omega, ?_, ⟨?_, ba, bb, bc, ?_, be, bf, bg⟩, ?_, ?_, ?_, ?_⟩
        · show _ = _
          rw [hnext.out, rnd, ← hXh.out, ← hYh.out, ← hDh.out, ← hAh.out]
        · have := hAh.out; show A0 < _; omega
        · have := hDh.out; show D < _; omega
        · have := ((q1.set_ 4 (.int .u32 (D : Int))).set_ 0 (.int .u32 (A0 : Int)))
          rw [u32s_set, u32s_set] at this
          exact this
        · exact (q2.far (p := ⟨w.heap.size + 1 + 1, 4, none⟩) (by simp; omega) _).far (p := ⟨w.heap.size + 1 + 1, 0, none⟩) (by simp; omega) _
        · exact (q3.far (p := ⟨w.heap.size + 1 + 1, 4, none⟩) (by simp) _).far (p := ⟨w.heap.size + 1 + 1, 0, none⟩) (by simp) _
        · exact (qbel.setCell (p := ⟨w.heap.size + 1 + 1, 4, none⟩) (by simp; omega) _).setCell (p := ⟨w.heap.size + 1 + 1, 0, none⟩) (by simp; omega) _
      case measure => simp [intOf]; omega
    · have ht64 : t = 64 := by omega
      have hti : ¬ (t : Int) < 64 := by omega
      have hsv : Hid (R = s.plus s0) := by show _ = _; rw [← hR.out, blockOf, ← ht64, ← hst.out]
      clear ht64 hst
      go_wp2
      go_loopw [96] (fun i wr => ∃ i' : Nat, i = .int .i64 i' ∧ i' ≤ 8 ∧ Blk wr (w.heap.size + 1 + 1) 42 (u32s (mixed s.list s0.list i')) ∧ Blk wr w.heap.size 42 (u32s s0.list) ∧ Blk wr (w.heap.size + 1) 42 (u32s (List.replicate 8 0)) ∧ Below w.heap.size w wr) (fun i _ => 8 - (intOf i).toNat)
      case atStart => exact ⟨0, rfl, by omega, h1, h2, h3, hbel⟩
      case round =>
        obtain ⟨i, rfl, hi, h1, h2, h3, hbel⟩ := hrel
        have hbs := h1.lt
        by_cases hi8 : i < 8
        · have hii : (i : Int) < 8 := by omega
          have ml : (mixed s.list s0.list i).length = 8 := mixed_length s.list s0.list rfl i hi
          have cv : wr.cell? ⟨w.heap.size + 1 + 1, i, none⟩ = some (.int .u32 (s.list.getD i 0 : Nat)) := by
            rw [h1.cell, u32s_get _ _ (by omega), mixed_get s.list s0.list rfl i hi8]
          have cs : wr.cell? ⟨w.heap.size, i, none⟩ = some (.int .u32 (s0.list.getD i 0 : Nat)) := by
            rw [h2.cell, u32s_get _ _ hi8]
          have zv := h1.frozen i
          have hms := Lib.hid (mixed_step s.list s0.list rfl i hi8)
          unfold add32 at hms
          generalize s.list.getD i 0 = xv at *
          generalize s0.list.getD i 0 = xs at *
          obtain ⟨N, hN, hNe⟩ : ∃ N : Nat, IntKind.u32.wrap ((xv : Int) + (xs : Int)) = (N : Int) ∧ N = (xv + xs) % 4294967296 := ⟨_, by rw [IntKind.wrap_u32]; omega, rfl⟩
          have hNh := Lib.hid hNe
          clear hNe
          go_wp2
          go_region
          go_wp2
          go_roundw
          case rel =>
            refine ⟨i + 1, by go_num, by omega, ?_, ?_, ?_, ?_⟩
            · have := (h1.set_ i (.int .u32 (N : Int))).drew
              rw [u32s_set, hNh.out, hms.out] at this
              rw [hNh.out]
              exact this
            · exact (h2.far (p := ⟨w.heap.size + 1 + 1, i, none⟩) (by simp; omega) _).drew
            · exact (h3.far (p := ⟨w.heap.size + 1 + 1, i, none⟩) (by simp) _).drew
            · exact (hbel.setCell (p := ⟨w.heap.size + 1 + 1, i, none⟩) (by simp; omega) _).drew
          case measure => simp [intOf]; omega
        · have hi8' : i = 8 := by omega
          have hii : ¬ (i : Int) < 8 := by omega
          rw [hi8', mixed_all, ← hsv.out] at h1
          clear hi8'
          have hi' : (Tryd.prog.info? 42).map (·.size) = some (u32s R.list).size := by rw [u32s_list_size]; exact sz8
          have hall' := u32s_one R.list
          have hold' : (u32s (List.replicate 8 0)).size = (u32s R.list).size := by rw [u32s_list_size]; rfl
          go_wp2_with (first
            | (refine wpList_load_row rfl 42 (.tmp 6) rfl (w.heap.size + 1 + 1) rfl _ _ _ _ h1 Tryd.underlying42 rfl hi' ?_)
            | (refine wpList_store_row rfl 42 (.tmp 4) (.tmp 108) rfl (w.heap.size + 1) (u32s R.list) rfl rfl _ _ h3 hi' hold' hall' ?_))
          exact bodyPost_ret (results_cell_row rfl _ _ (w.heap.size + 1) _ _ _ _ rfl (setRow_heap _ _ _ _ _ _ h3) Tryd.underlying42 rfl hi') rfl ⟨by rw [hR.out], below_setRow hbel (by omega) _⟩
end Go.Proofs.YtmgijjfjldkgaaaDoor
