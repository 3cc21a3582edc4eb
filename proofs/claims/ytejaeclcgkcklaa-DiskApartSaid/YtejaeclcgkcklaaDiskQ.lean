/- The walk of DiskApart. No condition. -/
import Derived.Test.YtejaeclcgkcklaaDiskZ
namespace Go.Proofs.Ytejaeclcgkcklaa
open Go.RowKit
def runS (s : DiskL) (l : List ActL) : DiskL := l.foldl actS s
theorem runS_step {s : DiskL} {l : List ActL} {k : Nat} {y : ActL} (h : l[k]? = some y) : runS s (l.take (k + 1)) = actS (runS s (l.take k)) y := by
  unfold runS
  rw [List.take_add_one, h, List.foldl_append]
  rfl
theorem runS_len (s : DiskL) (l : List ActL) : (runS s l).l.length ≤ s.l.length + l.length := by
  induction l generalizing s with
  | nil => exact Nat.le_refl _
  | cons x l ih =>
    have h1 := ih (actS s x)
    have h2 := actS_len s x
    show (runS (actS s x) l).l.length ≤ _
    rw [List.length_cons]
    omega
theorem runS_len' (s : DiskL) (l : List ActL) (k : Nat) : (runS s (l.take k)).l.length ≤ s.l.length + l.length := by
  have := runS_len s (l.take k)
  rw [List.length_take] at this
  omega
/-- Where things lie: our disk and the document's at p, q with rows vl, vm ahead of Z; the copies at pc, qn, vc, vn from Z on. -/
structure Places (Z : Nat) (p q pc qn : Nat) (vl vm vc vn : Value) : Prop where
  p_ : p < Z
  q_ : q < Z
  vl_ : ∀ k, vl.ownBlock = some k → k < Z
  vm_ : ∀ k, vm.ownBlock = some k → k < Z
  pc_ : Z ≤ pc
  qn_ : Z ≤ qn
  vc_ : ∀ k, vc.ownBlock = some k → Z ≤ k
  vn_ : ∀ k, vn.ownBlock = some k → Z ≤ k
section
variable {Z p q pc qn B : Nat} {vl vm vc vn vm' vc' vn' : Value} {T w w' : World} {s s' : DiskL}
/-- The copies, while the first ones go on. -/
theorem Places.copies (h : Places Z p q pc qn vl vm vc vn) {a b : DiskL} (hp : Pair T w B p q vl vm a b) (hC : DiskAt T B pc vc s) (hN : RDiskAt T B qn vn s') : DiskAt w B pc vc s ∧ RDiskAt w B qn vn s' := by
  have hS : ∀ k, Z ≤ k → some k ∉ [some p, vl.ownBlock, some q, vm.ownBlock] := fun k hk hm => by
    simp only [List.mem_cons, List.not_mem_nil, or_false] at hm
    rcases hm with e | e | e | e
    · injection e with e; have := h.p_; omega
    · have := h.vl_ k e.symm; omega
    · injection e with e; have := h.q_; omega
    · have := h.vm_ k e.symm; omega
  exact ⟨hC.far hp.far (hS _ h.pc_) fun k hk => hS k (h.vc_ k hk), hN.far hp.far (hS _ h.qn_) fun k hk => hS k (h.vn_ k hk)⟩
/-- The document's first one, while the copies go on: w is behind T, where it had the row vm. -/
theorem Places.first (h : Places Z p q pc qn vl vm vc vn) {a b : DiskL} (hp : Pair w w' B pc qn vc vn a b) (hnw : Newer T vm vm') (hT : ∀ k, (k = pc ∨ k = qn ∨ vc.ownBlock = some k ∨ vn.ownBlock = some k) → k < T.heap.size) (hR : RDiskAt w B q vm' s) : RDiskAt w' B q vm' s := by
  have hS : ∀ k, (k < Z ∨ T.heap.size ≤ k) → some k ∉ [some pc, vc.ownBlock, some qn, vn.ownBlock] := fun k hk hm => by
    simp only [List.mem_cons, List.not_mem_nil, or_false] at hm
    rcases hm with e | e | e | e
    · injection e with e; have := h.pc_; have := hT k (.inl e); omega
    · have := h.vc_ k e.symm; have := hT k (.inr (.inr (.inl e.symm))); omega
    · injection e with e; have := h.qn_; have := hT k (.inr (.inl e)); omega
    · have := h.vn_ k e.symm; have := hT k (.inr (.inr (.inr e.symm))); omega
  refine hR.far hp.far (hS _ (.inl h.q_)) fun k hk => hS k ?_
  rcases hnw.in_ hk with h1 | h1
  · exact .inl (h.vm_ k h1)
  · exact .inr h1
end
set_option maxRecDepth 100000 in
set_option maxHeartbeats 4000000 in
theorem diskApart_calls (l more : List ActL) (hok1 : ActsOk l) (hok2 : ActsOk more) (v0 v1 : Value) (x : ActL) (hx : ActOk x) (w : World) (hv0 : Acts w v0 l) (hv1 : Acts w v1 more) :
    Calls Try.prog 4 #[v0, v1, .agg (actC x).toArray] w fun e w' => e = .returned (.bool true) ∧ Below w.heap.size w w' := by
  have hb0 : Below w.heap.size w (w.alloc (.cells (actC x).toArray 33)) := (Below.refl _ _).alloc (Nat.le_refl _) _
  have hnb : Blk (w.alloc (.cells (actC x).toArray 33)) w.heap.size 33 (actC x).toArray := Blk.new _ _ _
  have hlen0 := hv0.len
  have hlen1 := hv1.len
  have hv0 := hv0.below hb0
  have hv1 := hv1.below hb0
  have hbd := built_rdisk
  have hkn := fun W => knows_calls W
  have k1 : ∀ W, Below (w.alloc (.cells (actC x).toArray 33)).heap.size (w.alloc (.cells (actC x).toArray 33)) W → W.cell? ⟨w.heap.size, 1, none⟩ = some (.string (B x.name)) ∧ W.cell? ⟨w.heap.size, 2, none⟩ = some (.string (B x.data)) ∧ W.cell? ⟨w.heap.size, 4, none⟩ = some (.int .i64 x.part) := fun W hb => by
    have h1 := hnb.below hb hnb.lt
    exact ⟨by rw [h1.cell]; rfl, by rw [h1.cell]; rfl, by rw [h1.cell]; rfl⟩
  have hf0 := Lib.hid (few_calls l v0 _ hv0)
  have hf1 := fun W hb => Lib.hid (few_calls more v1 W (hv1.below (w' := W) hb))
  have hbase : w.heap.size ≤ (w.alloc (.cells (actC x).toArray 33)).heap.size := hb0.size
  go_enter Try.func4, Try.ntmps4
  by_cases hgood : fewA l = true ∧ fewA more = true ∧ x.name.length ≤ 20 ∧ x.data.length ≤ 100
  · obtain ⟨hA, hB, h20, h100⟩ := hgood
    have h20i : ¬ (20 : Int) < (x.name.length : Int) := by omega
    have h100i : ¬ (100 : Int) < (x.data.length : Int) := by omega
    have hda := fewA_data hA
    have hdb := fewA_data hB
    have hl60 := fewA_len hA
    have hm60 := fewA_len hB
    obtain ⟨A0, cap0, rfl, hca0, hcb0, hat0⟩ := hv0
    obtain ⟨A1, cap1, rfl, hca1, hcb1, hat1⟩ := hv1
    have hat0 := Lib.hid hat0
    have hat1 := Lib.hid hat1
    obtain ⟨W1, hW1⟩ : ∃ W1, w.alloc (.cells (actC x).toArray 33) = W1 := ⟨_, rfl⟩
    rw [hW1] at hf0 hf1 k1 hb0 hbase hat0 hat1
    rw [hA] at hf0
    rw [hB] at hf1
    clear hnb hA hB
    go_wp2_with (first
      | (rw [hW1])
      | (go_at_call 5; (with_reducible refine hf0.out.mono ?_); rintro e w2 ⟨rfl, hb2⟩
         have hf1 := hf1 _ hb2
         have s2 := hb2.size
         clear hf0)
      | (go_at_call 5; (with_reducible refine hf1.out.mono ?_); rintro e w3 ⟨rfl, hb3⟩
         have s3 := hb3.size
         clear hf1)
      | (go_at_call 6; go_must (refine (diskNew_calls _).mono ?_); rintro e w4 ⟨rfl, hD4, hb4⟩
         have s4 := hb4.size
         have hb14 := bthen (bthen hb2 s2 hb3) (Nat.le_trans s2 s3) hb4
         obtain ⟨k1a, k1b, k1c⟩ := k1 _ hb14)
      | ((with_reducible refine lit_build1 hbd ?_ ?_); rfl))
    have hbl : Below W1.heap.size W1 (w4.alloc (.cells (diskC (.slice none 0 0) newS) 30)) := hb14.alloc hb14.size _
    have hD5 := hD4.below ((Below.refl _ _).alloc (Nat.le_refl _) (.cells (diskC (.slice none 0 0) newS) 30))
    have hD5 : DiskAt (w4.alloc (.cells (diskC (.slice none 0 0) newS) 30)) W1.heap.size w3.heap.size (.slice none 0 0) newS := ⟨hD5.blk, World.ownsRow_nil _ _ _ _, newOk⟩
    have hR5 : RDiskAt (w4.alloc (.cells (diskC (.slice none 0 0) newS) 30)) W1.heap.size w4.heap.size (.slice none 0 0) newS := ⟨Blk.new _ _ _, World.ownsRow_nil _ _ _ _, newOk⟩
    obtain ⟨p, hp⟩ : ∃ p, w3.heap.size = p := ⟨_, rfl⟩
    obtain ⟨q, hq⟩ : ∃ q, w4.heap.size = q := ⟨_, rfl⟩
    rw [hp] at hD5 ⊢
    rw [hq] at hR5 ⊢
    have hpB : W1.heap.size ≤ p := by omega
    have hqB : W1.heap.size ≤ q := by omega
    clear hb2 hb3 hb4 hb14 hD4 k1a k1b k1c
    generalize w4.alloc (.cells (diskC (.slice none 0 0) newS) 30) = W5 at *
    obtain ⟨bx, hbx⟩ : ∃ bx, w.heap.size = bx := ⟨_, rfl⟩
    rw [hbx] at k1 hb0 hbase ⊢
    replace hbx := Lib.hid hbx
    go_loopw [11] (fun vi wr => ∃ (k : Nat) (s : DiskL) (vl vm : Value), vi = .int .i64 k ∧ k ≤ l.length ∧ s.l.length ≤ k ∧ DiskAt wr W1.heap.size p vl s ∧ RDiskAt wr W1.heap.size q vm s ∧ Below W1.heap.size W1 wr) (fun vi _ => l.length - (intOf vi).toNat)
    case atStart => exact ⟨0, newS, _, _, rfl, by omega, by simp [newS], hD5, hR5, hbl⟩
    case round =>
      clear hD5 hR5 hbl hp hq s2 s3 s4 hW1
      obtain ⟨k, s, vl, vm, rfl, hk, hsl, hD, hR, hbel⟩ := hrel
      by_cases hlt : k < l.length
      · have hki : (k : Int) < (l.length : Int) := by omega
        obtain ⟨y, hy⟩ : ∃ y, l[k]? = some y := ⟨_, List.getElem?_eq_getElem hlt⟩
        have hym := List.mem_of_getElem? hy
        obtain ⟨g, o, rfl, hg, hcell⟩ := hat0.out (by omega)
        have hx0 := rangeAt_below (hcell k y hy) hg hbel
        have hsz := hbel.size
        have hac := Lib.hid (act_calls hsz hD hR y (hok1 y hym) (by have := hda y hym; omega) (by omega))
        have hla := actS_len s y
        have hszA : (Try.prog.info? 33).map (·.size) = some (actC y).length := szAct
        clear hy hcell hym
        go_wp2_with (first
          | ((with_reducible refine lit_load 33 (.tmp 72) g (o + k * 5) (actC y) _ hx0 Try.underlying33 rfl hszA ?_ ?_); rfl)
          | (go_at_call 8; go_must (refine hac.out.mono ?_); rintro e w4 ⟨rfl, hP⟩
             have hbel4 := hbel.trans (hP.below (w0 := w) hD hR hpB hqB hsz)
             obtain ⟨vl4, hD4, _⟩ := hP.ours
             obtain ⟨vm4, hR4, _⟩ := hP.theirs))
        go_roundw
        case rel => exact ⟨k + 1, actS s y, _, _, by go_num, by omega, by omega, hD4, hR4, hbel4⟩
        case measure => simp [intOf]; omega
      · have hki : ¬ (k : Int) < (l.length : Int) := by omega
        have hkl : s.l.length ≤ 60 := by omega
        clear hlt hat0 hsl hk
        have hsz := hbel.size
        have hcp := Lib.hid (diskCopy_calls hD)
        go_wp2_with (first
          | (go_at_call 10; go_must (refine hcp.out.mono ?_); rintro e w6 ⟨rfl, vc, hC6, hb6⟩
             have hcq := Lib.hid (refCopied_calls (hR.below hb6)))
          | (go_at_call 11; go_must (refine hcq.out.mono ?_); rintro e T ⟨qn, vn, rfl, hN7, hqn, hb7⟩))
        have s6 := hb6.size
        have s7 := hb7.size
        have hD7 := (hD.below hb6).below hb7
        have hR7 := (hR.below hb6).below hb7
        have hC7 := hC6.below hb7
        have hPl : Places wr.heap.size p q wr.heap.size qn vl vm vc vn := ⟨hD.blk.lt, hR.blk.lt, fun k hk => (World.ownsRow.lt hD.own k hk).2, fun k hk => (World.ownsRow.lt hR.own k hk).2, Nat.le_refl _, by omega, fun k hk => (World.ownsRow.lt hC6.own k hk).1, fun k hk => by have := (World.ownsRow.lt hN7.own k hk).1; omega⟩
        have hT : ∀ k, (k = wr.heap.size ∨ k = qn ∨ vc.ownBlock = some k ∨ vn.ownBlock = some k) → k < T.heap.size := fun k hk => by
          rcases hk with rfl | rfl | hk | hk
          · exact hC7.blk.lt
          · exact hN7.blk.lt
          · exact (World.ownsRow.lt hC7.own k hk).2
          · exact (World.ownsRow.lt hN7.own k hk).2
        have hC7 := hC7.lower hsz
        have hN7 := hN7.lower (Nat.le_trans hsz s6)
        have hbT := bthen (bthen hbel hsz hb6) (Nat.le_trans hsz s6) hb7
        have hsT := hbT.size
        clear hcp hcq hD hR hC6 hb6 hb7
        generalize hZ : wr.heap.size = Z at *
        have hpcB : W1.heap.size ≤ Z := hsz
        have hqnB : W1.heap.size ≤ qn := by omega
        clear hbel hZ s6 s7
        have hP0 := Pair.start hD7 hR7
        have hlenS := runS_len' s more
        clear hD7 hR7 hD5 hda hv0 hv1 hf1 hca0 hcb0 hok1
        go_loopw [14] (fun vi wr => ∃ (k : Nat), vi = .int .i64 k ∧ k ≤ more.length ∧ Pair T wr W1.heap.size p q vl vm (runS s (more.take k)) (runS s (more.take k)) ∧ Below W1.heap.size W1 wr) (fun vi _ => more.length - (intOf vi).toNat)
        case atStart => exact ⟨0, rfl, by omega, hP0, hbT⟩
        case round =>
          clear hP0
          obtain ⟨k, rfl, hk, hP, hbel⟩ := hrel
          by_cases hlt : k < more.length
          · have hki : (k : Int) < (more.length : Int) := by omega
            obtain ⟨y, hy⟩ : ∃ y, more[k]? = some y := ⟨_, List.getElem?_eq_getElem hlt⟩
            have hym := List.mem_of_getElem? hy
            obtain ⟨g, o, rfl, hg, hcell⟩ := hat1.out (by omega)
            have hx0 := rangeAt_below (hcell k y hy) hg hbel
            have hsz1 := hbel.size
            obtain ⟨vl1, hD1, hN1⟩ := hP.ours
            obtain ⟨vm1, hR1, hM1⟩ := hP.theirs
            have hac := Lib.hid (act_calls hsz1 hD1 hR1 y (hok2 y hym) (by have := hdb y hym; omega) (by have := hlenS k; omega))
            have hszA : (Try.prog.info? 33).map (·.size) = some (actC y).length := szAct
            have hst := Lib.hid (runS_step (s := s) hy)
            clear hy hcell hym
            go_wp2_with (first
              | ((with_reducible refine lit_load 33 (.tmp 89) g (o + k * 5) (actC y) _ hx0 Try.underlying33 rfl hszA ?_ ?_); rfl)
              | (go_at_call 8; go_must (refine hac.out.mono ?_); rintro e w4 ⟨rfl, hP'⟩
                 have hbel4 := hbel.trans (hP'.below (w0 := w) hD1 hR1 hpB hqB hsz1)))
            go_roundw
            case rel => exact ⟨k + 1, by go_num, by omega, by rw [hst.out]; exact hP.trans hD1 hN1 hR1 hM1 hP', hbel4⟩
            case measure => simp [intOf]; omega
          · obtain rfl : k = more.length := by omega
            rw [List.take_length] at hP
            obtain ⟨hC8, hN8⟩ := hPl.copies hP hC7 hN7
            have hlS : (runS s more).l.length ≤ 120 := by have := runS_len s more; omega
            have hsm := Lib.hid (same_calls hC8 hN8)
            have hsz1 := hbel.size
            obtain ⟨vm2, hR8, hM8⟩ := hP.theirs
            have hsT1 := hP.far.size
            clear hP hC7 hN7 hlt hk hbT
            go_wp2_with (first
              | (go_at_call 9; go_must (refine hsm.out.mono ?_); rintro e w9 ⟨rfl, hb9⟩))
            have hC9 := hC8.below hb9
            have hN9 := hN8.below hb9
            have hR9 := hR8.below hb9
            have hP9 := Pair.start hC9 hN9
            have hbT9 := bthen hbel hsz1 hb9
            have hT9 : T.heap.size ≤ w9.heap.size := Nat.le_trans hsT1 hb9.size
            clear hC8 hN8 hR8 hC9 hN9 hbel hsz1 hb9 hsm hsT1
            go_loopw [15] (fun vi wr => ∃ (k : Nat), vi = .int .i64 k ∧ k ≤ more.length ∧ Pair w9 wr W1.heap.size Z qn vc vn (runS s (more.take k)) (runS s (more.take k)) ∧ Below W1.heap.size W1 wr) (fun vi _ => more.length - (intOf vi).toNat)
            case atStart => exact ⟨0, rfl, by omega, hP9, hbT9⟩
            case round =>
              clear hP9
              obtain ⟨k, rfl, hk, hP, hbel⟩ := hrel
              by_cases hlt : k < more.length
              · have hki : (k : Int) < (more.length : Int) := by omega
                obtain ⟨y, hy⟩ : ∃ y, more[k]? = some y := ⟨_, List.getElem?_eq_getElem hlt⟩
                have hym := List.mem_of_getElem? hy
                obtain ⟨g, o, rfl, hg, hcell⟩ := hat1.out (by omega)
                have hx0 := rangeAt_below (hcell k y hy) hg hbel
                have hsz1 := hbel.size
                obtain ⟨vl1, hD1, hN1⟩ := hP.ours
                obtain ⟨vm1, hR1, hM1⟩ := hP.theirs
                have hac := Lib.hid (act_calls hsz1 hD1 hR1 y (hok2 y hym) (by have := hdb y hym; omega) (by have := hlenS k; omega))
                have hszA : (Try.prog.info? 33).map (·.size) = some (actC y).length := szAct
                have hst := Lib.hid (runS_step (s := s) hy)
                clear hy hcell hym
                go_wp2_with (first
                  | ((with_reducible refine lit_load 33 (.tmp 106) g (o + k * 5) (actC y) _ hx0 Try.underlying33 rfl hszA ?_ ?_); rfl)
                  | (go_at_call 8; go_must (refine hac.out.mono ?_); rintro e w4 ⟨rfl, hP'⟩
                     have hbel4 := hbel.trans (hP'.below (w0 := w) hD1 hR1 hpcB hqnB hsz1)))
                go_roundw
                case rel => exact ⟨k + 1, by go_num, by omega, by rw [hst.out]; exact hP.trans hD1 hN1 hR1 hM1 hP', hbel4⟩
                case measure => simp [intOf]; omega
              · obtain rfl : k = more.length := by omega
                rw [List.take_length] at hP
                have hR10 := hPl.first hP hM8 hT hR9
                obtain ⟨vc3, hC10, hK10⟩ := hP.ours
                have hsm := Lib.hid (same_calls hC10 hR10)
                have hsz1 := hbel.size
                clear hP hlt hk hbT9 hR9
                have i0 : I64 0 := ⟨by omega, by omega⟩
                have ecode := cut_code (runS s more) x.part
                have hlS : (runS s more).l.length < 500000 := by have := runS_len s more; omega
                have hoS := hC10.ok
                generalize hSR : runS s more = SR at *
                clear hSR hR10 hlenS
                go_wp2_with (first
                  | (go_at_call 9; go_must (refine hsm.out.mono ?_); rintro e w11 ⟨rfl, hb11⟩
                     have hC11 := hC10.below hb11
                     have b11 := bthen hbel hsz1 hb11
                     have hr1 := Lib.hid (diskRestart_calls hC11)
                     clear hsm)
                  | (go_at_call 12; refine hr1.out.mono ?_; rintro e w12 ⟨rfl, hC12, hF12⟩
                     have b12 := b11.trans (hC11.far_below hF12 hpcB b11.size)
                     have hcp := Lib.hid (diskCopy_calls hC12)
                     clear hr1)
                  | (go_at_call 10; refine hcp.out.mono ?_; rintro e w13 ⟨rfl, vh, hH13, hb13⟩
                     have hC13 := hC12.below hb13
                     have b13 := bthen b12 b12.size hb13
                     obtain ⟨ka, kb, kc⟩ := k1 _ b13
                     have hfl := Lib.hid (diskFail_calls hC13 0 x.part i0 hx.part)
                     clear hcp)
                  | (go_at_call 13; refine hfl.out.mono ?_; rintro e w14 ⟨rfl, hC14, hF14⟩
                     have b14 := b13.trans (hC13.far_below hF14 hpcB b13.size)
                     obtain ⟨la, lb, lc⟩ := k1 _ b14
                     have hpt := Lib.hid (diskPut_calls b14.size hC14 x.name x.data hx.name (by omega) hlS)
                     rw [ecode] at hpt
                     clear hfl)
                  | (go_at_call 14; refine hpt.out.mono ?_; rintro e w15 ⟨rfl, vc5, hC15, hF15, hN15⟩
                     have b15 := b14.trans (hC14.far_below hF15 hpcB b14.size)
                     have hr2 := Lib.hid (diskRestart_calls hC15)
                     clear hpt)
                  | (go_at_call 12; refine hr2.out.mono ?_; rintro e w16 ⟨rfl, hC16, hF16⟩
                     have b16 := b15.trans (hC15.far_below hF16 hpcB b15.size)
                     have hZ13 : Z < w12.heap.size := hC12.blk.lt
                     have hv13 : ∀ k, vc3.ownBlock = some k → k < w12.heap.size := fun k hk => (World.ownsRow.lt hC12.own k hk).2
                     have hh13 : ∀ k, vh.ownBlock = some k → w12.heap.size ≤ k ∧ k < w13.heap.size := fun k hk => World.ownsRow.lt hH13.own k hk
                     have z13 := hF14.size
                     have hH14 : DiskAt w14 w12.heap.size w12.heap.size vh (upS SR) := hH13.far hF14 (by simp; exact ⟨by omega, fun e => by have := hv13 _ e.symm; omega⟩) (fun k hk hm => by
                       have := hh13 k hk
                       simp at hm
                       rcases hm with e | e
                       · omega
                       · have := hv13 k e.symm; omega)
                     have hH15 : DiskAt w15 w12.heap.size w12.heap.size vh (upS SR) := hH14.far hF15 (by simp; exact ⟨by omega, fun e => by have := hv13 _ e.symm; omega⟩) (fun k hk hm => by
                       have := hh13 k hk
                       simp at hm
                       rcases hm with e | e
                       · omega
                       · have := hv13 k e.symm; omega)
                     have hph : w12.heap.size < w13.heap.size := hH13.blk.lt
                     have hH16 : DiskAt w16 w12.heap.size w12.heap.size vh (upS SR) := hH15.far hF16 (by
                         simp
                         refine ⟨by omega, fun e => ?_⟩
                         rcases hN15.in_ e.symm with h1 | h1
                         · have := hv13 _ h1; omega
                         · omega) (fun k hk hm => by
                       have := hh13 k hk
                       simp at hm
                       rcases hm with e | e
                       · omega
                       · rcases hN15.in_ e.symm with h1 | h1
                         · have := hv13 k h1; omega
                         · omega)
                     have hnm := Lib.hid (diskNames_calls hH16)
                     clear hr2)
                  | (go_at_call 15; refine hnm.out.mono ?_; rintro e w17 ⟨v7, rfl, hown17, hb17⟩
                     clear hnm))
                have b17 := bthen b16 b16.size hb17
                have hr : namesR (upS SR) = SR.l.map FileL.name := rfl
                rw [hr] at hown17
                obtain ⟨An, cn, hv7, hn1, hn2, hatn⟩ := hown17.strs
                subst hv7
                have hl0 : (SR.l.map FileL.name).length = SR.l.length := List.length_map _
                rw [hl0] at hatn ⊢
                have hatn := Lib.hid hatn
                have hH17 := Lib.hid (hH16.below hb17)
                have hC17 := Lib.hid (hC16.below hb17)
                clear hl0 hn1 hown17 hr hb17 hH16 hC16 hH15 hH14 hC15 hC14 hC13 hC12 hC11 hC10 hF12 hF14 hF15 hF16 b11 b12 b13 b14 b15 b16 ka kb kc la lb lc hbel hb11 hb13 hv13 hh13 hN15 hK10 hsz1
                go_loopw [20] (fun vi wr => ∃ k : Nat, vi = .int .i64 k ∧ k ≤ SR.l.length ∧ Below w17.heap.size w17 wr) (fun vi _ => SR.l.length - (intOf vi).toNat)
                case atStart => exact ⟨0, rfl, by omega, Below.refl _ _⟩
                case round =>
                  obtain ⟨k, rfl, hk, hbel⟩ := hrel
                  have hsz1 := hbel.size
                  by_cases hlt : k < SR.l.length
                  · have hki : (k : Int) < (SR.l.length : Int) := by omega
                    obtain ⟨y, hy⟩ : ∃ y, SR.l[k]? = some y := ⟨_, List.getElem?_eq_getElem hlt⟩
                    have hym : (SR.l.map FileL.name)[k]? = some y.name := by rw [List.getElem?_map, hy]; rfl
                    obtain ⟨gn, on, rfl, hgn, hcn⟩ := hatn.out (by omega)
                    have hx1 := hcn k _ hym
                    rw [Nat.mul_one] at hx1
                    have hgr : getR (upS SR) y.name = (y.data, true) := by
                      show getT (getL SR.l y.name) = _
                      rw [getL_self hoS.sorted hy]
                      rfl
                    have hct := Lib.hid (diskGet_calls (hH17.out.below hbel) y.name)
                    rw [hgr] at hct
                    have n0 : wr.cell? ⟨gn, on + k, none⟩ = some (.string (B y.name)) := rangeAt_below hx1 hgn hbel 0 _ rfl
                    have hC18 := fun W hb => Lib.hid (diskGet_calls (hC17.out.below (bthen (c := W) hbel hsz1 hb)) y.name)
                    obtain ⟨r, hr⟩ : ∃ r, getR (upS (writeS (failS (upS SR) 0 x.part) x.name x.data false)) y.name = r := ⟨_, rfl⟩
                    rw [hr] at hC18
                    clear hy hym hcn
                    cases hq : (y.name == x.name) with
                    | true =>
                      clear hr hgr
                      obtain ⟨r1, r2⟩ := r
                      go_wp2_with (first
                        | (go_at_call 16; (with_reducible refine hct.out.mono ?_); rintro e w18 ⟨rfl, hb18⟩
                           have n1 : w18.cell? ⟨gn, on + k, none⟩ = some (.string (B y.name)) := rangeAt_below hx1 hgn (bthen hbel hsz1 hb18) 0 _ rfl
                           have hcc := hC18 _ hb18
                           clear hC18 hct)
                        | (go_at_call 16; (with_reducible refine hcc.out.mono ?_); rintro e w19 ⟨rfl, hb19⟩
                           have hbel2 := bthen (bthen hbel hsz1 hb18) (Nat.le_trans hsz1 hb18.size) hb19
                           have n2 : w19.cell? ⟨gn, on + k, none⟩ = some (.string (B y.name)) := rangeAt_below hx1 hgn hbel2 0 _ rfl
                           obtain ⟨n3, _, _⟩ := k1 _ (bthen b17 b17.size hbel2)
                           clear hcc))
                      clear n0 n1 hb18 hb19 hatn hbel k1 hH17 hC17 b17
                      go_quiet (fail)
                      go_wp2
                      go_roundw
                      case rel => exact ⟨k + 1, by go_num, by omega, bdrewN hbel2 nq⟩
                      case measure => simp [intOf]; omega
                    | false =>
                      have hr' : r = (y.data, true) := by
                        rw [← hr, cut_other hoS (by rw [beq_eq_false_iff_ne] at hq ⊢; exact fun e => hq e.symm)]
                        exact hgr
                      subst hr'
                      clear hr hgr
                      go_wp2_with (first
                        | (go_at_call 16; (with_reducible refine hct.out.mono ?_); rintro e w18 ⟨rfl, hb18⟩
                           have n1 : w18.cell? ⟨gn, on + k, none⟩ = some (.string (B y.name)) := rangeAt_below hx1 hgn (bthen hbel hsz1 hb18) 0 _ rfl
                           have hcc := hC18 _ hb18
                           clear hC18 hct)
                        | (go_at_call 16; (with_reducible refine hcc.out.mono ?_); rintro e w19 ⟨rfl, hb19⟩
                           have hbel2 := bthen (bthen hbel hsz1 hb18) (Nat.le_trans hsz1 hb18.size) hb19
                           have n2 : w19.cell? ⟨gn, on + k, none⟩ = some (.string (B y.name)) := rangeAt_below hx1 hgn hbel2 0 _ rfl
                           obtain ⟨n3, _, _⟩ := k1 _ (bthen b17 b17.size hbel2)
                           clear hcc))
                      clear n0 n1 hb18 hb19 hatn hbel k1 hH17 hC17 b17
                      go_quiet (fail)
                      go_wp2
                      go_roundw
                      case rel => exact ⟨k + 1, by go_num, by omega, bdrewN hbel2 nq⟩
                      case measure => simp [intOf]; omega
                  · have hki : ¬ (k : Int) < (SR.l.length : Int) := by omega
                    have b18 := bthen b17 b17.size hbel
                    go_wp2_with (first
                      | (go_at_call 13; go_must (refine (nilFail_calls _ _ _).mono ?_); rintro e w20 ⟨rfl, rfl⟩)
                      | (go_at_call 12; go_must (refine (nilRestart_calls _).mono ?_); rintro e w20 ⟨rfl, rfl⟩)
                      | (go_at_call 16; go_must (refine (nilGet_calls _ _).mono ?_); rintro e w20 ⟨rfl, rfl⟩)
                      | (go_at_call 7; go_must (refine (hkn _).mono ?_); rintro e w21 ⟨rfl, hb21⟩)
                      | (go_at_call 17; go_must (refine (nilDown_calls _).mono ?_); rintro e w20 ⟨rfl, rfl⟩)
                      | (go_at_call 15; go_must (refine (nilNames_calls _).mono ?_); rintro e w20 ⟨rfl, rfl⟩)
                      | (go_at_call 10; go_must (refine (nilCopy_calls _).mono ?_); rintro e w20 ⟨rfl, rfl⟩)
                      | (go_at_call 14; go_must (refine (nilPut_calls _ _ _).mono ?_); rintro e w20 ⟨rfl, rfl⟩)
                      | (go_at_call 18; go_must (refine (nilDrop_calls _ _).mono ?_); rintro e w20 ⟨rfl, rfl⟩))
                    go_ret
                    exact ⟨rfl, by rw [hbx.out]; exact hb0.trans ((bthen b18 b18.size hb21).mono hbase)⟩
  · have hbad : fewA l = false ∨ (fewA l = true ∧ fewA more = false) ∨ (fewA l = true ∧ fewA more = true ∧ (20 : Int) < (x.name.length : Int)) ∨ (fewA l = true ∧ fewA more = true ∧ ¬ (20 : Int) < (x.name.length : Int) ∧ (100 : Int) < (x.data.length : Int)) := by
      cases hA : fewA l
      · exact .inl rfl
      cases hB : fewA more
      · exact .inr (.inl ⟨rfl, rfl⟩)
      by_cases h20 : x.name.length ≤ 20
      · by_cases h100 : x.data.length ≤ 100
        · exact absurd ⟨hA, hB, h20, h100⟩ hgood
        · exact .inr (.inr (.inr ⟨rfl, rfl, by omega, by omega⟩))
      · exact .inr (.inr (.inl ⟨rfl, rfl, by omega⟩))
    clear hgood hv0 hv1 hok1 hok2
    obtain ⟨W1, hW1⟩ : ∃ W1, w.alloc (.cells (actC x).toArray 33) = W1 := ⟨_, rfl⟩
    rw [hW1] at hf0 hf1 k1 hb0 hbase
    clear hnb
    rcases hbad with hA | ⟨hA, hB⟩ | ⟨hA, hB, hC⟩ | ⟨hA, hB, hC, hD⟩
    all_goals
      go_wp2_with (first
        | (rw [hW1])
        | (go_at_call 5; (with_reducible refine hf0.out.mono ?_); rintro e w2 ⟨rfl, hb2⟩
           have hf1 := hf1 _ hb2
           have s2 := hb2.size
           clear hf0)
        | (go_at_call 5; (with_reducible refine hf1.out.mono ?_); rintro e w3 ⟨rfl, hb3⟩
           have s3 := hb3.size
           clear hf1)
        | (go_at_call 6; go_must (refine (diskNew_calls _).mono ?_); rintro e w4 ⟨rfl, hD4, hb4⟩
           have s4 := hb4.size
           have hb14 := bthen (bthen hb2 s2 hb3) (Nat.le_trans s2 s3) hb4
           obtain ⟨k1a, k1b, k1c⟩ := k1 _ hb14)
        | (go_at_call 7; go_must (refine (hkn _).mono ?_); rintro e w5 ⟨rfl, hb5⟩))
      go_ret
      exact ⟨rfl, hb0.trans ((bthen hb14 hb14.size hb5).mono hbase)⟩
end Go.Proofs.Ytejaeclcgkcklaa
