/- Lemmas and walks of this seat, laid together: ShaV, DocX, DocY, DocZ, StoQ, ObjId, StoI, InvA. -/
import Derived.Test.YtnehabcopjgklaaDoorMi
/- The walk of layer 2's reference: Sum. Condition: the text has at most 2^40 bytes. -/
namespace Go.Proofs.YtnehabcopjgklaaDoor
open Go.RowKit
attribute [local go_sem ↓] Go.wp_at_zero Go.wp_at_succ
attribute [local go_sem ↓] ldv8_eq stv8_eq
attribute [local go_sem] run_ldv8 run_stv8
/-- The load of 64 words, not to be opened by the walk. -/
def ldv64 (p : Addr) : Sem Value := loadVar 87 p
theorem ldv64_eq (p : Addr) : loadVar 87 p = ldv64 p := rfl
theorem run_ldv64 (w : World) (g : Nat) (hh : HasRow w g 87 64) : (ldv64 ⟨g, 0, none⟩).run Tryd.prog w = .ok (.agg (RowOf w g)) w := by
  obtain ⟨cs, hn, h⟩ := hh
  rw [rowOf_blk h]
  exact run_loadVar_row w g _ _ _ _ _ h Tryd.underlying87 rfl (by rw [hn]; exact sz64)
attribute [local go_sem ↓] ldv64_eq
attribute [local go_sem] run_ldv64
theorem pad_done (n j : Nat) (hj : j ≤ padLen n) (h : (n + 1 + j) % 64 = 56) : j = padLen n := by unfold padLen at *; omega
theorem pad_more (n j : Nat) (hj : j ≤ padLen n) (h : (n + 1 + j) % 64 ≠ 56) : j + 1 ≤ padLen n := by unfold padLen at *; omega
theorem lenBytes_step' (n j : Nat) (hj : j < 8) : (lenBytes n).take (7 - j) ++ [UInt8.ofNat ((n : Int) * 8 / 2 ^ (8 * j) % 256).toNat] = (lenBytes n).take (8 - j) := by
  have := lenBytes_step n (7 - j) (by omega)
  rwa [show 56 - 8 * (7 - j) = 8 * j from by omega, show 7 - j + 1 = 8 - j from by omega] at this
theorem blocks_take (m : Nat) (s : H8) (l : List UInt8) : blocks (m + 1) s l = blocks m (blockOf s (l.take 64)) (l.drop 64) := rfl
theorem k_calls' (KK : List Nat) (h : Hid (K256 = KK)) (w : World) :
    Calls Tryd.prog 36 #[] w fun e w' => e = .returned (.agg (u32s KK)) ∧ Below w.heap.size w w' := h.out ▸ k_calls w
theorem refBlock_calls' (KK : List Nat) (h : Hid (K256 = KK)) (s0 : H8) (hs0 : s0.Fit) (b : List UInt8) (hb : b.length = 64) (w : World) :
    Calls Tryd.prog 37 #[.agg (u32s s0.list), .string (B b), .agg (u32s KK)] w fun e w' => e = .returned (.agg (u32s (blockOf s0 b).list)) ∧ Below w.heap.size w w' := h.out ▸ refBlock_calls s0 hs0 b hb w
set_option maxRecDepth 100000 in
set_option maxHeartbeats 2000000 in
theorem refSum_calls (l : List UInt8) (w : World) (hlen : l.length ≤ 1099511627776) :
    Calls Tryd.prog 23 #[.string (B l)] w fun e w' => e = .returned (.agg (u8s (shaOf l))) ∧ Below w.heap.size w w' := by
  have hll : (l.length : Int) ≤ 1099511627776 := by omega
  obtain ⟨KK, hKK⟩ : ∃ KK, Hid (K256 = KK) := ⟨_, rfl⟩
  have hKl : KK.length = 64 := by rw [← hKK.out]; exact K256_length
  have hst1 := Tryd.str_of_one
  have hst2 := fun (o : Obj) (x : Int) => Tryd.str_of_oneAt (w.alloc o) (w.heap.size + 1) x (by simp)
  go_enter Tryd.func23, Tryd.ntmps23
  go_wp2
  clear hst2
  have g0 := (Blk.new w 24 (u8s (List.replicate 32 0))).alloc (.cells #[.int .u8 128] 5)
  have b0 : Below w.heap.size w ((w.alloc (.cells (u8s (List.replicate 32 0)) 24)).alloc (.cells #[.int .u8 128] 5)) := ((Below.refl _ _).alloc (Nat.le_refl _) _).alloc (by simp) _
  go_loopw [4] (fun tx wr => ∃ (j : Nat), j ≤ padLen l.length ∧ tx = .string (B (l ++ 128 :: List.replicate j 0)) ∧ Blk wr w.heap.size 24 (u8s (List.replicate 32 0)) ∧ Below w.heap.size w wr) (fun tx _ => l.length + 1 + 64 - (strOf tx).length)
  case atStart => exact ⟨0, by omega, by simp, g0, b0⟩
  case round =>
    clear g0 b0
    obtain ⟨j, hj, rfl, hr, hbel⟩ := hrel
    have hrl := hr.lt
    have hp64 : padLen l.length < 64 := by unfold padLen; omega
    have hjl : (j : Int) < 64 := by omega
    have hlen0 : (l ++ 128 :: List.replicate j 0).length = l.length + 1 + j := by simp; omega
    by_cases hd : (l.length + 1 + j) % 64 = 56
    · have hje := pad_done _ _ hj hd
      have ht1 : (((l ++ 128 :: List.replicate j 0).length : Int) % 64 != 56) = false := by rw [hlen0]; simp; omega
      have ht2 : (((l.length : Int) + ((j : Int) + 1)) % 64 != 56) = false := by simp; omega
      have ht3 : (((l.length : Int) + 1 + (j : Int)) % 64 != 56) = false := by simp; omega
      have hbsl := Lib.hid hlen0
      have hbse : Hid (l ++ 128 :: List.replicate j 0 = l ++ 128 :: List.replicate (padLen l.length) 0) := by show _ = _; rw [← hje]
      clear hje hd hj
      generalize l ++ 128 :: List.replicate j 0 = bs at *
      have hbl : bs.length ≤ 1099511627776 + 65 := by omega
      clear hlen0
      go_wp2
      go_loopw [5, 4] (fun i tx wr => ∃ k : Nat, i = .int .i64 (7 - (k : Int)) ∧ k ≤ 8 ∧ tx = .string (B (bs ++ (lenBytes l.length).take k)) ∧ Blk wr w.heap.size 24 (u8s (List.replicate 32 0)) ∧ Below w.heap.size w wr) (fun i _ _ => (intOf i + 1).toNat)
      case atStart => exact ⟨0, rfl, by omega, by rw [List.take_zero, List.append_nil], hr, hbel⟩
      case round =>
        clear hr hbel hrl ht1 ht2 ht3
        obtain ⟨k, rfl, hk, rfl, hr, hbel⟩ := hrel
        have hrl := hr.lt
        by_cases hk8 : k < 8
        · obtain ⟨i, hi⟩ : ∃ i : Nat, (7 - (k : Int)) = (i : Int) := ⟨7 - k, by omega⟩
          have hi8 : i < 8 := by omega
          have hii : (i : Int) < 8 := by omega
          have hstep := lenBytes_step' l.length i hi8
          rw [show 7 - i = k from by omega, show 8 - i = k + 1 from by omega] at hstep
          have hsteph := Lib.hid hstep
          clear hstep
          have hnext : Hid ((i : Int) - 1 = 7 - ((k + 1 : Nat) : Int)) := by show _ = _; omega
          rw [hi]
          clear hi
          have ht0 : ((lenBytes l.length).take k).length ≤ 8 := by rw [List.length_take]; omega
          generalize (lenBytes l.length).take k = t0 at *
          go_wp2
          go_roundw
          case rel => exact ⟨k + 1, congrArg (Value.int .i64) hnext.out, by omega, by rw [← hsteph.out], hr.alloc _, hbel.alloc (by omega) _⟩
          case measure => simp [intOf]
        · have hk8' : k = 8 := by omega
          have hki : (7 - (k : Int)) < 0 := by omega
          have hpd : bs ++ (lenBytes l.length).take k = padded l := by
            rw [hk8', List.take_of_length_le (by rw [lenBytes_length]; omega), hbse.out]
            simp [padded]
          rw [hpd]
          clear hpd hk8'
          obtain ⟨m0, hm0⟩ := padded_length l
          have hst0 : Hid (blocks m0 H0 (padded l) = stateOf l) := by
            show _ = _
            rw [stateOf, hm0, Nat.mul_div_cancel_left _ (by omega)]
          have hpdl : (padded l).length ≤ 1099511627976 := by
            have : (padded l).length = l.length + 1 + padLen l.length + 8 := by simp [padded, lenBytes_length]; omega
            rw [this]; omega
          have hm0h := Lib.hid hm0
          clear hm0 hbse hbsl
          generalize padded l = pd at *
          have hi8 : (Tryd.prog.info? 86).map (·.size) = some (u32s H0.list).size := by rw [u32s_list_size]; exact sz8
          have hall := u32s_one H0.list
          have hold : (u32s (List.replicate 8 0)).size = (u32s H0.list).size := rfl
          have hv0 := Blk.new wr 86 (u32s (List.replicate 8 0))
          have h0 : Blk (World.setRow (wr.alloc (.cells (u32s (List.replicate 8 0)) 86)) wr.heap.size (u32s H0.list)) wr.heap.size 86 (u32s H0.list) := setRow_heap _ _ _ _ _ _ hv0
          have h1 : Blk (World.setRow (wr.alloc (.cells (u32s (List.replicate 8 0)) 86)) wr.heap.size (u32s H0.list)) w.heap.size 24 (u8s (List.replicate 32 0)) := by
            unfold Blk; rw [setRow_other _ _ _ _ (by omega)]; exact hr.alloc _
          have h2 : Below w.heap.size w (World.setRow (wr.alloc (.cells (u32s (List.replicate 8 0)) 86)) wr.heap.size (u32s H0.list)) := below_setRow (hbel.alloc (by omega) _) (by omega) _
          have hi64 : (Tryd.prog.info? 87).map (·.size) = some (u32s KK).size := by rw [u32s_size, hKl]; exact sz64
          have hall64 := u32s_one KK
          have hold64 : (u32s (zeros 64)).size = (u32s KK).size := by rw [u32s_size, u32s_size, hKl, zeros_length]
          go_wp2_with (first
            | (refine wpList_store_row rfl 86 (.tmp 6) (.tmp 41) rfl wr.heap.size (u32s H0.list) rfl rfl _ _ hv0 hi8 hold hall ?_)
            | (refine wpList_store_row rfl 87 (.tmp 7) (.tmp 42) rfl w1.heap.size (u32s KK) rfl rfl _ _ (Blk.new w1 87 (u32s (zeros 64))) hi64 hold64 hall64 ?_)
            | (go_at_call 36; go_must (refine (k_calls' KK hKK _).mono ?_); rintro e w1 ⟨rfl, hb1⟩))
          clear hv0 hr hbel hall hold hi8 hold64 hall64 hi64
          have k0 := h0.below hb1 h0.lt
          have k1 := h1.below hb1 h1.lt
          have k2 := bthen h2 h2.size hb1
          have hvw1 : wr.heap.size < w1.heap.size := k0.lt
          have hv1 := Blk.new w1 87 (u32s (zeros 64))
          have q0 : Blk (World.setRow (w1.alloc (.cells (u32s (zeros 64)) 87)) w1.heap.size (u32s KK)) w1.heap.size 87 (u32s KK) := setRow_heap _ _ _ _ _ _ hv1
          have q1 : Blk (World.setRow (w1.alloc (.cells (u32s (zeros 64)) 87)) w1.heap.size (u32s KK)) wr.heap.size 86 (u32s H0.list) := by
            unfold Blk; rw [setRow_other _ _ _ _ (by omega)]; exact k0.alloc _
          have q2 : Blk (World.setRow (w1.alloc (.cells (u32s (zeros 64)) 87)) w1.heap.size (u32s KK)) w.heap.size 24 (u8s (List.replicate 32 0)) := by
            unfold Blk; rw [setRow_other _ _ _ _ (by omega)]; exact k1.alloc _
          have q3 : Below w.heap.size w (World.setRow (w1.alloc (.cells (u32s (zeros 64)) 87)) w1.heap.size (u32s KK)) := below_setRow (k2.alloc (by omega) _) (by omega) _
          obtain ⟨vb, hvb⟩ : ∃ vb, wr.heap.size = vb := ⟨_, rfl⟩
          obtain ⟨kb, hkb⟩ : ∃ kb, w1.heap.size = kb := ⟨_, rfl⟩
          have hvw : w.heap.size < vb := by omega
          have hkw : vb < kb := by omega
          obtain ⟨wz, hwz⟩ : ∃ wz, World.setRow (w1.alloc (.cells (u32s (zeros 64)) 87)) w1.heap.size (u32s KK) = wz := ⟨_, rfl⟩
          rw [hwz] at q0 q1 q2 q3
          clear h0 h1 h2 k0 k1 k2 hb1 hv1 hvw1
          go_loopw [8] (fun i wr => ∃ (i' m : Nat) (s : H8), i = .int .i64 i' ∧ i' ≤ 1099511627976 ∧ Hid (pd.length = i' + 64 * m) ∧ Hid (blocks m s (pd.drop i') = stateOf l) ∧ s.Fit ∧ Blk wr kb 87 (u32s KK) ∧ Blk wr vb 86 (u32s s.list) ∧ Blk wr w.heap.size 24 (u8s (List.replicate 32 0)) ∧ Below w.heap.size w wr) (fun i _ => pd.length + 64 - (intOf i).toNat)
          case atStart => exact ⟨0, m0, H0, rfl, by omega, by rw [Nat.zero_add]; exact hm0h, hst0, H0_fit, hwz ▸ hkb ▸ q0, hwz ▸ hvb ▸ q1, hwz ▸ q2, hwz ▸ q3⟩
          case round =>
            rw [hvb, hkb]
            clear q0 q1 q2 q3 hwz hvb hkb hm0h hst0 hrl
            obtain ⟨i, m, s, rfl, hi, hm, hst, hfit, h0, h1, h2, h3⟩ := hrel
            have hbs1 := h1.lt
            by_cases hlt : i + 64 ≤ pd.length
            · have hlti : (i : Int) + 64 ≤ (pd.length : Int) := by omega
              have hR : HasRow wr vb 86 8 := hasRow_blk h1 (u32s_list_size s)
              have hO : RowOf wr vb = u32s s.list := rowOf_blk h1
              have hRd : HasRow wr.drew vb 86 8 := hR
              have hOd : RowOf wr.drew vb = u32s s.list := hO
              have hRk : HasRow wr kb 87 64 := hasRow_blk h0 (by rw [u32s_size]; exact hKl)
              have hOk : RowOf wr kb = u32s KK := rowOf_blk h0
              have hRkd : HasRow wr.drew kb 87 64 := hRk
              have hOkd : RowOf wr.drew kb = u32s KK := hOk
              have h0d : Blk wr.drew kb 87 (u32s KK) := h0
              have h1d : Blk wr.drew vb 86 (u32s s.list) := h1
              have hbs1d : vb < wr.drew.heap.size := hbs1
              have hbs0d : kb < wr.drew.heap.size := h0.lt
              go_wp2
              have s1 : IntKind.i64.wrap ((i : Int) + 64) = (i : Int) + 64 := IntWalk.i64_in _ (by omega)
              have s2 : 0 ≤ (i : Int) + 64 := by omega
              have s3 : (i : Int) ≤ (i : Int) + 64 := by omega
              have s4 : ((i : Int) + 64).toNat = i + 64 := by omega
              have s5 : i + 64 - i = 64 := by omega
              go_region_with (first
                  | (go_at_call 37; go_must (refine (refBlock_calls' KK hKK s hfit ((pd.drop i).take 64) (by rw [List.length_take, List.length_drop]; omega) _).mono ?_); rintro e w1 ⟨rfl, hb1⟩; have hRc := hasRow_blk (h1d.below hb1 hbs1d) (u32s_list_size s); have hOc := rowOf_blk (h1d.below hb1 hbs1d)))
              all_goals
                clear s1 s2 s3 s4 s5
                have e0 : Blk (w1.setRow vb (u32s (blockOf s ((pd.drop i).take 64)).list)) kb 87 (u32s KK) := by
                  unfold Blk; rw [setRow_other _ _ _ _ (by omega)]; exact Blk.below (w := wr.drew) h0 hb1 h0.lt
                have e1 := setRow_heap w1 vb _ (u32s (blockOf s ((pd.drop i).take 64)).list) _ _ (h1d.below hb1 hbs1d)
                have e2 : Blk (w1.setRow vb (u32s (blockOf s ((pd.drop i).take 64)).list)) w.heap.size 24 (u8s (List.replicate 32 0)) := by
                  unfold Blk; rw [setRow_other _ _ _ _ (by omega)]; exact Blk.below (w := wr.drew) h2 hb1 h2.lt
                have e3 := below_setRow (bthen h3.drew (Nat.le_of_lt h2.lt) hb1) (Nat.le_of_lt hvw) (u32s (blockOf s ((pd.drop i).take 64)).list)
                have hml := hm.out
                obtain ⟨m', rfl⟩ : ∃ m', m = m' + 1 := ⟨m - 1, by omega⟩
                have hnst : Hid (blocks m' (blockOf s ((pd.drop i).take 64)) (pd.drop (i + 64)) = stateOf l) := by
                  have := hst.out
                  rw [blocks_take, List.drop_drop] at this
                  exact this
                have hnm : Hid (pd.length = i + 64 + 64 * m') := by show _ = _; omega
                have hfit2 : (blockOf s ((pd.drop i).take 64)).Fit := plus_fit _ _
                generalize blockOf s ((pd.drop i).take 64) = s' at *
                clear hRc hOc hb1 hml hm hst
                generalize w1.setRow vb (u32s s'.list) = wz at *
                go_wp2
                go_roundw
                case rel => exact ⟨i + 64, m', s', by go_num, by omega, hnm, hnst, hfit2, e0, e1, e2, e3⟩
                case measure => simp [intOf]; omega
            · have hlti : (pd.length : Int) < (i : Int) + 64 := by omega
              have hsl : Hid (s = stateOf l) := by
                have hm0' : m = 0 := by have := hm.out; omega
                have := hst.out
                rw [hm0'] at this
                exact this
              clear hst hm
              have hg0 := Blk.new wr 24 (u8s (List.replicate 32 0))
              have k0 : Blk (World.setRow (wr.alloc (.cells (u8s (List.replicate 32 0)) 24)) wr.heap.size (u8s (List.replicate 32 0))) wr.heap.size 24 (u8s (List.replicate 32 0)) := setRow_heap _ _ _ _ _ _ hg0
              have k1 : Blk (World.setRow (wr.alloc (.cells (u8s (List.replicate 32 0)) 24)) wr.heap.size (u8s (List.replicate 32 0))) vb 86 (u32s s.list) := by
                unfold Blk; rw [setRow_other _ _ _ _ (by omega)]; exact h1.alloc _
              have k2 : Blk (World.setRow (wr.alloc (.cells (u8s (List.replicate 32 0)) 24)) wr.heap.size (u8s (List.replicate 32 0))) w.heap.size 24 (u8s (List.replicate 32 0)) := by
                unfold Blk; rw [setRow_other _ _ _ _ (by omega)]; exact h2.alloc _
              have k3 : Below w.heap.size w (World.setRow (wr.alloc (.cells (u8s (List.replicate 32 0)) 24)) wr.heap.size (u8s (List.replicate 32 0))) := below_setRow (h3.alloc (Nat.le_of_lt h2.lt) _) (by omega) _
              have hi' : (Tryd.prog.info? 24).map (·.size) = some (u8s (List.replicate 32 0)).size := by rw [u8s_size, List.length_replicate]; exact sz32
              have hall' := u8s_one (List.replicate 32 0)
              go_wp2_with (first
                | (refine wpList_store_row rfl 24 (.tmp 9) (.tmp 58) rfl wr.heap.size (u8s (List.replicate 32 0)) rfl rfl _ _ hg0 hi' rfl hall' ?_))
              obtain ⟨ib, hib⟩ : ∃ ib, wr.heap.size = ib := ⟨_, rfl⟩
              have hvi : vb < ib := by omega
              clear h0 h1 h2 h3 hg0
              obtain ⟨wz, hwz⟩ : ∃ wz, World.setRow (wr.alloc (.cells (u8s (List.replicate 32 0)) 24)) wr.heap.size (u8s (List.replicate 32 0)) = wz := ⟨_, rfl⟩
              rw [hwz] at k0 k1 k2 k3
              go_loopw [10] (fun i wr => ∃ k : Nat, i = .int .i64 k ∧ k ≤ 32 ∧ Blk wr ib 24 (u8s ((idOf s).take k ++ List.replicate (32 - k) 0)) ∧ Blk wr vb 86 (u32s s.list) ∧ Blk wr w.heap.size 24 (u8s (List.replicate 32 0)) ∧ Below w.heap.size w wr) (fun i _ => 32 - (intOf i).toNat)
              case atStart => exact ⟨0, rfl, by omega, hwz ▸ hib ▸ k0, hwz ▸ k1, hwz ▸ k2, hwz ▸ k3⟩
              case round =>
                rw [hib]
                clear k0 k1 k2 k3 hwz hib hbs1
                obtain ⟨i, rfl, hi, h0, h1, h2, h3⟩ := hrel
                have hbi := h0.lt
                by_cases hi32 : i < 32
                · have hii : (i : Int) < 32 := by omega
                  have hq : (i : Int) / 4 < 8 := by omega
                  have hq0 : (0 : Int) ≤ (i : Int) / 4 := by omega
                  have hqn : i / 4 < 8 := by omega
                  have cw : wr.cell? ⟨vb, i / 4, none⟩ = some (.int .u32 (s.list.getD (i / 4) 0 : Nat)) := by
                    rw [h1.cell, u32s_get _ _ hqn]
                  have cz : wr.cell? ⟨ib, i, none⟩ = some (.int .u8 ((((idOf s).take i ++ List.replicate (32 - i) 0).getD i 0).toNat : Nat)) := by
                    rw [h0.cell, u8s_get _ _ (by rw [List.length_append, List.length_take, idOf_length, List.length_replicate]; omega)]
                  have fz := h0.frozen i
                  have hset := Lib.hid (take_set (idOf s) i 32 (by rw [idOf_length]; exact hi32) (idOf_length s).symm)
                  have hget := Lib.hid (idOf_get s i hi32)
                  generalize (((idOf s).take i ++ List.replicate (32 - i) 0).getD i 0).toNat = oz at *
                  generalize s.list.getD (i / 4) 0 = x at *
                  go_wp2
                  have hvv : (x : Int) / 2 ^ (24 - 8 * (i % 4)) % 256 = ((x / 2 ^ (24 - 8 * (i % 4)) % 256 : Nat) : Int) := by simp
                  rw [hvv]
                  have hlt := Nat.mod_lt (x / 2 ^ (24 - 8 * (i % 4))) (show 0 < 256 by omega)
                  have hn := h0.set_ i (.int .u8 ((x / 2 ^ (24 - 8 * (i % 4)) % 256 : Nat) : Int))
                  rw [u8s_set _ _ _ hlt, ← hget.out, hset.out] at hn
                  go_roundw
                  case rel => exact ⟨i + 1, by go_num, by omega, hn, h1.far (by simp; omega) _, h2.far (by simp; omega) _, h3.setCell (by simp; omega) _⟩
                  case measure => simp [intOf]; omega
                · have hi32' : i = 32 := by omega
                  have hii : ¬ (i : Int) < 32 := by omega
                  have h0' : Blk wr ib 24 (u8s (idOf s)) := by
                    rw [hi32', List.take_of_length_le (by rw [idOf_length]; omega), Nat.sub_self, List.replicate_zero, List.append_nil] at h0
                    exact h0
                  clear hi32' h0
                  have hid : (idOf s).length = 32 := idOf_length s
                  have hfin : Hid (shaOf l = idOf s) := by show _ = _; rw [hsl.out]; rfl
                  clear hsl
                  generalize idOf s = id at *
                  have hi2 : (Tryd.prog.info? 24).map (·.size) = some (u8s id).size := by rw [u8s_size, hid]; exact sz32
                  have hall2 := u8s_one id
                  have hold2 : (u8s (List.replicate 32 0)).size = (u8s id).size := by rw [u8s_size, u8s_size, hid, List.length_replicate]
                  go_wp2_with (first
                    | (refine wpList_load_row rfl 24 (.tmp 9) rfl ib rfl _ _ _ _ h0' Tryd.underlying24 rfl hi2 ?_)
                    | (refine wpList_store_row rfl 24 (.tmp 2) (.tmp 76) rfl w.heap.size (u8s id) rfl rfl _ _ h2 hi2 hold2 hall2 ?_))
                  exact bodyPost_ret (results_cell_row rfl _ _ w.heap.size _ _ _ _ rfl (setRow_heap _ _ _ _ _ _ h2) Tryd.underlying24 rfl hi2) rfl ⟨by rw [hfin.out], below_setRow h3 (Nat.le_refl _) _⟩
    · have hjm := pad_more _ _ hj hd
      have ht1 : (((l ++ 128 :: List.replicate j 0).length : Int) % 64 != 56) = true := by rw [hlen0]; simp; omega
      have ht2 : (((l.length : Int) + ((j : Int) + 1)) % 64 != 56) = true := by simp; omega
      have ht3 : (((l.length : Int) + 1 + (j : Int)) % 64 != 56) = true := by simp; omega
      have hq : Hid ((l ++ 128 :: List.replicate j 0) ++ [0] = l ++ 128 :: List.replicate (j + 1) 0) := by
        show _ = _
        rw [List.append_assoc, List.cons_append, ← List.replicate_succ']
      go_wp2
      go_roundw
      case rel => exact ⟨j + 1, hjm, by rw [← hq.out]; simp, hr.alloc _, hbel.alloc (by omega) _⟩
      case measure => rw [strOf_B, strOf_B]; simp; omega
end Go.Proofs.YtnehabcopjgklaaDoor
/- The walk of layer 11's document: With. No condition. -/
namespace Go.Proofs.YtnehabcopjgklaaDoor
open Go.RowKit
def stvS (p : Addr) (v : Value) : Sem Unit := storeVar 30 p v
theorem stvS_eq (p : Addr) (v : Value) : storeVar 30 p v = stvS p v := rfl
def ldvT (p : Addr) : Sem Value := loadVar 57 p
theorem ldvT_eq (p : Addr) : loadVar 57 p = ldvT p := rfl
attribute [local go_sem ↓] ldvI_eq ldvO_eq ldvS_eq ldvT_eq stvI_eq stvS_eq
/-- An item of es, or one whose slices lie from B on. -/
def OldOr (B : Nat) (es : List DiL) (e : DiL) : Prop := e ∈ es ∨ ((∀ k, e.ve.ownBlock = some k → B ≤ k) ∧ ∀ k, e.vp.ownBlock = some k → B ≤ k)
def WithQ (B : Nat) (es : List DiL) (L : List StL) (n : Txt) (b : Bool) (e : Ending) (w' : World) : Prop := ∃ vm' es', e = .returned (.tuple #[.agg #[vm'], .agg (u8s n), .bool b]) ∧ DocSt w' vm' es' ∧ es'.map (·.st) = L ∧ ∀ e ∈ es', OldOr B es e
def WithR (w : World) (es : List DiL) (t : Txt) (e : Ending) (w' : World) : Prop := WithQ w.heap.size es (putS (es.map (·.st)) t) (putI t) (decO t).isSome e w'
/-- A store and an id are told. -/
theorem with_ret {W : World} {g4 g5 : Nat} {vm vz : Value} {n : Txt} {zi : Array Value} (h4 : Blk W g4 30 #[vz]) (h5 : Blk W g5 24 zi) (hne : g4 ≠ g5) (hn : n.length = 32) (hz : zi.size = 32) (hv : vm.oneCell' = true) :
    (stvS ⟨g4, 0, none⟩ (.agg #[vm])).run Tryd.prog W = .ok () (W.setRow g4 #[vm]) ∧ (stvI ⟨g5, 0, none⟩ (.agg (u8s n))).run Tryd.prog (W.setRow g4 #[vm]) = .ok () ((W.setRow g4 #[vm]).setRow g5 (u8s n)) ∧
    ((W.setRow g4 #[vm]).setRow g5 (u8s n)).heap[g4]? = some (.cells #[vm] 30 (0, 0)) ∧ ((W.setRow g4 #[vm]).setRow g5 (u8s n)).heap[g5]? = some (.cells (u8s n) 24 (0, 0)) := by
  have hl : (u8s n).size = 32 := by rw [u8s_size, hn]
  have h5' : Blk (W.setRow g4 #[vm]) g5 24 zi := by
    show (W.setRow g4 #[vm]).heap[g5]? = _
    rw [setRow_other _ _ _ _ (fun e => hne e.symm)]
    exact h5
  refine ⟨run_storeVar_row W g4 _ _ _ _ h4 szDSt rfl (by simp [hv]), run_storeVar_row _ g5 _ _ _ _ h5' (by rw [hl]; exact sz32) (hz.trans hl.symm) (u8s_one n), ?_, setRow_heap _ _ _ _ _ _ h5'⟩
  rw [setRow_other _ _ _ _ hne]
  exact setRow_heap _ _ _ _ _ _ h4
/-- Both results are told, in whatever order: the store's row and the id's. -/
theorem tell_both {W : World} {g4 g5 : Nat} {vm vz : Value} {n : Txt} {zi : Array Value} (h4 : Blk W g4 30 #[vz]) (h5 : Blk W g5 24 zi) (hne : g4 ≠ g5) (hn : n.length = 32) (hz : zi.size = 32) (hv : vm.oneCell' = true) :
    (stvI ⟨g5, 0, none⟩ (.agg (u8s n))).run Tryd.prog W = .ok () (W.setRow g5 (u8s n)) ∧ (stvS ⟨g4, 0, none⟩ (.agg #[vm])).run Tryd.prog (W.setRow g5 (u8s n)) = .ok () ((W.setRow g4 #[vm]).setRow g5 (u8s n)) := by
  have hl : (u8s n).size = 32 := by rw [u8s_size, hn]
  have h4' : Blk (W.setRow g5 (u8s n)) g4 30 #[vz] := by
    show (W.setRow g5 (u8s n)).heap[g4]? = _
    rw [setRow_other _ _ _ _ hne]
    exact h4
  have hc : (W.setRow g4 #[vm]).setRow g5 (u8s n) = (W.setRow g5 (u8s n)).setRow g4 #[vm] := by
    unfold World.setRow
    congr 1
    apply Array.ext_getElem?
    intro i
    simp only [Array.getElem?_modify]
    by_cases e4 : g4 = i
    · subst e4
      simp [Ne.symm hne]
    · by_cases e5 : g5 = i
      · subst e5
        simp [hne]
      · simp [e4, e5]
  refine ⟨run_storeVar_row W g5 _ _ _ _ h5 (by rw [hl]; exact sz32) (hz.trans hl.symm) (u8s_one n), ?_⟩
  rw [hc]
  exact run_storeVar_row _ g4 _ _ _ _ h4' szDSt rfl (by simp [hv])
theorem acc_bounds {a n : Nat} (h : a ≤ n + 1) (hf : n < 490000) : a + 1 ≤ 9223372036854775807 ∧ (a + 1) * 232 ≤ 140737488355328 ∧ (a + 1) + 1 ≤ 9223372036854775807 ∧ ((a + 1) + 1) * 232 ≤ 140737488355328 := by
  refine ⟨by omega, by omega, by omega, by omega⟩
/-- The list that was laid is a store. -/
theorem with_laid {F : World} {base : Nat} {vo : Value} {es : List DiL} {nw : DiL} {x : StL} {p B : Nat} (own : OwnDits F base vo (es.take p ++ [nw] ++ es.drop p)) (each : ∀ e ∈ es, DitOk F e) (hnw : DitOk F nw) (hst : nw.st = x) (hB : (∀ k, nw.ve.ownBlock = some k → B ≤ k) ∧ ∀ k, nw.vp.ownBlock = some k → B ≤ k)
    (hins : insK StL.id (es.map (·.st)) x = (es.take p).map (·.st) ++ [x] ++ (es.drop p).map (·.st)) (hput : StoOk (insK StL.id (es.map (·.st)) x)) : ∃ es', DocSt F vo es' ∧ es'.map (·.st) = insK StL.id (es.map (·.st)) x ∧ ∀ e ∈ es', OldOr B es e := by
  have hmem : ∀ e ∈ es.take p ++ [nw] ++ es.drop p, DitOk F e := by
    intro e he
    rcases List.mem_append.1 he with he | he
    · rcases List.mem_append.1 he with he | he
      · exact each e (List.mem_of_mem_take he)
      · rw [List.mem_singleton.1 he]; exact hnw
    · exact each e (List.mem_of_mem_drop he)
  have hmap : (es.take p ++ [nw] ++ es.drop p).map (·.st) = insK StL.id (es.map (·.st)) x := by
    rw [hins, List.map_append, List.map_append, ← hst]
    rfl
  exact ⟨_, ⟨own_low' own (Nat.zero_le _), hmem, by rw [hmap]; exact hput⟩, hmap, fun e he => by
    rcases List.mem_append.1 he with he | he
    · rcases List.mem_append.1 he with he | he
      · exact .inl (List.mem_of_mem_take he)
      · rw [List.mem_singleton.1 he]; exact .inr hB
    · exact .inl (List.mem_of_mem_drop he)⟩
theorem own_named {w : World} {base : Nat} {e : TypeId} {size n : Nat} {v : Value} {xs : List Value} (h : w.ownsRow base e size v n xs) : ∃ A c L, v = .slice A L c := by
  obtain ⟨A, c, rfl⟩ := own_form' h
  exact ⟨A, c, n, rfl⟩
theorem keep_row {W : World} {g k : Nat} {t : TypeId} {cs : Array Value} (h : Blk W k t cs) (hne : k ≠ g) (c : Array Value) : Blk (W.setRow g c) k t cs := by
  show (W.setRow g c).heap[k]? = _
  rw [setRow_other _ _ _ _ hne]
  exact h
theorem hasK_get (s : List StL) (n : Txt) : hasK StL.id s n = (getS s n).isSome := by
  unfold hasK getS
  rw [Bool.eq_iff_iff, List.any_eq_true, List.find?_isSome]
theorem less_from {s : List StL} {n : Txt} {x : StL} {k : Nat} (hs : SortedK StL.id s) (hh : hasK StL.id s n = false) (hx : s[k]? = some x) : Op.bytesLess n x.id = decide (posK StL.id s n ≤ k) := by
  have h1 := sorted_at (n := n) hs hx
  have hm := hasK_mem hh x (List.mem_of_getElem? hx)
  cases hb : Op.bytesLess x.id n with
  | true =>
    rw [less_asymm hb]
    rw [hb] at h1
    have := of_decide_eq_true h1.symm
    symm
    rw [decide_eq_false_iff_not]
    omega
  | false =>
    rw [less_total hb (by simpa using hm)]
    rw [hb] at h1
    have := of_decide_eq_false h1.symm
    symm
    rw [decide_eq_true_iff]
    omega
end Go.Proofs.YtnehabcopjgklaaDoor
/- The walk of layer 11's document: With, a text that is no object's, or one that is there. No condition. -/
namespace Go.Proofs.YtnehabcopjgklaaDoor
open Go.RowKit
attribute [local go_sem ↓] ldvI_eq ldvO_eq ldvS_eq ldvT_eq stvI_eq stvS_eq
set_option maxRecDepth 100000 in
set_option maxHeartbeats 16000000 in
theorem docWith_none {w : World} {vm : Value} {es : List DiL} (h : DocSt w vm es) (hf : es.length < 490000) (t : Txt) (ht : t.length ≤ 5000) (hd : decO t = none) :
    Calls Tryd.prog 8 #[.agg #[vm], .string (B t)] w fun e w' => WithR w es t e w' ∧ Below w.heap.size w w' := by
  have hzI := zeroIdV
  have hzo := zeroObj
  have hz72 := zObj_size
  have hrb := fun W => run_build (P := Tryd.prog) W _ _ _ built_zId
  have hZ32 : (u8s noId).size = 32 := by rw [u8s_size, noId_len]
  have hZone := u8s_one noId
  have hszI : ∀ cs : Array Value, cs.size = 32 → (Tryd.prog.info? 24).map (·.size) = some cs.size := fun cs h => by rw [h]; exact sz32
  obtain ⟨W1, hW1⟩ : ∃ W1, w.alloc (.cells #[vm] 30) = W1 := ⟨_, rfl⟩
  have s1 : Blk W1 w.heap.size 30 #[vm] := by rw [← hW1]; exact Blk.new _ _ _
  have b1 : Below w.heap.size w W1 := by rw [← hW1]; exact (Below.refl _ _).alloc (Nat.le_refl _) _
  obtain ⟨W2, hW2⟩ : ∃ W2, W1.alloc (.cells #[.slice none 0 0] 30) = W2 := ⟨_, rfl⟩
  have r2 : Blk W2 W1.heap.size 30 #[.slice none 0 0] := by rw [← hW2]; exact Blk.new _ _ _
  have bb2 : Below W1.heap.size W1 W2 := by rw [← hW2]; exact (Below.refl _ _).alloc (Nat.le_refl _) _
  obtain ⟨W3, hW3⟩ : ∃ W3, W2.alloc (.cells (u8s noId) 24) = W3 := ⟨_, rfl⟩
  have i3 : Blk W3 W2.heap.size 24 (u8s noId) := by rw [← hW3]; exact Blk.new _ _ _
  have bb3 : Below W2.heap.size W2 W3 := by rw [← hW3]; exact (Below.refl _ _).alloc (Nat.le_refl _) _
  have s2 := s1.below bb2 s1.lt
  have s3 := s2.below bb3 s2.lt
  have r3 := r2.below bb3 r2.lt
  have b2 := bthen b1 b1.size bb2
  have b3 := bthen b2 b2.size bb3
  have hl1 := s1.lt
  have hl2 := r2.lt
  have hvm : vm.oneCell' = true := by
    obtain ⟨A, cap, rfl, _⟩ := h.at_
    rfl
  have hde := refDecode_calls t ht W3
  have hn0 : (List.replicate 32 (0 : UInt8)) = noId := rfl
  unfold WithR
  rw [hd]
  have hpi : putI t = noId := by unfold putI; rw [hd]; exact hn0
  have hps : ∀ s, putS s t = s := fun s => by unfold putS; rw [hd]
  rw [hpi, hps]
  rw [hd] at hde
  have hde : Hid (Calls Tryd.prog 28 #[.string (B t)] W3 fun e w' => e = .returned (.tuple #[.agg zObj, .bool false]) ∧ Below W3.heap.size W3 w') := hde
  have hzone : zObj.all (·.oneCell') = true := objC_all zeroO none none 0 0 0 0
  have hst := h
  clear h hd hpi hps hn0
  generalize zObj = ZO at *
  go_enter Tryd.func8, Tryd.ntmps8
  go_wp2_with (first
    | ((with_reducible refine hde.out.mono ?_); rintro e w4 ⟨rfl, hb4⟩
       have b4 := bthen b3 b3.size hb4
       have s4 := s3.below hb4 s3.lt
       have r4 := r3.below hb4 r3.lt
       have i4 := i3.below hb4 i3.lt)
    | ((with_reducible refine lit_new 41 (.tmp 7) (.tmp 17) ZO 72 szObj hz72 hzone _ ?_ ?_ ?_ ?_)
       · first | exact hz72 | rfl
       · rfl
       · rfl
       intro W5 hb5 hbl5
       have b5 := bthen b4 b4.size hbl5
       have s5 := s4.below hbl5 s4.lt
       have r5 := r4.below hbl5 r4.lt
       have i5 := i4.below hbl5 i4.lt
       have l5 := run_ldvS s5
       obtain ⟨t1, t2, t3, t4⟩ := with_ret (n := noId) r5 i5 (by omega) noId_len hZ32 hvm))
  have bF := below_setRow (below_setRow b5 (Nat.le_of_lt hl1) #[vm]) (Nat.le_of_lt (Nat.lt_of_lt_of_le hl1 (Nat.le_of_lt hl2))) (u8s noId)
  refine bodyPost_ret (results_row2_tmp rfl _ _ W1.heap.size W2.heap.size _ _ _ _ _ _ _ _ rfl t3 rfl t4 Tryd.underlying30 rfl szDSt Tryd.underlying24 rfl (hszI _ hZ32)) rfl ⟨⟨vm, es, rfl, hst.below bF, rfl, fun e he => .inl he⟩, bF⟩
set_option maxRecDepth 100000 in
set_option maxHeartbeats 16000000 in
theorem docWith_hit {w : World} {vm : Value} {es : List DiL} (h : DocSt w vm es) (hf : es.length < 490000) (t : Txt) (ht : t.length ≤ 5000) {o : ObjL} (hd : decO t = some o) {y : StL} (hG : getS (es.map (·.st)) (shaOf t) = some y) :
    Calls Tryd.prog 8 #[.agg #[vm], .string (B t)] w fun e w' => WithR w es t e w' ∧ Below w.heap.size w w' := by
  have hzI := zeroIdV
  have hzo := zeroObj
  have hz72 := zObj_size
  have hrb := fun W => run_build (P := Tryd.prog) W _ _ _ built_zId
  have hZ32 : (u8s noId).size = 32 := by rw [u8s_size, noId_len]
  have hZone := u8s_one noId
  have hszI : ∀ cs : Array Value, cs.size = 32 → (Tryd.prog.info? 24).map (·.size) = some cs.size := fun cs h => by rw [h]; exact sz32
  obtain ⟨W1, hW1⟩ : ∃ W1, w.alloc (.cells #[vm] 30) = W1 := ⟨_, rfl⟩
  have s1 : Blk W1 w.heap.size 30 #[vm] := by rw [← hW1]; exact Blk.new _ _ _
  have b1 : Below w.heap.size w W1 := by rw [← hW1]; exact (Below.refl _ _).alloc (Nat.le_refl _) _
  obtain ⟨W2, hW2⟩ : ∃ W2, W1.alloc (.cells #[.slice none 0 0] 30) = W2 := ⟨_, rfl⟩
  have r2 : Blk W2 W1.heap.size 30 #[.slice none 0 0] := by rw [← hW2]; exact Blk.new _ _ _
  have bb2 : Below W1.heap.size W1 W2 := by rw [← hW2]; exact (Below.refl _ _).alloc (Nat.le_refl _) _
  obtain ⟨W3, hW3⟩ : ∃ W3, W2.alloc (.cells (u8s noId) 24) = W3 := ⟨_, rfl⟩
  have i3 : Blk W3 W2.heap.size 24 (u8s noId) := by rw [← hW3]; exact Blk.new _ _ _
  have bb3 : Below W2.heap.size W2 W3 := by rw [← hW3]; exact (Below.refl _ _).alloc (Nat.le_refl _) _
  have s2 := s1.below bb2 s1.lt
  have s3 := s2.below bb3 s2.lt
  have r3 := r2.below bb3 r2.lt
  have b2 := bthen b1 b1.size bb2
  have b3 := bthen b2 b2.size bb3
  have hl1 := s1.lt
  have hl2 := r2.lt
  have hvm : vm.oneCell' = true := by
    obtain ⟨A, cap, rfl, _⟩ := h.at_
    rfl
  have hde := refDecode_calls t ht W3
  have hn0 : (List.replicate 32 (0 : UInt8)) = noId := rfl
  unfold WithR
  rw [hd]
  obtain ⟨n, hnn⟩ : ∃ n, shaOf t = n := ⟨_, rfl⟩
  rw [hnn] at hG
  have hn : n.length = 32 := by rw [← hnn]; exact shaOf_length _
  have hpi : putI t = n := by unfold putI; rw [hd]; exact hnn
  have hps : ∀ s, putS s t = if hasK StL.id s n then s else insK StL.id s ⟨n, t⟩ := fun s => by unfold putS; rw [hd]; simp only [hnn]
  rw [hpi, hps, hasK_get]
  rw [hd] at hde
  have hde : Hid (Calls Tryd.prog 28 #[.string (B t)] W3 fun e w' => (∃ A1 A2 k1 k2, e = .returned (.tuple #[.agg (objC o (.slice A1 o.ents.length k1) (.slice A2 o.pars.length k2)).toArray, .bool true]) ∧ ObjV w' (.slice A1 o.ents.length k1) (.slice A2 o.pars.length k2) o ∧ OwnEnts w' W3.heap.size (.slice A1 o.ents.length k1) o.ents ∧ OwnIds w' W3.heap.size (.slice A2 o.pars.length k2) o.pars) ∧ Below W3.heap.size W3 w') := hde.mono fun e w' ⟨⟨A1, A2, k1, k2, h1, h2, h4⟩, h3⟩ => ⟨⟨A1, A2, k1, k2, h1, h2, h4⟩, h3⟩
  have hsum : ∀ W, Calls Tryd.prog 23 #[.string (B t)] W fun e w' => e = .returned (.agg (u8s n)) ∧ Below W.heap.size W w' := fun W => by
    have := refSum_calls t W (by omega)
    rwa [hnn] at this
  have hn32 : (u8s n).size = 32 := by rw [u8s_size, hn]
  have hnone := u8s_one n
  have hst := h
  have hatn := fun (W : World) (hW : Below w.heap.size w W) => docAt_calls (h.below hW) n hn
  unfold AtR at hatn
  have hh := hasK_get (es.map (·.st)) n
  rw [hG] at hh ⊢
  have hat2 : Hid (∀ W, Below w.heap.size w W → Calls Tryd.prog 29 #[.agg #[vm], .agg (u8s n)] W fun e w' => (∃ k : Nat, e = .returned (.int .i64 k)) ∧ Below W.heap.size W w') := fun W hW => (hatn W hW).mono fun e w' ⟨h1, h2⟩ => by
    rcases h1 with ⟨k, x, he, _, hx⟩ | ⟨_, hx⟩
    · exact ⟨⟨k, he⟩, h2⟩
    · rw [hG] at hx; cases hx
  simp only [Option.isSome_some, if_true]
  clear h hd hpi hps hn0 hatn hh hG hnn
  have hzone : zObj.all (·.oneCell') = true := objC_all zeroO none none 0 0 0 0
  generalize zObj = ZO at *
  go_enter Tryd.func8, Tryd.ntmps8
  go_wp2_with (first
    | ((with_reducible refine hde.out.mono ?_); rintro e w4 ⟨⟨A1, A2, k1, k2, rfl, hov, hoe, hop⟩, hb4⟩
       have b4 := bthen b3 b3.size hb4
       have s4 := s3.below hb4 s3.lt
       have r4 := r3.below hb4 r3.lt
       have i4 := i3.below hb4 i3.lt
       have hc72 : (objC o (.slice A1 o.ents.length k1) (.slice A2 o.pars.length k2)).toArray.size = 72 := by rw [List.size_toArray, objC_len hov.ok]
       have hcone := objC_all o A1 A2 o.ents.length k1 o.pars.length k2)
    | ((with_reducible refine lit_new 41 (.tmp 7) (.tmp 17) (objC o (.slice A1 o.ents.length k1) (.slice A2 o.pars.length k2)).toArray 72 szObj hc72 hcone _ ?_ ?_ ?_ ?_)
       · first | exact hz72 | rfl
       · rfl
       · rfl
       intro W5 hb5 hbl5
       have b5 := bthen b4 b4.size hbl5
       have s5 := s4.below hbl5 s4.lt
       have r5 := r4.below hbl5 r4.lt
       have i5 := i4.below hbl5 i4.lt)
    | ((with_reducible refine (hsum _).mono ?_); rintro e w6 ⟨rfl, hb6⟩
       have b6 := bthen b5 b5.size hb6
       have s6 := s5.below hb6 s5.lt
       have r6 := r5.below hb6 r5.lt
       have i6 := i5.below hb6 i5.lt)
    | ((with_reducible refine lit_new 24 (.tmp 9) (.tmp 24) (u8s n) 32 sz32 hn32 hnone _ ?_ ?_ ?_ ?_)
       · rfl
       · rfl
       · rfl
       intro W7 n7 hbl7
       have b7 := bthen b6 b6.size hbl7
       have s7 := s6.below hbl7 s6.lt
       have r7 := r6.below hbl7 r6.lt
       have i7 := i6.below hbl7 i6.lt
       have l7 := run_ldvS s7
       have ln7 := run_ldvI_at (range_blk n7) hn)
    | ((with_reducible refine (hat2.out W7 b7).mono ?_); rintro e w8 ⟨⟨k, rfl⟩, hb8⟩
       have b8 := bthen b7 b7.size hb8
       have s8 := s7.below hb8 s7.lt
       have r8 := r7.below hb8 r7.lt
       have i8 := i7.below hb8 i7.lt
       have n8 := n7.below hb8 n7.lt
       have hk0 : (0 : Int) ≤ (k : Int) := by omega))
  all_goals try (exfalso; omega)
  obtain ⟨V, hV⟩ : ∃ V, w8.drew = V := ⟨_, rfl⟩
  have bV : Below w.heap.size w V := by rw [← hV]; exact b8.drew
  have r9 : Blk V W1.heap.size 30 #[.slice none 0 0] := by rw [← hV]; exact r8
  have i9 : Blk V W2.heap.size 24 (u8s noId) := by rw [← hV]; exact i8
  have n9 : Blk V w6.heap.size 24 (u8s n) := by rw [← hV]; exact n8
  have s9 : Blk V w.heap.size 30 #[vm] := by rw [← hV]; exact s8
  have hW36 : w.heap.size < W3.heap.size := s3.lt
  have x4 := hb4.size
  have x5 := hbl5.size
  have x6 := hb6.size
  have hr3 := r3.lt
  have hne4 : w6.heap.size ≠ W1.heap.size := by omega
  obtain ⟨t1, t2, t3, t4⟩ := with_ret (n := n) (vm := vm) r9 i9 (by omega) hn hZ32 hvm
  have v1 := run_ldvS s9
  have v2 := run_ldvI_at (range_blk n9) hn
  have v3 := run_ldvI_at (range_blk (keep_row n9 hne4 #[vm])) hn
  have bF := below_setRow (below_setRow bV (Nat.le_of_lt hl1) #[vm]) (Nat.le_of_lt (Nat.lt_of_lt_of_le hl1 (Nat.le_of_lt hl2))) (u8s n)
  clear s1 s2 s3 s4 s5 s6 s7 s8 r2 r3 r4 r5 r6 r7 r8 i3 i4 i5 i6 i7 i8 n7 n8 l7 ln7
  go_region
  go_wp2
  refine bodyPost_ret (results_row2_tmp rfl _ _ W1.heap.size W2.heap.size _ _ _ _ _ _ _ _ rfl t3 rfl t4 Tryd.underlying30 rfl szDSt Tryd.underlying24 rfl (hszI _ hn32)) rfl ⟨⟨vm, es, rfl, hst.below bF, rfl, fun e he => .inl he⟩, bF⟩
end Go.Proofs.YtnehabcopjgklaaDoor
/- The walk of layer 11's document: With, a new text. No condition. -/
namespace Go.Proofs.YtnehabcopjgklaaDoor
open Go.RowKit
attribute [local go_sem ↓] ldvI_eq ldvO_eq ldvS_eq ldvT_eq stvI_eq stvS_eq
set_option maxRecDepth 100000 in
set_option maxHeartbeats 16000000 in
theorem docWith_new {w : World} {vm : Value} {es : List DiL} (h : DocSt w vm es) (hf : es.length < 490000) (t : Txt) (ht : t.length ≤ 5000) {o : ObjL} (hd : decO t = some o) (hG : getS (es.map (·.st)) (shaOf t) = none) :
    Calls Tryd.prog 8 #[.agg #[vm], .string (B t)] w fun e w' => WithR w es t e w' ∧ Below w.heap.size w w' := by
  have hzI := zeroIdV
  have hzo := zeroObj
  have hz72 := zObj_size
  have hrb := fun W => run_build (P := Tryd.prog) W _ _ _ built_zId
  have hZ32 : (u8s noId).size = 32 := by rw [u8s_size, noId_len]
  have hZone := u8s_one noId
  have hszI : ∀ cs : Array Value, cs.size = 32 → (Tryd.prog.info? 24).map (·.size) = some cs.size := fun cs h => by rw [h]; exact sz32
  obtain ⟨W1, hW1⟩ : ∃ W1, w.alloc (.cells #[vm] 30) = W1 := ⟨_, rfl⟩
  have s1 : Blk W1 w.heap.size 30 #[vm] := by rw [← hW1]; exact Blk.new _ _ _
  have b1 : Below w.heap.size w W1 := by rw [← hW1]; exact (Below.refl _ _).alloc (Nat.le_refl _) _
  obtain ⟨W2, hW2⟩ : ∃ W2, W1.alloc (.cells #[.slice none 0 0] 30) = W2 := ⟨_, rfl⟩
  have r2 : Blk W2 W1.heap.size 30 #[.slice none 0 0] := by rw [← hW2]; exact Blk.new _ _ _
  have bb2 : Below W1.heap.size W1 W2 := by rw [← hW2]; exact (Below.refl _ _).alloc (Nat.le_refl _) _
  obtain ⟨W3, hW3⟩ : ∃ W3, W2.alloc (.cells (u8s noId) 24) = W3 := ⟨_, rfl⟩
  have i3 : Blk W3 W2.heap.size 24 (u8s noId) := by rw [← hW3]; exact Blk.new _ _ _
  have bb3 : Below W2.heap.size W2 W3 := by rw [← hW3]; exact (Below.refl _ _).alloc (Nat.le_refl _) _
  have s2 := s1.below bb2 s1.lt
  have s3 := s2.below bb3 s2.lt
  have r3 := r2.below bb3 r2.lt
  have b2 := bthen b1 b1.size bb2
  have b3 := bthen b2 b2.size bb3
  have hl1 := s1.lt
  have hl2 := r2.lt
  have hvm : vm.oneCell' = true := by
    obtain ⟨A, cap, rfl, _⟩ := h.at_
    rfl
  have hde := refDecode_calls t ht W3
  have hn0 : (List.replicate 32 (0 : UInt8)) = noId := rfl
  unfold WithR
  rw [hd]
  obtain ⟨n, hnn⟩ : ∃ n, shaOf t = n := ⟨_, rfl⟩
  rw [hnn] at hG
  have hn : n.length = 32 := by rw [← hnn]; exact shaOf_length _
  have hpi : putI t = n := by unfold putI; rw [hd]; exact hnn
  have hps : ∀ s, putS s t = if hasK StL.id s n then s else insK StL.id s ⟨n, t⟩ := fun s => by unfold putS; rw [hd]; simp only [hnn]
  rw [hpi, hps, hasK_get]
  rw [hd] at hde
  have hde : Hid (Calls Tryd.prog 28 #[.string (B t)] W3 fun e w' => (∃ A1 A2 k1 k2, e = .returned (.tuple #[.agg (objC o (.slice A1 o.ents.length k1) (.slice A2 o.pars.length k2)).toArray, .bool true]) ∧ ObjV w' (.slice A1 o.ents.length k1) (.slice A2 o.pars.length k2) o ∧ OwnEnts w' W3.heap.size (.slice A1 o.ents.length k1) o.ents ∧ OwnIds w' W3.heap.size (.slice A2 o.pars.length k2) o.pars) ∧ Below W3.heap.size W3 w') := hde.mono fun e w' ⟨⟨A1, A2, k1, k2, h1, h2, h4⟩, h3⟩ => ⟨⟨A1, A2, k1, k2, h1, h2, h4⟩, h3⟩
  have hsum : ∀ W, Calls Tryd.prog 23 #[.string (B t)] W fun e w' => e = .returned (.agg (u8s n)) ∧ Below W.heap.size W w' := fun W => by
    have := refSum_calls t W (by omega)
    rwa [hnn] at this
  have hn32 : (u8s n).size = 32 := by rw [u8s_size, hn]
  have hnone := u8s_one n
  have hst := h
  have hatn := fun (W : World) (hW : Below w.heap.size w W) => docAt_calls (h.below hW) n hn
  unfold AtR at hatn
  have hh := hasK_get (es.map (·.st)) n
  rw [hG] at hh ⊢
  have hat2 : Hid (∀ W, Below w.heap.size w W → Calls Tryd.prog 29 #[.agg #[vm], .agg (u8s n)] W fun e w' => e = .returned (.int .i64 (-1)) ∧ Below W.heap.size W w') := fun W hW => (hatn W hW).mono fun e w' ⟨h1, h2⟩ => by
    rcases h1 with ⟨k, x, he, _, hx⟩ | ⟨he, _⟩
    · rw [hG] at hx; cases hx
    · exact ⟨he, h2⟩
  have hh : hasK StL.id (es.map (·.st)) n = false := hh
  simp only [Option.isSome_none, Option.isSome_some, Bool.false_eq_true, if_false]
  have hfew := h.few
  have heach := h.each
  have hok := h.ok
  have hput : StoOk (insK StL.id (es.map (·.st)) ⟨n, t⟩) := by
    have := hok.put t (by rw [List.length_map]; omega)
    rwa [hps, hh] at this
  have hhh := Lib.hid hh
  obtain ⟨A, cap, rfl, hcap1, hcap2, hat⟩ := h.at_
  obtain ⟨p, hp⟩ : ∃ p, posK StL.id (es.map (·.st)) n = p := ⟨_, rfl⟩
  have hpl : p ≤ es.length := by rw [← hp, ← List.length_map (f := (·.st))]; exact posK_le
  have hins : insK StL.id (es.map (·.st)) ⟨n, t⟩ = (es.take p).map (·.st) ++ [⟨n, t⟩] ++ (es.drop p).map (·.st) := by
    unfold insK
    rw [show posK StL.id (es.map (·.st)) (StL.id ⟨n, t⟩) = p from hp, List.map_take, List.map_drop]
  have hless : Hid (∀ (k : Nat) (x : DiL), es[k]? = some x → Op.bytesLess n x.st.id = decide (p ≤ k)) := fun k x hx => by
    have := less_from (s := es.map (·.st)) (k := k) hok.sorted hhh.out (by rw [List.getElem?_map, hx]; rfl)
    rwa [hp] at this
  replace hins := Lib.hid hins
  replace hput := Lib.hid hput
  replace hok := Lib.hid hok
  have hdd := Lib.hid hd
  clear h hd hpi hps hn0 hatn hh hG hnn hhh hp hst
  have hzone : zObj.all (·.oneCell') = true := objC_all zeroO none none 0 0 0 0
  generalize zObj = ZO at *
  go_enter Tryd.func8, Tryd.ntmps8
  go_wp2_with (first
    | ((with_reducible refine hde.out.mono ?_); rintro e w4 ⟨⟨A1, A2, k1, k2, rfl, hov, hoe, hop⟩, hb4⟩
       have b4 := bthen b3 b3.size hb4
       have s4 := s3.below hb4 s3.lt
       have r4 := r3.below hb4 r3.lt
       have i4 := i3.below hb4 i3.lt
       have hc72 : (objC o (.slice A1 o.ents.length k1) (.slice A2 o.pars.length k2)).toArray.size = 72 := by rw [List.size_toArray, objC_len hov.ok]
       have hcone := objC_all o A1 A2 o.ents.length k1 o.pars.length k2)
    | ((with_reducible refine lit_new 41 (.tmp 7) (.tmp 17) (objC o (.slice A1 o.ents.length k1) (.slice A2 o.pars.length k2)).toArray 72 szObj hc72 hcone _ ?_ ?_ ?_ ?_)
       · first | exact hz72 | rfl
       · rfl
       · rfl
       intro W5 hb5 hbl5
       have b5 := bthen b4 b4.size hbl5
       have s5 := s4.below hbl5 s4.lt
       have r5 := r4.below hbl5 r4.lt
       have i5 := i4.below hbl5 i4.lt)
    | ((with_reducible refine (hsum _).mono ?_); rintro e w6 ⟨rfl, hb6⟩
       have b6 := bthen b5 b5.size hb6
       have s6 := s5.below hb6 s5.lt
       have r6 := r5.below hb6 r5.lt
       have i6 := i5.below hb6 i5.lt)
    | ((with_reducible refine lit_new 24 (.tmp 9) (.tmp 24) (u8s n) 32 sz32 hn32 hnone _ ?_ ?_ ?_ ?_)
       · rfl
       · rfl
       · rfl
       intro W7 n7 hbl7
       have b7 := bthen b6 b6.size hbl7
       have s7 := s6.below hbl7 s6.lt
       have r7 := r6.below hbl7 r6.lt
       have i7 := i6.below hbl7 i6.lt
       have l7 := run_ldvS s7
       have ln7 := run_ldvI_at (range_blk n7) hn)
    | ((with_reducible refine (hat2.out W7 b7).mono ?_); rintro e w8 ⟨rfl, hb8⟩
       have b8 := bthen b7 b7.size hb8
       have s8 := s7.below hb8 s7.lt
       have r8 := r7.below hb8 r7.lt
       have i8 := i7.below hb8 i7.lt
       have n8 := n7.below hb8 n7.lt))
  all_goals try (exfalso; omega)
  have x4 := hb4.size
  have x5 := hbl5.size
  have x6 := hb6.size
  have x7 := hbl7.size
  have x8 := hb8.size
  have hr3 := r3.lt
  obtain ⟨nw, hnw⟩ : ∃ nw : DiL, nw = ⟨⟨n, t⟩, o, .slice A1 o.ents.length k1, .slice A2 o.pars.length k2⟩ := ⟨_, rfl⟩
  have hoe8 := own_below hoe (bthen hbl5 hbl5.size (bthen hb6 hb6.size (bthen hbl7 hbl7.size hb8)))
  have hop8 := own_below hop (bthen hbl5 hbl5.size (bthen hb6 hb6.size (bthen hbl7 hbl7.size hb8)))
  have hnwok : DitOk w8 nw := by
    rw [hnw]
    exact ⟨hdd.out, hn, hov.ok, own_low' hoe8 (Nat.zero_le _), own_low' hop8 (Nat.zero_le _)⟩
  have hbd : Tryd.prog.built 57 [(0, .agg (u8s n)), (1, .string (B t)), (2, .agg (objC o (.slice A1 o.ents.length k1) (.slice A2 o.pars.length k2)).toArray)] = some (ditC nw).toArray := by
    have := built_dit nw hnwok
    rw [hnw] at this ⊢
    exact this
  have hnw105 : (ditC nw).toArray.size = 105 := by rw [List.size_toArray, ditC_len hnwok]
  have hnw1 : (ditC nw).toArray.size = 1 * 105 := hnw105
  have hnwone : ∀ u ∈ (ditC nw).toArray.toList, u.oneCell' = true := by rw [List.toList_toArray]; exact ditC_one hnwok
  have h1000 : 105 ≤ 1000 := by decide
  have hi3 := i3.lt
  have hne4 : w6.heap.size ≠ W1.heap.size := by omega
  have hg4 : W1.heap.size < w8.heap.size := by omega
  have hg5 : W2.heap.size < w8.heap.size := by omega
  clear x4 x5 x6 x7 x8
  have hnwB : Hid ((∀ k, nw.ve.ownBlock = some k → w.heap.size ≤ k) ∧ ∀ k, nw.vp.ownBlock = some k → w.heap.size ≤ k) := Lib.hid (by
    rw [hnw]
    exact ⟨fun k hk => Nat.le_trans b3.size (World.ownsRow.lt hoe8 k hk).1, fun k hk => Nat.le_trans b3.size (World.ownsRow.lt hop8 k hk).1⟩)
  have hnwmk : ∀ F, OwnEnts F W3.heap.size (.slice A1 o.ents.length k1) o.ents → OwnIds F W3.heap.size (.slice A2 o.pars.length k2) o.pars → DitOk F nw := fun F h1 h2 => by
    rw [hnw]
    exact ⟨hdd.out, hn, hov.ok, own_low' h1 (Nat.zero_le _), own_low' h2 (Nat.zero_le _)⟩
  have heach0 := Lib.hid heach
  have hnst : Hid (nw.st = ⟨n, t⟩) := by rw [hnw]; rfl
  obtain ⟨NC, hNC⟩ : ∃ NC, (ditC nw).toArray = NC := ⟨_, rfl⟩
  have o8 := hb5.below (bthen hb6 hb6.size (bthen hbl7 hbl7.size hb8)) hb5.lt
  obtain ⟨OC, hOC⟩ : ∃ OC, (objC o (.slice A1 o.ents.length k1) (.slice A2 o.pars.length k2)).toArray = OC := ⟨_, rfl⟩
  rw [hOC] at hbd o8 hc72 hcone ⊢
  rw [hNC] at hbd hnw105 hnw1 hnwone
  have hNC := Lib.hid hNC
  have szO : (Tryd.prog.info? 41).map (·.size) = some OC.size := by rw [hc72]; exact szObj
  have fn := fun (W : World) (hW : Below w8.heap.size w8 W) => run_ldvI_at (range_blk (n8.below hW n8.lt)) hn
  have fo : ∀ (W : World), Below w8.heap.size w8 W → (ldvO ⟨w4.heap.size, 0, none⟩).run Tryd.prog W = .ok (.agg OC) W := fun W hW => run_loadVar_row (P := Tryd.prog) W w4.heap.size _ _ _ _ _ (o8.below hW o8.lt) Tryd.underlying41 rfl szO
  have fs : ∀ (W : World), Below w8.heap.size w8 W → W.cell? ⟨w.heap.size, 0, none⟩ = some (.slice A es.length cap) := fun W hW => (s8.below hW s8.lt).cell 0
  replace heach := fun x hx => (heach x hx).below b8
  have hat8 : 0 < es.length → ∃ g o, A = some ⟨g, o, none⟩ ∧ g < w8.heap.size ∧ ∀ i x, es[i]? = some x → w8.rangeAt g (o + i * 105) (ditC x) := fun h0 => by
    obtain ⟨g, o, e1, e2, e3⟩ := hat h0
    exact ⟨g, o, e1, Nat.lt_of_lt_of_le e2 b8.size, fun i x hx => rangeAt_below (e3 i x hx) e2 b8⟩
  clear hOC hnw hat hc72 hcone hzone hde hsum s1 s2 s3 s4 s5 s6 s7 r2 r4 r5 r6 r7 i3 i4 i5 i6 i7 n7 l7 ln7 hb5 hW1 hW2 hW3
  go_loopw [10, 11, 12] (fun vo vd vi wr => ∃ k : Nat, vi = .int .i64 k ∧ k ≤ es.length ∧ vd = .bool (decide (p < k)) ∧ OwnDits wr w8.heap.size vo (accL es nw p k) ∧ Below w8.heap.size w8 wr) (fun _ _ vi _ => es.length - (intOf vi).toNat)
  case atStart => exact ⟨0, rfl, by omega, rfl, by rw [show accL es nw p 0 = [] from rfl]; exact World.ownsRow_nil _ _ _ _, Below.refl _ _⟩
  case round =>
    obtain ⟨k, rfl, hk, rfl, hown, hbel⟩ := hrel
    by_cases hlt : k < es.length
    · have hki : (k : Int) < (es.length : Int) := by omega
      obtain ⟨ga, oa, rfl, hga, hca⟩ := hat8 (by omega)
      obtain ⟨x, hx⟩ : ∃ x, es[k]? = some x := ⟨_, List.getElem?_eq_getElem hlt⟩
      have hxok := heach x (List.mem_of_getElem? hx)
      have hxid := hxok.id
      have hle := hless.out k x hx
      have hxr := dit_id (hca k x hx)
      have hsI : (Tryd.prog.info? 24).map (·.size) = some (u8s x.st.id).toList.length := by rw [u8s_lenS, hxid]; exact sz32
      have hsN : (Tryd.prog.info? 24).map (·.size) = some (u8s n).toList.length := by rw [u8s_lenS, hn]; exact sz32
      have hcl := fun W => refLess_calls n x.st.id hn hxid W
      rw [hle] at hcl
      have hx105 : (ditC x).toArray.size = 105 := by rw [List.size_toArray, ditC_len hxok]
      have hx1 : (ditC x).toArray.size = 1 * 105 := hx105
      have hxone : ∀ u ∈ (ditC x).toArray.toList, u.oneCell' = true := by rw [List.toList_toArray]; exact ditC_one hxok
      have ft : ∀ (W : World), Below w8.heap.size w8 W → (ldvT ⟨ga, oa + k * 105, none⟩).run Tryd.prog W = .ok (.agg (ditC x).toArray) W := fun W hW => run_loadVar_mid (P := Tryd.prog) W ga (oa + k * 105) 57 (ditC x) _ (rangeAt_below (hca k x hx) hga hW) Tryd.underlying57 rfl (by rw [ditC_len hxok]; exact szDit)
      obtain ⟨XC, hXC⟩ : ∃ XC, (ditC x).toArray = XC := ⟨_, rfl⟩
      rw [hXC] at hx105 hx1 hxone
      simp only [hXC] at ft
      have hXC := Lib.hid hXC
      have hal := acc_len es nw p k
      obtain ⟨m1, m2, m3, m4⟩ := acc_bounds hal hf
      have szr := hbel.size
      rcases Nat.lt_trichotomy p k with hc | hc | hc
      · --STOP1
        have hd1 : decide (p < k) = true := decide_eq_true hc
        have hd2 : decide (p ≤ k) = true := decide_eq_true (by omega)
        rw [hd1]
        rw [hd2] at hcl
        have hxh := Lib.hid hx
        clear hx hca hat8 hle hd1 hd2 hless
        go_wp2
        refine wp_region_class (C := fun W => Below wr.heap.size wr W) (by kernel_rfl) (by kernel_rfl) (Below.refl _ _).drew ?_
        repeat
          first
            | ((with_reducible refine wpQuiet_ex ?_ ?_)
               · (go_simp; done)
               apply Exists.intro
               refine ⟨fun W hW => ?_, ?_⟩
               · have hW8 := bthen hbel hbel.size hW
                 first
                   | exact quiet_load_mid _ _ rfl ga (oa + k * 105) rfl (u8s x.st.id).toList _ (rangeAt_below hxr hga hW8) Tryd.underlying24 rfl hsI rfl
                   | exact quiet_load_mid _ _ rfl w6.heap.size 0 rfl (u8s n).toList _ (range_blk (n8.below hW8 n8.lt)) Tryd.underlying24 rfl hsN rfl
                   | (have q0 := fs W hW8
                      have hkeep := bel_keep hW (hcl W)
                      rw [← Array.toArray_toList (xs := u8s x.st.id), ← Array.toArray_toList (xs := u8s n)] at hkeep
                      go_simp
                      first
                        | rfl
                        | (with_reducible exact hkeep))
               simp only [Act.put, List.setIfInBounds_toArray, List.set_cons_zero, List.set_cons_succ])
            | ((with_reducible refine wpQuiet_pass ?_ ?_)
               · (first | rfl | (go_simp; done))
               simp only [Act.put, List.setIfInBounds_toArray, List.set_cons_zero, List.set_cons_succ])
        with_reducible refine wpQuiet_nil ?_
        intro w9 hW9
        have own9 := own_below hown hW9
        have b9 := bthen hbel hbel.size hW9
        have sz9 := b9.size
        have fn9 := fn w9 b9
        have fo9 := fo w9 b9
        have fs9 := fs w9 b9
        have ft9 := ft w9 b9
        go_wp2_with (first
          | ((with_reducible refine lit_slice1 (.tmp 63) Tryd.ditTy XC hx105 h1000 ?_ ?_); rfl)
          | (at_builtin
             (with_reducible refine lit_append_new (.tmp 58) (.tmp 64) 1 _ Tryd.ditTy own9 XC hx1 hxone m1 m2 sz9 ?_ ?_ ?_); rfl; rfl
             intro v2 w2 hv2 hb2 hg2 hn2
             have bb2 := b9.trans hb2
             clear hg2 hn2))
        all_goals try (exfalso; omega)
        have o3 : OwnDits w2 w8.heap.size v2 (accL es nw p (k + 1)) := by
          rw [← hXC.out] at hv2
          rw [acc_behind hxh.out hc]
          exact OwnDits.more hv2
        go_roundw
        case rel => exact ⟨k + 1, by go_num, by omega, by rw [show decide (p < k + 1) = true from decide_eq_true (by omega)], o3, bb2⟩
        case measure => simp [intOf]; omega
      · --STOP2
        have hd1 : decide (p < k) = false := decide_eq_false (by omega)
        have hd2 : decide (p ≤ k) = true := decide_eq_true (by omega)
        rw [hd1]
        rw [hd2] at hcl
        have hxh := Lib.hid hx
        clear hx hca hat8 hle hd1 hd2 hless
        go_wp2
        refine wp_region_class (C := fun W => Below wr.heap.size wr W) (by kernel_rfl) (by kernel_rfl) (Below.refl _ _).drew ?_
        repeat
          first
            | ((with_reducible refine wpQuiet_ex ?_ ?_)
               · (go_simp; done)
               apply Exists.intro
               refine ⟨fun W hW => ?_, ?_⟩
               · have hW8 := bthen hbel hbel.size hW
                 first
                   | exact quiet_load_mid _ _ rfl ga (oa + k * 105) rfl (u8s x.st.id).toList _ (rangeAt_below hxr hga hW8) Tryd.underlying24 rfl hsI rfl
                   | exact quiet_load_mid _ _ rfl w6.heap.size 0 rfl (u8s n).toList _ (range_blk (n8.below hW8 n8.lt)) Tryd.underlying24 rfl hsN rfl
                   | (have q0 := fs W hW8
                      have hkeep := bel_keep hW (hcl W)
                      rw [← Array.toArray_toList (xs := u8s x.st.id), ← Array.toArray_toList (xs := u8s n)] at hkeep
                      go_simp
                      first
                        | rfl
                        | (with_reducible exact hkeep))
               simp only [Act.put, List.setIfInBounds_toArray, List.set_cons_zero, List.set_cons_succ])
            | ((with_reducible refine wpQuiet_pass ?_ ?_)
               · (first | rfl | (go_simp; done))
               simp only [Act.put, List.setIfInBounds_toArray, List.set_cons_zero, List.set_cons_succ])
        with_reducible refine wpQuiet_nil ?_
        intro w9 hW9
        have own9 := own_below hown hW9
        have b9 := bthen hbel hbel.size hW9
        have sz9 := b9.size
        have fn9 := fn w9 b9
        have fo9 := fo w9 b9
        have fs9 := fs w9 b9
        have ft9 := ft w9 b9
        go_wp2_with (first
          | ((with_reducible refine lit_build3 hbd ?_ ?_ ?_ ?_); rfl; rfl; rfl)
          | ((with_reducible refine lit_slice1 (.tmp 55) Tryd.ditTy NC hnw105 h1000 ?_ ?_); rfl)
          | (at_builtin
             (with_reducible refine lit_append_new (.tmp 51) (.tmp 56) 1 _ Tryd.ditTy own9 NC hnw1 hnwone m1 m2 sz9 ?_ ?_ ?_); rfl; rfl
             intro v1 w1 hv1 hb1 hg1 hn1
             have bb1 := b9.trans hb1
             clear hg1 hn1
             have szb1 := bb1.size
             have fn1 := fn w1 bb1
             have fo1 := fo w1 bb1
             have fs1 := fs w1 bb1
             have ft1 := ft w1 bb1)
          | ((with_reducible refine lit_slice1 (.tmp 63) Tryd.ditTy XC hx105 h1000 ?_ ?_); rfl)
          | (at_builtin
             (with_reducible refine lit_append_new (.tmp 58) (.tmp 64) 1 _ Tryd.ditTy hv1 XC hx1 hxone m3 m4 szb1 ?_ ?_ ?_); rfl; rfl
             intro v2 w2 hv2 hb2 hg2 hn2
             have bb2 := bb1.trans hb2
             clear hg2 hn2))
        all_goals try (exfalso; omega)
        have o3 : OwnDits w2 w8.heap.size v2 (accL es nw p (k + 1)) := by
          subst hc
          rw [← hXC.out] at hv2
          rw [← hNC.out] at hv2
          rw [acc_at hxh.out]
          have : (accL es nw p p ++ [nw]).length = (accL es nw p p).length + 1 := by simp
          refine OwnDits.more ?_
          rw [this, rowsOf_append, rowsOf_one]
          have e : (ditC nw).toArray.toList = ditC nw := List.toList_toArray
          rw [e] at hv2
          exact hv2
        go_roundw
        case rel => exact ⟨k + 1, by go_num, by omega, by rw [show decide (p < k + 1) = true from decide_eq_true (by omega)], o3, bb2⟩
        case measure => simp [intOf]; omega
      · --STOP3
        have hd1 : decide (p < k) = false := decide_eq_false (by omega)
        have hd2 : decide (p ≤ k) = false := decide_eq_false (by omega)
        rw [hd1]
        rw [hd2] at hcl
        have hxh := Lib.hid hx
        clear hx hca hat8 hle hd1 hd2 hless
        go_wp2
        refine wp_region_class (C := fun W => Below wr.heap.size wr W) (by kernel_rfl) (by kernel_rfl) (Below.refl _ _).drew ?_
        repeat
          first
            | ((with_reducible refine wpQuiet_ex ?_ ?_)
               · (go_simp; done)
               apply Exists.intro
               refine ⟨fun W hW => ?_, ?_⟩
               · have hW8 := bthen hbel hbel.size hW
                 first
                   | exact quiet_load_mid _ _ rfl ga (oa + k * 105) rfl (u8s x.st.id).toList _ (rangeAt_below hxr hga hW8) Tryd.underlying24 rfl hsI rfl
                   | exact quiet_load_mid _ _ rfl w6.heap.size 0 rfl (u8s n).toList _ (range_blk (n8.below hW8 n8.lt)) Tryd.underlying24 rfl hsN rfl
                   | (have q0 := fs W hW8
                      have hkeep := bel_keep hW (hcl W)
                      rw [← Array.toArray_toList (xs := u8s x.st.id), ← Array.toArray_toList (xs := u8s n)] at hkeep
                      go_simp
                      first
                        | rfl
                        | (with_reducible exact hkeep))
               simp only [Act.put, List.setIfInBounds_toArray, List.set_cons_zero, List.set_cons_succ])
            | ((with_reducible refine wpQuiet_pass ?_ ?_)
               · (first | rfl | (go_simp; done))
               simp only [Act.put, List.setIfInBounds_toArray, List.set_cons_zero, List.set_cons_succ])
        with_reducible refine wpQuiet_nil ?_
        intro w9 hW9
        have own9 := own_below hown hW9
        have b9 := bthen hbel hbel.size hW9
        have sz9 := b9.size
        have fn9 := fn w9 b9
        have fo9 := fo w9 b9
        have fs9 := fs w9 b9
        have ft9 := ft w9 b9
        go_wp2_with (first
          | ((with_reducible refine lit_slice1 (.tmp 63) Tryd.ditTy XC hx105 h1000 ?_ ?_); rfl)
          | (at_builtin
             (with_reducible refine lit_append_new (.tmp 58) (.tmp 64) 1 _ Tryd.ditTy own9 XC hx1 hxone m1 m2 sz9 ?_ ?_ ?_); rfl; rfl
             intro v2 w2 hv2 hb2 hg2 hn2
             have bb2 := b9.trans hb2
             clear hg2 hn2))
        all_goals try (exfalso; omega)
        have o3 : OwnDits w2 w8.heap.size v2 (accL es nw p (k + 1)) := by
          rw [← hXC.out] at hv2
          rw [acc_before hxh.out hc]
          exact OwnDits.more hv2
        go_roundw
        case rel => exact ⟨k + 1, by go_num, by omega, by rw [show decide (p < k + 1) = false from decide_eq_false (by omega)], o3, bb2⟩
        case measure => simp [intOf]; omega
    · have hki : ¬ (k : Int) < (es.length : Int) := by omega
      obtain rfl : k = es.length := by omega
      have hal := acc_len es nw p es.length
      obtain ⟨m1, m2, m3, m4⟩ := acc_bounds hal hf
      clear hal
      have szr := hbel.size
      have fn9 := fn wr hbel
      have fo9 := fo wr hbel
      have fs9 := fs wr hbel
      by_cases hc : p < es.length
      · --STOP4
        have hd1 : decide (p < es.length) = true := decide_eq_true hc
        rw [hd1]
        have hOl := hown
        rw [acc_end hc] at hOl
        have hOl := Lib.hid hOl
        go_wp2
        obtain ⟨A', cap', RL, rfl⟩ := own_named hOl.out
        obtain ⟨V, hV⟩ : ∃ V, wr.drew = V := ⟨_, rfl⟩
        have bV8 : Below w8.heap.size w8 V := by rw [← hV]; exact Below.drew hbel
        have bV : Below w.heap.size w V := bthen b8 b8.size bV8
        have ownV : OwnDits V w8.heap.size (.slice A' RL cap') (es.take p ++ [nw] ++ es.drop p) := by
          rw [← hV]
          exact own_below hOl.out (Below.refl _ _).drew
        have r9 := r8.below bV8 r8.lt
        have i9 := i8.below bV8 i8.lt
        have n9 := n8.below bV8 n8.lt
        obtain ⟨t1, t2, t3, t4⟩ := with_ret (n := n) (vm := .slice A' RL cap') r9 i9 (Nat.ne_of_lt hl2) hn hZ32 rfl
        have v2 := run_ldvI_at (range_blk n9) hn
        have v3 := run_ldvI_at (range_blk (keep_row n9 hne4 #[.slice A' RL cap'])) hn
        have hbs := fun W => run_build (P := Tryd.prog) W _ _ _ (built_docSt A' RL cap')
        have bF1 := below_setRow bV (Nat.le_of_lt hl1) #[.slice A' RL cap']
        have bF := below_setRow bF1 (Nat.le_of_lt (Nat.lt_of_lt_of_le hl1 (Nat.le_of_lt hl2))) (u8s n)
        have ownF := own_row (own_row ownV (g := W1.heap.size) hg4 #[.slice A' RL cap']) (g := W2.heap.size) hg5 (u8s n)
        have oeF := own_row (own_row (own_below hoe8 bV8) (g := W1.heap.size) hr3 #[.slice A' RL cap']) (g := W2.heap.size) hi3 (u8s n)
        have opF := own_row (own_row (own_below hop8 bV8) (g := W1.heap.size) hr3 #[.slice A' RL cap']) (g := W2.heap.size) hi3 (u8s n)
        have hnwF : DitOk ((V.setRow W1.heap.size #[.slice A' RL cap']).setRow W2.heap.size (u8s n)) nw := hnwmk _ oeF opF
        obtain ⟨es', hd1, hd2, hd3⟩ := with_laid ownF (fun e he => (heach0.out e he).below bF) hnwF hnst.out hnwB.out hins.out hput.out
        have hd1 := Lib.hid hd1
        have hd2 := Lib.hid hd2
        have hd3 := Lib.hid hd3
        clear ownV ownF oeF opF hnwF hOl hown heach0 hnwok hins hput hnst hNC hbd fn fo fs s8 r8 i8 n8 o8 r9 i9 n9 hnwmk hoe8 hop8 hoe hop hov
        go_region
        go_wp2
        refine bodyPost_ret (results_row2_tmp rfl _ _ W1.heap.size W2.heap.size _ _ _ _ _ _ _ _ rfl t3 rfl t4 Tryd.underlying30 rfl szDSt Tryd.underlying24 rfl (hszI _ hn32)) rfl ⟨⟨_, es', rfl, hd1.out, hd2.out, hd3.out⟩, bF⟩
      · --STOP5
        obtain rfl : p = es.length := by omega
        have hd1 : decide (es.length < es.length) = false := decide_eq_false (Nat.lt_irrefl _)
        rw [hd1]
        clear hd1 hc hpl hat8 hless hlt
        go_wp2_with (first
          | ((with_reducible refine lit_build3 hbd ?_ ?_ ?_ ?_); rfl; rfl; rfl)
          | ((with_reducible refine lit_slice1 (.tmp 72) Tryd.ditTy NC hnw105 h1000 ?_ ?_); rfl)
          | (at_builtin
             (with_reducible refine lit_append_new (.tmp 68) (.tmp 73) 1 _ Tryd.ditTy hown NC hnw1 hnwone m1 m2 szr ?_ ?_ ?_); rfl; rfl
             intro v1 w1 hv1 hb1 hg1 hn1
             have bb1 := hbel.trans hb1
             clear hg1 hn1
             have szb1 := bb1.size
             have fn1 := fn w1 bb1
             have fo1 := fo w1 bb1
             have fs1 := fs w1 bb1))
        have hOl : OwnDits w1 w8.heap.size v1 (es.take es.length ++ [nw] ++ es.drop es.length) := by
          rw [← acc_last]
          rw [← hNC.out] at hv1
          exact OwnDits.more hv1
        have hOl := Lib.hid hOl
        obtain ⟨A', cap', RL, rfl⟩ := own_named hOl.out
        obtain ⟨V, hV⟩ : ∃ V, w1.drew = V := ⟨_, rfl⟩
        have bV8 : Below w8.heap.size w8 V := by rw [← hV]; exact Below.drew bb1
        have bV : Below w.heap.size w V := bthen b8 b8.size bV8
        have ownV : OwnDits V w8.heap.size (.slice A' RL cap') (es.take es.length ++ [nw] ++ es.drop es.length) := by
          rw [← hV]
          exact own_below hOl.out (Below.refl _ _).drew
        have r9 := r8.below bV8 r8.lt
        have i9 := i8.below bV8 i8.lt
        have n9 := n8.below bV8 n8.lt
        obtain ⟨t1, t2, t3, t4⟩ := with_ret (n := n) (vm := .slice A' RL cap') r9 i9 (Nat.ne_of_lt hl2) hn hZ32 rfl
        have v2 := run_ldvI_at (range_blk n9) hn
        have v3 := run_ldvI_at (range_blk (keep_row n9 hne4 #[.slice A' RL cap'])) hn
        have hbs := fun W => run_build (P := Tryd.prog) W _ _ _ (built_docSt A' RL cap')
        have bF1 := below_setRow bV (Nat.le_of_lt hl1) #[.slice A' RL cap']
        have bF := below_setRow bF1 (Nat.le_of_lt (Nat.lt_of_lt_of_le hl1 (Nat.le_of_lt hl2))) (u8s n)
        have ownF := own_row (own_row ownV (g := W1.heap.size) hg4 #[.slice A' RL cap']) (g := W2.heap.size) hg5 (u8s n)
        have oeF := own_row (own_row (own_below hoe8 bV8) (g := W1.heap.size) hr3 #[.slice A' RL cap']) (g := W2.heap.size) hi3 (u8s n)
        have opF := own_row (own_row (own_below hop8 bV8) (g := W1.heap.size) hr3 #[.slice A' RL cap']) (g := W2.heap.size) hi3 (u8s n)
        have hnwF : DitOk ((V.setRow W1.heap.size #[.slice A' RL cap']).setRow W2.heap.size (u8s n)) nw := hnwmk _ oeF opF
        obtain ⟨es', hd1, hd2, hd3⟩ := with_laid ownF (fun e he => (heach0.out e he).below bF) hnwF hnst.out hnwB.out hins.out hput.out
        have hd1 := Lib.hid hd1
        have hd2 := Lib.hid hd2
        have hd3 := Lib.hid hd3
        clear ownV ownF oeF opF hnwF hOl hown heach0 hnwok hins hput hnst hNC hbd fn fo fs s8 r8 i8 n8 o8 r9 i9 n9 hnwmk hoe8 hop8 hoe hop hov
        go_region
        go_wp2
        refine bodyPost_ret (results_row2_tmp rfl _ _ W1.heap.size W2.heap.size _ _ _ _ _ _ _ _ rfl t3 rfl t4 Tryd.underlying30 rfl szDSt Tryd.underlying24 rfl (hszI _ hn32)) rfl ⟨⟨_, es', rfl, hd1.out, hd2.out, hd3.out⟩, bF⟩
theorem docWith_calls {w : World} {vm : Value} {es : List DiL} (h : DocSt w vm es) (hf : es.length < 490000) (t : Txt) (ht : t.length ≤ 5000) :
    Calls Tryd.prog 8 #[.agg #[vm], .string (B t)] w fun e w' => WithR w es t e w' ∧ Below w.heap.size w w' := by
  cases hd : decO t with
  | none => exact docWith_none h hf t ht hd
  | some o =>
    cases hG : getS (es.map (·.st)) (shaOf t) with
    | none => exact docWith_new h hf t ht hd hG
    | some y => exact docWith_hit h hf t ht hd hG
end Go.Proofs.YtnehabcopjgklaaDoor
/- More of stores, plain. No condition; no program. -/
namespace Go.Proofs.YtnehabcopjgklaaDoor
open Go.RowKit
theorem find_self : ∀ {s : List StL} {x : StL}, SortedK StL.id s → x ∈ s → s.find? (fun r => r.id == x.id) = some x
  | [], x, _, hx => by simp at hx
  | y :: s, x, h, hx => by
    rw [List.find?_cons]
    rcases List.mem_cons.1 hx with hx | hx
    · rw [hx]; simp
    · rw [less_ne (sorted_head h x hx)]
      exact find_self (sorted_cons h) hx
theorem getS_self {s : List StL} {x : StL} (h : StoOk s) (hx : x ∈ s) : getS s x.id = some x := find_self h.sorted hx
theorem StIs.putI {x : StL} (h : StIs x) : putI x.text = x.id := by
  obtain ⟨h1, o, ho⟩ := h
  unfold Go.Proofs.YtnehabcopjgklaaDoor.putI
  rw [ho]; exact h1.symm
theorem StIs.putC {x : StL} (h : StIs x) : putC x.text = 0 := by
  obtain ⟨h1, o, ho⟩ := h
  unfold Go.Proofs.YtnehabcopjgklaaDoor.putC
  rw [ho]
theorem StIs.putS {x : StL} (h : StIs x) (s : List StL) : putS s x.text = if hasK StL.id s x.id then s else insK StL.id s x := by
  obtain ⟨h1, o, ho⟩ := h
  unfold Go.Proofs.YtnehabcopjgklaaDoor.putS
  rw [ho]
  simp only [← h1]
theorem sorted_split {s : List StL} {x : StL} {k : Nat} (h : SortedK StL.id s) (hx : s[k]? = some x) : (∀ y ∈ s.take k, Op.bytesLess y.id x.id = true) ∧ ∀ y ∈ s.drop (k + 1), Op.bytesLess x.id y.id = true := by
  have hlt := (List.getElem?_eq_some_iff.1 hx).1
  have e : s = s.take k ++ x :: s.drop (k + 1) := by
    rw [← (List.getElem?_eq_some_iff.1 hx).2, ← List.drop_eq_getElem_cons hlt, List.take_append_drop]
  unfold SortedK at h
  rw [e, List.pairwise_append] at h
  exact ⟨fun y hy => h.2.2 y hy x (by simp), fun y hy => (List.pairwise_cons.1 h.2.1).1 y hy⟩
theorem takeWhile_full {α : Type} {p : α → Bool} : ∀ {l : List α}, (∀ y ∈ l, p y = true) → l.takeWhile p = l
  | [], _ => rfl
  | y :: l, h => by rw [List.takeWhile_cons, if_pos (h y (by simp)), takeWhile_full fun z hz => h z (by simp [hz])]
/-- Items are put one behind the other, from the first one; from the last one. -/
theorem putS_rise {s : List StL} (h : StoOk s) {k : Nat} {x : StL} (hx : s[k]? = some x) : putS (s.take k) x.text = s.take (k + 1) := by
  have hl := (sorted_split h.sorted hx).1
  rw [(h.each x (List.mem_of_getElem? hx)).putS, if_neg, insK, show posK StL.id (s.take k) (StL.id x) = (s.take k).length by unfold posK; rw [takeWhile_full hl], List.take_length, List.drop_length, List.append_nil, List.take_add_one, hx]
  · rfl
  · unfold hasK
    rw [Bool.not_eq_true, List.any_eq_false]
    intro y hy
    rw [less_ne (hl y hy)]
    simp
theorem putS_fall {s : List StL} (h : StoOk s) {k : Nat} {x : StL} (hx : s[k]? = some x) : putS (s.drop (k + 1)) x.text = s.drop k := by
  have hl := (sorted_split h.sorted hx).2
  have hlt := (List.getElem?_eq_some_iff.1 hx).1
  have hp : posK StL.id (s.drop (k + 1)) (StL.id x) = 0 := by
    cases hd : s.drop (k + 1) with
    | nil => rfl
    | cons y l =>
      rw [posK_cons_ge]
      exact less_asymm (hl y (by rw [hd]; simp))
  rw [(h.each x (List.mem_of_getElem? hx)).putS, if_neg, insK, hp, List.take_zero, List.drop_zero, List.drop_eq_getElem_cons hlt, (List.getElem?_eq_some_iff.1 hx).2]
  · rfl
  · unfold hasK
    rw [Bool.not_eq_true, List.any_eq_false]
    intro y hy
    have := less_ne (hl y hy)
    have hne : ¬ y.id = x.id := fun e => by rw [e] at this; simp at this
    simpa using hne
theorem StoOk.take {s : List StL} (h : StoOk s) (k : Nat) : StoOk (s.take k) := ⟨fun x hx => h.each x (List.mem_of_mem_take hx), h.sorted.sublist (List.take_sublist _ _), by rw [List.length_take]; have := h.few; omega⟩
end Go.Proofs.YtnehabcopjgklaaDoor
/- The walk of layer 4: object.Id. Condition: the table of constants is as the program lays it. -/
namespace Go.Proofs.YtnehabcopjgklaaDoor
open Go.RowKit
theorem TabK.alloc_ {w : World} (h : TabK w) (o : Obj) : TabK (w.alloc o) := h.below ((Below.refl _ _).alloc (Nat.le_refl _) o)
set_option maxRecDepth 100000 in
set_option maxHeartbeats 2000000 in
theorem objId_calls (s : Txt) (hs : s.length ≤ 1000000000) (w : World) (hK : TabK w) : Calls Tryd.prog 25 #[.string (B s)] w fun e w' => e = .returned (.agg (u8s (shaOf s))) ∧ Below w.heap.size w w' := by
  have hzv := zeroIdV
  have hzl : (u8s noId).size = 32 := by rw [u8s_size, noId_len]
  generalize u8s noId = Z at *
  obtain ⟨W1, hW1⟩ : ∃ W1, w.alloc (.cells Z 24) = W1 := ⟨_, rfl⟩
  have hx1 : Blk W1 w.heap.size 24 Z := by rw [← hW1]; exact Blk.new _ _ _
  have b1 : Below w.heap.size w W1 := by rw [← hW1]; exact (Below.refl _ _).alloc (Nat.le_refl _) _
  obtain ⟨W2, hW2⟩ : ∃ W2, W1.alloc (.cells #[.string (B s)] 9) = W2 := ⟨_, rfl⟩
  have hb2 : Below W1.heap.size W1 W2 := by rw [← hW2]; exact (Below.refl _ _).alloc (Nat.le_refl _) _
  have hy2 : Blk W2 W1.heap.size 9 #[.string (B s)] := by rw [← hW2]; exact Blk.new _ _ _
  have hx2 := hx1.below hb2 hx1.lt
  have b2 := bthen b1 b1.size hb2
  have hK2 : TabK W2 := by rw [← hW2, ← hW1]; exact (hK.alloc_ _).alloc_ _
  have hst : Strs W2 (.slice (some ⟨W1.heap.size, 0, none⟩) 1 1) [s] := .inr ⟨W1.heap.size, 0, 1, rfl, fun j l hj => by
    match j, hj with
    | 0, hj =>
      injection hj with hj
      subst hj
      rw [hy2.cell]; rfl
    | j + 1, hj => simp at hj, hy2.lt, by simp, by simp⟩
  have hsum := sum_calls [s] _ W2 hK2 hst (by simp; omega)
  have hfl : [s].flatten = s := by simp
  rw [hfl] at hsum
  have hsum := Lib.hid hsum
  have hl := shaOf_length s
  have hsz : (Tryd.prog.info? 24).map (·.size) = some (u8s (shaOf s)).size := by rw [u8s_size, hl]; exact sz32
  have h32 : (u8s (shaOf s)).size = 32 := by rw [u8s_size, hl]
  have hone := u8s_one (shaOf s)
  obtain ⟨D, hD⟩ : ∃ D, Hid (u8s (shaOf s) = D) := ⟨_, Lib.hid rfl⟩
  rw [hD.out] at hsum hsz h32 hone
  clear hy2 hK2 hst hfl hl hx1 b1 hb2
  go_enter Tryd.func25, Tryd.ntmps25
  go_wp2_with (first
    | ((with_reducible refine hsum.out.mono ?_); rintro e w3 ⟨rfl, hb3⟩
       have hx3 := hx2.below hb3 hx2.lt
       have b3 := bthen b2 b2.size hb3
       clear hsum hW1 hW2)
    | (refine wpList_store_row rfl 24 (.tmp 2) (.tmp 5) rfl w.heap.size D rfl rfl _ _ hx3 hsz (by rw [hzl, h32]) hone ?_))
  exact bodyPost_ret (results_cell_row rfl _ _ w.heap.size _ _ _ _ rfl (setRow_heap _ _ _ _ _ _ hx3) Tryd.underlying24 rfl hsz) rfl ⟨by rw [hD.out], below_setRow b3 (Nat.le_refl _) _⟩
end Go.Proofs.YtnehabcopjgklaaDoor
/- The walk of layer 11 (store): Put. Condition: the table of constants is as the program lays it. -/
namespace Go.Proofs.YtnehabcopjgklaaDoor
open Go.RowKit
attribute [local go_sem ↓] ldvI_eq ldvO_eq
/-- What Put leaves. -/
def PutAt (w : World) (base p : Nat) (vl : Value) (s' : List StL) (w' : World) : Prop := ∃ vl', StoAt w' base p vl' s' ∧ Far [some p, vl.ownBlock] w w' ∧ Newer w vl vl'
set_option maxRecDepth 100000 in
set_option maxHeartbeats 8000000 in
theorem stoPut_calls {w : World} {base p : Nat} {vl : Value} {s : List StL} (hB : base ≤ w.heap.size) (h : StoAt w base p vl s) (t : Txt) (ht : t.length ≤ 1000000) (hK : TabK w) (hf : s.length < 500000) :
    Calls Tryd.prog 7 #[.pointer (some ⟨p, 0, none⟩), .string (B t)] w fun e w' => e = .returned (.tuple #[.agg (u8s (putI t)), .int .i64 (putC t)]) ∧ PutAt w base p vl (putS s t) w' := by
  have hzI := zeroIdV
  have hrb := fun W => run_build (P := Tryd.prog) W _ _ _ built_zId
  have hZ32 : (u8s noId).size = 32 := by rw [u8s_size, noId_len]
  have hZone := u8s_one noId
  obtain ⟨W0, hW0⟩ : ∃ W0, w.alloc (.cells (u8s noId) 24) = W0 := ⟨_, rfl⟩
  have z0 : Blk W0 w.heap.size 24 (u8s noId) := by rw [← hW0]; exact Blk.new _ _ _
  have b0 : Below w.heap.size w W0 := by rw [← hW0]; exact (Below.refl _ _).alloc (Nat.le_refl _) _
  have hsz : ∀ cs : Array Value, cs.size = 32 → (Tryd.prog.info? 24).map (·.size) = some cs.size := fun cs h => by rw [h]; exact sz32
  have hde := Lib.hid (decode_calls t (by omega) W0)
  have hzo := zeroObj
  have hz72 := zObj_size
  have hplw := h.lt
  have hD := Lib.hid h
  have hn0 : (List.replicate 32 (0 : UInt8)) = noId := rfl
  cases hd : decO t with
  | none =>
    have hpi : putI t = noId := by unfold putI; rw [hd]; exact hn0
    have hpc : putC t = 2 := by unfold putC; rw [hd]
    have hps : putS s t = s := by unfold putS; rw [hd]
    rw [hpi, hpc, hps]
    rw [hd] at hde
    have hde : Hid (Calls Tryd.prog 24 #[.string (B t)] W0 fun e w' => e = .returned (.tuple #[.agg zObj, .int .i64 2]) ∧ Below W0.heap.size W0 w') := hde
    have hzone : zObj.all (·.oneCell') = true := objC_all zeroO none none 0 0 0 0
    generalize u8s noId = Z at *
    generalize zObj = ZO at *
    clear hd hpi hpc hps hn0
    go_enter Tryd.func7, Tryd.ntmps7
    go_wp2_with (first
      | ((with_reducible refine hde.out.mono ?_); rintro e w1 ⟨rfl, bb1⟩
         have b1 := bthen b0 b0.size bb1
         have z1 := z0.below bb1 z0.lt)
      | ((with_reducible refine lit_new 41 (.tmp 6) (.tmp 17) ZO 72 szObj hz72 hzone _ ?_ ?_ ?_ ?_)
         · first | exact hz72 | rfl
         · rfl
         · rfl
         intro W2 hb2 hbl2
         have b2 := bthen b1 b1.size hbl2
         have z2 := z1.below hbl2 z1.lt)
      | (refine wpList_store_row rfl 24 (.tmp 4) (.tmp 21) rfl w.heap.size Z rfl rfl _ _ z2 (hsz Z hZ32) rfl hZone ?_))
    refine bodyPost_ret (results_row_tmp rfl _ _ w.heap.size _ _ _ _ rfl (setRow_heap _ _ _ _ _ _ z2) Tryd.underlying24 rfl (hsz Z hZ32)) rfl ⟨rfl, ?_⟩
    have hb := below_setRow b2 (Nat.le_refl _) Z
    exact ⟨vl, hD.out.below hb, Far.of_below hb, Newer.refl _ _⟩
  | some o =>
    have hpi : putI t = shaOf t := by unfold putI; rw [hd]
    have hpc : putC t = 0 := by unfold putC; rw [hd]
    have hps : putS s t = if hasK StL.id s (shaOf t) then s else insK StL.id s ⟨shaOf t, t⟩ := by unfold putS; rw [hd]
    have hokP := h.ok.put t hf
    rw [hpi, hpc]
    rw [hps] at hokP ⊢
    rw [hd] at hde
    have hde : Hid (Calls Tryd.prog 24 #[.string (B t)] W0 fun e w' => (∃ A1 A2 k1 k2, e = .returned (.tuple #[.agg (objC o (.slice A1 o.ents.length k1) (.slice A2 o.pars.length k2)).toArray, .int .i64 0]) ∧ ObjV w' (.slice A1 o.ents.length k1) (.slice A2 o.pars.length k2) o) ∧ Below W0.heap.size W0 w') := Lib.hid (hde.out.mono fun e w' ⟨⟨A1, A2, k1, k2, h1, h2, _⟩, hb⟩ => ⟨⟨A1, A2, k1, k2, h1, h2⟩, hb⟩)
    have hid := fun W (hb : Below w.heap.size w W) => objId_calls t (by omega) W (hK.below hb)
    have hn32 := shaOf_length t
    have hxok : StitOk ⟨shaOf t, t⟩ := ⟨hn32, by show t.length ≤ _; omega⟩
    obtain ⟨n, hn⟩ : ∃ n, shaOf t = n := ⟨_, rfl⟩
    rw [hn] at hid hn32 hxok hokP ⊢
    have hN32 : (u8s n).size = 32 := by rw [u8s_size, hn32]
    have hNone := u8s_one n
    have hsI : (Tryd.prog.info? 24).map (·.size) = some (u8s n).toList.length := by rw [u8s_lenS, hn32]; exact sz32
    have hldn : ∀ W g, Blk W g 24 (u8s n) → (ldvI ⟨g, 0, none⟩).run Tryd.prog W = .ok (.agg (u8s n)) W := fun W g hb => by
      have := run_loadVar_mid (P := Tryd.prog) W g 0 24 (u8s n).toList _ (range_blk hb) Tryd.underlying24 rfl hsI
      rwa [Array.toArray_toList] at this
    have hpl := fun W (hb : Below w.heap.size w W) => stoPlace_calls (hD.out.below hb) n hn32
    have hPle : posK StL.id s n ≤ s.length := posK_le
    have hZ32' : (u8s noId).size = (u8s n).size := by rw [hZ32, hN32]
    clear hd hpi hpc hps hn0 hn
    cases hh : hasK StL.id s n with
    | true =>
      rw [hh] at hpl hokP
      simp only [if_true] at hokP ⊢
      generalize posK StL.id s n = P at *
      go_enter Tryd.func7, Tryd.ntmps7
      go_wp2_with (first
        | ((with_reducible refine hde.out.mono ?_); rintro e w1 ⟨⟨A1, A2, k1, k2, rfl, hv1⟩, bb1⟩
           have b1 := bthen b0 b0.size bb1
           have z1 := z0.below bb1 z0.lt
           have hc72 : (objC o (.slice A1 o.ents.length k1) (.slice A2 o.pars.length k2)).toArray.size = 72 := by rw [List.size_toArray, objC_len hv1.ok]
           have hcone := objC_all o A1 A2 o.ents.length k1 o.pars.length k2)
        | ((with_reducible refine lit_new 41 (.tmp 6) (.tmp 17) (objC o (.slice A1 o.ents.length k1) (.slice A2 o.pars.length k2)).toArray 72 szObj hc72 hcone _ ?_ ?_ ?_ ?_)
           · first | exact hz72 | rfl
           · rfl
           · rfl
           intro W2 hb2 hbl2
           have b2 := bthen b1 b1.size hbl2
           have z2 := z1.below hbl2 z1.lt)
        | ((with_reducible refine (hid _ b2).mono ?_); rintro e w3 ⟨rfl, bb3⟩
           have b3 := bthen b2 b2.size bb3
           have z3 := z2.below bb3 z2.lt)
        | ((with_reducible refine lit_new 24 (.tmp 8) (.tmp 23) (u8s n) 32 sz32 hN32 hNone _ ?_ ?_ ?_ ?_)
           · first | exact hZ32 | rfl
           · rfl
           · rfl
           intro W4 hb4 hbl4
           have b4 := bthen b3 b3.size hbl4
           have z4 := z3.below hbl4 z3.lt
           have ld4 := hldn _ _ hb4)
        | ((with_reducible refine (hpl _ b4).mono ?_); rintro e w5 ⟨rfl, bb5⟩
           have b5 := bthen b4 b4.size bb5
           have z5 := z4.below bb5 z4.lt
           have ld5 := hldn _ _ (hb4.below bb5 hb4.lt))
        | (refine wpList_store_row rfl 24 (.tmp 4) (.tmp 45) rfl w.heap.size (u8s n) rfl rfl _ _ z5 (hsz _ hN32) hZ32' hNone ?_))
      refine bodyPost_ret (results_row_tmp rfl _ _ w.heap.size _ _ _ _ rfl (setRow_heap _ _ _ _ _ _ z5) Tryd.underlying24 rfl (hsz _ hN32)) rfl ⟨rfl, ?_⟩
      have hb := below_setRow b5 (Nat.le_refl _) (u8s n)
      exact ⟨vl, hD.out.below hb, Far.of_below hb, Newer.refl _ _⟩
    | false =>
      rw [hh] at hpl hokP
      simp only [Bool.false_eq_true, if_false] at hokP ⊢
      unfold insK at hokP ⊢
      simp only at hokP ⊢
      generalize posK StL.id s n = P at *
      obtain ⟨s', hs'⟩ : ∃ s', s.take P ++ [(⟨n, t⟩ : StL)] ++ s.drop P = s' := ⟨_, rfl⟩
      rw [hs'] at hokP ⊢
      have HS := Lib.hid hs'
      clear hs'
      go_enter Tryd.func7, Tryd.ntmps7
      go_upto_region 9 with (first
        | ((with_reducible refine hde.out.mono ?_); rintro e w1 ⟨⟨A1, A2, k1, k2, rfl, hv1⟩, bb1⟩
           have b1 := bthen b0 b0.size bb1
           have z1 := z0.below bb1 z0.lt
           have hc72 : (objC o (.slice A1 o.ents.length k1) (.slice A2 o.pars.length k2)).toArray.size = 72 := by rw [List.size_toArray, objC_len hv1.ok]
           have hcone := objC_all o A1 A2 o.ents.length k1 o.pars.length k2)
        | ((with_reducible refine lit_new 41 (.tmp 6) (.tmp 17) (objC o (.slice A1 o.ents.length k1) (.slice A2 o.pars.length k2)).toArray 72 szObj hc72 hcone _ ?_ ?_ ?_ ?_)
           · first | exact hz72 | rfl
           · rfl
           · rfl
           intro W2 hb2 hbl2
           have b2 := bthen b1 b1.size hbl2
           have z2 := z1.below hbl2 z1.lt)
        | ((with_reducible refine (hid _ b2).mono ?_); rintro e w3 ⟨rfl, bb3⟩
           have b3 := bthen b2 b2.size bb3
           have z3 := z2.below bb3 z2.lt)
        | ((with_reducible refine lit_new 24 (.tmp 8) (.tmp 23) (u8s n) 32 sz32 hN32 hNone _ ?_ ?_ ?_ ?_)
           · first | exact hZ32 | rfl
           · rfl
           · rfl
           intro W4 hb4 hbl4
           have b4 := bthen b3 b3.size hbl4
           have z4 := z3.below hbl4 z3.lt
           have hgI : w.heap.size ≤ w3.heap.size := b3.size
           have ld4 := hldn _ _ hb4)
        | ((with_reducible refine (hpl _ b4).mono ?_); rintro e w0 ⟨rfl, bb5⟩
           have b5 := bthen b4 b4.size bb5
           have z5 := z4.below bb5 z4.lt
           have hI5 := hb4.below bb5 hb4.lt))
      have hgI0 := z3.lt
      obtain ⟨gI, hgIe⟩ : ∃ gI, w3.heap.size = gI := ⟨_, rfl⟩
      rw [hgIe] at hI5 hgI0 ⊢
      have hD0 := hD.out.below b5
      have hplw2 : p < w.heap.size := hplw
      have hlv0 : ∀ q, vl.ownBlock = some q → q < w.heap.size := fun q hq => (World.ownsRow.lt hD.out.own q hq).2
      have hok := hD.out.ok
      have hB : base ≤ w0.heap.size := Nat.le_trans hB b5.size
      replace hD := Lib.hid hD0
      have hlv : ∀ q, vl.ownBlock = some q → q < w0.heap.size := fun q hq => (World.ownsRow.lt hD.out.own q hq).2
      have hPl := hPle
      have ldn := fun W (hW : Below w0.heap.size w0 W) => hldn W gI (hI5.below hW hI5.lt)
      clear hde hid hpl b0 b1 b2 b3 b4 z0 z1 z2 z3 z4 ld4 bb1 bb3 bb5 hv1 hc72 hcone hb2 hbl2 hb4 hbl4 hW0 hD0 hgIe hplw hPle hh hK
      obtain ⟨V, hV⟩ : ∃ V : Nat → Value, V = fun i => [(.pointer (some ⟨p, 0, none⟩)), (.pointer (some ⟨p, 0, none⟩)), (.pointer (some ⟨p, 0, none⟩)), (.pointer (some ⟨p, 0, none⟩)), vl, (.int .i64 P), (.agg (u8s n)), (.string (B t)), (.agg (stitC ⟨n, t⟩).toArray), undef, undef, (.pointer (some ⟨p, 0, none⟩)), (.pointer (some ⟨p, 0, none⟩)), undef].getD i undef := ⟨_, rfl⟩
      have v0 : V 0 = (.pointer (some ⟨p, 0, none⟩)) := by rw [hV]; rfl
      have v1 : V 1 = (.pointer (some ⟨p, 0, none⟩)) := by rw [hV]; rfl
      have v2 : V 2 = (.pointer (some ⟨p, 0, none⟩)) := by rw [hV]; rfl
      have v3 : V 3 = (.pointer (some ⟨p, 0, none⟩)) := by rw [hV]; rfl
      have v4 : V 4 = vl := by rw [hV]; rfl
      have v5 : V 5 = (.int .i64 P) := by rw [hV]; rfl
      have v6 : V 6 = (.agg (u8s n)) := by rw [hV]; rfl
      have v7 : V 7 = (.string (B t)) := by rw [hV]; rfl
      have v8 : V 8 = (.agg (stitC ⟨n, t⟩).toArray) := by rw [hV]; rfl
      have v11 : V 11 = (.pointer (some ⟨p, 0, none⟩)) := by rw [hV]; rfl
      have v12 : V 12 = (.pointer (some ⟨p, 0, none⟩)) := by rw [hV]; rfl
      have v13 : V 13 = undef := by rw [hV]; rfl
      clear hV
      refine wp_region_listed (C := StPutC w0 base p vl s') (R := StPutR V w0 base vl ⟨n, t⟩ s') (by kernel_rfl) (by kernel_rfl) (by kernel_rfl) ?_ (StPutC.start w0).drew ?_ ?_
      · exact sizes_spec (n := 46) (by kernel_rfl)
      · intro i o listed a w1 ho hi hL
        have hin := (ready_spec hi).1
        have hsz : listed.size = 14 := hL.size
        match i, ho with
        | 0, ho =>
          obtain rfl := (Option.some.inj ho).symm
          have e0 : a.tmps[0]?.getD undef = (.pointer (some ⟨p, 0, none⟩)) := (slot_eval a 0).trans (hL.get_old hi (by kernel_rfl))
          have hc := hL.cls
          refine step_wp rfl rfl ?_
          clear ho hL
          refine wp_val (v := (.pointer (some ⟨p, 0, none⟩))) ?_ ⟨_, rfl, StPutR.mk (by decide) v0.symm, hc.same (by rw [hsz]; decide) (by decide), fun _ _ _ h => h⟩
          clear hi hin hsz v0 v1 v2 v3 v4 v5 v6 v7 v8 v11 v12 v13  hc
          unfold execOp
          go_simp
        | 1, ho =>
          obtain rfl := (Option.some.inj ho).symm
          have e0 : a.tmps[0]?.getD undef = (.pointer (some ⟨p, 0, none⟩)) := (slot_eval a 0).trans (hL.get_old hi (by kernel_rfl))
          have hc := hL.cls
          refine step_wp rfl rfl ?_
          clear ho hL
          refine wp_val (v := (.pointer (some ⟨p, 0, none⟩))) ?_ ⟨_, rfl, StPutR.mk (by decide) v1.symm, hc.same (by rw [hsz]; decide) (by decide), fun _ _ _ h => h⟩
          clear hi hin hsz v0 v1 v2 v3 v4 v5 v6 v7 v8 v11 v12 v13  hc
          unfold execOp
          go_simp
        | 2, ho =>
          obtain rfl := (Option.some.inj ho).symm
          have e0 : a.tmps[33]?.getD undef = (.pointer (some ⟨p, 0, none⟩)) := (slot_eval a 33).trans ((StPutR.at_ (hi := by decide) (hL.get_new (j := 1) hi (by kernel_rfl))).trans v1)
          have hc := hL.cls
          refine step_wp rfl rfl ?_
          clear ho hL
          refine wp_val (v := (.pointer (some ⟨p, 0, none⟩))) ?_ ⟨_, rfl, StPutR.mk (by decide) v2.symm, hc.same (by rw [hsz]; decide) (by decide), fun _ _ _ h => h⟩
          clear hi hin hsz v0 v1 v2 v3 v4 v5 v6 v7 v8 v11 v12 v13  hc
          unfold execOp
          go_simp
        | 3, ho =>
          obtain rfl := (Option.some.inj ho).symm
          have e0 : a.tmps[34]?.getD undef = (.pointer (some ⟨p, 0, none⟩)) := (slot_eval a 34).trans ((StPutR.at_ (hi := by decide) (hL.get_new (j := 2) hi (by kernel_rfl))).trans v2)
          have hc := hL.cls
          refine step_wp rfl rfl ?_
          clear ho hL
          refine wp_val (v := (.pointer (some ⟨p, 0, none⟩))) ?_ ⟨_, rfl, StPutR.mk (by decide) v3.symm, hc.same (by rw [hsz]; decide) (by decide), fun _ _ _ h => h⟩
          clear hi hin hsz v0 v1 v2 v3 v4 v5 v6 v7 v8 v11 v12 v13  hc
          unfold execOp
          go_simp
        | 4, ho =>
          obtain rfl := (Option.some.inj ho).symm
          have e0 : a.tmps[35]?.getD undef = (.pointer (some ⟨p, 0, none⟩)) := (slot_eval a 35).trans ((StPutR.at_ (hi := by decide) (hL.get_new (j := 3) hi (by kernel_rfl))).trans v3)
          have hc := hL.cls
          refine step_wp rfl rfl ?_
          have hL4 := hL.later (j := 10) hi (by kernel_rfl)
          clear ho hL
          refine wp_val (v := vl) ?_ ⟨_, rfl, StPutR.mk (by decide) v4.symm, hc.same (by rw [hsz]; decide) (by decide), fun _ _ _ h => h⟩
          have hb0 := hc.a_ (hL4)
          have q := (hD.out.below hb0).c0
          clear hi hin hsz v0 v1 v2 v3 v4 v5 v6 v7 v8 v11 v12 v13  hc
          unfold execOp
          go_simp
        | 5, ho =>
          obtain rfl := (Option.some.inj ho).symm
          have e0 : a.tmps[9]?.getD undef = (.int .i64 P) := (slot_eval a 9).trans (hL.get_old hi (by kernel_rfl))
          have hc := hL.cls
          refine step_wp rfl rfl ?_
          clear ho hL
          refine wp_val (v := (.int .i64 P)) ?_ ⟨_, rfl, StPutR.mk (by decide) v5.symm, hc.same (by rw [hsz]; decide) (by decide), fun _ _ _ h => h⟩
          clear hi hin hsz v0 v1 v2 v3 v4 v5 v6 v7 v8 v11 v12 v13  hc
          unfold execOp
          go_simp
        | 6, ho =>
          obtain rfl := (Option.some.inj ho).symm
          have e0 : a.tmps[8]?.getD undef = (.pointer (some ⟨gI, 0, none⟩)) := (slot_eval a 8).trans (hL.get_old hi (by kernel_rfl))
          have hc := hL.cls
          refine step_wp rfl rfl ?_
          have hL8 := hL.later (j := 8) hi (by kernel_rfl)
          have hL9 : listed.getD 9 false = false := hL.later2 hL8 (by kernel_rfl)
          have hL6 : listed.getD 10 false = false := hL.later2 hL9 (by kernel_rfl)
          clear ho hL
          refine wp_val (v := (.agg (u8s n))) ?_ ⟨_, rfl, StPutR.mk (by decide) v6.symm, hc.same (by rw [hsz]; decide) (by decide), fun _ _ _ h => h⟩
          have hb0 := hc.a_ (hL6)
          have q := ldn w1 hb0
          clear hi hin hsz v0 v1 v2 v3 v4 v5 v6 v7 v8 v11 v12 v13  hc
          unfold execOp
          go_simp
        | 7, ho =>
          obtain rfl := (Option.some.inj ho).symm
          have e0 : a.tmps[1]?.getD undef = (.string (B t)) := (slot_eval a 1).trans (hL.get_old hi (by kernel_rfl))
          have hc := hL.cls
          refine step_wp rfl rfl ?_
          clear ho hL
          refine wp_val (v := (.string (B t))) ?_ ⟨_, rfl, StPutR.mk (by decide) v7.symm, hc.same (by rw [hsz]; decide) (by decide), fun _ _ _ h => h⟩
          clear hi hin hsz v0 v1 v2 v3 v4 v5 v6 v7 v8 v11 v12 v13  hc
          unfold execOp
          go_simp
        | 8, ho =>
          obtain rfl := (Option.some.inj ho).symm
          have e0 : a.tmps[38]?.getD undef = (.agg (u8s n)) := (slot_eval a 38).trans ((StPutR.at_ (hi := by decide) (hL.get_new (j := 6) hi (by kernel_rfl))).trans v6)
          have e1 : a.tmps[39]?.getD undef = (.string (B t)) := (slot_eval a 39).trans ((StPutR.at_ (hi := by decide) (hL.get_new (j := 7) hi (by kernel_rfl))).trans v7)
          have hc := hL.cls
          refine step_wp rfl rfl ?_
          clear ho hL
          refine build_step rfl (built_stit ⟨n, t⟩ hxok.1) (parts2 (slot_is e0) (slot_is e1)) ⟨_, rfl, StPutR.mk (by decide) v8.symm, hc.same (by rw [hsz]; decide) (by decide), fun _ _ _ h => h⟩
        | 9, ho =>
          obtain rfl := (Option.some.inj ho).symm
          have e0 : a.tmps[40]?.getD undef = (.agg (stitC ⟨n, t⟩).toArray) := (slot_eval a 40).trans ((StPutR.at_ (hi := by decide) (hL.get_new (j := 8) hi (by kernel_rfl))).trans v8)
          have hc := hL.cls
          have hla := hL.later (j := 10) hi (by kernel_rfl)
          have hb0 := hc.a_ hla
          clear ho hL
          refine step_wp rfl rfl ?_
          refine slice_step rfl Tryd.stitTy (by decide) (stitC_len hxok) (.inl (slot_is e0)) ⟨_, rfl, StPutR.lit (Blk.new _ _ _) hb0.size, ?_, fun j u _ h => StPutR.far (S := []) h (Far.of_below ((Below.refl _ _).alloc (Nat.le_refl _) _)) (fun _ _ _ => by simp) (fun _ _ _ => by simp)⟩
          refine StPutC.same ⟨fun _ => hb0.alloc hb0.size _, fun e => ?_, fun e => ?_, ?_⟩ (by rw [hsz]; decide) (by decide)
          · rw [hla] at e; cases e
          · obtain ⟨v', h1, h2, h3, h4⟩ := hc.c_ e
            exact ⟨v', h1.alloc _, World.ownsRow.alloc h2 _, h3, h4.alloc _⟩
          · exact Nat.le_trans hc.sz (by simp)
        | 10, ho =>
          obtain rfl := (Option.some.inj ho).symm
          have e0 : a.tmps[36]?.getD undef = vl := (slot_eval a 36).trans ((StPutR.at_ (hi := by decide) (hL.get_new (j := 4) hi (by kernel_rfl))).trans v4)
          have e1 : a.tmps[37]?.getD undef = (.int .i64 P) := (slot_eval a 37).trans ((StPutR.at_ (hi := by decide) (hL.get_new (j := 5) hi (by kernel_rfl))).trans v5)
          have e2 := hL.get_new (j := 9) (t := 41) hi (by kernel_rfl)
          have hc := hL.cls
          have hla : listed.getD 10 false = false := by rw [getD_of_size (by rw [hsz]; exact hin)]; exact (ready_spec hi).2.1
          have hlb := hL.later (j := 13) hi (by kernel_rfl)
          have hb0 := hc.a_ hla
          obtain ⟨b, h5, hb5, hge5⟩ := StPutR.litAt e2
          clear ho hL
          refine step_wp rfl rfl ?_
          have hins := insertStits_calls s hok.ok (by have := hok.few; omega) vl w1 base P b ⟨n, t⟩ hxok (Nat.le_trans hB hc.sz) (own_below hD.out.own hb0) hPl hb5 (fun e => by have := hlv _ e; omega)
          refine call_step rfl (vals := #[vl, .int .i64 P, .slice (some ⟨b, 0, none⟩) 1 1]) (map3 (slot_is e0) (slot_is e1) h5) (by go_simp) hins ?_
          rintro e w2 ⟨v', rfl, hown2, hg2, hnw2⟩
          rw [HS.out] at hown2
          have hf2 : Far [vl.ownBlock] w1 w2 := Far.of_grown hg2
          refine ⟨_, rfl, _, rfl, StPutR.ins hown2 ((Newer.refl w0 vl).then_ hnw2 hc.sz), ?_, fun j u hj h => StPutR.far h hf2 (fun q hq _ hm => ?_) (fun hj10 k hk hm => ?_)⟩
          · refine ⟨fun e => ?_, fun _ _ => (Far.of_below hb0).then_ hf2 (fun k hk => .inl hk), fun e => ?_, Nat.le_trans hc.sz hf2.size⟩
            · rw [getD_set (by rw [hsz]; decide), if_pos rfl] at e; cases e
            · rw [getD_set (by rw [hsz]; decide), if_neg (by decide), hlb] at e; cases e
          · simp only [List.mem_singleton] at hm
            have := hlv q hm.symm
            omega
          · subst hj10
            rw [hla] at hj; cases hj
        | 11, ho =>
          obtain rfl := (Option.some.inj ho).symm
          have e0 : a.tmps[32]?.getD undef = (.pointer (some ⟨p, 0, none⟩)) := (slot_eval a 32).trans ((StPutR.at_ (hi := by decide) (hL.get_new (j := 0) hi (by kernel_rfl))).trans v0)
          have hc := hL.cls
          refine step_wp rfl rfl ?_
          clear ho hL
          refine wp_val (v := (.pointer (some ⟨p, 0, none⟩))) ?_ ⟨_, rfl, StPutR.mk (by decide) v11.symm, hc.same (by rw [hsz]; decide) (by decide), fun _ _ _ h => h⟩
          clear hi hin hsz v0 v1 v2 v3 v4 v5 v6 v7 v8 v11 v12 v13  hc
          unfold execOp
          go_simp
        | 12, ho =>
          obtain rfl := (Option.some.inj ho).symm
          have e0 : a.tmps[43]?.getD undef = (.pointer (some ⟨p, 0, none⟩)) := (slot_eval a 43).trans ((StPutR.at_ (hi := by decide) (hL.get_new (j := 11) hi (by kernel_rfl))).trans v11)
          have hc := hL.cls
          refine step_wp rfl rfl ?_
          clear ho hL
          refine wp_val (v := (.pointer (some ⟨p, 0, none⟩))) ?_ ⟨_, rfl, StPutR.mk (by decide) v12.symm, hc.same (by rw [hsz]; decide) (by decide), fun _ _ _ h => h⟩
          clear hi hin hsz v0 v1 v2 v3 v4 v5 v6 v7 v8 v11 v12 v13  hc
          unfold execOp
          go_simp
        | 13, ho =>
          obtain rfl := (Option.some.inj ho).symm
          have e0 : a.tmps[44]?.getD undef = (.pointer (some ⟨p, 0, none⟩)) := (slot_eval a 44).trans ((StPutR.at_ (hi := by decide) (hL.get_new (j := 12) hi (by kernel_rfl))).trans v12)
          have e1 := hL.get_new (j := 10) (t := 42) hi (by kernel_rfl)
          have hc := hL.cls
          have hla : listed.getD 10 false = true := hL.before hi (by kernel_rfl)
          have hls : listed.getD 13 false = false := (getD_of_size (by rw [hsz]; exact hin)).trans (ready_spec hi).2.1
          have hf0 := hc.b_ hla hls
          obtain ⟨hown2, hnw2⟩ := StPutR.insAt e1
          have hp1 : Blk w1 p 63 #[vl] := hf0.blk hD.out.blk (fun hm => by simp only [List.mem_singleton] at hm; exact hD.out.ne hm.symm)
          have hvp : ∀ k, (a.eval (.tmp 42)).ownBlock = some k → some k ∉ [some p] := fun k hk hm => by
            simp only [List.mem_singleton] at hm
            injection hm with hm
            subst hm
            exact hnw2.ne hD.out.lt hD.out.ne hk
          obtain ⟨A2, c2, hform⟩ := own_form' hown2
          have e2 : a.tmps[42]?.getD undef = .slice A2 s'.length c2 := (slot_eval a 42).trans hform
          have c0 : w1.cell? ⟨p, 0, none⟩ = some vl := by rw [hp1.cell]; rfl
          have f0 := hp1.frozen 0
          rw [hform] at hown2 hnw2 hvp
          have hf1 : Far [some p] w1 (w1.setCell ⟨p, 0, none⟩ (.slice A2 s'.length c2)) := (Far.refl _ _).set_ (p := ⟨p, 0, none⟩) (.inl (by simp)) _
          have hown3 := hf1.own hown2 hvp
          have hH : ∀ u : Value, StPutC w0 base p vl s' (listed.setIfInBounds 13 true) (w1.setCell ⟨p, 0, none⟩ (.slice A2 s'.length c2)) := fun _ => by
            refine ⟨fun e => ?_, fun _ e => ?_, fun _ => ⟨_, hp1.set_ 0 _, hown3, hnw2, (hf0.mono (T := [some p, vl.ownBlock]) fun k hk => List.mem_cons_of_mem _ hk).then_ (T := [some p]) hf1 (fun k hk => .inl (by simp only [List.mem_singleton] at hk; rw [hk]; simp))⟩, Nat.le_trans hc.sz hf1.size⟩
            · rw [getD_set (by rw [hsz]; decide), if_neg (by decide), hla] at e; cases e
            · rw [getD_set (by rw [hsz]; decide), if_pos rfl] at e; cases e
          have hK : ∀ j u, listed.getD j false = true → StPutR V w0 base vl ⟨n, t⟩ s' j u w1 → StPutR V w0 base vl ⟨n, t⟩ s' j u (w1.setCell ⟨p, 0, none⟩ (.slice A2 s'.length c2)) := fun j u _ hju => StPutR.far hju hf1 (fun q hq _ hm => by
            simp only [List.mem_singleton] at hm
            injection hm with hm
            have := hD.out.lt
            omega) (fun hj k hk hm => by
            rw [hj] at hju
            simp only [List.mem_singleton] at hm
            injection hm with hm
            rw [hm] at hk
            exact (StPutR.insAt hju).2.ne hD.out.lt hD.out.ne hk)
          refine step_wp rfl rfl ?_
          clear hi ho hL hin hc hown2 hnw2 hown3 hvp e1 hform
          refine wp_skip (w' := w1.setCell ⟨p, 0, none⟩ (.slice A2 s'.length c2)) ?_ ⟨_, rfl, StPutR.mk (by decide) v13.symm, hH undef, hK⟩
          clear hH hK v0 v1 v2 v3 v4 v5 v6 v7 v8 v11 v12 v13
          unfold execOp
          go_simp
        | (n + 14), ho => exact absurd hin (by simp)
      · intro a w1 listed hL hall
        have hc := hL.cls
        obtain ⟨vs, rfl, hR⟩ := hL.frame (by kernel_rfl) (sizes_spec (n := 46) (by kernel_rfl)) hall
        simp only [putAll, Act.put, List.setIfInBounds_toArray, List.set_cons_zero, List.set_cons_succ]
        simp only [Nat.zero_add, Nat.reduceAdd]
        obtain ⟨v', hp9, hown9, hnw9, hfar9⟩ := hc.c_ (hall 13 (by decide))
        clear hR hc hL
        have hgIn : some gI ∉ [some p, vl.ownBlock] := fun hm => by
          rcases List.mem_cons.1 hm with h1 | h1
          · injection h1 with h1
            omega
          · have h2 := hlv0 gI (List.mem_singleton.1 h1).symm
            omega
        have hgZn : some w.heap.size ∉ [some p, vl.ownBlock] := fun hm => by
          rcases List.mem_cons.1 hm with h1 | h1
          · injection h1 with h1
            omega
          · have h2 := hlv0 w.heap.size (List.mem_singleton.1 h1).symm
            omega
        have ld9 := hldn w1 gI (hfar9.blk hI5 hgIn)
        have z9 := hfar9.blk z5 hgZn
        go_wp2_with (first
          | (refine wpList_store_row rfl 24 (.tmp 4) (.tmp 45) rfl w.heap.size (u8s n) rfl rfl _ _ z9 (hsz _ hN32) hZ32' hNone ?_))
        refine bodyPost_ret (results_row_tmp rfl _ _ w.heap.size _ _ _ _ rfl (setRow_heap _ _ _ _ _ _ z9) Tryd.underlying24 rfl (hsz _ hN32)) rfl ⟨rfl, ?_⟩
        have hf10 : Far [some w.heap.size] w1 (w1.setRow w.heap.size (u8s n)) := ⟨rfl, rfl, rfl, by simp, fun k _ hk => setRow_other _ _ _ _ (fun e => hk (by rw [e]; simp))⟩
        have hne1 : some p ∉ [some w.heap.size] := fun hm => by
          have := List.mem_singleton.1 hm
          injection this with this
          omega
        have hne2 : ∀ k, v'.ownBlock = some k → some k ∉ [some w.heap.size] := fun k hk hm => by
          have h1 := List.mem_singleton.1 hm
          injection h1 with h1
          subst h1
          rcases hnw9 with h2 | h2
          · have := hlv0 _ (h2.symm.trans hk)
            omega
          · have := h2 _ hk
            have := z5.lt
            omega
        refine ⟨v', ⟨hf10.blk hp9 hne1, hf10.own hown9 hne2, hokP⟩, ?_, ?_⟩
        · exact ((Far.of_below b5).then_ hfar9 (fun k hk => .inl hk)).then_ hf10 (fun k hk => .inr (by
            have := List.mem_singleton.1 hk
            injection this with this
            omega))
        · rcases hnw9 with h2 | h2
          · exact .inl h2
          · exact .inr fun k hk => Nat.le_trans b5.size (h2 k hk)
end Go.Proofs.YtnehabcopjgklaaDoor
/- Regions that draw their order, by a class that may speak of the frame too: 'x, y := f(..)' where x is laid amid the region. No condition; no program. -/
namespace Go.Proofs.YtnehabcopjgklaaDoor
open Go.RowKit
section
variable {P : Program} {ops : Array Oper} {a0 : Act} {C : Array Bool → Act → World → Prop} {R : Nat → Value → World → Prop} {Q : Exit → Act → World → Prop}
theorem Left.as {C C' : Array Bool → World → Prop} {listed : Array Bool} {a : Act} {w : World} (h : Left ops a0 C R listed a w) (hc : C' listed w) : Left ops a0 C' R listed a w := ⟨hc, h.size, h.closed, h.tsize, h.defers, h.old, h.new⟩
theorem wpAny_leftA (hac : acyc ops = true) (hd : apartB ops = true) (hsz : ∀ (i : Nat) o (t : Nat), ops[i]? = some o → o.dst = some t → t < a0.tmps.size)
    (hstep : ∀ i o listed a w, ops[i]? = some o → i ∈ Region.ready .any ops listed → Left ops a0 (fun l w => C l a w) R listed a w → wpOp P ops Q i (fun a' w' => ∃ v, a' = a.put o.dst v ∧ R i v w' ∧ C (listed.setIfInBounds i true) (a.put o.dst v) w' ∧ ∀ j u, listed.getD j false = true → R j u w → R j u w') a w)
    (hend : ∀ a w listed, Left ops a0 (fun l w => C l a w) R listed a w → (∀ i, i < ops.size → listed.getD i false = true) → Q .normal a w) :
    ∀ (fuel : Nat) (listed : Array Bool) (a : Act) (w : World), Left ops a0 (fun l w => C l a w) R listed a w → unlisted listed ops.size ≤ fuel → wpAny P .any ops Q fuel listed a w
  | 0, listed, a, w, h, hu => by
    have hall : ∀ i, i < ops.size → listed.getD i false = true := by
      intro i hi
      cases hl : listed.getD i false with
      | true => rfl
      | false =>
        have hm : i ∈ ((List.range ops.size).filter fun i => !listed.getD i false) := by
          rw [List.mem_filter, List.mem_range]
          exact ⟨hi, by rw [hl]; rfl⟩
        have := List.length_pos_of_mem hm
        unfold unlisted at hu
        omega
    refine ⟨?_, hend a w listed h hall⟩
    rw [List.eq_nil_iff_forall_not_mem]
    intro i hi
    obtain ⟨h1, h2, _⟩ := ready_spec hi
    rw [← getD_of_size (by rw [h.size]; exact h1), hall i h1] at h2
    cases h2
  | fuel + 1, listed, a, w, h, hu => by
    refine ⟨fun h0 => hend a w listed h (all_listed hac h.size h0), fun i hi => ?_⟩
    obtain ⟨h1, h2, _⟩ := ready_spec hi
    have ho : ops[i]? = some ops[i] := Array.getElem?_eq_getElem h1
    refine wpOp_mono ?_ (hstep i _ listed a w ho hi h)
    rintro a' w' ⟨v, rfl, hR, hC, hst⟩
    have h' : Left ops a0 (fun _ _ => True) R listed a w := h.as trivial
    have hs := (h'.step hd hsz hi ho hR trivial hst).as (C' := fun l w => C l (a.put ops[i].dst v) w) hC
    refine wpAny_leftA hac hd hsz hstep hend fuel _ _ _ hs ?_
    have := unlisted_set h1 h.size (by rw [getD_of_size (by rw [h.size]; exact h1)]; exact h2)
    omega
theorem wp_region_leftA {id : Nat} {w0 : World} (hm : P.follows .mixedOrders = true) (hac : acyc ops = true) (hd : apartB ops = true) (hsz : ∀ (i : Nat) o (t : Nat), ops[i]? = some o → o.dst = some t → t < a0.tmps.size)
    (hC : C (Array.replicate ops.size false) a0 { w0 with drawn := w0.drawn + 1 })
    (hstep : ∀ i o listed a w, ops[i]? = some o → i ∈ Region.ready .any ops listed → Left ops a0 (fun l w => C l a w) R listed a w → wpOp P ops Q i (fun a' w' => ∃ v, a' = a.put o.dst v ∧ R i v w' ∧ C (listed.setIfInBounds i true) (a.put o.dst v) w' ∧ ∀ j u, listed.getD j false = true → R j u w → R j u w') a w)
    (hend : ∀ a w listed, Left ops a0 (fun l w => C l a w) R listed a w → (∀ i, i < ops.size → listed.getD i false = true) → Q .normal a w) : (Code.region id ops true).wp P Q a0 w0 := by
  refine wp_region_any hm (wpAny_leftA (C := C) (R := R) hac hd hsz hstep hend _ _ _ _ ⟨hC, by simp, ?_, rfl, rfl, fun _ _ => rfl, ?_⟩ ?_)
  · intro i o ho hl
    exfalso
    have hi := (Array.getElem?_eq_some_iff.1 ho).1
    simp [Array.getD, hi] at hl
  · intro i o t ho hl
    exfalso
    have hi := (Array.getElem?_eq_some_iff.1 ho).1
    simp [Array.getD, hi] at hl
  · unfold unlisted
    exact Nat.le_trans (List.length_filter_le _ _) (by simp)
end
/-- A variable is laid by operation al into slot s, and written by operation st. -/
structure VarC (al st s : Nat) (T : TypeId) (B : Nat) (Z cs : Array Value) (I : World → Prop) (listed : Array Bool) (a : Act) (w : World) : Prop where
  inv : I w
  size : B ≤ w.heap.size
  at_ : listed.getD al false = true → ∃ b, a.eval (.tmp s) = .pointer (some ⟨b, 0, none⟩) ∧ B ≤ b ∧ Blk w b T (if listed.getD st false = true then cs else Z)
section
variable {al st s i : Nat} {T : TypeId} {B : Nat} {Z cs : Array Value} {I : World → Prop} {listed : Array Bool} {a : Act} {w w' : World}
theorem eval_put {d : Option Tmp} {v : Value} (h : d ≠ some s) : (a.put d v).eval (.tmp s) = a.eval (.tmp s) := by
  simp only [Act.eval, Array.getD_eq_getD_getElem?, put_at h]
theorem VarC.start {n : Nat} (hI : I w) (hB : B ≤ w.heap.size) : VarC al st s T B Z cs I (Array.replicate n false) a w := ⟨hI, hB, fun h => by rw [getD_none] at h; cases h⟩
theorem VarC.below (h : VarC al st s T B Z cs I listed a w) (h1 : i ≠ al) (h2 : i ≠ st) {d : Option Tmp} {v : Value} (hd : d ≠ some s) (hb : Below w.heap.size w w') (hI : I w') : VarC al st s T B Z cs I (listed.setIfInBounds i true) (a.put d v) w' :=
  ⟨hI, Nat.le_trans h.size hb.size, fun hl => by
    rw [getD_other h1] at hl
    rw [getD_other h2]
    obtain ⟨b, e1, e2, e3⟩ := h.at_ hl
    exact ⟨b, by rw [eval_put hd]; exact e1, e2, e3.below hb e3.lt⟩⟩
theorem VarC.same (h : VarC al st s T B Z cs I listed a w) (h1 : i ≠ al) (h2 : i ≠ st) {d : Option Tmp} {v : Value} (hd : d ≠ some s) : VarC al st s T B Z cs I (listed.setIfInBounds i true) (a.put d v) w := h.below h1 h2 hd (Below.refl _ _) h.inv
variable {P : Program} {o : Oper} {K : Act → World → Prop} {Q : Exit → Act → World → Prop}
theorem alloc_step (ho : o.op = .alloc T) (hz : (zeroValue T).run P w = .ok (.agg Z) w) (h : K (a.put o.dst (.pointer (some ⟨w.heap.size, 0, none⟩))) (w.alloc (.cells Z T))) : o.wp P a w K Q := by
  unfold Oper.wp execOp
  simp only [ho]
  go_simp
  exact h
theorem VarC.laid (h : VarC al st s T B Z cs I listed a w) (hs : listed.getD st false = false) (hne : al ≠ st) (ht : s < a.tmps.size) (hI : I (w.alloc (.cells Z T))) : VarC al st s T B Z cs I (listed.setIfInBounds al true) (a.put (some s) (.pointer (some ⟨w.heap.size, 0, none⟩))) (w.alloc (.cells Z T)) :=
  ⟨hI, by rw [size_alloc']; have := h.size; omega, fun _ => ⟨w.heap.size, by simp [Act.eval, Act.put, ht], h.size, by rw [getD_other hne, hs, if_neg (by simp)]; exact Blk.new _ _ _⟩⟩
theorem VarC.stored (h : VarC al st s T B Z cs I listed a w) (hl : listed.getD al false = true) (hs : listed.getD st false = false) (hi : st < listed.size) {y : Operand} (ho : o.op = .store T (.tmp s) y) (hy : a.eval y = .agg cs) (hsz : (P.info? T).map (·.size) = some cs.size) (hzc : Z.size = cs.size) (hone : cs.all (·.oneCell') = true) (hne : al ≠ st)
    (hd : o.dst = none) (hI : ∀ b, B ≤ b → I (w.setRow b cs)) (hK : ∀ w', (∃ b, B ≤ b ∧ b < w.heap.size ∧ w' = w.setRow b cs ∧ Blk w b T Z) → VarC al st s T B Z cs I (listed.setIfInBounds st true) (a.put o.dst undef) w' → K (a.put o.dst undef) w') : o.wp P a w K Q := by
  obtain ⟨b, e1, e2, e3⟩ := h.at_ hl
  rw [hs, if_neg (by simp)] at e3
  refine wp_store_row T (.tmp s) y ho b cs e1 hy T Z e3 hsz hzc hone (hK _ ⟨b, e2, e3.lt, rfl, e3⟩ ⟨hI b e2, by simpa using h.size, fun _ => ⟨b, by rw [hd]; exact e1, e2, ?_⟩⟩)
  rw [getD_here hi, if_pos rfl]
  exact setRow_heap _ _ _ _ _ _ e3
end
end Go.Proofs.YtnehabcopjgklaaDoor
