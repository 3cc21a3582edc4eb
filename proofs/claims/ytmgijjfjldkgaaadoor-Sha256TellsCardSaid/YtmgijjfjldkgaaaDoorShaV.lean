/- The walk of layer 2's reference: Sum. Condition: the text has at most 2^40 bytes. -/
import Derived.Test.YtmgijjfjldkgaaaDoorShaU
namespace Go.Proofs.YtmgijjfjldkgaaaDoor
open Go.RowKit
attribute [local go_sem ↓] Go.wp_at_zero Go.wp_at_succ
attribute [local go_sem ↓] ldv8_eq stv8_eq
attribute [local go_sem] run_ldv8 run_stv8
/-- The load of 64 words, not to be opened by the walk. -/
def ldv64 (p : Addr) : Sem Value := loadVar 45 p
theorem ldv64_eq (p : Addr) : loadVar 45 p = ldv64 p := rfl
theorem run_ldv64 (w : World) (g : Nat) (hh : HasRow w g 45 64) : (ldv64 ⟨g, 0, none⟩).run Tryd.prog w = .ok (.agg (RowOf w g)) w := by
  obtain ⟨cs, hn, h⟩ := hh
  rw [rowOf_blk h]
  exact run_loadVar_row w g _ _ _ _ _ h Tryd.underlying45 rfl (by rw [hn]; exact sz64)
attribute [local go_sem ↓] ldv64_eq
attribute [local go_sem] run_ldv64
theorem pad_done (n j : Nat) (hj : j ≤ padLen n) (h : (n + 1 + j) % 64 = 56) : j = padLen n := by unfold padLen at *; omega
theorem pad_more (n j : Nat) (hj : j ≤ padLen n) (h : (n + 1 + j) % 64 ≠ 56) : j + 1 ≤ padLen n := by unfold padLen at *; omega
theorem lenBytes_step' (n j : Nat) (hj : j < 8) : (lenBytes n).take (7 - j) ++ [UInt8.ofNat ((n : Int) * 8 / 2 ^ (8 * j) % 256).toNat] = (lenBytes n).take (8 - j) := by
  have := lenBytes_step n (7 - j) (by omega)
  rwa [show 56 - 8 * (7 - j) = 8 * j from by omega, show 7 - j + 1 = 8 - j from by omega] at this
theorem blocks_take (m : Nat) (s : H8) (l : List UInt8) : blocks (m + 1) s l = blocks m (blockOf s (l.take 64)) (l.drop 64) := rfl
theorem k_calls' (KK : List Nat) (h : Hid (K256 = KK)) (w : World) :
    Calls Tryd.prog 18 #[] w fun e w' => e = .returned (.agg (u32s KK)) ∧ Below w.heap.size w w' := h.out ▸ k_calls w
theorem refBlock_calls' (KK : List Nat) (h : Hid (K256 = KK)) (s0 : H8) (hs0 : s0.Fit) (b : List UInt8) (hb : b.length = 64) (w : World) :
    Calls Tryd.prog 19 #[.agg (u32s s0.list), .string (B b), .agg (u32s KK)] w fun e w' => e = .returned (.agg (u32s (blockOf s0 b).list)) ∧ Below w.heap.size w w' := h.out ▸ refBlock_calls s0 hs0 b hb w
set_option maxRecDepth 100000 in
set_option maxHeartbeats 2000000 in
theorem refSum_calls (l : List UInt8) (w : World) (hlen : l.length ≤ 1099511627776) :
    Calls Tryd.prog 8 #[.string (B l)] w fun e w' => e = .returned (.agg (u8s (shaOf l))) ∧ Below w.heap.size w w' := by
  have hll : (l.length : Int) ≤ 1099511627776 := by omega
  obtain ⟨KK, hKK⟩ : ∃ KK, Hid (K256 = KK) := ⟨_, rfl⟩
  have hKl : KK.length = 64 := by rw [← hKK.out]; exact K256_length
  have hst1 := Tryd.str_of_one
  have hst2 := fun (o : Obj) (x : Int) => Tryd.str_of_oneAt (w.alloc o) (w.heap.size + 1) x (by simp)
  go_enter Tryd.func8, Tryd.ntmps8
  go_wp2
  clear hst2
  have g0 := (Blk.new w 24 (u8s (List.replicate 32 0))).alloc (.cells #[.int .u8 128] 5)
  have b0 : Below w.heap.size w ((w.alloc (.cells (u8s (List.replicate 32 0)) 24)).alloc (.cells #[.int .u8 128] 5)) := ((Below.refl _ _).alloc (Nat.le_refl _) _).alloc (by simp) _
  go_loopw [4] (fun tx wr => ∃ (j : Nat), j ≤ padLen l.length ∧ tx = .string (B (l ++ 128 :: List.replicate j 0)) ∧ Blk wr w.heap.size 24 (u8s (List.replicate 32 0)) ∧ Below w.heap.size w wr) (fun tx _ => l.length + 1 + 64 - (strOf tx).length)
  case atStart => exact ⟨0, by omega, by simp, g0, b0⟩
  case round =>
    clear g0 b0
    obtain ⟨j, hj, rfl, hr, hbel⟩ := hrel
    have hrl := hr.lt
    have hp64 : padLen l.length < 64 := by unfold padLen; omega
    have hjl : (j : Int) < 64 := by omega
    have hlen0 : (l ++ 128 :: List.replicate j 0).length = l.length + 1 + j := by simp; omega
    by_cases hd : (l.length + 1 + j) % 64 = 56
    · have hje := pad_done _ _ hj hd
      have ht1 : (((l ++ 128 :: List.replicate j 0).length : Int) % 64 != 56) = false := by rw [hlen0]; simp; omega
      have ht2 : (((l.length : Int) + ((j : Int) + 1)) % 64 != 56) = false := by simp; omega
      have ht3 : (((l.length : Int) + 1 + (j : Int)) % 64 != 56) = false := by simp; omega
      have hbsl := Lib.hid hlen0
      have hbse : Hid (l ++ 128 :: List.replicate j 0 = l ++ 128 :: List.replicate (padLen l.length) 0) := by show _ = _; rw [← hje]
      clear hje hd hj
      generalize l ++ 128 :: List.replicate j 0 = bs at *
      have hbl : bs.length ≤ 1099511627776 + 65 := by omega
      clear hlen0
      go_wp2
      go_loopw [5, 4] (fun i tx wr => ∃ k : Nat, i = .int .i64 (7 - (k : Int)) ∧ k ≤ 8 ∧ tx = .string (B (bs ++ (lenBytes l.length).take k)) ∧ Blk wr w.heap.size 24 (u8s (List.replicate 32 0)) ∧ Below w.heap.size w wr) (fun i _ _ => (intOf i + 1).toNat)
      case atStart => exact ⟨0, rfl, by omega, by rw [List.take_zero, List.append_nil], hr, hbel⟩
      case round =>
        clear hr hbel hrl ht1 ht2 ht3
        obtain ⟨k, rfl, hk, rfl, hr, hbel⟩ := hrel
        have hrl := hr.lt
        by_cases hk8 : k < 8
        · obtain ⟨i, hi⟩ : ∃ i : Nat, (7 - (k : Int)) = (i : Int) := ⟨7 - k, by omega⟩
          have hi8 : i < 8 := by omega
          have hii : (i : Int) < 8 := by omega
          have hstep := lenBytes_step' l.length i hi8
          rw [show 7 - i = k from by omega, show 8 - i = k + 1 from by omega] at hstep
          have hsteph := Lib.hid hstep
          clear hstep
          have hnext : Hid ((i : Int) - 1 = 7 - ((k + 1 : Nat) : Int)) := by show _ = _; omega
          rw [hi]
          clear hi
          have ht0 : ((lenBytes l.length).take k).length ≤ 8 := by rw [List.length_take]; omega
          generalize (lenBytes l.length).take k = t0 at *
          go_wp2
          go_roundw
          case rel => exact ⟨k + 1, congrArg (Value.int .i64) hnext.out, by omega, by rw [← hsteph.out], hr.alloc _, hbel.alloc (by omega) _⟩
          case measure => simp [intOf]
        · have hk8' : k = 8 := by omega
          have hki : (7 - (k : Int)) < 0 := by omega
          have hpd : bs ++ (lenBytes l.length).take k = padded l := by
            rw [hk8', List.take_of_length_le (by rw [lenBytes_length]; omega), hbse.out]
            simp [padded]
          rw [hpd]
          clear hpd hk8'
          obtain ⟨m0, hm0⟩ := padded_length l
          have hst0 : Hid (blocks m0 H0 (padded l) = stateOf l) := by
            show _ = _
            rw [stateOf, hm0, Nat.mul_div_cancel_left _ (by omega)]
          have hpdl : (padded l).length ≤ 1099511627976 := by
            have : (padded l).length = l.length + 1 + padLen l.length + 8 := by simp [padded, lenBytes_length]; omega
            rw [this]; omega
          have hm0h := Lib.hid hm0
          clear hm0 hbse hbsl
          generalize padded l = pd at *
          have hi8 : (Tryd.prog.info? 42).map (·.size) = some (u32s H0.list).size := by rw [u32s_list_size]; exact sz8
          have hall := u32s_one H0.list
          have hold : (u32s (List.replicate 8 0)).size = (u32s H0.list).size := rfl
          have hv0 := Blk.new wr 42 (u32s (List.replicate 8 0))
          have h0 : Blk (World.setRow (wr.alloc (.cells (u32s (List.replicate 8 0)) 42)) wr.heap.size (u32s H0.list)) wr.heap.size 42 (u32s H0.list) := setRow_heap _ _ _ _ _ _ hv0
          have h1 : Blk (World.setRow (wr.alloc (.cells (u32s (List.replicate 8 0)) 42)) wr.heap.size (u32s H0.list)) w.heap.size 24 (u8s (List.replicate 32 0)) := by
            unfold Blk; rw [setRow_other _ _ _ _ (by omega)]; exact hr.alloc _
          have h2 : Below w.heap.size w (World.setRow (wr.alloc (.cells (u32s (List.replicate 8 0)) 42)) wr.heap.size (u32s H0.list)) := below_setRow (hbel.alloc (by omega) _) (by omega) _
          have hi64 : (Tryd.prog.info? 45).map (·.size) = some (u32s KK).size := by rw [u32s_size, hKl]; exact sz64
          have hall64 := u32s_one KK
          have hold64 : (u32s (zeros 64)).size = (u32s KK).size := by rw [u32s_size, u32s_size, hKl, zeros_length]
          go_wp2_with (first
            | (refine wpList_store_row rfl 42 (.tmp 6) (.tmp 41) rfl wr.heap.size (u32s H0.list) rfl rfl _ _ hv0 hi8 hold hall ?_)
            | (refine wpList_store_row rfl 45 (.tmp 7) (.tmp 42) rfl w1.heap.size (u32s KK) rfl rfl _ _ (Blk.new w1 45 (u32s (zeros 64))) hi64 hold64 hall64 ?_)
            | (go_at_call 18; go_must (refine (k_calls' KK hKK _).mono ?_); rintro e w1 ⟨rfl, hb1⟩))
          clear hv0 hr hbel hall hold hi8 hold64 hall64 hi64
          have k0 := h0.below hb1 h0.lt
          have k1 := h1.below hb1 h1.lt
          have k2 := bthen h2 h2.size hb1
          have hvw1 : wr.heap.size < w1.heap.size := k0.lt
          have hv1 := Blk.new w1 45 (u32s (zeros 64))
          have q0 : Blk (World.setRow (w1.alloc (.cells (u32s (zeros 64)) 45)) w1.heap.size (u32s KK)) w1.heap.size 45 (u32s KK) := setRow_heap _ _ _ _ _ _ hv1
          have q1 : Blk (World.setRow (w1.alloc (.cells (u32s (zeros 64)) 45)) w1.heap.size (u32s KK)) wr.heap.size 42 (u32s H0.list) := by
            unfold Blk; rw [setRow_other _ _ _ _ (by omega)]; exact k0.alloc _
          have q2 : Blk (World.setRow (w1.alloc (.cells (u32s (zeros 64)) 45)) w1.heap.size (u32s KK)) w.heap.size 24 (u8s (List.replicate 32 0)) := by
            unfold Blk; rw [setRow_other _ _ _ _ (by omega)]; exact k1.alloc _
          have q3 : Below w.heap.size w (World.setRow (w1.alloc (.cells (u32s (zeros 64)) 45)) w1.heap.size (u32s KK)) := below_setRow (k2.alloc (by omega) _) (by omega) _
          obtain ⟨vb, hvb⟩ : ∃ vb, wr.heap.size = vb := ⟨_, rfl⟩
          obtain ⟨kb, hkb⟩ : ∃ kb, w1.heap.size = kb := ⟨_, rfl⟩
          have hvw : w.heap.size < vb := by omega
          have hkw : vb < kb := by omega
          obtain ⟨wz, hwz⟩ : ∃ wz, World.setRow (w1.alloc (.cells (u32s (zeros 64)) 45)) w1.heap.size (u32s KK) = wz := ⟨_, rfl⟩
          rw [hwz] at q0 q1 q2 q3
          clear h0 h1 h2 k0 k1 k2 hb1 hv1 hvw1
          go_loopw [8] (fun i wr => ∃ (i' m : Nat) (s : H8), i = .int .i64 i' ∧ i' ≤ 1099511627976 ∧ Hid (pd.length = i' + 64 * m) ∧ Hid (blocks m s (pd.drop i') = stateOf l) ∧ s.Fit ∧ Blk wr kb 45 (u32s KK) ∧ Blk wr vb 42 (u32s s.list) ∧ Blk wr w.heap.size 24 (u8s (List.replicate 32 0)) ∧ Below w.heap.size w wr) (fun i _ => pd.length + 64 - (intOf i).toNat)
          case atStart => exact ⟨0, m0, H0, rfl, by omega, by rw [Nat.zero_add]; exact hm0h, hst0, H0_fit, hwz ▸ hkb ▸ q0, hwz ▸ hvb ▸ q1, hwz ▸ q2, hwz ▸ q3⟩
          case round =>
            rw [hvb, hkb]
            clear q0 q1 q2 q3 hwz hvb hkb hm0h hst0 hrl
            obtain ⟨i, m, s, rfl, hi, hm, hst, hfit, h0, h1, h2, h3⟩ := hrel
            have hbs1 := h1.lt
            by_cases hlt : i + 64 ≤ pd.length
            · have hlti : (i : Int) + 64 ≤ (pd.length : Int) := by omega
              have hR : HasRow wr vb 42 8 := hasRow_blk h1 (u32s_list_size s)
              have hO : RowOf wr vb = u32s s.list := rowOf_blk h1
              have hRd : HasRow wr.drew vb 42 8 := hR
              have hOd : RowOf wr.drew vb = u32s s.list := hO
              have hRk : HasRow wr kb 45 64 := hasRow_blk h0 (by rw [u32s_size]; exact hKl)
              have hOk : RowOf wr kb = u32s KK := rowOf_blk h0
              have hRkd : HasRow wr.drew kb 45 64 := hRk
              have hOkd : RowOf wr.drew kb = u32s KK := hOk
              have h0d : Blk wr.drew kb 45 (u32s KK) := h0
              have h1d : Blk wr.drew vb 42 (u32s s.list) := h1
              have hbs1d : vb < wr.drew.heap.size := hbs1
              have hbs0d : kb < wr.drew.heap.size := h0.lt
              go_wp2
              have s1 : IntKind.i64.wrap ((i : Int) + 64) = (i : Int) + 64 := IntWalk.i64_in _ (by omega)
              have s2 : 0 ≤ (i : Int) + 64 := by omega
              have s3 : (i : Int) ≤ (i : Int) + 64 := by omega
              have s4 : ((i : Int) + 64).toNat = i + 64 := by omega
              have s5 : i + 64 - i = 64 := by omega
              go_region_with (first
                  | (go_at_call 19; go_must (refine (refBlock_calls' KK hKK s hfit ((pd.drop i).take 64) (by rw [List.length_take, List.length_drop]; omega) _).mono ?_); rintro e w1 ⟨rfl, hb1⟩; have hRc := hasRow_blk (h1d.below hb1 hbs1d) (u32s_list_size s); have hOc := rowOf_blk (h1d.below hb1 hbs1d)))
              all_goals
                clear s1 s2 s3 s4 s5
                have e0 : Blk (w1.setRow vb (u32s (blockOf s ((pd.drop i).take 64)).list)) kb 45 (u32s KK) := by
                  unfold Blk; rw [setRow_other _ _ _ _ (by omega)]; exact Blk.below (w := wr.drew) h0 hb1 h0.lt
                have e1 := setRow_heap w1 vb _ (u32s (blockOf s ((pd.drop i).take 64)).list) _ _ (h1d.below hb1 hbs1d)
                have e2 : Blk (w1.setRow vb (u32s (blockOf s ((pd.drop i).take 64)).list)) w.heap.size 24 (u8s (List.replicate 32 0)) := by
                  unfold Blk; rw [setRow_other _ _ _ _ (by omega)]; exact Blk.below (w := wr.drew) h2 hb1 h2.lt
                have e3 := below_setRow (bthen h3.drew (Nat.le_of_lt h2.lt) hb1) (Nat.le_of_lt hvw) (u32s (blockOf s ((pd.drop i).take 64)).list)
                have hml := hm.out
                obtain ⟨m', rfl⟩ : ∃ m', m = m' + 1 := ⟨m - 1, by omega⟩
                have hnst : Hid (blocks m' (blockOf s ((pd.drop i).take 64)) (pd.drop (i + 64)) = stateOf l) := by
                  have := hst.out
                  rw [blocks_take, List.drop_drop] at this
                  exact this
                have hnm : Hid (pd.length = i + 64 + 64 * m') := by show _ = _; omega
                have hfit2 : (blockOf s ((pd.drop i).take 64)).Fit := plus_fit _ _
                generalize blockOf s ((pd.drop i).take 64) = s' at *
                clear hRc hOc hb1 hml hm hst
                generalize w1.setRow vb (u32s s'.list) = wz at *
                go_wp2
                go_roundw
                case rel => exact ⟨i + 64, m', s', by go_num, by omega, hnm, hnst, hfit2, e0, e1, e2, e3⟩
                case measure => simp [intOf]; omega
            · have hlti : (pd.length : Int) < (i : Int) + 64 := by omega
              have hsl : Hid (s = stateOf l) := by
                have hm0' : m = 0 := by have := hm.out; omega
                have := hst.out
                rw [hm0'] at this
                exact this
              clear hst hm
              have hg0 := Blk.new wr 24 (u8s (List.replicate 32 0))
              have k0 : Blk (World.setRow (wr.alloc (.cells (u8s (List.replicate 32 0)) 24)) wr.heap.size (u8s (List.replicate 32 0))) wr.heap.size 24 (u8s (List.replicate 32 0)) := setRow_heap _ _ _ _ _ _ hg0
              have k1 : Blk (World.setRow (wr.alloc (.cells (u8s (List.replicate 32 0)) 24)) wr.heap.size (u8s (List.replicate 32 0))) vb 42 (u32s s.list) := by
                unfold Blk; rw [setRow_other _ _ _ _ (by omega)]; exact h1.alloc _
              have k2 : Blk (World.setRow (wr.alloc (.cells (u8s (List.replicate 32 0)) 24)) wr.heap.size (u8s (List.replicate 32 0))) w.heap.size 24 (u8s (List.replicate 32 0)) := by
                unfold Blk; rw [setRow_other _ _ _ _ (by omega)]; exact h2.alloc _
              have k3 : Below w.heap.size w (World.setRow (wr.alloc (.cells (u8s (List.replicate 32 0)) 24)) wr.heap.size (u8s (List.replicate 32 0))) := below_setRow (h3.alloc (Nat.le_of_lt h2.lt) _) (by omega) _
              have hi' : (Tryd.prog.info? 24).map (·.size) = some (u8s (List.replicate 32 0)).size := by rw [u8s_size, List.length_replicate]; exact sz32
              have hall' := u8s_one (List.replicate 32 0)
              go_wp2_with (first
                | (refine wpList_store_row rfl 24 (.tmp 9) (.tmp 58) rfl wr.heap.size (u8s (List.replicate 32 0)) rfl rfl _ _ hg0 hi' rfl hall' ?_))
              obtain ⟨ib, hib⟩ : ∃ ib, wr.heap.size = ib := ⟨_, rfl⟩
              have hvi : vb < ib := by omega
              clear h0 h1 h2 h3 hg0
              obtain ⟨wz, hwz⟩ : ∃ wz, World.setRow (wr.alloc (.cells (u8s (List.replicate 32 0)) 24)) wr.heap.size (u8s (List.replicate 32 0)) = wz := ⟨_, rfl⟩
              rw [hwz] at k0 k1 k2 k3
              go_loopw [10] (fun i wr => ∃ k : Nat, i = .int .i64 k ∧ k ≤ 32 ∧ Blk wr ib 24 (u8s ((idOf s).take k ++ List.replicate (32 - k) 0)) ∧ Blk wr vb 42 (u32s s.list) ∧ Blk wr w.heap.size 24 (u8s (List.replicate 32 0)) ∧ Below w.heap.size w wr) (fun i _ => 32 - (intOf i).toNat)
              case atStart => exact ⟨0, rfl, by omega, hwz ▸ hib ▸ k0, hwz ▸ k1, hwz ▸ k2, hwz ▸ k3⟩
              case round =>
                rw [hib]
                clear k0 k1 k2 k3 hwz hib hbs1
                obtain ⟨i, rfl, hi, h0, h1, h2, h3⟩ := hrel
                have hbi := h0.lt
                by_cases hi32 : i < 32
                · have hii : (i : Int) < 32 := by omega
                  have hq : (i : Int) / 4 < 8 := by omega
                  have hq0 : (0 : Int) ≤ (i : Int) / 4 := by omega
                  have hqn : i / 4 < 8 := by omega
                  have cw : wr.cell? ⟨vb, i / 4, none⟩ = some (.int .u32 (s.list.getD (i / 4) 0 : Nat)) := by
                    rw [h1.cell, u32s_get _ _ hqn]
                  have cz : wr.cell? ⟨ib, i, none⟩ = some (.int .u8 ((((idOf s).take i ++ List.replicate (32 - i) 0).getD i 0).toNat : Nat)) := by
                    rw [h0.cell, u8s_get _ _ (by rw [List.length_append, List.length_take, idOf_length, List.length_replicate]; omega)]
                  have fz := h0.frozen i
                  have hset := Lib.hid (take_set (idOf s) i 32 (by rw [idOf_length]; exact hi32) (idOf_length s).symm)
                  have hget := Lib.hid (idOf_get s i hi32)
                  generalize (((idOf s).take i ++ List.replicate (32 - i) 0).getD i 0).toNat = oz at *
                  generalize s.list.getD (i / 4) 0 = x at *
                  go_wp2
                  have hvv : (x : Int) / 2 ^ (24 - 8 * (i % 4)) % 256 = ((x / 2 ^ (24 - 8 * (i % 4)) % 256 : Nat) : Int) := by simp
                  rw [hvv]
                  have hlt := Nat.mod_lt (x / 2 ^ (24 - 8 * (i % 4))) (show 0 < 256 by omega)
                  have hn := h0.set_ i (.int .u8 ((x / 2 ^ (24 - 8 * (i % 4)) % 256 : Nat) : Int))
                  rw [u8s_set _ _ _ hlt, ← hget.out, hset.out] at hn
                  go_roundw
                  case rel => exact ⟨i + 1, by go_num, by omega, hn, h1.far (by simp; omega) _, h2.far (by simp; omega) _, h3.setCell (by simp; omega) _⟩
                  case measure => simp [intOf]; omega
                · have hi32' : i = 32 := by omega
                  have hii : ¬ (i : Int) < 32 := by omega
                  have h0' : Blk wr ib 24 (u8s (idOf s)) := by
                    rw [hi32', List.take_of_length_le (by rw [idOf_length]; omega), Nat.sub_self, List.replicate_zero, List.append_nil] at h0
                    exact h0
                  clear hi32' h0
                  have hid : (idOf s).length = 32 := idOf_length s
                  have hfin : Hid (shaOf l = idOf s) := by show _ = _; rw [hsl.out]; rfl
                  clear hsl
                  generalize idOf s = id at *
                  have hi2 : (Tryd.prog.info? 24).map (·.size) = some (u8s id).size := by rw [u8s_size, hid]; exact sz32
                  have hall2 := u8s_one id
                  have hold2 : (u8s (List.replicate 32 0)).size = (u8s id).size := by rw [u8s_size, u8s_size, hid, List.length_replicate]
                  go_wp2_with (first
                    | (refine wpList_load_row rfl 24 (.tmp 9) rfl ib rfl _ _ _ _ h0' Tryd.underlying24 rfl hi2 ?_)
                    | (refine wpList_store_row rfl 24 (.tmp 2) (.tmp 76) rfl w.heap.size (u8s id) rfl rfl _ _ h2 hi2 hold2 hall2 ?_))
                  exact bodyPost_ret (results_cell_row rfl _ _ w.heap.size _ _ _ _ rfl (setRow_heap _ _ _ _ _ _ h2) Tryd.underlying24 rfl hi2) rfl ⟨by rw [hfin.out], below_setRow h3 (Nat.le_refl _) _⟩
    · have hjm := pad_more _ _ hj hd
      have ht1 : (((l ++ 128 :: List.replicate j 0).length : Int) % 64 != 56) = true := by rw [hlen0]; simp; omega
      have ht2 : (((l.length : Int) + ((j : Int) + 1)) % 64 != 56) = true := by simp; omega
      have ht3 : (((l.length : Int) + 1 + (j : Int)) % 64 != 56) = true := by simp; omega
      have hq : Hid ((l ++ 128 :: List.replicate j 0) ++ [0] = l ++ 128 :: List.replicate (j + 1) 0) := by
        show _ = _
        rw [List.append_assoc, List.cons_append, ← List.replicate_succ']
      go_wp2
      go_roundw
      case rel => exact ⟨j + 1, hjm, by rw [← hq.out]; simp, hr.alloc _, hbel.alloc (by omega) _⟩
      case measure => rw [strOf_B, strOf_B]; simp; omega
end Go.Proofs.YtmgijjfjldkgaaaDoor
