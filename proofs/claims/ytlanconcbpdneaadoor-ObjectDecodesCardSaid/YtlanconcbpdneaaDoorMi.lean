/- Lemmas and walks of this seat, laid together: ShaV, ObjSm, RdE, ObjDc, Tab. -/
import Derived.Test.YtlanconcbpdneaaDoorMh
import Derived.Test.YtlanconcbpdneaaDoorCards
import Derived.WalkKit
import Derived.ProofKit
import Derived.OpenShut
import Derived.Deep.DeepHandedRow
import Derived.Lib.LaidTab
/- The walk of layer 2's reference: Sum. Condition: the text has at most 2^40 bytes. -/
namespace Go.Proofs.YtlanconcbpdneaaDoor
open Go.RowKit
attribute [local go_sem ↓] Go.wp_at_zero Go.wp_at_succ
attribute [local go_sem ↓] ldv8_eq stv8_eq
attribute [local go_sem] run_ldv8 run_stv8
/-- The load of 64 words, not to be opened by the walk. -/
def ldv64 (p : Addr) : Sem Value := loadVar 59 p
theorem ldv64_eq (p : Addr) : loadVar 59 p = ldv64 p := rfl
theorem run_ldv64 (w : World) (g : Nat) (hh : HasRow w g 59 64) : (ldv64 ⟨g, 0, none⟩).run Tryd.prog w = .ok (.agg (RowOf w g)) w := by
  obtain ⟨cs, hn, h⟩ := hh
  rw [rowOf_blk h]
  exact run_loadVar_row w g _ _ _ _ _ h Tryd.underlying59 rfl (by rw [hn]; exact sz64)
attribute [local go_sem ↓] ldv64_eq
attribute [local go_sem] run_ldv64
theorem pad_done (n j : Nat) (hj : j ≤ padLen n) (h : (n + 1 + j) % 64 = 56) : j = padLen n := by unfold padLen at *; omega
theorem pad_more (n j : Nat) (hj : j ≤ padLen n) (h : (n + 1 + j) % 64 ≠ 56) : j + 1 ≤ padLen n := by unfold padLen at *; omega
theorem lenBytes_step' (n j : Nat) (hj : j < 8) : (lenBytes n).take (7 - j) ++ [UInt8.ofNat ((n : Int) * 8 / 2 ^ (8 * j) % 256).toNat] = (lenBytes n).take (8 - j) := by
  have := lenBytes_step n (7 - j) (by omega)
  rwa [show 56 - 8 * (7 - j) = 8 * j from by omega, show 7 - j + 1 = 8 - j from by omega] at this
theorem blocks_take (m : Nat) (s : H8) (l : List UInt8) : blocks (m + 1) s l = blocks m (blockOf s (l.take 64)) (l.drop 64) := rfl
theorem k_calls' (KK : List Nat) (h : Hid (K256 = KK)) (w : World) :
    Calls Tryd.prog 21 #[] w fun e w' => e = .returned (.agg (u32s KK)) ∧ Below w.heap.size w w' := h.out ▸ k_calls w
theorem refBlock_calls' (KK : List Nat) (h : Hid (K256 = KK)) (s0 : H8) (hs0 : s0.Fit) (b : List UInt8) (hb : b.length = 64) (w : World) :
    Calls Tryd.prog 22 #[.agg (u32s s0.list), .string (B b), .agg (u32s KK)] w fun e w' => e = .returned (.agg (u32s (blockOf s0 b).list)) ∧ Below w.heap.size w w' := h.out ▸ refBlock_calls s0 hs0 b hb w
set_option maxRecDepth 100000 in
set_option maxHeartbeats 2000000 in
theorem refSum_calls (l : List UInt8) (w : World) (hlen : l.length ≤ 1099511627776) :
    Calls Tryd.prog 9 #[.string (B l)] w fun e w' => e = .returned (.agg (u8s (shaOf l))) ∧ Below w.heap.size w w' := by
  have hll : (l.length : Int) ≤ 1099511627776 := by omega
  obtain ⟨KK, hKK⟩ : ∃ KK, Hid (K256 = KK) := ⟨_, rfl⟩
  have hKl : KK.length = 64 := by rw [← hKK.out]; exact K256_length
  have hst1 := Tryd.str_of_one
  have hst2 := fun (o : Obj) (x : Int) => Tryd.str_of_oneAt (w.alloc o) (w.heap.size + 1) x (by simp)
  go_enter Tryd.func9, Tryd.ntmps9
  go_wp2
  clear hst2
  have g0 := (Blk.new w 25 (u8s (List.replicate 32 0))).alloc (.cells #[.int .u8 128] 5)
  have b0 : Below w.heap.size w ((w.alloc (.cells (u8s (List.replicate 32 0)) 25)).alloc (.cells #[.int .u8 128] 5)) := ((Below.refl _ _).alloc (Nat.le_refl _) _).alloc (by simp) _
  go_loopw [4] (fun tx wr => ∃ (j : Nat), j ≤ padLen l.length ∧ tx = .string (B (l ++ 128 :: List.replicate j 0)) ∧ Blk wr w.heap.size 25 (u8s (List.replicate 32 0)) ∧ Below w.heap.size w wr) (fun tx _ => l.length + 1 + 64 - (strOf tx).length)
  case atStart => exact ⟨0, by omega, by simp, g0, b0⟩
  case round =>
    clear g0 b0
    obtain ⟨j, hj, rfl, hr, hbel⟩ := hrel
    have hrl := hr.lt
    have hp64 : padLen l.length < 64 := by unfold padLen; omega
    have hjl : (j : Int) < 64 := by omega
    have hlen0 : (l ++ 128 :: List.replicate j 0).length = l.length + 1 + j := by simp; omega
    by_cases hd : (l.length + 1 + j) % 64 = 56
    · have hje := pad_done _ _ hj hd
      have ht1 : (((l ++ 128 :: List.replicate j 0).length : Int) % 64 != 56) = false := by rw [hlen0]; simp; omega
      have ht2 : (((l.length : Int) + ((j : Int) + 1)) % 64 != 56) = false := by simp; omega
      have ht3 : (((l.length : Int) + 1 + (j : Int)) % 64 != 56) = false := by simp; omega
      have hbsl := Lib.hid hlen0
      have hbse : Hid (l ++ 128 :: List.replicate j 0 = l ++ 128 :: List.replicate (padLen l.length) 0) := by show _ = _; rw [← hje]
      clear hje hd hj
      generalize l ++ 128 :: List.replicate j 0 = bs at *
      have hbl : bs.length ≤ 1099511627776 + 65 := by omega
      clear hlen0
      go_wp2
      go_loopw [5, 4] (fun i tx wr => ∃ k : Nat, i = .int .i64 (7 - (k : Int)) ∧ k ≤ 8 ∧ tx = .string (B (bs ++ (lenBytes l.length).take k)) ∧ Blk wr w.heap.size 25 (u8s (List.replicate 32 0)) ∧ Below w.heap.size w wr) (fun i _ _ => (intOf i + 1).toNat)
      case atStart => exact ⟨0, rfl, by omega, by rw [List.take_zero, List.append_nil], hr, hbel⟩
      case round =>
        clear hr hbel hrl ht1 ht2 ht3
        obtain ⟨k, rfl, hk, rfl, hr, hbel⟩ := hrel
        have hrl := hr.lt
        by_cases hk8 : k < 8
        · obtain ⟨i, hi⟩ : ∃ i : Nat, (7 - (k : Int)) = (i : Int) := ⟨7 - k, by omega⟩
          have hi8 : i < 8 := by omega
          have hii : (i : Int) < 8 := by omega
          have hstep := lenBytes_step' l.length i hi8
          rw [show 7 - i = k from by omega, show 8 - i = k + 1 from by omega] at hstep
          have hsteph := Lib.hid hstep
          clear hstep
          have hnext : Hid ((i : Int) - 1 = 7 - ((k + 1 : Nat) : Int)) := by show _ = _; omega
          rw [hi]
          clear hi
          have ht0 : ((lenBytes l.length).take k).length ≤ 8 := by rw [List.length_take]; omega
          generalize (lenBytes l.length).take k = t0 at *
          go_wp2
          go_roundw
          case rel => exact ⟨k + 1, congrArg (Value.int .i64) hnext.out, by omega, by rw [← hsteph.out], hr.alloc _, hbel.alloc (by omega) _⟩
          case measure => simp [intOf]
        · have hk8' : k = 8 := by omega
          have hki : (7 - (k : Int)) < 0 := by omega
          have hpd : bs ++ (lenBytes l.length).take k = padded l := by
            rw [hk8', List.take_of_length_le (by rw [lenBytes_length]; omega), hbse.out]
            simp [padded]
          rw [hpd]
          clear hpd hk8'
          obtain ⟨m0, hm0⟩ := padded_length l
          have hst0 : Hid (blocks m0 H0 (padded l) = stateOf l) := by
            show _ = _
            rw [stateOf, hm0, Nat.mul_div_cancel_left _ (by omega)]
          have hpdl : (padded l).length ≤ 1099511627976 := by
            have : (padded l).length = l.length + 1 + padLen l.length + 8 := by simp [padded, lenBytes_length]; omega
            rw [this]; omega
          have hm0h := Lib.hid hm0
          clear hm0 hbse hbsl
          generalize padded l = pd at *
          have hi8 : (Tryd.prog.info? 58).map (·.size) = some (u32s H0.list).size := by rw [u32s_list_size]; exact sz8
          have hall := u32s_one H0.list
          have hold : (u32s (List.replicate 8 0)).size = (u32s H0.list).size := rfl
          have hv0 := Blk.new wr 58 (u32s (List.replicate 8 0))
          have h0 : Blk (World.setRow (wr.alloc (.cells (u32s (List.replicate 8 0)) 58)) wr.heap.size (u32s H0.list)) wr.heap.size 58 (u32s H0.list) := setRow_heap _ _ _ _ _ _ hv0
          have h1 : Blk (World.setRow (wr.alloc (.cells (u32s (List.replicate 8 0)) 58)) wr.heap.size (u32s H0.list)) w.heap.size 25 (u8s (List.replicate 32 0)) := by
            unfold Blk; rw [setRow_other _ _ _ _ (by omega)]; exact hr.alloc _
          have h2 : Below w.heap.size w (World.setRow (wr.alloc (.cells (u32s (List.replicate 8 0)) 58)) wr.heap.size (u32s H0.list)) := below_setRow (hbel.alloc (by omega) _) (by omega) _
          have hi64 : (Tryd.prog.info? 59).map (·.size) = some (u32s KK).size := by rw [u32s_size, hKl]; exact sz64
          have hall64 := u32s_one KK
          have hold64 : (u32s (zeros 64)).size = (u32s KK).size := by rw [u32s_size, u32s_size, hKl, zeros_length]
          go_wp2_with (first
            | (refine wpList_store_row rfl 58 (.tmp 6) (.tmp 41) rfl wr.heap.size (u32s H0.list) rfl rfl _ _ hv0 hi8 hold hall ?_)
            | (refine wpList_store_row rfl 59 (.tmp 7) (.tmp 42) rfl w1.heap.size (u32s KK) rfl rfl _ _ (Blk.new w1 59 (u32s (zeros 64))) hi64 hold64 hall64 ?_)
            | (go_at_call 21; go_must (refine (k_calls' KK hKK _).mono ?_); rintro e w1 ⟨rfl, hb1⟩))
          clear hv0 hr hbel hall hold hi8 hold64 hall64 hi64
          have k0 := h0.below hb1 h0.lt
          have k1 := h1.below hb1 h1.lt
          have k2 := bthen h2 h2.size hb1
          have hvw1 : wr.heap.size < w1.heap.size := k0.lt
          have hv1 := Blk.new w1 59 (u32s (zeros 64))
          have q0 : Blk (World.setRow (w1.alloc (.cells (u32s (zeros 64)) 59)) w1.heap.size (u32s KK)) w1.heap.size 59 (u32s KK) := setRow_heap _ _ _ _ _ _ hv1
          have q1 : Blk (World.setRow (w1.alloc (.cells (u32s (zeros 64)) 59)) w1.heap.size (u32s KK)) wr.heap.size 58 (u32s H0.list) := by
            unfold Blk; rw [setRow_other _ _ _ _ (by omega)]; exact k0.alloc _
          have q2 : Blk (World.setRow (w1.alloc (.cells (u32s (zeros 64)) 59)) w1.heap.size (u32s KK)) w.heap.size 25 (u8s (List.replicate 32 0)) := by
            unfold Blk; rw [setRow_other _ _ _ _ (by omega)]; exact k1.alloc _
          have q3 : Below w.heap.size w (World.setRow (w1.alloc (.cells (u32s (zeros 64)) 59)) w1.heap.size (u32s KK)) := below_setRow (k2.alloc (by omega) _) (by omega) _
          obtain ⟨vb, hvb⟩ : ∃ vb, wr.heap.size = vb := ⟨_, rfl⟩
          obtain ⟨kb, hkb⟩ : ∃ kb, w1.heap.size = kb := ⟨_, rfl⟩
          have hvw : w.heap.size < vb := by omega
          have hkw : vb < kb := by omega
          obtain ⟨wz, hwz⟩ : ∃ wz, World.setRow (w1.alloc (.cells (u32s (zeros 64)) 59)) w1.heap.size (u32s KK) = wz := ⟨_, rfl⟩
          rw [hwz] at q0 q1 q2 q3
          clear h0 h1 h2 k0 k1 k2 hb1 hv1 hvw1
          go_loopw [8] (fun i wr => ∃ (i' m : Nat) (s : H8), i = .int .i64 i' ∧ i' ≤ 1099511627976 ∧ Hid (pd.length = i' + 64 * m) ∧ Hid (blocks m s (pd.drop i') = stateOf l) ∧ s.Fit ∧ Blk wr kb 59 (u32s KK) ∧ Blk wr vb 58 (u32s s.list) ∧ Blk wr w.heap.size 25 (u8s (List.replicate 32 0)) ∧ Below w.heap.size w wr) (fun i _ => pd.length + 64 - (intOf i).toNat)
          case atStart => exact ⟨0, m0, H0, rfl, by omega, by rw [Nat.zero_add]; exact hm0h, hst0, H0_fit, hwz ▸ hkb ▸ q0, hwz ▸ hvb ▸ q1, hwz ▸ q2, hwz ▸ q3⟩
          case round =>
            rw [hvb, hkb]
            clear q0 q1 q2 q3 hwz hvb hkb hm0h hst0 hrl
            obtain ⟨i, m, s, rfl, hi, hm, hst, hfit, h0, h1, h2, h3⟩ := hrel
            have hbs1 := h1.lt
            by_cases hlt : i + 64 ≤ pd.length
            · have hlti : (i : Int) + 64 ≤ (pd.length : Int) := by omega
              have hR : HasRow wr vb 58 8 := hasRow_blk h1 (u32s_list_size s)
              have hO : RowOf wr vb = u32s s.list := rowOf_blk h1
              have hRd : HasRow wr.drew vb 58 8 := hR
              have hOd : RowOf wr.drew vb = u32s s.list := hO
              have hRk : HasRow wr kb 59 64 := hasRow_blk h0 (by rw [u32s_size]; exact hKl)
              have hOk : RowOf wr kb = u32s KK := rowOf_blk h0
              have hRkd : HasRow wr.drew kb 59 64 := hRk
              have hOkd : RowOf wr.drew kb = u32s KK := hOk
              have h0d : Blk wr.drew kb 59 (u32s KK) := h0
              have h1d : Blk wr.drew vb 58 (u32s s.list) := h1
              have hbs1d : vb < wr.drew.heap.size := hbs1
              have hbs0d : kb < wr.drew.heap.size := h0.lt
              go_wp2
              have s1 : IntKind.i64.wrap ((i : Int) + 64) = (i : Int) + 64 := IntWalk.i64_in _ (by omega)
              have s2 : 0 ≤ (i : Int) + 64 := by omega
              have s3 : (i : Int) ≤ (i : Int) + 64 := by omega
              have s4 : ((i : Int) + 64).toNat = i + 64 := by omega
              have s5 : i + 64 - i = 64 := by omega
              go_region_with (first
                  | (go_at_call 22; go_must (refine (refBlock_calls' KK hKK s hfit ((pd.drop i).take 64) (by rw [List.length_take, List.length_drop]; omega) _).mono ?_); rintro e w1 ⟨rfl, hb1⟩; have hRc := hasRow_blk (h1d.below hb1 hbs1d) (u32s_list_size s); have hOc := rowOf_blk (h1d.below hb1 hbs1d)))
              all_goals
                clear s1 s2 s3 s4 s5
                have e0 : Blk (w1.setRow vb (u32s (blockOf s ((pd.drop i).take 64)).list)) kb 59 (u32s KK) := by
                  unfold Blk; rw [setRow_other _ _ _ _ (by omega)]; exact Blk.below (w := wr.drew) h0 hb1 h0.lt
                have e1 := setRow_heap w1 vb _ (u32s (blockOf s ((pd.drop i).take 64)).list) _ _ (h1d.below hb1 hbs1d)
                have e2 : Blk (w1.setRow vb (u32s (blockOf s ((pd.drop i).take 64)).list)) w.heap.size 25 (u8s (List.replicate 32 0)) := by
                  unfold Blk; rw [setRow_other _ _ _ _ (by omega)]; exact Blk.below (w := wr.drew) h2 hb1 h2.lt
                have e3 := below_setRow (bthen h3.drew (Nat.le_of_lt h2.lt) hb1) (Nat.le_of_lt hvw) (u32s (blockOf s ((pd.drop i).take 64)).list)
                have hml := hm.out
                obtain ⟨m', rfl⟩ : ∃ m', m = m' + 1 := ⟨m - 1, by omega⟩
                have hnst : Hid (blocks m' (blockOf s ((pd.drop i).take 64)) (pd.drop (i + 64)) = stateOf l) := by
                  have := hst.out
                  rw [blocks_take, List.drop_drop] at this
                  exact this
                have hnm : Hid (pd.length = i + 64 + 64 * m') := by show _ = _; omega
                have hfit2 : (blockOf s ((pd.drop i).take 64)).Fit := plus_fit _ _
                generalize blockOf s ((pd.drop i).take 64) = s' at *
                clear hRc hOc hb1 hml hm hst
                generalize w1.setRow vb (u32s s'.list) = wz at *
                go_wp2
                go_roundw
                case rel => exact ⟨i + 64, m', s', by go_num, by omega, hnm, hnst, hfit2, e0, e1, e2, e3⟩
                case measure => simp [intOf]; omega
            · have hlti : (pd.length : Int) < (i : Int) + 64 := by omega
              have hsl : Hid (s = stateOf l) := by
                have hm0' : m = 0 := by have := hm.out; omega
                have := hst.out
                rw [hm0'] at this
                exact this
              clear hst hm
              have hg0 := Blk.new wr 25 (u8s (List.replicate 32 0))
              have k0 : Blk (World.setRow (wr.alloc (.cells (u8s (List.replicate 32 0)) 25)) wr.heap.size (u8s (List.replicate 32 0))) wr.heap.size 25 (u8s (List.replicate 32 0)) := setRow_heap _ _ _ _ _ _ hg0
              have k1 : Blk (World.setRow (wr.alloc (.cells (u8s (List.replicate 32 0)) 25)) wr.heap.size (u8s (List.replicate 32 0))) vb 58 (u32s s.list) := by
                unfold Blk; rw [setRow_other _ _ _ _ (by omega)]; exact h1.alloc _
              have k2 : Blk (World.setRow (wr.alloc (.cells (u8s (List.replicate 32 0)) 25)) wr.heap.size (u8s (List.replicate 32 0))) w.heap.size 25 (u8s (List.replicate 32 0)) := by
                unfold Blk; rw [setRow_other _ _ _ _ (by omega)]; exact h2.alloc _
              have k3 : Below w.heap.size w (World.setRow (wr.alloc (.cells (u8s (List.replicate 32 0)) 25)) wr.heap.size (u8s (List.replicate 32 0))) := below_setRow (h3.alloc (Nat.le_of_lt h2.lt) _) (by omega) _
              have hi' : (Tryd.prog.info? 25).map (·.size) = some (u8s (List.replicate 32 0)).size := by rw [u8s_size, List.length_replicate]; exact sz32
              have hall' := u8s_one (List.replicate 32 0)
              go_wp2_with (first
                | (refine wpList_store_row rfl 25 (.tmp 9) (.tmp 58) rfl wr.heap.size (u8s (List.replicate 32 0)) rfl rfl _ _ hg0 hi' rfl hall' ?_))
              obtain ⟨ib, hib⟩ : ∃ ib, wr.heap.size = ib := ⟨_, rfl⟩
              have hvi : vb < ib := by omega
              clear h0 h1 h2 h3 hg0
              obtain ⟨wz, hwz⟩ : ∃ wz, World.setRow (wr.alloc (.cells (u8s (List.replicate 32 0)) 25)) wr.heap.size (u8s (List.replicate 32 0)) = wz := ⟨_, rfl⟩
              rw [hwz] at k0 k1 k2 k3
              go_loopw [10] (fun i wr => ∃ k : Nat, i = .int .i64 k ∧ k ≤ 32 ∧ Blk wr ib 25 (u8s ((idOf s).take k ++ List.replicate (32 - k) 0)) ∧ Blk wr vb 58 (u32s s.list) ∧ Blk wr w.heap.size 25 (u8s (List.replicate 32 0)) ∧ Below w.heap.size w wr) (fun i _ => 32 - (intOf i).toNat)
              case atStart => exact ⟨0, rfl, by omega, hwz ▸ hib ▸ k0, hwz ▸ k1, hwz ▸ k2, hwz ▸ k3⟩
              case round =>
                rw [hib]
                clear k0 k1 k2 k3 hwz hib hbs1
                obtain ⟨i, rfl, hi, h0, h1, h2, h3⟩ := hrel
                have hbi := h0.lt
                by_cases hi32 : i < 32
                · have hii : (i : Int) < 32 := by omega
                  have hq : (i : Int) / 4 < 8 := by omega
                  have hq0 : (0 : Int) ≤ (i : Int) / 4 := by omega
                  have hqn : i / 4 < 8 := by omega
                  have cw : wr.cell? ⟨vb, i / 4, none⟩ = some (.int .u32 (s.list.getD (i / 4) 0 : Nat)) := by
                    rw [h1.cell, u32s_get _ _ hqn]
                  have cz : wr.cell? ⟨ib, i, none⟩ = some (.int .u8 ((((idOf s).take i ++ List.replicate (32 - i) 0).getD i 0).toNat : Nat)) := by
                    rw [h0.cell, u8s_get _ _ (by rw [List.length_append, List.length_take, idOf_length, List.length_replicate]; omega)]
                  have fz := h0.frozen i
                  have hset := Lib.hid (take_set (idOf s) i 32 (by rw [idOf_length]; exact hi32) (idOf_length s).symm)
                  have hget := Lib.hid (idOf_get s i hi32)
                  generalize (((idOf s).take i ++ List.replicate (32 - i) 0).getD i 0).toNat = oz at *
                  generalize s.list.getD (i / 4) 0 = x at *
                  go_wp2
                  have hvv : (x : Int) / 2 ^ (24 - 8 * (i % 4)) % 256 = ((x / 2 ^ (24 - 8 * (i % 4)) % 256 : Nat) : Int) := by simp
                  rw [hvv]
                  have hlt := Nat.mod_lt (x / 2 ^ (24 - 8 * (i % 4))) (show 0 < 256 by omega)
                  have hn := h0.set_ i (.int .u8 ((x / 2 ^ (24 - 8 * (i % 4)) % 256 : Nat) : Int))
                  rw [u8s_set _ _ _ hlt, ← hget.out, hset.out] at hn
                  go_roundw
                  case rel => exact ⟨i + 1, by go_num, by omega, hn, h1.far (by simp; omega) _, h2.far (by simp; omega) _, h3.setCell (by simp; omega) _⟩
                  case measure => simp [intOf]; omega
                · have hi32' : i = 32 := by omega
                  have hii : ¬ (i : Int) < 32 := by omega
                  have h0' : Blk wr ib 25 (u8s (idOf s)) := by
                    rw [hi32', List.take_of_length_le (by rw [idOf_length]; omega), Nat.sub_self, List.replicate_zero, List.append_nil] at h0
                    exact h0
                  clear hi32' h0
                  have hid : (idOf s).length = 32 := idOf_length s
                  have hfin : Hid (shaOf l = idOf s) := by show _ = _; rw [hsl.out]; rfl
                  clear hsl
                  generalize idOf s = id at *
                  have hi2 : (Tryd.prog.info? 25).map (·.size) = some (u8s id).size := by rw [u8s_size, hid]; exact sz32
                  have hall2 := u8s_one id
                  have hold2 : (u8s (List.replicate 32 0)).size = (u8s id).size := by rw [u8s_size, u8s_size, hid, List.length_replicate]
                  go_wp2_with (first
                    | (refine wpList_load_row rfl 25 (.tmp 9) rfl ib rfl _ _ _ _ h0' Tryd.underlying25 rfl hi2 ?_)
                    | (refine wpList_store_row rfl 25 (.tmp 2) (.tmp 76) rfl w.heap.size (u8s id) rfl rfl _ _ h2 hi2 hold2 hall2 ?_))
                  exact bodyPost_ret (results_cell_row rfl _ _ w.heap.size _ _ _ _ rfl (setRow_heap _ _ _ _ _ _ h2) Tryd.underlying25 rfl hi2) rfl ⟨by rw [hfin.out], below_setRow h3 (Nat.le_refl _) _⟩
    · have hjm := pad_more _ _ hj hd
      have ht1 : (((l ++ 128 :: List.replicate j 0).length : Int) % 64 != 56) = true := by rw [hlen0]; simp; omega
      have ht2 : (((l.length : Int) + ((j : Int) + 1)) % 64 != 56) = true := by simp; omega
      have ht3 : (((l.length : Int) + 1 + (j : Int)) % 64 != 56) = true := by simp; omega
      have hq : Hid ((l ++ 128 :: List.replicate j 0) ++ [0] = l ++ 128 :: List.replicate (j + 1) 0) := by
        show _ = _
        rw [List.append_assoc, List.cons_append, ← List.replicate_succ']
      go_wp2
      go_roundw
      case rel => exact ⟨j + 1, hjm, by rw [← hq.out]; simp, hr.alloc _, hbel.alloc (by omega) _⟩
      case measure => rw [strOf_B, strOf_B]; simp; omega
end Go.Proofs.YtlanconcbpdneaaDoor
/- == on entries; the walk of layer 4: knapsackref04.Same at equal objects. No condition. -/
namespace Go.Proofs.YtlanconcbpdneaaDoor
open Go.RowKit
attribute [local go_sem ↓] ldvI_eq
theorem list3 {α β : Type} {f : α → β} {l : List α} {a b c : β} (h : l.map f = [a, b, c]) : ∃ x y z, l = [x, y, z] ∧ f x = a ∧ f y = b ∧ f z = c := by
  cases l with
  | nil => simp at h
  | cons x l =>
    cases l with
    | nil => simp at h
    | cons y l =>
      cases l with
      | nil => simp at h
      | cons z l =>
        cases l with
        | nil =>
          simp only [List.map_cons, List.map_nil, List.cons.injEq, and_true] at h
          exact ⟨x, y, z, rfl, h.1, h.2.1, h.2.2⟩
        | cons u l => simp at h
theorem entFields : ∃ f0 f1 f2, (Tryd.prog.fieldsOf 53).toList = [f0, f1, f2] ∧ f0.name = "Name" ∧ f0.type = 9 ∧ f0.offset = 0 ∧ f1.name = "Kind" ∧ f1.type = 3 ∧ f1.offset = 1 ∧ f2.name = "Id" ∧ f2.type = 25 ∧ f2.offset = 2 := by
  have h : (Tryd.prog.fieldsOf 53).toList.map (fun f => (f.name, f.type, f.offset)) = [("Name", 9, 0), ("Kind", 3, 1), ("Id", 25, 2)] := by kernel_rfl
  obtain ⟨f0, f1, f2, hf, h0, h1, h2⟩ := list3 h
  simp only [Prod.mk.injEq] at h0 h1 h2
  exact ⟨f0, f1, f2, hf, h0.1, h0.2.1, h0.2.2, h1.1, h1.2.1, h1.2.2, h2.1, h2.2.1, h2.2.2⟩
theorem run_part_ename (r : EntL) (w : World) : (part 9 (entC r).toArray 0).run Tryd.prog w = .ok (.string (B r.name)) w := run_part_plain w (by kernel_rfl) rfl
theorem run_part_ekind (r : EntL) (w : World) : (part 3 (entC r).toArray 1).run Tryd.prog w = .ok (.int .i64 r.kind) w := run_part_plain w (by kernel_rfl) rfl
theorem run_part_eid (r : EntL) (hr : r.id.length = 32) (w : World) : (part 25 (entC r).toArray 2).run Tryd.prog w = .ok (.agg (u8s r.id)) w := by
  have hs := sz32
  cases hi : Tryd.prog.info? 25 with
  | none => rw [hi] at hs; cases hs
  | some i =>
    rw [hi] at hs
    have hs : i.size = 32 := by simpa using hs
    have hu := run_underlying (w := w) Tryd.underlying25
    have he : (List.take 32 (List.drop 2 (entC r))).toArray = u8s r.id := by
      show (List.take 32 (u8s r.id).toList).toArray = _
      rw [List.take_of_length_le (by rw [u8s_len, hr]; omega)]
    simp [part, hu, sizeOf, typeInfo, hi, hs, he]
theorem run_equalIn_ent (a : EntL) (ha : a.id.length = 32) (w : World) : (Op.equalIn 10000 53 (.agg (entC a).toArray) (.agg (entC a).toArray)).run Tryd.prog w = .ok true w := by
  obtain ⟨f0, f1, f2, hf, n0, t0, o0, n1, t1, o1, n2, t2, o2⟩ := entFields
  rw [run_equalIn_agg w 9999 _ _ _ (by kernel_rfl) (by kernel_rfl), hf]
  have h0 := run_equalIn_string (P := Tryd.prog) w 9998 9 (B a.name) (B a.name) Tryd.underlying9
  have h0' := run_equalIn_string (P := Tryd.prog) w 9997 9 (B a.name) (B a.name) Tryd.underlying9
  have h0'' := run_equalIn_string (P := Tryd.prog) w 9996 9 (B a.name) (B a.name) Tryd.underlying9
  have h1 := run_equalIn_int (P := Tryd.prog) w 9997 3 .i64 .i64 a.kind a.kind Tryd.underlying3
  have h1' := run_equalIn_int (P := Tryd.prog) w 9998 3 .i64 .i64 a.kind a.kind Tryd.underlying3
  have h1'' := run_equalIn_int (P := Tryd.prog) w 9996 3 .i64 .i64 a.kind a.kind Tryd.underlying3
  have h2 := run_equalIn_bytes w 9997 Tryd.underlying25 (by kernel_rfl) Tryd.underlying5 (by kernel_rfl) (Option.isSome_iff_exists.1 (by kernel_rfl)) a.id a.id ha ha
  have h2' := run_equalIn_bytes w 9996 Tryd.underlying25 (by kernel_rfl) Tryd.underlying5 (by kernel_rfl) (Option.isSome_iff_exists.1 (by kernel_rfl)) a.id a.id ha ha
  have h2'' := run_equalIn_bytes w 9995 Tryd.underlying25 (by kernel_rfl) Tryd.underlying5 (by kernel_rfl) (Option.isSome_iff_exists.1 (by kernel_rfl)) a.id a.id ha ha
  simp only [Op.eqFields, n0, t0, o0, n1, t1, o1, n2, t2, o2, Sem.run_bind, run_part_ename, run_part_ekind, run_part_eid a ha, Result.andThen_ok]
  have e0 : ("Name" = "_") = False := eq_false (by decide)
  have e1 : ("Id" = "_") = False := eq_false (by decide)
  have e2 : ("Kind" = "_") = False := eq_false (by decide)
  simp only [e0, e1, e2, h0, h0', h0'', h1, h1', h1'', h2, h2', h2'', Result.andThen_ok, ne_eq, reduceCtorEq, not_false_eq_true, if_true, Sem.run_ite, Sem.run_bind, Sem.run_pure, run_part_ename, run_part_ekind, run_part_eid a ha, decide_true, beq_self_eq_true]
  rfl
theorem quiet_neq_ent {C : World → Prop} {W : World} {a : Act} {d : Option Tmp} {rt t' : TypeId} {pos : String} {af : Array Edge} {gd : Option (Nat × Bool)} {x y : Operand} (p : EntL) (hp : p.id.length = 32)
    (hx : a.eval x = .agg (entC p).toArray) (hy : a.eval y = .agg (entC p).toArray) : Oper.quietUpon Tryd.prog C W (.bool false) ((execOp a.eval { dst := d, op := .binOp .neq 53 x y t', type := rt, pos := pos, after := af, guard := gd }).run Tryd.prog W) := by
  unfold execOp
  simp only [hx, hy, Sem.run_bind, run_eqGuard_agg _ _ _ _ _ _ _ Tryd.eqGuardType53, run_neq_struct, run_equalIn_ent p hp, Result.andThen_ok]
  exact ⟨rfl, rfl⟩
theorem quiet_neq_same_c {C : World → Prop} {W : World} {a : Act} {d : Option Tmp} {rt t' : TypeId} {pos : String} {af : Array Edge} {gd : Option (Nat × Bool)} {x y : Operand} (p : Txt) (hp : p.length = 32)
    (hx : a.eval x = .agg (idC p).toArray) (hy : a.eval y = .agg (idC p).toArray) : Oper.quietUpon Tryd.prog C W (.bool false) ((execOp a.eval { dst := d, op := .binOp .neq 25 x y t', type := rt, pos := pos, after := af, guard := gd }).run Tryd.prog W) := by
  have e : (idC p).toArray = u8s p := by simp [idC]
  rw [e] at hx hy
  unfold execOp
  simp only [hx, hy, Sem.run_bind, run_eqGuard_agg _ _ _ _ _ _ _ Tryd.eqGuardType25, run_neq_id W p p hp hp, Result.andThen_ok, decide_true, Bool.not_true]
  exact ⟨rfl, rfl⟩
theorem quiet_neq_same {C : World → Prop} {W : World} {a : Act} {d : Option Tmp} {rt t' : TypeId} {pos : String} {af : Array Edge} {gd : Option (Nat × Bool)} {x y : Operand} (p : Txt) (hp : p.length = 32)
    (hx : a.eval x = .agg (u8s p)) (hy : a.eval y = .agg (u8s p)) : Oper.quietUpon Tryd.prog C W (.bool false) ((execOp a.eval { dst := d, op := .binOp .neq 25 x y t', type := rt, pos := pos, after := af, guard := gd }).run Tryd.prog W) := by
  unfold execOp
  simp only [hx, hy, Sem.run_bind, run_eqGuard_agg _ _ _ _ _ _ _ Tryd.eqGuardType25, run_neq_id W p p hp hp, Result.andThen_ok, decide_true, Bool.not_true]
  exact ⟨rfl, rfl⟩
/-- What lies there while two objects are looked at. -/
structure SmoC (w : World) (gx gy ga oa gb ob : Nat) (o : ObjL) (v1 v2 v3 v4 : Value) (k : Nat) (cs : List Value) (w' : World) : Prop where
  a_ : w'.rangeAt ga oa cs
  b_ : w'.rangeAt gb ob cs
  x_ : ObjB w' gx o v1 v2
  y_ : ObjB w' gy o v3 v4
  bel : Below w.heap.size w w'
theorem SmoC.drew {w : World} {gx gy ga oa gb ob : Nat} {o : ObjL} {v1 v2 v3 v4 : Value} {k : Nat} {cs : List Value} {w' : World} (h : SmoC w gx gy ga oa gb ob o v1 v2 v3 v4 k cs w') : SmoC w gx gy ga oa gb ob o v1 v2 v3 v4 k cs w'.drew := ⟨h.a_, h.b_, h.x_.drew, h.y_.drew, h.bel.drew⟩
set_option maxRecDepth 100000 in
set_option maxHeartbeats 4000000 in
theorem same_calls (o : ObjL) (A1 A2 A3 A4 : Option Addr) (k1 k2 k3 k4 : Nat) (w : World) (h1 : ObjV w (.slice A1 o.ents.length k1) (.slice A2 o.pars.length k2) o) (h2 : ObjV w (.slice A3 o.ents.length k3) (.slice A4 o.pars.length k4) o) :
    Calls Tryd.prog 7 #[.agg (objC o (.slice A1 o.ents.length k1) (.slice A2 o.pars.length k2)).toArray, .agg (objC o (.slice A3 o.ents.length k3) (.slice A4 o.pars.length k4)).toArray] w fun e w' => e = .returned (.bool true) ∧ Below w.heap.size w w' := by
  have ho := h1.ok
  have hx := boxed (w := w) (ve := .slice A1 o.ents.length k1) (vp := .slice A2 o.pars.length k2) ho
  obtain ⟨W1, hW1⟩ : ∃ W1, w.alloc (.cells (objC o (.slice A1 o.ents.length k1) (.slice A2 o.pars.length k2)).toArray 29) = W1 := ⟨_, rfl⟩
  rw [hW1] at hx
  have b1 : Below w.heap.size w W1 := by rw [← hW1]; exact (Below.refl _ _).alloc (Nat.le_refl _) _
  have hy := boxed (w := W1) (ve := .slice A3 o.ents.length k3) (vp := .slice A4 o.pars.length k4) ho
  obtain ⟨W2, hW2⟩ : ∃ W2, W1.alloc (.cells (objC o (.slice A3 o.ents.length k3) (.slice A4 o.pars.length k4)).toArray 29) = W2 := ⟨_, rfl⟩
  rw [hW2] at hy
  have b2 : Below W1.heap.size W1 W2 := by rw [← hW2]; exact (Below.refl _ _).alloc (Nat.le_refl _) _
  have hx := hx.below b2
  have v1 := (h1.below b1).below b2
  have v2 := (h2.below b1).below b2
  have b12 := bthen b1 b1.size b2
  have hat1 : Hid (0 < o.ents.length → ∃ g os, A1 = some ⟨g, os, none⟩ ∧ g < W2.heap.size ∧ ∀ i x, o.ents[i]? = some x → W2.rangeAt g (os + i * 34) (entC x)) := by
    obtain ⟨A, cap, he, _, _, h⟩ := v1.ents
    injection he with he _ _
    subst he
    exact h
  have hat2 : Hid (0 < o.ents.length → ∃ g os, A3 = some ⟨g, os, none⟩ ∧ g < W2.heap.size ∧ ∀ i x, o.ents[i]? = some x → W2.rangeAt g (os + i * 34) (entC x)) := by
    obtain ⟨A, cap, he, _, _, h⟩ := v2.ents
    injection he with he _ _
    subst he
    exact h
  have hat3 : Hid (0 < o.pars.length → ∃ g os, A2 = some ⟨g, os, none⟩ ∧ g < W2.heap.size ∧ ∀ i x, o.pars[i]? = some x → W2.rangeAt g (os + i * 32) (idC x)) := by
    obtain ⟨A, cap, he, _, _, h⟩ := v1.pars
    injection he with he _ _
    subst he
    exact h
  have hat4 : Hid (0 < o.pars.length → ∃ g os, A4 = some ⟨g, os, none⟩ ∧ g < W2.heap.size ∧ ∀ i x, o.pars[i]? = some x → W2.rangeAt g (os + i * 32) (idC x)) := by
    obtain ⟨A, cap, he, _, _, h⟩ := v2.pars
    injection he with he _ _
    subst he
    exact h
  have hle := v1.ents.len
  have hlp := v1.pars.len
  have hoe := Lib.hid ho.ents
  have hop := Lib.hid ho.pars
  have htr := ho.tree
  have hta := ho.target
  clear v1 v2 h1 h2 ho
  obtain ⟨ca, hca⟩ : ∃ ca, (objC o (.slice A1 o.ents.length k1) (.slice A2 o.pars.length k2)).toArray = ca := ⟨_, rfl⟩
  obtain ⟨cb, hcb⟩ : ∃ cb, (objC o (.slice A3 o.ents.length k3) (.slice A4 o.pars.length k4)).toArray = cb := ⟨_, rfl⟩
  rw [hca] at hW1 ⊢
  rw [hcb] at hW2 ⊢
  clear hca hcb
  have x0 := hx.kind
  have x1 := hx.data
  have x2 := hx.ents
  have x35 := hx.pars
  have x36 := hx.time
  have x37 := hx.text
  have x70 := hx.of_
  have x71 := hx.name
  have xt := run_ldvI_at hx.tree htr
  have xg := run_ldvI_at hx.target hta
  have y0 := hy.kind
  have y1 := hy.data
  have y2 := hy.ents
  have y35 := hy.pars
  have y36 := hy.time
  have y37 := hy.text
  have y70 := hy.of_
  have y71 := hy.name
  have yt := run_ldvI_at hy.tree htr
  have yg := run_ldvI_at hy.target hta
  have n1 := fun W => run_neq_id W o.tree o.tree htr htr
  have n2 := fun W => run_neq_id W o.target o.target hta hta
  simp only [decide_true, Bool.not_true] at n1 n2
  have hB : Below w.heap.size w W2 := b12
  obtain ⟨gB, hgB⟩ : ∃ gB, Hid (w.heap.size = gB) := ⟨_, Lib.hid rfl⟩
  go_enter Tryd.func7, Tryd.ntmps7
  go_upto_region 1 with (fail)
  generalize w.heap.size = gx at x0 x1 x2 x35 x36 x37 x70 x71 xt xg hx ⊢
  generalize W1.heap.size = gy at *
  clear hW1 hW2 b1 b2 b12
  go_wp2_with (fail)
  go_loopw [5] (fun i wr => ∃ k : Nat, i = .int .i64 k ∧ k ≤ o.ents.length ∧ Below W2.heap.size W2 wr) (fun i _ => o.ents.length - (intOf i).toNat)
  case atStart => exact ⟨0, rfl, by omega, Below.refl _ _⟩
  case round =>
    obtain ⟨k, rfl, hk, hbel⟩ := hrel
    clear x0 x1 x2 x35 x36 x37 x70 x71 xt xg y0 y1 y2 y35 y36 y37 y70 y71 yt yg n1 n2
    have hxr := hx.below hbel
    have hyr := hy.below hbel
    have x2 := hxr.ents
    have y2 := hyr.ents
    by_cases hlt : k < o.ents.length
    · have hki : (k : Int) < (o.ents.length : Int) := by omega
      obtain ⟨ga, oa, rfl, hga, hca⟩ := hat1.out (by omega)
      obtain ⟨gb, ob, rfl, hgb, hcb⟩ := hat2.out (by omega)
      obtain ⟨x, hxe⟩ : ∃ x, o.ents[k]? = some x := ⟨_, List.getElem?_eq_getElem hlt⟩
      have hxo := hoe.out x (List.mem_of_getElem? hxe)
      have hsz : (Tryd.prog.info? 53).map (·.size) = some (entC x).length := by rw [entC_len hxo]; exact szEnt
      have hS : SmoC W2 gx gy ga (oa + k * 34) gb (ob + k * 34) o (.slice (some ⟨ga, oa, none⟩) o.ents.length k1) (.slice A2 o.pars.length k2) (.slice (some ⟨gb, ob, none⟩) o.ents.length k3) (.slice A4 o.pars.length k4) k (entC x) wr := ⟨rangeAt_below (hca k x hxe) hga hbel, rangeAt_below (hcb k x hxe) hgb hbel, hxr, hyr, hbel⟩
      clear hxe hat1 hat2 hat3 hat4 hca hcb hbel hxr hyr
      go_wp2_with (fail)
      refine wp_region_class (C := SmoC W2 gx gy ga (oa + k * 34) gb (ob + k * 34) o (.slice (some ⟨ga, oa, none⟩) o.ents.length k1) (.slice A2 o.pars.length k2) (.slice (some ⟨gb, ob, none⟩) o.ents.length k3) (.slice A4 o.pars.length k4) k (entC x)) (by kernel_rfl) (by kernel_rfl) hS.drew ?_
      repeat
        first
          | ((with_reducible refine wpQuiet_ex ?_ ?_)
             · (go_simp; done)
             apply Exists.intro
             refine ⟨fun W hW => ?_, ?_⟩
             · first
                 | exact quiet_load_mid _ _ rfl ga (oa + k * 34) rfl (entC x) _ hW.a_ Tryd.underlying53 rfl hsz rfl
                 | exact quiet_load_mid _ _ rfl gb (ob + k * 34) rfl (entC x) _ hW.b_ Tryd.underlying53 rfl hsz rfl
                 | ((with_reducible refine quiet_neq_ent x hxo.id ?_ ?_) <;> rfl)
                 | (have f1 := hW.x_.ents
                    have f2 := hW.y_.ents
                    go_simp
                    first
                      | rfl)
             simp only [Act.put, List.setIfInBounds_toArray, List.set_cons_zero, List.set_cons_succ])
          | ((with_reducible refine wpQuiet_pass ?_ ?_)
             · (first | rfl | (go_simp; done))
             simp only [Act.put, List.setIfInBounds_toArray, List.set_cons_zero, List.set_cons_succ])
      with_reducible refine wpQuiet_nil ?_
      intro w5 hW5
      go_wp2_with (fail)
      go_roundw
      case rel => exact ⟨k + 1, by go_num, by omega, hW5.bel⟩
      case measure => simp [intOf]; omega
    · have hki : ¬ (k : Int) < (o.ents.length : Int) := by omega
      have hb3 := bthen hB hB.size hbel
      have hx3 := hx.below hbel
      have hy3 := hy.below hbel
      have x2 := hx3.ents
      have y2 := hy3.ents
      have hsz3 := hbel.size
      have hat3 : Hid (0 < o.pars.length → ∃ g os, A2 = some ⟨g, os, none⟩ ∧ g < wr.heap.size ∧ ∀ i x, o.pars[i]? = some x → wr.rangeAt g (os + i * 32) (idC x)) := fun h => by
        obtain ⟨g, os, h1, h2, h3⟩ := hat3.out h
        exact ⟨g, os, h1, Nat.lt_of_lt_of_le h2 hsz3, fun i x hx => rangeAt_below (h3 i x hx) h2 hbel⟩
      have hat4 : Hid (0 < o.pars.length → ∃ g os, A4 = some ⟨g, os, none⟩ ∧ g < wr.heap.size ∧ ∀ i x, o.pars[i]? = some x → wr.rangeAt g (os + i * 32) (idC x)) := fun h => by
        obtain ⟨g, os, h1, h2, h3⟩ := hat4.out h
        exact ⟨g, os, h1, Nat.lt_of_lt_of_le h2 hsz3, fun i x hx => rangeAt_below (h3 i x hx) h2 hbel⟩
      clear hat1 hat2 hB hbel hx hy hsz3 hxr hyr hlt
      go_wp2_with (fail)
      clear x2 y2 hki
      obtain ⟨W3, rfl⟩ : ∃ W3, W3 = wr := ⟨_, rfl⟩
      go_loopw [6] (fun i wq => ∃ m : Nat, i = .int .i64 m ∧ m ≤ o.pars.length ∧ Below W3.heap.size W3 wq) (fun i _ => o.pars.length - (intOf i).toNat)
      case atStart => exact ⟨0, rfl, by omega, Below.refl _ _⟩
      case round =>
        obtain ⟨m, rfl, hk, hbel⟩ := hrel
        have hxr := hx3.below hbel
        have hyr := hy3.below hbel
        have x2 := hxr.pars
        have y2 := hyr.pars
        by_cases hlt : m < o.pars.length
        · have hki : (m : Int) < (o.pars.length : Int) := by omega
          obtain ⟨ga, oa, rfl, hga, hca⟩ := hat3.out (by omega)
          obtain ⟨gb, ob, rfl, hgb, hcb⟩ := hat4.out (by omega)
          obtain ⟨x, hxe⟩ : ∃ x, o.pars[m]? = some x := ⟨_, List.getElem?_eq_getElem hlt⟩
          have hxo := hop.out x (List.mem_of_getElem? hxe)
          have hsz : (Tryd.prog.info? 25).map (·.size) = some (idC x).length := by rw [idC_len hxo]; exact sz32
          have hS : SmoC W3 gx gy ga (oa + m * 32) gb (ob + m * 32) o (.slice A1 o.ents.length k1) (.slice (some ⟨ga, oa, none⟩) o.pars.length k2) (.slice A3 o.ents.length k3) (.slice (some ⟨gb, ob, none⟩) o.pars.length k4) m (idC x) wr := ⟨rangeAt_below (hca m x hxe) hga hbel, rangeAt_below (hcb m x hxe) hgb hbel, hxr, hyr, hbel⟩
          clear hxe hat3 hat4 hca hcb hbel hxr hyr
          go_wp2_with (fail)
          refine wp_region_class (C := SmoC W3 gx gy ga (oa + m * 32) gb (ob + m * 32) o (.slice A1 o.ents.length k1) (.slice (some ⟨ga, oa, none⟩) o.pars.length k2) (.slice A3 o.ents.length k3) (.slice (some ⟨gb, ob, none⟩) o.pars.length k4) m (idC x)) (by kernel_rfl) (by kernel_rfl) hS.drew ?_
          repeat
            first
              | ((with_reducible refine wpQuiet_ex ?_ ?_)
                 · (go_simp; done)
                 apply Exists.intro
                 refine ⟨fun W hW => ?_, ?_⟩
                 · first
                     | exact quiet_load_mid _ _ rfl ga (oa + m * 32) rfl (idC x) _ hW.a_ Tryd.underlying25 rfl hsz rfl
                     | exact quiet_load_mid _ _ rfl gb (ob + m * 32) rfl (idC x) _ hW.b_ Tryd.underlying25 rfl hsz rfl
                     | ((with_reducible refine quiet_neq_same_c x hxo ?_ ?_) <;> rfl)
                     | (have f1 := hW.x_.pars
                        have f2 := hW.y_.pars
                        go_simp
                        first
                          | rfl)
                 simp only [Act.put, List.setIfInBounds_toArray, List.set_cons_zero, List.set_cons_succ])
              | ((with_reducible refine wpQuiet_pass ?_ ?_)
                 · (first | rfl | (go_simp; done))
                 simp only [Act.put, List.setIfInBounds_toArray, List.set_cons_zero, List.set_cons_succ])
          with_reducible refine wpQuiet_nil ?_
          intro w5 hW5
          go_wp2_with (fail)
          go_roundw
          case rel => exact ⟨m + 1, by go_num, by omega, hW5.bel⟩
          case measure => simp [intOf]; omega
        · have hki : ¬ (m : Int) < (o.pars.length : Int) := by omega
          have x2 := hxr.pars
          clear hat3 hat4
          go_wp2_with (fail)
          go_ret
          exact ⟨rfl, bthen hb3 hb3.size hbel⟩
end Go.Proofs.YtlanconcbpdneaaDoor
/- The walk of layer 4: object.Decode, at any text; what is told of it. No condition. -/
namespace Go.Proofs.YtlanconcbpdneaaDoor
open Go.RowKit
theorem takeP_lt {s t q : Txt} (h : takeP s = some (t, q)) : t.length ≤ s.length ∧ q.length ≤ s.length := by
  have := takeP_back h
  rw [this]
  unfold textE
  simp only [List.length_append]
  omega
theorem decode_calls (s : Txt) (hs : s.length ≤ 4611686018427387904) (w : World) : Calls Tryd.prog 5 #[.string (B s)] w fun e w' => DecR (decO s) w' e ∧ Below w.heap.size w w' := by
  have hno : decO s = none → (s = [] ∨ 4096 < s.length ∨ takeP (s.drop 1) = none ∨ ∃ t c q, takeP (s.drop 1) = some (t, c :: q)) → Calls Tryd.prog 5 #[.string (B s)] w fun e w' => DecR (decO s) w' e ∧ Below w.heap.size w w' := fun h1 h2 => by
    rw [h1]
    exact decode_no s hs h2 w
  match s, hs, hno with
  | [], hs, hno => exact hno rfl (.inl rfl)
  | c :: q, hs, hno =>
    by_cases h1 : 4096 < (c :: q).length
    · exact hno (by unfold decO; simp only; rw [if_pos h1]) (.inr (.inl h1))
    · cases ht : takeP q with
      | none => exact hno (by unfold decO; simp only [ht]; rw [if_neg h1]) (.inr (.inr (.inl ht)))
      | some p =>
        obtain ⟨t, b⟩ := p
        cases b with
        | nil => exact decode_yes c q t (by simp only [List.length_cons] at h1; omega) ht w
        | cons x b => exact hno (by unfold decO; simp only [ht]; rw [if_neg h1, if_pos (by simp)]) (.inr (.inr (.inr ⟨t, x, b, ht⟩)))
theorem small_enc {o : ObjL} {t : Txt} (h : encO o = some t) : Small o := by
  have h1 : o.data.length ≤ 4096 := Nat.le_of_not_lt fun hc => by rw [enc_data hc] at h; cases h
  have h2 : o.text.length ≤ 4096 := Nat.le_of_not_lt fun hc => by rw [enc_text hc] at h; cases h
  have hm : mayB o = true := by
    unfold encO at h
    split at h
    · rename_i hc; exact hc.1
    · cases h
  have ha := may_alone hm
  unfold aloneB at ha
  have z : ([] : Txt).length ≤ 100 := by simp
  rcases may_kind hm with hk | hk | hk | hk
  · rw [hk] at ha
    simp at ha
    obtain ⟨c1, c2, c3, c4⟩ := commit_all ha.1.2
    obtain ⟨t1, t2, t3⟩ := tag_all ha.2
    have e1 := tree_nil ha.1.1
    exact ⟨by rw [e1]; simp, by rw [e1]; simp, by rw [c2]; simp, by omega, by omega, by rw [t3]; simp⟩
  · rw [hk] at ha
    simp at ha
    obtain ⟨c1, c2, c3, c4⟩ := commit_all ha.1.2
    obtain ⟨t1, t2, t3⟩ := tag_all ha.2
    have hf : entsB o.ents = true := by
      unfold mayB at hm
      rw [if_pos hk] at hm
      simp at hm
      exact hm.2
    have hfine := ents_fine hf
    exact ⟨by omega, fun e he => by have := name_len (hfine.2 e he).1; omega, by rw [c2]; simp, by omega, by omega, by rw [t3]; simp⟩
  · have hp8 : o.pars.length ≤ 8 := by
      unfold mayB at hm
      rw [if_neg (by omega), if_pos hk] at hm
      simp at hm
      exact hm.2
    rw [hk] at ha
    simp at ha
    obtain ⟨t1, t2, t3⟩ := tag_all ha.2
    have e2 := tree_nil ha.1.2
    exact ⟨by rw [e2]; simp, by rw [e2]; simp, by omega, by omega, by omega, by rw [t3]; simp⟩
  · have hfn : nameB o.name = true := by
      unfold mayB at hm
      rw [if_neg (by omega), if_neg (by omega), if_pos hk] at hm
      simp at hm
      exact hm.2
    rw [hk] at ha
    simp at ha
    obtain ⟨c1, c2, c3, c4⟩ := commit_all ha.2
    have e2 := tree_nil ha.1.2
    have := name_len hfn
    exact ⟨by rw [e2]; simp, by rw [e2]; simp, by rw [c2]; simp, by omega, by omega, by omega⟩
theorem zero_small : Small zeroO := ⟨by decide, by simp [zeroO], by decide, by decide, by decide, by decide⟩
theorem zero_ok (w : World) : ObjV w (.slice none 0 0) (.slice none 0 0) zeroO := ⟨⟨noId_len, noId_len, by simp [zeroO], by simp [zeroO], by decide, by decide, by decide, by decide, by decide, by decide, by decide, by decide⟩, SliceAt.nil, SliceAt.nil⟩
theorem zero_enc : encO zeroO = none := by decide
/-- The object that is told, whatever is decoded. -/
structure AnyO (s : Txt) (w' : World) (e : Ending) (q : ObjL) (A1 A2 : Option Addr) (k1 k2 : Nat) (g : Int) : Prop where
  e_ : e = .returned (.tuple #[.agg (objC q (.slice A1 q.ents.length k1) (.slice A2 q.pars.length k2)).toArray, .int .i64 g])
  val : ObjV w' (.slice A1 q.ents.length k1) (.slice A2 q.pars.length k2) q
  small : Small q
  told : (g = 0 ∧ decO s = some q ∧ encC q = .tuple #[.string (B s), .int .i64 0]) ∨ (g = 2 ∧ decO s = none ∧ q = zeroO ∧ encC q = .tuple #[.string (B []), .int .i64 1])
theorem dec_any {s : Txt} {w' : World} {e : Ending} (h : DecR (decO s) w' e) : ∃ q A1 A2 k1 k2 g, AnyO s w' e q A1 A2 k1 k2 g := by
  cases hd : decO s with
  | none =>
    rw [hd] at h
    exact ⟨zeroO, none, none, 0, 0, 2, h, zero_ok w', zero_small, .inr ⟨rfl, hd, rfl, encC_none zero_enc⟩⟩
  | some o =>
    rw [hd] at h
    obtain ⟨A1, A2, k1, k2, h1, h2⟩ := h
    have he := (dec_back hd).1
    exact ⟨o, A1, A2, k1, k2, 0, h1, h2, small_enc he, .inl ⟨rfl, hd, encC_some he⟩⟩
end Go.Proofs.YtlanconcbpdneaaDoor
/- The walk of layer 4's law: ObjectDecodes. Condition: the table of constants is as the program lays it. -/
namespace Go.Proofs.YtlanconcbpdneaaDoor
open Go.RowKit
attribute [local go_sem ↓] ldvO_eq
/-- The document's answer is ours. -/
theorem dec_two {s : Txt} {w' : World} {e : Ending} {q : ObjL} {A1 A2 : Option Addr} {k1 k2 : Nat} {g : Int} {w1 : World} {e1 : Ending} (h1 : AnyO s w1 e1 q A1 A2 k1 k2 g) (h : DecG (decO s) w' e) :
    ∃ A3 A4 k3 k4 b, e = .returned (.tuple #[.agg (objC q (.slice A3 q.ents.length k3) (.slice A4 q.pars.length k4)).toArray, .bool b]) ∧ ObjV w' (.slice A3 q.ents.length k3) (.slice A4 q.pars.length k4) q ∧ Hid ((g = 0 ∧ b = true) ∨ (g = 2 ∧ b = false)) := by
  rcases h1.told with ⟨hg, hd, _⟩ | ⟨hg, hd, hq, _⟩
  · rw [hd] at h
    obtain ⟨A3, A4, k3, k4, e1, e2⟩ := h
    exact ⟨A3, A4, k3, k4, true, e1, e2, .inl ⟨hg, rfl⟩⟩
  · rw [hd] at h
    subst hq
    exact ⟨none, none, 0, 0, false, h, zero_okG _, .inr ⟨hg, rfl⟩⟩
set_option maxRecDepth 100000 in
set_option maxHeartbeats 4000000 in
theorem decodes_calls (s : Txt) (hsl : s.length ≤ 9223372036854775807) (w : World) (hK : TabK w) : Calls Tryd.prog 3 #[.string (B s)] w fun e w' => e = .returned (.bool true) ∧ Below w.heap.size w w' := by
  have kn := fun W => Lib.hid (knows_calls W)
  have hz72 := zObj_size
  have hzv := zeroObj
  by_cases i1 : 600 < s.length
  · have i1' : (600 : Int) < (s.length : Int) := by omega
    have kn := kn w
    go_enter Tryd.func3, Tryd.ntmps3
    go_wp2_with (first
      | ((with_reducible refine kn.out.mono ?_); rintro e w3 ⟨rfl, hb3⟩))
    all_goals try (exfalso; omega)
    go_ret
    exact ⟨rfl, hb3⟩
  · have i1' : ¬ (600 : Int) < (s.length : Int) := by omega
    have hde := Lib.hid (decode_calls s (by omega) w)
    have hrd := fun W => Lib.hid (refDecode_calls s (by omega) W)
    have hid := fun W hW => Lib.hid (objId_calls s (by omega) W hW)
    have hrs := fun W => Lib.hid (refSum_calls s W (by omega))
    have hl := shaOf_length s
    have hne : ∀ W, (binOp .eql 25 (.agg (u8s (shaOf s))) (.agg (u8s (shaOf s)))).run Tryd.prog W = .ok (.bool true) W := fun W => by rw [run_eql_id W _ _ hl hl, decide_eq_true rfl]
    generalize u8s (shaOf s) = D at *
    go_enter Tryd.func3, Tryd.ntmps3
    go_upto_region 5 with (first
      | ((with_reducible refine hde.out.mono ?_); rintro e w1 ⟨hd1, hb1⟩
         obtain ⟨q, A1, A2, k1, k2, g, hany⟩ := dec_any hd1
         obtain rfl := hany.e_
         have hv1 := hany.val
         have hc72 : (objC q (.slice A1 q.ents.length k1) (.slice A2 q.pars.length k2)).toArray.size = 72 := by rw [List.size_toArray, objC_len hv1.ok]
         have hcone := objC_all q A1 A2 q.ents.length k1 q.pars.length k2
         have hrd := hrd
         clear hde hd1)
      | ((with_reducible refine lit_new 29 (.tmp 3) (.tmp 15) (objC q (.slice A1 q.ents.length k1) (.slice A2 q.pars.length k2)).toArray 72 szObj hc72 hcone _ ?_ ?_ ?_ ?_)
         · first | exact hz72 | rfl
         · rfl
         · rfl
         intro W2 hb2 hbl2
         have hO2 : ObjB W2 w1.heap.size q (.slice A1 q.ents.length k1) (.slice A2 q.pars.length k2) := ⟨hb2, hv1.ok.tree, hv1.ok.target⟩
         have hv2 := hv1.below hbl2
         have b2 := bthen hb1 hb1.size hbl2
         have hrd2 := hrd W2
         clear hc72 hcone hb2 hbl2 hb1)
      | ((with_reducible refine hrd2.out.mono ?_); rintro e w3 ⟨hd3, hb3⟩
         obtain ⟨A3, A4, k3, k4, b, rfl, hv3, htold⟩ := dec_two hany hd3
         have hO3 := hO2.below hb3
         have hv3' := hv2.below hb3
         have b3 := bthen b2 b2.size hb3
         have hc72 : (objC q (.slice A3 q.ents.length k3) (.slice A4 q.pars.length k4)).toArray.size = 72 := by rw [List.size_toArray, objC_len hv3.ok]
         have hcone := objC_all q A3 A4 q.ents.length k3 q.pars.length k4
         clear hrd2 hd3 hrd hO2 hv2 b2 hb3 hany hv1)
      | ((with_reducible refine lit_new 29 (.tmp 5) (.tmp 20) (objC q (.slice A3 q.ents.length k3) (.slice A4 q.pars.length k4)).toArray 72 szObj hc72 hcone _ ?_ ?_ ?_ ?_)
         · first | exact hz72 | rfl
         · rfl
         · rfl
         intro W4 hb4 hbl4
         have hP4 : ObjB W4 w3.heap.size q (.slice A3 q.ents.length k3) (.slice A4 q.pars.length k4) := ⟨hb4, hv3.ok.tree, hv3.ok.target⟩
         have hO4 := hO3.below hbl4
         have hv4 := hv3'.below hbl4
         have hv4' := hv3.below hbl4
         have b4 := bthen b3 b3.size hbl4
         clear hc72 hcone hb4 hbl4 hO3 b3))
    have qa := run_ldvO hO4 hv4.ok
    have qb := run_ldvO hP4 hv4'.ok
    have hsm := Lib.hid (same_calls q A1 A2 A3 A4 k1 k2 k3 k4 W4 hv4 hv4')
    have hK4 : TabK W4 := hK.below b4
    clear hO4 hP4 hv4 hv4' hv3 hv3'
    generalize (objC q (.slice A1 q.ents.length k1) (.slice A2 q.pars.length k2)).toArray = ca at *
    generalize (objC q (.slice A3 q.ents.length k3) (.slice A4 q.pars.length k4)).toArray = cb at *
    generalize w1.heap.size = ga at *
    generalize w3.heap.size = gb at *
    rcases htold.out with ⟨rfl, rfl⟩ | ⟨rfl, rfl⟩
    all_goals
      clear htold
      go_wp2_with (first
        | ((with_reducible refine hsm.out.mono ?_); rintro e w5 ⟨rfl, hb5⟩
           have b5 := bthen b4 b4.size hb5
           have hK5 : TabK w5 := hK4.below hb5
           have kn := kn w5
           clear hsm qa qb)
        | ((with_reducible refine kn.out.mono ?_); rintro e w6 ⟨rfl, hb6⟩
           have b6 := bthen b5 b5.size hb6
           have hK6 := hK5.below hb6)
        | ((with_reducible refine (hid _ hK6).out.mono ?_); rintro e w7 ⟨rfl, hb7⟩
           have b7 := bthen b6 b6.size hb7)
        | ((with_reducible refine (hrs _).out.mono ?_); rintro e w8 ⟨rfl, hb8⟩
           have b8 := bthen b7 b7.size hb8))
      go_ret
      exact ⟨rfl, b8⟩
end Go.Proofs.YtlanconcbpdneaaDoor
/- What the row's list of variables gives: the table of constants; and a world that meets it. No condition. -/
namespace Go.Proofs.YtlanconcbpdneaaDoor
open Go.ChangeShapes Go.WideShapes Go.ChangeAt Go.RowKit

theorem gTab : Tryd.prog.globalNamed "knapsack/sha256.constants" = some 0 := by kernel_rfl
theorem gTabType : (Tryd.prog.globals[0]?).map (·.type) = some 59 := by kernel_rfl
theorem cellsTab : Tryd.prog.cellsOf 59 = 64 := by kernel_rfl
theorem cellsU32 : Tryd.prog.cellsOf 27 = 1 := by kernel_rfl
theorem laid_is : (Rows.laid_knapsack_sha256_constants : DataW Unit) = Lib.tabData .u32 (K256.map fun n => ((n : Nat) : Int)) := by kernel_rfl
theorem tabK_of {W : World} (h : laidMetH Tryd.prog [("knapsack/sha256.constants", Rows.laid_knapsack_sha256_constants)] W) : TabK W := by
  rw [laid_is] at h
  have ht := Lib.tabIs_of_head (rest := []) gTab gTabType Tryd.underlying59 Tryd.underlying27 cellsU32 cellsTab h
  have hc (t : Nat) (h64 : t < 64) : W.cell? ⟨0, t, none⟩ = some (.int .u32 (K256.getD t 0 : Nat)) := by
    rw [ht.cell gTab t (by rw [List.length_map, K256_length]; exact h64)]
    have : t < K256.length := by rw [K256_length]; exact h64
    simp [List.getD, List.getElem?_map, List.getElem?_eq_getElem this]
  exact ⟨World.block_lt_of_cell? W _ (hc 0 (by omega)), hc⟩
/-- A world for the witness: the settled one, the table as its initialiser lays it. -/
noncomputable def laidWorld (os : Os) : World :=
  { World.holding Tryd.prog os ⟨#[], #[], []⟩ with heap := (World.holding Tryd.prog os ⟨#[], #[], []⟩).heap.modify 0 fun
      | .cells _ t frozen => .cells (u32s K256) t frozen
      | o => o }
end Go.Proofs.YtlanconcbpdneaaDoor
