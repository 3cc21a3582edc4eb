/- Lemmas and walks of this seat, laid together: PkBk. -/
import Derived.Test.YtoekdiklbfdpiaaDoorMg
/- The walk of layer 15's law: PackBack. Condition: the table of constants is as the program lays it. -/
namespace Go.Proofs.YtoekdiklbfdpiaaDoor
open Go.RowKit
theorem EncIs.size {l : List PItL} {s : Txt} (h : EncIs l s) (hf : fineP l = true) (hok : PitsOk l) (h20 : l.length ≤ 20) : 38 ≤ s.length ∧ s.length ≤ 262144 := by
  obtain ⟨t, hb, rfl⟩ := h
  unfold fineP at hf
  rw [Bool.and_eq_true] at hf
  have h1 := hb.len hok hf.2
  have h2 := put_length l.length
  have h3 := put_small l.length (by omega)
  rw [List.length_append, shaOf_length, List.length_append, List.length_append]
  have : pk5.length = 5 := rfl
  omega
theorem PlChain.le : ∀ {P : List Pl} {a e : Nat}, PlChain a P e → a ≤ e
  | [], a, e, h => Nat.le_of_eq h
  | p :: P, a, e, h => by have := PlChain.le h.2.2; omega
/-- What the region that decodes a cut text leaves. -/
def DcR (V : Nat → Value) (c : Nat) (i : Nat) (v : Value) (_ : World) : Prop := if i = 8 ∨ i = 9 then (∃ u, v = .tuple #[u, .int .i64 c]) else if i = 10 ∨ i = 12 then True else v = V i
section
variable {V : Nat → Value} {c i : Nat} {v : Value} {w : World}
theorem DcR.tup (hi : i = 8 ∨ i = 9) (h : ∃ u, v = .tuple #[u, .int .i64 c]) : DcR V c i v w := by unfold DcR; rwa [if_pos hi]
theorem DcR.tupAt (h : DcR V c i v w) (hi : i = 8 ∨ i = 9) : ∃ u, v = .tuple #[u, .int .i64 c] := by unfold DcR at h; rwa [if_pos hi] at h
theorem DcR.any (hi : i = 10 ∨ i = 12) : DcR V c i v w := by unfold DcR; rw [if_neg (by omega), if_pos hi]; trivial
theorem DcR.at_ (h : DcR V c i v w) (hi : ¬ (i = 8 ∨ i = 9) ∧ ¬ (i = 10 ∨ i = 12)) : v = V i := by unfold DcR at h; rwa [if_neg hi.1, if_neg hi.2] at h
theorem DcR.mk (hi : ¬ (i = 8 ∨ i = 9) ∧ ¬ (i = 10 ∨ i = 12)) (h : v = V i) : DcR V c i v w := by unfold DcR; rwa [if_neg hi.1, if_neg hi.2]
end
set_option maxRecDepth 100000 in
set_option maxHeartbeats 16000000 in
theorem packBack_calls (l : List PItL) (hok : PitsOk l) (va : Value) (at_ : Nat) (hat : at_ < 4294967296) (w : World) (hK : TabK w) (ha : Pits w va l) : Calls Tryd.prog 5 #[va, .int .u32 at_] w fun e w' => e = .returned (.bool true) ∧ Below w.heap.size w w' := by
  have hkn := fun W (hb : Below w.heap.size w W) => Lib.hid (knows_calls15 W (hK.below hb))
  have hfw := Lib.hid (few_calls15 l hok va w ha)
  have haw := fun W (hb : Below w.heap.size w W) => ha.below hb
  have hen := fun W (hb : Below w.heap.size w W) => encode_calls15 l hok va W (hK.below hb) (haw W hb)
  obtain ⟨A, capa, rfl, _⟩ := ha
  go_enter Tryd.func5, Tryd.ntmps5
  go_upto_region 2 with (first
    | ((with_reducible refine hfw.out.mono ?_); rintro e w1 ⟨⟨b, rfl, hb⟩, b1⟩))
  clear hfw
  cases b
  · have hk1 := hkn _ b1
    go_wp2_with (first
      | ((with_reducible refine hk1.out.mono ?_); rintro e w9 ⟨rfl, b9⟩))
    go_ret
    exact ⟨rfl, bthen b1 b1.size b9⟩
  · obtain ⟨h20, h5000⟩ := hb rfl
    have has := fun v W (h : Pits W v l) => as_calls15 l hok (by omega) v W h
    have hfi := fun v W (h : Rits W v (asL l)) => refFine_calls15 (asL l) (asL_ok hok) v W h
    rw [asL_fst] at hfi
    cases hf : fineP l with
    | false =>
      have hen : ∀ W, Below w.heap.size w W → Calls Tryd.prog 15 #[.slice A l.length capa] W fun e w' => e = .returned (.tuple #[.string (B []), .int .i64 1]) ∧ Below W.heap.size W w' := fun W hb => (hen W hb).mono fun e w' h => by
        have h1 := h.1
        unfold EncR at h1
        rw [hf, if_neg (by decide)] at h1
        exact ⟨h1, h.2⟩
      rw [hf] at hfi
      clear hf h5000 hb
      go_wp2_with (first
        | ((with_reducible refine (hen _ b1).mono ?_); rintro e w2 ⟨rfl, b2⟩
           have bb2 := bthen b1 b1.size b2
           have a2 := haw _ bb2)
        | ((with_reducible refine (has _ _ a2).mono ?_); rintro e w3 ⟨v3, rfl, o3, b3⟩
           have bb3 := bthen bb2 bb2.size b3
           have r3 := OwnRits.rits (asL_ok hok) o3)
        | ((with_reducible refine (hfi _ _ r3).mono ?_); rintro e w4 ⟨rfl, b4⟩
           have bb4 := bthen bb3 bb3.size b4
           have hk4 := hkn _ bb4)
        | ((with_reducible refine hk4.out.mono ?_); rintro e w9 ⟨rfl, b9⟩))
      go_ret
      exact ⟨rfl, bthen bb4 bb4.size b9⟩
    | true =>
      have hen : ∀ W, Below w.heap.size w W → Calls Tryd.prog 15 #[.slice A l.length capa] W fun e w' => (∃ s, (EncIs l s ∧ 38 ≤ s.length ∧ s.length ≤ 262144) ∧ e = .returned (.tuple #[.string (B s), .int .i64 0])) ∧ Below W.heap.size W w' := fun W hb => (hen W hb).mono fun e w' h => by
        have h1 := h.1
        unfold EncR at h1
        rw [hf, if_pos rfl] at h1
        obtain ⟨s, hs, he⟩ := h1
        have hz := hs.size hf hok h20
        rw [if_neg (by omega)] at he
        exact ⟨⟨s, ⟨hs, hz⟩, he⟩, h.2⟩
      rw [hf] at hfi
      clear h5000 hb
      go_upto_region 8 with (first
        | ((with_reducible refine (hen _ b1).mono ?_); rintro e w2 ⟨⟨s, hEs, rfl⟩, b2⟩
           have bb2 := bthen b1 b1.size b2
           have a2 := haw _ bb2)
        | ((with_reducible refine (has _ _ a2).mono ?_); rintro e w3 ⟨v3, rfl, o3, b3⟩
           have bb3 := bthen bb2 bb2.size b3
           have r3 := OwnRits.rits (asL_ok hok) o3)
        | ((with_reducible refine (hfi _ _ r3).mono ?_); rintro e w4 ⟨rfl, b4⟩
           have bb4 := bthen bb3 bb3.size b4))
      obtain ⟨hEs, hs38, hsl⟩ := hEs
      obtain ⟨Q, hQ1, hQ2, hQ3⟩ := dec_enc15 hEs hf hok hsl
      rw [put_small l.length (by omega)] at hQ3
      obtain ⟨E, hE⟩ : ∃ E, s.length - 32 = E := ⟨_, rfl⟩
      have hEl : s.length = E + 32 := by omega
      rw [hE] at hQ3
      have hcut := fun k (hk : k < E) => dec_cut hEl hk hsl
      have hdc := packDecode_calls s (by omega) w4 (hK.below bb4)
      have hpc := fun W (hb : Below w.heap.size w W) => packPlaces_calls s (by omega) W (hK.below hb)
      have hrc := fun W => refDecode_calls s (by omega) W
      rw [hQ1] at hdc hpc hrc
      simp only at hdc hpc hrc
      have hdc := Lib.hid hdc
      have hit : ∀ p ∈ Q, p.1.base.length = 32 := fun p hp => hok p.1 (by rw [← hQ2]; exact List.mem_map_of_mem hp)
      have hQl : Q.length = l.length := by rw [← hQ2, List.length_map]
      have hQli : (Q.length : Int) = (l.length : Int) := by omega
      have hsm1 := fun v1 v2 W (h1 : Rits W v1 (asL l)) (h2 : Rits W v2 (asL l)) => same_calls15 (asL l) (asL l) rfl (asL_ok hok) v1 v2 W h1 h2
      have hsm2 := fun v1 v2 W (h1 : Rits W v1 (asL l)) (h2 : Rits W v2 Q) => same_calls15 (asL l) Q (by rw [asL_fst, hQ2]) (asL_ok hok) v1 v2 W h1 h2
      have hpt : ∀ W B0 v, OwnPits W B0 v Q → Pits W v l := fun W B0 v h => by rw [← hQ2]; exact OwnPits.pits hit h
      have hdu := fun u (hu : u.length ≤ 262144) W (hb : Below w.heap.size w W) => Lib.hid (packDecode_calls u (by omega) W (hK.below hb))
      clear hf hEs hQ1 hQ2 hfi hen hK
      go_wp2_with (first
        | ((with_reducible refine hdc.out.mono ?_); rintro e w5 ⟨v5, rfl, o5, b5⟩
           have bb5 := bthen bb4 bb4.size b5
           have p5 := hpt _ _ _ o5)
        | ((with_reducible refine (hrc _).mono ?_); rintro e w6 ⟨v6, rfl, o6, b6⟩
           have bb6 := bthen bb5 bb5.size b6
           have p6 := p5.below b6
           have r6 := OwnRits.rits hit o6)
        | ((with_reducible refine (hpc _ bb6).mono ?_); rintro e w7 ⟨v7, rfl, o7, b7⟩
           have bb7 := bthen bb6 bb6.size b7
           have p7 := p6.below b7
           have r7 := r6.below b7
           have q7 := OwnPls.pls o7
           have a7 := haw _ bb7
           obtain ⟨A7, k7, e7⟩ := own_form' o7
           subst e7)
        | ((with_reducible refine (has _ _ a7).mono ?_); rintro e w8 ⟨v8, rfl, o8, b8⟩
           have bb8 := bthen bb7 bb7.size b8
           have p8 := p7.below b8
           have r8 := r7.below b8
           have q8 := q7.below b8
           have s8 := OwnRits.rits (asL_ok hok) o8
           clear a7)
        | ((with_reducible refine (has _ _ p8).mono ?_); rintro e w9 ⟨v9, rfl, o9, b9⟩
           have bb9 := bthen bb8 bb8.size b9
           have r9 := r8.below b9
           have q9 := q8.below b9
           have s9 := s8.below b9
           have t9 := OwnRits.rits (asL_ok hok) o9
           clear p8)
        | ((with_reducible refine (hsm1 _ _ _ s9 t9).mono ?_); rintro e w10 ⟨rfl, b10⟩
           have bb10 := bthen bb9 bb9.size b10
           have r10 := r9.below b10
           have q10 := q9.below b10
           have a10 := haw _ bb10)
        | ((with_reducible refine (has _ _ a10).mono ?_); rintro e w11 ⟨v11, rfl, o11, b11⟩
           have bb11 := bthen bb10 bb10.size b11
           have r11 := r10.below b11
           have q11 := q10.below b11
           have s11 := OwnRits.rits (asL_ok hok) o11)
        | ((with_reducible refine (hsm2 _ _ _ s11 r11).mono ?_); rintro e w12 ⟨rfl, b12⟩
           have bb12 := bthen bb11 bb11.size b12
           have q12 := q11.below b12))
      all_goals try (exfalso; omega)
      clear p5 p6 p7 r6 r7 r8 r9 r10 r11 s8 s9 s11 t9 o5 o6 o7 o8 o9 o11 q7 q8 q9 q10 q11 b1 b2 b3 b4 b5 b6 b7 b8 b9 b10 b11 b12 bb2 bb3 bb4 bb5 bb6 bb7 bb8 bb9 bb10 bb11 a10 r3 a2 o3 hdc hrc hpc hsm1 hsm2 has hpt haw
      obtain ⟨_, _, e1, ha1, ha2, hata⟩ := q12
      cases e1
      obtain ⟨W9, hW9⟩ : ∃ W, w12 = W := ⟨_, rfl⟩
      rw [hW9] at hata bb12 ⊢
      clear hW9
      go_loopw [17, 18] (fun v17 v18 wr => ∃ k nx : Nat, v17 = .int .i64 nx ∧ v18 = .int .i64 k ∧ k ≤ Q.length ∧ Hid (PlChain nx (Q.drop k) E) ∧ Below W9.heap.size W9 wr) (fun _ i _ => Q.length - (intOf i).toNat)
      case atStart => exact ⟨0, 6, rfl, rfl, by omega, hQ3, Below.refl _ _⟩
      case round =>
        obtain ⟨k, nx, rfl, rfl, hk, hch, hbel⟩ := hrel
        have bbr := bthen bb12 bb12.size hbel
        by_cases hlt : k < Q.length
        · have hki : (k : Int) < (Q.length : Int) := by omega
          obtain ⟨ga, oa, rfl, hga, hca⟩ := hata (by omega)
          obtain ⟨⟨x1, xa, xl⟩, hx⟩ : ∃ x, Q[k]? = some x := ⟨_, List.getElem?_eq_getElem hlt⟩
          have hdr : Q.drop k = (x1, xa, xl) :: Q.drop (k + 1) := by
            rw [List.drop_eq_getElem_cons hlt]
            congr 1
            rw [List.getElem?_eq_getElem hlt] at hx
            injection hx
          have hch2 := hch.out
          rw [hdr] at hch2
          obtain ⟨hat2, hl1, hch3⟩ := hch2
          have hat3 : xa = nx := hat2
          have hl2 : 1 ≤ xl := hl1
          have hle := hch3.le
          have hle : nx + xl ≤ E := hle
          have hch3 : Hid (PlChain (nx + xl) (Q.drop (k + 1)) E) := hch3
          have hra := rangeAt_below (hca k _ hx) hga hbel
          have q0 : wr.cell? ⟨ga, oa + k * 2, none⟩ = some (.int .i64 nx) := by have := hra 0 _ rfl; rw [Nat.add_zero] at this; rw [← hat3]; exact this
          have q1 : wr.cell? ⟨ga, oa + k * 2 + 1, none⟩ = some (.int .i64 xl) := hra 1 _ rfl
          have i1 : ¬ (xl : Int) < 1 := by omega
          have i2 : (nx : Int) + (xl : Int) ≤ 262144 := by omega
          clear hat2 hat3 hdr hx hra hca hata hch hl1
          go_wp2
          all_goals try (exfalso; omega)
          go_roundw
          case rel => exact ⟨k + 1, nx + xl, by go_num, by go_num, by omega, hch3, hbel⟩
          case measure => simp [intOf]; omega
        · have hki : ¬ (k : Int) < (Q.length : Int) := by omega
          have hnx : nx = E := by
            have h := hch.out
            rw [List.drop_eq_nil_of_le (by omega)] at h
            exact h
          subst hnx
          clear hch hata
          have hEi : (s.length : Int) - 32 = (nx : Int) := by omega
          obtain ⟨kk, hkk⟩ : ∃ kk, at_ % nx = kk := ⟨_, rfl⟩
          have hkl : kk < nx := by rw [← hkk]; exact Nat.mod_lt _ (by omega)
          have hrem : Int.tmod (at_ : Int) (nx : Int) = (kk : Int) := by rw [← hkk]; rfl
          have hrem2 : (at_ : Int) % (nx : Int) = (kk : Int) := by rw [← hkk]; rfl
          have hcut := hcut kk hkl
          go_upto_region 24 with (fail)
          clear hki hk hrem hrem2 hbel
          obtain ⟨TKs, hTK⟩ : ∃ T, s.take kk = T := ⟨_, rfl⟩
          obtain ⟨DRs, hDR⟩ : ∃ T, s.drop (kk + 1) = T := ⟨_, rfl⟩
          obtain ⟨WH, hWH⟩ : ∃ T, s.take nx = T := ⟨_, rfl⟩
          obtain ⟨CT, hCT⟩ : ∃ T, WH.drop (kk + 1) = T := ⟨_, rfl⟩
          have x1 : (B s).extract 0 kk = B TKs := by rw [← hTK]; exact extract_B_to s kk
          have x2 : (B s).extract (kk + 1) s.length = B DRs := by rw [← hDR]; exact extract_B_from s _
          have x3 : (B s).extract (kk + 1) nx = B CT := by rw [← hCT, ← hWH, extract_B, List.drop_take]
          have x4 : (B s).extract 0 nx = B WH := by rw [← hWH]; exact extract_B_to s nx
          have l1 : TKs.length = kk := by rw [← hTK, List.length_take]; omega
          have l2 : DRs.length = s.length - (kk + 1) := by rw [← hDR, List.length_drop]
          have l4 : WH.length = nx := by rw [← hWH, List.length_take]; omega
          have l3 : CT.length = nx - (kk + 1) := by rw [← hCT, List.length_drop, l4]
          have hdu := hdu (TKs ++ DRs) (by rw [List.length_append]; omega)
          have hcl := fun W => clash_calls15 (TKs ++ CT) WH s (by rw [List.length_append]; omega) (by omega) (by omega) W
          rw [l4] at hcl
          rw [hTK, hDR, hWH, hCT] at hcut
          obtain ⟨c, hcc⟩ : ∃ c, (decP (TKs ++ DRs)).2 = c := ⟨_, rfl⟩
          rw [hcc] at hdu hcut
          have j1 : (kk : Int) ≤ (s.length : Int) := by omega
          have j2 : (kk : Int) + 1 ≤ (s.length : Int) := by omega
          have j3 : (kk : Int) + 1 ≤ (nx : Int) := by omega
          have j4 : (nx : Int) ≤ (s.length : Int) := by omega
          have g1 : (TKs.length : Int) ≤ 262144 := by omega
          have g2 : (DRs.length : Int) ≤ 262144 := by omega
          have g3 : (CT.length : Int) ≤ 262144 := by omega
          have hC0 : Below w.heap.size w wr := bbr
          have w64 : IntKind.i64.wrap ((kk : Int) + 1) = (kk : Int) + 1 := IntWalk.i64_in _ (by omega)
          clear hTK hDR hWH hCT hcc l1 l2 l3 l4 bbr hEl hE hEi hs38
          obtain ⟨V, hV⟩ : ∃ V : Nat → Value, V = fun i => [(.string (B s)), (.int .i64 kk), (.string (B TKs)), (.string (B s)), (.int .i64 kk), (.int .i64 ((kk : Int) + 1)), (.string (B DRs)), (.string (B (TKs ++ DRs))), undef, undef, undef, .int .i64 c, undef, .int .i64 c].getD i undef := ⟨_, rfl⟩
          have v0 : V 0 = (.string (B s)) := by rw [hV]; rfl
          have v1 : V 1 = (.int .i64 kk) := by rw [hV]; rfl
          have v2 : V 2 = (.string (B TKs)) := by rw [hV]; rfl
          have v3 : V 3 = (.string (B s)) := by rw [hV]; rfl
          have v4 : V 4 = (.int .i64 kk) := by rw [hV]; rfl
          have v5 : V 5 = (.int .i64 ((kk : Int) + 1)) := by rw [hV]; rfl
          have v6 : V 6 = (.string (B DRs)) := by rw [hV]; rfl
          have v7 : V 7 = (.string (B (TKs ++ DRs))) := by rw [hV]; rfl
          have v11 : V 11 = .int .i64 c := by rw [hV]; rfl
          have v13 : V 13 = .int .i64 c := by rw [hV]; rfl
          clear hV
          refine wp_region_listed (C := fun _ W => Below w.heap.size w W) (R := DcR V c) (by kernel_rfl) (by kernel_rfl) (by kernel_rfl) ?_ hC0.drew ?_ ?_
          · exact sizes_spec (n := 177) (by kernel_rfl)
          · intro i o listed a w1 ho hi hL
            have hin := (ready_spec hi).1
            have hsz : listed.size = 14 := hL.size
            match i, ho with
            | 0, ho =>
              obtain rfl := (Option.some.inj ho).symm
              have e0 : a.tmps[6]?.getD undef = (.string (B s)) := (slot_eval a 6).trans (hL.get_old hi (by kernel_rfl))
              have hc := hL.cls
              refine step_wp rfl rfl ?_
              clear ho hL
              refine wp_val (v := (.string (B s))) ?_ ⟨_, rfl, DcR.mk (by decide) v0.symm, hc, fun _ _ _ h => h⟩
              clear hi hin hsz v11 v13 v0 v1 v2 v3 v4 v5 v6 v7  hc
              unfold execOp
              go_simp
            | 1, ho =>
              obtain rfl := (Option.some.inj ho).symm
              have e0 : a.tmps[20]?.getD undef = (.int .i64 kk) := (slot_eval a 20).trans (hL.get_old hi (by kernel_rfl))
              have hc := hL.cls
              refine step_wp rfl rfl ?_
              clear ho hL
              refine wp_val (v := (.int .i64 kk)) ?_ ⟨_, rfl, DcR.mk (by decide) v1.symm, hc, fun _ _ _ h => h⟩
              clear hi hin hsz v11 v13 v0 v1 v2 v3 v4 v5 v6 v7  hc
              unfold execOp
              go_simp
            | 2, ho =>
              obtain rfl := (Option.some.inj ho).symm
              have e0 : a.tmps[136]?.getD undef = (.string (B s)) := (slot_eval a 136).trans ((DcR.at_ (hi := by decide) (hL.get_new (j := 0) hi (by kernel_rfl))).trans v0)
              have e1 : a.tmps[137]?.getD undef = (.int .i64 kk) := (slot_eval a 137).trans ((DcR.at_ (hi := by decide) (hL.get_new (j := 1) hi (by kernel_rfl))).trans v1)
              have hc := hL.cls
              refine step_wp rfl rfl ?_
              clear ho hL
              refine wp_val (v := (.string (B TKs))) ?_ ⟨_, rfl, DcR.mk (by decide) v2.symm, hc, fun _ _ _ h => h⟩
              have q := x1
              clear hi hin hsz v11 v13 v0 v1 v2 v3 v4 v5 v6 v7  hc
              unfold execOp
              go_simp
            | 3, ho =>
              obtain rfl := (Option.some.inj ho).symm
              have e0 : a.tmps[6]?.getD undef = (.string (B s)) := (slot_eval a 6).trans (hL.get_old hi (by kernel_rfl))
              have hc := hL.cls
              refine step_wp rfl rfl ?_
              clear ho hL
              refine wp_val (v := (.string (B s))) ?_ ⟨_, rfl, DcR.mk (by decide) v3.symm, hc, fun _ _ _ h => h⟩
              clear hi hin hsz v11 v13 v0 v1 v2 v3 v4 v5 v6 v7  hc
              unfold execOp
              go_simp
            | 4, ho =>
              obtain rfl := (Option.some.inj ho).symm
              have e0 : a.tmps[20]?.getD undef = (.int .i64 kk) := (slot_eval a 20).trans (hL.get_old hi (by kernel_rfl))
              have hc := hL.cls
              refine step_wp rfl rfl ?_
              clear ho hL
              refine wp_val (v := (.int .i64 kk)) ?_ ⟨_, rfl, DcR.mk (by decide) v4.symm, hc, fun _ _ _ h => h⟩
              clear hi hin hsz v11 v13 v0 v1 v2 v3 v4 v5 v6 v7  hc
              unfold execOp
              go_simp
            | 5, ho =>
              obtain rfl := (Option.some.inj ho).symm
              have e0 : a.tmps[140]?.getD undef = (.int .i64 kk) := (slot_eval a 140).trans ((DcR.at_ (hi := by decide) (hL.get_new (j := 4) hi (by kernel_rfl))).trans v4)
              have hc := hL.cls
              refine step_wp rfl rfl ?_
              clear ho hL
              refine wp_val (v := (.int .i64 ((kk : Int) + 1))) ?_ ⟨_, rfl, DcR.mk (by decide) v5.symm, hc, fun _ _ _ h => h⟩
              clear hi hin hsz v11 v13 v0 v1 v2 v3 v4 v5 v6 v7  hc
              unfold execOp
              go_simp
            | 6, ho =>
              obtain rfl := (Option.some.inj ho).symm
              have e0 : a.tmps[139]?.getD undef = (.string (B s)) := (slot_eval a 139).trans ((DcR.at_ (hi := by decide) (hL.get_new (j := 3) hi (by kernel_rfl))).trans v3)
              have e1 : a.tmps[141]?.getD undef = (.int .i64 ((kk : Int) + 1)) := (slot_eval a 141).trans ((DcR.at_ (hi := by decide) (hL.get_new (j := 5) hi (by kernel_rfl))).trans v5)
              have hc := hL.cls
              refine step_wp rfl rfl ?_
              clear ho hL
              refine wp_val (v := (.string (B DRs))) ?_ ⟨_, rfl, DcR.mk (by decide) v6.symm, hc, fun _ _ _ h => h⟩
              have q := x2
              clear hi hin hsz v11 v13 v0 v1 v2 v3 v4 v5 v6 v7  hc
              unfold execOp
              go_simp
              intro hneg
              exfalso
              omega
            | 7, ho =>
              obtain rfl := (Option.some.inj ho).symm
              have e0 : a.tmps[138]?.getD undef = (.string (B TKs)) := (slot_eval a 138).trans ((DcR.at_ (hi := by decide) (hL.get_new (j := 2) hi (by kernel_rfl))).trans v2)
              have e1 : a.tmps[142]?.getD undef = (.string (B DRs)) := (slot_eval a 142).trans ((DcR.at_ (hi := by decide) (hL.get_new (j := 6) hi (by kernel_rfl))).trans v6)
              have hc := hL.cls
              refine step_wp rfl rfl ?_
              clear ho hL
              refine wp_val (v := (.string (B (TKs ++ DRs)))) ?_ ⟨_, rfl, DcR.mk (by decide) v7.symm, hc, fun _ _ _ h => h⟩
              clear hi hin hsz v11 v13 v0 v1 v2 v3 v4 v5 v6 v7  hc
              unfold execOp
              go_simp
              omega
            | 8, ho =>
              obtain rfl := (Option.some.inj ho).symm
              have e0 : a.tmps[143]?.getD undef = (.string (B (TKs ++ DRs))) := (slot_eval a 143).trans ((DcR.at_ (hi := by decide) (hL.get_new (j := 7) hi (by kernel_rfl))).trans v7)
              have hc := hL.cls
              refine step_wp rfl rfl ?_
              clear hi ho hL hin
              refine call_step rfl (vals := #[.string (B (TKs ++ DRs))]) (map1 (slot_is e0)) (by go_simp) (hdu w1 hc).out ?_
              rintro e w2 ⟨u, rfl, _, hb2⟩
              exact ⟨_, rfl, _, rfl, DcR.tup (by decide) ⟨u, rfl⟩, bthen hc hc.size hb2, fun _ _ _ h => h⟩
            | 9, ho =>
              obtain rfl := (Option.some.inj ho).symm
              have e0 := hL.get_new (j := 8) (t := 144) hi (by kernel_rfl)
              have hc := hL.cls
              obtain ⟨u, e1⟩ := DcR.tupAt e0 (by decide)
              have e1 := (slot_eval a 144).trans e1
              refine step_wp rfl rfl ?_
              clear hi ho hL hin
              refine wp_val (v := .tuple #[u, .int .i64 c]) ?_ ⟨_, rfl, DcR.tup (by decide) ⟨u, rfl⟩, hc, fun _ _ _ h => h⟩
              clear hc e0 v0 v1 v2 v3 v4 v5 v6 v7 v11 v13
              unfold execOp
              go_simp
            | 10, ho =>
              obtain rfl := (Option.some.inj ho).symm
              have e0 := hL.get_new (j := 9) (t := 135) hi (by kernel_rfl)
              have hc := hL.cls
              obtain ⟨u, e1⟩ := DcR.tupAt e0 (by decide)
              have e1 := (slot_eval a 135).trans e1
              refine step_wp rfl rfl ?_
              clear hi ho hL hin
              refine wp_val (v := u) ?_ ⟨_, rfl, DcR.any (by decide), hc, fun _ _ _ h => h⟩
              clear hc e0 v0 v1 v2 v3 v4 v5 v6 v7 v11 v13
              unfold execOp
              go_simp
            | 11, ho =>
              obtain rfl := (Option.some.inj ho).symm
              have e0 := hL.get_new (j := 9) (t := 135) hi (by kernel_rfl)
              have hc := hL.cls
              obtain ⟨u, e1⟩ := DcR.tupAt e0 (by decide)
              have e1 := (slot_eval a 135).trans e1
              refine step_wp rfl rfl ?_
              clear hi ho hL hin
              refine wp_val (v := .int .i64 c) ?_ ⟨_, rfl, DcR.mk (by decide) v11.symm, hc, fun _ _ _ h => h⟩
              clear hc e0 v0 v1 v2 v3 v4 v5 v6 v7 v11 v13
              unfold execOp
              go_simp
            | 12, ho =>
              obtain rfl := (Option.some.inj ho).symm
              have e0 := hL.get_new (j := 10) (t := 145) hi (by kernel_rfl)
              have hc := hL.cls
              refine step_wp rfl rfl ?_
              clear hi ho hL hin
              have e1 : a.tmps[145]?.getD undef = a.eval (.tmp 145) := slot_eval a 145
              generalize a.eval (.tmp 145) = vz at e0 e1
              refine wp_val (v := vz) ?_ ⟨_, rfl, DcR.any (by decide), hc, fun _ _ _ h => h⟩
              clear hc e0 v0 v1 v2 v3 v4 v5 v6 v7 v11 v13
              unfold execOp
              go_simp
            | 13, ho =>
              obtain rfl := (Option.some.inj ho).symm
              have e0 := hL.get_new (j := 11) (t := 146) hi (by kernel_rfl)
              have hc := hL.cls
              have e1 : a.tmps[146]?.getD undef = .int .i64 c := (slot_eval a 146).trans ((DcR.at_ (hL.get_new (j := 11) (t := 146) hi (by kernel_rfl)) (by decide)).trans v11)
              refine step_wp rfl rfl ?_
              clear hi ho hL hin
              refine wp_val (v := .int .i64 c) ?_ ⟨_, rfl, DcR.mk (by decide) v13.symm, hc, fun _ _ _ h => h⟩
              clear hc e0 v0 v1 v2 v3 v4 v5 v6 v7 v11 v13
              unfold execOp
              go_simp
            | (n + 14), ho => exact absurd hin (by simp)
          · intro a w1 listed hL hall
            have hc := hL.cls
            obtain ⟨vs, rfl, hR⟩ := hL.frame (by kernel_rfl) (sizes_spec (n := 177) (by kernel_rfl)) hall
            simp only [putAll, Act.put, List.setIfInBounds_toArray, List.set_cons_zero, List.set_cons_succ]
            simp only [Nat.zero_add, Nat.reduceAdd]
            have h22 := (DcR.at_ (hR 13 _ 22 rfl rfl) (by decide)).trans v13
            generalize vs 13 = vz at h22
            subst h22
            have bel24 := hc
            clear hR hc hL
            clear hdu
            go_wp2
            have hC1 := bel24
            by_cases hc5 : c = 5
            · have cb5 : ((c : Int) == 5) = true := by simp; omega
              clear hcl hcut hc5 bel24
              obtain ⟨V, hV⟩ : ∃ V : Nat → Value, V = fun i => [(.bool true), (.bool true), (.int .i64 nx), (.int .i64 nx), (.bool true), (.bool true), (.bool true), (.int .i64 c), (.bool true), (.bool true), undef, undef, (.bool true), (.bool true), undef, undef, undef, undef, undef, undef, undef, undef, undef, undef, undef, undef, undef, undef, (.bool true), (.bool true), (.bool true)].getD i undef := ⟨_, rfl⟩
              have v0 : V 0 = (.bool true) := by rw [hV]; rfl
              have v1 : V 1 = (.bool true) := by rw [hV]; rfl
              have v2 : V 2 = (.int .i64 nx) := by rw [hV]; rfl
              have v3 : V 3 = (.int .i64 nx) := by rw [hV]; rfl
              have v4 : V 4 = (.bool true) := by rw [hV]; rfl
              have v5 : V 5 = (.bool true) := by rw [hV]; rfl
              have v6 : V 6 = (.bool true) := by rw [hV]; rfl
              have v7 : V 7 = (.int .i64 c) := by rw [hV]; rfl
              have v8 : V 8 = (.bool true) := by rw [hV]; rfl
              have v9 : V 9 = (.bool true) := by rw [hV]; rfl
              have v10 : V 10 = undef := by rw [hV]; rfl
              have v11 : V 11 = undef := by rw [hV]; rfl
              have v12 : V 12 = (.bool true) := by rw [hV]; rfl
              have v13 : V 13 = (.bool true) := by rw [hV]; rfl
              have v14 : V 14 = undef := by rw [hV]; rfl
              have v15 : V 15 = undef := by rw [hV]; rfl
              have v16 : V 16 = undef := by rw [hV]; rfl
              have v17 : V 17 = undef := by rw [hV]; rfl
              have v18 : V 18 = undef := by rw [hV]; rfl
              have v19 : V 19 = undef := by rw [hV]; rfl
              have v20 : V 20 = undef := by rw [hV]; rfl
              have v21 : V 21 = undef := by rw [hV]; rfl
              have v22 : V 22 = undef := by rw [hV]; rfl
              have v23 : V 23 = undef := by rw [hV]; rfl
              have v24 : V 24 = undef := by rw [hV]; rfl
              have v25 : V 25 = undef := by rw [hV]; rfl
              have v26 : V 26 = undef := by rw [hV]; rfl
              have v27 : V 27 = undef := by rw [hV]; rfl
              have v28 : V 28 = (.bool true) := by rw [hV]; rfl
              have v29 : V 29 = (.bool true) := by rw [hV]; rfl
              have v30 : V 30 = (.bool true) := by rw [hV]; rfl
              clear hV
              refine wp_region_listed (C := fun _ W => Below w.heap.size w W) (R := fun i v _ => v = V i) (by kernel_rfl) (by kernel_rfl) (by kernel_rfl) ?_ hC1.drew ?_ ?_
              · exact sizes_spec (n := 177) (by kernel_rfl)
              · intro i o listed a w1 ho hi hL
                have hin := (ready_spec hi).1
                have hsz : listed.size = 31 := hL.size
                match i, ho with
                | 0, ho =>
                  obtain rfl := (Option.some.inj ho).symm
                  have hc := hL.cls
                  refine step_wp rfl rfl ?_
                  clear hi ho hL hin
                  refine call_step rfl (vals := #[]) (by simp) (by go_simp) (hkn w1 hc).out ?_
                  rintro e w2 ⟨rfl, hb2⟩
                  exact ⟨_, rfl, _, rfl, v0.symm, bthen hc hc.size hb2, fun _ _ _ h => h⟩
                | 1, ho =>
                  obtain rfl := (Option.some.inj ho).symm
                  have e0 : a.tmps[147]?.getD undef = (.bool true) := (slot_eval a 147).trans ((id (hL.get_new (j := 0) hi (by kernel_rfl))).trans v0)
                  have hc := hL.cls
                  refine step_wp rfl rfl ?_
                  clear ho hL
                  refine wp_val (v := (.bool true)) ?_ ⟨_, rfl, id v1.symm, hc, fun _ _ _ h => h⟩
                  clear hi hin hsz v0 v1 v2 v3 v4 v5 v6 v7 v8 v9 v10 v11 v12 v13 v14 v15 v16 v17 v18 v19 v20 v21 v22 v23 v24 v25 v26 v27 v28 v29 v30  hc
                  unfold execOp
                  go_simp
                | 2, ho =>
                  obtain rfl := (Option.some.inj ho).symm
                  have e0 : a.tmps[17]?.getD undef = (.int .i64 nx) := (slot_eval a 17).trans (hL.get_old hi (by kernel_rfl))
                  have hc := hL.cls
                  have eg : a.eval (.tmp 148) = .bool true := (id (hL.get_new (j := 1) hi (by kernel_rfl))).trans v1
                  refine step_wp_g rfl rfl rfl rfl eg (fun _ => ?_) (fun h => absurd rfl h)
                  clear ho hL
                  refine wp_val (v := (.int .i64 nx)) ?_ ⟨_, rfl, id v2.symm, hc, fun _ _ _ h => h⟩
                  clear hi hin hsz v0 v1 v2 v3 v4 v5 v6 v7 v8 v9 v10 v11 v12 v13 v14 v15 v16 v17 v18 v19 v20 v21 v22 v23 v24 v25 v26 v27 v28 v29 v30  hc
                  unfold execOp
                  go_simp
                | 3, ho =>
                  obtain rfl := (Option.some.inj ho).symm
                  have e0 : a.tmps[19]?.getD undef = (.int .i64 nx) := (slot_eval a 19).trans (hL.get_old hi (by kernel_rfl))
                  have hc := hL.cls
                  have eg : a.eval (.tmp 148) = .bool true := (id (hL.get_new (j := 1) hi (by kernel_rfl))).trans v1
                  refine step_wp_g rfl rfl rfl rfl eg (fun _ => ?_) (fun h => absurd rfl h)
                  clear ho hL
                  refine wp_val (v := (.int .i64 nx)) ?_ ⟨_, rfl, id v3.symm, hc, fun _ _ _ h => h⟩
                  clear hi hin hsz v0 v1 v2 v3 v4 v5 v6 v7 v8 v9 v10 v11 v12 v13 v14 v15 v16 v17 v18 v19 v20 v21 v22 v23 v24 v25 v26 v27 v28 v29 v30  hc
                  unfold execOp
                  go_simp
                | 4, ho =>
                  obtain rfl := (Option.some.inj ho).symm
                  have e0 : a.tmps[149]?.getD undef = (.int .i64 nx) := (slot_eval a 149).trans ((id (hL.get_new (j := 2) hi (by kernel_rfl))).trans v2)
                  have e1 : a.tmps[150]?.getD undef = (.int .i64 nx) := (slot_eval a 150).trans ((id (hL.get_new (j := 3) hi (by kernel_rfl))).trans v3)
                  have hc := hL.cls
                  have eg : a.eval (.tmp 148) = .bool true := (id (hL.get_new (j := 1) hi (by kernel_rfl))).trans v1
                  refine step_wp_g rfl rfl rfl rfl eg (fun _ => ?_) (fun h => absurd rfl h)
                  clear ho hL
                  refine wp_val (v := (.bool true)) ?_ ⟨_, rfl, id v4.symm, hc, fun _ _ _ h => h⟩
                  clear hi hin hsz v0 v1 v2 v3 v4 v5 v6 v7 v8 v9 v10 v11 v12 v13 v14 v15 v16 v17 v18 v19 v20 v21 v22 v23 v24 v25 v26 v27 v28 v29 v30  hc
                  unfold execOp
                  go_simp
                | 5, ho =>
                  obtain rfl := (Option.some.inj ho).symm
                  have e0 : a.tmps[148]?.getD undef = (.bool true) := (slot_eval a 148).trans ((id (hL.get_new (j := 1) hi (by kernel_rfl))).trans v1)
                  have e1 : a.tmps[151]?.getD undef = (.bool true) := (slot_eval a 151).trans ((id (hL.get_new (j := 4) hi (by kernel_rfl))).trans v4)
                  have hc := hL.cls
                  refine step_wp rfl rfl ?_
                  clear ho hL
                  refine wp_val (v := (.bool true)) ?_ ⟨_, rfl, id v5.symm, hc, fun _ _ _ h => h⟩
                  clear hi hin hsz v0 v1 v2 v3 v4 v5 v6 v7 v8 v9 v10 v11 v12 v13 v14 v15 v16 v17 v18 v19 v20 v21 v22 v23 v24 v25 v26 v27 v28 v29 v30  hc
                  unfold execOp
                  go_simp
                | 6, ho =>
                  obtain rfl := (Option.some.inj ho).symm
                  have e0 : a.tmps[152]?.getD undef = (.bool true) := (slot_eval a 152).trans ((id (hL.get_new (j := 5) hi (by kernel_rfl))).trans v5)
                  have hc := hL.cls
                  refine step_wp rfl rfl ?_
                  clear ho hL
                  refine wp_val (v := (.bool true)) ?_ ⟨_, rfl, id v6.symm, hc, fun _ _ _ h => h⟩
                  clear hi hin hsz v0 v1 v2 v3 v4 v5 v6 v7 v8 v9 v10 v11 v12 v13 v14 v15 v16 v17 v18 v19 v20 v21 v22 v23 v24 v25 v26 v27 v28 v29 v30  hc
                  unfold execOp
                  go_simp
                | 7, ho =>
                  obtain rfl := (Option.some.inj ho).symm
                  have e0 : a.tmps[22]?.getD undef = (.int .i64 c) := (slot_eval a 22).trans (hL.get_old hi (by kernel_rfl))
                  have hc := hL.cls
                  have eg : a.eval (.tmp 153) = .bool true := (id (hL.get_new (j := 6) hi (by kernel_rfl))).trans v6
                  refine step_wp_g rfl rfl rfl rfl eg (fun _ => ?_) (fun h => absurd rfl h)
                  clear ho hL
                  refine wp_val (v := (.int .i64 c)) ?_ ⟨_, rfl, id v7.symm, hc, fun _ _ _ h => h⟩
                  clear hi hin hsz v0 v1 v2 v3 v4 v5 v6 v7 v8 v9 v10 v11 v12 v13 v14 v15 v16 v17 v18 v19 v20 v21 v22 v23 v24 v25 v26 v27 v28 v29 v30  hc
                  unfold execOp
                  go_simp
                | 8, ho =>
                  obtain rfl := (Option.some.inj ho).symm
                  have e0 : a.tmps[154]?.getD undef = (.int .i64 c) := (slot_eval a 154).trans ((id (hL.get_new (j := 7) hi (by kernel_rfl))).trans v7)
                  have hc := hL.cls
                  have eg : a.eval (.tmp 153) = .bool true := (id (hL.get_new (j := 6) hi (by kernel_rfl))).trans v6
                  refine step_wp_g rfl rfl rfl rfl eg (fun _ => ?_) (fun h => absurd rfl h)
                  clear ho hL
                  refine wp_val (v := (.bool true)) ?_ ⟨_, rfl, id v8.symm, hc, fun _ _ _ h => h⟩
                  clear hi hin hsz v0 v1 v2 v3 v4 v5 v6 v7 v8 v9 v10 v11 v12 v13 v14 v15 v16 v17 v18 v19 v20 v21 v22 v23 v24 v25 v26 v27 v28 v29 v30  hc
                  unfold execOp
                  go_simp
                | 9, ho =>
                  obtain rfl := (Option.some.inj ho).symm
                  have e0 : a.tmps[155]?.getD undef = (.bool true) := (slot_eval a 155).trans ((id (hL.get_new (j := 8) hi (by kernel_rfl))).trans v8)
                  have hc := hL.cls
                  have eg : a.eval (.tmp 153) = .bool true := (id (hL.get_new (j := 6) hi (by kernel_rfl))).trans v6
                  refine step_wp_g rfl rfl rfl rfl eg (fun _ => ?_) (fun h => absurd rfl h)
                  clear ho hL
                  refine wp_val (v := (.bool true)) ?_ ⟨_, rfl, id v9.symm, hc, fun _ _ _ h => h⟩
                  clear hi hin hsz v0 v1 v2 v3 v4 v5 v6 v7 v8 v9 v10 v11 v12 v13 v14 v15 v16 v17 v18 v19 v20 v21 v22 v23 v24 v25 v26 v27 v28 v29 v30  hc
                  unfold execOp
                  go_simp
                | 10, ho =>
                  obtain rfl := (Option.some.inj ho).symm
                  have e0 : a.tmps[22]?.getD undef = (.int .i64 c) := (slot_eval a 22).trans (hL.get_old hi (by kernel_rfl))
                  have hc := hL.cls
                  have eg : a.eval (.tmp 156) = .bool true := (id (hL.get_new (j := 9) hi (by kernel_rfl))).trans v9
                  refine step_wp_g rfl rfl rfl rfl eg (fun h => absurd h (by decide)) (fun _ => ⟨_, rfl, id v10.symm, hc, fun _ _ _ h => h⟩)
                | 11, ho =>
                  obtain rfl := (Option.some.inj ho).symm
                  have e0 : a.tmps[157]?.getD undef = undef := (slot_eval a 157).trans ((id (hL.get_new (j := 10) hi (by kernel_rfl))).trans v10)
                  have hc := hL.cls
                  have eg : a.eval (.tmp 156) = .bool true := (id (hL.get_new (j := 9) hi (by kernel_rfl))).trans v9
                  refine step_wp_g rfl rfl rfl rfl eg (fun h => absurd h (by decide)) (fun _ => ⟨_, rfl, id v11.symm, hc, fun _ _ _ h => h⟩)
                | 12, ho =>
                  obtain rfl := (Option.some.inj ho).symm
                  have e0 : a.tmps[156]?.getD undef = (.bool true) := (slot_eval a 156).trans ((id (hL.get_new (j := 9) hi (by kernel_rfl))).trans v9)
                  have e1 : a.tmps[158]?.getD undef = undef := (slot_eval a 158).trans ((id (hL.get_new (j := 11) hi (by kernel_rfl))).trans v11)
                  have hc := hL.cls
                  have eg : a.eval (.tmp 153) = .bool true := (id (hL.get_new (j := 6) hi (by kernel_rfl))).trans v6
                  refine step_wp_g rfl rfl rfl rfl eg (fun _ => ?_) (fun h => absurd rfl h)
                  clear ho hL
                  refine wp_val (v := (.bool true)) ?_ ⟨_, rfl, id v12.symm, hc, fun _ _ _ h => h⟩
                  clear hi hin hsz v0 v1 v2 v3 v4 v5 v6 v7 v8 v9 v10 v11 v12 v13 v14 v15 v16 v17 v18 v19 v20 v21 v22 v23 v24 v25 v26 v27 v28 v29 v30  hc
                  unfold execOp
                  go_simp
                | 13, ho =>
                  obtain rfl := (Option.some.inj ho).symm
                  have e0 : a.tmps[159]?.getD undef = (.bool true) := (slot_eval a 159).trans ((id (hL.get_new (j := 12) hi (by kernel_rfl))).trans v12)
                  have hc := hL.cls
                  have eg : a.eval (.tmp 153) = .bool true := (id (hL.get_new (j := 6) hi (by kernel_rfl))).trans v6
                  refine step_wp_g rfl rfl rfl rfl eg (fun _ => ?_) (fun h => absurd rfl h)
                  clear ho hL
                  refine wp_val (v := (.bool true)) ?_ ⟨_, rfl, id v13.symm, hc, fun _ _ _ h => h⟩
                  clear hi hin hsz v0 v1 v2 v3 v4 v5 v6 v7 v8 v9 v10 v11 v12 v13 v14 v15 v16 v17 v18 v19 v20 v21 v22 v23 v24 v25 v26 v27 v28 v29 v30  hc
                  unfold execOp
                  go_simp
                | 14, ho =>
                  obtain rfl := (Option.some.inj ho).symm
                  have e0 : a.tmps[6]?.getD undef = (.string (B s)) := (slot_eval a 6).trans (hL.get_old hi (by kernel_rfl))
                  have hc := hL.cls
                  have eg : a.eval (.tmp 160) = .bool true := (id (hL.get_new (j := 13) hi (by kernel_rfl))).trans v13
                  refine step_wp_g rfl rfl rfl rfl eg (fun h => absurd h (by decide)) (fun _ => ⟨_, rfl, id v14.symm, hc, fun _ _ _ h => h⟩)
                | 15, ho =>
                  obtain rfl := (Option.some.inj ho).symm
                  have e0 : a.tmps[20]?.getD undef = (.int .i64 kk) := (slot_eval a 20).trans (hL.get_old hi (by kernel_rfl))
                  have hc := hL.cls
                  have eg : a.eval (.tmp 160) = .bool true := (id (hL.get_new (j := 13) hi (by kernel_rfl))).trans v13
                  refine step_wp_g rfl rfl rfl rfl eg (fun h => absurd h (by decide)) (fun _ => ⟨_, rfl, id v15.symm, hc, fun _ _ _ h => h⟩)
                | 16, ho =>
                  obtain rfl := (Option.some.inj ho).symm
                  have e0 : a.tmps[161]?.getD undef = undef := (slot_eval a 161).trans ((id (hL.get_new (j := 14) hi (by kernel_rfl))).trans v14)
                  have e1 : a.tmps[162]?.getD undef = undef := (slot_eval a 162).trans ((id (hL.get_new (j := 15) hi (by kernel_rfl))).trans v15)
                  have hc := hL.cls
                  have eg : a.eval (.tmp 160) = .bool true := (id (hL.get_new (j := 13) hi (by kernel_rfl))).trans v13
                  refine step_wp_g rfl rfl rfl rfl eg (fun h => absurd h (by decide)) (fun _ => ⟨_, rfl, id v16.symm, hc, fun _ _ _ h => h⟩)
                | 17, ho =>
                  obtain rfl := (Option.some.inj ho).symm
                  have e0 : a.tmps[6]?.getD undef = (.string (B s)) := (slot_eval a 6).trans (hL.get_old hi (by kernel_rfl))
                  have hc := hL.cls
                  have eg : a.eval (.tmp 160) = .bool true := (id (hL.get_new (j := 13) hi (by kernel_rfl))).trans v13
                  refine step_wp_g rfl rfl rfl rfl eg (fun h => absurd h (by decide)) (fun _ => ⟨_, rfl, id v17.symm, hc, fun _ _ _ h => h⟩)
                | 18, ho =>
                  obtain rfl := (Option.some.inj ho).symm
                  have e0 : a.tmps[20]?.getD undef = (.int .i64 kk) := (slot_eval a 20).trans (hL.get_old hi (by kernel_rfl))
                  have hc := hL.cls
                  have eg : a.eval (.tmp 160) = .bool true := (id (hL.get_new (j := 13) hi (by kernel_rfl))).trans v13
                  refine step_wp_g rfl rfl rfl rfl eg (fun h => absurd h (by decide)) (fun _ => ⟨_, rfl, id v18.symm, hc, fun _ _ _ h => h⟩)
                | 19, ho =>
                  obtain rfl := (Option.some.inj ho).symm
                  have e0 : a.tmps[165]?.getD undef = undef := (slot_eval a 165).trans ((id (hL.get_new (j := 18) hi (by kernel_rfl))).trans v18)
                  have hc := hL.cls
                  have eg : a.eval (.tmp 160) = .bool true := (id (hL.get_new (j := 13) hi (by kernel_rfl))).trans v13
                  refine step_wp_g rfl rfl rfl rfl eg (fun h => absurd h (by decide)) (fun _ => ⟨_, rfl, id v19.symm, hc, fun _ _ _ h => h⟩)
                | 20, ho =>
                  obtain rfl := (Option.some.inj ho).symm
                  have e0 : a.tmps[19]?.getD undef = (.int .i64 nx) := (slot_eval a 19).trans (hL.get_old hi (by kernel_rfl))
                  have hc := hL.cls
                  have eg : a.eval (.tmp 160) = .bool true := (id (hL.get_new (j := 13) hi (by kernel_rfl))).trans v13
                  refine step_wp_g rfl rfl rfl rfl eg (fun h => absurd h (by decide)) (fun _ => ⟨_, rfl, id v20.symm, hc, fun _ _ _ h => h⟩)
                | 21, ho =>
                  obtain rfl := (Option.some.inj ho).symm
                  have e0 : a.tmps[164]?.getD undef = undef := (slot_eval a 164).trans ((id (hL.get_new (j := 17) hi (by kernel_rfl))).trans v17)
                  have e1 : a.tmps[166]?.getD undef = undef := (slot_eval a 166).trans ((id (hL.get_new (j := 19) hi (by kernel_rfl))).trans v19)
                  have e2 : a.tmps[167]?.getD undef = undef := (slot_eval a 167).trans ((id (hL.get_new (j := 20) hi (by kernel_rfl))).trans v20)
                  have hc := hL.cls
                  have eg : a.eval (.tmp 160) = .bool true := (id (hL.get_new (j := 13) hi (by kernel_rfl))).trans v13
                  refine step_wp_g rfl rfl rfl rfl eg (fun h => absurd h (by decide)) (fun _ => ⟨_, rfl, id v21.symm, hc, fun _ _ _ h => h⟩)
                | 22, ho =>
                  obtain rfl := (Option.some.inj ho).symm
                  have e0 : a.tmps[163]?.getD undef = undef := (slot_eval a 163).trans ((id (hL.get_new (j := 16) hi (by kernel_rfl))).trans v16)
                  have e1 : a.tmps[168]?.getD undef = undef := (slot_eval a 168).trans ((id (hL.get_new (j := 21) hi (by kernel_rfl))).trans v21)
                  have hc := hL.cls
                  have eg : a.eval (.tmp 160) = .bool true := (id (hL.get_new (j := 13) hi (by kernel_rfl))).trans v13
                  refine step_wp_g rfl rfl rfl rfl eg (fun h => absurd h (by decide)) (fun _ => ⟨_, rfl, id v22.symm, hc, fun _ _ _ h => h⟩)
                | 23, ho =>
                  obtain rfl := (Option.some.inj ho).symm
                  have e0 : a.tmps[6]?.getD undef = (.string (B s)) := (slot_eval a 6).trans (hL.get_old hi (by kernel_rfl))
                  have hc := hL.cls
                  have eg : a.eval (.tmp 160) = .bool true := (id (hL.get_new (j := 13) hi (by kernel_rfl))).trans v13
                  refine step_wp_g rfl rfl rfl rfl eg (fun h => absurd h (by decide)) (fun _ => ⟨_, rfl, id v23.symm, hc, fun _ _ _ h => h⟩)
                | 24, ho =>
                  obtain rfl := (Option.some.inj ho).symm
                  have e0 : a.tmps[19]?.getD undef = (.int .i64 nx) := (slot_eval a 19).trans (hL.get_old hi (by kernel_rfl))
                  have hc := hL.cls
                  have eg : a.eval (.tmp 160) = .bool true := (id (hL.get_new (j := 13) hi (by kernel_rfl))).trans v13
                  refine step_wp_g rfl rfl rfl rfl eg (fun h => absurd h (by decide)) (fun _ => ⟨_, rfl, id v24.symm, hc, fun _ _ _ h => h⟩)
                | 25, ho =>
                  obtain rfl := (Option.some.inj ho).symm
                  have e0 : a.tmps[170]?.getD undef = undef := (slot_eval a 170).trans ((id (hL.get_new (j := 23) hi (by kernel_rfl))).trans v23)
                  have e1 : a.tmps[171]?.getD undef = undef := (slot_eval a 171).trans ((id (hL.get_new (j := 24) hi (by kernel_rfl))).trans v24)
                  have hc := hL.cls
                  have eg : a.eval (.tmp 160) = .bool true := (id (hL.get_new (j := 13) hi (by kernel_rfl))).trans v13
                  refine step_wp_g rfl rfl rfl rfl eg (fun h => absurd h (by decide)) (fun _ => ⟨_, rfl, id v25.symm, hc, fun _ _ _ h => h⟩)
                | 26, ho =>
                  obtain rfl := (Option.some.inj ho).symm
                  have e0 : a.tmps[6]?.getD undef = (.string (B s)) := (slot_eval a 6).trans (hL.get_old hi (by kernel_rfl))
                  have hc := hL.cls
                  have eg : a.eval (.tmp 160) = .bool true := (id (hL.get_new (j := 13) hi (by kernel_rfl))).trans v13
                  refine step_wp_g rfl rfl rfl rfl eg (fun h => absurd h (by decide)) (fun _ => ⟨_, rfl, id v26.symm, hc, fun _ _ _ h => h⟩)
                | 27, ho =>
                  obtain rfl := (Option.some.inj ho).symm
                  have e0 : a.tmps[169]?.getD undef = undef := (slot_eval a 169).trans ((id (hL.get_new (j := 22) hi (by kernel_rfl))).trans v22)
                  have e1 : a.tmps[172]?.getD undef = undef := (slot_eval a 172).trans ((id (hL.get_new (j := 25) hi (by kernel_rfl))).trans v25)
                  have e2 : a.tmps[173]?.getD undef = undef := (slot_eval a 173).trans ((id (hL.get_new (j := 26) hi (by kernel_rfl))).trans v26)
                  have hc := hL.cls
                  have eg : a.eval (.tmp 160) = .bool true := (id (hL.get_new (j := 13) hi (by kernel_rfl))).trans v13
                  refine step_wp_g rfl rfl rfl rfl eg (fun h => absurd h (by decide)) (fun _ => ⟨_, rfl, id v27.symm, hc, fun _ _ _ h => h⟩)
                | 28, ho =>
                  obtain rfl := (Option.some.inj ho).symm
                  have e0 : a.tmps[160]?.getD undef = (.bool true) := (slot_eval a 160).trans ((id (hL.get_new (j := 13) hi (by kernel_rfl))).trans v13)
                  have e1 : a.tmps[174]?.getD undef = undef := (slot_eval a 174).trans ((id (hL.get_new (j := 27) hi (by kernel_rfl))).trans v27)
                  have hc := hL.cls
                  have eg : a.eval (.tmp 153) = .bool true := (id (hL.get_new (j := 6) hi (by kernel_rfl))).trans v6
                  refine step_wp_g rfl rfl rfl rfl eg (fun _ => ?_) (fun h => absurd rfl h)
                  clear ho hL
                  refine wp_val (v := (.bool true)) ?_ ⟨_, rfl, id v28.symm, hc, fun _ _ _ h => h⟩
                  clear hi hin hsz v0 v1 v2 v3 v4 v5 v6 v7 v8 v9 v10 v11 v12 v13 v14 v15 v16 v17 v18 v19 v20 v21 v22 v23 v24 v25 v26 v27 v28 v29 v30  hc
                  unfold execOp
                  go_simp
                | 29, ho =>
                  obtain rfl := (Option.some.inj ho).symm
                  have e0 : a.tmps[153]?.getD undef = (.bool true) := (slot_eval a 153).trans ((id (hL.get_new (j := 6) hi (by kernel_rfl))).trans v6)
                  have e1 : a.tmps[175]?.getD undef = (.bool true) := (slot_eval a 175).trans ((id (hL.get_new (j := 28) hi (by kernel_rfl))).trans v28)
                  have hc := hL.cls
                  refine step_wp rfl rfl ?_
                  clear ho hL
                  refine wp_val (v := (.bool true)) ?_ ⟨_, rfl, id v29.symm, hc, fun _ _ _ h => h⟩
                  clear hi hin hsz v0 v1 v2 v3 v4 v5 v6 v7 v8 v9 v10 v11 v12 v13 v14 v15 v16 v17 v18 v19 v20 v21 v22 v23 v24 v25 v26 v27 v28 v29 v30  hc
                  unfold execOp
                  go_simp
                | 30, ho =>
                  obtain rfl := (Option.some.inj ho).symm
                  have e0 : a.tmps[176]?.getD undef = (.bool true) := (slot_eval a 176).trans ((id (hL.get_new (j := 29) hi (by kernel_rfl))).trans v29)
                  have hc := hL.cls
                  refine step_wp rfl rfl ?_
                  clear ho hL
                  refine wp_val (v := (.bool true)) ?_ ⟨_, rfl, id v30.symm, hc, fun _ _ _ h => h⟩
                  clear hi hin hsz v0 v1 v2 v3 v4 v5 v6 v7 v8 v9 v10 v11 v12 v13 v14 v15 v16 v17 v18 v19 v20 v21 v22 v23 v24 v25 v26 v27 v28 v29 v30  hc
                  unfold execOp
                  go_simp
                | (n + 31), ho => exact absurd hin (by simp)
              · intro a w1 listed hL hall
                have hc := hL.cls
                obtain ⟨vs, rfl, hR⟩ := hL.frame (by kernel_rfl) (sizes_spec (n := 177) (by kernel_rfl)) hall
                simp only [putAll, Act.put, List.setIfInBounds_toArray, List.set_cons_zero, List.set_cons_succ]
                simp only [Nat.zero_add, Nat.reduceAdd]
                have h4 : vs 30 = .bool true := (hR 30 _ 4 rfl rfl).trans v30
                generalize vs 30 = vz at h4
                subst h4
                have bel25 := hc
                clear hR hc hL
                go_wp2
                go_ret
                exact ⟨rfl, bel25⟩
            · have cb5 : ((c : Int) == 5) = false := by simp; omega
              by_cases hc2 : c = 2
              · have cb2 : ((c : Int) == 2) = true := by simp; omega
                clear hcl hcut hc5 hc2 bel24
                obtain ⟨V, hV⟩ : ∃ V : Nat → Value, V = fun i => [(.bool true), (.bool true), (.int .i64 nx), (.int .i64 nx), (.bool true), (.bool true), (.bool true), (.int .i64 c), (.bool false), (.bool false), (.int .i64 c), (.bool true), (.bool true), (.bool true), undef, undef, undef, undef, undef, undef, undef, undef, undef, undef, undef, undef, undef, undef, (.bool true), (.bool true), (.bool true)].getD i undef := ⟨_, rfl⟩
                have v0 : V 0 = (.bool true) := by rw [hV]; rfl
                have v1 : V 1 = (.bool true) := by rw [hV]; rfl
                have v2 : V 2 = (.int .i64 nx) := by rw [hV]; rfl
                have v3 : V 3 = (.int .i64 nx) := by rw [hV]; rfl
                have v4 : V 4 = (.bool true) := by rw [hV]; rfl
                have v5 : V 5 = (.bool true) := by rw [hV]; rfl
                have v6 : V 6 = (.bool true) := by rw [hV]; rfl
                have v7 : V 7 = (.int .i64 c) := by rw [hV]; rfl
                have v8 : V 8 = (.bool false) := by rw [hV]; rfl
                have v9 : V 9 = (.bool false) := by rw [hV]; rfl
                have v10 : V 10 = (.int .i64 c) := by rw [hV]; rfl
                have v11 : V 11 = (.bool true) := by rw [hV]; rfl
                have v12 : V 12 = (.bool true) := by rw [hV]; rfl
                have v13 : V 13 = (.bool true) := by rw [hV]; rfl
                have v14 : V 14 = undef := by rw [hV]; rfl
                have v15 : V 15 = undef := by rw [hV]; rfl
                have v16 : V 16 = undef := by rw [hV]; rfl
                have v17 : V 17 = undef := by rw [hV]; rfl
                have v18 : V 18 = undef := by rw [hV]; rfl
                have v19 : V 19 = undef := by rw [hV]; rfl
                have v20 : V 20 = undef := by rw [hV]; rfl
                have v21 : V 21 = undef := by rw [hV]; rfl
                have v22 : V 22 = undef := by rw [hV]; rfl
                have v23 : V 23 = undef := by rw [hV]; rfl
                have v24 : V 24 = undef := by rw [hV]; rfl
                have v25 : V 25 = undef := by rw [hV]; rfl
                have v26 : V 26 = undef := by rw [hV]; rfl
                have v27 : V 27 = undef := by rw [hV]; rfl
                have v28 : V 28 = (.bool true) := by rw [hV]; rfl
                have v29 : V 29 = (.bool true) := by rw [hV]; rfl
                have v30 : V 30 = (.bool true) := by rw [hV]; rfl
                clear hV
                refine wp_region_listed (C := fun _ W => Below w.heap.size w W) (R := fun i v _ => v = V i) (by kernel_rfl) (by kernel_rfl) (by kernel_rfl) ?_ hC1.drew ?_ ?_
                · exact sizes_spec (n := 177) (by kernel_rfl)
                · intro i o listed a w1 ho hi hL
                  have hin := (ready_spec hi).1
                  have hsz : listed.size = 31 := hL.size
                  match i, ho with
                  | 0, ho =>
                    obtain rfl := (Option.some.inj ho).symm
                    have hc := hL.cls
                    refine step_wp rfl rfl ?_
                    clear hi ho hL hin
                    refine call_step rfl (vals := #[]) (by simp) (by go_simp) (hkn w1 hc).out ?_
                    rintro e w2 ⟨rfl, hb2⟩
                    exact ⟨_, rfl, _, rfl, v0.symm, bthen hc hc.size hb2, fun _ _ _ h => h⟩
                  | 1, ho =>
                    obtain rfl := (Option.some.inj ho).symm
                    have e0 : a.tmps[147]?.getD undef = (.bool true) := (slot_eval a 147).trans ((id (hL.get_new (j := 0) hi (by kernel_rfl))).trans v0)
                    have hc := hL.cls
                    refine step_wp rfl rfl ?_
                    clear ho hL
                    refine wp_val (v := (.bool true)) ?_ ⟨_, rfl, id v1.symm, hc, fun _ _ _ h => h⟩
                    clear hi hin hsz v0 v1 v2 v3 v4 v5 v6 v7 v8 v9 v10 v11 v12 v13 v14 v15 v16 v17 v18 v19 v20 v21 v22 v23 v24 v25 v26 v27 v28 v29 v30  hc
                    unfold execOp
                    go_simp
                  | 2, ho =>
                    obtain rfl := (Option.some.inj ho).symm
                    have e0 : a.tmps[17]?.getD undef = (.int .i64 nx) := (slot_eval a 17).trans (hL.get_old hi (by kernel_rfl))
                    have hc := hL.cls
                    have eg : a.eval (.tmp 148) = .bool true := (id (hL.get_new (j := 1) hi (by kernel_rfl))).trans v1
                    refine step_wp_g rfl rfl rfl rfl eg (fun _ => ?_) (fun h => absurd rfl h)
                    clear ho hL
                    refine wp_val (v := (.int .i64 nx)) ?_ ⟨_, rfl, id v2.symm, hc, fun _ _ _ h => h⟩
                    clear hi hin hsz v0 v1 v2 v3 v4 v5 v6 v7 v8 v9 v10 v11 v12 v13 v14 v15 v16 v17 v18 v19 v20 v21 v22 v23 v24 v25 v26 v27 v28 v29 v30  hc
                    unfold execOp
                    go_simp
                  | 3, ho =>
                    obtain rfl := (Option.some.inj ho).symm
                    have e0 : a.tmps[19]?.getD undef = (.int .i64 nx) := (slot_eval a 19).trans (hL.get_old hi (by kernel_rfl))
                    have hc := hL.cls
                    have eg : a.eval (.tmp 148) = .bool true := (id (hL.get_new (j := 1) hi (by kernel_rfl))).trans v1
                    refine step_wp_g rfl rfl rfl rfl eg (fun _ => ?_) (fun h => absurd rfl h)
                    clear ho hL
                    refine wp_val (v := (.int .i64 nx)) ?_ ⟨_, rfl, id v3.symm, hc, fun _ _ _ h => h⟩
                    clear hi hin hsz v0 v1 v2 v3 v4 v5 v6 v7 v8 v9 v10 v11 v12 v13 v14 v15 v16 v17 v18 v19 v20 v21 v22 v23 v24 v25 v26 v27 v28 v29 v30  hc
                    unfold execOp
                    go_simp
                  | 4, ho =>
                    obtain rfl := (Option.some.inj ho).symm
                    have e0 : a.tmps[149]?.getD undef = (.int .i64 nx) := (slot_eval a 149).trans ((id (hL.get_new (j := 2) hi (by kernel_rfl))).trans v2)
                    have e1 : a.tmps[150]?.getD undef = (.int .i64 nx) := (slot_eval a 150).trans ((id (hL.get_new (j := 3) hi (by kernel_rfl))).trans v3)
                    have hc := hL.cls
                    have eg : a.eval (.tmp 148) = .bool true := (id (hL.get_new (j := 1) hi (by kernel_rfl))).trans v1
                    refine step_wp_g rfl rfl rfl rfl eg (fun _ => ?_) (fun h => absurd rfl h)
                    clear ho hL
                    refine wp_val (v := (.bool true)) ?_ ⟨_, rfl, id v4.symm, hc, fun _ _ _ h => h⟩
                    clear hi hin hsz v0 v1 v2 v3 v4 v5 v6 v7 v8 v9 v10 v11 v12 v13 v14 v15 v16 v17 v18 v19 v20 v21 v22 v23 v24 v25 v26 v27 v28 v29 v30  hc
                    unfold execOp
                    go_simp
                  | 5, ho =>
                    obtain rfl := (Option.some.inj ho).symm
                    have e0 : a.tmps[148]?.getD undef = (.bool true) := (slot_eval a 148).trans ((id (hL.get_new (j := 1) hi (by kernel_rfl))).trans v1)
                    have e1 : a.tmps[151]?.getD undef = (.bool true) := (slot_eval a 151).trans ((id (hL.get_new (j := 4) hi (by kernel_rfl))).trans v4)
                    have hc := hL.cls
                    refine step_wp rfl rfl ?_
                    clear ho hL
                    refine wp_val (v := (.bool true)) ?_ ⟨_, rfl, id v5.symm, hc, fun _ _ _ h => h⟩
                    clear hi hin hsz v0 v1 v2 v3 v4 v5 v6 v7 v8 v9 v10 v11 v12 v13 v14 v15 v16 v17 v18 v19 v20 v21 v22 v23 v24 v25 v26 v27 v28 v29 v30  hc
                    unfold execOp
                    go_simp
                  | 6, ho =>
                    obtain rfl := (Option.some.inj ho).symm
                    have e0 : a.tmps[152]?.getD undef = (.bool true) := (slot_eval a 152).trans ((id (hL.get_new (j := 5) hi (by kernel_rfl))).trans v5)
                    have hc := hL.cls
                    refine step_wp rfl rfl ?_
                    clear ho hL
                    refine wp_val (v := (.bool true)) ?_ ⟨_, rfl, id v6.symm, hc, fun _ _ _ h => h⟩
                    clear hi hin hsz v0 v1 v2 v3 v4 v5 v6 v7 v8 v9 v10 v11 v12 v13 v14 v15 v16 v17 v18 v19 v20 v21 v22 v23 v24 v25 v26 v27 v28 v29 v30  hc
                    unfold execOp
                    go_simp
                  | 7, ho =>
                    obtain rfl := (Option.some.inj ho).symm
                    have e0 : a.tmps[22]?.getD undef = (.int .i64 c) := (slot_eval a 22).trans (hL.get_old hi (by kernel_rfl))
                    have hc := hL.cls
                    have eg : a.eval (.tmp 153) = .bool true := (id (hL.get_new (j := 6) hi (by kernel_rfl))).trans v6
                    refine step_wp_g rfl rfl rfl rfl eg (fun _ => ?_) (fun h => absurd rfl h)
                    clear ho hL
                    refine wp_val (v := (.int .i64 c)) ?_ ⟨_, rfl, id v7.symm, hc, fun _ _ _ h => h⟩
                    clear hi hin hsz v0 v1 v2 v3 v4 v5 v6 v7 v8 v9 v10 v11 v12 v13 v14 v15 v16 v17 v18 v19 v20 v21 v22 v23 v24 v25 v26 v27 v28 v29 v30  hc
                    unfold execOp
                    go_simp
                  | 8, ho =>
                    obtain rfl := (Option.some.inj ho).symm
                    have e0 : a.tmps[154]?.getD undef = (.int .i64 c) := (slot_eval a 154).trans ((id (hL.get_new (j := 7) hi (by kernel_rfl))).trans v7)
                    have hc := hL.cls
                    have eg : a.eval (.tmp 153) = .bool true := (id (hL.get_new (j := 6) hi (by kernel_rfl))).trans v6
                    refine step_wp_g rfl rfl rfl rfl eg (fun _ => ?_) (fun h => absurd rfl h)
                    clear ho hL
                    refine wp_val (v := (.bool false)) ?_ ⟨_, rfl, id v8.symm, hc, fun _ _ _ h => h⟩
                    clear hi hin hsz v0 v1 v2 v3 v4 v5 v6 v7 v8 v9 v10 v11 v12 v13 v14 v15 v16 v17 v18 v19 v20 v21 v22 v23 v24 v25 v26 v27 v28 v29 v30  hc
                    unfold execOp
                    go_simp
                  | 9, ho =>
                    obtain rfl := (Option.some.inj ho).symm
                    have e0 : a.tmps[155]?.getD undef = (.bool false) := (slot_eval a 155).trans ((id (hL.get_new (j := 8) hi (by kernel_rfl))).trans v8)
                    have hc := hL.cls
                    have eg : a.eval (.tmp 153) = .bool true := (id (hL.get_new (j := 6) hi (by kernel_rfl))).trans v6
                    refine step_wp_g rfl rfl rfl rfl eg (fun _ => ?_) (fun h => absurd rfl h)
                    clear ho hL
                    refine wp_val (v := (.bool false)) ?_ ⟨_, rfl, id v9.symm, hc, fun _ _ _ h => h⟩
                    clear hi hin hsz v0 v1 v2 v3 v4 v5 v6 v7 v8 v9 v10 v11 v12 v13 v14 v15 v16 v17 v18 v19 v20 v21 v22 v23 v24 v25 v26 v27 v28 v29 v30  hc
                    unfold execOp
                    go_simp
                  | 10, ho =>
                    obtain rfl := (Option.some.inj ho).symm
                    have e0 : a.tmps[22]?.getD undef = (.int .i64 c) := (slot_eval a 22).trans (hL.get_old hi (by kernel_rfl))
                    have hc := hL.cls
                    have eg : a.eval (.tmp 156) = .bool false := (id (hL.get_new (j := 9) hi (by kernel_rfl))).trans v9
                    refine step_wp_g rfl rfl rfl rfl eg (fun _ => ?_) (fun h => absurd rfl h)
                    clear ho hL
                    refine wp_val (v := (.int .i64 c)) ?_ ⟨_, rfl, id v10.symm, hc, fun _ _ _ h => h⟩
                    clear hi hin hsz v0 v1 v2 v3 v4 v5 v6 v7 v8 v9 v10 v11 v12 v13 v14 v15 v16 v17 v18 v19 v20 v21 v22 v23 v24 v25 v26 v27 v28 v29 v30  hc
                    unfold execOp
                    go_simp
                  | 11, ho =>
                    obtain rfl := (Option.some.inj ho).symm
                    have e0 : a.tmps[157]?.getD undef = (.int .i64 c) := (slot_eval a 157).trans ((id (hL.get_new (j := 10) hi (by kernel_rfl))).trans v10)
                    have hc := hL.cls
                    have eg : a.eval (.tmp 156) = .bool false := (id (hL.get_new (j := 9) hi (by kernel_rfl))).trans v9
                    refine step_wp_g rfl rfl rfl rfl eg (fun _ => ?_) (fun h => absurd rfl h)
                    clear ho hL
                    refine wp_val (v := (.bool true)) ?_ ⟨_, rfl, id v11.symm, hc, fun _ _ _ h => h⟩
                    clear hi hin hsz v0 v1 v2 v3 v4 v5 v6 v7 v8 v9 v10 v11 v12 v13 v14 v15 v16 v17 v18 v19 v20 v21 v22 v23 v24 v25 v26 v27 v28 v29 v30  hc
                    unfold execOp
                    go_simp
                  | 12, ho =>
                    obtain rfl := (Option.some.inj ho).symm
                    have e0 : a.tmps[156]?.getD undef = (.bool false) := (slot_eval a 156).trans ((id (hL.get_new (j := 9) hi (by kernel_rfl))).trans v9)
                    have e1 : a.tmps[158]?.getD undef = (.bool true) := (slot_eval a 158).trans ((id (hL.get_new (j := 11) hi (by kernel_rfl))).trans v11)
                    have hc := hL.cls
                    have eg : a.eval (.tmp 153) = .bool true := (id (hL.get_new (j := 6) hi (by kernel_rfl))).trans v6
                    refine step_wp_g rfl rfl rfl rfl eg (fun _ => ?_) (fun h => absurd rfl h)
                    clear ho hL
                    refine wp_val (v := (.bool true)) ?_ ⟨_, rfl, id v12.symm, hc, fun _ _ _ h => h⟩
                    clear hi hin hsz v0 v1 v2 v3 v4 v5 v6 v7 v8 v9 v10 v11 v12 v13 v14 v15 v16 v17 v18 v19 v20 v21 v22 v23 v24 v25 v26 v27 v28 v29 v30  hc
                    unfold execOp
                    go_simp
                  | 13, ho =>
                    obtain rfl := (Option.some.inj ho).symm
                    have e0 : a.tmps[159]?.getD undef = (.bool true) := (slot_eval a 159).trans ((id (hL.get_new (j := 12) hi (by kernel_rfl))).trans v12)
                    have hc := hL.cls
                    have eg : a.eval (.tmp 153) = .bool true := (id (hL.get_new (j := 6) hi (by kernel_rfl))).trans v6
                    refine step_wp_g rfl rfl rfl rfl eg (fun _ => ?_) (fun h => absurd rfl h)
                    clear ho hL
                    refine wp_val (v := (.bool true)) ?_ ⟨_, rfl, id v13.symm, hc, fun _ _ _ h => h⟩
                    clear hi hin hsz v0 v1 v2 v3 v4 v5 v6 v7 v8 v9 v10 v11 v12 v13 v14 v15 v16 v17 v18 v19 v20 v21 v22 v23 v24 v25 v26 v27 v28 v29 v30  hc
                    unfold execOp
                    go_simp
                  | 14, ho =>
                    obtain rfl := (Option.some.inj ho).symm
                    have e0 : a.tmps[6]?.getD undef = (.string (B s)) := (slot_eval a 6).trans (hL.get_old hi (by kernel_rfl))
                    have hc := hL.cls
                    have eg : a.eval (.tmp 160) = .bool true := (id (hL.get_new (j := 13) hi (by kernel_rfl))).trans v13
                    refine step_wp_g rfl rfl rfl rfl eg (fun h => absurd h (by decide)) (fun _ => ⟨_, rfl, id v14.symm, hc, fun _ _ _ h => h⟩)
                  | 15, ho =>
                    obtain rfl := (Option.some.inj ho).symm
                    have e0 : a.tmps[20]?.getD undef = (.int .i64 kk) := (slot_eval a 20).trans (hL.get_old hi (by kernel_rfl))
                    have hc := hL.cls
                    have eg : a.eval (.tmp 160) = .bool true := (id (hL.get_new (j := 13) hi (by kernel_rfl))).trans v13
                    refine step_wp_g rfl rfl rfl rfl eg (fun h => absurd h (by decide)) (fun _ => ⟨_, rfl, id v15.symm, hc, fun _ _ _ h => h⟩)
                  | 16, ho =>
                    obtain rfl := (Option.some.inj ho).symm
                    have e0 : a.tmps[161]?.getD undef = undef := (slot_eval a 161).trans ((id (hL.get_new (j := 14) hi (by kernel_rfl))).trans v14)
                    have e1 : a.tmps[162]?.getD undef = undef := (slot_eval a 162).trans ((id (hL.get_new (j := 15) hi (by kernel_rfl))).trans v15)
                    have hc := hL.cls
                    have eg : a.eval (.tmp 160) = .bool true := (id (hL.get_new (j := 13) hi (by kernel_rfl))).trans v13
                    refine step_wp_g rfl rfl rfl rfl eg (fun h => absurd h (by decide)) (fun _ => ⟨_, rfl, id v16.symm, hc, fun _ _ _ h => h⟩)
                  | 17, ho =>
                    obtain rfl := (Option.some.inj ho).symm
                    have e0 : a.tmps[6]?.getD undef = (.string (B s)) := (slot_eval a 6).trans (hL.get_old hi (by kernel_rfl))
                    have hc := hL.cls
                    have eg : a.eval (.tmp 160) = .bool true := (id (hL.get_new (j := 13) hi (by kernel_rfl))).trans v13
                    refine step_wp_g rfl rfl rfl rfl eg (fun h => absurd h (by decide)) (fun _ => ⟨_, rfl, id v17.symm, hc, fun _ _ _ h => h⟩)
                  | 18, ho =>
                    obtain rfl := (Option.some.inj ho).symm
                    have e0 : a.tmps[20]?.getD undef = (.int .i64 kk) := (slot_eval a 20).trans (hL.get_old hi (by kernel_rfl))
                    have hc := hL.cls
                    have eg : a.eval (.tmp 160) = .bool true := (id (hL.get_new (j := 13) hi (by kernel_rfl))).trans v13
                    refine step_wp_g rfl rfl rfl rfl eg (fun h => absurd h (by decide)) (fun _ => ⟨_, rfl, id v18.symm, hc, fun _ _ _ h => h⟩)
                  | 19, ho =>
                    obtain rfl := (Option.some.inj ho).symm
                    have e0 : a.tmps[165]?.getD undef = undef := (slot_eval a 165).trans ((id (hL.get_new (j := 18) hi (by kernel_rfl))).trans v18)
                    have hc := hL.cls
                    have eg : a.eval (.tmp 160) = .bool true := (id (hL.get_new (j := 13) hi (by kernel_rfl))).trans v13
                    refine step_wp_g rfl rfl rfl rfl eg (fun h => absurd h (by decide)) (fun _ => ⟨_, rfl, id v19.symm, hc, fun _ _ _ h => h⟩)
                  | 20, ho =>
                    obtain rfl := (Option.some.inj ho).symm
                    have e0 : a.tmps[19]?.getD undef = (.int .i64 nx) := (slot_eval a 19).trans (hL.get_old hi (by kernel_rfl))
                    have hc := hL.cls
                    have eg : a.eval (.tmp 160) = .bool true := (id (hL.get_new (j := 13) hi (by kernel_rfl))).trans v13
                    refine step_wp_g rfl rfl rfl rfl eg (fun h => absurd h (by decide)) (fun _ => ⟨_, rfl, id v20.symm, hc, fun _ _ _ h => h⟩)
                  | 21, ho =>
                    obtain rfl := (Option.some.inj ho).symm
                    have e0 : a.tmps[164]?.getD undef = undef := (slot_eval a 164).trans ((id (hL.get_new (j := 17) hi (by kernel_rfl))).trans v17)
                    have e1 : a.tmps[166]?.getD undef = undef := (slot_eval a 166).trans ((id (hL.get_new (j := 19) hi (by kernel_rfl))).trans v19)
                    have e2 : a.tmps[167]?.getD undef = undef := (slot_eval a 167).trans ((id (hL.get_new (j := 20) hi (by kernel_rfl))).trans v20)
                    have hc := hL.cls
                    have eg : a.eval (.tmp 160) = .bool true := (id (hL.get_new (j := 13) hi (by kernel_rfl))).trans v13
                    refine step_wp_g rfl rfl rfl rfl eg (fun h => absurd h (by decide)) (fun _ => ⟨_, rfl, id v21.symm, hc, fun _ _ _ h => h⟩)
                  | 22, ho =>
                    obtain rfl := (Option.some.inj ho).symm
                    have e0 : a.tmps[163]?.getD undef = undef := (slot_eval a 163).trans ((id (hL.get_new (j := 16) hi (by kernel_rfl))).trans v16)
                    have e1 : a.tmps[168]?.getD undef = undef := (slot_eval a 168).trans ((id (hL.get_new (j := 21) hi (by kernel_rfl))).trans v21)
                    have hc := hL.cls
                    have eg : a.eval (.tmp 160) = .bool true := (id (hL.get_new (j := 13) hi (by kernel_rfl))).trans v13
                    refine step_wp_g rfl rfl rfl rfl eg (fun h => absurd h (by decide)) (fun _ => ⟨_, rfl, id v22.symm, hc, fun _ _ _ h => h⟩)
                  | 23, ho =>
                    obtain rfl := (Option.some.inj ho).symm
                    have e0 : a.tmps[6]?.getD undef = (.string (B s)) := (slot_eval a 6).trans (hL.get_old hi (by kernel_rfl))
                    have hc := hL.cls
                    have eg : a.eval (.tmp 160) = .bool true := (id (hL.get_new (j := 13) hi (by kernel_rfl))).trans v13
                    refine step_wp_g rfl rfl rfl rfl eg (fun h => absurd h (by decide)) (fun _ => ⟨_, rfl, id v23.symm, hc, fun _ _ _ h => h⟩)
                  | 24, ho =>
                    obtain rfl := (Option.some.inj ho).symm
                    have e0 : a.tmps[19]?.getD undef = (.int .i64 nx) := (slot_eval a 19).trans (hL.get_old hi (by kernel_rfl))
                    have hc := hL.cls
                    have eg : a.eval (.tmp 160) = .bool true := (id (hL.get_new (j := 13) hi (by kernel_rfl))).trans v13
                    refine step_wp_g rfl rfl rfl rfl eg (fun h => absurd h (by decide)) (fun _ => ⟨_, rfl, id v24.symm, hc, fun _ _ _ h => h⟩)
                  | 25, ho =>
                    obtain rfl := (Option.some.inj ho).symm
                    have e0 : a.tmps[170]?.getD undef = undef := (slot_eval a 170).trans ((id (hL.get_new (j := 23) hi (by kernel_rfl))).trans v23)
                    have e1 : a.tmps[171]?.getD undef = undef := (slot_eval a 171).trans ((id (hL.get_new (j := 24) hi (by kernel_rfl))).trans v24)
                    have hc := hL.cls
                    have eg : a.eval (.tmp 160) = .bool true := (id (hL.get_new (j := 13) hi (by kernel_rfl))).trans v13
                    refine step_wp_g rfl rfl rfl rfl eg (fun h => absurd h (by decide)) (fun _ => ⟨_, rfl, id v25.symm, hc, fun _ _ _ h => h⟩)
                  | 26, ho =>
                    obtain rfl := (Option.some.inj ho).symm
                    have e0 : a.tmps[6]?.getD undef = (.string (B s)) := (slot_eval a 6).trans (hL.get_old hi (by kernel_rfl))
                    have hc := hL.cls
                    have eg : a.eval (.tmp 160) = .bool true := (id (hL.get_new (j := 13) hi (by kernel_rfl))).trans v13
                    refine step_wp_g rfl rfl rfl rfl eg (fun h => absurd h (by decide)) (fun _ => ⟨_, rfl, id v26.symm, hc, fun _ _ _ h => h⟩)
                  | 27, ho =>
                    obtain rfl := (Option.some.inj ho).symm
                    have e0 : a.tmps[169]?.getD undef = undef := (slot_eval a 169).trans ((id (hL.get_new (j := 22) hi (by kernel_rfl))).trans v22)
                    have e1 : a.tmps[172]?.getD undef = undef := (slot_eval a 172).trans ((id (hL.get_new (j := 25) hi (by kernel_rfl))).trans v25)
                    have e2 : a.tmps[173]?.getD undef = undef := (slot_eval a 173).trans ((id (hL.get_new (j := 26) hi (by kernel_rfl))).trans v26)
                    have hc := hL.cls
                    have eg : a.eval (.tmp 160) = .bool true := (id (hL.get_new (j := 13) hi (by kernel_rfl))).trans v13
                    refine step_wp_g rfl rfl rfl rfl eg (fun h => absurd h (by decide)) (fun _ => ⟨_, rfl, id v27.symm, hc, fun _ _ _ h => h⟩)
                  | 28, ho =>
                    obtain rfl := (Option.some.inj ho).symm
                    have e0 : a.tmps[160]?.getD undef = (.bool true) := (slot_eval a 160).trans ((id (hL.get_new (j := 13) hi (by kernel_rfl))).trans v13)
                    have e1 : a.tmps[174]?.getD undef = undef := (slot_eval a 174).trans ((id (hL.get_new (j := 27) hi (by kernel_rfl))).trans v27)
                    have hc := hL.cls
                    have eg : a.eval (.tmp 153) = .bool true := (id (hL.get_new (j := 6) hi (by kernel_rfl))).trans v6
                    refine step_wp_g rfl rfl rfl rfl eg (fun _ => ?_) (fun h => absurd rfl h)
                    clear ho hL
                    refine wp_val (v := (.bool true)) ?_ ⟨_, rfl, id v28.symm, hc, fun _ _ _ h => h⟩
                    clear hi hin hsz v0 v1 v2 v3 v4 v5 v6 v7 v8 v9 v10 v11 v12 v13 v14 v15 v16 v17 v18 v19 v20 v21 v22 v23 v24 v25 v26 v27 v28 v29 v30  hc
                    unfold execOp
                    go_simp
                  | 29, ho =>
                    obtain rfl := (Option.some.inj ho).symm
                    have e0 : a.tmps[153]?.getD undef = (.bool true) := (slot_eval a 153).trans ((id (hL.get_new (j := 6) hi (by kernel_rfl))).trans v6)
                    have e1 : a.tmps[175]?.getD undef = (.bool true) := (slot_eval a 175).trans ((id (hL.get_new (j := 28) hi (by kernel_rfl))).trans v28)
                    have hc := hL.cls
                    refine step_wp rfl rfl ?_
                    clear ho hL
                    refine wp_val (v := (.bool true)) ?_ ⟨_, rfl, id v29.symm, hc, fun _ _ _ h => h⟩
                    clear hi hin hsz v0 v1 v2 v3 v4 v5 v6 v7 v8 v9 v10 v11 v12 v13 v14 v15 v16 v17 v18 v19 v20 v21 v22 v23 v24 v25 v26 v27 v28 v29 v30  hc
                    unfold execOp
                    go_simp
                  | 30, ho =>
                    obtain rfl := (Option.some.inj ho).symm
                    have e0 : a.tmps[176]?.getD undef = (.bool true) := (slot_eval a 176).trans ((id (hL.get_new (j := 29) hi (by kernel_rfl))).trans v29)
                    have hc := hL.cls
                    refine step_wp rfl rfl ?_
                    clear ho hL
                    refine wp_val (v := (.bool true)) ?_ ⟨_, rfl, id v30.symm, hc, fun _ _ _ h => h⟩
                    clear hi hin hsz v0 v1 v2 v3 v4 v5 v6 v7 v8 v9 v10 v11 v12 v13 v14 v15 v16 v17 v18 v19 v20 v21 v22 v23 v24 v25 v26 v27 v28 v29 v30  hc
                    unfold execOp
                    go_simp
                  | (n + 31), ho => exact absurd hin (by simp)
                · intro a w1 listed hL hall
                  have hc := hL.cls
                  obtain ⟨vs, rfl, hR⟩ := hL.frame (by kernel_rfl) (sizes_spec (n := 177) (by kernel_rfl)) hall
                  simp only [putAll, Act.put, List.setIfInBounds_toArray, List.set_cons_zero, List.set_cons_succ]
                  simp only [Nat.zero_add, Nat.reduceAdd]
                  have h4 : vs 30 = .bool true := (hR 30 _ 4 rfl rfl).trans v30
                  generalize vs 30 = vz at h4
                  subst h4
                  have bel25 := hc
                  clear hR hc hL
                  go_wp2
                  go_ret
                  exact ⟨rfl, bel25⟩
              · have cb2 : ((c : Int) == 2) = false := by simp; omega
                have hsh : shaOf (TKs ++ CT) = s.drop nx := by
                  rcases hcut with h | h | h
                  · exact absurd h hc2
                  · exact absurd h hc5
                  · exact h
                have hsb : (shaOf (TKs ++ CT) == s.drop nx) = true := by rw [hsh]; simp
                rw [hsb] at hcl
                have hcl := fun W => Lib.hid (hcl W)
                clear hsb hsh hcut hc5 hc2 bel24
                obtain ⟨V, hV⟩ : ∃ V : Nat → Value, V = fun i => [(.bool true), (.bool true), (.int .i64 nx), (.int .i64 nx), (.bool true), (.bool true), (.bool true), (.int .i64 c), (.bool false), (.bool false), (.int .i64 c), (.bool false), (.bool false), (.bool false), (.string (B s)), (.int .i64 kk), (.string (B TKs)), (.string (B s)), (.int .i64 kk), (.int .i64 ((kk : Int) + 1)), (.int .i64 nx), (.string (B CT)), (.string (B (TKs ++ CT))), (.string (B s)), (.int .i64 nx), (.string (B WH)), (.string (B s)), (.bool true), (.bool true), (.bool true), (.bool true)].getD i undef := ⟨_, rfl⟩
                have v0 : V 0 = (.bool true) := by rw [hV]; rfl
                have v1 : V 1 = (.bool true) := by rw [hV]; rfl
                have v2 : V 2 = (.int .i64 nx) := by rw [hV]; rfl
                have v3 : V 3 = (.int .i64 nx) := by rw [hV]; rfl
                have v4 : V 4 = (.bool true) := by rw [hV]; rfl
                have v5 : V 5 = (.bool true) := by rw [hV]; rfl
                have v6 : V 6 = (.bool true) := by rw [hV]; rfl
                have v7 : V 7 = (.int .i64 c) := by rw [hV]; rfl
                have v8 : V 8 = (.bool false) := by rw [hV]; rfl
                have v9 : V 9 = (.bool false) := by rw [hV]; rfl
                have v10 : V 10 = (.int .i64 c) := by rw [hV]; rfl
                have v11 : V 11 = (.bool false) := by rw [hV]; rfl
                have v12 : V 12 = (.bool false) := by rw [hV]; rfl
                have v13 : V 13 = (.bool false) := by rw [hV]; rfl
                have v14 : V 14 = (.string (B s)) := by rw [hV]; rfl
                have v15 : V 15 = (.int .i64 kk) := by rw [hV]; rfl
                have v16 : V 16 = (.string (B TKs)) := by rw [hV]; rfl
                have v17 : V 17 = (.string (B s)) := by rw [hV]; rfl
                have v18 : V 18 = (.int .i64 kk) := by rw [hV]; rfl
                have v19 : V 19 = (.int .i64 ((kk : Int) + 1)) := by rw [hV]; rfl
                have v20 : V 20 = (.int .i64 nx) := by rw [hV]; rfl
                have v21 : V 21 = (.string (B CT)) := by rw [hV]; rfl
                have v22 : V 22 = (.string (B (TKs ++ CT))) := by rw [hV]; rfl
                have v23 : V 23 = (.string (B s)) := by rw [hV]; rfl
                have v24 : V 24 = (.int .i64 nx) := by rw [hV]; rfl
                have v25 : V 25 = (.string (B WH)) := by rw [hV]; rfl
                have v26 : V 26 = (.string (B s)) := by rw [hV]; rfl
                have v27 : V 27 = (.bool true) := by rw [hV]; rfl
                have v28 : V 28 = (.bool true) := by rw [hV]; rfl
                have v29 : V 29 = (.bool true) := by rw [hV]; rfl
                have v30 : V 30 = (.bool true) := by rw [hV]; rfl
                clear hV
                refine wp_region_listed (C := fun _ W => Below w.heap.size w W) (R := fun i v _ => v = V i) (by kernel_rfl) (by kernel_rfl) (by kernel_rfl) ?_ hC1.drew ?_ ?_
                · exact sizes_spec (n := 177) (by kernel_rfl)
                · intro i o listed a w1 ho hi hL
                  have hin := (ready_spec hi).1
                  have hsz : listed.size = 31 := hL.size
                  match i, ho with
                  | 0, ho =>
                    obtain rfl := (Option.some.inj ho).symm
                    have hc := hL.cls
                    refine step_wp rfl rfl ?_
                    clear hi ho hL hin
                    refine call_step rfl (vals := #[]) (by simp) (by go_simp) (hkn w1 hc).out ?_
                    rintro e w2 ⟨rfl, hb2⟩
                    exact ⟨_, rfl, _, rfl, v0.symm, bthen hc hc.size hb2, fun _ _ _ h => h⟩
                  | 1, ho =>
                    obtain rfl := (Option.some.inj ho).symm
                    have e0 : a.tmps[147]?.getD undef = (.bool true) := (slot_eval a 147).trans ((id (hL.get_new (j := 0) hi (by kernel_rfl))).trans v0)
                    have hc := hL.cls
                    refine step_wp rfl rfl ?_
                    clear ho hL
                    refine wp_val (v := (.bool true)) ?_ ⟨_, rfl, id v1.symm, hc, fun _ _ _ h => h⟩
                    clear hi hin hsz v0 v1 v2 v3 v4 v5 v6 v7 v8 v9 v10 v11 v12 v13 v14 v15 v16 v17 v18 v19 v20 v21 v22 v23 v24 v25 v26 v27 v28 v29 v30  hc
                    unfold execOp
                    go_simp
                  | 2, ho =>
                    obtain rfl := (Option.some.inj ho).symm
                    have e0 : a.tmps[17]?.getD undef = (.int .i64 nx) := (slot_eval a 17).trans (hL.get_old hi (by kernel_rfl))
                    have hc := hL.cls
                    have eg : a.eval (.tmp 148) = .bool true := (id (hL.get_new (j := 1) hi (by kernel_rfl))).trans v1
                    refine step_wp_g rfl rfl rfl rfl eg (fun _ => ?_) (fun h => absurd rfl h)
                    clear ho hL
                    refine wp_val (v := (.int .i64 nx)) ?_ ⟨_, rfl, id v2.symm, hc, fun _ _ _ h => h⟩
                    clear hi hin hsz v0 v1 v2 v3 v4 v5 v6 v7 v8 v9 v10 v11 v12 v13 v14 v15 v16 v17 v18 v19 v20 v21 v22 v23 v24 v25 v26 v27 v28 v29 v30  hc
                    unfold execOp
                    go_simp
                  | 3, ho =>
                    obtain rfl := (Option.some.inj ho).symm
                    have e0 : a.tmps[19]?.getD undef = (.int .i64 nx) := (slot_eval a 19).trans (hL.get_old hi (by kernel_rfl))
                    have hc := hL.cls
                    have eg : a.eval (.tmp 148) = .bool true := (id (hL.get_new (j := 1) hi (by kernel_rfl))).trans v1
                    refine step_wp_g rfl rfl rfl rfl eg (fun _ => ?_) (fun h => absurd rfl h)
                    clear ho hL
                    refine wp_val (v := (.int .i64 nx)) ?_ ⟨_, rfl, id v3.symm, hc, fun _ _ _ h => h⟩
                    clear hi hin hsz v0 v1 v2 v3 v4 v5 v6 v7 v8 v9 v10 v11 v12 v13 v14 v15 v16 v17 v18 v19 v20 v21 v22 v23 v24 v25 v26 v27 v28 v29 v30  hc
                    unfold execOp
                    go_simp
                  | 4, ho =>
                    obtain rfl := (Option.some.inj ho).symm
                    have e0 : a.tmps[149]?.getD undef = (.int .i64 nx) := (slot_eval a 149).trans ((id (hL.get_new (j := 2) hi (by kernel_rfl))).trans v2)
                    have e1 : a.tmps[150]?.getD undef = (.int .i64 nx) := (slot_eval a 150).trans ((id (hL.get_new (j := 3) hi (by kernel_rfl))).trans v3)
                    have hc := hL.cls
                    have eg : a.eval (.tmp 148) = .bool true := (id (hL.get_new (j := 1) hi (by kernel_rfl))).trans v1
                    refine step_wp_g rfl rfl rfl rfl eg (fun _ => ?_) (fun h => absurd rfl h)
                    clear ho hL
                    refine wp_val (v := (.bool true)) ?_ ⟨_, rfl, id v4.symm, hc, fun _ _ _ h => h⟩
                    clear hi hin hsz v0 v1 v2 v3 v4 v5 v6 v7 v8 v9 v10 v11 v12 v13 v14 v15 v16 v17 v18 v19 v20 v21 v22 v23 v24 v25 v26 v27 v28 v29 v30  hc
                    unfold execOp
                    go_simp
                  | 5, ho =>
                    obtain rfl := (Option.some.inj ho).symm
                    have e0 : a.tmps[148]?.getD undef = (.bool true) := (slot_eval a 148).trans ((id (hL.get_new (j := 1) hi (by kernel_rfl))).trans v1)
                    have e1 : a.tmps[151]?.getD undef = (.bool true) := (slot_eval a 151).trans ((id (hL.get_new (j := 4) hi (by kernel_rfl))).trans v4)
                    have hc := hL.cls
                    refine step_wp rfl rfl ?_
                    clear ho hL
                    refine wp_val (v := (.bool true)) ?_ ⟨_, rfl, id v5.symm, hc, fun _ _ _ h => h⟩
                    clear hi hin hsz v0 v1 v2 v3 v4 v5 v6 v7 v8 v9 v10 v11 v12 v13 v14 v15 v16 v17 v18 v19 v20 v21 v22 v23 v24 v25 v26 v27 v28 v29 v30  hc
                    unfold execOp
                    go_simp
                  | 6, ho =>
                    obtain rfl := (Option.some.inj ho).symm
                    have e0 : a.tmps[152]?.getD undef = (.bool true) := (slot_eval a 152).trans ((id (hL.get_new (j := 5) hi (by kernel_rfl))).trans v5)
                    have hc := hL.cls
                    refine step_wp rfl rfl ?_
                    clear ho hL
                    refine wp_val (v := (.bool true)) ?_ ⟨_, rfl, id v6.symm, hc, fun _ _ _ h => h⟩
                    clear hi hin hsz v0 v1 v2 v3 v4 v5 v6 v7 v8 v9 v10 v11 v12 v13 v14 v15 v16 v17 v18 v19 v20 v21 v22 v23 v24 v25 v26 v27 v28 v29 v30  hc
                    unfold execOp
                    go_simp
                  | 7, ho =>
                    obtain rfl := (Option.some.inj ho).symm
                    have e0 : a.tmps[22]?.getD undef = (.int .i64 c) := (slot_eval a 22).trans (hL.get_old hi (by kernel_rfl))
                    have hc := hL.cls
                    have eg : a.eval (.tmp 153) = .bool true := (id (hL.get_new (j := 6) hi (by kernel_rfl))).trans v6
                    refine step_wp_g rfl rfl rfl rfl eg (fun _ => ?_) (fun h => absurd rfl h)
                    clear ho hL
                    refine wp_val (v := (.int .i64 c)) ?_ ⟨_, rfl, id v7.symm, hc, fun _ _ _ h => h⟩
                    clear hi hin hsz v0 v1 v2 v3 v4 v5 v6 v7 v8 v9 v10 v11 v12 v13 v14 v15 v16 v17 v18 v19 v20 v21 v22 v23 v24 v25 v26 v27 v28 v29 v30  hc
                    unfold execOp
                    go_simp
                  | 8, ho =>
                    obtain rfl := (Option.some.inj ho).symm
                    have e0 : a.tmps[154]?.getD undef = (.int .i64 c) := (slot_eval a 154).trans ((id (hL.get_new (j := 7) hi (by kernel_rfl))).trans v7)
                    have hc := hL.cls
                    have eg : a.eval (.tmp 153) = .bool true := (id (hL.get_new (j := 6) hi (by kernel_rfl))).trans v6
                    refine step_wp_g rfl rfl rfl rfl eg (fun _ => ?_) (fun h => absurd rfl h)
                    clear ho hL
                    refine wp_val (v := (.bool false)) ?_ ⟨_, rfl, id v8.symm, hc, fun _ _ _ h => h⟩
                    clear hi hin hsz v0 v1 v2 v3 v4 v5 v6 v7 v8 v9 v10 v11 v12 v13 v14 v15 v16 v17 v18 v19 v20 v21 v22 v23 v24 v25 v26 v27 v28 v29 v30  hc
                    unfold execOp
                    go_simp
                  | 9, ho =>
                    obtain rfl := (Option.some.inj ho).symm
                    have e0 : a.tmps[155]?.getD undef = (.bool false) := (slot_eval a 155).trans ((id (hL.get_new (j := 8) hi (by kernel_rfl))).trans v8)
                    have hc := hL.cls
                    have eg : a.eval (.tmp 153) = .bool true := (id (hL.get_new (j := 6) hi (by kernel_rfl))).trans v6
                    refine step_wp_g rfl rfl rfl rfl eg (fun _ => ?_) (fun h => absurd rfl h)
                    clear ho hL
                    refine wp_val (v := (.bool false)) ?_ ⟨_, rfl, id v9.symm, hc, fun _ _ _ h => h⟩
                    clear hi hin hsz v0 v1 v2 v3 v4 v5 v6 v7 v8 v9 v10 v11 v12 v13 v14 v15 v16 v17 v18 v19 v20 v21 v22 v23 v24 v25 v26 v27 v28 v29 v30  hc
                    unfold execOp
                    go_simp
                  | 10, ho =>
                    obtain rfl := (Option.some.inj ho).symm
                    have e0 : a.tmps[22]?.getD undef = (.int .i64 c) := (slot_eval a 22).trans (hL.get_old hi (by kernel_rfl))
                    have hc := hL.cls
                    have eg : a.eval (.tmp 156) = .bool false := (id (hL.get_new (j := 9) hi (by kernel_rfl))).trans v9
                    refine step_wp_g rfl rfl rfl rfl eg (fun _ => ?_) (fun h => absurd rfl h)
                    clear ho hL
                    refine wp_val (v := (.int .i64 c)) ?_ ⟨_, rfl, id v10.symm, hc, fun _ _ _ h => h⟩
                    clear hi hin hsz v0 v1 v2 v3 v4 v5 v6 v7 v8 v9 v10 v11 v12 v13 v14 v15 v16 v17 v18 v19 v20 v21 v22 v23 v24 v25 v26 v27 v28 v29 v30  hc
                    unfold execOp
                    go_simp
                  | 11, ho =>
                    obtain rfl := (Option.some.inj ho).symm
                    have e0 : a.tmps[157]?.getD undef = (.int .i64 c) := (slot_eval a 157).trans ((id (hL.get_new (j := 10) hi (by kernel_rfl))).trans v10)
                    have hc := hL.cls
                    have eg : a.eval (.tmp 156) = .bool false := (id (hL.get_new (j := 9) hi (by kernel_rfl))).trans v9
                    refine step_wp_g rfl rfl rfl rfl eg (fun _ => ?_) (fun h => absurd rfl h)
                    clear ho hL
                    refine wp_val (v := (.bool false)) ?_ ⟨_, rfl, id v11.symm, hc, fun _ _ _ h => h⟩
                    clear hi hin hsz v0 v1 v2 v3 v4 v5 v6 v7 v8 v9 v10 v11 v12 v13 v14 v15 v16 v17 v18 v19 v20 v21 v22 v23 v24 v25 v26 v27 v28 v29 v30  hc
                    unfold execOp
                    go_simp
                  | 12, ho =>
                    obtain rfl := (Option.some.inj ho).symm
                    have e0 : a.tmps[156]?.getD undef = (.bool false) := (slot_eval a 156).trans ((id (hL.get_new (j := 9) hi (by kernel_rfl))).trans v9)
                    have e1 : a.tmps[158]?.getD undef = (.bool false) := (slot_eval a 158).trans ((id (hL.get_new (j := 11) hi (by kernel_rfl))).trans v11)
                    have hc := hL.cls
                    have eg : a.eval (.tmp 153) = .bool true := (id (hL.get_new (j := 6) hi (by kernel_rfl))).trans v6
                    refine step_wp_g rfl rfl rfl rfl eg (fun _ => ?_) (fun h => absurd rfl h)
                    clear ho hL
                    refine wp_val (v := (.bool false)) ?_ ⟨_, rfl, id v12.symm, hc, fun _ _ _ h => h⟩
                    clear hi hin hsz v0 v1 v2 v3 v4 v5 v6 v7 v8 v9 v10 v11 v12 v13 v14 v15 v16 v17 v18 v19 v20 v21 v22 v23 v24 v25 v26 v27 v28 v29 v30  hc
                    unfold execOp
                    go_simp
                  | 13, ho =>
                    obtain rfl := (Option.some.inj ho).symm
                    have e0 : a.tmps[159]?.getD undef = (.bool false) := (slot_eval a 159).trans ((id (hL.get_new (j := 12) hi (by kernel_rfl))).trans v12)
                    have hc := hL.cls
                    have eg : a.eval (.tmp 153) = .bool true := (id (hL.get_new (j := 6) hi (by kernel_rfl))).trans v6
                    refine step_wp_g rfl rfl rfl rfl eg (fun _ => ?_) (fun h => absurd rfl h)
                    clear ho hL
                    refine wp_val (v := (.bool false)) ?_ ⟨_, rfl, id v13.symm, hc, fun _ _ _ h => h⟩
                    clear hi hin hsz v0 v1 v2 v3 v4 v5 v6 v7 v8 v9 v10 v11 v12 v13 v14 v15 v16 v17 v18 v19 v20 v21 v22 v23 v24 v25 v26 v27 v28 v29 v30  hc
                    unfold execOp
                    go_simp
                  | 14, ho =>
                    obtain rfl := (Option.some.inj ho).symm
                    have e0 : a.tmps[6]?.getD undef = (.string (B s)) := (slot_eval a 6).trans (hL.get_old hi (by kernel_rfl))
                    have hc := hL.cls
                    have eg : a.eval (.tmp 160) = .bool false := (id (hL.get_new (j := 13) hi (by kernel_rfl))).trans v13
                    refine step_wp_g rfl rfl rfl rfl eg (fun _ => ?_) (fun h => absurd rfl h)
                    clear ho hL
                    refine wp_val (v := (.string (B s))) ?_ ⟨_, rfl, id v14.symm, hc, fun _ _ _ h => h⟩
                    clear hi hin hsz v0 v1 v2 v3 v4 v5 v6 v7 v8 v9 v10 v11 v12 v13 v14 v15 v16 v17 v18 v19 v20 v21 v22 v23 v24 v25 v26 v27 v28 v29 v30  hc
                    unfold execOp
                    go_simp
                  | 15, ho =>
                    obtain rfl := (Option.some.inj ho).symm
                    have e0 : a.tmps[20]?.getD undef = (.int .i64 kk) := (slot_eval a 20).trans (hL.get_old hi (by kernel_rfl))
                    have hc := hL.cls
                    have eg : a.eval (.tmp 160) = .bool false := (id (hL.get_new (j := 13) hi (by kernel_rfl))).trans v13
                    refine step_wp_g rfl rfl rfl rfl eg (fun _ => ?_) (fun h => absurd rfl h)
                    clear ho hL
                    refine wp_val (v := (.int .i64 kk)) ?_ ⟨_, rfl, id v15.symm, hc, fun _ _ _ h => h⟩
                    clear hi hin hsz v0 v1 v2 v3 v4 v5 v6 v7 v8 v9 v10 v11 v12 v13 v14 v15 v16 v17 v18 v19 v20 v21 v22 v23 v24 v25 v26 v27 v28 v29 v30  hc
                    unfold execOp
                    go_simp
                  | 16, ho =>
                    obtain rfl := (Option.some.inj ho).symm
                    have e0 : a.tmps[161]?.getD undef = (.string (B s)) := (slot_eval a 161).trans ((id (hL.get_new (j := 14) hi (by kernel_rfl))).trans v14)
                    have e1 : a.tmps[162]?.getD undef = (.int .i64 kk) := (slot_eval a 162).trans ((id (hL.get_new (j := 15) hi (by kernel_rfl))).trans v15)
                    have hc := hL.cls
                    have eg : a.eval (.tmp 160) = .bool false := (id (hL.get_new (j := 13) hi (by kernel_rfl))).trans v13
                    refine step_wp_g rfl rfl rfl rfl eg (fun _ => ?_) (fun h => absurd rfl h)
                    clear ho hL
                    refine wp_val (v := (.string (B TKs))) ?_ ⟨_, rfl, id v16.symm, hc, fun _ _ _ h => h⟩
                    have q := x1
                    clear hi hin hsz v0 v1 v2 v3 v4 v5 v6 v7 v8 v9 v10 v11 v12 v13 v14 v15 v16 v17 v18 v19 v20 v21 v22 v23 v24 v25 v26 v27 v28 v29 v30  hc
                    unfold execOp
                    go_simp
                  | 17, ho =>
                    obtain rfl := (Option.some.inj ho).symm
                    have e0 : a.tmps[6]?.getD undef = (.string (B s)) := (slot_eval a 6).trans (hL.get_old hi (by kernel_rfl))
                    have hc := hL.cls
                    have eg : a.eval (.tmp 160) = .bool false := (id (hL.get_new (j := 13) hi (by kernel_rfl))).trans v13
                    refine step_wp_g rfl rfl rfl rfl eg (fun _ => ?_) (fun h => absurd rfl h)
                    clear ho hL
                    refine wp_val (v := (.string (B s))) ?_ ⟨_, rfl, id v17.symm, hc, fun _ _ _ h => h⟩
                    clear hi hin hsz v0 v1 v2 v3 v4 v5 v6 v7 v8 v9 v10 v11 v12 v13 v14 v15 v16 v17 v18 v19 v20 v21 v22 v23 v24 v25 v26 v27 v28 v29 v30  hc
                    unfold execOp
                    go_simp
                  | 18, ho =>
                    obtain rfl := (Option.some.inj ho).symm
                    have e0 : a.tmps[20]?.getD undef = (.int .i64 kk) := (slot_eval a 20).trans (hL.get_old hi (by kernel_rfl))
                    have hc := hL.cls
                    have eg : a.eval (.tmp 160) = .bool false := (id (hL.get_new (j := 13) hi (by kernel_rfl))).trans v13
                    refine step_wp_g rfl rfl rfl rfl eg (fun _ => ?_) (fun h => absurd rfl h)
                    clear ho hL
                    refine wp_val (v := (.int .i64 kk)) ?_ ⟨_, rfl, id v18.symm, hc, fun _ _ _ h => h⟩
                    clear hi hin hsz v0 v1 v2 v3 v4 v5 v6 v7 v8 v9 v10 v11 v12 v13 v14 v15 v16 v17 v18 v19 v20 v21 v22 v23 v24 v25 v26 v27 v28 v29 v30  hc
                    unfold execOp
                    go_simp
                  | 19, ho =>
                    obtain rfl := (Option.some.inj ho).symm
                    have e0 : a.tmps[165]?.getD undef = (.int .i64 kk) := (slot_eval a 165).trans ((id (hL.get_new (j := 18) hi (by kernel_rfl))).trans v18)
                    have hc := hL.cls
                    have eg : a.eval (.tmp 160) = .bool false := (id (hL.get_new (j := 13) hi (by kernel_rfl))).trans v13
                    refine step_wp_g rfl rfl rfl rfl eg (fun _ => ?_) (fun h => absurd rfl h)
                    clear ho hL
                    refine wp_val (v := (.int .i64 ((kk : Int) + 1))) ?_ ⟨_, rfl, id v19.symm, hc, fun _ _ _ h => h⟩
                    clear hi hin hsz v0 v1 v2 v3 v4 v5 v6 v7 v8 v9 v10 v11 v12 v13 v14 v15 v16 v17 v18 v19 v20 v21 v22 v23 v24 v25 v26 v27 v28 v29 v30  hc
                    unfold execOp
                    go_simp
                  | 20, ho =>
                    obtain rfl := (Option.some.inj ho).symm
                    have e0 : a.tmps[19]?.getD undef = (.int .i64 nx) := (slot_eval a 19).trans (hL.get_old hi (by kernel_rfl))
                    have hc := hL.cls
                    have eg : a.eval (.tmp 160) = .bool false := (id (hL.get_new (j := 13) hi (by kernel_rfl))).trans v13
                    refine step_wp_g rfl rfl rfl rfl eg (fun _ => ?_) (fun h => absurd rfl h)
                    clear ho hL
                    refine wp_val (v := (.int .i64 nx)) ?_ ⟨_, rfl, id v20.symm, hc, fun _ _ _ h => h⟩
                    clear hi hin hsz v0 v1 v2 v3 v4 v5 v6 v7 v8 v9 v10 v11 v12 v13 v14 v15 v16 v17 v18 v19 v20 v21 v22 v23 v24 v25 v26 v27 v28 v29 v30  hc
                    unfold execOp
                    go_simp
                  | 21, ho =>
                    obtain rfl := (Option.some.inj ho).symm
                    have e0 : a.tmps[164]?.getD undef = (.string (B s)) := (slot_eval a 164).trans ((id (hL.get_new (j := 17) hi (by kernel_rfl))).trans v17)
                    have e1 : a.tmps[166]?.getD undef = (.int .i64 ((kk : Int) + 1)) := (slot_eval a 166).trans ((id (hL.get_new (j := 19) hi (by kernel_rfl))).trans v19)
                    have e2 : a.tmps[167]?.getD undef = (.int .i64 nx) := (slot_eval a 167).trans ((id (hL.get_new (j := 20) hi (by kernel_rfl))).trans v20)
                    have hc := hL.cls
                    have eg : a.eval (.tmp 160) = .bool false := (id (hL.get_new (j := 13) hi (by kernel_rfl))).trans v13
                    refine step_wp_g rfl rfl rfl rfl eg (fun _ => ?_) (fun h => absurd rfl h)
                    clear ho hL
                    refine wp_val (v := (.string (B CT))) ?_ ⟨_, rfl, id v21.symm, hc, fun _ _ _ h => h⟩
                    have q := x3
                    clear hi hin hsz v0 v1 v2 v3 v4 v5 v6 v7 v8 v9 v10 v11 v12 v13 v14 v15 v16 v17 v18 v19 v20 v21 v22 v23 v24 v25 v26 v27 v28 v29 v30  hc
                    unfold execOp
                    go_simp
                    intro hneg
                    exfalso
                    omega
                  | 22, ho =>
                    obtain rfl := (Option.some.inj ho).symm
                    have e0 : a.tmps[163]?.getD undef = (.string (B TKs)) := (slot_eval a 163).trans ((id (hL.get_new (j := 16) hi (by kernel_rfl))).trans v16)
                    have e1 : a.tmps[168]?.getD undef = (.string (B CT)) := (slot_eval a 168).trans ((id (hL.get_new (j := 21) hi (by kernel_rfl))).trans v21)
                    have hc := hL.cls
                    have eg : a.eval (.tmp 160) = .bool false := (id (hL.get_new (j := 13) hi (by kernel_rfl))).trans v13
                    refine step_wp_g rfl rfl rfl rfl eg (fun _ => ?_) (fun h => absurd rfl h)
                    clear ho hL
                    refine wp_val (v := (.string (B (TKs ++ CT)))) ?_ ⟨_, rfl, id v22.symm, hc, fun _ _ _ h => h⟩
                    clear hi hin hsz v0 v1 v2 v3 v4 v5 v6 v7 v8 v9 v10 v11 v12 v13 v14 v15 v16 v17 v18 v19 v20 v21 v22 v23 v24 v25 v26 v27 v28 v29 v30  hc
                    unfold execOp
                    go_simp
                    omega
                  | 23, ho =>
                    obtain rfl := (Option.some.inj ho).symm
                    have e0 : a.tmps[6]?.getD undef = (.string (B s)) := (slot_eval a 6).trans (hL.get_old hi (by kernel_rfl))
                    have hc := hL.cls
                    have eg : a.eval (.tmp 160) = .bool false := (id (hL.get_new (j := 13) hi (by kernel_rfl))).trans v13
                    refine step_wp_g rfl rfl rfl rfl eg (fun _ => ?_) (fun h => absurd rfl h)
                    clear ho hL
                    refine wp_val (v := (.string (B s))) ?_ ⟨_, rfl, id v23.symm, hc, fun _ _ _ h => h⟩
                    clear hi hin hsz v0 v1 v2 v3 v4 v5 v6 v7 v8 v9 v10 v11 v12 v13 v14 v15 v16 v17 v18 v19 v20 v21 v22 v23 v24 v25 v26 v27 v28 v29 v30  hc
                    unfold execOp
                    go_simp
                  | 24, ho =>
                    obtain rfl := (Option.some.inj ho).symm
                    have e0 : a.tmps[19]?.getD undef = (.int .i64 nx) := (slot_eval a 19).trans (hL.get_old hi (by kernel_rfl))
                    have hc := hL.cls
                    have eg : a.eval (.tmp 160) = .bool false := (id (hL.get_new (j := 13) hi (by kernel_rfl))).trans v13
                    refine step_wp_g rfl rfl rfl rfl eg (fun _ => ?_) (fun h => absurd rfl h)
                    clear ho hL
                    refine wp_val (v := (.int .i64 nx)) ?_ ⟨_, rfl, id v24.symm, hc, fun _ _ _ h => h⟩
                    clear hi hin hsz v0 v1 v2 v3 v4 v5 v6 v7 v8 v9 v10 v11 v12 v13 v14 v15 v16 v17 v18 v19 v20 v21 v22 v23 v24 v25 v26 v27 v28 v29 v30  hc
                    unfold execOp
                    go_simp
                  | 25, ho =>
                    obtain rfl := (Option.some.inj ho).symm
                    have e0 : a.tmps[170]?.getD undef = (.string (B s)) := (slot_eval a 170).trans ((id (hL.get_new (j := 23) hi (by kernel_rfl))).trans v23)
                    have e1 : a.tmps[171]?.getD undef = (.int .i64 nx) := (slot_eval a 171).trans ((id (hL.get_new (j := 24) hi (by kernel_rfl))).trans v24)
                    have hc := hL.cls
                    have eg : a.eval (.tmp 160) = .bool false := (id (hL.get_new (j := 13) hi (by kernel_rfl))).trans v13
                    refine step_wp_g rfl rfl rfl rfl eg (fun _ => ?_) (fun h => absurd rfl h)
                    clear ho hL
                    refine wp_val (v := (.string (B WH))) ?_ ⟨_, rfl, id v25.symm, hc, fun _ _ _ h => h⟩
                    have q := x4
                    clear hi hin hsz v0 v1 v2 v3 v4 v5 v6 v7 v8 v9 v10 v11 v12 v13 v14 v15 v16 v17 v18 v19 v20 v21 v22 v23 v24 v25 v26 v27 v28 v29 v30  hc
                    unfold execOp
                    go_simp
                  | 26, ho =>
                    obtain rfl := (Option.some.inj ho).symm
                    have e0 : a.tmps[6]?.getD undef = (.string (B s)) := (slot_eval a 6).trans (hL.get_old hi (by kernel_rfl))
                    have hc := hL.cls
                    have eg : a.eval (.tmp 160) = .bool false := (id (hL.get_new (j := 13) hi (by kernel_rfl))).trans v13
                    refine step_wp_g rfl rfl rfl rfl eg (fun _ => ?_) (fun h => absurd rfl h)
                    clear ho hL
                    refine wp_val (v := (.string (B s))) ?_ ⟨_, rfl, id v26.symm, hc, fun _ _ _ h => h⟩
                    clear hi hin hsz v0 v1 v2 v3 v4 v5 v6 v7 v8 v9 v10 v11 v12 v13 v14 v15 v16 v17 v18 v19 v20 v21 v22 v23 v24 v25 v26 v27 v28 v29 v30  hc
                    unfold execOp
                    go_simp
                  | 27, ho =>
                    obtain rfl := (Option.some.inj ho).symm
                    have e0 : a.tmps[169]?.getD undef = (.string (B (TKs ++ CT))) := (slot_eval a 169).trans ((id (hL.get_new (j := 22) hi (by kernel_rfl))).trans v22)
                    have e1 : a.tmps[172]?.getD undef = (.string (B WH)) := (slot_eval a 172).trans ((id (hL.get_new (j := 25) hi (by kernel_rfl))).trans v25)
                    have e2 : a.tmps[173]?.getD undef = (.string (B s)) := (slot_eval a 173).trans ((id (hL.get_new (j := 26) hi (by kernel_rfl))).trans v26)
                    have hc := hL.cls
                    have eg : a.eval (.tmp 160) = .bool false := (id (hL.get_new (j := 13) hi (by kernel_rfl))).trans v13
                    refine step_wp_g rfl rfl rfl rfl eg (fun _ => ?_) (fun h => absurd rfl h)
                    clear ho hL
                    refine call_step rfl (vals := #[.string (B (TKs ++ CT)), .string (B WH), .string (B s)]) (map3 (slot_is e0) (slot_is e1) (slot_is e2)) (by go_simp) (hcl w1).out ?_
                    rintro e w2 ⟨rfl, hb2⟩
                    exact ⟨_, rfl, _, rfl, v27.symm, bthen hc hc.size hb2, fun _ _ _ h => h⟩
                  | 28, ho =>
                    obtain rfl := (Option.some.inj ho).symm
                    have e0 : a.tmps[160]?.getD undef = (.bool false) := (slot_eval a 160).trans ((id (hL.get_new (j := 13) hi (by kernel_rfl))).trans v13)
                    have e1 : a.tmps[174]?.getD undef = (.bool true) := (slot_eval a 174).trans ((id (hL.get_new (j := 27) hi (by kernel_rfl))).trans v27)
                    have hc := hL.cls
                    have eg : a.eval (.tmp 153) = .bool true := (id (hL.get_new (j := 6) hi (by kernel_rfl))).trans v6
                    refine step_wp_g rfl rfl rfl rfl eg (fun _ => ?_) (fun h => absurd rfl h)
                    clear ho hL
                    refine wp_val (v := (.bool true)) ?_ ⟨_, rfl, id v28.symm, hc, fun _ _ _ h => h⟩
                    clear hi hin hsz v0 v1 v2 v3 v4 v5 v6 v7 v8 v9 v10 v11 v12 v13 v14 v15 v16 v17 v18 v19 v20 v21 v22 v23 v24 v25 v26 v27 v28 v29 v30  hc
                    unfold execOp
                    go_simp
                  | 29, ho =>
                    obtain rfl := (Option.some.inj ho).symm
                    have e0 : a.tmps[153]?.getD undef = (.bool true) := (slot_eval a 153).trans ((id (hL.get_new (j := 6) hi (by kernel_rfl))).trans v6)
                    have e1 : a.tmps[175]?.getD undef = (.bool true) := (slot_eval a 175).trans ((id (hL.get_new (j := 28) hi (by kernel_rfl))).trans v28)
                    have hc := hL.cls
                    refine step_wp rfl rfl ?_
                    clear ho hL
                    refine wp_val (v := (.bool true)) ?_ ⟨_, rfl, id v29.symm, hc, fun _ _ _ h => h⟩
                    clear hi hin hsz v0 v1 v2 v3 v4 v5 v6 v7 v8 v9 v10 v11 v12 v13 v14 v15 v16 v17 v18 v19 v20 v21 v22 v23 v24 v25 v26 v27 v28 v29 v30  hc
                    unfold execOp
                    go_simp
                  | 30, ho =>
                    obtain rfl := (Option.some.inj ho).symm
                    have e0 : a.tmps[176]?.getD undef = (.bool true) := (slot_eval a 176).trans ((id (hL.get_new (j := 29) hi (by kernel_rfl))).trans v29)
                    have hc := hL.cls
                    refine step_wp rfl rfl ?_
                    clear ho hL
                    refine wp_val (v := (.bool true)) ?_ ⟨_, rfl, id v30.symm, hc, fun _ _ _ h => h⟩
                    clear hi hin hsz v0 v1 v2 v3 v4 v5 v6 v7 v8 v9 v10 v11 v12 v13 v14 v15 v16 v17 v18 v19 v20 v21 v22 v23 v24 v25 v26 v27 v28 v29 v30  hc
                    unfold execOp
                    go_simp
                  | (n + 31), ho => exact absurd hin (by simp)
                · intro a w1 listed hL hall
                  have hc := hL.cls
                  obtain ⟨vs, rfl, hR⟩ := hL.frame (by kernel_rfl) (sizes_spec (n := 177) (by kernel_rfl)) hall
                  simp only [putAll, Act.put, List.setIfInBounds_toArray, List.set_cons_zero, List.set_cons_succ]
                  simp only [Nat.zero_add, Nat.reduceAdd]
                  have h4 : vs 30 = .bool true := (hR 30 _ 4 rfl rfl).trans v30
                  generalize vs 30 = vz at h4
                  subst h4
                  have bel25 := hc
                  clear hR hc hL
                  go_wp2
                  go_ret
                  exact ⟨rfl, bel25⟩
end Go.Proofs.YtoekdiklbfdpiaaDoor
