/- The walk of the statement Sha256Parts (layer 2). Condition: the table of constants is as the program laid it. -/
import Derived.Test.YtmgijjfjldkgaaaDoorShaL
namespace Go.Proofs.YtmgijjfjldkgaaaDoor
open Go.RowKit

/-- A string as a value. -/
def strv (l : List UInt8) : Value := .string (B l)
theorem strv_one (ls : List (List UInt8)) : ∀ u ∈ ls.map strv, u.oneCell' = true := by
  intro u hu
  simp only [List.mem_map] at hu
  obtain ⟨b, _, rfl⟩ := hu
  rfl
theorem Tryd.strsTy : SliceTy Tryd.prog 29 9 (.string ⟨#[]⟩) 1 16 := ⟨Tryd.underlying29, info_parts (by kernel_rfl), rfl, by omega⟩
theorem strs_of_own {w : World} {base : Nat} {v : Value} {ls : List (List UInt8)} (h : w.ownsRow base 9 1 v ls.length (ls.map strv)) (hl : ls.length ≤ 140737488355328) : Strs w v ls := by
  rcases own_form h with ⟨rfl, h0, _⟩ | ⟨g, cap, rfl, h1, h2, h3⟩
  · exact .inl ⟨List.eq_nil_of_length_eq_zero h0, _, _, rfl⟩
  · refine .inr ⟨g, 0, cap, rfl, fun j l hj => ?_, h2, h3, hl⟩
    obtain ⟨hj1, hj2⟩ := List.getElem?_eq_some_iff.1 hj
    have := World.ownsRow.cellAt h j (by simpa using hj1)
    rw [Nat.zero_add, this, List.getElem?_map, hj]
    rfl
/-- The words of a slice of uint16 lie there. -/
def U16s (w : World) (v : Value) (cs : List Nat) : Prop :=
  (cs = [] ∧ ∃ a c, v = .slice a 0 c) ∨ ∃ bk o c, v = .slice (some ⟨bk, o, none⟩) cs.length c ∧ (∀ j, j < cs.length → w.cell? ⟨bk, o + j, none⟩ = some (.int .u16 (cs.getD j 0 : Nat))) ∧ bk < w.heap.size
set_option maxRecDepth 100000 in
set_option maxHeartbeats 1000000 in
theorem parts_calls (s : List UInt8) (hs : s.length ≤ 9223372036854775807) (cv : Value) (cs : List Nat) (hcs : cs.length ≤ 9223372036854775807) (hcl : ∀ j, cs.getD j 0 < 65536) (w : World) (hK : TabK w) (hcv : U16s w cv cs) :
    Calls Tryd.prog 4 #[.string (B s), cv] w fun e w' => e = .returned (.bool true) ∧ Below w.heap.size w w' := by
  obtain ⟨a, c, hcvv⟩ : ∃ a c, cv = .slice a cs.length c := by
    rcases hcv with ⟨h1, a, c, h2⟩ | ⟨bk, o, c, h, _⟩
    · exact ⟨a, c, by rw [h1]; exact h2⟩
    · exact ⟨_, _, h⟩
  have hcells : 0 < cs.length → ∃ bk o, a = some ⟨bk, o, none⟩ ∧ (∀ j, j < cs.length → w.cell? ⟨bk, o + j, none⟩ = some (.int .u16 (cs.getD j 0 : Nat))) ∧ bk < w.heap.size := by
    intro h0
    rcases hcv with ⟨h1, _⟩ | ⟨bk, o, c', h, h1, h2⟩
    · rw [h1] at h0; simp at h0
    · rw [hcvv] at h
      injection h with h3
      exact ⟨bk, o, h3, h1, h2⟩
  subst hcvv
  clear hcv
  go_enter Tryd.func4, Tryd.ntmps4
  by_cases h4 : s.length ≤ 400
  · have h4i : ¬ (400 : Int) < (s.length : Int) := by omega
    by_cases h20 : cs.length ≤ 20
    · have h20i : ¬ (20 : Int) < (cs.length : Int) := by omega
      go_wp2
      go_loopw [7, 5, 6] (fun i v rest wr => ∃ (k : Nat) (ls : List (List UInt8)) (r : List UInt8), i = .int .i64 k ∧ k ≤ cs.length ∧ rest = .string (B r) ∧ Hid (ls.flatten ++ r = s) ∧ r.length ≤ 400 ∧ Hid (ls.length = k) ∧ wr.ownsRow w.heap.size 9 1 v ls.length (ls.map strv) ∧ Below w.heap.size w wr) (fun i _ _ _ => cs.length - (intOf i).toNat)
      case atStart => exact ⟨0, [], s, rfl, by omega, rfl, rfl, h4, rfl, World.ownsRow_nil _ _ _ _, Below.refl _ _⟩
      case round =>
        obtain ⟨k, ls, r, rfl, hk, rfl, hfl, hr, hll, hown, hbel⟩ := hrel
        by_cases hlt : k < cs.length
        · obtain ⟨bk, o, rfl, hcell, hbk⟩ := hcells (by omega)
          have hki : (k : Int) < (cs.length : Int) := by omega
          have hc1 : wr.cell? ⟨bk, o + k, none⟩ = some (.int .u16 (cs.getD k 0 : Nat)) := (hbel.cell (p := ⟨bk, o + k, none⟩) hbk).trans (hcell k hlt)
          have hcb := hcl k
          clear hcell hcells
          generalize cs.getD k 0 = cv at *
          obtain ⟨n, hn, hnv⟩ : ∃ n : Nat, (cv : Int) % ((r.length : Int) + 1) = (n : Int) ∧ n = cv % (r.length + 1) := ⟨cv % (r.length + 1), by simp, rfl⟩
          have hnr : n ≤ r.length := by rw [hnv]; have := Nat.mod_lt cv (show 0 < r.length + 1 by omega); omega
          clear hnv
          have hni : (n : Int) ≤ (r.length : Int) := by omega
          have hlk : ls.length ≤ 20 := by have := hll.out; omega
          have hnew : Blk (wr.alloc (.cells #[.string (B (r.take n))] 9)) wr.heap.size 9 #[.string (B (r.take n))] := Blk.new _ _ _
          have hown2 := World.ownsRow.alloc hown (.cells #[.string (B (r.take n))] 9)
          have hsz := hbel.size
          have hbel2 := hbel.alloc hsz (.cells #[.string (B (r.take n))] 9)
          have hone : ∀ u ∈ (#[.string (B (r.take n))] : Array Value).toList, u.oneCell' = true := by
            intro u hu; simp at hu; subst hu; rfl
          go_wp2_with (first
            | (at_builtin
               refine wpList_append_blk rfl (.tmp 34) (.tmp 38) _ rfl 9 _ 1 16 Tryd.strsTy w.heap.size _ ls.length (ls.map strv) rfl hown2 wr.heap.size 1 1 9 _ rfl hnew rfl hone (by omega) (by omega) w hbel2 hbel2.size ?_
               intro v' w' hown3 hbel3 hg3))
          have hown4 : w'.ownsRow w.heap.size 9 1 v' (ls ++ [r.take n]).length ((ls ++ [r.take n]).map strv) := by
            rw [List.length_append, List.length_singleton, List.map_append]; exact hown3
          have hfl2 : Hid ((ls ++ [r.take n]).flatten ++ r.drop n = s) := by
            show _ = _
            rw [List.flatten_append, List.append_assoc]
            simp only [List.flatten_cons, List.flatten_nil, List.append_nil, List.take_append_drop]
            exact hfl.out
          have hll2 : Hid ((ls ++ [r.take n]).length = k + 1) := by show _ = _; rw [List.length_append, hll.out]; rfl
          clear hg3 hown3 hown2 hnew hone hbel2 hn hc1
          go_roundw
          case rel => exact ⟨k + 1, ls ++ [r.take n], r.drop n, by go_num, by omega, rfl, hfl2, by rw [List.length_drop]; omega, hll2, hown4, hbel3⟩
          case measure => simp [intOf]; omega
        · have hki : ¬ (k : Int) < (cs.length : Int) := by omega
          have hlk : ls.length ≤ 20 := by have := hll.out; omega
          have hnew : Blk (wr.alloc (.cells #[.string (B r)] 9)) wr.heap.size 9 #[.string (B r)] := Blk.new _ _ _
          have hown2 := World.ownsRow.alloc hown (.cells #[.string (B r)] 9)
          have hbel2 := hbel.alloc hbel.size (.cells #[.string (B r)] 9)
          have hone : ∀ u ∈ (#[.string (B r)] : Array Value).toList, u.oneCell' = true := by
            intro u hu; simp at hu; subst hu; rfl
          have hfl2 : (ls ++ [r]).flatten = s := by rw [List.flatten_append]; simpa using hfl.out
          have hsum1 := fun v W hk hv => Lib.hid (sum_calls (ls ++ [r]) v W hk hv (by rw [hfl2]; omega))
          rw [hfl2] at hsum1
          have hsum2 := fun v W hk hv => Lib.hid (sum_calls [s] v W hk hv (by simp; omega))
          rw [show [s].flatten = s from by simp] at hsum2
          clear hfl2 hfl hll hown
          have heq := fun W => run_eql_id W (shaOf s) (shaOf s) (shaOf_length s) (shaOf_length s)
          have hsv : ∀ W : World, Strs (W.alloc (.cells #[.string (B s)] 9)) (.slice (some ⟨W.heap.size, 0, none⟩) 1 1) [s] := by
            intro W
            refine .inr ⟨W.heap.size, 0, 1, rfl, ?_, by simp, by simp, by simp⟩
            intro j x hj
            cases j with
            | zero => simp at hj; subst hj; rw [World.cell?_alloc_new]; rfl
            | succ j => simp at hj
          go_wp2_with (first
            | (at_builtin
               refine wpList_append_blk rfl (.tmp 43) (.tmp 45) _ rfl 9 _ 1 16 Tryd.strsTy w.heap.size _ ls.length (ls.map strv) rfl hown2 wr.heap.size 1 1 9 _ rfl hnew rfl hone (by omega) (by omega) w hbel2 hbel2.size ?_
               intro v' w' hown3 hbel3 hg3
               have hown4 : w'.ownsRow w.heap.size 9 1 v' (ls ++ [r]).length ((ls ++ [r]).map strv) := by
                 rw [List.length_append, List.length_singleton, List.map_append]; exact hown3
               have hst4 := strs_of_own hown4 (by rw [List.length_append, List.length_singleton]; omega)
               have hKw : TabK w' := hK.below hbel3
               clear hg3 hown3 hown4 hown2 hnew hone hbel2)
            | (go_at_call 6; go_must (refine (knows_calls _ hKw).mono ?_); rintro e w1 ⟨rfl, hb1⟩; have hK1 := hKw.below hb1)
            | (go_at_call 7; have _t := hst4; clear _t; go_must (refine ((hsum1 _ _ hK1 (hst4.below hb1)).out).mono ?_); rintro e w2 ⟨rfl, hb2⟩; clear hst4; have hK2 := hK1.below hb2)
            | (go_at_call 7; go_must (refine ((hsum2 _ _ (hK2.below ((Below.refl _ _).alloc (Nat.le_refl _) _)) (hsv _)).out).mono ?_); rintro e w3 ⟨rfl, hb3⟩))
          go_ret
          have c1 := bthen hbel3 hbel3.size hb1
          have c2 := bthen c1 c1.size hb2
          have c3 := c2.alloc c2.size (.cells #[.string (B s)] 9)
          exact ⟨rfl, bthen c3 c3.size hb3⟩
    · have h20i : (20 : Int) < (cs.length : Int) := by omega
      go_wp2_with (first
        | (go_at_call 6; go_must (refine (knows_calls _ hK).mono ?_); rintro e w1 ⟨rfl, hb1⟩))
      go_ret
      exact ⟨rfl, hb1⟩
  · have h4i : (400 : Int) < (s.length : Int) := by omega
    go_wp2_with (first
      | (go_at_call 6; go_must (refine (knows_calls _ hK).mono ?_); rintro e w1 ⟨rfl, hb1⟩))
    go_ret
    exact ⟨rfl, hb1⟩
end Go.Proofs.YtmgijjfjldkgaaaDoor
