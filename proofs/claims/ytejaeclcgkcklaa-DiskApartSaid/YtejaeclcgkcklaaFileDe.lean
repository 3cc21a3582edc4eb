/- slices.Delete of one element of several cells, and what stays as it was. No condition. -/
import Derived.Test.YtejaeclcgkcklaaFileCl
import Derived.Test.YtejaeclcgkcklaaInsP
import Derived.Deep.RegionLaw
import Derived.Shelf.RegionOpenPlain
namespace Go.Proofs.Ytejaeclcgkcklaa
open Go.RowKit
theorem run_clear_files {w : World} {g i n cap : Nat} {s : List FileL} (h : Row w g 54 2 fileC cap s) (hn : s.length = n) (hi : i < n) (ty : TypeId) (m c : Nat) (hm : m = n - i) :
    (Builtin.clear_ #[45] ty #[.slice (some ⟨g, i * 2, none⟩) m c]).run Try.prog w = .ok (.tuple #[]) (w.setCells g (i * 2) (Builtin.zeroCells zFile.cells (n - i)).toList) := by
  subst hm
  refine run_clear_rows w _ ty _ zFile g (i * 2) (n - i) c Try.underlying45 zFile_info (by omega) ?_ (zeroCells_one (fun u hu => zFile_one u hu) _)
  rw [size_zeroCells, zFile_cells]
  refine h.there ?_
  have := h.le
  rw [← Nat.add_mul]
  exact Nat.mul_le_mul_right _ (by omega)
set_option maxRecDepth 100000 in
set_option maxHeartbeats 2000000 in
theorem deleteFiles_calls (l : List FileL) (hok : FilesOk l) (w : World) (g cap i d : Nat) (hlen : l.length = d + 1) (hrow : Row w g 54 2 fileC cap l) (hi : i ≤ d) :
    Calls Try.prog 31 #[.slice (some ⟨g, 0, none⟩) (d + 1) cap, .int .i64 i, .int .i64 ((i : Int) + 1)] w fun e w' =>
      e = .returned (.slice (some ⟨g, 0, none⟩) d cap) ∧ Row w' g 54 2 fileC cap (l.eraseIdx i) ∧ w.grownBy w' (some g) := by
  have h63 := hrow.top63
  have hle := hrow.le
  have hdk : ∀ y ∈ l.drop (i + 1), (fileC y).length = 2 := fun y hy => fileK hok y (List.mem_of_mem_drop hy)
  have hdl : (l.drop (i + 1)).length = d - i := by rw [List.length_drop]; omega
  have hput := hrow.drew.put (fileK hok) hdk (i := i) (by omega) (by omega)
  obtain ⟨it, ht1, ht2, ht3, ht4⟩ := Try.fileTy.hi
  have hap : ∀ (ty : TypeId) (ad : Addr) (c' : Nat), (ad = ⟨g, (i + 1) * 2, none⟩ ∨ d - i = 0) → (Builtin.append_ #[45, 45] ty #[.slice (some ⟨g, 0, none⟩) i cap, .slice (some ad) (d - i) c']).run Try.prog w.drew = .ok (.slice (some ⟨g, 0, none⟩) d cap) (w.drew.setCells g (i * 2) (rowsOf fileC (l.drop (i + 1)))) := fun ty ad c' had => by
    have hns : ∀ j u, (rowsOf fileC (l.drop (i + 1)))[j]? = some u → w.drew.cell? (ad.add j) = some u := by
      rcases had with rfl | h0
      · exact range_news ((hrow.drew).range_from (fileK hok) (i + 1))
      · intro j u hu
        rw [List.eq_nil_of_length_eq_zero (hdl.trans h0)] at hu
        simp [rowsOf] at hu
    have hroom : ∀ j, j < (rowsOf fileC (l.drop (i + 1))).length → (w.drew.cell? ⟨g, 0 + i * 2 + j, none⟩).isSome = true ∧ w.drew.frozen? ⟨g, 0 + i * 2 + j, none⟩ = false := by
      intro j hj
      have := (hrow.drew).there (o := i * 2) (n := (rowsOf fileC (l.drop (i + 1))).length) (by rw [rowsOf_length hdk, hdl, ← Nat.add_mul]; exact Nat.mul_le_mul_right _ (by omega)) j hj
      rw [Nat.zero_add]
      exact this
    have := run_append_room_cells (P := Try.prog) w.drew 45 ty 54 it Try.underlying45 ht1 g 0 i cap ad (d - i) c' (rowsOf fileC (l.drop (i + 1))) (by rw [rowsOf_length hdk, hdl, ht3]) hns (fileOne _) (by omega) (fun j hj => by rw [ht3]; exact (hroom j hj).1) (fun j hj => by rw [ht3]; exact (hroom j hj).2)
    rw [ht3, Nat.zero_add, show i + (d - i) = d from by omega] at this
    exact this
  obtain ⟨W1, hW1⟩ : ∃ W1, W1 = w.drew.setCells g (i * 2) (rowsOf fileC (l.drop (i + 1))) := ⟨_, rfl⟩
  have hg1 : w.grownBy W1 (some g) := by rw [hW1]; exact grown_cells (grown_drew (grown_refl' w _)) _ _
  rw [← hW1] at hap hput
  have hs2 : (l.take i ++ l.drop (i + 1) ++ l.drop (i + (l.drop (i + 1)).length)).length = d + 1 := by
    simp only [List.length_append, List.length_take, List.length_drop]; omega
  have ht2' : (l.take i ++ l.drop (i + 1) ++ l.drop (i + (l.drop (i + 1)).length)).take d = l.eraseIdx i := by
    rw [List.take_append_of_le_length (by simp only [List.length_append, List.length_take, List.length_drop]; omega), List.take_of_length_le (by simp only [List.length_append, List.length_take, List.length_drop]; omega), List.eraseIdx_eq_take_drop_succ]
  have hsok : FilesOk (l.take i ++ l.drop (i + 1) ++ l.drop (i + (l.drop (i + 1)).length)) := by
    intro y hy
    simp only [List.mem_append] at hy
    rcases hy with (hy | hy) | hy
    · exact hok y (List.mem_of_mem_take hy)
    · exact hok y (List.mem_of_mem_drop hy)
    · exact hok y (List.mem_of_mem_drop hy)
  have hclr := fun ty m c hm => run_clear_files hput hs2 (i := d) (by omega) ty m c hm
  have hfin := hput.shed (fileK hsok) d (Builtin.zeroCells zFile.cells (d + 1 - d)).toList
  have hg2 := grown_cells hg1 (d * 2) (Builtin.zeroCells zFile.cells (d + 1 - d)).toList
  rw [ht2'] at hfin
  obtain ⟨ZS, hZS⟩ : ∃ ZS, ZS = (Builtin.zeroCells zFile.cells (d + 1 - d)).toList := ⟨_, rfl⟩
  rw [← hZS] at hclr hfin hg2
  have mixed : Try.prog.follows Departure.mixedOrders = true := by kernel_rfl
  have hbi : (0 : Int) ≤ (i : Int) + 1 := by omega
  have htn : ((i : Int) + 1).toNat = i + 1 := by omega
  have hid : (i : Int) ≤ (d : Int) := by omega
  have hi1 : (i : Int) + 1 ≤ (d : Int) + 1 := by omega
  have hdc : (d : Int) + 1 ≤ (cap : Int) := by omega
  have hic : (i : Int) ≤ (cap : Int) := by omega
  have hi1c : (i : Int) + 1 ≤ (cap : Int) := by omega
  have hci : ¬ (cap = i) := by omega
  have hcd : ¬ (cap = d) := by omega
  have hne : ((i : Int) == (i : Int) + 1) = false := by rw [beq_eq_false_iff_ne]; omega
  have hsub : d + 1 - (i + 1) = d - i := by omega
  clear hput hsok hs2 ht2' hW1 hZS hdk hrow ht1 ht2 ht3 ht4 hlen
  by_cases hcap : cap = i + 1
  · have hdi : d = i := by omega
    subst hdi hcap
    have hap0 := fun ty c' => hap ty ⟨g, 0, none⟩ c' (.inr (by omega))
    simp only [Nat.sub_self] at hap0
    have hdd : (d : Int) ≤ (d : Int) + 1 := by omega
    clear hap
    go_enter Try.func31, Try.ntmps31
    go_wp2
    go_region_law_o (refine step_append_run rfl _ _ 45 45 rfl (.slice (some ⟨g, 0, none⟩) d (d + 1)) (.slice (some ⟨g, 0, none⟩) 0 0) (by simp [Act.eval, Act.put]) (by simp [Act.eval, Act.put]) (hap0 _ _) ?_)
    go_wp2_with (at_builtin; refine wpList_clear_run _ rfl (.tmp 31) _ rfl _ rfl (hclr _ _ _ rfl) ?_)
    go_ret
    exact ⟨rfl, hfin, hg2⟩
  · go_enter Try.func31, Try.ntmps31
    go_wp2
    go_region_law_o (refine step_append_run rfl _ _ 45 45 rfl (.slice (some ⟨g, 0, none⟩) i cap) (.slice (some ⟨g, (i + 1) * 2, none⟩) (d - i) (cap - (i + 1))) (by simp [Act.eval, Act.put]) (by simp [Act.eval, Act.put]) (hap _ _ _ (.inl rfl)) ?_)
    go_wp2_with (at_builtin; refine wpList_clear_run _ rfl (.tmp 31) _ rfl _ rfl (hclr _ _ _ rfl) ?_)
    go_ret
    exact ⟨rfl, hfin, hg2⟩
end Go.Proofs.Ytejaeclcgkcklaa
