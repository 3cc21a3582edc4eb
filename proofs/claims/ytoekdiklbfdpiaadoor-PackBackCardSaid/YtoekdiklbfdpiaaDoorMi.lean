/- Lemmas and walks of this seat, laid together: OpenE, OpenId, OpenPk, Tab. -/
import Derived.Test.YtoekdiklbfdpiaaDoorMh
import Derived.Lib.LaidTab
import Derived.Test.YtoekdiklbfdpiaaDoorCards
import Derived.WalkKit
import Derived.ProofKit
import Derived.OpenShut
import Derived.Deep.DeepHandedRow
/- Arguments that are slices of structs, in the walk's words. No condition; no program. -/
namespace Go.Proofs.YtoekdiklbfdpiaaDoor
open Go.ChangeShapes Go.WideShapes Go.ChangeAt Go.RowKit
section
variable {H : Type} {enc : TypeId × Value → H} {P : Program} {w : World} {base : Nat} {sp : Nat → Bool} {held : Bool}
open Go.Deep in
theorem open_elems {α : Type} (en : α → List Value) (k : Nat) (hk0 : 0 < k) (Ok : α → Prop) {t e : TypeId} {fuel : Nat} {v : Value} {x : DataW H × List MemPlace} (ht : P.underlying t = some (.slice e)) (hk : P.cellsOf e = k)
    (hen : ∀ y, Ok y → (en y).length = k) (key : ∀ fuel cs x, DataW.trod enc P w base sp held fuel e cs = some x → cs.length = k → ∃ y : α, cs = en y ∧ Ok y) (h : DataW.trod enc P w base sp held fuel t [v] = some x) :
    ∃ l : List α, SliceAt w k en v l ∧ ∀ y ∈ l, Ok y := by
  rcases open_slice ht h with ⟨h0, _⟩ | ⟨a, len, cap, m, n, D, Pl, hcs, hb, hl, hm, hmm, hx, hi⟩
  · injection h0 with h0
    subst h0
    exact ⟨[], SliceAt.nil, fun y hy => by simp at hy⟩
  · injection hcs with hcs
    subst hcs
    have hlm : len ≤ m := by rw [hmm]; split <;> omega
    have per : ∀ i, i < len → ∃ y : α, (∀ j u, (en y)[j]? = some u → w.cell? ((a.add (i * k)).add j) = some u) ∧ Ok y := by
      intro i hil
      obtain ⟨cs', hc, ht'⟩ := hi i (by omega)
      rw [hk] at hc
      obtain ⟨_, hcl, hat⟩ := World.cells?_some hc
      obtain ⟨y, rfl, hok⟩ := key _ _ _ ht' hcl
      refine ⟨y, fun j u hu => ?_, hok⟩
      have hj := (List.getElem?_eq_some_iff.1 hu).1
      rw [hat j (by omega)]
      exact hu
    obtain ⟨l, hll, hp⟩ := list_of len _ per
    subst hll
    have hcm : cap ≤ 9223372036854775807 := by unfold maxLen at hm; omega
    refine ⟨l, ⟨some a, cap, rfl, hl, hcm, fun h0 => ?_⟩, fun y hy => ?_⟩
    · have hy0 := (hp 0 h0).1
      have hlen0 := hen _ (hp 0 h0).2
      have hc0 := hy0 0 _ (List.getElem?_eq_getElem (by omega))
      simp only [Nat.zero_mul] at hc0
      have e00 : (a.add 0).add 0 = a := by simp [Addr.add]
      rw [e00] at hc0
      obtain ⟨ha, hlt⟩ := addr_form hc0
      refine ⟨a.block, a.off, by rw [← ha], hlt, fun i y hy j u hu => ?_⟩
      obtain ⟨hi', he⟩ := List.getElem?_eq_some_iff.1 hy
      have hc := (hp i hi').1 j u (by rw [he]; exact hu)
      rw [ha] at hc
      simp only [addr_add] at hc
      exact hc
    · obtain ⟨i, hi', rfl⟩ := List.getElem_of_mem hy
      exact (hp i hi').2
end
end Go.Proofs.YtoekdiklbfdpiaaDoor
/- An argument that is an array of bytes, in the walk's words. No condition. -/
namespace Go.Proofs.YtoekdiklbfdpiaaDoor
open Go.ChangeShapes Go.WideShapes Go.ChangeAt Go.RowKit
theorem trod_bytes {H : Type} {enc : TypeId × Value → H} {P : Program} {w : World} {base : Nat} {sp : Nat → Bool} {held : Bool} {fuel : Nat} {t e : TypeId} {n : Nat} {cs : List Value} {x : DataW H × List MemPlace}
    (ht : P.underlying t = some (.array n e)) (he : P.underlying e = some (.int .u8)) (hce : P.cellsOf e = 1) (hct : P.cellsOf t = n)
    (h : DataW.trod enc P w base sp held fuel t cs = some x) : ∃ l : List UInt8, l.length = n ∧ cs = l.map u8v := by
  cases fuel with
  | zero => simp [DataW.trod] at h
  | succ fuel =>
    simp only [DataW.trod, ht, hce, hct, Nat.mul_one] at h
    split at h
    · rename_i hl
      obtain ⟨xs, hm, _⟩ := Option.map_eq_some_iff.1 h
      have key : ∀ i, i < n → ∃ c : UInt8, cs[i]? = some (u8v c) := by
        intro i hi
        obtain ⟨b, _, hf⟩ := Lib.mapM_at hm i i (by simp [hi])
        obtain ⟨z, hc, _, hw⟩ := DataW.trod_int he hf
        have h1 : cs[i]? = some (.int .u8 z) := by
          have := congrArg (·[0]?) hc
          simpa [List.getElem?_take, List.getElem?_drop] using this
        have hb := bounds_u8 hw
        refine ⟨UInt8.ofNat z.toNat, ?_⟩
        rw [h1, u8v, ofNat_toNat_u8 _ (by omega), Int.toNat_of_nonneg hb.1]
      obtain ⟨l, hll, hp⟩ := list_of n (fun i c => cs[i]? = some (u8v c)) key
      refine ⟨l, hll, List.ext_getElem? fun i => ?_⟩
      rcases Nat.lt_or_ge i n with hi | hi
      · rw [hp i (by omega), List.getElem?_map, List.getElem?_eq_getElem (show i < l.length by omega)]
        rfl
      · rw [List.getElem?_eq_none (by omega), List.getElem?_eq_none (by simp; omega)]
    · cases h
set_option maxRecDepth 100000 in
/-- What an argument of type Id is. -/
theorem open_id {H : Type} {enc : TypeId × Value → H} {w : World} {base : Nat} {v : Value} {d : DataW H} {p : List MemPlace}
    (hv : Value.okWide Tryd.prog w .any base 36 v) (h : DataW.Trod enc Tryd.prog w 0 (fun _ => true) true 36 v d p) :
    ∃ l : List UInt8, l.length = 32 ∧ v = .agg (u8s l) := by
  simp only [Value.okWide, Tryd.underlying36] at hv
  obtain ⟨cs, rfl, _, _⟩ := hv
  obtain ⟨fuel, hf⟩ := h
  obtain ⟨l, hl, hc⟩ := trod_bytes Tryd.underlying36 Tryd.underlying5 (by kernel_rfl) (by kernel_rfl) hf
  refine ⟨l, hl, ?_⟩
  congr 1
  apply Array.ext'
  simpa [u8s, Value.cells] using hc
end Go.Proofs.YtoekdiklbfdpiaaDoor
/- Arguments that are items of packs, in the walk's words. No condition. -/
namespace Go.Proofs.YtoekdiklbfdpiaaDoor
open Go.ChangeShapes Go.WideShapes Go.ChangeAt Go.RowKit
theorem chain15 {cs a : List Value} {n k m : Nat} (h : (cs.drop n).take k = a) (hm : n + k = m) : cs.drop n = a ++ cs.drop m := by
  subst hm
  rw [← h, ← List.drop_drop, List.take_append_drop]
section
variable {H : Type} {enc : TypeId × Value → H} {w : World} {base : Nat} {sp : Nat → Bool} {held : Bool}
set_option maxRecDepth 100000 in
theorem elem_pit (fuel : Nat) (cs : List Value) (x : DataW H × List MemPlace) (h : DataW.trod enc Tryd.prog w base sp held fuel 54 cs = some x) (hl : cs.length = 35) : ∃ r : PItL, cs = pitC r ∧ r.base.length = 32 := by
  obtain ⟨ys, n', hn', hy, hlen, hyl, hf⟩ := DataW.trod_struct Tryd.underlying54 h
  have hyl : ys.length = 4 := hyl
  have h0 := hf 0 _ rfl
  have h1 := hf 1 _ rfl
  have h2 := hf 2 _ rfl
  have h3 := hf 3 _ rfl
  rw [List.getElem?_eq_getElem (show 0 < ys.length by omega)] at h0
  rw [List.getElem?_eq_getElem (show 1 < ys.length by omega)] at h1
  rw [List.getElem?_eq_getElem (show 2 < ys.length by omega)] at h2
  rw [List.getElem?_eq_getElem (show 3 < ys.length by omega)] at h3
  obtain ⟨k, e0, _, _⟩ := DataW.trod_int Tryd.underlying3 h0
  obtain ⟨b, e1, _, _⟩ := DataW.trod_int Tryd.underlying3 h1
  obtain ⟨l, hl32, e2⟩ := trod_bytes Tryd.underlying36 Tryd.underlying5 (by kernel_rfl) (by kernel_rfl) h2
  obtain ⟨s, e3, _, _⟩ := DataW.trod_string Tryd.underlying9 h3
  have c0 : Tryd.prog.cellsOf 9 = 1 := by kernel_rfl
  have c1 : Tryd.prog.cellsOf 3 = 1 := by kernel_rfl
  have c2 : Tryd.prog.cellsOf 36 = 32 := by kernel_rfl
  obtain ⟨a, rfl⟩ := B_mk s
  have e0' : (cs.drop 0).take 1 = [.int .i64 k] := by rw [← c1]; exact e0
  have e1' : (cs.drop 1).take 1 = [.int .i64 b] := by rw [← c1]; exact e1
  have e2' : (cs.drop 2).take 32 = l.map u8v := by rw [← c2]; exact e2
  have e3' : (cs.drop 34).take 1 = [.string (B a)] := by rw [← c0]; exact e3
  refine ⟨⟨k, b, l, a⟩, ?_, hl32⟩
  have := chain15 e0' (m := 1) rfl
  rw [List.drop_zero, chain15 e1' (m := 2) rfl, chain15 e2' (m := 34) rfl, chain15 e3' (m := 35) rfl, List.drop_of_length_le (by omega)] at this
  rw [this]
  simp [pitC, u8s]
theorem open_pits {v : Value} {d : DataW H} {p : List MemPlace} (h : DataW.Trod enc Tryd.prog w base sp held 22 v d p) (hc : v.cells.toList = [v]) : ∃ l : List PItL, Pits w v l ∧ PitsOk l := by
  obtain ⟨fuel, hf⟩ := h
  rw [hc] at hf
  exact open_elems pitC 35 (by omega) (fun x => x.base.length = 32) Tryd.underlying22 (by kernel_rfl) (fun y hy => pitC_len hy) elem_pit hf
end
end Go.Proofs.YtoekdiklbfdpiaaDoor
/- What the row's list of variables gives: the table of constants; and a world that meets it. No condition. -/
namespace Go.Proofs.YtoekdiklbfdpiaaDoor
open Go.ChangeShapes Go.WideShapes Go.ChangeAt Go.RowKit

theorem gTab : Tryd.prog.globalNamed "knapsack/sha256.constants" = some 0 := by kernel_rfl
theorem gTabType : (Tryd.prog.globals[0]?).map (·.type) = some 66 := by kernel_rfl
theorem cellsTab : Tryd.prog.cellsOf 66 = 64 := by kernel_rfl
theorem cellsU32 : Tryd.prog.cellsOf 47 = 1 := by kernel_rfl
theorem laid_is : (Rows.laid_knapsack_sha256_constants : DataW Unit) = Lib.tabData .u32 (K256.map fun n => ((n : Nat) : Int)) := by kernel_rfl
theorem tabK_of {W : World} (h : laidMetH Tryd.prog [("knapsack/sha256.constants", Rows.laid_knapsack_sha256_constants)] W) : TabK W := by
  rw [laid_is] at h
  have ht := Lib.tabIs_of_head (rest := []) gTab gTabType Tryd.underlying66 Tryd.underlying47 cellsU32 cellsTab h
  have hc (t : Nat) (h64 : t < 64) : W.cell? ⟨0, t, none⟩ = some (.int .u32 (K256.getD t 0 : Nat)) := by
    rw [ht.cell gTab t (by rw [List.length_map, K256_length]; exact h64)]
    have : t < K256.length := by rw [K256_length]; exact h64
    simp [List.getD, List.getElem?_map, List.getElem?_eq_getElem this]
  exact ⟨World.block_lt_of_cell? W _ (hc 0 (by omega)), hc⟩
/-- A world for the witness: the settled one, the table as its initialiser lays it. -/
noncomputable def laidWorld (os : Os) : World :=
  { World.holding Tryd.prog os ⟨#[], #[], []⟩ with heap := (World.holding Tryd.prog os ⟨#[], #[], []⟩).heap.modify 0 fun
      | .cells _ t frozen => .cells (u32s K256) t frozen
      | o => o }
end Go.Proofs.YtoekdiklbfdpiaaDoor
