/- The walks of layer 21 (disk): files are set, let go; the fuse. No condition. -/
import Derived.Test.YtejaeclcgkcklaaDiskW
import Derived.Test.YtejaeclcgkcklaaFileIn
import Derived.Test.YtejaeclcgkcklaaFileDe
import Derived.Test.YtejaeclcgkcklaaRowF
namespace Go.Proofs.Ytejaeclcgkcklaa
open Go.RowKit
theorem filesOk_put {l : List FileL} (h : FilesOk l) {x : FileL} (hx : FileOk x) : FilesOk (putK FileL.name l x) := fun r hr => (putK_mem hr).elim (h r) (fun e => e ▸ hx)
/-- The bytes of a file that is there are written. -/
theorem own_data {w : World} {base g cap : Nat} {l : List FileL} (hok : FilesOk l) (hrow : Row w g 54 2 fileC cap l) (hg : base ≤ g) {i : Nat} {y : FileL} (hy : l[i]? = some y) {d : List UInt8} (hd : d.length ≤ 9223372036854775807) :
    OwnFiles (w.setCell ⟨g, i * 2 + 1, none⟩ (.string (B d))) base (.slice (some ⟨g, 0, none⟩) l.length cap) (l.set i ⟨y.name, d⟩) := by
  have h1 := hrow.field (x := ⟨y.name, d⟩) (fileK hok) hy (j := 1) (by omega) (v := .string (B d)) rfl
  exact OwnFiles.of_row (n := l.length) (filesOk_set hok i (x := ⟨y.name, d⟩) ⟨(hok y (List.mem_of_getElem? hy)).1, hd⟩) h1 hg (by simp)
set_option maxRecDepth 100000 in
set_option maxHeartbeats 1000000 in
theorem diskSet_has {w : World} {base p : Nat} {vl : Value} {s : DiskL} (h : DiskAt w base p vl s) (n d : List UInt8) (hn : n.length ≤ 9223372036854775807) (hd : d.length ≤ 9223372036854775807) (hf : s.l.length < 500000) (hh : hasK FileL.name s.l n = true) :
    Calls Try.prog 23 #[.pointer (some ⟨p, 0, none⟩), .string (B n), .string (B d)] w fun e w' => e = .returned (.tuple #[]) ∧
      ∃ vl', DiskAt w' base p vl' { s with l := putK FileL.name s.l ⟨n, d⟩ } ∧ Far [some p, vl.ownBlock] w w' ∧ Newer w vl vl' := by
  have hpl := Lib.hid (diskPlace_calls h n)
  have hok1 := h.ok.edit (n := n) (d := d) false hn hd hf
  have hlt : posK FileL.name s.l n < s.l.length := by
    rw [hasK_at h.ok.sorted] at hh
    exact Nat.lt_of_not_le fun hge => by rw [List.getElem?_eq_none hge] at hh; cases hh
  obtain ⟨y, hy⟩ : ∃ y, s.l[posK FileL.name s.l n]? = some y := ⟨_, List.getElem?_eq_getElem hlt⟩
  have hyn : y.name = n := by
    rw [hasK_at h.ok.sorted, hy] at hh
    simpa using hh
  have hput : putK FileL.name s.l ⟨n, d⟩ = s.l.set (posK FileL.name s.l n) ⟨y.name, d⟩ := by unfold putK; rw [hh, hyn]; rfl
  have hok1 : DiskOk { s with l := putK FileL.name s.l ⟨n, d⟩ } := hok1
  rw [hput] at hok1 ⊢
  rw [hh] at hpl
  rcases Row.of_own (fileK h.ok.ok) h.own with ⟨_, h0⟩ | ⟨g, cap, rfl, hg, hrow⟩
  · rw [h0] at hlt; exact absurd hlt (by simp)
  generalize posK FileL.name s.l n = i at *
  have hli : (i : Int) < (s.l.length : Int) := by omega
  have c0 := fun W (hb : Below w.heap.size w W) => (h.below hb).c0
  have hne : some g ≠ some p := fun e => h.ne e
  have hcs := fun W (hb : Below w.heap.size w W) => (hrow.below hb).cell_some hlt (j := 1) (by omega)
  have hfz := fun W (hb : Below w.heap.size w W) => (hrow.below hb).frozen (i * 2 + 1)
  have hfin := fun W (hb : Below w.heap.size w W) => own_data h.ok.ok (hrow.below hb) hg hy hd
  have hblk := fun W (hb : Below w.heap.size w W) => h.blk.below hb h.blk.lt
  clear hput hh hyn hy hrow h
  go_enter Try.func23, Try.ntmps23
  go_wp2_with (first
    | (go_at_call 24; go_must (refine hpl.out.mono ?_); rintro e w1 ⟨rfl, hb1⟩
       have c0 := c0 w1 hb1
       obtain ⟨u, hu⟩ := Option.isSome_iff_exists.1 (hcs w1 hb1)
       have hfz := hfz w1 hb1))
  go_end0
  have hfar : Far [some p, some g] w (w1.setCell ⟨g, i * 2 + 1, none⟩ (.string (B d))) := (Far.of_below hb1).set_ (.inl (by simp)) _
  exact ⟨rfl, _, ⟨(hblk w1 hb1).far (fun e => hne (by rw [e])) _, hfin w1 hb1, hok1⟩, hfar, Newer.refl _ _⟩
theorem ins_at {α : Type} {l : List α} {i : Nat} (hi : i ≤ l.length) (x : α) : (l.take i ++ [x] ++ l.drop i)[i]? = some x := by
  rw [List.append_assoc, List.getElem?_append_right (by simp; omega), List.length_take, Nat.min_eq_left hi, Nat.sub_self]
  rfl
theorem ins_set {α : Type} {l : List α} {i : Nat} (hi : i ≤ l.length) (x y : α) : (l.take i ++ [x] ++ l.drop i).set i y = l.take i ++ [y] ++ l.drop i := by
  have ht : (l.take i).length = i := by simp; omega
  rw [List.append_assoc, List.append_assoc, List.set_append_right _ _ (by omega), ht, Nat.sub_self]
  rfl
set_option maxRecDepth 100000 in
set_option maxHeartbeats 1000000 in
theorem diskSet_new {w : World} {base p : Nat} {vl : Value} {s : DiskL} (hB : base ≤ w.heap.size) (h : DiskAt w base p vl s) (n d : List UInt8) (hn : n.length ≤ 9223372036854775807) (hd : d.length ≤ 9223372036854775807) (hf : s.l.length < 500000) (hh : hasK FileL.name s.l n = false) :
    Calls Try.prog 23 #[.pointer (some ⟨p, 0, none⟩), .string (B n), .string (B d)] w fun e w' => e = .returned (.tuple #[]) ∧
      ∃ vl', DiskAt w' base p vl' { s with l := putK FileL.name s.l ⟨n, d⟩ } ∧ Far [some p, vl.ownBlock] w w' ∧ Newer w vl vl' := by
  have hpl := Lib.hid (diskPlace_calls h n)
  have hok1 := h.ok.edit (n := n) (d := d) false hn hd hf
  have hle : posK FileL.name s.l n ≤ s.l.length := posK_le
  have hput : putK FileL.name s.l ⟨n, d⟩ = s.l.take (posK FileL.name s.l n) ++ [⟨n, d⟩] ++ s.l.drop (posK FileL.name s.l n) := by unfold putK; rw [hh]; rfl
  have hok1 : DiskOk { s with l := putK FileL.name s.l ⟨n, d⟩ } := hok1
  rw [hput] at hok1 ⊢
  rw [hh] at hpl
  generalize posK FileL.name s.l n = i at *
  have hxok : FileOk ⟨n, []⟩ := ⟨hn, by simp⟩
  have hD := Lib.hid h
  have hlv : ∀ k, vl.ownBlock = some k → k < w.heap.size := fun k hk => (World.ownsRow.lt h.own k hk).2
  have hpw := h.blk.lt
  have hne := h.ne
  clear hput hh h
  go_enter Try.func23, Try.ntmps23
  go_wp2_with (first
    | (go_at_call 24; go_must (refine hpl.out.mono ?_); rintro e w1 ⟨rfl, hb1⟩
       have hs1 := hb1.size
       have c0 := (hD.out.below hb1).c0
       have hb2 : Below w.heap.size w (w1.alloc (.cells (fileC ⟨n, []⟩).toArray 54)) := hb1.alloc hs1 _
       have hD2 := Lib.hid (hD.out.below hb2)
       have hi := Lib.hid (insertFiles_calls s.l hD.out.ok.ok (by have := hD.out.ok.few; omega) vl _ base i w1.heap.size ⟨n, []⟩ hxok (by have := hb2.size; omega) hD2.out.own hle (Blk.new w1 54 (fileC ⟨n, []⟩).toArray) (fun e => by have := hlv _ e; omega))
       clear hpl)
    | (go_at_call 27; go_must (refine hi.out.mono ?_); rintro e w3 ⟨v', rfl, hown3, hg3, hnw3⟩
       have hblk3 := hD2.out.blk.grown hg3 (own_blk_ne hD2.out.own hD2.out.blk (by decide))
       have c03 : w3.cell? ⟨p, 0, none⟩ = some vl := by rw [hblk3.cell]; rfl
       have f03 : w3.frozen? ⟨p, 0, none⟩ = false := hblk3.frozen 0
       have hgw := Lib.hid hg3
       clear hg3
       have hokI : FilesOk (s.l.take i ++ [⟨n, []⟩] ++ s.l.drop i) := filesOk_ins hD.out.ok.ok i hxok
       obtain ⟨g, cap, hv', hgb, hrow3⟩ : ∃ g cap, v' = .slice (some ⟨g, 0, none⟩) (s.l.length + 1) cap ∧ base ≤ g ∧ Row w3 g 54 2 fileC cap (s.l.take i ++ [⟨n, []⟩] ++ s.l.drop i) := by
         have hlen : (s.l.take i ++ [(⟨n, []⟩ : FileL)] ++ s.l.drop i).length = s.l.length + 1 := by simp; omega
         rcases Row.of_own (fileK hokI) hown3 with ⟨_, h0⟩ | ⟨g, cap, h1, h2, h3⟩
         · rw [h0] at hlen; simp at hlen
         · exact ⟨g, cap, by rw [h1, hlen], h2, h3⟩
       subst hv'
       have hgp : g ≠ p := by
         obtain ⟨cur, hcb, _⟩ := hrow3.blk
         exact hcb.ne_ hblk3 (by decide)
       have hrow4 := Lib.hid (hrow3.far hgp 0 (.slice (some ⟨g, 0, none⟩) (s.l.length + 1) cap))
       have hli : (i : Int) < ((s.l.length + 1 : Nat) : Int) := by omega
       have hil : i < (s.l.take i ++ [(⟨n, []⟩ : FileL)] ++ s.l.drop i).length := by simp; omega
       obtain ⟨u, hu⟩ := Option.isSome_iff_exists.1 (hrow4.out.cell_some hil (j := 1) (by omega))
       have hfz := hrow4.out.frozen (i * 2 + 1)
       clear hi))
  go_end0
  have hD5 : Blk ((w3.setCell ⟨p, 0, none⟩ (.slice (some ⟨g, 0, none⟩) (s.l.length + 1) cap)).setCell ⟨g, i * 2 + 1, none⟩ (.string (B d))) p 47 (diskC (.slice (some ⟨g, 0, none⟩) (s.l.length + 1) cap) { s with l := s.l.take i ++ [⟨n, d⟩] ++ s.l.drop i }) :=
    (hblk3.set_ 0 _).far (p := ⟨g, i * 2 + 1, none⟩) (fun e => hgp e.symm) _
  have hown5 := own_data hokI hrow4.out hgb (ins_at hle _) hd
  rw [ins_set hle, show (s.l.take i ++ [(⟨n, []⟩ : FileL)] ++ s.l.drop i).length = s.l.length + 1 from by simp; omega] at hown5
  have hnw := (Newer.refl w vl).then_ hnw3 hb2.size
  have hfar : Far [some p, vl.ownBlock] w w3 := (Far.of_below hb2).then_ (Far.of_grown hgw.out) fun k hk => .inl (List.mem_cons_of_mem _ hk)
  have hfar2 := (hfar.set_ (p := ⟨p, 0, none⟩) (.inl (by simp)) (.slice (some ⟨g, 0, none⟩) (s.l.length + 1) cap)).set_ (p := ⟨g, i * 2 + 1, none⟩) (by
    rcases hnw with h1 | h1
    · exact .inl (List.mem_cons_of_mem _ (by rw [← h1]; simp [Value.ownBlock]))
    · exact .inr (h1 g rfl)) (.string (B d))
  exact ⟨rfl, _, ⟨hD5, hown5, hok1⟩, hfar2, hnw⟩
theorem diskSet_calls {w : World} {base p : Nat} {vl : Value} {s : DiskL} (hB : base ≤ w.heap.size) (h : DiskAt w base p vl s) (n d : List UInt8) (hn : n.length ≤ 9223372036854775807) (hd : d.length ≤ 9223372036854775807) (hf : s.l.length < 500000) :
    Calls Try.prog 23 #[.pointer (some ⟨p, 0, none⟩), .string (B n), .string (B d)] w fun e w' => e = .returned (.tuple #[]) ∧
      ∃ vl', DiskAt w' base p vl' { s with l := editL s.l n d false } ∧ Far [some p, vl.ownBlock] w w' ∧ Newer w vl vl' := by
  cases hh : hasK FileL.name s.l n
  · exact diskSet_new hB h n d hn hd hf hh
  · exact diskSet_has h n d hn hd hf hh
set_option maxRecDepth 100000 in
set_option maxHeartbeats 1000000 in
theorem diskGone_calls {w : World} {base p : Nat} {vl : Value} {s : DiskL} (h : DiskAt w base p vl s) (n : List UInt8) :
    Calls Try.prog 25 #[.pointer (some ⟨p, 0, none⟩), .string (B n)] w fun e w' => e = .returned (.tuple #[]) ∧
      ∃ vl', DiskAt w' base p vl' { s with l := dropK FileL.name s.l n } ∧ Far [some p, vl.ownBlock] w w' ∧ Newer w vl vl' := by
  have hpl := Lib.hid (diskPlace_calls h n)
  have hD := Lib.hid h
  have hok1 : DiskOk { s with l := dropK FileL.name s.l n } := ⟨fun r hr => h.ok.ok r (dropK_mem hr).1, sorted_drop h.ok.sorted, h.ok.fuse, h.ok.part, Nat.le_trans dropK_len h.ok.few⟩
  rw [dropK_at h.ok.sorted] at hok1 ⊢
  cases hh : hasK FileL.name s.l n
  · rw [hh] at hpl
    simp only [hh, Bool.false_eq_true, if_false] at hok1 ⊢
    clear h
    go_enter Try.func25, Try.ntmps25
    go_wp2_with (first
      | (go_at_call 24; go_must (refine hpl.out.mono ?_); rintro e w1 ⟨rfl, hb1⟩))
    go_end0
    exact ⟨rfl, _, hD.out.below hb1, Far.of_below hb1, Newer.refl _ _⟩
  · rw [hh] at hpl
    simp only [hh, if_true] at hok1 ⊢
    have hlt : posK FileL.name s.l n < s.l.length := by
      rw [hasK_at h.ok.sorted] at hh
      exact Nat.lt_of_not_le fun hge => by rw [List.getElem?_eq_none hge] at hh; cases hh
    obtain ⟨m, hm⟩ : ∃ m, s.l.length = m + 1 := ⟨s.l.length - 1, by omega⟩
    have hlen : (s.l.eraseIdx (posK FileL.name s.l n)).length = m := by rw [List.length_eraseIdx, if_pos hlt, hm]; rfl
    generalize posK FileL.name s.l n = i at *
    rcases Row.of_own (fileK h.ok.ok) h.own with ⟨_, h0⟩ | ⟨g, cap, rfl, hg, hrow⟩
    · rw [h0] at hlt; exact absurd hlt (by simp)
    have hgp : some g ≠ some p := fun e => h.ne e
    have hde := fun W (hb : Below w.heap.size w W) => deleteFiles_calls s.l h.ok.ok W g cap i m hm (hrow.below hb) (by omega)
    have hi5 : i < 500000 := by have := h.ok.few; omega
    rw [hm] at hD ⊢
    clear h hrow hh
    go_enter Try.func25, Try.ntmps25
    go_wp2_with (first
      | (go_at_call 24; go_must (refine hpl.out.mono ?_); rintro e w1 ⟨rfl, hb1⟩
         have c0 := (hD.out.below hb1).c0
         have hde := Lib.hid (hde w1 hb1))
      | (go_at_call 31; go_must (refine hde.out.mono ?_); rintro e w3 ⟨rfl, hrow3, hg3⟩
         have hblk3 := (hD.out.below hb1).blk.grown hg3 (fun e => hgp e.symm)
         have c03 : w3.cell? ⟨p, 0, none⟩ = some (.slice (some ⟨g, 0, none⟩) (m + 1) cap) := by rw [hblk3.cell]; rfl
         have f03 : w3.frozen? ⟨p, 0, none⟩ = false := hblk3.frozen 0
         have hgw := Lib.hid hg3
         clear hg3))
    go_end0
    have hown5 := OwnFiles.of_row (n := m) hok1.ok (hrow3.far (fun e => hgp (by rw [e])) 0 (.slice (some ⟨g, 0, none⟩) m cap) (g' := p)) hg hlen.symm
    have hD5 : Blk (w3.setCell ⟨p, 0, none⟩ (.slice (some ⟨g, 0, none⟩) m cap)) p 47 (diskC (.slice (some ⟨g, 0, none⟩) m cap) { s with l := s.l.eraseIdx i }) := hblk3.set_ 0 _
    have hfar : Far [some p, some g] w w3 := (Far.of_below hb1).then_ (Far.of_grown hgw.out) fun k hk => .inl (List.mem_cons_of_mem _ hk)
    exact ⟨rfl, _, ⟨hD5, hown5, hok1⟩, hfar.set_ (p := ⟨p, 0, none⟩) (.inl (by simp)) _, .inl rfl⟩
end Go.Proofs.Ytejaeclcgkcklaa
