/-
  The walk of Range.
-/
import Derived.Test.YtmbmognhbljliaaSearch
namespace Go.Proofs.Ytmbmognhbljliaa.Sam
open Go.RowKit Go.Gh
set_option linter.unusedVariables false
noncomputable def rangeR (l : List (List Int)) (fr till : Int) : List (List Int) × Int := if Smp.sampF l = 0 then (betF fr till l, 0) else ([], Smp.sampF l)
/-- What Search says of a list in order. -/
theorem place_of {l : List (List Int)} {n k : Nat} {x : Int} (hl : l.length = n) (hk : k ≤ n) (h1 : ∀ t, t < k → decide (x ≤ rg (l.getD t []) 0) = false) (h2 : ∀ t, k ≤ t → t < n → decide (x ≤ rg (l.getD t []) 0) = true) : PlaceOf x l k :=
  ⟨by omega, fun t ht => by have := of_decide_eq_false (h1 t ht); omega, fun t ht h => of_decide_eq_true (h2 t ht (by omega))⟩
theorem mono_of {l : List (List Int)} {n : Nat} {x : Int} (hl : l.length = n) (ha : Asc l) : ∀ a b, a ≤ b → b < n → decide (x ≤ rg (l.getD a []) 0) = true → decide (x ≤ rg (l.getD b []) 0) = true := by
  intro a b hab hb h
  have := ha.le hab (by omega)
  have := of_decide_eq_true h
  exact decide_eq_true (by omega)
set_option maxHeartbeats 2000000 in
set_option maxRecDepth 100000 in
theorem range_any (v : Value) (n : Nat) (l : List (List Int)) (fr till : Int) (w : World) (hs : Sl w 2 v n (rowCells l)) (hl : l.length = n) (hr : Rows64 2 l) (hn : n ≤ 140737488355328) :
    Calls Try.prog 32 #[v, .int .i64 fr, .int .i64 till] w (RowPost 90 2 w (rangeR l fr till)) := by
  obtain ⟨ao, c, rfl, hnc, hc, _⟩ := hs.shape
  have HL := Lib.hid hl
  obtain ⟨W0, hW0⟩ : ∃ W0, W0 = ((w.alloc (.cells #[.slice ao n c] 35)).alloc (.cells #[.int .i64 fr] 2)).alloc (.cells #[.int .i64 till] 2) := ⟨_, rfl⟩
  have hsize : W0.heap.size = w.heap.size + 1 + 1 + 1 := by rw [hW0]; simp
  have hB0 : Below w.heap.size w W0 := by rw [hW0]; exact (((Below.refl _ w).alloc (Nat.le_refl _) _).alloc (by simp) _).alloc (by simp; omega) _
  have ca : W0.cell? ⟨w.heap.size, 0, none⟩ = some (.slice ao n c) := by
    rw [hW0]
    exact (row_cell 0 _ (by rw [Below.heap_alloc _ _ _ (by simp; omega)]; exact two_first w _ _) rfl).1
  have cx : W0.cell? ⟨w.heap.size + 1, 0, none⟩ = some (.int .i64 fr) := by
    rw [hW0]
    exact (row_cell 0 _ (by rw [Below.heap_alloc _ _ _ (by simp)]; exact two_second w _ _) rfl).1
  have cy : W0.cell? ⟨w.heap.size + 1 + 1, 0, none⟩ = some (.int .i64 till) := by
    rw [hW0]
    have := two_second (w.alloc (.cells #[.slice ao n c] 35)) (.cells #[.int .i64 fr] 2) (.cells #[.int .i64 till] 2)
    rw [World.size_alloc] at this
    exact (row_cell 0 _ this rfl).1
  have hS0 := hs.below hB0
  obtain ⟨e0, he0⟩ : ∃ e, Smp.sampF l = e := ⟨_, rfl⟩
  have HE := Lib.hid he0
  have HS := Lib.hid hsize
  by_cases hbad : e0 = 0
  · subst hbad
    have hn2 : n ≤ 1000 := by have := fault_small he0; omega
    have hasc := fault_asc he0
    have HA := Lib.hid hasc
    have HF : Hid (rangeR l fr till = (betF fr till l, 0)) := if_pos he0
    have eg1 : ∀ args w, (callFunc 73 args).run Try.prog w = .ok (.enter 73 args) w := enters_of Try.func73 (by kernel_rfl) rfl
    have eg2 : ∀ args w, (callFunc 74 args).run Try.prog w = .ok (.enter 74 args) w := enters_of Try.func74 (by kernel_rfl) rfl
    have S1 : ∀ w1, Below W0.heap.size W0 w1 → Calls Try.prog 72 #[.int .i64 n, .func (.func 73) #[] #[.pointer (some ⟨w.heap.size, 0, none⟩), .pointer (some ⟨w.heap.size + 1, 0, none⟩)]] w1 fun e w' => (∃ k : Nat, k ≤ n ∧ e = .returned (.int .i64 k) ∧ Hid (PlaceOf fr l k)) ∧ Below w1.heap.size w1 w' := by
      intro w1 hb1
      refine (search_any 73 _ n (fun i => decide (fr ≤ rg (l.getD i []) 0)) w1 eg1 (by omega) ?_ (mono_of hl hasc)).mono ?_
      · intro i w' hi hb
        have hbb := hb1.trans (hb.mono hb1.size)
        exact closure1 w.heap.size (w.heap.size + 1) n c ao l fr i w' hi ((hbb.cell (p := ⟨w.heap.size, 0, none⟩) (by show w.heap.size < _; omega)).trans ca) ((hbb.cell (p := ⟨w.heap.size + 1, 0, none⟩) (by show w.heap.size + 1 < _; omega)).trans cx) (hS0.below hbb) hl hr.k
      · rintro e w' ⟨⟨k, h1, h2, h3, h4⟩, h5⟩
        exact ⟨⟨k, h1, h2, Lib.hid (place_of hl h1 h3 h4)⟩, h5⟩
    have S2 : ∀ w1, Below W0.heap.size W0 w1 → Calls Try.prog 72 #[.int .i64 n, .func (.func 74) #[] #[.pointer (some ⟨w.heap.size, 0, none⟩), .pointer (some ⟨w.heap.size + 1 + 1, 0, none⟩)]] w1 fun e w' => (∃ k : Nat, k ≤ n ∧ e = .returned (.int .i64 k) ∧ Hid (PlaceOf till l k)) ∧ Below w1.heap.size w1 w' := by
      intro w1 hb1
      refine (search_any 74 _ n (fun i => decide (till ≤ rg (l.getD i []) 0)) w1 eg2 (by omega) ?_ (mono_of hl hasc)).mono ?_
      · intro i w' hi hb
        have hbb := hb1.trans (hb.mono hb1.size)
        exact closure2 w.heap.size (w.heap.size + 1 + 1) n c ao l till i w' hi ((hbb.cell (p := ⟨w.heap.size, 0, none⟩) (by show w.heap.size < _; omega)).trans ca) ((hbb.cell (p := ⟨w.heap.size + 1 + 1, 0, none⟩) (by show w.heap.size + 1 + 1 < _; omega)).trans cy) (hS0.below hbb) hl hr.k
      · rintro e w' ⟨⟨k, h1, h2, h3, h4⟩, h5⟩
        exact ⟨⟨k, h1, h2, Lib.hid (place_of hl h1 h3 h4)⟩, h5⟩
    have HS1 := Lib.hid S1
    have HS2 := Lib.hid S2
    clear S1 S2 hasc hl he0 eg1 eg2 hsize cx cy
    go_enter Try.func32, Try.ntmps32
    go_wp2_with fail
    rw [← hW0]
    refine (Smp.check_any _ n l _ hS0 HL.out hr hn).mono ?_
    rw [HE.out]
    rintro e w1 ⟨rfl, hb1⟩
    have d1 : w1.cell? ⟨w.heap.size, 0, none⟩ = some (.slice ao n c) := (hb1.cell (p := ⟨w.heap.size, 0, none⟩) (by show w.heap.size < _; rw [HS.out]; omega)).trans ca
    go_wp2_with fail
    refine (HS1.out _ hb1).mono ?_
    rintro e w2 ⟨⟨i, hi, rfl, hp1⟩, hb2⟩
    have hb12 := hb1.trans (hb2.mono hb1.size)
    have d2 : w2.cell? ⟨w.heap.size, 0, none⟩ = some (.slice ao n c) := (hb12.cell (p := ⟨w.heap.size, 0, none⟩) (by show w.heap.size < _; rw [HS.out]; omega)).trans ca
    clear d1
    go_wp2_with fail
    refine (HS2.out _ hb12).mono ?_
    rintro e w3 ⟨⟨k, hk, rfl, hp2⟩, hb3⟩
    have hb13 := hb12.trans (hb3.mono hb12.size)
    have d3 : w3.cell? ⟨w.heap.size, 0, none⟩ = some (.slice ao n c) := (hb13.cell (p := ⟨w.heap.size, 0, none⟩) (by show w.heap.size < _; rw [HS.out]; omega)).trans ca
    have hb03 : Below w.heap.size w w3 := hB0.trans (hb13.mono hB0.size)
    clear d2
    by_cases hik : k ≤ i
    · have HG : Hid (rangeR l fr till = ([], 0)) := by
        show _ = _
        rw [HF.out, bet_none hp1.out hp2.out hik]
      go_wp2_with fail
      go_ret2
      exact rowPost_nil HG.out hb03
    · have hik2 : i < k := by omega
      have hlen : (betF fr till l).length = k - i := by
        rw [bet_some hp1.out hp2.out (by omega), List.length_take, List.length_drop, HL.out]; omega
      have hsl : Sl w3 2 (sliced ao i k c 2) (k - i) (rowCells (betF fr till l)) := by
        have := sl_sliced (hS0.below hb13) (L := i) (H := k) (by omega) (by omega)
        rw [bet_some hp1.out hp2.out (by omega)]
        rw [rowCells_drop hr.k i (by rw [HL.out]; omega), rowCells_take (hr.k.drop i) (k - i)] at this
        exact this
      obtain ⟨b, off, rfl, hk1, hck⟩ := hs.rowk HL.out hr.k (i := i) (by omega)
      have hsl2 : Sl w3 2 (.slice (some ⟨b, off + i * 2, none⟩) (k - i) (c - i)) (k - i) (rowCells (betF fr till l)) := by
        have := hsl
        unfold sliced at this
        rw [if_neg (by omega), Option.map_some, addr_add] at this
        exact this
      have HSL := Lib.hid hsl2
      have HLE := Lib.hid hlen
      have hge : ¬ (k : Int) ≤ (i : Int) := by omega
      have hci : ¬ c = i := by omega
      clear hsl hlen hk1 hck hsl2
      go_wp2_with (at_builtin; refine appendS elSmp rfl _ _ rfl (World.ownsRow_nil _ _ _ _) hb03 hb03.size rfl rfl HSL.out (rows_one _) ?c1 ?c2 ?_)
      case c1 => omega
      case c2 => omega
      intro v' w4 hown4 hb4 _
      obtain ⟨g, cap, rfl, _⟩ := own_some hown4 (by omega)
      have HFIN : Hid (RowPost 90 2 w (rangeR l fr till) (.returned (.tuple #[.slice (some ⟨g, 0, none⟩) (k - i) cap, .int .i64 0])) w4) := by
        show RowPost _ _ _ _ _ _
        rw [HF.out]
        exact ⟨_, rfl, by rw [HLE.out]; exact hown4, hb4, betF_rows hr.k _ _, by rw [HLE.out]; omega⟩
      clear hown4
      go_wp2_with fail
      go_ret2
      exact HFIN.out
  · have HF : Hid (rangeR l fr till = ([], e0)) := by
      show _ = _
      unfold rangeR
      rw [he0, if_neg hbad]
    have t1 : (e0 != 0) = true := by rw [bne_iff_ne]; exact hbad
    clear hl he0 hsize cx cy
    go_enter Try.func32, Try.ntmps32
    go_wp2_with (go_at_call 67; rw [← hW0]; refine (Smp.check_any _ n l _ hS0 HL.out hr hn).mono ?_; rw [HE.out]; rintro e w1 ⟨rfl, hb1⟩)
    go_ret2
    exact rowPost_nil HF.out (hB0.trans (hb1.mono hB0.size))
end Go.Proofs.Ytmbmognhbljliaa.Sam
