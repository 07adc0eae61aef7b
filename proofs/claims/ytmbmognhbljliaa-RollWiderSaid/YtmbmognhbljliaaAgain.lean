/-
  The walk of roll.Again.
-/
import Derived.Test.YtmbmognhbljliaaRoll4
import Derived.Test.YtmbmognhbljliaaWin
namespace Go.Proofs.Ytmbmognhbljliaa.Roll
open Go.RowKit Go.Gh Go.Proofs.Ytmbmognhbljliaa.Smp
set_option linter.unusedVariables false
noncomputable def againR (l : List (List Int)) (width : Int) : List (List Int) × Int := if winF l = 0 then rolled l width else ([], winF l)
theorem foldPost_below' {w w1 w' : World} {r : List (List Int) × Int} {e : Ending} (h : FoldPost w1 r e w') (hb : Below w.heap.size w w1) : FoldPost w r e w' := by
  obtain ⟨v, h1, h2, h3, h4, h5⟩ := h
  exact ⟨v, h1, own_mono h2 hb.size, hb.trans (h3.mono hb.size), h4, h5⟩
set_option maxRecDepth 100000 in
theorem again_any (v : Value) (n : Nat) (l : List (List Int)) (width : Int) (w : World) (hs : Sl w 7 v n (rowCells l)) (hl : l.length = n) (hr : RowsK 7 l) (hn : n ≤ 140737488355328) :
    Calls Try.prog 48 #[v, .int .i64 width] w (FoldPost w (againR l width)) := by
  obtain ⟨ao, c, rfl, hnc, hc, _⟩ := hs.shape
  have HL := Lib.hid hl
  obtain ⟨e0, he0⟩ : ∃ e, winF l = e := ⟨_, rfl⟩
  have HE := Lib.hid he0
  by_cases hbad : e0 = 0
  · subst hbad
    have hn2 : n ≤ 1000 := by have := (win_asc he0).2; omega
    have HF : Hid (againR l width = rolled l width) := if_pos he0
    clear hl he0
    go_enter Try.func48, Try.ntmps48
    go_wp2_with (go_at_call 51; refine (Win.check_any _ n l _ hs HL.out hr hn).mono ?_; rw [HE.out]; rintro e w1 ⟨rfl, hb1⟩)
    refine (fold_any _ n l width _ (hs.below hb1) HL.out hr hn2).mono ?_
    rintro e w3 h3
    have h4 := foldPost_below' h3 hb1
    rw [← HF.out] at h4
    obtain ⟨v', rfl, h5, h6, h7, h8⟩ := h4
    have HFIN : Hid (FoldPost w (againR l width) (.returned (.tuple #[v', .int .i64 (againR l width).2])) w3) := ⟨v', rfl, h5, h6, h7, h8⟩
    clear h3 h5 h6 h7 h8
    generalize (againR l width).2 = ee at *
    go_wp2_with fail
    go_ret2
    exact HFIN.out
  · have HF : Hid (againR l width = ([], e0)) := by
      show _ = _
      unfold againR
      rw [he0, if_neg hbad]
    have t1 : (e0 != 0) = true := by rw [bne_iff_ne]; exact hbad
    clear hl he0
    go_enter Try.func48, Try.ntmps48
    go_wp2_with (go_at_call 51; refine (Win.check_any _ n l _ hs HL.out hr hn).mono ?_; rw [HE.out]; rintro e w1 ⟨rfl, hb1⟩)
    go_ret2
    exact foldPost_nil HF.out hb1
end Go.Proofs.Ytmbmognhbljliaa.Roll
