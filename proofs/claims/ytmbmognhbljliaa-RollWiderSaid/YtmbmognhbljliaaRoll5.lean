/-
  The walk of roll.Roll.
-/
import Derived.Test.YtmbmognhbljliaaRoll4
namespace Go.Proofs.Ytmbmognhbljliaa.Roll
open Go.RowKit Go.Gh Go.Proofs.Ytmbmognhbljliaa.Smp
set_option linter.unusedVariables false

open Classical in
noncomputable def rollR (l : List (List Int)) (width : Int) : List (List Int) × Int := if sampF l = 0 then rolled (l.map oneW) width else ([], sampF l)
theorem ones_k (l : List (List Int)) : RowsK 7 (l.map oneW) := by
  intro r hr
  obtain ⟨s, _, rfl⟩ := List.mem_map.1 hr
  rfl
theorem sampF_small {l : List (List Int)} (h : sampF l = 0) : l.length ≤ 1000 := by
  unfold sampF at h
  split at h
  · simp at h
  · omega
theorem foldPost_below {w w1 w' : World} {r : List (List Int) × Int} {e : Ending} (h : FoldPost w1 r e w') (hb : Below w.heap.size w w1) : FoldPost w r e w' := by
  obtain ⟨v, h1, h2, h3, h4, h5⟩ := h
  exact ⟨v, h1, own_mono h2 hb.size, hb.trans (h3.mono hb.size), h4, h5⟩

set_option maxHeartbeats 2000000 in
set_option maxRecDepth 100000 in
theorem roll_any (v : Value) (n : Nat) (l : List (List Int)) (width : Int) (w : World) (hs : Sl w 2 v n (rowCells l)) (hl : l.length = n) (hr : Rows64 2 l) (hn : n ≤ 140737488355328) :
    Calls Try.prog 26 #[v, .int .i64 width] w (FoldPost w (rollR l width)) := by
  obtain ⟨ao, c, rfl, hnc, hc, _⟩ := hs.shape
  have HL := Lib.hid hl
  obtain ⟨e0, he0⟩ : ∃ e, sampF l = e := ⟨_, rfl⟩
  have HE := Lib.hid he0
  by_cases hbad : e0 = 0
  · subst hbad
    have hn2 : n ≤ 1000 := by have := sampF_small he0; omega
    have HF : Hid (rollR l width = rolled (l.map oneW) width) := if_pos he0
    clear hl he0
    go_enter Try.func26, Try.ntmps26
    go_wp2_with (go_at_call 67; refine (check_any _ n l _ hs HL.out hr hn).mono ?_; rw [HE.out]; rintro e w1 ⟨rfl, hb1⟩)
    go_loopw [7, 17] (fun u i wr => ∃ k : Nat, k ≤ n ∧ i = .int .i64 k ∧ wr.ownsRow w.heap.size 92 7 u k (oneRows l k) ∧ Below w.heap.size w wr) (fun _ i _ => n - (intOf i).toNat)
    case atStart => exact ⟨0, by omega, rfl, World.ownsRow_nil _ _ _ _, hb1⟩
    case round =>
      obtain ⟨k, hk, rfl, hown, hbel⟩ := hrel
      have hsz := hbel.size
      by_cases hlt : k < n
      · obtain ⟨b, off, rfl, hk1, hk2, hck⟩ := (hs.below hbel).row HL.out hr hlt
        have c0 := hck 0 (by decide)
        have c1 := hck 1 (by decide)
        rw [Nat.add_zero] at c0
        have HO := Lib.hid (oneRows_succ l k (by rw [HL.out]; exact hlt))
        clear hck hk1 hk2
        generalize (l.getD k []).getD 0 0 = T at *
        generalize (l.getD k []).getD 1 0 = V at *
        have hbelA := hbel.alloc hsz (Obj.cells #[.int .i64 T, .int .i64 V] 90)
        go_wp2_with (at_builtin; refine append1p ([T, 1, V, V, V, V, V].map (Value.int .i64)) elWin rfl _ _ rfl (hown.alloc _) hbelA ?c1 rfl rfl ?c0 rfl (ints7 _) ?c2 ?c3 ?_)
        case c0 => simp
        case c1 => simp; omega
        case c2 => omega
        case c3 => omega
        intro v' w2 hown' hbel' _
        rw [← HO.out] at hown'
        clear hown hbel hbelA c0 c1
        go_wp2
        go_roundw
        case rel => exact ⟨k + 1, by omega, by go_num, hown', hbel'⟩
        case measure => simp [intOf]; omega
      · obtain rfl : k = n := by omega
        rw [oneRows_all l k HL.out] at hown
        have hsl := own_sl hown
        have hml : (l.map oneW).length = k := by rw [List.length_map]; exact HL.out
        have HML := Lib.hid hml
        clear hml
        have HO := Lib.hid hown
        clear hown
        go_wp2_with fail
        refine (fold_any _ k (l.map oneW) width _ hsl HML.out (ones_k l) hn2).mono ?_
        rintro e w3 h3
        have h4 := foldPost_below h3 hbel
        rw [← HF.out] at h4
        obtain ⟨v', rfl, h5, h6, h7, h8⟩ := h4
        have HFIN : Hid (FoldPost w (rollR l width) (.returned (.tuple #[v', .int .i64 (rollR l width).2])) w3) := ⟨v', rfl, h5, h6, h7, h8⟩
        clear h3 h5 h6 h7 h8
        generalize (rollR l width).2 = ee at *
        go_wp2_with fail
        go_ret2
        exact HFIN.out
  · have HF : Hid (rollR l width = ([], e0)) := by
      show _ = _
      unfold rollR
      rw [he0, if_neg hbad]
    have t1 : (e0 != 0) = true := by rw [bne_iff_ne]; exact hbad
    clear hl he0
    go_enter Try.func26, Try.ntmps26
    go_wp2_with (go_at_call 67; refine (check_any _ n l _ hs HL.out hr hn).mono ?_; rw [HE.out]; rintro e w1 ⟨rfl, hb1⟩)
    go_ret2
    exact foldPost_nil HF.out hb1
end Go.Proofs.Ytmbmognhbljliaa.Roll
