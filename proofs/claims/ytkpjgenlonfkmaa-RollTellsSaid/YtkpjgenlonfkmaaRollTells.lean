/-
  The walk of the law RollTells.
-/
import Derived.Test.YtkpjgenlonfkmaaRoll6
import Derived.Test.YtkpjgenlonfkmaaSameWin
namespace Go.Proofs.Ytkpjgenlonfkmaa.RollTells
open Go.RowKit Go.Gh Go.Proofs.Ytkpjgenlonfkmaa.Roll Go.Proofs.Ytkpjgenlonfkmaa.Smp Go.Proofs.Ytkpjgenlonfkmaa.SameWin
set_option linter.unusedVariables false
theorem same_fold {w0 w1 w2 : World} {v u : Value} {r : List (List Int) × Int} (h1 : w1.ownsRow w0.heap.size 90 7 v r.1.length (rowCells r.1)) (hb : Below w1.heap.size w1 w2) : Sl w2 7 v r.1.length (rowCells r.1) := (own_sl h1).below hb
set_option maxHeartbeats 1000000 in
set_option maxRecDepth 100000 in
theorem walk (v0 v1 : Value) (w : World) (h0 : IsRows 2 w v0) (h1 : IsInt .i64 w v1) :
    Calls Try.prog 6 #[v0, v1] w fun e w' => e = .returned (.bool true) ∧ Below w.heap.size w w' := by
  obtain ⟨n, l, hs, hl, hr, hn⟩ := h0
  obtain ⟨width, rfl, hwd⟩ := h1
  have HL := Lib.hid hl
  obtain ⟨e0, he0⟩ : ∃ e, sampF l = e := ⟨_, rfl⟩
  have HE := Lib.hid he0
  obtain ⟨R, hR⟩ : ∃ R, rollR l width = R := ⟨_, rfl⟩
  by_cases hbad : e0 = 0
  · subst hbad
    have hn2 : n ≤ 1000 := by have := sampF_small he0; omega
    have HR2 : Hid (rolled (l.map oneW) width = R) := by show _ = _; rw [← hR]; exact (if_pos he0).symm
    have HR := Lib.hid hR
    have hml : (l.map oneW).length = n := by rw [List.length_map]; exact hl
    have HML := Lib.hid hml
    clear hR he0 hl hml
    go_enter Try.func6, Try.ntmps6
    go_wp2_with fail
    refine (roll_any v0 n l width _ hs HL.out hr hn).mono ?_
    rw [HR.out]
    rintro e w1 ⟨a, rfl, hown1, hb1, hk1, hle1⟩
    go_wp2_with fail
    refine (samplesfault_any v0 n l _ (hs.below hb1) HL.out hr hn).mono ?_
    rw [HE.out]
    rintro e w2 ⟨rfl, hb2⟩
    go_wp2_with fail
    have hB2 := hb1.trans (hb2.mono hb1.size)
    refine (oneper_any v0 n l _ (hs.below hB2) HL.out hr hn2).mono ?_
    rintro e w3 ⟨v3, rfl, hown3, hb3⟩
    have hB3 := hB2.trans (hb3.mono hB2.size)
    go_wp2_with fail
    refine (wider_any v3 n (l.map oneW) width _ (own_sl hown3) HML.out (ones_k l) hn2).mono ?_
    rw [HR2.out]
    rintro e w4 ⟨b, rfl, hown4, hb4, hk4, hle4⟩
    have hB4 := hB3.trans (hb4.mono hB3.size)
    go_wp2_with fail
    have hsa : Sl w4 7 a R.1.length (rowCells R.1) := (((own_sl hown1).below hb2).below hb3).below hb4
    refine (samewin_any a b _ _ R.1 R.1 _ hsa (own_sl hown4) rfl rfl hk1 hk4).mono ?_
    rw [decide_eq_true rfl]
    rintro e w5 ⟨rfl, hb5⟩
    have hB5 := hB4.trans (hb5.mono hB4.size)
    have t1 : (R.2 == R.2) = true := by simp
    go_wp2_with fail
    go_ret
    exact ⟨rfl, hB5⟩
  · have HR : Hid (rollR l width = ([], e0)) := by
      show _ = _
      unfold rollR
      rw [he0, if_neg hbad]
    have t1 : (e0 != 0) = true := by rw [bne_iff_ne]; exact hbad
    have t2 : (e0 == e0) = true := by simp
    clear hR he0 hl hbad
    go_enter Try.func6, Try.ntmps6
    go_wp2_with fail
    refine (roll_any v0 n l width _ hs HL.out hr hn).mono ?_
    rw [HR.out]
    rintro e w1 ⟨a, rfl, hown1, hb1, hk1, hle1⟩
    obtain ⟨ua, uc, rfl, hu1, hu2, _⟩ := own_shape hown1
    go_wp2_with fail
    refine (samplesfault_any v0 n l _ (hs.below hb1) HL.out hr hn).mono ?_
    rw [HE.out]
    rintro e w2 ⟨rfl, hb2⟩
    have hB2 := hb1.trans (hb2.mono hb1.size)
    go_wp2_with fail
    go_ret
    exact ⟨rfl, hB2⟩
end Go.Proofs.Ytkpjgenlonfkmaa.RollTells
