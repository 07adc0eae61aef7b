/-
  The walk of the law RateTells.
-/
import Derived.Test.YtmbmognhbljliaaRate4
import Derived.Test.YtmbmognhbljliaaRate5
namespace Go.Proofs.Ytmbmognhbljliaa.RateTells
open Go.RowKit Go.Gh Go.Proofs.Ytmbmognhbljliaa.Rate
set_option linter.unusedVariables false
set_option maxHeartbeats 2000000 in
set_option maxRecDepth 100000 in
theorem walk (v0 v1 v2 v3 : Value) (w : World) (h0 : IsRows 2 w v0) (h1 : IsInt .i64 w v1) (h2 : IsInt .i64 w v2) (h3 : IsInt .i64 w v3) :
    Calls Try.prog 10 #[v0, v1, v2, v3] w fun e w' => e = .returned (.bool true) ∧ Below w.heap.size w w' := by
  obtain ⟨n, l, hs, hl, hr, hn⟩ := h0
  obtain ⟨fr, rfl, _⟩ := h1
  obtain ⟨till, rfl, _⟩ := h2
  obtain ⟨unit, rfl, _⟩ := h3
  have HL := Lib.hid hl
  obtain ⟨e1, he1⟩ : ∃ e, counterF l = e := ⟨_, rfl⟩
  have HE1 := Lib.hid he1
  obtain ⟨P, hP⟩ : ∃ R, perR l fr till unit = R := ⟨_, rfl⟩
  have HP := Lib.hid hP
  obtain ⟨P1, P2⟩ := P
  have p1 : (P1 != P1) = false := by simp
  have p2 : (P2 != P2) = false := by simp
  by_cases hz1 : e1 = 0
  · subst hz1
    have hG := gr_ok he1 hl
    obtain ⟨g, hg⟩ : ∃ g, IntKind.u64.wrap (gS l n) = g := ⟨_, rfl⟩
    rw [hg] at hG
    have HG := Lib.hid hG
    have HGS := Lib.hid hg
    have hn2 : n ≤ 1000 := by have := (mid_ok (fr := 0) (till := 0) he1).2.2.1; omega
    have hno : NoNeg l n := by
      have h := he1
      by_cases hs0 : Smp.sampF l = 0
      · unfold counterF at h
        rw [if_pos hs0, hl] at h
        by_cases hn : NoNeg l n
        · exact hn
        · rw [if_neg hn] at h; simp at h
      · rw [counter_bad hs0] at h; exact absurd h hs0
    have HNO := Lib.hid hno
    have g1 : (g == g) = true := by simp
    have g2 : ((gA l n : Int) == (gA l n : Int)) = true := by simp
    clear hl he1 hP hG hg hno
    go_enter Try.func10, Try.ntmps10
    go_wp2_with fail
    refine (grown_any v0 n l _ hs HL.out hr hn).mono ?_
    rw [HG.out]
    rintro e w1 ⟨rfl, hb1⟩
    go_wp2_with fail
    refine (per_any v0 n l fr till unit _ (hs.below hb1) HL.out hr hn).mono ?_
    rw [HP.out]
    rintro e w2 ⟨rfl, hb2⟩
    have hB2 := hb1.trans (hb2.mono hb1.size)
    go_wp2_with fail
    refine (perunit_any v0 n l fr till unit _ (hs.below hB2) HL.out hr hn).mono ?_
    rw [HP.out]
    rintro e w3 ⟨rfl, hb3⟩
    have hB3 := hB2.trans (hb3.mono hB2.size)
    go_wp2_with fail
    refine (counter_any v0 n l _ (hs.below hB3) HL.out hr hn).mono ?_
    rw [HE1.out]
    rintro e w4 ⟨rfl, hb4⟩
    have hB4 := hB3.trans (hb4.mono hB3.size)
    go_wp2_with fail
    refine (grownby_any v0 n l _ (hs.below hB4) HL.out hr hn2 HNO.out).mono ?_
    unfold GbPost
    rw [HGS.out]
    rintro e w5 ⟨rfl, hb5⟩
    have hB5 := hB4.trans (hb5.mono hB4.size)
    go_wp2_with fail
    go_ret
    exact ⟨rfl, hB5⟩
  · have HG := Lib.hid (gr_bad he1 hz1)
    have t1 : (e1 != 0) = true := by rw [bne_iff_ne]; exact hz1
    have t2 : (e1 == e1) = true := by simp
    clear hl he1 hP
    go_enter Try.func10, Try.ntmps10
    go_wp2_with fail
    refine (grown_any v0 n l _ hs HL.out hr hn).mono ?_
    rw [HG.out]
    rintro e w1 ⟨rfl, hb1⟩
    go_wp2_with fail
    refine (per_any v0 n l fr till unit _ (hs.below hb1) HL.out hr hn).mono ?_
    rw [HP.out]
    rintro e w2 ⟨rfl, hb2⟩
    have hB2 := hb1.trans (hb2.mono hb1.size)
    go_wp2_with fail
    refine (perunit_any v0 n l fr till unit _ (hs.below hB2) HL.out hr hn).mono ?_
    rw [HP.out]
    rintro e w3 ⟨rfl, hb3⟩
    have hB3 := hB2.trans (hb3.mono hB2.size)
    go_wp2_with fail
    refine (counter_any v0 n l _ (hs.below hB3) HL.out hr hn).mono ?_
    rw [HE1.out]
    rintro e w4 ⟨rfl, hb4⟩
    have hB4 := hB3.trans (hb4.mono hB3.size)
    go_wp2_with fail
    go_ret
    exact ⟨rfl, hB4⟩
end Go.Proofs.Ytmbmognhbljliaa.RateTells
