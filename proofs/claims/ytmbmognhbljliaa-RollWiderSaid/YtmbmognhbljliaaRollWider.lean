/-
  The walk of the law RollWider.
-/
import Derived.Test.YtmbmognhbljliaaJoin
import Derived.Test.YtmbmognhbljliaaAgain
import Derived.Test.YtmbmognhbljliaaBeside
import Derived.Test.YtmbmognhbljliaaRoll6
import Derived.Test.YtmbmognhbljliaaSameWin
namespace Go.Proofs.Ytmbmognhbljliaa.RollWider
open Go.RowKit Go.Gh Go.Proofs.Ytmbmognhbljliaa.Roll Go.Proofs.Ytmbmognhbljliaa.SameWin
set_option linter.unusedVariables false
theorem join_want {l m : List (List Int)} (h1 : winF l = 0) (h2 : winF m = 0) : Join.joinAll l m = besideR bothW Roll.bigW l m := by
  unfold Join.joinAll
  rw [if_pos h1, if_pos h2]
  have := join_beside (both := bothW) (big := Roll.bigW) (fun _ _ => rfl) (win_asc h1).1 (win_asc h2).1
  rw [this]
  rfl
set_option maxHeartbeats 2000000 in
set_option maxRecDepth 100000 in
theorem walk (v0 v1 v2 : Value) (w : World) (h0 : IsRows 7 w v0) (h1 : IsRows 7 w v1) (h2 : IsInt .i64 w v2) :
    Calls Try.prog 9 #[v0, v1, v2] w fun e w' => e = .returned (.bool true) ∧ Below w.heap.size w w' := by
  obtain ⟨n, l, hs, hl, hr, hn⟩ := h0
  obtain ⟨o, m, ht, hm, hrm, ho⟩ := h1
  obtain ⟨width, rfl, _⟩ := h2
  have HL := Lib.hid hl
  have HM := Lib.hid hm
  obtain ⟨e1, he1⟩ : ∃ e, winF l = e := ⟨_, rfl⟩
  obtain ⟨e2, he2⟩ : ∃ e, winF m = e := ⟨_, rfl⟩
  have HE1 := Lib.hid he1
  have HE2 := Lib.hid he2
  obtain ⟨A, hA⟩ : ∃ R, againR l width = R := ⟨_, rfl⟩
  have HA := Lib.hid hA
  obtain ⟨R, hR⟩ : ∃ R, Join.joinAll l m = R := ⟨_, rfl⟩
  have HR := Lib.hid hR
  by_cases hz1 : e1 = 0
  · subst hz1
    have hn2 : n ≤ 1000 := by have := (win_asc he1).2; omega
    have hA2 : rolled l width = A := by rw [← hA]; exact (if_pos he1).symm
    have HA2 := Lib.hid hA2
    have a1 : (A.2 != A.2) = false := by simp
    by_cases hz2 : e2 = 0
    · subst hz2
      have ho2 : o ≤ 1000 := by have := (win_asc he2).2; omega
      have hW := join_want he1 he2
      rw [hR] at hW
      have HW := Lib.hid hW.symm
      have a2 : (R.2 == R.2) = true := by simp
      clear hl hm he1 he2 hA hR hW hA2
      go_enter Try.func9, Try.ntmps9
      go_wp2_with fail
      refine (again_any v0 n l width _ hs HL.out hr.k hn).mono ?_
      rw [HA.out]
      rintro e w1 ⟨va, rfl, hown1, hb1, hk1, hle1⟩
      go_wp2_with fail
      refine (Join.join_any v0 v1 n o l m _ (hs.below hb1) (ht.below hb1) HL.out HM.out hr hrm hn ho).mono ?_
      rw [HR.out]
      rintro e w2 ⟨vb, rfl, hown2, hb2, hk2, hle2⟩
      have hB2 := hb1.trans (hb2.mono hb1.size)
      go_wp2_with fail
      refine (Win.windowsfault_any v0 n l _ (hs.below hB2) HL.out hr.k hn).mono ?_
      rw [HE1.out]
      rintro e w3 ⟨rfl, hb3⟩
      have hB3 := hB2.trans (hb3.mono hB2.size)
      go_wp2_with fail
      refine (Win.check_any v0 n l _ (hs.below hB3) HL.out hr.k hn).mono ?_
      rw [HE1.out]
      rintro e w4 ⟨rfl, hb4⟩
      have hB4 := hB3.trans (hb4.mono hB3.size)
      go_wp2_with fail
      refine (wider_any v0 n l width _ (hs.below hB4) HL.out hr.k hn2).mono ?_
      rw [HA2.out]
      rintro e w5 ⟨vc, rfl, hown5, hb5, hk5, hle5⟩
      have hB5 := hB4.trans (hb5.mono hB4.size)
      go_wp2_with fail
      have hsa := ((((own_sl hown1).below hb2).below hb3).below hb4).below hb5
      refine (samewin_any va vc _ _ A.1 A.1 _ hsa (own_sl hown5) rfl rfl hk1 hk5).mono ?_
      rw [decide_eq_true rfl]
      rintro e w6 ⟨rfl, hb6⟩
      have hB6 := hB5.trans (hb6.mono hB5.size)
      go_wp2_with fail
      refine (Win.windowsfault_any v1 o m _ (ht.below hB6) HM.out hrm.k ho).mono ?_
      rw [HE2.out]
      rintro e w7 ⟨rfl, hb7⟩
      have hB7 := hB6.trans (hb7.mono hB6.size)
      go_wp2_with fail
      refine (beside_any v0 v1 n o l m _ (hs.below hB7) (ht.below hB7) HL.out HM.out hr.k hrm.k hn2 ho2).mono ?_
      rw [HW.out]
      rintro e w8 ⟨vd, rfl, hown8, hb8, hk8, hle8⟩
      have hB8 := hB7.trans (hb8.mono hB7.size)
      go_wp2_with fail
      have hsb := (((((own_sl hown2).below hb3).below hb4).below hb5).below hb6).below hb7
      refine (samewin_any vb vd _ _ R.1 R.1 _ (hsb.below hb8) (own_sl hown8) rfl rfl hk2 hk8).mono ?_
      rw [decide_eq_true rfl]
      rintro e w9 ⟨rfl, hb9⟩
      have hB9 := hB8.trans (hb9.mono hB8.size)
      go_wp2_with fail
      go_ret
      exact ⟨rfl, hB9⟩
    · have hR2 : R = ([], e2) := by
        rw [← hR]
        unfold Join.joinAll
        rw [if_pos he1, he2, if_neg hz2]
      subst hR2
      have t1 : (e2 != 0) = true := by rw [bne_iff_ne]; exact hz2
      have t2 : (e2 == e2) = true := by simp
      clear hl hm he1 he2 hA hR hA2
      go_enter Try.func9, Try.ntmps9
      go_wp2_with fail
      refine (again_any v0 n l width _ hs HL.out hr.k hn).mono ?_
      rw [HA.out]
      rintro e w1 ⟨va, rfl, hown1, hb1, hk1, hle1⟩
      go_wp2_with fail
      refine (Join.join_any v0 v1 n o l m _ (hs.below hb1) (ht.below hb1) HL.out HM.out hr hrm hn ho).mono ?_
      rw [HR.out]
      rintro e w2 ⟨vb, rfl, hown2, hb2, hk2, hle2⟩
      obtain ⟨ba, bc, rfl, hb1', hb2', _⟩ := own_shape hown2
      have hB2 := hb1.trans (hb2.mono hb1.size)
      go_wp2_with fail
      refine (Win.windowsfault_any v0 n l _ (hs.below hB2) HL.out hr.k hn).mono ?_
      rw [HE1.out]
      rintro e w3 ⟨rfl, hb3⟩
      have hB3 := hB2.trans (hb3.mono hB2.size)
      go_wp2_with fail
      refine (Win.check_any v0 n l _ (hs.below hB3) HL.out hr.k hn).mono ?_
      rw [HE1.out]
      rintro e w4 ⟨rfl, hb4⟩
      have hB4 := hB3.trans (hb4.mono hB3.size)
      go_wp2_with fail
      refine (wider_any v0 n l width _ (hs.below hB4) HL.out hr.k hn2).mono ?_
      rw [HA2.out]
      rintro e w5 ⟨vc, rfl, hown5, hb5, hk5, hle5⟩
      have hB5 := hB4.trans (hb5.mono hB4.size)
      go_wp2_with fail
      have hsa := ((((own_sl hown1).below hb2).below hb3).below hb4).below hb5
      refine (samewin_any va vc _ _ A.1 A.1 _ hsa (own_sl hown5) rfl rfl hk1 hk5).mono ?_
      rw [decide_eq_true rfl]
      rintro e w6 ⟨rfl, hb6⟩
      have hB6 := hB5.trans (hb6.mono hB5.size)
      go_wp2_with fail
      refine (Win.windowsfault_any v1 o m _ (ht.below hB6) HM.out hrm.k ho).mono ?_
      rw [HE2.out]
      rintro e w7 ⟨rfl, hb7⟩
      have hB7 := hB6.trans (hb7.mono hB6.size)
      go_wp2_with fail
      go_ret
      exact ⟨rfl, hB7⟩
  · have hR2 : R = ([], e1) := by
      rw [← hR]
      unfold Join.joinAll
      rw [he1, if_neg hz1]
    have hA2 : A = ([], e1) := by
      rw [← hA]
      unfold againR
      rw [he1, if_neg hz1]
    subst hR2
    subst hA2
    have t1 : (e1 != 0) = true := by rw [bne_iff_ne]; exact hz1
    have t2 : (e1 == e1) = true := by simp
    have t3 : (e1 != e1) = false := by simp
    clear hl hm he1 he2 hA hR
    go_enter Try.func9, Try.ntmps9
    go_wp2_with fail
    refine (again_any v0 n l width _ hs HL.out hr.k hn).mono ?_
    rw [HA.out]
    rintro e w1 ⟨va, rfl, hown1, hb1, hk1, hle1⟩
    obtain ⟨aa, ac, rfl, ha1, ha2, _⟩ := own_shape hown1
    go_wp2_with fail
    refine (Join.join_any v0 v1 n o l m _ (hs.below hb1) (ht.below hb1) HL.out HM.out hr hrm hn ho).mono ?_
    rw [HR.out]
    rintro e w2 ⟨vb, rfl, hown2, hb2, hk2, hle2⟩
    obtain ⟨ba, bc, rfl, hb1', hb2', _⟩ := own_shape hown2
    have hB2 := hb1.trans (hb2.mono hb1.size)
    go_wp2_with fail
    refine (Win.windowsfault_any v0 n l _ (hs.below hB2) HL.out hr.k hn).mono ?_
    rw [HE1.out]
    rintro e w3 ⟨rfl, hb3⟩
    have hB3 := hB2.trans (hb3.mono hB2.size)
    go_wp2_with fail
    refine (Win.check_any v0 n l _ (hs.below hB3) HL.out hr.k hn).mono ?_
    rw [HE1.out]
    rintro e w4 ⟨rfl, hb4⟩
    have hB4 := hB3.trans (hb4.mono hB3.size)
    go_wp2_with fail
    go_ret
    exact ⟨rfl, hB4⟩
end Go.Proofs.Ytmbmognhbljliaa.RollWider
