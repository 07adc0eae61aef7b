/-
  The walk of the law ChunkMerges.
-/
import Derived.Test.YtmbmognhbljliaaMerge
import Derived.Test.YtmbmognhbljliaaMerged
import Derived.Test.YtmbmognhbljliaaRange
import Derived.Test.YtmbmognhbljliaaBetween
import Derived.Test.YtmbmognhbljliaaSameSmp
namespace Go.Proofs.Ytmbmognhbljliaa.ChunkMerges
open Go.RowKit Go.Gh Go.Proofs.Ytmbmognhbljliaa.Sam Go.Proofs.Ytmbmognhbljliaa.Smp Go.Proofs.Ytmbmognhbljliaa.SameSmp
set_option linter.unusedVariables false
theorem bes_ok (b : List (List Int)) : ∀ (out : List (List Int)) (bad : Bool), (besF bothS bigS out bad b).2 = bad := by
  induction b with
  | nil => intro out bad; rfl
  | cons y b ih =>
    intro out bad
    have : insBig bothS bigS out y = false := by
      induction out with
      | nil => rfl
      | cons o out ih2 =>
        rw [insBig]
        split
        · exact ih2
        · split <;> rfl
    rw [besF, this, Bool.or_false]
    exact ih _ _
theorem join_want {l m : List (List Int)} (h1 : sampF l = 0) (h2 : sampF m = 0) : Merge.joinAll l m = if 1000 < (besF bothS bigS l false m).1.length then ([], 2) else ((besF bothS bigS l false m).1, 0) := by
  unfold Merge.joinAll
  rw [if_pos h1, if_pos h2]
  have := join_beside (both := bothS) (big := bigS) (fun _ _ => rfl) (fault_asc h1) (fault_asc h2)
  have e : joinR Merge.bothS Merge.bigS l m = joinR bothS bigS l m := rfl
  rw [e, ← this]
  unfold besideR
  rw [bes_ok]
  simp only [Bool.false_eq_true, false_or]
set_option maxHeartbeats 2000000 in
set_option maxRecDepth 100000 in
theorem walk (v0 v1 v2 v3 : Value) (w : World) (h0 : IsRows 2 w v0) (h1 : IsRows 2 w v1) (h2 : IsInt .i64 w v2) (h3 : IsInt .i64 w v3) :
    Calls Try.prog 6 #[v0, v1, v2, v3] w fun e w' => e = .returned (.bool true) ∧ Below w.heap.size w w' := by
  obtain ⟨n, l, hs, hl, hr, hn⟩ := h0
  obtain ⟨o, m, ht, hm, hrm, ho⟩ := h1
  obtain ⟨fr, rfl, _⟩ := h2
  obtain ⟨till, rfl, _⟩ := h3
  have HL := Lib.hid hl
  have HM := Lib.hid hm
  obtain ⟨e1, he1⟩ : ∃ e, sampF l = e := ⟨_, rfl⟩
  obtain ⟨e2, he2⟩ : ∃ e, sampF m = e := ⟨_, rfl⟩
  have HE1 := Lib.hid he1
  have HE2 := Lib.hid he2
  obtain ⟨R, hR⟩ : ∃ R, Merge.joinAll l m = R := ⟨_, rfl⟩
  have HR := Lib.hid hR
  obtain ⟨S, hS⟩ : ∃ S, rangeR l fr till = S := ⟨_, rfl⟩
  have HS := Lib.hid hS
  by_cases hz1 : e1 = 0
  · subst hz1
    have hS2 : S = (betF fr till l, 0) := by rw [← hS]; exact if_pos he1
    have hn2 : n ≤ 1000 := by have := fault_small he1; omega
    subst hS2
    by_cases hz2 : e2 = 0
    · subst hz2
      have ho2 : o ≤ 1000 := by have := fault_small he2; omega
      have hW := join_want he1 he2
      rw [hR] at hW
      have HW := Lib.hid hW
      clear hl hm he1 he2 hR hS hW
      go_enter Try.func6, Try.ntmps6
      go_wp2_with fail
      refine (Merge.merge_any v0 v1 n o l m _ hs ht HL.out HM.out hr hrm hn ho).mono ?_
      rw [HR.out]
      rintro e w1 ⟨va, rfl, hown1, hb1, hk1, hle1⟩
      go_wp2_with fail
      refine (range_any v0 n l fr till _ (hs.below hb1) HL.out hr hn).mono ?_
      rw [HS.out]
      rintro e w2 ⟨vb, rfl, hown2, hb2, hk2, hle2⟩
      have hB2 := hb1.trans (hb2.mono hb1.size)
      go_wp2_with fail
      refine (samplesfault_any v0 n l _ (hs.below hB2) HL.out hr hn).mono ?_
      rw [HE1.out]
      rintro e w3 ⟨rfl, hb3⟩
      have hB3 := hB2.trans (hb3.mono hB2.size)
      go_wp2_with fail
      refine (between_any v0 n l fr till _ (hs.below hB3) HL.out hr.k (by omega)).mono ?_
      rintro e w4 ⟨vc, rfl, hown4, hb4⟩
      have hB4 := hB3.trans (hb4.mono hB3.size)
      go_wp2_with fail
      refine (samesmp_any vb vc _ _ (betF fr till l) (betF fr till l) _ (((own_sl hown2).below hb3).below hb4) (own_sl hown4) rfl rfl hk2 hk2).mono ?_
      rw [decide_eq_true rfl]
      rintro e w5 ⟨rfl, hb5⟩
      have hB5 := hB4.trans (hb5.mono hB4.size)
      go_wp2_with fail
      refine (samplesfault_any v1 o m _ (ht.below hB5) HM.out hrm ho).mono ?_
      rw [HE2.out]
      rintro e w6 ⟨rfl, hb6⟩
      have hB6 := hB5.trans (hb6.mono hB5.size)
      go_wp2_with fail
      refine (merged_any v0 v1 n o l m _ (hs.below hB6) (ht.below hB6) HL.out HM.out hr.k hrm.k hn2 ho2).mono ?_
      rintro e w7 ⟨vd, rfl, HOWN, hb7⟩
      have hB7 := hB6.trans (hb7.mono hB6.size)
      obtain ⟨hown7, hk7, hle7⟩ := HOWN.out
      generalize hwant : besF bothS bigS l false m = want at *
      obtain ⟨W, bd⟩ := want
      obtain ⟨da, dc, rfl, hd1, hd2, _⟩ := own_shape hown7
      obtain ⟨aa, ac, rfl, ha1, ha2, _⟩ := own_shape hown1
      have hW2 := HW.out
      dsimp only at hW2 hown7 hle7
      by_cases hbig : 1000 < W.length
      · rw [if_pos hbig] at hW2
        subst hW2
        clear HW HOWN
        go_wp2_with fail
        go_ret
        exact ⟨rfl, hB7⟩
      · rw [if_neg hbig] at hW2
        subst hW2
        clear HW HOWN
        go_wp2_with fail
        have hsl1 := (((((own_sl hown1).below hb2).below hb3).below hb4).below hb5).below hb6
        refine (samesmp_any _ _ _ _ W W _ (hsl1.below hb7) (own_sl hown7) rfl rfl hk7 hk7).mono ?_
        rw [decide_eq_true rfl]
        rintro e w8 ⟨rfl, hb8⟩
        have hB8 := hB7.trans (hb8.mono hB7.size)
        go_wp2_with fail
        go_ret
        exact ⟨rfl, hB8⟩
    · have hR2 : R = ([], e2) := by
        rw [← hR]
        unfold Merge.joinAll
        rw [if_pos he1, he2, if_neg hz2]
      subst hR2
      have t1 : (e2 != 0) = true := by rw [bne_iff_ne]; exact hz2
      have t2 : (e2 == e2) = true := by simp
      clear hl hm he1 he2 hR hS
      go_enter Try.func6, Try.ntmps6
      go_wp2_with fail
      refine (Merge.merge_any v0 v1 n o l m _ hs ht HL.out HM.out hr hrm hn ho).mono ?_
      rw [HR.out]
      rintro e w1 ⟨va, rfl, hown1, hb1, hk1, hle1⟩
      obtain ⟨aa, ac, rfl, ha1, ha2, _⟩ := own_shape hown1
      go_wp2_with fail
      refine (range_any v0 n l fr till _ (hs.below hb1) HL.out hr hn).mono ?_
      rw [HS.out]
      rintro e w2 ⟨vb, rfl, hown2, hb2, hk2, hle2⟩
      have hB2 := hb1.trans (hb2.mono hb1.size)
      go_wp2_with fail
      refine (samplesfault_any v0 n l _ (hs.below hB2) HL.out hr hn).mono ?_
      rw [HE1.out]
      rintro e w3 ⟨rfl, hb3⟩
      have hB3 := hB2.trans (hb3.mono hB2.size)
      go_wp2_with fail
      refine (between_any v0 n l fr till _ (hs.below hB3) HL.out hr.k (by omega)).mono ?_
      rintro e w4 ⟨vc, rfl, hown4, hb4⟩
      have hB4 := hB3.trans (hb4.mono hB3.size)
      go_wp2_with fail
      refine (samesmp_any vb vc _ _ (betF fr till l) (betF fr till l) _ (((own_sl hown2).below hb3).below hb4) (own_sl hown4) rfl rfl hk2 hk2).mono ?_
      rw [decide_eq_true rfl]
      rintro e w5 ⟨rfl, hb5⟩
      have hB5 := hB4.trans (hb5.mono hB4.size)
      go_wp2_with fail
      refine (samplesfault_any v1 o m _ (ht.below hB5) HM.out hrm ho).mono ?_
      rw [HE2.out]
      rintro e w6 ⟨rfl, hb6⟩
      have hB6 := hB5.trans (hb6.mono hB5.size)
      go_wp2_with fail
      go_ret
      exact ⟨rfl, hB6⟩
  · have hR2 : R = ([], e1) := by
      rw [← hR]
      unfold Merge.joinAll
      rw [he1, if_neg hz1]
    have hS2 : S = ([], e1) := by
      rw [← hS]
      unfold rangeR
      rw [he1, if_neg hz1]
    subst hR2
    subst hS2
    have t1 : (e1 != 0) = true := by rw [bne_iff_ne]; exact hz1
    have t2 : (e1 == e1) = true := by simp
    clear hl hm he1 he2 hR hS
    go_enter Try.func6, Try.ntmps6
    go_wp2_with fail
    refine (Merge.merge_any v0 v1 n o l m _ hs ht HL.out HM.out hr hrm hn ho).mono ?_
    rw [HR.out]
    rintro e w1 ⟨va, rfl, hown1, hb1, hk1, hle1⟩
    obtain ⟨aa, ac, rfl, ha1, ha2, _⟩ := own_shape hown1
    go_wp2_with fail
    refine (range_any v0 n l fr till _ (hs.below hb1) HL.out hr hn).mono ?_
    rw [HS.out]
    rintro e w2 ⟨vb, rfl, hown2, hb2, hk2, hle2⟩
    obtain ⟨ba, bc, rfl, hb1', hb2', _⟩ := own_shape hown2
    have hB2 := hb1.trans (hb2.mono hb1.size)
    go_wp2_with fail
    refine (samplesfault_any v0 n l _ (hs.below hB2) HL.out hr hn).mono ?_
    rw [HE1.out]
    rintro e w3 ⟨rfl, hb3⟩
    have hB3 := hB2.trans (hb3.mono hB2.size)
    go_wp2_with fail
    go_ret
    exact ⟨rfl, hB3⟩
end Go.Proofs.Ytmbmognhbljliaa.ChunkMerges
