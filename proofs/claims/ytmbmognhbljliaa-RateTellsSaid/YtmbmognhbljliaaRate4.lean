/-
  The walk of rate.Per.
-/
import Derived.Test.YtmbmognhbljliaaRate2
import Derived.Test.YtmbmognhbljliaaRate3
import Derived.Test.YtmbmognhbljliaaRange
import Derived.Test.YtmbmognhbljliaaBetween
namespace Go.Proofs.Ytmbmognhbljliaa.Rate
open Go.RowKit Go.Gh Go.Proofs.Ytmbmognhbljliaa.Sam Go.Proofs.Ytmbmognhbljliaa.Smp
set_option linter.unusedVariables false
set_option maxHeartbeats 4000000 in
set_option maxRecDepth 100000 in
theorem per_any (v : Value) (n : Nat) (l : List (List Int)) (fr till unit : Int) (w : World) (hs : Sl w 2 v n (rowCells l)) (hl : l.length = n) (hr : Rows64 2 l) (hn : n ≤ 140737488355328) :
    Calls Try.prog 54 #[v, .int .i64 fr, .int .i64 till, .int .i64 unit] w (PerPost w (perR l fr till unit)) := by
  obtain ⟨ao, c, rfl, hnc, hc, _⟩ := hs.shape
  have HL := Lib.hid hl
  obtain ⟨e0, he0⟩ : ∃ e, counterF l = e := ⟨_, rfl⟩
  have HE := Lib.hid he0
  obtain ⟨G, hG⟩ : ∃ G, grR l = G := ⟨_, rfl⟩
  have HG := Lib.hid hG
  by_cases hbad : e0 = 0
  · subst hbad
    have hG2 : G.2.2 = 0 := by rw [← hG, gr_ok he0 hl]
    obtain ⟨G1, G2, G3⟩ := G
    dsimp only at hG2
    subst hG2
    have hn2 : n ≤ 1000 := by have := (mid_ok (fr := fr) (till := till) he0).2.2.1; omega
    clear hl he0 hG
    by_cases h1 : till ≤ fr
    · have HF : Hid (perR l fr till unit = (0, 1)) := Lib.hid (per_args HE.out (Or.inl h1))
      go_enter Try.func54, Try.ntmps54
      go_wp2_with fail
      refine (grown_any _ n l _ hs HL.out hr hn).mono ?_
      rw [HG.out]
      rintro e w1 ⟨rfl, hb1⟩
      go_wp2_with fail
      go_ret2
      exact per_post HF.out hb1
    by_cases h2 : goodT fr
    case neg =>
      have HF : Hid (perR l fr till unit = (0, 1)) := Lib.hid (per_args HE.out (Or.inr (Or.inl h2)))
      have HG1 : Hid (decide (goodT fr) = false) := decide_eq_false h2
      clear h2
      go_enter Try.func54, Try.ntmps54
      go_wp2_with fail
      refine (grown_any _ n l _ hs HL.out hr hn).mono ?_
      rw [HG.out]
      rintro e w1 ⟨rfl, hb1⟩
      go_wp2_with fail
      refine (time_any fr _).mono ?_
      rw [HG1.out]
      rintro e w' ⟨rfl, rfl⟩
      go_wp2_with fail
      go_ret2
      exact per_post HF.out hb1
    by_cases h3 : goodT till
    case neg =>
      have HF : Hid (perR l fr till unit = (0, 1)) := Lib.hid (per_args HE.out (Or.inr (Or.inr (Or.inl h3))))
      have HG1 : Hid (decide (goodT fr) = true) := decide_eq_true h2
      have HG2 : Hid (decide (goodT till) = false) := decide_eq_false h3
      clear h2 h3
      go_enter Try.func54, Try.ntmps54
      go_wp2_with fail
      refine (grown_any _ n l _ hs HL.out hr hn).mono ?_
      rw [HG.out]
      rintro e w1 ⟨rfl, hb1⟩
      go_wp2_with fail
      refine (time_any fr _).mono ?_
      rw [HG1.out]
      rintro e w' ⟨rfl, rfl⟩
      go_wp2_with fail
      refine (time_any till _).mono ?_
      rw [HG2.out]
      rintro e w' ⟨rfl, rfl⟩
      go_wp2_with fail
      go_ret2
      exact per_post HF.out hb1
    have HG1 : Hid (decide (goodT fr) = true) := decide_eq_true h2
    have HG2 : Hid (decide (goodT till) = true) := decide_eq_true h3
    by_cases h4 : unit < 1
    · have HF : Hid (perR l fr till unit = (0, 1)) := Lib.hid (per_args HE.out (Or.inr (Or.inr (Or.inr (Or.inl h4)))))
      clear h2 h3
      go_enter Try.func54, Try.ntmps54
      go_wp2_with fail
      refine (grown_any _ n l _ hs HL.out hr hn).mono ?_
      rw [HG.out]
      rintro e w1 ⟨rfl, hb1⟩
      go_wp2_with fail
      refine (time_any fr _).mono ?_
      rw [HG1.out]
      rintro e w' ⟨rfl, rfl⟩
      go_wp2_with fail
      refine (time_any till _).mono ?_
      rw [HG2.out]
      rintro e w' ⟨rfl, rfl⟩
      go_wp2_with fail
      go_ret2
      exact per_post HF.out hb1
    by_cases h5 : 1099511627776 < unit
    · have HF : Hid (perR l fr till unit = (0, 1)) := Lib.hid (per_args HE.out (Or.inr (Or.inr (Or.inr (Or.inr h5)))))
      clear h2 h3
      go_enter Try.func54, Try.ntmps54
      go_wp2_with fail
      refine (grown_any _ n l _ hs HL.out hr hn).mono ?_
      rw [HG.out]
      rintro e w1 ⟨rfl, hb1⟩
      go_wp2_with fail
      refine (time_any fr _).mono ?_
      rw [HG1.out]
      rintro e w' ⟨rfl, rfl⟩
      go_wp2_with fail
      refine (time_any till _).mono ?_
      rw [HG2.out]
      rintro e w' ⟨rfl, rfl⟩
      go_wp2_with fail
      go_ret2
      exact per_post HF.out hb1
    have hok : ¬ badArgs fr till unit := by
      rintro (h | h | h | h | h)
      · exact h1 h
      · exact h h2
      · exact h h3
      · exact h4 h
      · exact h5 h
    have HOK := Lib.hid hok
    have hfr : -1152921504606846976 ≤ fr := h2.1
    have htl : till ≤ 1152921504606846976 := h3.2
    have hu1 : 1 ≤ unit := by omega
    have hu2 : unit ≤ 1099511627776 := by omega
    have hRR : rangeR l fr till = (betF fr till l, 0) := by
      unfold rangeR
      rw [if_pos]
      by_cases hs : sampF l = 0
      · exact hs
      · have h := HE.out; rw [counter_bad hs] at h; exact h
    have hmf := mid_counter (fr := fr) (till := till) HE.out
    have hmr := mid_rows hr fr till
    have hmn := (mid_ok (fr := fr) (till := till) HE.out).2.1
    have hml := betF_len fr till l
    rw [HL.out] at hml
    have hmt := fun (p : Nat) => mid_times (fr := fr) (till := till) HE.out (p := p)
    have hpf := per_few (l := l) (fr := fr) (till := till) (unit := unit) HE.out HOK.out
    have hpr := per_rest (l := l) (fr := fr) (till := till) (unit := unit) HE.out HOK.out
    generalize hm : betF fr till l = m at *
    obtain ⟨p, hp⟩ : ∃ p, m.length = p := ⟨_, rfl⟩
    rw [hp] at hml hpf hpr hmn
    have HM := Lib.hid hm
    have HP := Lib.hid hp
    have HRR := Lib.hid hRR
    have HMF := Lib.hid hmf
    have HMR := Lib.hid hmr
    have HNO := Lib.hid hmn
    clear hok h2 h3 h4 h5 hRR hmf hmr hm hmn
    by_cases hfew : p < 2
    · have HF : Hid (perR l fr till unit = (0, 13)) := Lib.hid (hpf hfew)
      clear hp hmt hpf hpr
      go_enter Try.func54, Try.ntmps54
      go_wp2_with fail
      refine (grown_any _ n l _ hs HL.out hr hn).mono ?_
      rw [HG.out]
      rintro e w1 ⟨rfl, hb1⟩
      go_wp2_with fail
      refine (time_any fr _).mono ?_
      rw [HG1.out]
      rintro e w' ⟨rfl, rfl⟩
      go_wp2_with fail
      refine (time_any till _).mono ?_
      rw [HG2.out]
      rintro e w' ⟨rfl, rfl⟩
      go_wp2_with fail
      refine (range_any _ n l fr till _ (hs.below hb1) HL.out hr hn).mono ?_
      rw [HRR.out]
      rintro e w2 ⟨v2, rfl, hown2, hb2, hk2, hle2⟩
      have hB2 := hb1.trans (hb2.mono hb1.size)
      rw [HP.out] at hown2
      obtain ⟨ua, uc, rfl, hu3, hu4, _⟩ := own_shape hown2
      go_wp2_with fail
      go_ret2
      exact per_post HF.out hB2
    · obtain ⟨p, rfl⟩ : ∃ q, p = q + 2 := ⟨p - 2, by omega⟩
      obtain ⟨t1, t2, t3⟩ := hmt p hp
      obtain ⟨T0, hT0⟩ : ∃ t, rg (m.getD 0 []) 0 = t := ⟨_, rfl⟩
      obtain ⟨T1, hT1⟩ : ∃ t, rg (m.getD (p + 1) []) 0 = t := ⟨_, rfl⟩
      rw [hT0] at t1 t2
      rw [hT1] at t2 t3
      have hsp : spanM m = T1 - T0 := by unfold spanM; rw [hp, show p + 2 - 1 = p + 1 by omega, hT0, hT1]
      obtain ⟨g, hg⟩ : ∃ g, sumM m = g := ⟨_, rfl⟩
      obtain ⟨hg0, hg1⟩ := sumM_bounds m
      rw [hg] at hg0 hg1
      have hgs : IntKind.u64.wrap (gS m (p + 2)) = g := by rw [← hg]; unfold sumM; rw [hp]
      have hgr : grR m = (g, (gA m (p + 2) : Int), 0) := by rw [gr_ok HMF.out hp, hgs]
      have hrest : perR l fr till unit = if 9223372036854775808 ≤ g * unit then (0, 2) else ((g * unit).tdiv (T1 - T0), 0) := by
        rw [hpr hfew]
        unfold perM
        rw [hg, hsp]
      have HGR := Lib.hid hgr
      have HGS := Lib.hid hgs
      have HREST := Lib.hid hrest
      have HT0 := Lib.hid hT0
      have HT1 := Lib.hid hT1
      have w1' : IntKind.u64.wrap unit = unit := wrap_in_u64 (by omega) (by omega)
      have wt : IntKind.i64.wrap (T1 - T0) = T1 - T0 := IntWalk.i64_in _ (by omega)
      have wz : ((T1 - T0) == 0) = false := beq_eq_false_iff_ne.2 (by omega)
      have hdz : ¬ T1 - T0 = 0 := by omega
      have ip : IntKind.i64.wrap ((p : Int) + 2 - 1) = (p : Int) + 1 := by rw [IntWalk.i64_in _ (by omega)]; omega
      have ip2 : ((p : Int) + 1).toNat = p + 1 := by omega
      have ip3 : (p : Int) + 1 < (p : Int) + 2 := by omega
      have ip4 : 0 ≤ (p : Int) + 1 := by omega
      clear hp hT0 hT1 hsp hg hgr hrest hmt hpf hpr hgs hfew
      go_enter Try.func54, Try.ntmps54
      go_wp2_with fail
      refine (grown_any _ n l _ hs HL.out hr hn).mono ?_
      rw [HG.out]
      rintro e w1 ⟨rfl, hb1⟩
      go_wp2_with fail
      refine (time_any fr _).mono ?_
      rw [HG1.out]
      rintro e w' ⟨rfl, rfl⟩
      go_wp2_with fail
      refine (time_any till _).mono ?_
      rw [HG2.out]
      rintro e w' ⟨rfl, rfl⟩
      go_wp2_with fail
      refine (range_any _ n l fr till _ (hs.below hb1) HL.out hr hn).mono ?_
      rw [HRR.out]
      rintro e w2 ⟨v2, rfl, hown2, hb2, hk2, hle2⟩
      have hB2 := hb1.trans (hb2.mono hb1.size)
      rw [HP.out] at hown2
      obtain ⟨ua, uc, rfl, hu3, hu4, _⟩ := own_shape hown2
      go_wp2_with fail
      refine (grown_any _ (p + 2) m _ (own_sl hown2) HP.out HMR.out (by omega)).mono ?_
      rw [HGR.out]
      rintro e w3 ⟨rfl, hb3⟩
      have hB3 := hB2.trans (hb3.mono hB2.size)
      have hown3 := own_below hown2 hb3
      obtain ⟨gb, cap, e', hgb, _⟩ := own_some hown3 (by omega)
      simp at e'
      obtain ⟨rfl, rfl⟩ := e'
      have x0 : w3.cell? ⟨gb, 0, none⟩ = some (.int .i64 T0) := by
        have := (own_row hown3 hk2 HP.out (i := 0) (j := 0) (by omega) (by decide)).1
        rw [Nat.zero_mul, Nat.add_zero] at this
        rw [← HT0.out]
        exact this
      have x1 : w3.cell? ⟨gb, (p + 1) * 2, none⟩ = some (.int .i64 T1) := by
        have := (own_row hown3 hk2 HP.out (i := p + 1) (j := 0) (by omega) (by decide)).1
        rw [← HT1.out]
        exact this
      clear hown2 hown3
      by_cases hlarge : 9223372036854775808 ≤ g * unit
      · have HF : Hid (perR l fr till unit = (0, 2)) := by
          show _ = _
          rw [HREST.out, if_pos hlarge]
        go_wp2_with fail
        refine (mul_any g unit hg0 hg1 (by omega) (by omega) _).mono ?_
        rintro e w' ⟨⟨hi, lo, rfl, hi0, lo0, lo1, HMUL⟩, rfl⟩
        rcases HMUL.out.1 hlarge with hpos | ⟨rfl, hlo⟩
        · go_wp2_with fail
          go_ret2
          exact per_post HF.out hB3
        · have hsh : lo / 9223372036854775808 = 1 := by omega
          go_wp2_with fail
          go_ret2
          exact per_post HF.out hB3
      · obtain ⟨P, hP⟩ : ∃ P, g * unit = P := ⟨_, rfl⟩
        have hP0 : 0 ≤ P := by rw [← hP]; exact Int.mul_nonneg hg0 (by omega)
        rw [hP] at hlarge
        have HF : Hid (perR l fr till unit = (P.tdiv (T1 - T0), 0)) := by
          show _ = _
          rw [HREST.out, hP, if_neg hlarge]
        have wP : IntKind.i64.wrap P = P := IntWalk.i64_in _ (by omega)
        have wq : IntKind.i64.wrap (P.tdiv (T1 - T0)) = P.tdiv (T1 - T0) := IntWalk.i64_in _ (by
          have h1 := Int.tdiv_nonneg hP0 (show 0 ≤ T1 - T0 by omega)
          have h2 := Int.tdiv_le_self (T1 - T0) hP0
          omega)
        have HPP := Lib.hid hP
        clear hP
        go_wp2_with fail
        refine (mul_any g unit hg0 hg1 (by omega) (by omega) _).mono ?_
        rintro e w' ⟨⟨hi, lo, rfl, hi0, lo0, lo1, HMUL⟩, rfl⟩
        obtain ⟨rfl, hlo⟩ := HMUL.out.2 (by rw [HPP.out]; omega)
        rw [HPP.out] at hlo
        subst hlo
        have hsh : lo / 9223372036854775808 = 0 := by omega
        clear HMUL
        go_wp2_with fail
        go_quiet (fail)
        go_wp2_with fail
        go_ret2
        exact per_post HF.out (below_drewN hB3 _)
  · have HF : Hid (perR l fr till unit = (0, e0)) := Lib.hid (per_bad he0 hbad)
    have t1 : (e0 != 0) = true := by rw [bne_iff_ne]; exact hbad
    have hG2 : G.2.2 = e0 := by rw [← hG, gr_bad he0 hbad]
    obtain ⟨G1, G2, G3⟩ := G
    dsimp only at hG2
    subst hG2
    clear hl he0 hG
    go_enter Try.func54, Try.ntmps54
    go_wp2_with fail
    refine (grown_any _ n l _ hs HL.out hr hn).mono ?_
    rw [HG.out]
    rintro e w1 ⟨rfl, hb1⟩
    go_wp2_with fail
    go_ret2
    exact per_post HF.out hb1
end Go.Proofs.Ytmbmognhbljliaa.Rate
