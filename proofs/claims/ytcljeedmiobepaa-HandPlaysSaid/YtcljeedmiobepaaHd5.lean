/-
  A shard: the walks of hand's Cut, Write.
-/
import Derived.Test.YtcljeedmiobepaaHd4
namespace Go.Proofs.Ytcljeedmiobepaa.Hd
open Go.RowKit Go.Gh Go.Proofs.Ytcljeedmiobepaa.Rk
set_option linter.unusedVariables false
set_option maxRecDepth 100000 in
theorem pcut_any (B hb : Nat) (s : Hd) (vh vn vl : Value) (w : World) (h : PAt B hb s vh vn vl w) (he : 0 ≤ s.e ∧ s.e ≤ 1000) : Calls Try.prog 39 #[.pointer (some ⟨hb, 0, none⟩)] w (PPost B hb vh vn (.int .i64 (cuH s).1) (cuH s).2 w) := by
  have HP := Lib.hid h
  obtain ⟨R, hR⟩ : ∃ R, cuH s = R := ⟨_, rfl⟩
  have HR := Lib.hid hR
  rw [hR]
  obtain ⟨⟨d0, d1, d2, d3, d4, d5⟩, ⟨f0, f1, f2, f3, f4, f5⟩⟩ := bx6 h.box
  have hnx := own_shape h.nxt
  obtain ⟨n, hm⟩ : ∃ n, s.next.length = n := ⟨_, rfl⟩
  rw [hm] at hnx
  obtain ⟨no, nc, rfl, -, -, -⟩ := hnx
  have hlf := Sl.shape h.lft
  obtain ⟨m, hm2⟩ : ∃ n, s.left.length = n := ⟨_, rfl⟩
  rw [hm2] at hlf
  obtain ⟨lo, lc, rfl, -, -, -⟩ := hlf
  have HM2 := Lib.hid hm2
  clear h hR hm hm2
  by_cases ht : s.t.toList = []
  · have HE : Hid (R = (11, s)) := Lib.hid (by rw [← HR.out]; exact if_pos ht)
    have t1 : s.t.toList.isEmpty = true := (emp_iff _).1 ht
    go_enter Try.func39, Try.ntmps39
    go_wp2_with fail
    go_ret
    rw [HE.out]
    exact pp_still HP.out (Below.refl _ _)
  have t1 : s.t.toList.isEmpty = false := by cases h : s.t.toList.isEmpty with | false => rfl | true => exact absurd ((emp_iff _).2 h) ht
  by_cases hl : 0 < m
  · have HE : Hid (R = (13, s)) := Lib.hid (by rw [← HR.out]; unfold cuH; rw [if_neg ht, if_pos (by rw [HM2.out]; exact hl)])
    have hl' : (0 : Int) < (m : Int) := by omega
    go_enter Try.func39, Try.ntmps39
    go_wp2_with fail
    go_ret
    rw [HE.out]
    exact pp_still HP.out (Below.refl _ _)
  have HE : Hid (R = (0, crH ⟨s.e + 1, s.t, s.t, s.next, s.next, s.left⟩)) := Lib.hid (by rw [← HR.out]; unfold cuH; rw [if_neg ht, if_neg (by rw [HM2.out]; exact hl)])
  obtain rfl : m = 0 := by omega
  have hw : IntKind.i64.wrap (s.e + 1) = s.e + 1 := IntWalk.i64_in _ (by omega)
  have hw2 : wrap64 (s.e + 1) = s.e + 1 := IntWalk.wrap64_in _ (by omega)
  clear hl ht
  go_enter Try.func39, Try.ntmps39
  go_upto_region 5 with (fail)
  go_region
  all_goals
    go_wp2_with fail
    have b1 := row_setCell 1 (.string s.t) HP.out.box
    have b2 := row_setCell 3 (.slice no n nc) b1
    have b3 : (((w.setCell ⟨hb, 1, none⟩ (.string s.t)).setCell ⟨hb, 3, none⟩ (.slice no n nc)).setCell ⟨hb, 0, none⟩ (.int .i64 (s.e + 1))).heap[hb]? = some (.cells #[.int .i64 (s.e + 1), .string s.t, .string s.t, .slice no n nc, .slice no n nc, .slice lo 0 lc] 168 (0, 0)) := by simpa using row_setCell 0 (.int .i64 (s.e + 1)) b2
    have ob := ((((OB.refl B hb w).set HP.out.low.1 1 (.string s.t)).set HP.out.low.1 3 (.slice no n nc)).set HP.out.low.1 0 (.int .i64 (s.e + 1))).drew
    obtain ⟨W, hW⟩ : ∃ W, W = (((w.setCell ⟨hb, 1, none⟩ (.string s.t)).setCell ⟨hb, 3, none⟩ (.slice no n nc)).setCell ⟨hb, 0, none⟩ (.int .i64 (s.e + 1))).drew := ⟨_, rfl⟩
    have b3 : W.heap[hb]? = some (.cells #[.int .i64 (s.e + 1), .string s.t, .string s.t, .slice no n nc, .slice no n nc, .slice lo 0 lc] 168 (0, 0)) := by rw [hW]; exact b3
    rw [← hW] at ob ⊢
    have c1 := row_setCell 2 (.string noB) b3
    have c2 := row_setCell 4 (.slice none 0 0) c1
    have c3 : (((W.setCell ⟨hb, 2, none⟩ (.string noB)).setCell ⟨hb, 4, none⟩ (.slice none 0 0)).setCell ⟨hb, 5, none⟩ (.slice none 0 0)).heap[hb]? = some (.cells #[.int .i64 (s.e + 1), .string s.t, .string noB, .slice no n nc, .slice none 0 0, .slice none 0 0] 168 (0, 0)) := by simpa using row_setCell 5 (.slice none 0 0) c2
    have oc := ((ob.set HP.out.low.1 2 (.string noB)).set HP.out.low.1 4 (.slice none 0 0)).set HP.out.low.1 5 (.slice none 0 0)
    have HF := Lib.hid (HP.out.rebox (s' := crH ⟨s.e + 1, s.t, s.t, s.next, s.next, s.left⟩) oc.sz oc.keep oc.bel c3 HP.out.nxt (World.ownsRow_nil _ _ _ _) ns_nil (fun g hg => by simp [Value.ownBlock] at hg) (by
      cases hv : (Value.slice no n nc).ownBlock with
      | none => exact Or.inl rfl
      | some g => exact Or.inr (by simp [Value.ownBlock])) (fun g hg => hg.elim Or.inr (fun e => by simp [Value.ownBlock] at e)))
    have HB3 := Lib.hid b3
    clear b1 b2 b3 ob hW c1 c2 c3 oc d0 d1 d2 d3 d4 d5 f0 f1 f2 f3 f4 f5
    refine (crash0_any hb _ _ _ _ _ _ _ _ HB3.out).mono ?_
    rintro e w2 ⟨rfl, hw2'⟩
    have HF2 : Hid (PAt B hb (crH ⟨s.e + 1, s.t, s.t, s.next, s.next, s.left⟩) (.slice no n nc) (.slice none 0 0) (.slice none 0 0) w2 ∧ Ft B hb vh (.slice no n nc) (.slice no n nc) (.slice none 0 0) w w2) := Lib.hid (by rw [hw2']; exact HF.out)
    clear hw2' HF
    go_wp2_with fail
    go_ret
    rw [HE.out]
    exact ⟨rfl, _, _, _, HF2.out.1, HF2.out.2⟩
set_option maxRecDepth 100000 in
theorem pwrite_any (B hb : Nat) (s : Hd) (ep id : Int) (vh vn vl : Value) (w : World) (h : PAt B hb s vh vn vl w) (hrh : Ris s.has) (hrn : Ris s.next) (hn : s.has.length ≤ 900) (hn2 : s.next.length ≤ 900) : Calls Try.prog 33 #[.pointer (some ⟨hb, 0, none⟩), .int .i64 ep, .int .i64 id] w (PPost B hb vh vn (.int .i64 (wrH s ep id).1) (wrH s ep id).2 w) := by
  have HP := Lib.hid h
  obtain ⟨R, hR⟩ : ∃ R, wrH s ep id = R := ⟨_, rfl⟩
  have HR := Lib.hid hR
  rw [hR]
  have HRH := Lib.hid hrh
  have HRN := Lib.hid hrn
  have HNX := Lib.hid hn2
  obtain ⟨⟨d0, d1, d2, d3, d4, d5⟩, -⟩ := bx6 h.box
  obtain ⟨n, hm⟩ : ∃ n, s.has.length = n := ⟨_, rfl⟩
  have HN := Lib.hid hm
  have hown := h.has
  rw [hm] at hown hn
  obtain ⟨ho, hc, rfl, -, -, -⟩ := own_shape hown
  have HNS : Hid (Ns w (.slice ho n hc) s.has) := Lib.hid (by unfold Ns; rw [hm]; exact own_sl hown)
  obtain ⟨D, hD⟩ : ∃ D, decide (id ∈ s.has) = D := ⟨_, rfl⟩
  have HD := Lib.hid hD
  clear h hR hm hown hD hrh hrn hn2
  go_enter Try.func33, Try.ntmps33
  go_wp2_with fail
  refine (bsearch_any _ s.has id _ HNS.out (ris_le HRH.out) (by rw [HN.out]; omega)).mono ?_
  rw [hitN_mem (ris_le HRH.out), HD.out]
  rintro e w1 ⟨rfl, hb1⟩
  have hp1 := HP.out.below hb1
  have HP1 := Lib.hid hp1
  have HF1 := Lib.hid (Ft.of_below (hb := hb) (vh := .slice ho n hc) (vn := vn) hb1 HP.out.low.2)
  have HB1 := Lib.hid hb1
  clear d0 d1 d2 d3 d4 d5 hb1
  obtain ⟨⟨d0, d1, d2, d3, d4, d5⟩, -⟩ := bx6 hp1.box
  clear hp1
  by_cases he : ep ≠ s.e
  · have HE : Hid (R = (10, s)) := Lib.hid (by rw [← HR.out]; exact if_pos he)
    have t1 : (ep != s.e) = true := by rw [bne_iff_ne]; exact he
    clear he
    go_wp2_with fail
    go_ret
    rw [HE.out]
    exact ⟨rfl, _, _, _, HP1.out, HF1.out⟩
  have t1 : (ep != s.e) = false := by
    have : ep = s.e := Classical.not_not.1 he
    rw [this]; simp
  cases D with
  | true =>
    have HE : Hid (R = (8, s)) := Lib.hid (by rw [← HR.out]; unfold wrH; rw [if_neg he, if_pos (of_decide_eq_true HD.out)])
    clear he
    go_wp2_with fail
    go_ret
    rw [HE.out]
    exact ⟨rfl, _, _, _, HP1.out, HF1.out⟩
  | false =>
    have HE : Hid (R = (0, ⟨s.e, s.o, s.t, insU s.has id, if s.t.toList = [] then s.next else insU s.next id, s.left⟩)) := Lib.hid (by rw [← HR.out]; unfold wrH; rw [if_neg he, if_neg (of_decide_eq_false HD.out), if_neg (by rw [HN.out]; omega)])
    have t2 : ((n : Int) == 1000) = false := beq_eq_false_iff_ne.2 (by omega)
    clear he
    go_wp2_with fail
    refine (with_any B _ s.has id _ (by rw [HN.out]; have := HP1.out.has; rwa [HN.out] at this) HRH.out (by rw [HN.out]; omega) HP1.out.low.2).mono ?_
    rintro e w2 ⟨v2, rfl, hown2, hf2⟩
    obtain ⟨hp3, hft3⟩ := HP1.out.putHas hf2 hown2
    have hbx2 := (hf2.keep hb HP1.out.hlt (ne_box HP1.out HP1.out.has)).trans HP1.out.box
    obtain ⟨q, hq⟩ : ∃ q, (insU s.has id).length = q := ⟨_, rfl⟩
    have hsh := own_shape hown2
    rw [hq] at hsh
    obtain ⟨o2, c2, rfl, -, -, -⟩ := hsh
    have HP3 := Lib.hid hp3
    have HF3 := Lib.hid (HF1.out.trans hft3)
    clear d0 d1 d2 d3 d4 d5 hown2 hf2 hp3 hft3
    obtain ⟨⟨d0, d1, d2, d3, d4, d5⟩, ⟨f0, f1, f2, f3, f4, f5⟩⟩ := bx6 hbx2
    clear hbx2
    go_upto_region 9 with (fail)
    obtain ⟨w3, hw3⟩ : ∃ x, x = w2.setCell ⟨hb, 3, none⟩ (.slice o2 q c2) := ⟨_, rfl⟩
    rw [← hw3] at HP3 HF3 ⊢
    clear hw3 d0 d1 d2 d3 d4 d5 f0 f1 f2 f3 f4 f5
    obtain ⟨⟨d0, d1, d2, d3, d4, d5⟩, -⟩ := bx6 HP3.out.box
    by_cases ht : s.t.toList = []
    · have HE2 : Hid (R = (0, ⟨s.e, s.o, s.t, insU s.has id, s.next, s.left⟩)) := Lib.hid (by rw [HE.out, if_pos ht])
      have t3 : s.t.toList.isEmpty = true := (emp_iff _).1 ht
      go_wp2_with fail
      go_ret
      rw [HE2.out]
      exact ⟨rfl, _, _, _, HP3.out, HF3.out⟩
    · have HE2 : Hid (R = (0, ⟨s.e, s.o, s.t, insU s.has id, insU s.next id, s.left⟩)) := Lib.hid (by rw [HE.out, if_neg ht])
      have t3 : s.t.toList.isEmpty = false := by cases h : s.t.toList.isEmpty with | false => rfl | true => exact absurd ((emp_iff _).2 h) ht
      clear ht
      go_wp2_with fail
      refine (with_any B _ s.next id _ HP3.out.nxt HRN.out (by have := HNX.out; omega) HP3.out.low.2).mono ?_
      rintro e w4 ⟨v4, rfl, hown4, hf4⟩
      obtain ⟨hp5, hft5⟩ := HP3.out.putNext hf4 hown4
      have hbx4 := (hf4.keep hb HP3.out.hlt (ne_box HP3.out HP3.out.nxt)).trans HP3.out.box
      obtain ⟨q4, hq4⟩ : ∃ q, (insU s.next id).length = q := ⟨_, rfl⟩
      have hsh := own_shape hown4
      rw [hq4] at hsh
      obtain ⟨o4, c4, rfl, -, -, -⟩ := hsh
      have HP5 := Lib.hid hp5
      have HF5 := Lib.hid (HF3.out.trans hft5)
      clear d0 d1 d2 d3 d4 d5 hown4 hf4 hp5 hft5
      obtain ⟨⟨d0, d1, d2, d3, d4, d5⟩, ⟨f0, f1, f2, f3, f4, f5⟩⟩ := bx6 hbx4
      clear hbx4
      go_wp2_with fail
      go_ret
      rw [HE2.out]
      exact ⟨rfl, _, _, _, HP5.out, HF5.out⟩
end Go.Proofs.Ytcljeedmiobepaa.Hd
