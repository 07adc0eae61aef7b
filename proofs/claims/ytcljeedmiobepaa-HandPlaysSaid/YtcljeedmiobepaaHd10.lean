/-
  A shard of the reference: the walks of Write, Copy.
-/
import Derived.Test.YtcljeedmiobepaaHd9
import Derived.Deep.RegionLaw
namespace Go.Proofs.Ytcljeedmiobepaa.Hd
open Go.RowKit Go.Gh Go.Maps Go.WideShapes Go.Proofs.Ytcljeedmiobepaa.Rk
set_option linter.unusedVariables false
set_option maxHeartbeats 2000000 in
set_option maxRecDepth 100000 in
theorem rwrite_any (B mb bh : Nat) (s : Hd) (ep id : Int) (mn vl : Value) (w : World) (h : RAt B mb bh s mn vl w) (hw : -9223372036854775808 ≤ id ∧ id ≤ 9223372036854775807) (hn : s.has.length ≤ 900) (hn2 : s.next.length ≤ 900) : Calls Try.prog 34 #[.pointer (some ⟨mb, 0, none⟩), .int .i64 ep, .int .i64 id] w (RPost B mb vl (.int .i64 (wrH s ep id).1) (wrH s ep id).2 w) := by
  have HP := Lib.hid h
  obtain ⟨R, hR⟩ : ∃ R, wrH s ep id = R := ⟨_, rfl⟩
  have HR := Lib.hid hR
  rw [hR]
  have HW := Lib.hid hw
  have HNX := Lib.hid hn2
  obtain ⟨⟨d0, d1, d2, d3, d4, d5⟩, -⟩ := bx6 h.box
  obtain ⟨D, hown, hmi⟩ := h.has
  obtain ⟨n, hm⟩ : ∃ n, s.has.length = n := ⟨_, rfl⟩
  rw [hm] at hown hn
  have HN := Lib.hid hm
  have HMI := Lib.hid hmi
  have HSZ : Hid (Maps.size D = n) := Lib.hid (by rw [hmi.size, hm])
  obtain ⟨DD, hD⟩ : ∃ D, decide (id ∈ s.has) = D := ⟨_, rfl⟩
  have HD := Lib.hid hD
  clear h hR hm hmi hD hw hn2
  by_cases he : ep ≠ s.e
  · have HE : Hid (R = (10, s)) := Lib.hid (by rw [← HR.out]; exact if_pos he)
    have t1 : (ep != s.e) = true := by rw [bne_iff_ne]; exact he
    clear he hown
    go_enter Try.func34, Try.ntmps34
    go_wp2_with fail
    go_ret
    rw [HE.out]
    exact rp_still HP.out (Below.refl _ _)
  have t1 : (ep != s.e) = false := by
    have : ep = s.e := Classical.not_not.1 he
    rw [this]; simp
  cases DD with
  | true =>
    have HE : Hid (R = (8, s)) := Lib.hid (by rw [← HR.out]; unfold wrH; rw [if_neg he, if_pos (of_decide_eq_true HD.out)])
    clear he
    go_enter Try.func34, Try.ntmps34
    go_wp2_with (first
      | (at_lookup; refine wpList_lookup_set _ rfl _ _ 75 rfl 2 4 lawI Try.underlying75 Try.underlying4 (zeroB _) bh n D s.has HMI.out rfl hown _ rfl (keyI HW.out) _ HD.out ?_)
      | go_in)
    go_wp2_with fail
    go_ret
    rw [HE.out]
    exact rp_still HP.out (Below.refl _ _)
  | false =>
    have HE : Hid (R = (0, ⟨s.e, s.o, s.t, insU s.has id, if s.t.toList = [] then s.next else insU s.next id, s.left⟩)) := Lib.hid (by rw [← HR.out]; unfold wrH; rw [if_neg he, if_neg (of_decide_eq_false HD.out), if_neg (by rw [HN.out]; omega)])
    have t2 : ((n : Int) == 1000) = false := beq_eq_false_iff_ne.2 (by omega)
    have hlen : ∀ ty, (Builtin.len_ #[75] ty #[.map (some bh)]).run Try.prog w = .ok (.int .i64 (n : Int)) w := fun ty => by rw [hown.len Try.underlying75 ty, HSZ.out]
    clear he
    go_enter Try.func34, Try.ntmps34
    go_upto_region 8 with (first
      | (at_lookup; refine wpList_lookup_set _ rfl _ _ 75 rfl 2 4 lawI Try.underlying75 Try.underlying4 (zeroB _) bh n D s.has HMI.out rfl hown _ rfl (keyI HW.out) _ HD.out ?_)
      | (at_mapUpdate; refine wpList_mapUpdate_own _ rfl _ _ _ 75 rfl 2 4 lawI Try.underlying75 RB bh n D rfl hown (by unfold maxLen; omega) _ _ (kI id) rfl rfl (keyI HW.out) (.lit (.bool true)) [] (plainElem_bool Try.underlying4 true) ?_; intro w1 hown1 hg1)
      | go_in)
    obtain ⟨hp1, hgt1⟩ := HP.out.putHas hg1 (Mp.put hown1 HMI.out)
    have HP1 := Lib.hid hp1
    have HG1 := Lib.hid hgt1
    clear hown hown1 hg1 d0 d1 d2 d3 d4 d5
    obtain ⟨⟨d0, d1, d2, d3, d4, d5⟩, -⟩ := bx6 hp1.box
    clear hp1 hgt1
    by_cases ht : s.t.toList = []
    · have HE2 : Hid (R = (0, ⟨s.e, s.o, s.t, insU s.has id, s.next, s.left⟩)) := Lib.hid (by rw [HE.out, if_pos ht])
      have t3 : s.t.toList.isEmpty = true := (emp_iff _).1 ht
      go_wp2_with fail
      go_ret
      rw [HE2.out]
      exact ⟨rfl, _, _, _, HP1.out, HG1.out⟩
    · have HE2 : Hid (R = (0, ⟨s.e, s.o, s.t, insU s.has id, insU s.next id, s.left⟩)) := Lib.hid (by rw [HE.out, if_neg ht])
      have t3 : s.t.toList.isEmpty = false := by cases h : s.t.toList.isEmpty with | false => rfl | true => exact absurd ((emp_iff _).2 h) ht
      obtain ⟨bn, rfl, hne, hBn, hmn⟩ := (HP1.out.nxt.resolve_left (fun h => ht h.1)).2
      have HMN := Lib.hid hmn
      obtain ⟨D2, hown2, hmi2⟩ := hmn
      obtain ⟨n2, hm2⟩ : ∃ n, s.next.length = n := ⟨_, rfl⟩
      have hnx := HNX.out
      dsimp only at hown2
      rw [hm2] at hown2 hnx
      have HMI2 := Lib.hid hmi2
      have HT := Lib.hid ht
      clear ht hmi2
      go_wp2_with (first
        | (at_mapUpdate; refine wpList_mapUpdate_own _ rfl _ _ _ 75 rfl 2 4 lawI Try.underlying75 RB bn n2 D2 rfl hown2 (by unfold maxLen; omega) _ _ (kI id) rfl rfl (keyI HW.out) (.lit (.bool true)) [] (plainElem_bool Try.underlying4 true) ?_; intro w3 hown3 hg3)
        | go_in)
      obtain ⟨hp3, hgt3⟩ := HP1.out.putNext hne hBn HT.out HMN.out hg3 (Mp.put hown3 HMI2.out)
      have HP3 := Lib.hid hp3
      have HG3 := Lib.hid (HG1.out.trans hgt3)
      clear hown2 hown3 hg3 hp3 hgt3
      go_wp2_with fail
      go_ret
      rw [HE2.out]
      exact ⟨rfl, _, _, _, HP3.out, HG3.out⟩
end Go.Proofs.Ytcljeedmiobepaa.Hd
