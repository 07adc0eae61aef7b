/-
  partialInsertionSort at uint64 (PRINTED by mkqs8.py).
-/
import Derived.Test.YtlfhcjhbnakamaaIz10
import Derived.Test.YtlfhcjhbnakamaaIz11
import Derived.Test.YtlfhcjhbnakamaaIz12
import Derived.Deep.CutBlock
namespace Go.Proofs.Ytlfhcjhbnakamaa.Qs
open Go.RowKit Go.Gh
set_option linter.unusedVariables false
set_option linter.unusedSimpArgs false
theorem rs_sw {a k i j : Nat} {D : List Int} (h : Rs a k D) (hi : k ≤ i) (hj : k ≤ j) (hi2 : i < D.length) (hj2 : j < D.length) : Rs a k (sw D i j) := by
  intro p q h1 h2 h3
  rw [sw_el hi2 hj2, sw_el hi2 hj2, if_neg (by omega), if_neg (by omega), if_neg (by omega), if_neg (by omega)]
  exact h p q h1 h2 h3
def QsB (g : Nat) (rest : List Value) (a b : Nat) (D : List Int) (w : World) (e : Ending) (w' : World) : Prop := ∃ r : Bool, e = .returned (.bool r) ∧ QsP g rest a b D (fun E => r = true → Rs a b E) w w'
set_option maxHeartbeats 16000000 in
set_option maxRecDepth 100000 in
theorem partial_any (g cap a b : Nat) (D : List Int) (rest : List Value) (w : World) (hR : RowAt g D rest w) (hlo : Lo a b D) (hb : b ≤ D.length) (hab : a < b) (hn : D.length ≤ 1000000) (hcap : D.length ≤ cap) (hc : cap ≤ 9223372036854775807) :
    Calls Try.prog 124 #[.slice (some ⟨g, 0, none⟩) D.length cap, .int .i64 a, .int .i64 b] w (QsB g rest a b D w) := by
  have HLO := Lib.hid hlo
  have HBD := Lib.hid hb
  obtain ⟨n, hN⟩ : ∃ n, D.length = n := ⟨_, rfl⟩
  rw [hN] at hb hn hcap ⊢
  have HN := Lib.hid hN
  have HR := Lib.hid hR
  obtain ⟨l, hl⟩ : ∃ l, b = a + l := ⟨b - a, by omega⟩
  have el1 : (b : Int) - (a : Int) = (l : Int) := by omega
  have hl9 : l ≤ 1000000 := by omega
  clear hN hR hlo hl
  go_enter Try.func124, Try.ntmps124
  go_wp2_with fail
  go_loopw [7, 8] (fun i j wr => ∃ (k t : Nat) (E : List Int), i = .int .i64 k ∧ j = .int .i64 t ∧ t ≤ 5 ∧ a < k ∧ k ≤ b ∧ Hid (Pm a b D E) ∧ Hid (Rs a k E) ∧ Hid (RowAt g E rest wr) ∧ Hid (w.grownBy wr (some g))) (fun i j _ => 5 - (intOf j).toNat)
  case atStart => exact ⟨a + 1, 0, D, by go_num, rfl, by omega, by omega, by omega, Lib.hid .refl, Lib.hid (fun i j h1 h2 h3 => by omega), HR, Lib.hid (grown_below (Below.refl _ _))⟩
  case round =>
    obtain ⟨k, t, E, rfl, rfl, ht5, hak, hkb, HP, HS, HE, HG⟩ := hrel
    by_cases htt : t < 5
    case neg =>
      go_wp2_with fail
      go_ret
      exact ⟨false, rfl, E, HP.out, fun h => by simp at h, HE.out, HG.out⟩
    have hdt : decide ((t : Int) < 5) = true := decide_eq_true (by omega)
    go_upto_block 2 with fail
    go_cut [7] (fun i wx => ∃ k2 : Nat, i = .int .i64 k2 ∧ a < k2 ∧ k2 ≤ b ∧ Hid (Rs a k2 E) ∧ Hid (k2 = b ∨ el E k2 < el E (k2 - 1)) ∧ Hid (RowAt g E rest wx) ∧ Hid (w.grownBy wx (some g)))
    case first =>
      go_wp2_with fail
      go_loopw [7] (fun i wx => ∃ k2 : Nat, i = .int .i64 k2 ∧ a < k2 ∧ k2 ≤ b ∧ Hid (Rs a k2 E) ∧ Hid (RowAt g E rest wx) ∧ Hid (w.grownBy wx (some g))) (fun i _ => b - (intOf i).toNat)
      case atStart => exact ⟨k, rfl, hak, hkb, HS, HE, HG⟩
      case round =>
        clear HS HE HG hak hkb
        obtain ⟨k2, rfl, hak, hkb, HS, HE, HG⟩ := hrel
        by_cases hlt : k2 < b
        case neg =>
          have hd : decide (k2 < b) = false := decide_eq_false hlt
          go_wp2_with fail
          go_quiet (fail)
          have HE3 : Hid (RowAt g E rest (wr.drewN nq)) := HE
          have HG3 := Lib.hid (grown_drewN HG.out nq)
          go_wp2_with fail
          go_meet
          exact ⟨k2, rfl, hak, hkb, HS, Lib.hid (Or.inl (by omega)), HE3, HG3⟩
        have hd : decide (k2 < b) = true := decide_eq_true hlt
        have hEl : E.length = n := by rw [HP.out.len]; exact HN.out
        obtain ⟨p, hp⟩ : ∃ p, k2 = p + 1 := ⟨k2 - 1, by omega⟩
        have ep : (k2 : Int) - 1 = (p : Int) := by omega
        have cq := (HE.out.get (i := k2) (by omega)).1
        have cp := (HE.out.get (i := p) (by omega)).1
        obtain ⟨x, hx⟩ : ∃ z, el E k2 = z := ⟨_, rfl⟩
        obtain ⟨y, hy⟩ : ∃ z, el E p = z := ⟨_, rfl⟩
        rw [hx] at cq
        rw [hy] at cp
        have HX := Lib.hid hx
        have HY := Lib.hid hy
        have HPI := Lib.hid hp
        have hq1 : (k2 : Int) < (n : Int) := by omega
        have hp1 : (p : Int) < (n : Int) := by omega
        have hq0 : (0 : Int) ≤ (k2 : Int) := by omega
        have hp0 : (0 : Int) ≤ (p : Int) := by omega
        have wp : IntKind.i64.wrap (p : Int) = (p : Int) := IntWalk.i64_in _ (by omega)
        clear hEl hx hy hp
        by_cases hls : x < y
        · have hdl : decide (x < y) = true := decide_eq_true hls
          have HEX : Hid (k2 = b ∨ el E k2 < el E (k2 - 1)) := Lib.hid (Or.inr (by
            have e := HPI.out
            have e2 : k2 - 1 = p := by omega
            rw [e2, HX.out, HY.out]
            exact hls))
          go_wp2_with fail
          go_quiet ((go_at_call 125; exact Calls.quiet_of (less_q _ _ _)))
          have HE3 : Hid (RowAt g E rest (wr.drewN nq)) := HE
          have HG3 := Lib.hid (grown_drewN HG.out nq)
          clear hdl cq cp
          go_wp2_with fail
          go_meet
          exact ⟨k2, rfl, hak, hkb, HS, HEX, HE3, HG3⟩
        · have hdl : decide (x < y) = false := decide_eq_false hls
          have HS2 : Hid (Rs a (k2 + 1) E) := Lib.hid (ins_end (ins_start HS.out) (Or.inr (by
            have e := HPI.out
            have e2 : k2 - 1 = p := by omega
            rw [e2, HX.out, HY.out]
            omega)) (Nat.le_refl _))
          go_wp2_with fail
          go_quiet ((go_at_call 125; exact Calls.quiet_of (less_q _ _ _)))
          have HE3 : Hid (RowAt g E rest (wr.drewN nq)) := HE
          have HG3 := Lib.hid (grown_drewN HG.out nq)
          clear hdl cq cp
          go_wp2_with fail
          go_roundw
          case rel => exact ⟨k2 + 1, by go_num, by omega, by omega, HS2, HE3, HG3⟩
          case measure => simp [intOf]; omega
    case rest =>
    clear HS HE HG hak hkb
    obtain ⟨k2, rfl, hak, hkb, HS, HXA, HE, HG⟩ := hcut
    obtain ⟨k, rfl⟩ : ∃ x, x = k2 := ⟨_, rfl⟩
    obtain ⟨wA, rfl⟩ : ∃ x, x = wc := ⟨_, rfl⟩
    by_cases hkk : k = b
    · have HRS : Hid (Rs a b E) := Lib.hid (by rw [← hkk]; exact HS.out)
      have hd : ((k : Int) == (b : Int)) = true := by simp; omega
      have hd2 : (k == b) = true := by simp; omega
      clear hkk
      go_wp2_with fail
      go_ret
      exact ⟨true, rfl, E, HP.out, fun _ => HRS.out, HE.out, HG.out⟩
    have hd : ((k : Int) == (b : Int)) = false := by simp; omega
    have hd2 : (k == b) = false := by simp; omega
    have hkb2 : k < b := by omega
    by_cases h50 : (l : Int) < 50
    · clear hkk
      go_wp2_with fail
      go_ret
      exact ⟨false, rfl, E, HP.out, fun h => by simp at h, HE.out, HG.out⟩
    have HXB : Hid (el E k < el E (k - 1)) := Lib.hid (by rcases HXA.out with h | h; exact absurd h hkk; exact h)
    clear hkk
    have hEl : E.length = n := by rw [HP.out.len]; exact HN.out
    obtain ⟨p, hp⟩ : ∃ p, k = p + 1 := ⟨k - 1, by omega⟩
    have ep : (k : Int) - 1 = (p : Int) := by omega
    have cq := (HE.out.get (i := k) (by omega)).1
    have cp := (HE.out.get (i := p) (by omega)).1
    obtain ⟨x, hx⟩ : ∃ z, el E k = z := ⟨_, rfl⟩
    obtain ⟨y, hy⟩ : ∃ z, el E p = z := ⟨_, rfl⟩
    rw [hx] at cq
    rw [hy] at cp
    have HX := Lib.hid hx
    have HY := Lib.hid hy
    have HPI := Lib.hid hp
    have hq1 : (k : Int) < (n : Int) := by omega
    have hp1 : (p : Int) < (n : Int) := by omega
    have hq0 : (0 : Int) ≤ (k : Int) := by omega
    have hp0 : (0 : Int) ≤ (p : Int) := by omega
    have wp : IntKind.i64.wrap (p : Int) = (p : Int) := IntWalk.i64_in _ (by omega)
    clear hEl hx hy hp
    clear cq cp
    have hEl : E.length = n := by rw [HP.out.len]; exact HN.out
    obtain ⟨⟨ci, cj⟩, ⟨fi, fj, fij⟩, hS⟩ := HE.out.swaps (i := k) (j := p) (by omega) (by omega)
    have cij := HE.out.once (i := k) (j := p) (by omega) (by omega)
    have HSW := Lib.hid hS
    clear hEl hS
    go_upto_region 11 with (fail)
    go_region
    obtain ⟨wn, hwn⟩ : ∃ wn, wn = ((wA.setCell ⟨g, k, none⟩ (.int .u64 (el E p))).setCell ⟨g, p, none⟩ (.int .u64 (el E k))).drew := ⟨_, rfl⟩
    have HE3 : Hid (RowAt g (sw E k p) rest wn) := Lib.hid (by rw [hwn]; exact HSW.out)
    have HG3 : Hid (w.grownBy wn (some g)) := Lib.hid (by rw [hwn]; exact grown_drewN (grown_swap HG.out k p _ _) 1)
    rw [← hwn]
    clear hwn ci cj fi fj fij cij
    have HP2 : Hid (Pm a b D (sw E k p)) := Lib.hid (HP.out.step (by omega) hkb2 (by have := HPI.out; omega) (by have := HPI.out; omega))
    have HS1 : Hid (Rs a p (sw E k p)) := Lib.hid (rs_sw (HS.out.mono (by have := HPI.out; omega)) (by have := HPI.out; omega) (Nat.le_refl _) (by have := HP.out.len; have := HN.out; omega) (by have := HP.out.len; have := HN.out; omega))
    clear HP HS HE HG HX HY HXA HXB HSW hd hd2
    obtain ⟨E1, hE1⟩ : ∃ E1, sw E k p = E1 := ⟨_, rfl⟩
    rw [hE1] at HP2 HS1 HE3
    clear hE1
    obtain ⟨s, hs⟩ : ∃ s, k = a + s := ⟨k - a, by omega⟩
    have es : (k : Int) - (a : Int) = (s : Int) := by omega
    have hsk := Lib.hid hs
    clear hs
    go_upto_if 61 with (fail)
    go_cut [] (fun wx => ∃ F : List Int, Hid (Pm a b D F) ∧ Hid (Rs a k F) ∧ Hid (RowAt g F rest wx) ∧ Hid (w.grownBy wx (some g)))
    case first =>
      by_cases hs2 : 2 ≤ s
      case neg =>
        have hs3 : ¬ (2 : Int) ≤ (s : Int) := by omega
        have HRS : Hid (Rs a k E1) := Lib.hid (fun i j h1 h2 h3 => by have := hsk.out; omega)
        go_wp2_with fail
        go_meet
        exact ⟨E1, HP2, HRS, HE3, HG3⟩
      have hs3 : (2 : Int) ≤ (s : Int) := by omega
      go_wp2_with fail
      go_loopw [9] (fun j wx => ∃ (m : Nat) (F : List Int), j = .int .i64 m ∧ a ≤ m ∧ m ≤ p ∧ Hid (Pm a b D F) ∧ Hid (Ins a p m F) ∧ Hid (RowAt g F rest wx) ∧ Hid (w.grownBy wx (some g))) (fun j _ => (intOf j).toNat)
      case atStart => exact ⟨p, E1, rfl, by have := HPI.out; omega, Nat.le_refl _, HP2, Lib.hid (ins_start HS1.out), HE3, HG3⟩
      case round =>
        clear HP2 HS1 HE3 HG3
        obtain ⟨m, F, rfl, ham, hmp, HP, HI, HE, HG⟩ := hrel
        have HLF := Lib.hid (HLO.out.pm HP.out HBD.out)
        by_cases hm1 : 1 ≤ m
        case neg =>
          have HRS : Hid (Rs a k F) := Lib.hid (by
            have h := ins_end HI.out (Or.inl (by omega)) hmp
            have e := HPI.out
            rwa [← e] at h)
          obtain rfl : m = 0 := by omega
          go_wp2_with fail
          go_meet
          exact ⟨F, HP, HRS, HE, HG⟩
        have HP0 := HPI
        have hm2 : (1 : Int) ≤ (m : Int) := by omega
        have hpb := HPI.out
        have hmb : m < b := by omega
        clear hpb
        obtain ⟨p0, rfl⟩ : ∃ x, x = p := ⟨_, rfl⟩
        have hEl : F.length = n := by rw [HP.out.len]; exact HN.out
        obtain ⟨p, hp⟩ : ∃ p, m = p + 1 := ⟨m - 1, by omega⟩
        have ep : (m : Int) - 1 = (p : Int) := by omega
        have cq := (HE.out.get (i := m) (by omega)).1
        have cp := (HE.out.get (i := p) (by omega)).1
        obtain ⟨x, hx⟩ : ∃ z, el F m = z := ⟨_, rfl⟩
        obtain ⟨y, hy⟩ : ∃ z, el F p = z := ⟨_, rfl⟩
        rw [hx] at cq
        rw [hy] at cp
        have HX := Lib.hid hx
        have HY := Lib.hid hy
        have HPI := Lib.hid hp
        have hq1 : (m : Int) < (n : Int) := by omega
        have hp1 : (p : Int) < (n : Int) := by omega
        have hq0 : (0 : Int) ≤ (m : Int) := by omega
        have hp0 : (0 : Int) ≤ (p : Int) := by omega
        have wp : IntKind.i64.wrap (p : Int) = (p : Int) := IntWalk.i64_in _ (by omega)
        clear hEl hx hy hp
        by_cases hls : x < y
        · have hdl : decide (x < y) = true := decide_eq_true hls
          have ham2 : a < m := by
            by_cases e : m = a
            · exfalso
              have e2 := HPI.out
              rcases HLF.out with h | h
              · omega
              · have := h a (Nat.le_refl _) hab
                rw [← e, show m - 1 = p by omega, HX.out, HY.out] at this
                omega
            · omega
          go_wp2_with fail
          go_quiet ((go_at_call 125; exact Calls.quiet_of (less_q _ _ _)))
          obtain ⟨wq, hwq⟩ : ∃ wq, wq = wr.drewN nq := ⟨_, rfl⟩
          have HEq : Hid (RowAt g F rest wq) := Lib.hid (by rw [hwq]; exact HE.out)
          have HGq : Hid (w.grownBy wq (some g)) := Lib.hid (by rw [hwq]; exact grown_drewN HG.out nq)
          rw [← hwq]
          clear hwq hdl cq cp
          have hEl : F.length = n := by rw [HP.out.len]; exact HN.out
          obtain ⟨⟨ci, cj⟩, ⟨fi, fj, fij⟩, hS⟩ := HEq.out.swaps (i := m) (j := p) (by omega) (by omega)
          have cij := HEq.out.once (i := m) (j := p) (by omega) (by omega)
          have HSW := Lib.hid hS
          clear hEl hS
          go_upto_region 17 with (fail)
          go_region
          obtain ⟨wn, hwn⟩ : ∃ wn, wn = ((wq.setCell ⟨g, m, none⟩ (.int .u64 (el F p))).setCell ⟨g, p, none⟩ (.int .u64 (el F m))).drew := ⟨_, rfl⟩
          have HE3 : Hid (RowAt g (sw F m p) rest wn) := Lib.hid (by rw [hwn]; exact HSW.out)
          have HG3 : Hid (w.grownBy wn (some g)) := Lib.hid (by rw [hwn]; exact grown_drewN (grown_swap HGq.out m p _ _) 1)
          rw [← hwn]
          clear hwn ci cj fi fj fij cij
          have HP2 : Hid (Pm a b D (sw F m p)) := Lib.hid (HP.out.step (by omega) hmb (by have := HPI.out; omega) (by have := HPI.out; omega))
          have HI2 : Hid (Ins a p0 p (sw F m p)) := Lib.hid (by
            have e := HPI.out
            have h1 := HX.out
            have h2 := HY.out
            have h3 := HP.out.len
            have h4 := HN.out
            have h5 := HI.out
            subst e
            exact ins_step h5 (by rw [h1, h2]; exact hls) (by omega) hmp (by omega))
          go_wp2_with fail
          go_roundw
          case rel => exact ⟨p, _, by rfl, by have := HPI.out; omega, by have := HPI.out; omega, HP2, HI2, HE3, HG3⟩
          case measure => have := HPI.out; simp [intOf]; omega
        · have hdl : decide (x < y) = false := decide_eq_false hls
          have HRS : Hid (Rs a k F) := Lib.hid (by
            have h := ins_end HI.out (Or.inr (by
              have e := HPI.out
              rw [show m - 1 = p by omega, HX.out, HY.out]
              omega)) hmp
            have e := HP0.out
            rwa [← e] at h)
          go_wp2_with fail
          go_quiet ((go_at_call 125; exact Calls.quiet_of (less_q _ _ _)))
          have HE3 : Hid (RowAt g F rest (wr.drewN nq)) := HE
          have HG3 := Lib.hid (grown_drewN HG.out nq)
          clear hdl cq cp
          go_wp2_with fail
          go_meet
          exact ⟨F, HP, HRS, HE3, HG3⟩
    case rest =>
    clear HP2 HS1 HE3 HG3
    obtain ⟨F, HP, HS, HE, HG⟩ := hcut
    obtain ⟨wB, rfl⟩ : ∃ x, x = wc := ⟨_, rfl⟩
    obtain ⟨v, hv⟩ : ∃ v, b = k + v := ⟨b - k, by omega⟩
    have ev : (b : Int) - (k : Int) = (v : Int) := by omega
    have hvk := Lib.hid hv
    clear hv
    go_upto_if 98 with (fail)
    by_cases hv2 : 2 ≤ v
    case neg =>
      have hv3 : ¬ (2 : Int) ≤ (v : Int) := by omega
      go_wp2_with fail
      go_roundw
      case rel => exact ⟨k, t + 1, F, rfl, by go_num, by omega, hak, hkb, HP, HS, HE, HG⟩
      case measure => simp [intOf]; omega
    have hv3 : (2 : Int) ≤ (v : Int) := by omega
    go_wp2_with fail
    go_loopw [10] (fun j wx => ∃ (m : Nat) (F : List Int), j = .int .i64 m ∧ k < m ∧ m ≤ b ∧ Hid (Pm a b D F) ∧ Hid (Rs a k F) ∧ Hid (RowAt g F rest wx) ∧ Hid (w.grownBy wx (some g))) (fun j _ => b - (intOf j).toNat)
    case atStart => exact ⟨k + 1, F, by go_num, by omega, by omega, HP, HS, HE, HG⟩
    case round =>
      clear HP HS HE HG
      obtain ⟨m, F, rfl, hkm, hmb, HP, HS, HE, HG⟩ := hrel
      by_cases hmb2 : m < b
      case neg =>
        obtain rfl : m = b := by omega
        go_wp2_with fail
        go_roundw
        case rel => exact ⟨k, t + 1, F, rfl, by go_num, by omega, hak, hkb, HP, HS, HE, HG⟩
        case measure => simp [intOf]; omega
      obtain ⟨p0, rfl⟩ : ∃ x, x = p := ⟨_, rfl⟩
      have hEl : F.length = n := by rw [HP.out.len]; exact HN.out
      obtain ⟨p, hp⟩ : ∃ p, m = p + 1 := ⟨m - 1, by omega⟩
      have ep : (m : Int) - 1 = (p : Int) := by omega
      have cq := (HE.out.get (i := m) (by omega)).1
      have cp := (HE.out.get (i := p) (by omega)).1
      obtain ⟨x, hx⟩ : ∃ z, el F m = z := ⟨_, rfl⟩
      obtain ⟨y, hy⟩ : ∃ z, el F p = z := ⟨_, rfl⟩
      rw [hx] at cq
      rw [hy] at cp
      have HX := Lib.hid hx
      have HY := Lib.hid hy
      have HPI := Lib.hid hp
      have hq1 : (m : Int) < (n : Int) := by omega
      have hp1 : (p : Int) < (n : Int) := by omega
      have hq0 : (0 : Int) ≤ (m : Int) := by omega
      have hp0 : (0 : Int) ≤ (p : Int) := by omega
      have wp : IntKind.i64.wrap (p : Int) = (p : Int) := IntWalk.i64_in _ (by omega)
      clear hEl hx hy hp
      by_cases hls : x < y
      · have hdl : decide (x < y) = true := decide_eq_true hls
        go_wp2_with fail
        go_quiet ((go_at_call 125; exact Calls.quiet_of (less_q _ _ _)))
        obtain ⟨wq, hwq⟩ : ∃ wq, wq = wr.drewN nq := ⟨_, rfl⟩
        have HEq : Hid (RowAt g F rest wq) := Lib.hid (by rw [hwq]; exact HE.out)
        have HGq : Hid (w.grownBy wq (some g)) := Lib.hid (by rw [hwq]; exact grown_drewN HG.out nq)
        rw [← hwq]
        clear hwq hdl cq cp
        have hEl : F.length = n := by rw [HP.out.len]; exact HN.out
        obtain ⟨⟨ci, cj⟩, ⟨fi, fj, fij⟩, hS⟩ := HEq.out.swaps (i := m) (j := p) (by omega) (by omega)
        have cij := HEq.out.once (i := m) (j := p) (by omega) (by omega)
        have HSW := Lib.hid hS
        clear hEl hS
        go_upto_region 23 with (fail)
        go_region
        obtain ⟨wn, hwn⟩ : ∃ wn, wn = ((wq.setCell ⟨g, m, none⟩ (.int .u64 (el F p))).setCell ⟨g, p, none⟩ (.int .u64 (el F m))).drew := ⟨_, rfl⟩
        have HE3 : Hid (RowAt g (sw F m p) rest wn) := Lib.hid (by rw [hwn]; exact HSW.out)
        have HG3 : Hid (w.grownBy wn (some g)) := Lib.hid (by rw [hwn]; exact grown_drewN (grown_swap HGq.out m p _ _) 1)
        rw [← hwn]
        clear hwn ci cj fi fj fij cij
        have HP2 : Hid (Pm a b D (sw F m p)) := Lib.hid (HP.out.step (by omega) hmb2 (by have := HPI.out; omega) (by have := HPI.out; omega))
        have HS2 : Hid (Rs a k (sw F m p)) := Lib.hid (rs_sw HS.out (by omega) (by have := HPI.out; omega) (by have := HP.out.len; have := HN.out; omega) (by have := HPI.out; have := HP.out.len; have := HN.out; omega))
        go_wp2_with fail
        go_roundw
        case rel => exact ⟨m + 1, _, by go_num, by omega, by omega, HP2, HS2, HE3, HG3⟩
        case measure => simp [intOf]; omega
      · have hdl : decide (x < y) = false := decide_eq_false hls
        go_wp2_with fail
        go_quiet ((go_at_call 125; exact Calls.quiet_of (less_q _ _ _)))
        have HE3 : Hid (RowAt g F rest (wr.drewN nq)) := HE
        have HG3 := Lib.hid (grown_drewN HG.out nq)
        clear hdl cq cp
        go_wp2_with fail
        go_roundw
        case rel => exact ⟨k, t + 1, F, rfl, by go_num, by omega, hak, hkb, HP, HS, HE3, HG3⟩
        case measure => simp [intOf]; omega
end Go.Proofs.Ytlfhcjhbnakamaa.Qs
/-
  pdqsort and Sort at uint64.
-/
namespace Go.Proofs.Ytlfhcjhbnakamaa.Qs
open Go.RowKit Go.Gh
set_option linter.unusedVariables false
set_option linter.unusedSimpArgs false
/-- Where a call that turned the row within [a1, b1) has done its work. -/
theorem fin_of {a b a1 b1 : Nat} {D E F : List Int} (hP : Pm a b D E) (hF : Fr a b a1 b1 E) (h : Pm a1 b1 E F) (hr : Rs a1 b1 F) (ha : a ≤ a1) (hb : b1 ≤ b) (hl : b ≤ D.length) : Pm a b D F ∧ Rs a b F :=
  ⟨hP.trans (h.mono ha hb), (hF.pm h (by rw [hP.len]; exact hl) ha hb).done hr⟩
theorem lo_equal {a b m : Nat} {x : Int} {E : List Int} (hm : a < m) (h1 : ∀ k, a ≤ k → k < m → el E k ≤ x) (hlo : ∀ k, a ≤ k → k < b → x ≤ el E k) : Lo m b E :=
  Or.inr fun k h2 h3 => Int.le_trans (h1 (m - 1) (by omega) (by omega)) (hlo k (by omega) h3)
set_option maxHeartbeats 8000000 in
set_option maxRecDepth 100000 in
theorem pdq_base (g cap n : Nat) (rest : List Value) (hn : n ≤ 1000000) (hcap : n ≤ cap) (hc : cap ≤ 9223372036854775807) (a b : Nat) (lim : Int) (D : List Int) (w : World) (hN : D.length = n) (hR : RowAt g D rest w) (hlo : Lo a b D) (hab : a ≤ b) (hb : b ≤ n) (hL : b - a ≤ 0) (h0 : 0 ≤ lim) (h1 : lim ≤ 64) :
    Calls Try.prog 111 #[.slice (some ⟨g, 0, none⟩) n cap, .int .i64 a, .int .i64 b, .int .i64 lim] w fun e w' => e = .returned (.tuple #[]) ∧ QsP g rest a b D (Rs a b) w w' := by
  have h := insertion_any g cap a b D rest w hR (by omega) hab (by omega) (by omega) hc
  rw [hN] at h
  have HC := Lib.hid h
  obtain rfl : b = a := by omega
  clear h hN hR hlo hL
  go_enter Try.func111, Try.ntmps111
  go_wp2_with fail
  go_loopw [1, 2, 3, 8, 9] (fun va vb vl wb wp wr => va = .int .i64 b ∧ vb = .int .i64 b ∧ wr = w) (fun _ _ _ _ _ _ => 0)
  case atStart => exact ⟨rfl, rfl, rfl⟩
  case round =>
    obtain ⟨rfl, rfl, hrel⟩ := hrel
    have hrel := hrel.symm
    subst hrel
    go_wp2_with fail
    refine HC.out.mono ?_
    rintro e w2 ⟨rfl, hq⟩
    have HQ := Lib.hid hq
    clear hq
    go_wp2_with fail
    refine bodyPost_ret (results_none rfl _ _ _) rfl ?_
    exact ⟨rfl, HQ.out⟩
/-- What the test of an equal part tells. -/
def TfR (T : Bool) (a1 p : Nat) (E : List Int) : Prop := T = true → 0 < a1 ∧ el E p ≤ el E (a1 - 1)
set_option maxHeartbeats 32000000 in
set_option maxRecDepth 100000 in
theorem pdq_any (g cap n : Nat) (rest : List Value) (hn : n ≤ 1000000) (hcap : n ≤ cap) (hc : cap ≤ 9223372036854775807) (L : Nat) : ∀ (a b : Nat) (lim : Int) (D : List Int) (w : World), D.length = n → RowAt g D rest w → Lo a b D → a ≤ b → b ≤ n → b - a ≤ L → 0 ≤ lim → lim ≤ 64 →
    Calls Try.prog 111 #[.slice (some ⟨g, 0, none⟩) n cap, .int .i64 a, .int .i64 b, .int .i64 lim] w fun e w' => e = .returned (.tuple #[]) ∧ QsP g rest a b D (Rs a b) w w' := by
  induction L with
  | zero => exact fun a b lim D w hN hR hlo hab hb hL h0 h1 => pdq_base g cap n rest hn hcap hc a b lim D w hN hR hlo hab hb (by omega) h0 h1
  | succ L ih =>
  intro a b lim D w hN hR hlo hab hb hL hl0 hl1
  have HIN := Lib.hid (fun (a b : Nat) (E : List Int) (W : World) (hE : E.length = n) (hR : RowAt g E rest W) (hb : b ≤ n) (hab : a ≤ b) => by
    have h := insertion_any g cap a b E rest W hR (by omega) hab (by omega) (by omega) hc
    rw [hE] at h
    exact h)
  have HHP := Lib.hid (fun (a b : Nat) (E : List Int) (W : World) (hE : E.length = n) (hR : RowAt g E rest W) (hb : b ≤ n) (hab : a < b) => by
    have h := heap_any g cap a b E rest W hR (by omega) hab (by omega) (by omega) hc
    rw [hE] at h
    exact h)
  have HBR := Lib.hid (fun (a b : Nat) (E : List Int) (W : World) (hE : E.length = n) (hR : RowAt g E rest W) (hb : b ≤ n) (hab : a + 12 < b) => by
    have h := break_any g cap a b E rest W hR (by omega) hab (by omega) (by omega) hc
    rw [hE] at h
    exact h)
  have HCP := Lib.hid (fun (a b : Nat) (E : List Int) (W : World) (hE : E.length = n) (hR : RowAt g E rest W) (hb : b ≤ n) (hab : a + 12 < b) => by
    have h := choose_any g cap a b E rest W hR hab (by omega) (by omega) (by omega) hc
    rw [hE] at h
    exact h)
  have HRV := Lib.hid (fun (a b : Nat) (E : List Int) (W : World) (hE : E.length = n) (hR : RowAt g E rest W) (hb : b ≤ n) (hab : a ≤ b) => by
    have h := reverse_any g cap a b E rest W hR hab (by omega) (by omega) (by omega) hc
    rw [hE] at h
    exact h)
  have HPI := Lib.hid (fun (a b : Nat) (E : List Int) (W : World) (hE : E.length = n) (hR : RowAt g E rest W) (hlo : Lo a b E) (hb : b ≤ n) (hab : a < b) => by
    have h := partial_any g cap a b E rest W hR hlo (by omega) hab (by omega) (by omega) hc
    rw [hE] at h
    exact h)
  have HPE := Lib.hid (fun (a b p : Nat) (E : List Int) (W : World) (hE : E.length = n) (hR : RowAt g E rest W) (hb : b ≤ n) (hap : a ≤ p) (hpb : p < b) => by
    have h := parteq_any g cap a b p E rest W hR (by omega) hap hpb (by omega) (by omega) hc
    rw [hE] at h
    exact h)
  have HPT := Lib.hid (fun (a b p : Nat) (E : List Int) (W : World) (hE : E.length = n) (hR : RowAt g E rest W) (hb : b ≤ n) (hap : a ≤ p) (hpb : p < b) => by
    have h := partition_any g cap a b p E rest W hR (by omega) hap hpb (by omega) (by omega) hc
    rw [hE] at h
    exact h)
  have IH := Lib.hid ih
  have HN := Lib.hid hN
  have HR := Lib.hid hR
  have HLO := Lib.hid hlo
  have HLL := Lib.hid hL
  clear ih hN hR hlo hL
  go_enter Try.func111, Try.ntmps111
  go_wp2_with fail
  go_loopw [1, 2, 3, 8, 9] (fun va vb vl wb wp wr => ∃ (a1 b1 : Nat) (lim : Int) (B P : Bool) (E : List Int), va = .int .i64 a1 ∧ vb = .int .i64 b1 ∧ vl = .int .i64 lim ∧ wb = .bool B ∧ wp = .bool P ∧ a ≤ a1 ∧ a1 ≤ b1 ∧ b1 ≤ b ∧ 0 ≤ lim ∧ lim ≤ 64 ∧ Hid (Pm a b D E) ∧ Hid (Fr a b a1 b1 E) ∧ Hid (Lo a1 b1 E) ∧ Hid (RowAt g E rest wr) ∧ Hid (w.grownBy wr (some g))) (fun va vb _ _ _ _ => (intOf vb - intOf va).toNat)
  case atStart => exact ⟨a, b, lim, true, true, D, rfl, rfl, rfl, rfl, rfl, Nat.le_refl _, hab, Nat.le_refl _, hl0, hl1, Lib.hid .refl, Lib.hid (fr_all a b D), HLO, HR, Lib.hid (grown_below (Below.refl _ _))⟩
  case round =>
    clear HR HLO hl0 hl1
    obtain ⟨a1, b1, lim, B, P, E, rfl, rfl, rfl, rfl, rfl, haa, hab1, hbb, hl0, hl1, HP, HF, HLO, HE, HG⟩ := hrel
    have HEL : Hid (E.length = n) := Lib.hid (by rw [HP.out.len]; exact HN.out)
    obtain ⟨l, hl⟩ : ∃ l, l = b1 - a1 := ⟨_, rfl⟩
    have el1 : (b1 : Int) - (a1 : Int) = (l : Int) := by omega
    have hl9 : l ≤ 1000000 := by omega
    by_cases h12 : l ≤ 12
    · have hd : decide ((l : Int) ≤ 12) = true := decide_eq_true (by omega)
      have HC := Lib.hid (HIN.out a1 b1 E wr HEL.out HE.out (by omega) hab1)
      clear hl
      go_wp2_with fail
      refine HC.out.mono ?_
      rintro e w2 ⟨rfl, F, hp, hq, hr2, hg⟩
      have HH := Lib.hid (And.intro (fin_of HP.out HF.out hp hq haa hbb (by rw [HN.out]; exact hb)) (And.intro hr2 (grown_trans HG.out hg)))
      clear hp hq hr2 hg
      go_wp2_with fail
      refine bodyPost_ret (results_none rfl _ _ _) rfl ?_
      exact ⟨rfl, F, HH.out.1.1, HH.out.1.2, HH.out.2.1, HH.out.2.2⟩
    have hd : decide ((l : Int) ≤ 12) = false := decide_eq_false (by omega)
    have hl12 : a1 + 12 < b1 := by omega
    by_cases hlim : lim = 0
    · subst hlim
      have HC := Lib.hid (HHP.out a1 b1 E wr HEL.out HE.out (by omega) (by omega))
      clear hl
      go_wp2_with fail
      refine HC.out.mono ?_
      rintro e w2 ⟨rfl, F, hp, hq, hr2, hg⟩
      have HH := Lib.hid (And.intro (fin_of HP.out HF.out hp hq haa hbb (by rw [HN.out]; exact hb)) (And.intro hr2 (grown_trans HG.out hg)))
      clear hp hq hr2 hg
      go_wp2_with fail
      refine bodyPost_ret (results_none rfl _ _ _) rfl ?_
      exact ⟨rfl, F, HH.out.1.1, HH.out.1.2, HH.out.2.1, HH.out.2.2⟩
    have hdl : (lim == 0) = false := by simp; exact hlim
    have hlim1 : 1 ≤ lim := by omega
    clear hlim hl
    go_upto_if 35 with (fail)
    go_cut [3] (fun vl wx => ∃ (lim' : Int) (F : List Int), vl = .int .i64 lim' ∧ 0 ≤ lim' ∧ lim' ≤ 64 ∧ Hid (Pm a1 b1 E F) ∧ Hid (RowAt g F rest wx) ∧ Hid (w.grownBy wx (some g)))
    case first =>
      cases B with
      | true =>
        go_wp2_with fail
        go_meet
        exact ⟨lim, E, rfl, by omega, by omega, Lib.hid .refl, HE, HG⟩
      | false =>
        have HC := Lib.hid (HBR.out a1 b1 E wr HEL.out HE.out (by omega) hl12)
        go_wp2_with fail
        refine HC.out.mono ?_
        rintro e w2 ⟨rfl, F, hp, -, hr2, hg⟩
        have HH1 := Lib.hid hp
        have HH2 := Lib.hid hr2
        have HH3 := Lib.hid (grown_trans HG.out hg)
        clear hp hr2 hg
        go_wp2_with fail
        go_meet
        exact ⟨lim - 1, F, rfl, by omega, by omega, HH1, HH2, HH3⟩
    case rest =>
    clear HE HG hdl hlim1 hl0 hl1
    obtain ⟨lim2, E1, rfl, hl0, hl1, HP1, HE, HG⟩ := hcut
    obtain ⟨lim, rfl⟩ : ∃ x, x = lim2 := ⟨_, rfl⟩
    obtain ⟨w1, rfl⟩ : ∃ x, x = wc := ⟨_, rfl⟩
    have HEL1 : Hid (E1.length = n) := Lib.hid (by rw [HP1.out.len]; exact HEL.out)
    have HCP1 := Lib.hid (HCP.out a1 b1 E1 w1 HEL1.out HE.out (by omega) hl12)
    go_upto_region 11 with (go_at_call 122; refine HCP1.out.mono ?_; rintro e w2 ⟨p, h, rfl, hp1, hp2, hh, hb2⟩; have HE2 := Lib.hid (HE.out.below hb2); have HG2 : Hid (w.grownBy w2 (some g)) := Lib.hid (grown_trans HG.out (grown_below hb2)); have HHH := Lib.hid hh; clear hh hb2)
    go_upto_if 50 with (fail)
    go_cut [11, 12] (fun vp vh wx => ∃ (p' : Nat) (h' : Int) (F : List Int), vp = .int .i64 p' ∧ vh = .int .i64 h' ∧ a1 ≤ p' ∧ p' < b1 ∧ Hid (Pm a1 b1 E F) ∧ Hid (RowAt g F rest wx) ∧ Hid (w.grownBy wx (some g)))
    case first =>
      by_cases h2 : h = 2
      · subst h2
        have HC := Lib.hid (HRV.out a1 b1 E1 w2 HEL1.out HE2.out (by omega) hab1)
        obtain ⟨q, hq⟩ : ∃ q, q + (p - a1) = b1 - 1 := ⟨(b1 - 1) - (p - a1), by omega⟩
        have eq1 : ((b1 : Int) - 1) - ((p : Int) - (a1 : Int)) = (q : Int) := by omega
        have hq1 : a1 ≤ q := by omega
        have hq2 : q < b1 := by omega
        clear hq
        go_wp2_with fail
        refine HC.out.mono ?_
        rintro e w3 ⟨rfl, F, hp, -, hr2, hg⟩
        have HH1 : Hid (Pm a1 b1 E F) := Lib.hid (HP1.out.trans hp)
        have HH2 := Lib.hid hr2
        have HH3 := Lib.hid (grown_trans HG2.out hg)
        clear hp hr2 hg
        go_wp2_with fail
        go_meet
        exact ⟨q, 1, F, rfl, rfl, hq1, hq2, HH1, HH2, HH3⟩
      · have hd2 : (h == 2) = false := by simp; exact h2
        clear h2
        go_wp2_with fail
        go_meet
        exact ⟨p, h, E1, rfl, rfl, hp1, hp2, HP1, HE2, HG2⟩
    case rest =>
    clear HE HG HE2 HG2 HP1 HEL1 HHH hp1 hp2
    obtain ⟨p2, h2, E2, rfl, rfl, hp1, hp2, HP1, HE, HG⟩ := hcut
    obtain ⟨w3, rfl⟩ : ∃ x, x = wc := ⟨_, rfl⟩
    go_upto_region 15 with (fail)
    go_cut [68] (fun t wx => ∃ T : Bool, t = .bool T ∧ wx = w3)
    case first =>
      by_cases hh : h2 = 1
      · have hd2 : (h2 == 1) = true := by simp; exact hh
        clear hh
        cases B <;> cases P
        all_goals
          go_wp2_with fail
          go_meet
          exact ⟨_, rfl, rfl⟩
      · have hd2 : (h2 == 1) = false := by simp; exact hh
        clear hh
        cases B <;> cases P
        all_goals
          go_wp2_with fail
          go_meet
          exact ⟨_, rfl, rfl⟩
    case rest =>
    obtain ⟨T, rfl, rfl⟩ := hcut
    obtain ⟨w3, rfl⟩ : ∃ x, x = wc := ⟨_, rfl⟩
    have HEL2 : Hid (E2.length = n) := Lib.hid (by rw [HP1.out.len]; exact HEL.out)
    have HL2 : Hid (Lo a1 b1 E2) := Lib.hid (HLO.out.pm HP1.out (by rw [HEL.out]; omega))
    have HF2 : Hid (Fr a b a1 b1 E2) := Lib.hid (HF.out.pm HP1.out (by rw [HEL.out]; exact hb) haa hbb)
    have HP2 : Hid (Pm a b D E2) := Lib.hid (HP.out.trans (HP1.out.mono haa hbb))
    go_upto_if 68 with (fail)
    go_cut [] (fun wx => ∃ (F : List Int), Hid (Pm a b D F) ∧ Hid (Fr a b a1 b1 F) ∧ Hid (Lo a1 b1 F) ∧ Hid (RowAt g F rest wx) ∧ Hid (w.grownBy wx (some g)))
    case first =>
      cases T with
      | false =>
        go_wp2_with fail
        go_meet
        exact ⟨E2, HP2, HF2, HL2, HE, HG⟩
      | true =>
        have HC := Lib.hid (HPI.out a1 b1 E2 w3 HEL2.out HE.out HL2.out (by omega) (by omega))
        go_wp2_with fail
        refine HC.out.mono ?_
        rintro e w4 ⟨r, rfl, F, hp, hq, hr2, hg⟩
        have HHP2 := Lib.hid hp
        have HHQ := Lib.hid hq
        have HH2 := Lib.hid hr2
        have HH3 := Lib.hid (grown_trans HG.out hg)
        clear hp hq hr2 hg
        cases r with
        | true =>
          have HFI := Lib.hid (fin_of HP2.out HF2.out HHP2.out (HHQ.out rfl) haa hbb (by rw [HN.out]; exact hb))
          go_wp2_with fail
          refine bodyPost_ret (results_none rfl _ _ _) rfl ?_
          exact ⟨rfl, F, HFI.out.1, HFI.out.2, HH2.out, HH3.out⟩
        | false =>
          have HH1 : Hid (Pm a b D F) := Lib.hid (HP2.out.trans (HHP2.out.mono haa hbb))
          have HH4 : Hid (Fr a b a1 b1 F) := Lib.hid (HF2.out.pm HHP2.out (by rw [HEL2.out]; exact hb) haa hbb)
          have HH5 : Hid (Lo a1 b1 F) := Lib.hid (HL2.out.pm HHP2.out (by rw [HEL2.out]; omega))
          go_wp2_with fail
          go_meet
          exact ⟨F, HH1, HH4, HH5, HH2, HH3⟩
    case rest =>
    clear HE HG HP1 HEL2 HL2 HF2 HP2 HP HF HLO HEL
    obtain ⟨E3, HP, HF, HLO, HE, HG⟩ := hcut
    obtain ⟨w4, rfl⟩ : ∃ x, x = wc := ⟨_, rfl⟩
    have HEL : Hid (E3.length = n) := Lib.hid (by rw [HP.out.len]; exact HN.out)
    obtain ⟨p, rfl⟩ : ∃ x, x = p2 := ⟨_, rfl⟩
    have HPE3 := Lib.hid (fun W (hR : RowAt g E3 rest W) => HPE.out a1 b1 p E3 W HEL.out hR (by omega) hp1 hp2)
    have HPT3 := Lib.hid (fun W (hR : RowAt g E3 rest W) => HPT.out a1 b1 p E3 W HEL.out hR (by omega) hp1 hp2)
    go_upto_region 17 with (fail)
    go_cut [87] (fun t wx => ∃ T : Bool, t = .bool T ∧ Hid (TfR T a1 p E3) ∧ Hid (RowAt g E3 rest wx) ∧ Hid (w.grownBy wx (some g)))
    case first =>
      rcases Nat.eq_zero_or_pos a1 with h0 | h0
      · have hd1 : decide (0 < a1) = false := decide_eq_false (by omega)
        have hd2 : decide ((0 : Int) < (a1 : Int)) = false := decide_eq_false (by omega)
        have HTF : Hid (TfR false a1 p E3) := Lib.hid (fun h => by cases h)
        clear h0
        go_quiet (fail)
        have HE5 : Hid (RowAt g E3 rest (w4.drewN nq)) := HE
        have HG5 := Lib.hid (grown_drewN HG.out nq)
        go_wp2_with fail
        go_meet
        exact ⟨false, rfl, HTF, HE5, HG5⟩
      · have hd1 : decide (0 < a1) = true := decide_eq_true h0
        have hd2 : decide ((0 : Int) < (a1 : Int)) = true := decide_eq_true (by omega)
        obtain ⟨r, hr⟩ : ∃ r, a1 = r + 1 := ⟨a1 - 1, by omega⟩
        have er : (a1 : Int) - 1 = (r : Int) := by omega
        have hEl := HEL.out
        have cr := (HE.out.get (i := r) (by omega)).1
        have cp := (HE.out.get (i := p) (by omega)).1
        have hr1 : (r : Int) < (n : Int) := by omega
        have hr0 : (0 : Int) ≤ (r : Int) := by omega
        have hp1' : (p : Int) < (n : Int) := by omega
        have hp0' : (0 : Int) ≤ (p : Int) := by omega
        have wr : IntKind.i64.wrap (r : Int) = (r : Int) := IntWalk.i64_in _ (by omega)
        obtain ⟨x, hx⟩ : ∃ z, el E3 r = z := ⟨_, rfl⟩
        obtain ⟨y, hy⟩ : ∃ z, el E3 p = z := ⟨_, rfl⟩
        rw [hx] at cr
        rw [hy] at cp
        have e0 : a1 - 1 = r := by omega
        by_cases hxy : x < y
        · have hdx : decide (x < y) = true := decide_eq_true hxy
          have HTF : Hid (TfR false a1 p E3) := Lib.hid (fun h => by cases h)
          clear hEl hx hy hr e0
          go_quiet ((go_at_call 125; exact Calls.quiet_of (less_q _ _ _)))
          have HE5 : Hid (RowAt g E3 rest (w4.drewN nq)) := HE
          have HG5 := Lib.hid (grown_drewN HG.out nq)
          clear cr cp
          go_wp2_with fail
          go_meet
          exact ⟨false, rfl, HTF, HE5, HG5⟩
        · have hdx : decide (x < y) = false := decide_eq_false hxy
          have HTF : Hid (TfR true a1 p E3) := Lib.hid (fun h => ⟨h0, by rw [e0, hx, hy]; omega⟩)
          clear hEl hx hy hr e0
          go_quiet ((go_at_call 125; exact Calls.quiet_of (less_q _ _ _)))
          have HE5 : Hid (RowAt g E3 rest (w4.drewN nq)) := HE
          have HG5 := Lib.hid (grown_drewN HG.out nq)
          clear cr cp
          go_wp2_with fail
          go_meet
          exact ⟨true, rfl, HTF, HE5, HG5⟩
    case rest =>
    clear HE HG
    obtain ⟨T2, rfl, HTF, HE, HG⟩ := hcut
    obtain ⟨w5, rfl⟩ : ∃ x, x = wc := ⟨_, rfl⟩
    cases T2 with
    | true =>
      have HC := Lib.hid (HPE3.out w5 HE.out)
      go_wp2_with fail
      refine HC.out.mono ?_
      rintro e w6 ⟨m, F, rfl, hm1, hm2, hp, hle, hr2, hg⟩
      have HALL : Hid (∀ k, a1 ≤ k → k < b1 → el E3 p ≤ el F k) := Lib.hid (fun k h1 h2 => by
        obtain ⟨q1, q2⟩ := HTF.out rfl
        have h3 := HLO.out.pm hp (by rw [HEL.out]; omega)
        rcases h3 with h3 | h3
        · omega
        · have h4 := h3 k h1 h2
          rw [hp.out (by rw [HEL.out]; omega) (k := a1 - 1) (Or.inl (by omega))] at h4
          omega)
      have HP6 : Hid (Pm a b D F) := Lib.hid (HP.out.trans (hp.mono haa hbb))
      have HF6 : Hid (Fr a b m b1 F) := Lib.hid (fr_equal (HF.out.pm hp (by rw [HEL.out]; exact hb) haa hbb) HALL.out hle haa (by omega) hm2 hbb)
      have HL6 : Hid (Lo m b1 F) := Lib.hid (lo_equal hm1 hle HALL.out)
      have HE6 := Lib.hid hr2
      have HG6 := Lib.hid (grown_trans HG.out hg)
      clear hp hle hr2 hg
      go_wp2_with fail
      go_roundw
      case rel => exact ⟨m, b1, lim, B, P, F, rfl, rfl, rfl, rfl, rfl, by omega, hm2, hbb, hl0, hl1, HP6, HF6, HL6, HE6, HG6⟩
      case measure => simp [intOf]; omega
    | false =>
    have HC := Lib.hid (HPT3.out w5 HE.out)
    go_upto_region 21 with (go_at_call 127; refine HC.out.mono ?_; rintro e w6 ⟨m, t, F, rfl, hm1, hm2, hp, hpt, hr2, hg⟩; have HPM := Lib.hid hp; have HPTT := Lib.hid hpt; have HE6 := Lib.hid hr2; have HG6 := Lib.hid (grown_trans HG.out hg); clear hp hpt hr2 hg)
    have HFL : Hid (F.length = n) := Lib.hid (by rw [HPM.out.len]; exact HEL.out)
    have HP6 : Hid (Pm a b D F) := Lib.hid (HP.out.trans (HPM.out.mono haa hbb))
    have HF6 : Hid (Fr a b a1 b1 F) := Lib.hid (HF.out.pm HPM.out (by rw [HEL.out]; exact hb) haa hbb)
    have HL6 : Hid (Lo a1 b1 F) := Lib.hid (HLO.out.pm HPM.out (by rw [HEL.out]; omega))
    obtain ⟨m1, hm3⟩ : ∃ m1, m1 = m + 1 := ⟨_, rfl⟩
    have em1 : (m : Int) + 1 = (m1 : Int) := by omega
    obtain ⟨u, hu⟩ : ∃ u, u = m - a1 := ⟨_, rfl⟩
    obtain ⟨v, hv⟩ : ∃ u, u = b1 - m := ⟨_, rfl⟩
    have eu : (m : Int) - (a1 : Int) = (u : Int) := by omega
    have ev : (b1 : Int) - (m : Int) = (v : Int) := by omega
    have hm1b : m1 ≤ b1 := by omega
    have ham1 : a1 < m1 := by omega
    have hu9 : u ≤ 1000000 := by omega
    have hv9 : v ≤ 1000000 := by omega
    have HM3 := Lib.hid hm3
    have HLa : Hid (m - a1 ≤ L ∧ b1 - m1 ≤ L) := Lib.hid (by have := HLL.out; omega)
    clear hu hv hm3
    have HCl := Lib.hid (fun W (hR : RowAt g F rest W) => IH.out a1 m lim F W HFL.out hR (lo_left HL6.out (by omega)) hm1 (by omega) HLa.out.1 hl0 hl1)
    have HCr := Lib.hid (fun W (hR : RowAt g F rest W) => IH.out m1 b1 lim F W HFL.out hR (by rw [HM3.out]; exact lo_right HPTT.out) hm1b (by omega) HLa.out.2 hl0 hl1)
    by_cases huv : u < v
    · have hdu : decide (u < v) = true := decide_eq_true huv
      have hdu2 : decide ((u : Int) < (v : Int)) = true := decide_eq_true (by omega)
      have HC2 := Lib.hid (HCl.out w6 HE6.out)
      go_wp2_with fail
      refine HC2.out.mono ?_
      rintro e w7 ⟨rfl, K, hp, hq, hr2, hg⟩
      have HP7 : Hid (Pm a b D K) := Lib.hid (HP6.out.trans (hp.mono haa (by omega)))
      have HPT7 := pt_left HPTT.out hp hm1 hm2 (by rw [HFL.out]; omega)
      have HF7 : Hid (Fr a b m1 b1 K) := Lib.hid (by rw [HM3.out]; exact fr_left (HF6.out.pm (hp.mono (Nat.le_refl _) (by omega)) (by rw [HFL.out]; exact hb) haa hbb) HPT7 hq haa hm1 hm2 hbb)
      have HL7 : Hid (Lo m1 b1 K) := Lib.hid (by rw [HM3.out]; exact lo_right HPT7)
      have HE7 := Lib.hid hr2
      have HG7 := Lib.hid (grown_trans HG6.out hg)
      clear hp hq hr2 hg HPT7
      go_wp2_with fail
      go_roundw
      case rel => exact ⟨m1, b1, lim, _, t, K, rfl, rfl, rfl, rfl, rfl, by omega, hm1b, hbb, hl0, hl1, HP7, HF7, HL7, HE7, HG7⟩
      case measure => simp [intOf]; omega
    · have hdu : decide (u < v) = false := decide_eq_false huv
      have hdu2 : decide ((u : Int) < (v : Int)) = false := decide_eq_false (by omega)
      have HC2 := Lib.hid (HCr.out w6 HE6.out)
      go_wp2_with fail
      refine HC2.out.mono ?_
      rintro e w7 ⟨rfl, K, hp, hq, hr2, hg⟩
      have HP7 : Hid (Pm a b D K) := Lib.hid (HP6.out.trans (hp.mono (by omega) hbb))
      have HPT7 := pt_right HPTT.out (by rw [← HM3.out]; exact hp) hm1 hm2 (by rw [HFL.out]; omega)
      have HF7 : Hid (Fr a b a1 m K) := Lib.hid (fr_right (HF6.out.pm (hp.mono (by omega) (Nat.le_refl _)) (by rw [HFL.out]; exact hb) haa hbb) HPT7 (by rw [← HM3.out]; exact hq) haa hm1 hm2 hbb)
      have HL7 : Hid (Lo a1 m K) := Lib.hid (lo_left (HL6.out.pm (hp.mono (by omega) (Nat.le_refl _)) (by rw [HFL.out]; omega)) (by omega))
      have HE7 := Lib.hid hr2
      have HG7 := Lib.hid (grown_trans HG6.out hg)
      clear hp hq hr2 hg HPT7
      go_wp2_with fail
      go_roundw
      case rel => exact ⟨a1, m, lim, _, t, K, rfl, rfl, rfl, rfl, rfl, haa, hm1, by omega, hl0, hl1, HP7, HF7, HL7, HE7, HG7⟩
      case measure => simp [intOf]; omega
end Go.Proofs.Ytlfhcjhbnakamaa.Qs
/-
  slices.Sort at uint64, of a row of the call's own.
-/
namespace Go.Proofs.Ytlfhcjhbnakamaa.Qs
open Go.RowKit Go.Gh
set_option linter.unusedVariables false
set_option linter.unusedSimpArgs false
theorem rs_pairwise {E : List Int} (h : Rs 0 E.length E) : E.Pairwise (· ≤ ·) := by
  rw [List.pairwise_iff_getElem]
  intro i j hi hj hij
  have := h i j (Nat.zero_le _) hij hj
  unfold el at this
  rw [List.getD_eq_getElem?_getD, List.getD_eq_getElem?_getD, List.getElem?_eq_getElem hi, List.getElem?_eq_getElem hj] at this
  exact this
def srtU (l : List Int) : List Int := l.mergeSort fun x y => decide (x ≤ y)
theorem srtU_le (l : List Int) : (srtU l).Pairwise (· ≤ ·) := by
  have h := List.pairwise_mergeSort (le := fun x y : Int => decide (x ≤ y)) (fun a b c h1 h2 => by simp at h1 h2 ⊢; omega) (fun a b => by simp; omega) l
  exact h.imp (fun h => by simpa using h)
theorem srtU_of {E l : List Int} (h : Rs 0 E.length E) (hp : E.Perm l) : E = srtU l := by
  refine List.Perm.eq_of_pairwise (le := fun x y : Int => x ≤ y) (fun a b _ _ h1 h2 => by omega) (rs_pairwise h) (srtU_le l) (hp.trans (List.mergeSort_perm l _).symm)
set_option maxHeartbeats 4000000 in
set_option maxRecDepth 100000 in
theorem ins_none (w : World) : Calls Try.prog 119 #[.slice none 0 0, .int .i64 0, .int .i64 0] w fun e w' => e = .returned (.tuple #[]) ∧ w = w' := by
  go_enter Try.func119, Try.ntmps119
  go_wp2_with fail
  go_loopw [6] (fun i wr => i = .int .i64 1 ∧ wr = w) (fun _ _ => 0)
  case atStart => exact ⟨rfl, rfl⟩
  case round =>
    obtain ⟨rfl, hrel⟩ := hrel
    have hrel := hrel.symm
    subst hrel
    go_wp2_with fail
    go_end0
    exact ⟨rfl, rfl⟩
set_option maxHeartbeats 4000000 in
set_option maxRecDepth 100000 in
theorem pdq_none (lim : Int) (w : World) : Calls Try.prog 111 #[.slice none 0 0, .int .i64 0, .int .i64 0, .int .i64 lim] w fun e w' => e = .returned (.tuple #[]) ∧ w = w' := by
  go_enter Try.func111, Try.ntmps111
  go_wp2_with fail
  go_loopw [1, 2, 3, 8, 9] (fun va vb vl wb wp wr => va = .int .i64 0 ∧ vb = .int .i64 0 ∧ wr = w) (fun _ _ _ _ _ _ => 0)
  case atStart => exact ⟨rfl, rfl, rfl⟩
  case round =>
    obtain ⟨rfl, rfl, hrel⟩ := hrel
    have hrel := hrel.symm
    subst hrel
    go_wp2_with fail
    refine (ins_none w).mono ?_
    rintro e w2 ⟨rfl, rfl⟩
    go_wp2_with fail
    refine bodyPost_ret (results_none rfl _ _ _) rfl ?_
    exact ⟨rfl, rfl⟩
set_option maxHeartbeats 4000000 in
set_option maxRecDepth 100000 in
theorem sortU_any (v : Value) (n B : Nat) (l : List Int) (w : World) (h : w.ownsRow B 22 1 v n (l.map (Value.int .u64))) (hn : n ≤ 1000000) :
    Calls Try.prog 86 #[v] w fun e w' => e = .returned (.tuple #[]) ∧ w'.ownsRow B 22 1 v n ((srtU l).map (Value.int .u64)) ∧ w.grownBy w' v.ownBlock := by
  have hl : l.length = n := by simpa using h.1
  have h0 := h
  have HL := Lib.hid (fun w => Ytlfhcjhbnakamaa.bits_Len (n : Int) w (by omega) (by omega))
  have hbl : Lib.bitLen (n : Int).toNat ≤ 64 := by
    have : ∀ f x, Lib.bitLenAux f x ≤ f := by
      intro f
      induction f with
      | zero => intro x; exact Nat.le_refl _
      | succ f ih => intro x; rw [Lib.bitLenAux]; split; exact Nat.zero_le _; have := ih (x / 2); omega
    exact this 64 _
  obtain ⟨bl, hbb⟩ : ∃ b, Lib.bitLen (n : Int).toNat = b := ⟨_, rfl⟩
  rw [hbb] at HL hbl
  rcases h.2 with ⟨rfl, hn0⟩ | ⟨g, cap, cur, rfl, hb, hg, hn1, hm, hs, ht⟩
  · subst hn0
    have hln : l = [] := List.length_eq_zero_iff.1 hl
    subst hln
    have HO : Hid (w.ownsRow B 22 1 (.slice none 0 0) 0 ((srtU []).map (Value.int .u64))) := Lib.hid (by simpa [srtU] using h0)
    have HPN := Lib.hid (pdq_none (bl : Int) w)
    clear h h0 hl hbb
    go_enter Try.func86, Try.ntmps86
    go_wp2_with (first
      | (go_at_call 52; refine (HL.out _).mono ?_; rintro e w2 ⟨rfl, hw2⟩; have hw2 := hw2.symm; subst hw2)
      | (go_at_call 111; refine HPN.out.mono ?_; rintro e w2 ⟨rfl, rfl⟩))
    go_end0
    exact ⟨rfl, HO.out, ⟨rfl, rfl, rfl, Nat.le_refl _, fun k _ _ => rfl⟩⟩
  · have hcur : cur = (u64 l ++ cur.toList.drop n).toArray := by
      have e : u64 l = cur.toList.take n := by
        have := ht
        rw [Nat.mul_one] at this
        exact this.symm
      rw [e, List.take_append_drop]
    have hR : RowAt g l (cur.toList.drop n) w := by unfold RowAt; rw [← hcur]; exact hg
    have hp := pdq_any g cap n (cur.toList.drop n) hn hn1 (by unfold maxLen at hm; omega) n 0 n (bl : Int) l w hl hR (Or.inl rfl) (Nat.zero_le _) (Nat.le_refl _) (by omega) (by omega) (by omega)
    have HP : Hid (Calls Try.prog 111 #[.slice (some ⟨g, 0, none⟩) n cap, .int .i64 0, .int .i64 n, .int .i64 bl] w fun e w' => e = .returned (.tuple #[]) ∧ QsP g (cur.toList.drop n) 0 n l (Rs 0 n) w w') := Lib.hid hp
    have HFI : Hid (∀ w', QsP g (cur.toList.drop n) 0 n l (Rs 0 n) w w' → w'.ownsRow B 22 1 (.slice (some ⟨g, 0, none⟩) n cap) n ((srtU l).map (Value.int .u64)) ∧ w.grownBy w' (some g)) := Lib.hid (fun w' ⟨E, q1, q2, q3, q4⟩ => by
      have hE : E.length = n := by rw [q1.len]; exact hl
      have e := srtU_of (by rw [hE]; exact q2) (q1.perm (by omega))
      rw [← e]
      have hcs : cur.size = cap * 1 := hs
      have hlc : cur.toList.length = cap := by simpa using hcs
      refine ⟨⟨by simp [hE], .inr ⟨g, cap, _, rfl, hb, q3, hn1, hm, ?_, ?_⟩⟩, q4⟩
      · show ((u64 E ++ cur.toList.drop n).toArray).size = cap * 1
        simp [u64, hE]
        have h9 : cur.size = cap := by simpa using hcs
        omega
      · show ((u64 E ++ cur.toList.drop n).toArray).toList.take (n * 1) = E.map (Value.int .u64)
        rw [Nat.mul_one]
        show (u64 E ++ cur.toList.drop n).take n = _
        rw [List.take_left' (by simp [u64, hE])]
        rfl)
    clear h h0 hl hbb hcur hR hp hg hs ht hm hb
    go_enter Try.func86, Try.ntmps86
    go_wp2_with (first
      | (go_at_call 52; refine (HL.out _).mono ?_; rintro e w2 ⟨rfl, hw2⟩; have hw2 := hw2.symm; subst hw2)
      | (go_at_call 111; refine HP.out.mono ?_; rintro e w2 ⟨rfl, hq⟩; have HQ := Lib.hid hq; clear hq))
    go_end0
    exact ⟨rfl, (HFI.out _ HQ.out).1, (HFI.out _ HQ.out).2⟩
end Go.Proofs.Ytlfhcjhbnakamaa.Qs
