/-
  siftDown and heapSort at uint64 (PRINTED by mkqs6.py).
-/
import Derived.Test.YtlfhcjhbnakamaaIz10
import Derived.Test.YtlfhcjhbnakamaaIz11
import Derived.Shelf.Lay
import Derived.Shelf.LaySoft
import Derived.Shelf.Small.Bits
import Derived.Test.YtlfhcjhbnakamaaProg
import Derived.Laws.BitsAllLaws
namespace Go.Proofs.Ytlfhcjhbnakamaa.Qs
open Go.RowKit Go.Gh
set_option linter.unusedVariables false
set_option linter.unusedSimpArgs false
set_option maxHeartbeats 16000000 in
set_option maxRecDepth 100000 in
theorem sift_any (g cap lo hi f : Nat) (D : List Int) (rest : List Value) (w : World) (hR : RowAt g D rest w) (hH : Hp f (lo + 1) hi D) (hl : f + hi ≤ D.length) (hn : D.length ≤ 1000000) (hlo : lo ≤ 1000000) (hcap : D.length ≤ cap) (hc : cap ≤ 9223372036854775807) :
    Calls Try.prog 130 #[.slice (some ⟨g, 0, none⟩) D.length cap, .int .i64 lo, .int .i64 hi, .int .i64 f] w fun e w' => e = .returned (.tuple #[]) ∧ QsP g rest f (f + hi) D (Hp f lo hi) w w' := by
  obtain ⟨n, hN⟩ : ∃ n, D.length = n := ⟨_, rfl⟩
  rw [hN] at hl hn hcap ⊢
  have HN := Lib.hid hN
  have HR := Lib.hid hR
  have HH := Lib.hid (hpx_start hH)
  clear hN hR hH
  go_enter Try.func130, Try.ntmps130
  go_wp2_with fail
  go_loopw [8] (fun i wr => ∃ (r : Nat) (E : List Int), i = .int .i64 r ∧ lo ≤ r ∧ r ≤ 1000000 ∧ Hid (Pm f (f + hi) D E) ∧ Hid (HpX f lo hi r E) ∧ Hid (RowAt g E rest wr) ∧ Hid (w.grownBy wr (some g))) (fun i _ => 1000000 - (intOf i).toNat)
  case atStart => exact ⟨lo, D, rfl, Nat.le_refl _, hlo, Lib.hid .refl, HH, HR, Lib.hid (grown_below (Below.refl _ _))⟩
  case round =>
    obtain ⟨r, E, rfl, hr, hr9, HP, HX, HE, HG⟩ := hrel
    obtain ⟨c, hcc⟩ : ∃ c, c = 2 * r + 1 := ⟨_, rfl⟩
    have ec : 2 * (r : Int) + 1 = (c : Int) := by omega
    have HC := Lib.hid hcc
    by_cases hch : c < hi
    case neg =>
      have HHP : Hid (Hp f lo hi E) := Lib.hid (hpx_end HX.out (fun d h1 h2 => by omega))
      have hd : decide (hi ≤ c) = true := decide_eq_true (by omega)
      clear hcc
      go_wp2_with fail
      go_end0
      exact ⟨rfl, E, HP.out, HHP.out, HE.out, HG.out⟩
    have hEl : E.length = n := by rw [HP.out.len]; exact HN.out
    have HEL := Lib.hid hEl
    have hrc : r < c := by omega
    obtain ⟨I, hI⟩ : ∃ I, I = f + r := ⟨_, rfl⟩
    obtain ⟨J, hJ⟩ : ∃ I, I = f + c := ⟨_, rfl⟩
    have eI : (f : Int) + (r : Int) = (I : Int) := by omega
    have eJ : (f : Int) + (c : Int) = (J : Int) := by omega
    have hI1 : (I : Int) < (n : Int) := by omega
    have hJ1 : (J : Int) < (n : Int) := by omega
    have hI0 : (0 : Int) ≤ (I : Int) := by omega
    have hJ0 : (0 : Int) ≤ (J : Int) := by omega
    have wI : IntKind.i64.wrap (I : Int) = (I : Int) := IntWalk.i64_in _ (by omega)
    have wJ : IntKind.i64.wrap (J : Int) = (J : Int) := IntWalk.i64_in _ (by omega)
    have cI := (HE.out.get (i := I) (by omega)).1
    have cJ := (HE.out.get (i := J) (by omega)).1
    obtain ⟨x, hx⟩ : ∃ x, el E I = x := ⟨_, rfl⟩
    obtain ⟨y, hy⟩ : ∃ x, el E J = x := ⟨_, rfl⟩
    rw [hx] at cI
    rw [hy] at cJ
    have HX0 := Lib.hid hx
    have HY := Lib.hid hy
    have HI := Lib.hid hI
    have HJ := Lib.hid hJ
    obtain ⟨c1, hc1⟩ : ∃ c1, c1 = c + 1 := ⟨_, rfl⟩
    have ec1 : (c : Int) + 1 = (c1 : Int) := by omega
    have wc1 : IntKind.i64.wrap (c1 : Int) = (c1 : Int) := IntWalk.i64_in _ (by omega)
    have HC1 := Lib.hid hc1
    have hci : (c : Int) < (hi : Int) := by omega
    have hd0 : decide (hi ≤ c) = false := decide_eq_false (by omega)
    by_cases hc2 : c1 < hi
    · obtain ⟨J1, hJ1'⟩ : ∃ I, I = J + 1 := ⟨_, rfl⟩
      have eJ1 : (J : Int) + 1 = (J1 : Int) := by omega
      have eJ2 : (f : Int) + (c1 : Int) = (J1 : Int) := by omega
      have hJ11 : (J1 : Int) < (n : Int) := by omega
      have hJ10 : (0 : Int) ≤ (J1 : Int) := by omega
      have wJ1 : IntKind.i64.wrap (J1 : Int) = (J1 : Int) := IntWalk.i64_in _ (by omega)
      have cJ1 := (HE.out.get (i := J1) (by omega)).1
      obtain ⟨z, hz⟩ : ∃ x, el E J1 = x := ⟨_, rfl⟩
      rw [hz] at cJ1
      have HZ := Lib.hid hz
      have HJ1 := Lib.hid hJ1'
      have hd1 : decide (c1 < hi) = true := decide_eq_true hc2
      clear hEl hx hy hI hJ hc1 hcc hJ1' hz
      by_cases hyz : y < z
      · have HMX : Hid (∀ d, (d = 2 * r + 1 ∨ d = 2 * r + 2) → d < hi → el E (f + d) ≤ el E (f + c1)) := Lib.hid (fun d h1 h2 => by
          have q1 := HC.out
          have q2 := HC1.out
          have q3 := HJ.out
          have q4 := HJ1.out
          have e1 : f + c1 = J1 := by omega
          rw [e1, HZ.out]
          rcases h1 with h1 | h1
          · have e2 : f + d = J := by omega
            rw [e2, HY.out]; omega
          · have e2 : f + d = J1 := by omega
            rw [e2, HZ.out]; exact Int.le_refl _)
        have hd2 : decide (y < z) = true := decide_eq_true hyz
        go_wp2_with fail
        go_quiet ((go_at_call 125; exact Calls.quiet_of (less_q _ _ _)))
        obtain ⟨wq, hwq⟩ : ∃ wq, wq = wr.drewN nq := ⟨_, rfl⟩
        have HEq : Hid (RowAt g E rest wq) := Lib.hid (by rw [hwq]; exact HE.out)
        have HGq : Hid (w.grownBy wq (some g)) := Lib.hid (by rw [hwq]; exact grown_drewN HG.out nq)
        rw [← hwq]
        clear hwq cI cJ cJ1
        have hEl := HEL.out
        have kI := (HEq.out.get (i := I) (by omega)).1
        have kJ := (HEq.out.get (i := J1) (by omega)).1
        rw [HX0.out] at kI
        rw [HZ.out] at kJ
        clear hEl
        have HCH : Hid (c1 = 2 * r + 1 ∨ c1 = 2 * r + 2) := Lib.hid (by have := HC.out; have := HC1.out; omega)
        have HJE : Hid (J1 = f + c1) := Lib.hid (by have := HJ.out; have := HJ1.out; have := HC1.out; omega)
        by_cases hxy : x < z
        · have hd3 : decide (x < z) = true := decide_eq_true hxy
          go_wp2_with fail
          go_quiet ((go_at_call 125; exact Calls.quiet_of (less_q _ _ _)))
          obtain ⟨wp, hwp⟩ : ∃ wp, wp = wq.drewN nq := ⟨_, rfl⟩
          have HEp : Hid (RowAt g E rest wp) := Lib.hid (by rw [hwp]; exact HEq.out)
          have HGp : Hid (w.grownBy wp (some g)) := Lib.hid (by rw [hwp]; exact grown_drewN HGq.out nq)
          rw [← hwp]
          clear hwp kI kJ hd3
          have hEl := HEL.out
          obtain ⟨⟨ci, cj⟩, ⟨fi, fj, fij⟩, hS⟩ := HEp.out.swaps (i := I) (j := J1) (by omega) (by omega)
          have cij := HEp.out.once (i := I) (j := J1) (by omega) (by omega)
          have HS := Lib.hid hS
          have HX2 : Hid (HpX f lo hi c1 (sw E I J1)) := Lib.hid (by
            rw [HI.out, HJE.out]
            refine hpx_step HX.out hr HCH.out (by omega) ?_ HMX.out (by omega)
            rw [← HI.out, ← HJE.out, HX0.out, HZ.out]
            exact hxy)
          have HP2 : Hid (Pm f (f + hi) D (sw E I J1)) := Lib.hid (HP.out.step (by have := HI.out; omega) (by have := HI.out; omega) (by have := HJE.out; omega) (by have := HJE.out; omega))
          clear hEl hS
          go_upto_region 6 with (fail)
          go_region
          obtain ⟨wn, hwn⟩ : ∃ wn, wn = ((wp.setCell ⟨g, I, none⟩ (.int .u64 (el E J1))).setCell ⟨g, J1, none⟩ (.int .u64 (el E I))).drew := ⟨_, rfl⟩
          have HE2 : Hid (RowAt g (sw E I J1) rest wn) := Lib.hid (by rw [hwn]; exact HS.out)
          have HG2 : Hid (w.grownBy wn (some g)) := Lib.hid (by rw [hwn]; exact grown_drewN (grown_swap HGp.out I J1 _ _) 1)
          rw [← hwn]
          clear hwn ci cj fi fj fij cij
          go_wp2_with fail
          go_roundw
          case rel => exact ⟨c1, _, rfl, by omega, by omega, HP2, HX2, HE2, HG2⟩
          case measure => simp [intOf]; omega
        · have hd3 : decide (x < z) = false := decide_eq_false hxy
          have HHP : Hid (Hp f lo hi E) := Lib.hid (hpx_end HX.out (fun d h1 h2 => Int.le_trans (HMX.out d h1 h2) (by
            rw [← HJE.out, ← HI.out, HX0.out, HZ.out]
            omega)))
          go_wp2_with fail
          go_quiet ((go_at_call 125; exact Calls.quiet_of (less_q _ _ _)))
          have HE3 : Hid (RowAt g E rest (wq.drewN nq)) := HEq
          have HG3 := Lib.hid (grown_drewN HGq.out nq)
          go_wp2_with fail
          refine bodyPost_ret (results_none rfl _ _ _) rfl ?_
          exact ⟨rfl, E, HP.out, HHP.out, HE3.out, HG3.out⟩
      · have HMX : Hid (∀ d, (d = 2 * r + 1 ∨ d = 2 * r + 2) → d < hi → el E (f + d) ≤ el E (f + c)) := Lib.hid (fun d h1 h2 => by
          have q1 := HC.out
          have q2 := HC1.out
          have q3 := HJ.out
          have q4 := HJ1.out
          have e1 : f + c = J := by omega
          rw [e1, HY.out]
          rcases h1 with h1 | h1
          · have e2 : f + d = J := by omega
            rw [e2, HY.out]; exact Int.le_refl _
          · have e2 : f + d = J1 := by omega
            rw [e2, HZ.out]; omega)
        have hd2 : decide (y < z) = false := decide_eq_false hyz
        go_wp2_with fail
        go_quiet ((go_at_call 125; exact Calls.quiet_of (less_q _ _ _)))
        obtain ⟨wq, hwq⟩ : ∃ wq, wq = wr.drewN nq := ⟨_, rfl⟩
        have HEq : Hid (RowAt g E rest wq) := Lib.hid (by rw [hwq]; exact HE.out)
        have HGq : Hid (w.grownBy wq (some g)) := Lib.hid (by rw [hwq]; exact grown_drewN HG.out nq)
        rw [← hwq]
        clear hwq cI cJ cJ1
        have hEl := HEL.out
        have kI := (HEq.out.get (i := I) (by omega)).1
        have kJ := (HEq.out.get (i := J) (by omega)).1
        rw [HX0.out] at kI
        rw [HY.out] at kJ
        clear hEl
        have HCH : Hid (c = 2 * r + 1 ∨ c = 2 * r + 2) := Lib.hid (by have := HC.out; omega)
        have HJE : Hid (J = f + c) := Lib.hid (by have := HJ.out; omega)
        by_cases hxy : x < y
        · have hd3 : decide (x < y) = true := decide_eq_true hxy
          go_wp2_with fail
          go_quiet ((go_at_call 125; exact Calls.quiet_of (less_q _ _ _)))
          obtain ⟨wp, hwp⟩ : ∃ wp, wp = wq.drewN nq := ⟨_, rfl⟩
          have HEp : Hid (RowAt g E rest wp) := Lib.hid (by rw [hwp]; exact HEq.out)
          have HGp : Hid (w.grownBy wp (some g)) := Lib.hid (by rw [hwp]; exact grown_drewN HGq.out nq)
          rw [← hwp]
          clear hwp kI kJ hd3
          have hEl := HEL.out
          obtain ⟨⟨ci, cj⟩, ⟨fi, fj, fij⟩, hS⟩ := HEp.out.swaps (i := I) (j := J) (by omega) (by omega)
          have cij := HEp.out.once (i := I) (j := J) (by omega) (by omega)
          have HS := Lib.hid hS
          have HX2 : Hid (HpX f lo hi c (sw E I J)) := Lib.hid (by
            rw [HI.out, HJE.out]
            refine hpx_step HX.out hr HCH.out (by omega) ?_ HMX.out (by omega)
            rw [← HI.out, ← HJE.out, HX0.out, HY.out]
            exact hxy)
          have HP2 : Hid (Pm f (f + hi) D (sw E I J)) := Lib.hid (HP.out.step (by have := HI.out; omega) (by have := HI.out; omega) (by have := HJE.out; omega) (by have := HJE.out; omega))
          clear hEl hS
          go_upto_region 6 with (fail)
          go_region
          obtain ⟨wn, hwn⟩ : ∃ wn, wn = ((wp.setCell ⟨g, I, none⟩ (.int .u64 (el E J))).setCell ⟨g, J, none⟩ (.int .u64 (el E I))).drew := ⟨_, rfl⟩
          have HE2 : Hid (RowAt g (sw E I J) rest wn) := Lib.hid (by rw [hwn]; exact HS.out)
          have HG2 : Hid (w.grownBy wn (some g)) := Lib.hid (by rw [hwn]; exact grown_drewN (grown_swap HGp.out I J _ _) 1)
          rw [← hwn]
          clear hwn ci cj fi fj fij cij
          go_wp2_with fail
          go_roundw
          case rel => exact ⟨c, _, rfl, by omega, by omega, HP2, HX2, HE2, HG2⟩
          case measure => simp [intOf]; omega
        · have hd3 : decide (x < y) = false := decide_eq_false hxy
          have HHP : Hid (Hp f lo hi E) := Lib.hid (hpx_end HX.out (fun d h1 h2 => Int.le_trans (HMX.out d h1 h2) (by
            rw [← HJE.out, ← HI.out, HX0.out, HY.out]
            omega)))
          go_wp2_with fail
          go_quiet ((go_at_call 125; exact Calls.quiet_of (less_q _ _ _)))
          have HE3 : Hid (RowAt g E rest (wq.drewN nq)) := HEq
          have HG3 := Lib.hid (grown_drewN HGq.out nq)
          go_wp2_with fail
          refine bodyPost_ret (results_none rfl _ _ _) rfl ?_
          exact ⟨rfl, E, HP.out, HHP.out, HE3.out, HG3.out⟩
    · have HMX : Hid (∀ d, (d = 2 * r + 1 ∨ d = 2 * r + 2) → d < hi → el E (f + d) ≤ el E (f + c)) := Lib.hid (fun d h1 h2 => by
        have q1 := HC.out
        have q2 := HC1.out
        have e1 : d = c := by omega
        rw [e1]; exact Int.le_refl _)
      have hd1 : decide (c1 < hi) = false := decide_eq_false hc2
      clear hEl hx hy hI hJ hc1 hcc
      go_wp2_with fail
      go_quiet (fail)
      obtain ⟨wq, hwq⟩ : ∃ wq, wq = wr.drewN nq := ⟨_, rfl⟩
      have HEq : Hid (RowAt g E rest wq) := Lib.hid (by rw [hwq]; exact HE.out)
      have HGq : Hid (w.grownBy wq (some g)) := Lib.hid (by rw [hwq]; exact grown_drewN HG.out nq)
      rw [← hwq]
      clear hwq cI cJ
      have hEl := HEL.out
      have kI := (HEq.out.get (i := I) (by omega)).1
      have kJ := (HEq.out.get (i := J) (by omega)).1
      rw [HX0.out] at kI
      rw [HY.out] at kJ
      clear hEl
      have HCH : Hid (c = 2 * r + 1 ∨ c = 2 * r + 2) := Lib.hid (by have := HC.out; omega)
      have HJE : Hid (J = f + c) := Lib.hid (by have := HJ.out; omega)
      by_cases hxy : x < y
      · have hd3 : decide (x < y) = true := decide_eq_true hxy
        go_wp2_with fail
        go_quiet ((go_at_call 125; exact Calls.quiet_of (less_q _ _ _)))
        obtain ⟨wp, hwp⟩ : ∃ wp, wp = wq.drewN nq := ⟨_, rfl⟩
        have HEp : Hid (RowAt g E rest wp) := Lib.hid (by rw [hwp]; exact HEq.out)
        have HGp : Hid (w.grownBy wp (some g)) := Lib.hid (by rw [hwp]; exact grown_drewN HGq.out nq)
        rw [← hwp]
        clear hwp kI kJ hd3
        have hEl := HEL.out
        obtain ⟨⟨ci, cj⟩, ⟨fi, fj, fij⟩, hS⟩ := HEp.out.swaps (i := I) (j := J) (by omega) (by omega)
        have cij := HEp.out.once (i := I) (j := J) (by omega) (by omega)
        have HS := Lib.hid hS
        have HX2 : Hid (HpX f lo hi c (sw E I J)) := Lib.hid (by
          rw [HI.out, HJE.out]
          refine hpx_step HX.out hr HCH.out (by omega) ?_ HMX.out (by omega)
          rw [← HI.out, ← HJE.out, HX0.out, HY.out]
          exact hxy)
        have HP2 : Hid (Pm f (f + hi) D (sw E I J)) := Lib.hid (HP.out.step (by have := HI.out; omega) (by have := HI.out; omega) (by have := HJE.out; omega) (by have := HJE.out; omega))
        clear hEl hS
        go_upto_region 6 with (fail)
        go_region
        obtain ⟨wn, hwn⟩ : ∃ wn, wn = ((wp.setCell ⟨g, I, none⟩ (.int .u64 (el E J))).setCell ⟨g, J, none⟩ (.int .u64 (el E I))).drew := ⟨_, rfl⟩
        have HE2 : Hid (RowAt g (sw E I J) rest wn) := Lib.hid (by rw [hwn]; exact HS.out)
        have HG2 : Hid (w.grownBy wn (some g)) := Lib.hid (by rw [hwn]; exact grown_drewN (grown_swap HGp.out I J _ _) 1)
        rw [← hwn]
        clear hwn ci cj fi fj fij cij
        go_wp2_with fail
        go_roundw
        case rel => exact ⟨c, _, rfl, by omega, by omega, HP2, HX2, HE2, HG2⟩
        case measure => simp [intOf]; omega
      · have hd3 : decide (x < y) = false := decide_eq_false hxy
        have HHP : Hid (Hp f lo hi E) := Lib.hid (hpx_end HX.out (fun d h1 h2 => Int.le_trans (HMX.out d h1 h2) (by
          rw [← HJE.out, ← HI.out, HX0.out, HY.out]
          omega)))
        go_wp2_with fail
        go_quiet ((go_at_call 125; exact Calls.quiet_of (less_q _ _ _)))
        have HE3 : Hid (RowAt g E rest (wq.drewN nq)) := HEq
        have HG3 := Lib.hid (grown_drewN HGq.out nq)
        go_wp2_with fail
        refine bodyPost_ret (results_none rfl _ _ _) rfl ?_
        exact ⟨rfl, E, HP.out, HHP.out, HE3.out, HG3.out⟩
set_option maxHeartbeats 16000000 in
set_option maxRecDepth 100000 in
theorem heap_any (g cap a b : Nat) (D : List Int) (rest : List Value) (w : World) (hR : RowAt g D rest w) (hb : b ≤ D.length) (hab : a < b) (hn : D.length ≤ 1000000) (hcap : D.length ≤ cap) (hc : cap ≤ 9223372036854775807) :
    Calls Try.prog 120 #[.slice (some ⟨g, 0, none⟩) D.length cap, .int .i64 a, .int .i64 b] w fun e w' => e = .returned (.tuple #[]) ∧ QsP g rest a b D (Rs a b) w w' := by
  have HSI := Lib.hid (fun (lo hi : Nat) (E : List Int) (W : World) (hR : RowAt g E rest W) (hE : E.length = D.length) (hH : Hp a (lo + 1) hi E) (hl : a + hi ≤ D.length) (hlo : lo ≤ 1000000) => sift_any g cap lo hi a E rest W hR hH (by omega) (by omega) hlo (by omega) hc)
  have HS0 : Hid (∀ (hi : Nat) (E : List Int) (W : World) (hR : RowAt g E rest W) (hE : E.length = D.length) (hH : Hp a (0 + 1) hi E) (hl : a + hi ≤ D.length), Calls Try.prog 130 #[.slice (some ⟨g, 0, none⟩) E.length cap, .int .i64 0, .int .i64 hi, .int .i64 a] W fun e w' => e = .returned (.tuple #[]) ∧ QsP g rest a (a + hi) E (Hp a 0 hi) W w') := Lib.hid (fun hi E W hR hE hH hl => sift_any g cap 0 hi a E rest W hR hH (by omega) (by omega) (Nat.zero_le _) (by omega) hc)
  obtain ⟨n, hN⟩ : ∃ n, D.length = n := ⟨_, rfl⟩
  rw [hN] at hb hn hcap HSI HS0 ⊢
  have HN := Lib.hid hN
  have HR := Lib.hid hR
  obtain ⟨h, hh⟩ : ∃ h, b = a + h := ⟨b - a, by omega⟩
  have eh : (b : Int) - (a : Int) = (h : Int) := by omega
  obtain ⟨k0, hk0⟩ : ∃ k, k = (h - 1) / 2 + 1 := ⟨_, rfl⟩
  have ek0 : ((h : Int) - 1) / 2 = (k0 : Int) - 1 := by omega
  have HK0 : Hid (Hp a k0 h D) := Lib.hid (hp_none (by omega))
  have hk09 : k0 ≤ 1000000 := by omega
  have hh1 : 1 ≤ h := by omega
  have HH := Lib.hid hh
  clear hN hR hh hk0
  go_enter Try.func120, Try.ntmps120
  go_wp2_with fail
  rw [ek0]
  clear ek0
  go_loopw [9] (fun i wr => ∃ (k : Nat) (E : List Int), i = .int .i64 ((k : Int) - 1) ∧ k ≤ 1000000 ∧ Hid (Pm a b D E) ∧ Hid (Hp a k h E) ∧ Hid (RowAt g E rest wr) ∧ Hid (w.grownBy wr (some g))) (fun i _ => (intOf i + 1).toNat)
  case atStart => exact ⟨k0, D, rfl, hk09, Lib.hid .refl, HK0, HR, Lib.hid (grown_below (Below.refl _ _))⟩
  case round =>
    obtain ⟨k, E, rfl, hk9, HP, HX, HE, HG⟩ := hrel
    rcases Nat.eq_zero_or_pos k with rfl | hkp
    case inr =>
      obtain ⟨j, hj⟩ : ∃ j, k = j + 1 := ⟨k - 1, by omega⟩
      have ej : (k : Int) - 1 = (j : Int) := by omega
      rw [ej]
      have HEL : Hid (E.length = n) := Lib.hid (by rw [HP.out.len]; exact HN.out)
      have hC := HSI.out j h E wr HE.out HEL.out (by rw [← hj]; exact HX.out) (by have := HH.out; omega) (by omega)
      rw [HEL.out] at hC
      have HC := Lib.hid hC
      have hj9 : j ≤ 1000000 := by omega
      clear hC hj
      go_wp2_with fail
      refine HC.out.mono ?_
      rintro e w2 ⟨rfl, F, hp, hq, hr2, hg⟩
      have HP2 : Hid (Pm a b D F) := Lib.hid (HP.out.trans (hp.mono (Nat.le_refl _) (by have := HH.out; omega)))
      have HX2 := Lib.hid hq
      have HE2 := Lib.hid hr2
      have HG2 := Lib.hid (grown_trans HG.out hg)
      clear hp hq hr2 hg
      go_wp2_with fail
      go_roundw
      case rel => exact ⟨j, F, rfl, hj9, HP2, HX2, HE2, HG2⟩
      case measure => simp [intOf] <;> omega
    obtain ⟨wB, rfl⟩ : ∃ x, x = wr := ⟨_, rfl⟩
    have e0 : ((0 : Nat) : Int) - 1 = -1 := rfl
    rw [e0]
    clear e0
    go_wp2_with fail
    go_loopw [10] (fun i wr => ∃ (k : Nat) (E : List Int), i = .int .i64 ((k : Int) - 1) ∧ k ≤ h ∧ Hid (Pm a b D E) ∧ Hid (Hp a 0 k E) ∧ Hid (Tl a h k E) ∧ Hid (RowAt g E rest wr) ∧ Hid (w.grownBy wr (some g))) (fun i _ => (intOf i + 1).toNat)
    case atStart => exact ⟨h, E, rfl, Nat.le_refl _, HP, HX, Lib.hid (tl_start a h E), HE, HG⟩
    case round =>
      clear HP HX HE HG hk9
      obtain ⟨k, E, rfl, hkh, HP, HX, HT, HE, HG⟩ := hrel
      rcases Nat.eq_zero_or_pos k with rfl | hkp
      · have HRS : Hid (Rs a b E) := Lib.hid (by rw [HH.out]; exact tl_rs HT.out)
        go_wp2_with fail
        go_end0
        exact ⟨rfl, E, HP.out, HRS.out, HE.out, HG.out⟩
      obtain ⟨j, hj⟩ : ∃ j, k = j + 1 := ⟨k - 1, by omega⟩
      have ej : (k : Int) - 1 = (j : Int) := by omega
      rw [ej]
      obtain ⟨J, hJ⟩ : ∃ J, J = a + j := ⟨_, rfl⟩
      have eJ : (a : Int) + (j : Int) = (J : Int) := by omega
      have HEL : Hid (E.length = n) := Lib.hid (by rw [HP.out.len]; exact HN.out)
      have hJn : J < n := by have := HH.out; omega
      have hJ1 : (J : Int) < (n : Int) := by omega
      have hJ0 : (0 : Int) ≤ (J : Int) := by omega
      have ha1 : (a : Int) < (n : Int) := by omega
      have ha0 : (0 : Int) ≤ (a : Int) := by omega
      have wJ : IntKind.i64.wrap (J : Int) = (J : Int) := IntWalk.i64_in _ (by omega)
      have hEl := HEL.out
      obtain ⟨⟨ci, cj⟩, ⟨fi, fj, fij⟩, hS⟩ := HE.out.swaps (i := a) (j := J) (by omega) (by omega)
      have cij := HE.out.once (i := a) (j := J) (by omega) (by omega)
      have HS := Lib.hid hS
      have HJ := Lib.hid hJ
      have HJJ := Lib.hid hj
      clear hEl hS hj hJ
      go_upto_region 10 with (fail)
      go_region
      obtain ⟨wn, hwn⟩ : ∃ wn, wn = ((wr.setCell ⟨g, a, none⟩ (.int .u64 (el E J))).setCell ⟨g, J, none⟩ (.int .u64 (el E a))).drew := ⟨_, rfl⟩
      have HE2 : Hid (RowAt g (sw E a J) rest wn) := Lib.hid (by rw [hwn]; exact HS.out)
      have HG2 : Hid (w.grownBy wn (some g)) := Lib.hid (by rw [hwn]; exact grown_drewN (grown_swap HG.out a J _ _) 1)
      rw [← hwn]
      clear hwn ci cj fi fj fij cij
      have hsl : (sw E a J).length = n := by rw [sw_len]; exact HEL.out
      have hC := HS0.out j (sw E a J) wn HE2.out hsl (by
        have e1 := HJ.out
        have e2 := HJJ.out
        subst e1 e2
        exact hp_pop HX.out (by have := HEL.out; omega)) (by omega)
      rw [hsl] at hC
      have HC := Lib.hid hC
      clear hC hsl
      go_wp2_with fail
      refine HC.out.mono ?_
      rintro e w2 ⟨rfl, F, hp, hq, hr2, hg⟩
      have HP2 : Hid (Pm a b D F) := Lib.hid (by
        have e1 := HJ.out
        have e2 := HH.out
        exact (HP.out.step (i := a) (j := J) (Nat.le_refl _) (by omega) (by omega) (by omega)).trans (hp.mono (Nat.le_refl _) (by omega)))
      have HT2 : Hid (Tl a h j F) := Lib.hid (by
        have e1 := HJ.out
        have e2 := HJJ.out
        have e3 := HEL.out
        have e4 := HH.out
        subst e1 e2
        exact tl_pop HX.out HT.out hp (by omega) (by omega))
      have HX2 := Lib.hid hq
      have HE3 := Lib.hid hr2
      have HG3 := Lib.hid (grown_trans HG2.out hg)
      clear hp hq hr2 hg
      have hjh : j ≤ h := by have := HJJ.out; omega
      go_wp2_with fail
      go_roundw
      case rel => exact ⟨j, F, rfl, hjh, HP2, HX2, HT2, HE3, HG3⟩
      case measure => have := HJJ.out; simp [intOf] <;> omega
end Go.Proofs.Ytlfhcjhbnakamaa.Qs
/-
  Contracts of the library at this program, laid by the kit's own tool (in plain words).
-/
namespace Go.Proofs
open Go.Shelf
def Ytlfhcjhbnakamaa.lays125_ren : Go.Shelf.Ren := ⟨fun | 125 => 52 | 128 => 81 | 129 => 82 | n => n, fun | 46 => 76 | 3 => 3 | 51 => 117 | 53 => 22 | 4 => 4 | 5 => 5 | 9 => 9 | n => n, fun | n => n⟩
theorem Ytlfhcjhbnakamaa.lays125 : Go.Proofs.Lays.n125 Try.prog Ytlfhcjhbnakamaa.lays125_ren := {
  mixed := by kernel_rfl
  f125 := Try.func52.trans (congrArg some (by kernel_rfl))
  f128 := Try.func81.trans (congrArg some (by kernel_rfl))
  f129 := Try.func82.trans (congrArg some (by kernel_rfl))
  t3 := Try.underlying3
  a3 := Try.isAgg3
  z3 := Try.sizeOf3
  v3 := Try.zeroValue3
  t4 := Try.underlying4
  a4 := Try.isAgg4
  z4 := Try.sizeOf4
  v4 := Try.zeroValue4
  t5 := Try.underlying5
  a5 := Try.isAgg5
  z5 := Try.sizeOf5
  v5 := Try.zeroValue5
  t9 := Try.underlying9
  a9 := Try.isAgg9
  z9 := Try.sizeOf9
  v9 := Try.zeroValue9
  t46 := Try.underlying76
  a46 := Try.isAgg76
  z46 := Try.sizeOf76
  v46 := Try.zeroValue76
  t51 := Try.underlying117
  a51 := Try.isAgg117
  z51 := Try.sizeOf117
  v51 := Try.zeroValue117
  t53 := Try.underlying22
  a53 := Try.isAgg22
  z53 := Try.sizeOf22
  v53 := Try.zeroValue22 }
theorem Ytlfhcjhbnakamaa.bits_Len (x : Int) (w : World) (h0 : 0 ≤ x) (h1 : x ≤ 18446744073709551615) :
    Calls Try.prog 52 #[.int .u64 x] w fun e w' => e = .returned (.int .i64 (Lib.bitLen x.toNat)) ∧ w' = w := Any.bits_Len Ytlfhcjhbnakamaa.lays125 x w h0 h1
end Go.Proofs
/-
  breakPatterns at uint64: xorshift, nextPowerOfTwo.
-/
namespace Go.Proofs.Ytlfhcjhbnakamaa.Qs
open Go.RowKit Go.Gh
set_option linter.unusedVariables false
set_option linter.unusedSimpArgs false
theorem bl_zero : ∀ f, Lib.bitLenAux f 0 = 0
  | 0 => rfl
  | f + 1 => by rw [Lib.bitLenAux, if_pos rfl]
theorem bl_le : ∀ (f x : Nat), 0 < x → 2 ^ Lib.bitLenAux f x ≤ 2 * x
  | 0, x, h => by show 1 ≤ _; omega
  | f + 1, x, h => by
    rw [Lib.bitLenAux, if_neg (by omega), Nat.pow_add]
    by_cases hx : x / 2 = 0
    · rw [hx, bl_zero]; show 2 ≤ _; omega
    · have := bl_le f (x / 2) (by omega)
      have e : 2 ^ 1 * 2 ^ Lib.bitLenAux f (x / 2) = 2 * 2 ^ Lib.bitLenAux f (x / 2) := rfl
      omega
def U64 (x : Int) : Prop := 0 ≤ x ∧ x < 18446744073709551616
theorem xor_u64 {x y : Int} (hx : U64 x) (hy : U64 y) : U64 (bits .xor .u64 x y) := by
  rw [u64_xor x y hx.1 hx.2 hy.1 hy.2]
  refine ⟨by omega, ?_⟩
  have : x.toNat ^^^ y.toNat < 2 ^ 64 := Nat.xor_lt_two_pow (by have := hx.1; have := hx.2; omega) (by have := hy.1; have := hy.2; omega)
  have e : (2 : Nat) ^ 64 = 18446744073709551616 := by decide
  omega
theorem wrap_u64 (x : Int) : U64 (IntKind.u64.wrap x) := by
  unfold IntKind.wrap U64
  simp [IntKind.signed, IntKind.bits, IntKind.min, IntKind.max]
  omega
theorem and_le {x y : Int} (hx : U64 x) (hy : U64 y) : 0 ≤ bits .and .u64 x y ∧ bits .and .u64 x y ≤ y := by
  rw [u64_and x y hx.1 hx.2 hy.1 hy.2]
  have := Nat.and_le_right (n := x.toNat) (m := y.toNat)
  have := hy.1
  omega
theorem grown_mix {w wr w2 : World} {g sb : Nat} (h1 : w.grownBy wr (some g)) (h2 : wr.grownBy w2 (some sb)) (hs : w.heap.size ≤ sb) : w.grownBy w2 (some g) :=
  ⟨h2.os.trans h1.os, h2.tape.trans h1.tape, h2.output.trans h1.output, Nat.le_trans h1.size h2.size, fun k hk hne => (h2.block k (Nat.lt_of_lt_of_le hk h1.size) (fun e => by have := Option.some.inj e; omega)).trans (h1.block k hk hne)⟩
def XsB (rb : Nat) (x : Int) (w : World) : Prop := w.heap[rb]? = some (.cells #[.int .u64 x] 133 (0, 0))
theorem XsB.get {sb : Nat} {s : Int} {w : World} (h : XsB sb s w) : w.cell? ⟨sb, 0, none⟩ = some (.int .u64 s) ∧ w.frozen? ⟨sb, 0, none⟩ = false := row_cell 0 _ h rfl
theorem XsB.set {sb : Nat} {s : Int} {w : World} (h : XsB sb s w) (x : Int) : XsB sb x (w.setCell ⟨sb, 0, none⟩ (.int .u64 x)) := row_setCell 0 (.int .u64 x) h
def NxP (rb : Nat) (w : World) (e : Ending) (w' : World) : Prop := ∃ y : Int, e = .returned (.int .u64 y) ∧ U64 y ∧ XsB rb y w' ∧ w.grownBy w' (some rb)
set_option maxHeartbeats 4000000 in
set_option maxRecDepth 100000 in
theorem next_any (rb : Nat) (x : Int) (w : World) (hx : U64 x) (hB : XsB rb x w) : Calls Try.prog 107 #[.pointer (some ⟨rb, 0, none⟩)] w (NxP rb w) := by
  obtain ⟨c0, f0⟩ := hB.get
  have HB := Lib.hid hB
  have HX := Lib.hid hx
  clear hB hx
  go_enter Try.func107, Try.ntmps107
  go_upto_region 1 with (fail)
  go_region
  obtain ⟨y, hy⟩ : ∃ y, y = bits .xor .u64 x (IntKind.u64.wrap (x * 8192)) := ⟨_, rfl⟩
  have HY : Hid (U64 y) := Lib.hid (by rw [hy]; exact xor_u64 HX.out (wrap_u64 _))
  rw [← hy]
  obtain ⟨w1, hw1⟩ : ∃ w', w' = (w.setCell ⟨rb, 0, none⟩ (.int .u64 y)).drew := ⟨_, rfl⟩
  have HB1 : Hid (XsB rb y w1) := Lib.hid (by rw [hw1]; exact HB.out.set y)
  have HG1 : Hid (w.grownBy w1 (some rb)) := Lib.hid (by rw [hw1]; exact grown_drewN (grown_setCell (grown_below (Below.refl _ _)) 0 _) 1)
  rw [← hw1]
  clear hw1 hy c0 f0
  obtain ⟨c1, f1⟩ := HB1.out.get
  have hy0 := HY.out.1
  go_upto_region 2 with (fail)
  go_region
  obtain ⟨z, hz⟩ : ∃ z, z = bits .xor .u64 y (y / 128) := ⟨_, rfl⟩
  have HZ : Hid (U64 z) := Lib.hid (by rw [hz]; exact xor_u64 HY.out ⟨by have := HY.out.1; omega, by have := HY.out.1; have := HY.out.2; omega⟩)
  rw [← hz]
  obtain ⟨w2, hw2⟩ : ∃ w', w' = (w1.setCell ⟨rb, 0, none⟩ (.int .u64 z)).drew := ⟨_, rfl⟩
  have HB2 : Hid (XsB rb z w2) := Lib.hid (by rw [hw2]; exact HB1.out.set z)
  have HG2 : Hid (w.grownBy w2 (some rb)) := Lib.hid (by rw [hw2]; exact grown_drewN (grown_setCell HG1.out 0 _) 1)
  rw [← hw2]
  clear hw2 hz c1 f1 hy0
  obtain ⟨c2, f2⟩ := HB2.out.get
  go_upto_region 3 with (fail)
  go_region
  obtain ⟨v, hv⟩ : ∃ z', z' = bits .xor .u64 z (IntKind.u64.wrap (z * 131072)) := ⟨_, rfl⟩
  have HV : Hid (U64 v) := Lib.hid (by rw [hv]; exact xor_u64 HZ.out (wrap_u64 _))
  rw [← hv]
  obtain ⟨w3, hw3⟩ : ∃ w', w' = (w2.setCell ⟨rb, 0, none⟩ (.int .u64 v)).drew := ⟨_, rfl⟩
  have HB3 : Hid (XsB rb v w3) := Lib.hid (by rw [hw3]; exact HB2.out.set v)
  have HG3 : Hid (w.grownBy w3 (some rb)) := Lib.hid (by rw [hw3]; exact grown_drewN (grown_setCell HG2.out 0 _) 1)
  rw [← hw3]
  clear hw3 hv c2 f2
  obtain ⟨c3, f3⟩ := HB3.out.get
  go_wp2_with fail
  go_ret
  exact ⟨v, rfl, HV.out, HB3.out, HG3.out⟩
set_option maxHeartbeats 4000000 in
set_option maxRecDepth 100000 in
theorem npow_any (l : Nat) (w : World) (h1 : 0 < l) (h2 : l ≤ 1000000) : Calls Try.prog 106 #[.int .i64 l] w fun e w' => (∃ M : Nat, e = .returned (.int .u64 M) ∧ 0 < M ∧ M ≤ 2 * l) ∧ w = w' := by
  have HL := Lib.hid (fun w => Ytlfhcjhbnakamaa.bits_Len (l : Int) w (by omega) (by omega))
  obtain ⟨b, hb⟩ : ∃ b, Lib.bitLen (l : Int).toNat = b := ⟨_, rfl⟩
  rw [hb] at HL
  have hbb : 2 ^ b ≤ 2 * l := by
    rw [← hb]
    exact bl_le 64 l h1
  have hb64 : b ≤ 21 := by
    refine Nat.le_of_not_lt fun h => ?_
    have : 2 ^ 22 ≤ 2 ^ b := Nat.pow_le_pow_right (by decide) h
    have e : (2 : Nat) ^ 22 = 4194304 := by decide
    omega
  have HBB := Lib.hid hbb
  clear hb hbb
  go_enter Try.func106, Try.ntmps106
  go_wp2_with (refine (HL.out _).mono ?_; rintro e w2 ⟨rfl, hw2⟩; have hw2 := hw2.symm; subst hw2)
  go_ret
  have hbb := HBB.out
  refine ⟨⟨2 ^ b, ?_, Nat.pow_pos (by decide), hbb⟩, rfl⟩
  have e : IntKind.u64.wrap (2 ^ b) = ((2 ^ b : Nat) : Int) := by
    have e1 : (2 : Int) ^ b = ((2 ^ b : Nat) : Int) := by rw [Int.natCast_pow]; rfl
    rw [e1]
    generalize 2 ^ b = P at hbb
    unfold IntKind.wrap
    simp [IntKind.signed, IntKind.bits, IntKind.min, IntKind.max]
    omega
  rw [← e]
  rfl
set_option maxHeartbeats 8000000 in
set_option maxRecDepth 100000 in
theorem break_any (g cap a b : Nat) (D : List Int) (rest : List Value) (w : World) (hR : RowAt g D rest w) (hb : b ≤ D.length) (hab : a + 12 < b) (hn : D.length ≤ 1000000) (hcap : D.length ≤ cap) (hc : cap ≤ 9223372036854775807) :
    Calls Try.prog 121 #[.slice (some ⟨g, 0, none⟩) D.length cap, .int .i64 a, .int .i64 b] w fun e w' => e = .returned (.tuple #[]) ∧ QsP g rest a b D (fun _ => True) w w' := by
  obtain ⟨l, hl⟩ : ∃ l, b = a + l := ⟨b - a, by omega⟩
  obtain ⟨Q, hQ⟩ : ∃ Q, Q = l / 4 := ⟨_, rfl⟩
  obtain ⟨J0, hJ0⟩ : ∃ J, J = a + Q * 2 - 1 := ⟨_, rfl⟩
  obtain ⟨J2, hJ2⟩ : ∃ J, J = a + Q * 2 + 1 := ⟨_, rfl⟩
  have el1 : (b : Int) - (a : Int) = (l : Int) := by omega
  have eq : (l : Int) / 4 = (Q : Int) := by omega
  have e0 : (a : Int) + (Q : Int) * 2 - 1 = (J0 : Int) := by omega
  have e2 : (a : Int) + (Q : Int) * 2 + 1 = (J2 : Int) := by omega
  have hJb : J2 < b := by omega
  have hJa : a ≤ J0 := by omega
  have hJJ : J0 ≤ J2 := by omega
  have hQ9 : Q ≤ 1000000 := by omega
  have hl8 : 8 ≤ l := by omega
  have hl9 : l ≤ 1000000 := by omega
  have hb9 : b ≤ 1000000 := by omega
  obtain ⟨n, hN⟩ : ∃ n, D.length = n := ⟨_, rfl⟩
  rw [hN] at hb hn hcap ⊢
  have HN := Lib.hid hN
  have HNP := Lib.hid (fun w => npow_any l w (by omega) hl9)
  obtain ⟨wA, hwA⟩ : ∃ wA, wA = w.alloc (Obj.cells #[.int .u64 l] 133) := ⟨_, rfl⟩
  have hbA : Below w.heap.size w wA := by rw [hwA]; exact (Below.refl _ _).alloc (Nat.le_refl _) _
  have HXA : Hid (XsB w.heap.size l wA) := Lib.hid (by rw [hwA]; exact heap_alloc_new w _)
  have hne : g ≠ w.heap.size := by have := hR.lt; omega
  have HNE : Hid (g ≠ w.heap.size) := Lib.hid hne
  have HWA := Lib.hid hwA
  have HRA := Lib.hid (hR.below hbA)
  have HGA : Hid (w.grownBy wA (some g)) := Lib.hid (grown_below hbA)
  have HUL : Hid (U64 (l : Int)) := Lib.hid ⟨by omega, by omega⟩
  have HL := Lib.hid (And.intro hl (And.intro hQ (And.intro hJ0 hJ2)))
  clear hN hR hwA hbA hne hl hQ hJ0 hJ2
  obtain ⟨sb, hsb⟩ : ∃ sb, w.heap.size = sb := ⟨_, rfl⟩
  rw [hsb] at HXA HNE
  have HSB := Lib.hid hsb
  clear hsb
  go_enter Try.func121, Try.ntmps121
  go_upto_region 3 with (fail)
  rw [HSB.out, ← HWA.out]
  go_wp2_with fail
  refine (HNP.out _).mono ?_
  rintro e w2 ⟨⟨M, rfl, hM0, hM2⟩, rfl⟩
  have HMB := Lib.hid (And.intro hM0 hM2)
  go_wp2_with fail
  try rw [e0]
  clear e0
  go_loopw [9] (fun i wr => ∃ (J : Nat) (E : List Int) (y : Int), i = .int .i64 J ∧ J0 ≤ J ∧ J ≤ J2 + 1 ∧ Hid (U64 y) ∧ Hid (Pm a b D E) ∧ Hid (RowAt g E rest wr) ∧ Hid (XsB sb y wr) ∧ Hid (w.grownBy wr (some g))) (fun i _ => J2 + 1 - (intOf i).toNat)
  case atStart => exact ⟨J0, D, (l : Int), rfl, Nat.le_refl _, by omega, HUL, Lib.hid .refl, HRA, HXA, HGA⟩
  case round =>
    obtain ⟨J, E, y, rfl, hJ0, hJ2, HY, HP, HE, HB, HG⟩ := hrel
    by_cases hlt : J ≤ J2
    case neg =>
      have hd : decide (J ≤ J2) = false := decide_eq_false hlt
      go_wp2_with fail
      go_end0
      exact ⟨rfl, E, HP.out, trivial, HE.out, HG.out⟩
    have hd : decide (J ≤ J2) = true := decide_eq_true hlt
    have HEL : Hid (E.length = n) := Lib.hid (by rw [HP.out.len]; exact HN.out)
    have HNX := Lib.hid (next_any sb y wr HY.out HB.out)
    go_wp2_with fail
    refine HNX.out.mono ?_
    rintro e wx ⟨y', rfl, hy', hb', hg'⟩
    have HY2 := Lib.hid hy'
    have HB2 := Lib.hid hb'
    have HE2 : Hid (RowAt g E rest wx) := Lib.hid (HE.out.grown hg' (fun e => HNE.out (Option.some.inj e).symm))
    have HG2 : Hid (w.grownBy wx (some g)) := Lib.hid (grown_mix HG.out hg' (by rw [← HSB.out]; exact Nat.le_refl _))
    have hand := and_le (x := y') (y := (M : Int) - 1) hy' ⟨by omega, by omega⟩
    obtain ⟨o, ho⟩ : ∃ o : Nat, bits .and .u64 y' ((M : Int) - 1) = (o : Int) := ⟨(bits .and .u64 y' ((M : Int) - 1)).toNat, by have := hand.1; omega⟩
    have ho2 : o < 2 * l := by have := hand.2; rw [ho] at this; omega
    clear hand hy' hb' hg'
    by_cases hol : l ≤ o
    · have hdo : decide (l ≤ o) = true := decide_eq_true hol
      obtain ⟨r, hr⟩ : ∃ r, r = o - l := ⟨_, rfl⟩
      have er : (o : Int) - (l : Int) = (r : Int) := by omega
      have hrl : r < l := by omega
      have hbl := HL.out.1
      clear hr
      obtain ⟨I, hI⟩ : ∃ I, I = a + r := ⟨_, rfl⟩
      have eI : (a : Int) + (r : Int) = (I : Int) := by omega
      have hIb : I < b := by omega
      have hIa : a ≤ I := by omega
      have hI1 : (I : Int) < (n : Int) := by omega
      have hI0 : (0 : Int) ≤ (I : Int) := by omega
      have hJ1 : (J : Int) < (n : Int) := by omega
      have hJ0' : (0 : Int) ≤ (J : Int) := by omega
      have wI : IntKind.i64.wrap (I : Int) = (I : Int) := IntWalk.i64_in _ (by omega)
      have hEl := HEL.out
      obtain ⟨⟨ci, cj⟩, ⟨fi, fj, fij⟩, hS⟩ := HE2.out.swaps (i := J) (j := I) (by omega) (by omega)
      have cij := HE2.out.once (i := J) (j := I) (by omega) (by omega)
      have HS := Lib.hid hS
      clear hEl hS hI hbl
      go_upto_region 10 with (fail)
      go_region
      obtain ⟨wn, hwn⟩ : ∃ wn, wn = ((wx.setCell ⟨g, J, none⟩ (.int .u64 (el E I))).setCell ⟨g, I, none⟩ (.int .u64 (el E J))).drew := ⟨_, rfl⟩
      have HE3 : Hid (RowAt g (sw E J I) rest wn) := Lib.hid (by rw [hwn]; exact HS.out)
      have HG3 : Hid (w.grownBy wn (some g)) := Lib.hid (by rw [hwn]; exact grown_drewN (grown_swap HG2.out J I _ _) 1)
      have HB3 : Hid (XsB sb y' wn) := Lib.hid (by rw [hwn]; exact row_setCell_other _ (row_setCell_other _ HB2.out (fun e => HNE.out e.symm)) (fun e => HNE.out e.symm))
      have HP3 : Hid (Pm a b D (sw E J I)) := Lib.hid (HP.out.step (by omega) (by omega) hIa hIb)
      rw [← hwn]
      clear hwn ci cj fi fj fij cij
      go_wp2_with fail
      go_roundw
      case rel => exact ⟨J + 1, _, y', by go_num, by omega, by omega, HY2, HP3, HE3, HB3, HG3⟩
      case measure => simp [intOf]; omega
    · have hdo : decide (l ≤ o) = false := decide_eq_false hol
      have hbl := HL.out.1
      obtain ⟨I, hI⟩ : ∃ I, I = a + o := ⟨_, rfl⟩
      have eI : (a : Int) + (o : Int) = (I : Int) := by omega
      have hIb : I < b := by omega
      have hIa : a ≤ I := by omega
      have hI1 : (I : Int) < (n : Int) := by omega
      have hI0 : (0 : Int) ≤ (I : Int) := by omega
      have hJ1 : (J : Int) < (n : Int) := by omega
      have hJ0' : (0 : Int) ≤ (J : Int) := by omega
      have wI : IntKind.i64.wrap (I : Int) = (I : Int) := IntWalk.i64_in _ (by omega)
      have hEl := HEL.out
      obtain ⟨⟨ci, cj⟩, ⟨fi, fj, fij⟩, hS⟩ := HE2.out.swaps (i := J) (j := I) (by omega) (by omega)
      have cij := HE2.out.once (i := J) (j := I) (by omega) (by omega)
      have HS := Lib.hid hS
      clear hEl hS hI hbl
      go_upto_region 10 with (fail)
      go_region
      obtain ⟨wn, hwn⟩ : ∃ wn, wn = ((wx.setCell ⟨g, J, none⟩ (.int .u64 (el E I))).setCell ⟨g, I, none⟩ (.int .u64 (el E J))).drew := ⟨_, rfl⟩
      have HE3 : Hid (RowAt g (sw E J I) rest wn) := Lib.hid (by rw [hwn]; exact HS.out)
      have HG3 : Hid (w.grownBy wn (some g)) := Lib.hid (by rw [hwn]; exact grown_drewN (grown_swap HG2.out J I _ _) 1)
      have HB3 : Hid (XsB sb y' wn) := Lib.hid (by rw [hwn]; exact row_setCell_other _ (row_setCell_other _ HB2.out (fun e => HNE.out e.symm)) (fun e => HNE.out e.symm))
      have HP3 : Hid (Pm a b D (sw E J I)) := Lib.hid (HP.out.step (by omega) (by omega) hIa hIb)
      rw [← hwn]
      clear hwn ci cj fi fj fij cij
      go_wp2_with fail
      go_roundw
      case rel => exact ⟨J + 1, _, y', by go_num, by omega, by omega, HY2, HP3, HE3, HB3, HG3⟩
      case measure => simp [intOf]; omega
end Go.Proofs.Ytlfhcjhbnakamaa.Qs
