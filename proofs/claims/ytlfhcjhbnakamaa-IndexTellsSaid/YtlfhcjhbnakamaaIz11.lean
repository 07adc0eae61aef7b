/-
  partition and partitionEqual at uint64 (PRINTED by mkqs5.py).
-/
import Derived.Test.YtlfhcjhbnakamaaIz10
import Derived.Deep.CutBlock
namespace Go.Proofs.Ytlfhcjhbnakamaa.Qs
open Go.RowKit Go.Gh
set_option linter.unusedVariables false
set_option linter.unusedSimpArgs false
def PtP (g : Nat) (rest : List Value) (a b : Nat) (D : List Int) (w : World) (e : Ending) (w' : World) : Prop := ∃ (m : Nat) (t : Bool) (E : List Int), e = .returned (.tuple #[.int .i64 m, .bool t]) ∧ a ≤ m ∧ m < b ∧ Pm a b D E ∧ Pt a b m E ∧ RowAt g E rest w' ∧ w.grownBy w' (some g)
def PeP (g : Nat) (rest : List Value) (a b : Nat) (D : List Int) (x : Int) (w : World) (e : Ending) (w' : World) : Prop := ∃ (m : Nat) (E : List Int), e = .returned (.int .i64 m) ∧ a < m ∧ m ≤ b ∧ Pm a b D E ∧ (∀ k, a ≤ k → k < m → el E k ≤ x) ∧ RowAt g E rest w' ∧ w.grownBy w' (some g)
set_option maxHeartbeats 16000000 in
set_option maxRecDepth 100000 in
theorem partition_any (g cap a b p : Nat) (D : List Int) (rest : List Value) (w : World) (hR : RowAt g D rest w) (hb : b ≤ D.length) (hap : a ≤ p) (hpb : p < b) (hn : D.length ≤ 1000000) (hcap : D.length ≤ cap) (hc : cap ≤ 9223372036854775807) :
    Calls Try.prog 127 #[.slice (some ⟨g, 0, none⟩) D.length cap, .int .i64 a, .int .i64 b, .int .i64 p] w (PtP g rest a b D w) := by
  obtain ⟨n, hN⟩ : ∃ n, D.length = n := ⟨_, rfl⟩
  rw [hN] at hb hn hcap ⊢
  have HN := Lib.hid hN
  have hab : a < b := by omega
  obtain ⟨⟨ci, cj⟩, ⟨fi, fj, fij⟩, hS⟩ := hR.swaps (i := a) (j := p) (by omega) (by omega)
  have cij := hR.once (i := a) (j := p) (by omega) (by omega)
  have HS := Lib.hid hS
  have HP : Hid (Pm a b D (sw D a p)) := Lib.hid (Pm.one (Nat.le_refl _) hab hap hpb)
  have HPG : Hid (Pg a b (a + 1) b (el D p) (sw D a p)) := Lib.hid (by
    have h := pg_start (a := a) (b := b) (sw D a p)
    have e : el (sw D a p) a = el D p := by
      rw [sw_el (by omega) (by omega)]
      by_cases e : a = p
      · rw [if_pos e, e]
      · rw [if_neg e, if_pos rfl]
    rw [e] at h
    exact h)
  have hi1 : (a : Int) < (n : Int) := by omega
  have hj1 : (p : Int) < (n : Int) := by omega
  have hi0 : (0 : Int) ≤ (a : Int) := by omega
  have hj0 : (0 : Int) ≤ (p : Int) := by omega
  clear hR hN hS
  go_enter Try.func127, Try.ntmps127
  go_upto_region 1 with (fail)
  go_region
  obtain ⟨wA, hwA⟩ : ∃ wn, wn = ((w.setCell ⟨g, a, none⟩ (.int .u64 (el D p))).setCell ⟨g, p, none⟩ (.int .u64 (el D a))).drew := ⟨_, rfl⟩
  have HE : Hid (RowAt g (sw D a p) rest wA) := Lib.hid (by rw [hwA]; exact HS.out)
  have HG : Hid (w.grownBy wA (some g)) := Lib.hid (by rw [hwA]; exact grown_drewN (grown_swap (grown_below (Below.refl _ _)) a p _ _) 1)
  rw [← hwA]
  clear hwA ci cj fi fj fij cij HS
  obtain ⟨E, hE⟩ : ∃ E, sw D a p = E := ⟨_, rfl⟩
  obtain ⟨x, hx⟩ : ∃ x, el D p = x := ⟨_, rfl⟩
  rw [hE] at HP HPG HE
  rw [hx] at HPG
  obtain ⟨q, hq⟩ : ∃ q, b = q + 1 := ⟨b - 1, by omega⟩
  have eq1 : (b : Int) - 1 = (q : Int) := by omega
  obtain ⟨k, hk⟩ : ∃ k, k = a + 1 := ⟨_, rfl⟩
  have ek : (a : Int) + 1 = (k : Int) := by omega
  rw [← hk] at HPG
  have HPG : Hid (Pg a b k (q + 1) x E) := Lib.hid (by have := HPG.out; rwa [hq] at this ⊢)
  have hak : a < k := by omega
  have hkq : k ≤ q + 1 := by omega
  have hqb : q + 1 ≤ b := by omega
  have HX0 : Hid (el D p = x) := Lib.hid hx
  clear hE hx hq hk
  go_upto_block 0 with fail
  go_cut [10] (fun i wx => ∃ k2 : Nat, i = .int .i64 k2 ∧ a < k2 ∧ k2 ≤ q + 1 ∧ Hid (Pg a b k2 (q + 1) x E) ∧ Hid (k2 = q + 1 ∨ x ≤ el E k2) ∧ Hid (RowAt g E rest wx) ∧ Hid (w.grownBy wx (some g)))
  case first =>
    go_wp2_with fail
    go_loopw [10] (fun i wx => ∃ k2 : Nat, i = .int .i64 k2 ∧ a < k2 ∧ k2 ≤ q + 1 ∧ Hid (Pg a b k2 (q + 1) x E) ∧ Hid (RowAt g E rest wx) ∧ Hid (w.grownBy wx (some g))) (fun i _ => q + 1 - (intOf i).toNat)
    case atStart => exact ⟨k, rfl, hak, hkq, HPG, HE, HG⟩
    case round =>
      clear HPG HE HG
      obtain ⟨k2, rfl, hak2, hkq2, HPG, HE, HG⟩ := hrel
      by_cases hlt : k2 ≤ q
      case neg =>
        have hd : decide (k2 ≤ q) = false := decide_eq_false hlt
        go_wp2_with fail
        go_quiet (fail)
        have HE3 : Hid (RowAt g E rest (wr.drewN nq)) := HE
        have HG3 := Lib.hid (grown_drewN HG.out nq)
        go_wp2_with fail
        go_meet
        exact ⟨k2, rfl, hak2, hkq2, HPG, Lib.hid (Or.inl (by omega)), HE3, HG3⟩
      have hd : decide (k2 ≤ q) = true := decide_eq_true hlt
      have hEl : E.length = n := by rw [HP.out.len]; exact HN.out
      have ck := (HE.out.get (i := k2) (by omega)).1
      have ca := (HE.out.get (i := a) (by omega)).1
      rw [HPG.out.1] at ca
      obtain ⟨z, hz⟩ : ∃ z, el E k2 = z := ⟨_, rfl⟩
      rw [hz] at ck
      have HZ := Lib.hid hz
      have hk1 : (k2 : Int) < (n : Int) := by omega
      have hk0 : (0 : Int) ≤ (k2 : Int) := by omega
      have ha1 : (a : Int) < (n : Int) := by omega
      have ha0 : (0 : Int) ≤ (a : Int) := by omega
      clear hEl hz
      by_cases hls : z < x
      · have hdl : decide (z < x) = true := decide_eq_true hls
        have HPG2 : Hid (Pg a b (k2 + 1) (q + 1) x E) := Lib.hid (pg_left HPG.out (by rw [HZ.out]; omega))
        go_wp2_with fail
        go_quiet ((go_at_call 125; exact Calls.quiet_of (less_q _ _ _)))
        have HE3 : Hid (RowAt g E rest (wr.drewN nq)) := HE
        have HG3 := Lib.hid (grown_drewN HG.out nq)
        clear hdl ck ca
        go_wp2_with fail
        go_roundw
        case rel => exact ⟨k2 + 1, by go_num, by omega, by omega, HPG2, HE3, HG3⟩
        case measure => simp [intOf]; omega
      · have hdl : decide (z < x) = false := decide_eq_false hls
        have HEX : Hid (k2 = q + 1 ∨ x ≤ el E k2) := Lib.hid (Or.inr (by rw [HZ.out]; omega))
        go_wp2_with fail
        go_quiet ((go_at_call 125; exact Calls.quiet_of (less_q _ _ _)))
        have HE3 : Hid (RowAt g E rest (wr.drewN nq)) := HE
        have HG3 := Lib.hid (grown_drewN HG.out nq)
        clear hdl ck ca
        go_wp2_with fail
        go_meet
        exact ⟨k2, rfl, hak2, hkq2, HPG, HEX, HE3, HG3⟩
  case rest =>
  clear HPG HE HG hak hkq
  obtain ⟨k2, rfl, hak, hkq, HPG, HXA, HE, HG⟩ := hcut
  obtain ⟨k, rfl⟩ : ∃ x, x = k2 := ⟨_, rfl⟩
  obtain ⟨wA, rfl⟩ : ∃ x, x = wc := ⟨_, rfl⟩
  go_upto_block 2 with fail
  go_cut [11] (fun j wx => ∃ q2 : Nat, j = .int .i64 q2 ∧ k ≤ q2 + 1 ∧ q2 ≤ q ∧ Hid (Pg a b k (q2 + 1) x E) ∧ Hid (k = q2 + 1 ∨ el E q2 < x) ∧ Hid (RowAt g E rest wx) ∧ Hid (w.grownBy wx (some g)))
  case first =>
    go_wp2_with fail
    go_loopw [11] (fun j wx => ∃ q2 : Nat, j = .int .i64 q2 ∧ k ≤ q2 + 1 ∧ q2 ≤ q ∧ Hid (Pg a b k (q2 + 1) x E) ∧ Hid (RowAt g E rest wx) ∧ Hid (w.grownBy wx (some g))) (fun j _ => (intOf j).toNat)
    case atStart => exact ⟨q, rfl, hkq, Nat.le_refl _, HPG, HE, HG⟩
    case round =>
      clear HPG HE HG
      obtain ⟨q2, rfl, hkq2, hq2, HPG, HE, HG⟩ := hrel
      by_cases hlt : k ≤ q2
      case neg =>
        have hd : decide (k ≤ q2) = false := decide_eq_false hlt
        go_wp2_with fail
        go_quiet (fail)
        have HE3 : Hid (RowAt g E rest (wr.drewN nq)) := HE
        have HG3 := Lib.hid (grown_drewN HG.out nq)
        go_wp2_with fail
        go_meet
        exact ⟨q2, rfl, hkq2, hq2, HPG, Lib.hid (Or.inl (by omega)), HE3, HG3⟩
      have hd : decide (k ≤ q2) = true := decide_eq_true hlt
      have hEl : E.length = n := by rw [HP.out.len]; exact HN.out
      have ck := (HE.out.get (i := q2) (by omega)).1
      have ca := (HE.out.get (i := a) (by omega)).1
      rw [HPG.out.1] at ca
      obtain ⟨z, hz⟩ : ∃ z, el E q2 = z := ⟨_, rfl⟩
      rw [hz] at ck
      have HZ := Lib.hid hz
      have hk1 : (q2 : Int) < (n : Int) := by omega
      have hk0 : (0 : Int) ≤ (q2 : Int) := by omega
      have ha1 : (a : Int) < (n : Int) := by omega
      have ha0 : (0 : Int) ≤ (a : Int) := by omega
      clear hEl hz
      by_cases hls : z < x
      · have hdl : decide (z < x) = true := decide_eq_true hls
        have HEX : Hid (k = q2 + 1 ∨ el E q2 < x) := Lib.hid (Or.inr (by rw [HZ.out]; omega))
        go_wp2_with fail
        go_quiet ((go_at_call 125; exact Calls.quiet_of (less_q _ _ _)))
        have HE3 : Hid (RowAt g E rest (wr.drewN nq)) := HE
        have HG3 := Lib.hid (grown_drewN HG.out nq)
        clear hdl ck ca
        go_wp2_with fail
        go_meet
        exact ⟨q2, rfl, hkq2, hq2, HPG, HEX, HE3, HG3⟩
      · have hdl : decide (z < x) = false := decide_eq_false hls
        obtain ⟨r, hr⟩ : ∃ r, q2 = r + 1 := ⟨q2 - 1, by omega⟩
        have er : (q2 : Int) - 1 = (r : Int) := by omega
        have HPG2 : Hid (Pg a b k (r + 1) x E) := Lib.hid (by rw [← hr]; exact pg_right HPG.out (by rw [HZ.out]; omega))
        have HRR := Lib.hid hr
        clear hr
        go_wp2_with fail
        go_quiet ((go_at_call 125; exact Calls.quiet_of (less_q _ _ _)))
        have HE3 : Hid (RowAt g E rest (wr.drewN nq)) := HE
        have HG3 := Lib.hid (grown_drewN HG.out nq)
        clear hdl ck ca
        go_wp2_with fail
        go_roundw
        case rel => exact ⟨r, by rfl, by have := HRR.out; omega, by have := HRR.out; omega, HPG2, HE3, HG3⟩
        case measure => have := HRR.out; simp [intOf]; omega
  case rest =>
  clear HPG HE HG hkq
  obtain ⟨q2, rfl, hkq, hq2, HPG, HXB, HE, HG⟩ := hcut
  have hqb2 : q2 + 1 ≤ b := by omega
  have HXA : Hid (k = q2 + 1 ∨ x ≤ el E k) := Lib.hid (by have := HXA.out; omega)
  clear hqb
  obtain ⟨q, rfl⟩ : ∃ x, x = q2 := ⟨_, rfl⟩
  obtain ⟨hqb⟩ : q + 1 ≤ b ∧ True := ⟨hqb2, trivial⟩
  obtain ⟨wB, rfl⟩ : ∃ x, x = wc := ⟨_, rfl⟩
  by_cases hgt : q < k
  · have hd : decide (q < k) = true := decide_eq_true hgt
    obtain rfl : k = q + 1 := by omega
    have haq : a ≤ q := by omega
    have hEl : E.length = n := by rw [HP.out.len]; exact HN.out
    obtain ⟨⟨ci, cj⟩, ⟨fi, fj, fij⟩, hS⟩ := HE.out.swaps (i := q) (j := a) (by omega) (by omega)
    have cij := HE.out.once (i := q) (j := a) (by omega) (by omega)
    have HS := Lib.hid hS
    have hi1 : (q : Int) < (n : Int) := by omega
    have hj1 : (a : Int) < (n : Int) := by omega
    have hi0 : (0 : Int) ≤ (q : Int) := by omega
    have hj0 : (0 : Int) ≤ (a : Int) := by omega
    clear hEl hS
    go_upto_region 8 with (fail)
    go_region
    obtain ⟨wn, hwn⟩ : ∃ wn, wn = ((wB.setCell ⟨g, q, none⟩ (.int .u64 (el E a))).setCell ⟨g, a, none⟩ (.int .u64 (el E q))).drew := ⟨_, rfl⟩
    have HE2 : Hid (RowAt g (sw E q a) rest wn) := Lib.hid (by rw [hwn]; exact HS.out)
    have HG2 : Hid (w.grownBy wn (some g)) := Lib.hid (by rw [hwn]; exact grown_drewN (grown_swap HG.out q a _ _) 1)
    rw [← hwn]
    clear hwn ci cj fi fj fij cij
    have HP2 := Lib.hid (HP.out.step (i := q) (j := a) haq (by omega) (Nat.le_refl _) hab)
    have HPT : Hid (Pt a b q (sw E q a)) := Lib.hid (pg_end HPG.out haq (by omega) (by have := HP.out.len; have := HN.out; omega))
    go_wp2_with fail
    go_ret2
    exact ⟨q, true, _, rfl, haq, by omega, HP2.out, HPT.out, HE2.out, HG2.out⟩
  have hgt2 : k ≤ q := by omega
  have hkq3 : k + 1 ≤ q := by
    have h1 := HXA.out
    have h2 := HXB.out
    by_cases e : k = q
    · subst e
      omega
    · omega
  have hEl : E.length = n := by rw [HP.out.len]; exact HN.out
  obtain ⟨⟨ci, cj⟩, ⟨fi, fj, fij⟩, hS⟩ := HE.out.swaps (i := k) (j := q) (by omega) (by omega)
  have cij := HE.out.once (i := k) (j := q) (by omega) (by omega)
  have HS := Lib.hid hS
  have hi1 : (k : Int) < (n : Int) := by omega
  have hj1 : (q : Int) < (n : Int) := by omega
  have hi0 : (0 : Int) ≤ (k : Int) := by omega
  have hj0 : (0 : Int) ≤ (q : Int) := by omega
  clear hEl hS
  go_upto_region 10 with (fail)
  go_region
  obtain ⟨wn, hwn⟩ : ∃ wn, wn = ((wB.setCell ⟨g, k, none⟩ (.int .u64 (el E q))).setCell ⟨g, q, none⟩ (.int .u64 (el E k))).drew := ⟨_, rfl⟩
  have HE2 : Hid (RowAt g (sw E k q) rest wn) := Lib.hid (by rw [hwn]; exact HS.out)
  have HG2 : Hid (w.grownBy wn (some g)) := Lib.hid (by rw [hwn]; exact grown_drewN (grown_swap HG.out k q _ _) 1)
  rw [← hwn]
  clear hwn ci cj fi fj fij cij
  have HP2 := Lib.hid (HP.out.step (i := k) (j := q) (by omega) (by omega) (by omega) (by omega))
  have HPG2 : Hid (Pg a b (k + 1) q x (sw E k q)) := Lib.hid (pg_swap HPG.out (by have := HXA.out; omega) (by have := HXB.out; omega) hak (by omega) (by omega) (by have := HP.out.len; have := HN.out; omega))
  obtain ⟨r, hr⟩ : ∃ r, q = r + 1 := ⟨q - 1, by omega⟩
  have er : (q : Int) - 1 = (r : Int) := by omega
  have HPG3 : Hid (Pg a b (k + 1) (r + 1) x (sw E k q)) := Lib.hid (by rw [← hr]; exact HPG2.out)
  have hkr : k + 1 ≤ r + 1 := by omega
  have hrb : r + 1 ≤ b := by omega
  clear hr HPG2 HXA HXB hgt hgt2
  go_wp2_with fail
  go_loopw [10, 11] (fun i j wr => ∃ (k q : Nat) (E : List Int), i = .int .i64 k ∧ j = .int .i64 q ∧ a < k ∧ k ≤ q + 1 ∧ q + 1 ≤ b ∧ Hid (Pm a b D E) ∧ Hid (Pg a b k (q + 1) x E) ∧ Hid (RowAt g E rest wr) ∧ Hid (w.grownBy wr (some g))) (fun i j _ => (intOf j).toNat)
  case atStart => exact ⟨k + 1, r, _, by go_num, rfl, by omega, hkr, hrb, HP2, HPG3, HE2, HG2⟩
  case round =>
    clear HP HPG HE HG HP2 HPG3 HE2 HG2 hak hkq hkq3 hqb er hkr hrb
    obtain ⟨k, q, E, rfl, rfl, hak, hkq, hqb, HP, HPG, HE, HG⟩ := hrel
    go_upto_block 6 with fail
    go_cut [10] (fun i wx => ∃ k2 : Nat, i = .int .i64 k2 ∧ a < k2 ∧ k2 ≤ q + 1 ∧ Hid (Pg a b k2 (q + 1) x E) ∧ Hid (k2 = q + 1 ∨ x ≤ el E k2) ∧ Hid (RowAt g E rest wx) ∧ Hid (w.grownBy wx (some g)))
    case first =>
      go_wp2_with fail
      go_loopw [10] (fun i wx => ∃ k2 : Nat, i = .int .i64 k2 ∧ a < k2 ∧ k2 ≤ q + 1 ∧ Hid (Pg a b k2 (q + 1) x E) ∧ Hid (RowAt g E rest wx) ∧ Hid (w.grownBy wx (some g))) (fun i _ => q + 1 - (intOf i).toNat)
      case atStart => exact ⟨k, rfl, hak, hkq, HPG, HE, HG⟩
      case round =>
        clear HPG HE HG
        obtain ⟨k2, rfl, hak2, hkq2, HPG, HE, HG⟩ := hrel
        by_cases hlt : k2 ≤ q
        case neg =>
          have hd : decide (k2 ≤ q) = false := decide_eq_false hlt
          go_wp2_with fail
          go_quiet (fail)
          have HE3 : Hid (RowAt g E rest (wr.drewN nq)) := HE
          have HG3 := Lib.hid (grown_drewN HG.out nq)
          go_wp2_with fail
          go_meet
          exact ⟨k2, rfl, hak2, hkq2, HPG, Lib.hid (Or.inl (by omega)), HE3, HG3⟩
        have hd : decide (k2 ≤ q) = true := decide_eq_true hlt
        have hEl : E.length = n := by rw [HP.out.len]; exact HN.out
        have ck := (HE.out.get (i := k2) (by omega)).1
        have ca := (HE.out.get (i := a) (by omega)).1
        rw [HPG.out.1] at ca
        obtain ⟨z, hz⟩ : ∃ z, el E k2 = z := ⟨_, rfl⟩
        rw [hz] at ck
        have HZ := Lib.hid hz
        have hk1 : (k2 : Int) < (n : Int) := by omega
        have hk0 : (0 : Int) ≤ (k2 : Int) := by omega
        have ha1 : (a : Int) < (n : Int) := by omega
        have ha0 : (0 : Int) ≤ (a : Int) := by omega
        clear hEl hz
        by_cases hls : z < x
        · have hdl : decide (z < x) = true := decide_eq_true hls
          have HPG2 : Hid (Pg a b (k2 + 1) (q + 1) x E) := Lib.hid (pg_left HPG.out (by rw [HZ.out]; omega))
          go_wp2_with fail
          go_quiet ((go_at_call 125; exact Calls.quiet_of (less_q _ _ _)))
          have HE3 : Hid (RowAt g E rest (wr.drewN nq)) := HE
          have HG3 := Lib.hid (grown_drewN HG.out nq)
          clear hdl ck ca
          go_wp2_with fail
          go_roundw
          case rel => exact ⟨k2 + 1, by go_num, by omega, by omega, HPG2, HE3, HG3⟩
          case measure => simp [intOf]; omega
        · have hdl : decide (z < x) = false := decide_eq_false hls
          have HEX : Hid (k2 = q + 1 ∨ x ≤ el E k2) := Lib.hid (Or.inr (by rw [HZ.out]; omega))
          go_wp2_with fail
          go_quiet ((go_at_call 125; exact Calls.quiet_of (less_q _ _ _)))
          have HE3 : Hid (RowAt g E rest (wr.drewN nq)) := HE
          have HG3 := Lib.hid (grown_drewN HG.out nq)
          clear hdl ck ca
          go_wp2_with fail
          go_meet
          exact ⟨k2, rfl, hak2, hkq2, HPG, HEX, HE3, HG3⟩
    case rest =>
    clear HPG HE HG hak hkq
    obtain ⟨k2, rfl, hak, hkq, HPG, HXA, HE, HG⟩ := hcut
    obtain ⟨k, rfl⟩ : ∃ x, x = k2 := ⟨_, rfl⟩
    obtain ⟨wA, rfl⟩ : ∃ x, x = wc := ⟨_, rfl⟩
    go_upto_block 8 with fail
    go_cut [11] (fun j wx => ∃ q2 : Nat, j = .int .i64 q2 ∧ k ≤ q2 + 1 ∧ q2 ≤ q ∧ Hid (Pg a b k (q2 + 1) x E) ∧ Hid (k = q2 + 1 ∨ el E q2 < x) ∧ Hid (RowAt g E rest wx) ∧ Hid (w.grownBy wx (some g)))
    case first =>
      go_wp2_with fail
      go_loopw [11] (fun j wx => ∃ q2 : Nat, j = .int .i64 q2 ∧ k ≤ q2 + 1 ∧ q2 ≤ q ∧ Hid (Pg a b k (q2 + 1) x E) ∧ Hid (RowAt g E rest wx) ∧ Hid (w.grownBy wx (some g))) (fun j _ => (intOf j).toNat)
      case atStart => exact ⟨q, rfl, hkq, Nat.le_refl _, HPG, HE, HG⟩
      case round =>
        clear HPG HE HG
        obtain ⟨q2, rfl, hkq2, hq2, HPG, HE, HG⟩ := hrel
        by_cases hlt : k ≤ q2
        case neg =>
          have hd : decide (k ≤ q2) = false := decide_eq_false hlt
          go_wp2_with fail
          go_quiet (fail)
          have HE3 : Hid (RowAt g E rest (wr.drewN nq)) := HE
          have HG3 := Lib.hid (grown_drewN HG.out nq)
          go_wp2_with fail
          go_meet
          exact ⟨q2, rfl, hkq2, hq2, HPG, Lib.hid (Or.inl (by omega)), HE3, HG3⟩
        have hd : decide (k ≤ q2) = true := decide_eq_true hlt
        have hEl : E.length = n := by rw [HP.out.len]; exact HN.out
        have ck := (HE.out.get (i := q2) (by omega)).1
        have ca := (HE.out.get (i := a) (by omega)).1
        rw [HPG.out.1] at ca
        obtain ⟨z, hz⟩ : ∃ z, el E q2 = z := ⟨_, rfl⟩
        rw [hz] at ck
        have HZ := Lib.hid hz
        have hk1 : (q2 : Int) < (n : Int) := by omega
        have hk0 : (0 : Int) ≤ (q2 : Int) := by omega
        have ha1 : (a : Int) < (n : Int) := by omega
        have ha0 : (0 : Int) ≤ (a : Int) := by omega
        clear hEl hz
        by_cases hls : z < x
        · have hdl : decide (z < x) = true := decide_eq_true hls
          have HEX : Hid (k = q2 + 1 ∨ el E q2 < x) := Lib.hid (Or.inr (by rw [HZ.out]; omega))
          go_wp2_with fail
          go_quiet ((go_at_call 125; exact Calls.quiet_of (less_q _ _ _)))
          have HE3 : Hid (RowAt g E rest (wr.drewN nq)) := HE
          have HG3 := Lib.hid (grown_drewN HG.out nq)
          clear hdl ck ca
          go_wp2_with fail
          go_meet
          exact ⟨q2, rfl, hkq2, hq2, HPG, HEX, HE3, HG3⟩
        · have hdl : decide (z < x) = false := decide_eq_false hls
          obtain ⟨r, hr⟩ : ∃ r, q2 = r + 1 := ⟨q2 - 1, by omega⟩
          have er : (q2 : Int) - 1 = (r : Int) := by omega
          have HPG2 : Hid (Pg a b k (r + 1) x E) := Lib.hid (by rw [← hr]; exact pg_right HPG.out (by rw [HZ.out]; omega))
          have HRR := Lib.hid hr
          clear hr
          go_wp2_with fail
          go_quiet ((go_at_call 125; exact Calls.quiet_of (less_q _ _ _)))
          have HE3 : Hid (RowAt g E rest (wr.drewN nq)) := HE
          have HG3 := Lib.hid (grown_drewN HG.out nq)
          clear hdl ck ca
          go_wp2_with fail
          go_roundw
          case rel => exact ⟨r, by rfl, by have := HRR.out; omega, by have := HRR.out; omega, HPG2, HE3, HG3⟩
          case measure => have := HRR.out; simp [intOf]; omega
    case rest =>
    clear HPG HE HG hkq
    obtain ⟨q2, rfl, hkq, hq2, HPG, HXB, HE, HG⟩ := hcut
    have hqb2 : q2 + 1 ≤ b := by omega
    have HXA : Hid (k = q2 + 1 ∨ x ≤ el E k) := Lib.hid (by have := HXA.out; omega)
    clear hqb
    obtain ⟨q, rfl⟩ : ∃ x, x = q2 := ⟨_, rfl⟩
    obtain ⟨hqb⟩ : q + 1 ≤ b ∧ True := ⟨hqb2, trivial⟩
    obtain ⟨wB, rfl⟩ : ∃ x, x = wc := ⟨_, rfl⟩
    by_cases hgt : q < k
    · have hd : decide (q < k) = true := decide_eq_true hgt
      obtain rfl : k = q + 1 := by omega
      have haq : a ≤ q := by omega
      have hEl : E.length = n := by rw [HP.out.len]; exact HN.out
      obtain ⟨⟨ci, cj⟩, ⟨fi, fj, fij⟩, hS⟩ := HE.out.swaps (i := q) (j := a) (by omega) (by omega)
      have cij := HE.out.once (i := q) (j := a) (by omega) (by omega)
      have HS := Lib.hid hS
      have hi1 : (q : Int) < (n : Int) := by omega
      have hj1 : (a : Int) < (n : Int) := by omega
      have hi0 : (0 : Int) ≤ (q : Int) := by omega
      have hj0 : (0 : Int) ≤ (a : Int) := by omega
      clear hEl hS
      go_upto_region 21 with (fail)
      go_region
      obtain ⟨wn, hwn⟩ : ∃ wn, wn = ((wB.setCell ⟨g, q, none⟩ (.int .u64 (el E a))).setCell ⟨g, a, none⟩ (.int .u64 (el E q))).drew := ⟨_, rfl⟩
      have HE2 : Hid (RowAt g (sw E q a) rest wn) := Lib.hid (by rw [hwn]; exact HS.out)
      have HG2 : Hid (w.grownBy wn (some g)) := Lib.hid (by rw [hwn]; exact grown_drewN (grown_swap HG.out q a _ _) 1)
      rw [← hwn]
      clear hwn ci cj fi fj fij cij
      have HP2 := Lib.hid (HP.out.step (i := q) (j := a) haq (by omega) (Nat.le_refl _) hab)
      have HPT : Hid (Pt a b q (sw E q a)) := Lib.hid (pg_end HPG.out haq (by omega) (by have := HP.out.len; have := HN.out; omega))
      go_wp2_with fail
      go_ret2
      exact ⟨q, false, _, rfl, haq, by omega, HP2.out, HPT.out, HE2.out, HG2.out⟩
    have hgt2 : k ≤ q := by omega
    have hkq3 : k + 1 ≤ q := by
      have h1 := HXA.out
      have h2 := HXB.out
      by_cases e : k = q
      · subst e
        omega
      · omega
    have hEl : E.length = n := by rw [HP.out.len]; exact HN.out
    obtain ⟨⟨ci, cj⟩, ⟨fi, fj, fij⟩, hS⟩ := HE.out.swaps (i := k) (j := q) (by omega) (by omega)
    have cij := HE.out.once (i := k) (j := q) (by omega) (by omega)
    have HS := Lib.hid hS
    have hi1 : (k : Int) < (n : Int) := by omega
    have hj1 : (q : Int) < (n : Int) := by omega
    have hi0 : (0 : Int) ≤ (k : Int) := by omega
    have hj0 : (0 : Int) ≤ (q : Int) := by omega
    clear hEl hS
    go_upto_region 18 with (fail)
    go_region
    obtain ⟨wn, hwn⟩ : ∃ wn, wn = ((wB.setCell ⟨g, k, none⟩ (.int .u64 (el E q))).setCell ⟨g, q, none⟩ (.int .u64 (el E k))).drew := ⟨_, rfl⟩
    have HE2 : Hid (RowAt g (sw E k q) rest wn) := Lib.hid (by rw [hwn]; exact HS.out)
    have HG2 : Hid (w.grownBy wn (some g)) := Lib.hid (by rw [hwn]; exact grown_drewN (grown_swap HG.out k q _ _) 1)
    rw [← hwn]
    clear hwn ci cj fi fj fij cij
    have HP2 := Lib.hid (HP.out.step (i := k) (j := q) (by omega) (by omega) (by omega) (by omega))
    have HPG2 : Hid (Pg a b (k + 1) q x (sw E k q)) := Lib.hid (pg_swap HPG.out (by have := HXA.out; omega) (by have := HXB.out; omega) hak (by omega) (by omega) (by have := HP.out.len; have := HN.out; omega))
    obtain ⟨r, hr⟩ : ∃ r, q = r + 1 := ⟨q - 1, by omega⟩
    have er : (q : Int) - 1 = (r : Int) := by omega
    have HPG3 : Hid (Pg a b (k + 1) (r + 1) x (sw E k q)) := Lib.hid (by rw [← hr]; exact HPG2.out)
    have HRR := Lib.hid hr
    clear hr HPG2 HXA HXB hgt hgt2
    go_wp2_with fail
    go_roundw
    case rel => exact ⟨k + 1, r, _, by go_num, rfl, by omega, by have := HRR.out; omega, by have := HRR.out; omega, HP2, HPG3, HE2, HG2⟩
    case measure => have := HRR.out; simp [intOf]; omega
set_option maxHeartbeats 16000000 in
set_option maxRecDepth 100000 in
theorem parteq_any (g cap a b p : Nat) (D : List Int) (rest : List Value) (w : World) (hR : RowAt g D rest w) (hb : b ≤ D.length) (hap : a ≤ p) (hpb : p < b) (hn : D.length ≤ 1000000) (hcap : D.length ≤ cap) (hc : cap ≤ 9223372036854775807) :
    Calls Try.prog 126 #[.slice (some ⟨g, 0, none⟩) D.length cap, .int .i64 a, .int .i64 b, .int .i64 p] w (PeP g rest a b D (el D p) w) := by
  obtain ⟨n, hN⟩ : ∃ n, D.length = n := ⟨_, rfl⟩
  rw [hN] at hb hn hcap ⊢
  have HN := Lib.hid hN
  have hab : a < b := by omega
  obtain ⟨⟨ci, cj⟩, ⟨fi, fj, fij⟩, hS⟩ := hR.swaps (i := a) (j := p) (by omega) (by omega)
  have cij := hR.once (i := a) (j := p) (by omega) (by omega)
  have HS := Lib.hid hS
  have HP : Hid (Pm a b D (sw D a p)) := Lib.hid (Pm.one (Nat.le_refl _) hab hap hpb)
  have HPG : Hid (Pg a b (a + 1) b (el D p) (sw D a p)) := Lib.hid (by
    have h := pg_start (a := a) (b := b) (sw D a p)
    have e : el (sw D a p) a = el D p := by
      rw [sw_el (by omega) (by omega)]
      by_cases e : a = p
      · rw [if_pos e, e]
      · rw [if_neg e, if_pos rfl]
    rw [e] at h
    exact h)
  have hi1 : (a : Int) < (n : Int) := by omega
  have hj1 : (p : Int) < (n : Int) := by omega
  have hi0 : (0 : Int) ≤ (a : Int) := by omega
  have hj0 : (0 : Int) ≤ (p : Int) := by omega
  clear hR hN hS
  go_enter Try.func126, Try.ntmps126
  go_upto_region 1 with (fail)
  go_region
  obtain ⟨wA, hwA⟩ : ∃ wn, wn = ((w.setCell ⟨g, a, none⟩ (.int .u64 (el D p))).setCell ⟨g, p, none⟩ (.int .u64 (el D a))).drew := ⟨_, rfl⟩
  have HE : Hid (RowAt g (sw D a p) rest wA) := Lib.hid (by rw [hwA]; exact HS.out)
  have HG : Hid (w.grownBy wA (some g)) := Lib.hid (by rw [hwA]; exact grown_drewN (grown_swap (grown_below (Below.refl _ _)) a p _ _) 1)
  rw [← hwA]
  clear hwA ci cj fi fj fij cij HS
  obtain ⟨E, hE⟩ : ∃ E, sw D a p = E := ⟨_, rfl⟩
  obtain ⟨x, hx⟩ : ∃ x, el D p = x := ⟨_, rfl⟩
  rw [hE] at HP HPG HE
  rw [hx] at HPG
  obtain ⟨q, hq⟩ : ∃ q, b = q + 1 := ⟨b - 1, by omega⟩
  have eq1 : (b : Int) - 1 = (q : Int) := by omega
  obtain ⟨k, hk⟩ : ∃ k, k = a + 1 := ⟨_, rfl⟩
  have ek : (a : Int) + 1 = (k : Int) := by omega
  rw [← hk] at HPG
  have HPG : Hid (Pg a b k (q + 1) x E) := Lib.hid (by have := HPG.out; rwa [hq] at this ⊢)
  have hak : a < k := by omega
  have hkq : k ≤ q + 1 := by omega
  have hqb : q + 1 ≤ b := by omega
  have HX0 : Hid (el D p = x) := Lib.hid hx
  clear hE hx hq hk
  have HP0 := HP
  have HPG0 := HPG
  go_wp2_with fail
  go_loopw [9, 10] (fun i j wr => ∃ (k q : Nat) (E : List Int), i = .int .i64 k ∧ j = .int .i64 q ∧ a < k ∧ k ≤ q + 1 ∧ q + 1 ≤ b ∧ Hid (Pm a b D E) ∧ Hid (Pg a b k (q + 1) x E) ∧ Hid (RowAt g E rest wr) ∧ Hid (w.grownBy wr (some g))) (fun i j _ => (intOf j).toNat)
  case atStart => exact ⟨k, q, E, rfl, rfl, hak, hkq, hqb, HP, HPG, HE, HG⟩
  case round =>
    clear HP HPG HE HG HP0 HPG0 hak hkq hqb
    obtain ⟨k, q, E, rfl, rfl, hak, hkq, hqb, HP, HPG, HE, HG⟩ := hrel
    go_upto_block 2 with fail
    go_cut [9] (fun i wx => ∃ k2 : Nat, i = .int .i64 k2 ∧ a < k2 ∧ k2 ≤ q + 1 ∧ Hid (Pg a b k2 (q + 1) x E) ∧ Hid (k2 = q + 1 ∨ x < el E k2) ∧ Hid (RowAt g E rest wx) ∧ Hid (w.grownBy wx (some g)))
    case first =>
      go_wp2_with fail
      go_loopw [9] (fun i wx => ∃ k2 : Nat, i = .int .i64 k2 ∧ a < k2 ∧ k2 ≤ q + 1 ∧ Hid (Pg a b k2 (q + 1) x E) ∧ Hid (RowAt g E rest wx) ∧ Hid (w.grownBy wx (some g))) (fun i _ => q + 1 - (intOf i).toNat)
      case atStart => exact ⟨k, rfl, hak, hkq, HPG, HE, HG⟩
      case round =>
        clear HPG HE HG
        obtain ⟨k2, rfl, hak2, hkq2, HPG, HE, HG⟩ := hrel
        by_cases hlt : k2 ≤ q
        case neg =>
          have hd : decide (k2 ≤ q) = false := decide_eq_false hlt
          go_wp2_with fail
          go_quiet (fail)
          have HE3 : Hid (RowAt g E rest (wr.drewN nq)) := HE
          have HG3 := Lib.hid (grown_drewN HG.out nq)
          go_wp2_with fail
          go_meet
          exact ⟨k2, rfl, hak2, hkq2, HPG, Lib.hid (Or.inl (by omega)), HE3, HG3⟩
        have hd : decide (k2 ≤ q) = true := decide_eq_true hlt
        have hEl : E.length = n := by rw [HP.out.len]; exact HN.out
        have ck := (HE.out.get (i := k2) (by omega)).1
        have ca := (HE.out.get (i := a) (by omega)).1
        rw [HPG.out.1] at ca
        obtain ⟨z, hz⟩ : ∃ z, el E k2 = z := ⟨_, rfl⟩
        rw [hz] at ck
        have HZ := Lib.hid hz
        have hk1 : (k2 : Int) < (n : Int) := by omega
        have hk0 : (0 : Int) ≤ (k2 : Int) := by omega
        have ha1 : (a : Int) < (n : Int) := by omega
        have ha0 : (0 : Int) ≤ (a : Int) := by omega
        clear hEl hz
        by_cases hls : x < z
        · have hdl : decide (x < z) = true := decide_eq_true hls
          have HEX : Hid (k2 = q + 1 ∨ x < el E k2) := Lib.hid (Or.inr (by rw [HZ.out]; exact hls))
          go_wp2_with fail
          go_quiet ((go_at_call 125; exact Calls.quiet_of (less_q _ _ _)))
          have HE3 : Hid (RowAt g E rest (wr.drewN nq)) := HE
          have HG3 := Lib.hid (grown_drewN HG.out nq)
          clear hdl ck ca
          go_wp2_with fail
          go_meet
          exact ⟨k2, rfl, hak2, hkq2, HPG, HEX, HE3, HG3⟩
        · have hdl : decide (x < z) = false := decide_eq_false hls
          have HPG2 : Hid (Pg a b (k2 + 1) (q + 1) x E) := Lib.hid (pg_left HPG.out (by rw [HZ.out]; omega))
          go_wp2_with fail
          go_quiet ((go_at_call 125; exact Calls.quiet_of (less_q _ _ _)))
          have HE3 : Hid (RowAt g E rest (wr.drewN nq)) := HE
          have HG3 := Lib.hid (grown_drewN HG.out nq)
          clear hdl ck ca
          go_wp2_with fail
          go_roundw
          case rel => exact ⟨k2 + 1, by go_num, by omega, by omega, HPG2, HE3, HG3⟩
          case measure => simp [intOf]; omega
    case rest =>
    clear HPG HE HG hak hkq
    obtain ⟨k2, rfl, hak, hkq, HPG, HXA, HE, HG⟩ := hcut
    obtain ⟨k, rfl⟩ : ∃ x, x = k2 := ⟨_, rfl⟩
    obtain ⟨wA, rfl⟩ : ∃ x, x = wc := ⟨_, rfl⟩
    go_upto_block 4 with fail
    go_cut [10] (fun j wx => ∃ q2 : Nat, j = .int .i64 q2 ∧ k ≤ q2 + 1 ∧ q2 ≤ q ∧ Hid (Pg a b k (q2 + 1) x E) ∧ Hid (k = q2 + 1 ∨ el E q2 ≤ x) ∧ Hid (RowAt g E rest wx) ∧ Hid (w.grownBy wx (some g)))
    case first =>
      go_wp2_with fail
      go_loopw [10] (fun j wx => ∃ q2 : Nat, j = .int .i64 q2 ∧ k ≤ q2 + 1 ∧ q2 ≤ q ∧ Hid (Pg a b k (q2 + 1) x E) ∧ Hid (RowAt g E rest wx) ∧ Hid (w.grownBy wx (some g))) (fun j _ => (intOf j).toNat)
      case atStart => exact ⟨q, rfl, hkq, Nat.le_refl _, HPG, HE, HG⟩
      case round =>
        clear HPG HE HG
        obtain ⟨q2, rfl, hkq2, hq2, HPG, HE, HG⟩ := hrel
        by_cases hlt : k ≤ q2
        case neg =>
          have hd : decide (k ≤ q2) = false := decide_eq_false hlt
          go_wp2_with fail
          go_quiet (fail)
          have HE3 : Hid (RowAt g E rest (wr.drewN nq)) := HE
          have HG3 := Lib.hid (grown_drewN HG.out nq)
          go_wp2_with fail
          go_meet
          exact ⟨q2, rfl, hkq2, hq2, HPG, Lib.hid (Or.inl (by omega)), HE3, HG3⟩
        have hd : decide (k ≤ q2) = true := decide_eq_true hlt
        have hEl : E.length = n := by rw [HP.out.len]; exact HN.out
        have ck := (HE.out.get (i := q2) (by omega)).1
        have ca := (HE.out.get (i := a) (by omega)).1
        rw [HPG.out.1] at ca
        obtain ⟨z, hz⟩ : ∃ z, el E q2 = z := ⟨_, rfl⟩
        rw [hz] at ck
        have HZ := Lib.hid hz
        have hk1 : (q2 : Int) < (n : Int) := by omega
        have hk0 : (0 : Int) ≤ (q2 : Int) := by omega
        have ha1 : (a : Int) < (n : Int) := by omega
        have ha0 : (0 : Int) ≤ (a : Int) := by omega
        clear hEl hz
        by_cases hls : x < z
        · have hdl : decide (x < z) = true := decide_eq_true hls
          obtain ⟨r, hr⟩ : ∃ r, q2 = r + 1 := ⟨q2 - 1, by omega⟩
          have er : (q2 : Int) - 1 = (r : Int) := by omega
          have HPG2 : Hid (Pg a b k (r + 1) x E) := Lib.hid (by rw [← hr]; exact pg_right HPG.out (by rw [HZ.out]; omega))
          have HRR := Lib.hid hr
          clear hr
          go_wp2_with fail
          go_quiet ((go_at_call 125; exact Calls.quiet_of (less_q _ _ _)))
          have HE3 : Hid (RowAt g E rest (wr.drewN nq)) := HE
          have HG3 := Lib.hid (grown_drewN HG.out nq)
          clear hdl ck ca
          go_wp2_with fail
          go_roundw
          case rel => exact ⟨r, by rfl, by have := HRR.out; omega, by have := HRR.out; omega, HPG2, HE3, HG3⟩
          case measure => have := HRR.out; simp [intOf]; omega
        · have hdl : decide (x < z) = false := decide_eq_false hls
          have HEX : Hid (k = q2 + 1 ∨ el E q2 ≤ x) := Lib.hid (Or.inr (by rw [HZ.out]; omega))
          go_wp2_with fail
          go_quiet ((go_at_call 125; exact Calls.quiet_of (less_q _ _ _)))
          have HE3 : Hid (RowAt g E rest (wr.drewN nq)) := HE
          have HG3 := Lib.hid (grown_drewN HG.out nq)
          clear hdl ck ca
          go_wp2_with fail
          go_meet
          exact ⟨q2, rfl, hkq2, hq2, HPG, HEX, HE3, HG3⟩
    case rest =>
    clear HPG HE HG hkq
    obtain ⟨q2, rfl, hkq, hq2, HPG, HXB, HE, HG⟩ := hcut
    have hqb2 : q2 + 1 ≤ b := by omega
    have HXA : Hid (k = q2 + 1 ∨ x < el E k) := Lib.hid (by have := HXA.out; omega)
    clear hqb
    obtain ⟨q, rfl⟩ : ∃ x, x = q2 := ⟨_, rfl⟩
    obtain ⟨hqb⟩ : q + 1 ≤ b ∧ True := ⟨hqb2, trivial⟩
    obtain ⟨wB, rfl⟩ : ∃ x, x = wc := ⟨_, rfl⟩
    by_cases hgt : q < k
    · have hd : decide (q < k) = true := decide_eq_true hgt
      have HL : Hid (∀ i, a ≤ i → i < k → el E i ≤ x) := Lib.hid (fun i h1 h2 => by
        by_cases e : i = a
        · rw [e, HPG.out.1]; exact Int.le_refl _
        · exact HPG.out.2.1 i (by omega) h2)
      go_wp2_with fail
      go_ret
      exact ⟨k, E, rfl, hak, by omega, HP.out, by rw [HX0.out]; exact HL.out, HE.out, HG.out⟩
    have hgt2 : k ≤ q := by omega
    have hkq3 : k + 1 ≤ q := by
      have h1 := HXA.out
      have h2 := HXB.out
      by_cases e : k = q
      · subst e
        omega
      · omega
    have hEl : E.length = n := by rw [HP.out.len]; exact HN.out
    obtain ⟨⟨ci, cj⟩, ⟨fi, fj, fij⟩, hS⟩ := HE.out.swaps (i := k) (j := q) (by omega) (by omega)
    have cij := HE.out.once (i := k) (j := q) (by omega) (by omega)
    have HS := Lib.hid hS
    have hi1 : (k : Int) < (n : Int) := by omega
    have hj1 : (q : Int) < (n : Int) := by omega
    have hi0 : (0 : Int) ≤ (k : Int) := by omega
    have hj0 : (0 : Int) ≤ (q : Int) := by omega
    clear hEl hS
    go_upto_region 8 with (fail)
    go_region
    obtain ⟨wn, hwn⟩ : ∃ wn, wn = ((wB.setCell ⟨g, k, none⟩ (.int .u64 (el E q))).setCell ⟨g, q, none⟩ (.int .u64 (el E k))).drew := ⟨_, rfl⟩
    have HE2 : Hid (RowAt g (sw E k q) rest wn) := Lib.hid (by rw [hwn]; exact HS.out)
    have HG2 : Hid (w.grownBy wn (some g)) := Lib.hid (by rw [hwn]; exact grown_drewN (grown_swap HG.out k q _ _) 1)
    rw [← hwn]
    clear hwn ci cj fi fj fij cij
    have HP2 := Lib.hid (HP.out.step (i := k) (j := q) (by omega) (by omega) (by omega) (by omega))
    have HPG2 : Hid (Pg a b (k + 1) q x (sw E k q)) := Lib.hid (pg_swap HPG.out (by have := HXA.out; omega) (by have := HXB.out; omega) hak (by omega) (by omega) (by have := HP.out.len; have := HN.out; omega))
    obtain ⟨r, hr⟩ : ∃ r, q = r + 1 := ⟨q - 1, by omega⟩
    have er : (q : Int) - 1 = (r : Int) := by omega
    have HPG3 : Hid (Pg a b (k + 1) (r + 1) x (sw E k q)) := Lib.hid (by rw [← hr]; exact HPG2.out)
    have HRR := Lib.hid hr
    clear hr HPG2 HXA HXB hgt hgt2
    go_wp2_with fail
    go_roundw
    case rel => exact ⟨k + 1, r, _, by go_num, rfl, by omega, by have := HRR.out; omega, by have := HRR.out; omega, HP2, HPG3, HE2, HG2⟩
    case measure => have := HRR.out; simp [intOf]; omega
end Go.Proofs.Ytlfhcjhbnakamaa.Qs
/-
  Heaps, by swaps: as plain lists.
-/
namespace Go.Gh
set_option linter.unusedVariables false
set_option linter.unusedSimpArgs false
/-- A heap from lo on, below hi, that begins at f. -/
def Hp (f lo hi : Nat) (D : List Int) : Prop := ∀ r c, lo ≤ r → (c = 2 * r + 1 ∨ c = 2 * r + 2) → c < hi → el D (f + c) ≤ el D (f + r)
/-- A heap but at r. -/
def HpX (f lo hi r : Nat) (D : List Int) : Prop := (∀ i c, lo ≤ i → i ≠ r → (c = 2 * i + 1 ∨ c = 2 * i + 2) → c < hi → el D (f + c) ≤ el D (f + i)) ∧
  ∀ p c, lo ≤ p → (r = 2 * p + 1 ∨ r = 2 * p + 2) → (c = 2 * r + 1 ∨ c = 2 * r + 2) → c < hi → el D (f + c) ≤ el D (f + p)
theorem hpx_start {f lo hi : Nat} {D : List Int} (h : Hp f (lo + 1) hi D) : HpX f lo hi lo D :=
  ⟨fun i c h1 h2 h3 h4 => h i c (by omega) h3 h4, fun p c h1 h2 => by omega⟩
theorem hpx_end {f lo hi r : Nat} {D : List Int} (h : HpX f lo hi r D) (hr : ∀ c, (c = 2 * r + 1 ∨ c = 2 * r + 2) → c < hi → el D (f + c) ≤ el D (f + r)) : Hp f lo hi D := by
  intro i c h1 h2 h3
  by_cases e : i = r
  · subst e; exact hr c h2 h3
  · exact h.1 i c h1 e h2 h3
theorem hpx_step {f lo hi r c : Nat} {D : List Int} (h : HpX f lo hi r D) (hlo : lo ≤ r) (hc : c = 2 * r + 1 ∨ c = 2 * r + 2) (hch : c < hi) (hlt : el D (f + r) < el D (f + c))
    (hmax : ∀ d, (d = 2 * r + 1 ∨ d = 2 * r + 2) → d < hi → el D (f + d) ≤ el D (f + c)) (hl : f + hi ≤ D.length) : HpX f lo hi c (sw D (f + r) (f + c)) := by
  refine ⟨fun i d h1 h2 h3 h4 => ?_, fun p d h1 h2 h3 h4 => ?_⟩
  · rw [sw_el (by omega) (by omega), sw_el (by omega) (by omega)]
    by_cases e : i = r
    · subst e
      rw [if_neg (by omega : ¬ f + i = f + c), if_pos rfl]
      by_cases e2 : d = c
      · rw [if_pos (by omega)]; omega
      · rw [if_neg (by omega), if_neg (by omega)]; exact hmax d h3 h4
    · rw [if_neg (by omega : ¬ f + i = f + c), if_neg (by omega : ¬ f + i = f + r)]
      by_cases e2 : d = r
      · subst e2
        rw [if_neg (by omega), if_pos rfl]
        exact h.2 i c h1 h3 hc hch
      · rw [if_neg (by omega), if_neg (by omega)]
        exact h.1 i d h1 e h3 h4
  · have e : p = r := by omega
    subst e
    rw [sw_el (by omega) (by omega), sw_el (by omega) (by omega), if_neg (by omega), if_neg (by omega), if_neg (by omega : ¬ f + p = f + c), if_pos rfl]
    exact h.1 c d (by omega) (by omega) h3 h4
theorem hp_root {f hi : Nat} {D : List Int} (h : Hp f 0 hi D) (k : Nat) : k < hi → el D (f + k) ≤ el D f := by
  induction k using Nat.strongRecOn with
  | _ k ih =>
    intro hk
    by_cases e : k = 0
    · subst e; exact Int.le_refl _
    · have h1 := h ((k - 1) / 2) k (Nat.zero_le _) (by omega) hk
      exact Int.le_trans h1 (ih ((k - 1) / 2) (by omega) (by omega))
/-- From i on all is where it belongs. -/
def Tl (f hi i : Nat) (D : List Int) : Prop := ∀ j k, i ≤ j → j < hi → k < j → el D (f + k) ≤ el D (f + j)
theorem tl_start (f hi : Nat) (D : List Int) : Tl f hi hi D := fun j k h1 h2 => by omega
/-- The greatest goes to i. -/
theorem tl_pop {f hi i : Nat} {D E : List Int} (h : Hp f 0 (i + 1) D) (ht : Tl f hi (i + 1) D) (hp : Pm f (f + i) (sw D f (f + i)) E) (hih : i < hi) (hl : f + hi ≤ D.length) : Tl f hi i E := by
  have hlen : (sw D f (f + i)).length = D.length := sw_len _ _ _
  have e1 : ∀ j, i < j → el (sw D f (f + i)) (f + j) = el D (f + j) := fun j hj => by
    rw [sw_el (by omega) (by omega), if_neg (by omega), if_neg (by omega)]
  have e0 : el (sw D f (f + i)) (f + i) = el D f := by rw [sw_el (by omega) (by omega), if_pos rfl]
  have small : ∀ (x : Int), (∀ k, k ≤ i → el D (f + k) ≤ x) → ∀ k, k < i → el E (f + k) ≤ x := by
    intro x hx k hk
    refine hp.all (by omega) (fun y => y ≤ x) (fun t h1 h2 => ?_) (f + k) (by omega) (by omega)
    obtain ⟨s, rfl⟩ : ∃ s, t = f + s := ⟨t - f, by omega⟩
    rw [sw_el (by omega) (by omega)]
    by_cases e : f + s = f + i
    · rw [if_pos e]; exact hx 0 (Nat.zero_le _)
    · rw [if_neg e]
      by_cases e2 : f + s = f
      · rw [if_pos e2]; exact hx i (Nat.le_refl _)
      · rw [if_neg e2]; exact hx s (by omega)
  intro j k h1 h2 h3
  rw [hp.out (by omega) (k := f + j) (Or.inr (by omega))]
  by_cases hj : j = i
  · subst hj
    rw [e0]
    exact small _ (fun k hk => hp_root h k (by omega)) k h3
  · rw [e1 j (by omega)]
    by_cases hk : k < i
    · exact small _ (fun t htt => ht j t (by omega) h2 (by omega)) k hk
    · rw [hp.out (by omega) (k := f + k) (Or.inr (by omega))]
      by_cases hk2 : k = i
      · subst hk2
        rw [e0]
        exact ht j 0 (by omega) h2 (by omega)
      · rw [e1 k (by omega)]
        exact ht j k (by omega) h2 h3
theorem hp_pop {f i : Nat} {D : List Int} (h : Hp f 0 (i + 1) D) (hl : f + i < D.length) : Hp f (0 + 1) i (sw D f (f + i)) := by
  intro r c h1 h2 h3
  rw [sw_el (by omega) (by omega), sw_el (by omega) (by omega), if_neg (by omega), if_neg (by omega), if_neg (by omega), if_neg (by omega)]
  exact h r c (Nat.zero_le _) h2 (by omega)
theorem tl_rs {f hi : Nat} {D : List Int} (h : Tl f hi 0 D) : Rs f (f + hi) D := by
  intro i j h1 h2 h3
  have := h (j - f) (i - f) (Nat.zero_le _) (by omega) (by omega)
  rwa [show f + (i - f) = i by omega, show f + (j - f) = j by omega] at this
theorem hp_none {f lo hi : Nat} {D : List Int} (h : hi ≤ 2 * lo + 1) : Hp f lo hi D := fun r c h1 h2 h3 => by omega
end Go.Gh
