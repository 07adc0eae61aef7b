/-
  The walk of NewerThan.
-/
import Derived.Test.YtcljeedmiobepaaNewer
namespace Go.Proofs.Ytcljeedmiobepaa.Nod
open Go.RowKit Go.Gh
set_option linter.unusedVariables false
theorem gtT_step {x y : List Int} {k : Nat} (hx : k < x.length) (hy : k < y.length) : gtT (x.drop k) (y.drop k) = if x.getD k 0 ≠ y.getD k 0 then decide (y.getD k 0 < x.getD k 0) else gtT (x.drop (k + 1)) (y.drop (k + 1)) := by
  rw [List.drop_eq_getElem_cons hx, List.drop_eq_getElem_cons hy, gtT, List.getD_eq_getElem?_getD, List.getD_eq_getElem?_getD, List.getElem?_eq_getElem hx, List.getElem?_eq_getElem hy]
  rfl
theorem gtT_left {x y : List Int} {k : Nat} (hx : k < x.length) (hy : y.length ≤ k) : gtT (x.drop k) (y.drop k) = true := by
  rw [List.drop_eq_getElem_cons hx, List.drop_of_length_le hy, gtT]
theorem gtT_end {x y : List Int} {k : Nat} (hx : x.length ≤ k) : gtT (x.drop k) (y.drop k) = false := by
  rw [List.drop_of_length_le hx, gtT]
set_option maxHeartbeats 4000000 in
set_option maxRecDepth 100000 in
theorem newerthan_any (v u : Value) (a b : Cl) (w : World) (hv : ClV w v a) (hu : ClV w u b) : Calls Try.prog 19 #[v, u] w fun e w' => e = .returned (.bool (newerC a b)) ∧ Below w.heap.size w w' := by
  obtain ⟨ta, rfl, hta⟩ := hv
  obtain ⟨tb, rfl, htb⟩ := hu
  obtain ⟨av, sa, an, atk⟩ := a
  obtain ⟨bv, sb, bn, btk⟩ := b
  rw [newer_eq]
  dsimp only at *
  obtain ⟨ao, c, rfl, hnc, hc, -⟩ := hta.1.shape
  obtain ⟨bo, d, rfl, hmd, hd, -⟩ := htb.1.shape
  have hBA0 : Below w.heap.size w ((w.alloc (Obj.cells #[.int .i64 av, .int .i64 sa, .string an, .slice ao atk.length c] 27)).alloc (Obj.cells #[.int .i64 bv, .int .i64 sb, .string bn, .slice bo btk.length d] 27)) := ((Below.refl _ _).alloc (Nat.le_refl _) _).alloc (by simp) _
  have HTA := Lib.hid hta
  have HTB := Lib.hid htb
  clear hta htb
  by_cases h1 : av = bv
  case neg =>
    rw [if_pos h1]
    have t1 : (av != bv) = true := by rw [bne_iff_ne]; exact h1
    by_cases h2 : bv < av
    · rw [decide_eq_true h2]
      go_enter Try.func19, Try.ntmps19
      go_wp2_with fail
      go_ret
      exact ⟨rfl, hBA0⟩
    · rw [decide_eq_false h2]
      go_enter Try.func19, Try.ntmps19
      go_wp2_with fail
      go_ret
      exact ⟨rfl, hBA0⟩
  subst h1
  rw [if_neg (by simp)]
  have t1 : (av != av) = false := by simp
  by_cases h1 : sa = sb
  case neg =>
    rw [if_pos h1]
    have t2 : (sa != sb) = true := by rw [bne_iff_ne]; exact h1
    by_cases h2 : sb < sa
    · rw [decide_eq_true h2]
      go_enter Try.func19, Try.ntmps19
      go_wp2_with fail
      go_ret
      exact ⟨rfl, hBA0⟩
    · rw [decide_eq_false h2]
      go_enter Try.func19, Try.ntmps19
      go_wp2_with fail
      go_ret
      exact ⟨rfl, hBA0⟩
  subst h1
  rw [if_neg (by simp)]
  have t2 : (sa != sa) = false := by simp
  obtain ⟨C, hC⟩ : ∃ C, gtT atk btk = C := ⟨_, rfl⟩
  rw [hC]
  have HC : Hid (C = gtT (atk.drop 0) (btk.drop 0)) := Lib.hid hC.symm
  obtain ⟨n, hn⟩ : ∃ n, atk.length = n := ⟨_, rfl⟩
  obtain ⟨m, hm⟩ : ∃ m, btk.length = m := ⟨_, rfl⟩
  have HN := Lib.hid hn
  have HM := Lib.hid hm
  rw [hn] at HTA hnc hBA0 ⊢
  rw [hm] at HTB hmd hBA0 ⊢
  have HBA := Lib.hid hBA0
  clear hC hn hm hBA0
  go_enter Try.func19, Try.ntmps19
  go_wp2_with fail
  obtain ⟨wA, hwA⟩ : ∃ wA, wA = (w.alloc (Obj.cells #[.int .i64 av, .int .i64 sa, .string an, .slice ao n c] 27)).alloc (Obj.cells #[.int .i64 av, .int .i64 sa, .string bn, .slice bo m d] 27) := ⟨_, rfl⟩
  have hb1 : wA.heap[w.heap.size]? = some (.cells #[.int .i64 av, .int .i64 sa, .string an, .slice ao n c] 27 (0, 0)) := by rw [hwA]; exact two_first w _ _
  have hb2 : wA.heap[w.heap.size + 1]? = some (.cells #[.int .i64 av, .int .i64 sa, .string bn, .slice bo m d] 27 (0, 0)) := by rw [hwA]; exact two_second w _ _
  have hBA : Below w.heap.size w wA := by rw [hwA]; exact HBA.out
  rw [← hwA]
  have a3 : Hid (wA.cell? ⟨w.heap.size, 3, none⟩ = some (.slice ao n c)) := Lib.hid (row_cell 3 _ hb1 rfl).1
  have b3 : Hid (wA.cell? ⟨w.heap.size + 1, 3, none⟩ = some (.slice bo m d)) := Lib.hid (row_cell 3 _ hb2 rfl).1
  have ha : w.heap.size < wA.heap.size := (Array.getElem?_eq_some_iff.1 hb1).1
  have hb : w.heap.size + 1 < wA.heap.size := (Array.getElem?_eq_some_iff.1 hb2).1
  have HTA1 : Hid (Toks wA (.slice ao n c) atk) := Lib.hid (HTA.out.below hBA)
  have HTB1 : Hid (Toks wA (.slice bo m d) btk) := Lib.hid (HTB.out.below hBA)
  have HBA := Lib.hid hBA
  have hsz := hBA.size
  clear hwA hBA hb1 hb2 HTA HTB
  generalize hbx : w.heap.size = bx at *
  have HBX := Lib.hid hbx
  clear hbx
  go_loopw [30] (fun i wr => ∃ k : Nat, k ≤ n ∧ k ≤ m ∧ i = .int .i64 k ∧ Hid (C = gtT (atk.drop k) (btk.drop k)) ∧ Below wA.heap.size wA wr) (fun i _ => n - (intOf i).toNat)
  case atStart => exact ⟨0, Nat.zero_le _, Nat.zero_le _, rfl, HC, Below.refl _ _⟩
  case round =>
    obtain ⟨k, hk, hkm, rfl, HK, hbr⟩ := hrel
    have q3 : wr.cell? ⟨bx, 3, none⟩ = some (.slice ao n c) := (hbr.cell (p := ⟨bx, 3, none⟩) ha).trans a3.out
    have r3 : wr.cell? ⟨bx + 1, 3, none⟩ = some (.slice bo m d) := (hbr.cell (p := ⟨bx + 1, 3, none⟩) hb).trans b3.out
    have HBW : Hid (Below w.heap.size w wr) := Lib.hid (by rw [HBX.out]; exact HBA.out.trans (hbr.mono hsz))
    by_cases hlt : k < n
    case neg =>
      have h1 : C = false := by rw [HK.out]; exact gtT_end (by rw [HN.out]; omega)
      subst h1
      go_wp2_with fail
      go_ret
      exact ⟨rfl, HBW.out⟩
    by_cases hm2 : k < m
    case neg =>
      obtain rfl : k = m := by omega
      have h1 : C = true := by rw [HK.out]; exact gtT_left (by rw [HN.out]; exact hlt) (by rw [HM.out]; exact Nat.le_refl _)
      subst h1
      go_wp2_with fail
      go_ret
      exact ⟨rfl, HBW.out⟩
    obtain ⟨b1, o1, rfl, c1⟩ := (HTA1.out.below hbr).at (i := k) (by rw [HN.out]; exact hlt)
    obtain ⟨b2, o2, rfl, c2⟩ := (HTB1.out.below hbr).at (i := k) (by rw [HM.out]; exact hm2)
    have hst := gtT_step (x := atk) (y := btk) (k := k) (by rw [HN.out]; exact hlt) (by rw [HM.out]; exact hm2)
    rw [← HK.out] at hst
    have t3 : ((k : Int) == (m : Int)) = false := beq_eq_false_iff_ne.2 (by omega)
    generalize atk.getD k 0 = p at *
    generalize btk.getD k 0 = q at *
    by_cases hpq : p = q
    · have HK2 : Hid (C = gtT (atk.drop (k + 1)) (btk.drop (k + 1))) := Lib.hid (by rw [hst, if_neg (by simpa using hpq)])
      have t4 : (p != q) = false := by rw [hpq]; simp
      clear hst hpq HK
      go_wp2_with fail
      go_quiet (fail)
      go_wp2_with fail
      go_roundw
      case rel => exact ⟨k + 1, by omega, by omega, by go_num, HK2, below_drewN hbr _⟩
      case measure => simp [intOf]; omega
    · have t4 : (p != q) = true := by rw [bne_iff_ne]; exact hpq
      have h1 : C = decide (q < p) := by rw [hst, if_pos hpq]
      clear hst hpq HK
      go_wp2_with fail
      go_quiet (fail)
      go_wp2_with fail
      go_quiet (fail)
      go_wp2_with fail
      go_ret
      exact ⟨ret_bool h1.symm, below_drewN (below_drewN HBW.out _) _⟩
end Go.Proofs.Ytcljeedmiobepaa.Nod
