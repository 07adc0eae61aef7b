/-
  Tallies of what is heavy: the walks of Check and HeavyFault.
-/
import Derived.Test.YtcljeedmiobepaaRn4
import Derived.Test.YtcljeedmiobepaaRn5
import Derived.Test.YtcljeedmiobepaaRn6
import Derived.BigQuiet
import Derived.Lib.SmallJoins
import Derived.Lib.SliceRun
import Derived.Deep.LoopGhost
import Derived.Shelf.Abstract
namespace Go.Proofs.Ytcljeedmiobepaa.Hv
open Go.RowKit Go.Gh
set_option linter.unusedVariables false
theorem sumN_bd {N : Int} {L : List Ct} (hN : N ≤ 1000000000) : ∀ k, k ≤ L.length → (∀ (i : Nat) (x : Ct), i < k → L[i]? = some x → 0 < x.n ∧ x.n ≤ N) → 0 ≤ sumN (L.take k) ∧ sumN (L.take k) ≤ (k : Int) * 1000000000
  | 0, _, _ => by simp [sumN]
  | k + 1, hk, h => by
    obtain ⟨x, hx⟩ : ∃ x, L[k]? = some x := ⟨_, List.getElem?_eq_getElem (by omega)⟩
    have ih := sumN_bd (L := L) hN k (by omega) (fun i y hi => h i y (by omega))
    have := h k x (by omega) hx
    rw [sumN_take hx]
    omega
def SumRel (L : List Ct) (k : Nat) (b : Bool) (z : Int) : Prop := b = true → z = sumN (L.take k) ∧ 0 ≤ z ∧ z ≤ 64000000000
theorem sumRel_of {H : Bool} {s : Hv} {k : Nat} {b : Bool} (hH : headH s.k s.l.length s.n s.off = H) (hk : k ≤ s.l.length) (hb : b = okP H s.n s.l k) : SumRel s.l k b (sumN (s.l.take k)) := by
  intro h1
  rw [hb, okP_iff k hk] at h1
  obtain ⟨h2, h3, h4⟩ := h1
  rw [← hH] at h2
  have h5 := headH_ok.1 h2
  have := sumN_bd (L := s.l) h5.2.2.2.2.1 k hk (fun i x hi hx => ⟨(oneOk_pos (h3 i x hi hx)).2.1, h4 i x hi hx⟩)
  exact ⟨rfl, by omega, by omega⟩
theorem mul_bd {K off : Int} (h1 : 1 ≤ K) (h2 : K ≤ 64) (h3 : 0 ≤ off) (h4 : off ≤ 1000000000) : 0 ≤ (K + 1) * off ∧ (K + 1) * off ≤ 65000000000 := by
  have h5 := mul_nn h1 h3
  have h6 : (K + 1) * off ≤ 65 * off := Int.mul_le_mul_of_nonneg_right (by omega) h3
  omega
set_option maxHeartbeats 8000000 in
set_option maxRecDepth 100000 in
theorem hvcheck_any (v : Value) (s : Hv) (w : World) (hv : HvV w v s) : Calls Try.prog 54 #[v] w fun e w' => e = .returned (.int .i64 (heavyF s)) ∧ Below w.heap.size w w' := by
  obtain ⟨t, rfl, hs⟩ := hv
  obtain ⟨ao, c, rfl, hnc, hc⟩ := hs.shape
  obtain ⟨m, hm⟩ : ∃ m, s.l.length = m := ⟨_, rfl⟩
  rw [hm] at hs hnc ⊢
  have HM := Lib.hid hm
  have HS := Lib.hid hs
  obtain ⟨H, hH⟩ : ∃ H, headH s.k m s.n s.off = H := ⟨_, rfl⟩
  have HH := Lib.hid hH
  clear hm hs
  go_enter Try.func54, Try.ntmps54
  go_upto_region 1 with (fail)
  obtain ⟨wA, hwA⟩ : ∃ wA, wA = w.alloc (Obj.cells #[.int .i64 s.k, .slice ao m c, .int .i64 s.n, .int .i64 s.off] 86) := ⟨_, rfl⟩
  have hbox : wA.heap[w.heap.size]? = some (.cells #[.int .i64 s.k, .slice ao m c, .int .i64 s.n, .int .i64 s.off] 86 (0, 0)) := by rw [hwA]; exact heap_alloc_new w _
  have hbA : Below w.heap.size w wA := by rw [hwA]; exact (Below.refl _ _).alloc (Nat.le_refl _) _
  rw [← hwA]
  have HBA := Lib.hid hbA
  have HSA := Lib.hid (HS.out.below ctR_mono hbA)
  have hszA := hbA.size
  obtain ⟨⟨d0, d1, d2, d3⟩, -⟩ := bx4 hbox
  obtain ⟨bx, hbx⟩ : ∃ bx, w.heap.size = bx := ⟨_, rfl⟩
  rw [hbx] at d0 d1 d2 d3 ⊢
  have HBD : Hid (∀ W, Below wA.heap.size wA W → W.cell? ⟨bx, 0, none⟩ = some (.int .i64 s.k) ∧ W.cell? ⟨bx, 1, none⟩ = some (.slice ao m c) ∧ W.cell? ⟨bx, 2, none⟩ = some (.int .i64 s.n) ∧ W.cell? ⟨bx, 3, none⟩ = some (.int .i64 s.off)) := Lib.hid (fun W h =>
    ⟨(h.cell (p := ⟨bx, 0, none⟩) (cell_lt d0)).trans d0, (h.cell (p := ⟨bx, 1, none⟩) (cell_lt d0)).trans d1, (h.cell (p := ⟨bx, 2, none⟩) (cell_lt d0)).trans d2, (h.cell (p := ⟨bx, 3, none⟩) (cell_lt d0)).trans d3⟩)
  clear hwA hbox hbA hbx
  go_cut [3] (fun t wx => t = .bool H ∧ wx = wA)
  case first =>
    unfold headH at hH
    by_cases h0 : 1 ≤ s.k
    case neg =>
      rw [decide_eq_false h0] at hH
      simp at hH
      subst hH
      go_wp2_with fail
      go_meet
      exact ⟨rfl, rfl⟩
    by_cases h1 : s.k ≤ 64
    case neg =>
      rw [decide_eq_true h0, decide_eq_false h1] at hH
      simp at hH
      subst hH
      go_wp2_with fail
      go_meet
      exact ⟨rfl, rfl⟩
    by_cases h2 : (m : Int) ≤ s.k
    case neg =>
      rw [decide_eq_true h0, decide_eq_true h1, decide_eq_false h2] at hH
      simp at hH
      subst hH
      go_wp2_with fail
      go_meet
      exact ⟨rfl, rfl⟩
    by_cases h3 : 0 ≤ s.n
    case neg =>
      rw [decide_eq_true h0, decide_eq_true h1, decide_eq_true h2, decide_eq_false h3] at hH
      simp at hH
      subst hH
      go_wp2_with fail
      go_meet
      exact ⟨rfl, rfl⟩
    by_cases h4 : s.n ≤ 1000000000
    case neg =>
      rw [decide_eq_true h0, decide_eq_true h1, decide_eq_true h2, decide_eq_true h3, decide_eq_false h4] at hH
      simp at hH
      subst hH
      go_wp2_with fail
      go_meet
      exact ⟨rfl, rfl⟩
    by_cases h5 : 0 ≤ s.off
    case neg =>
      rw [decide_eq_true h0, decide_eq_true h1, decide_eq_true h2, decide_eq_true h3, decide_eq_true h4, decide_eq_false h5] at hH
      simp at hH
      subst hH
      go_wp2_with fail
      go_meet
      exact ⟨rfl, rfl⟩
    by_cases h6 : s.off ≤ s.n
    case neg =>
      rw [decide_eq_true h0, decide_eq_true h1, decide_eq_true h2, decide_eq_true h3, decide_eq_true h4, decide_eq_true h5, decide_eq_false h6] at hH
      simp at hH
      subst hH
      go_wp2_with fail
      go_meet
      exact ⟨rfl, rfl⟩
    rw [decide_eq_true h0, decide_eq_true h1, decide_eq_true h2, decide_eq_true h3, decide_eq_true h4, decide_eq_true h5, decide_eq_true h6] at hH
    simp at hH
    subst hH
    go_wp2_with fail
    go_meet
    exact ⟨rfl, rfl⟩
  obtain ⟨rfl, hwc⟩ := hcut
  subst hwc
  obtain ⟨wA, rfl⟩ : ∃ x : World, x = wc := ⟨_, rfl⟩
  clear hH
  go_wp2_with fail
  go_loopw [3, 4, 48] (fun q r i wr => ∃ (k : Nat) (b : Bool) (z : Int), k ≤ m ∧ q = .bool b ∧ r = .int .i64 z ∧ i = .int .i64 k ∧ Hid (b = okP H s.n s.l k) ∧ Hid (SumRel s.l k b z) ∧ Below wA.heap.size wA wr) (fun _ _ i _ => m - (intOf i).toNat)
  case atStart => exact ⟨0, H, 0, by omega, rfl, rfl, rfl, Lib.hid rfl, Lib.hid (fun _ => ⟨by simp [sumN], by omega, by omega⟩), Below.refl _ _⟩
  case round =>
    obtain ⟨k, b, z, hk, rfl, rfl, rfl, HK, HZ, hbel⟩ := hrel
    have hsz := hbel.size
    have HBR := Lib.hid (HBA.out.trans (hbel.mono HBA.out.size))
    by_cases hlt : k < m
    case neg =>
      obtain rfl : k = m := by omega
      clear d0 d1 d2 d3
      obtain ⟨d0, d1, d2, d3⟩ := HBD.out wr hbel
      have hPP := heavyP_eq (s := s)
      rw [HM.out, HH.out, ← HK.out] at hPP
      cases b with
      | false =>
        have HF : Hid (heavyF s = 4) := Lib.hid (by unfold heavyF; rw [if_neg (fun h => by have := (hPP.1 h).1; simp at this)])
        clear hPP
        go_wp2_with fail
        go_ret
        exact ⟨by rw [HF.out]; rfl, HBR.out⟩
      | true =>
        have h1 := (okP_iff (N := s.n) (l := s.l) k (by rw [HM.out]; exact Nat.le_refl _)).1 HK.out.symm
        obtain ⟨h2, -, -⟩ := h1
        have h3 := headH_ok.1 (HH.out.trans h2)
        obtain ⟨hz1, hz2, hz3⟩ := HZ.out rfl
        rw [List.take_of_length_le (by rw [HM.out]; exact Nat.le_refl _)] at hz1
        rw [← hz1] at hPP
        obtain ⟨hq1, hq2⟩ := mul_bd h3.1 h3.2.1 h3.2.2.2.2.2.1 (by omega)
        have hw1 : IntKind.i64.wrap (s.k + 1) = s.k + 1 := IntWalk.i64_in _ (by omega)
        have hw2 : IntKind.i64.wrap ((s.k + 1) * s.off) = (s.k + 1) * s.off := IntWalk.i64_in _ (by omega)
        have hw3 : IntKind.i64.wrap ((s.k + 1) * s.off + z) = (s.k + 1) * s.off + z := IntWalk.i64_in _ (by omega)
        by_cases hgt : s.n < (s.k + 1) * s.off + z
        · have HF : Hid (heavyF s = 4) := Lib.hid (by unfold heavyF; rw [if_neg (fun h => by have := (hPP.1 h).2; omega)])
          clear hPP hz1 hz2 hz3 h3 h2 hq1 hq2
          go_wp2_with fail
          go_ret
          exact ⟨by rw [HF.out]; rfl, HBR.out⟩
        · have HF : Hid (heavyF s = 0) := Lib.hid (by unfold heavyF; rw [if_pos (hPP.2 ⟨rfl, by omega⟩)])
          clear hPP hz1 hz2 hz3 h3 h2 hq1 hq2
          go_wp2_with fail
          go_ret
          exact ⟨by rw [HF.out]; rfl, HBR.out⟩
    obtain ⟨x, hx⟩ : ∃ x, s.l[k]? = some x := ⟨_, List.getElem?_eq_getElem (by rw [HM.out]; exact hlt)⟩
    have HSR := Lib.hid (HSA.out.below ctR_mono hbel)
    obtain ⟨b0, off, cs, rfl, rfl, _, hck⟩ := HSR.out.get hx
    have c0 := hck 0 _ rfl
    have c1 := hck 1 _ rfl
    rw [Nat.add_zero] at c0
    have HX := Lib.hid hx
    clear hck hx d0 d1 d2 d3
    go_upto_region 6 with (fail)
    obtain ⟨wB, hwB⟩ : ∃ wB, wB = wr.alloc (Obj.cells #[.string x.ky, .int .i64 x.n] 175) := ⟨_, rfl⟩
    have hbox : wB.heap[wr.heap.size]? = some (.cells #[.string x.ky, .int .i64 x.n] 175 (0, 0)) := by rw [hwB]; exact heap_alloc_new wr _
    have hbB : Below wr.heap.size wr wB := by rw [hwB]; exact (Below.refl _ _).alloc (Nat.le_refl _) _
    rw [← hwB]
    have HBB := Lib.hid (hbel.trans (hbB.mono hsz))
    have HSB := Lib.hid (HSR.out.below ctR_mono hbB)
    obtain ⟨⟨e0, e1⟩, -⟩ := bx2 hbox
    obtain ⟨d0, d1, d2, d3⟩ := HBD.out wB HBB.out
    generalize wr.heap.size = bc at *
    clear hwB hbox hbB c0 c1
    obtain ⟨D, hD⟩ : ∃ D, (b && (oneOk s.l k x && decide (x.n ≤ s.n))) = D := ⟨_, rfl⟩
    have HD := Lib.hid hD
    go_cut [3] (fun t wx => t = .bool D ∧ Below wB.heap.size wB wx)
    case first =>
      unfold oneOk at hD
      cases b with
      | false =>
        simp only [Bool.false_and] at hD
        subst hD
        go_quiet (fail)
        go_wp2
        go_meet
        exact ⟨rfl, below_drewN (Below.refl _ _) _⟩
      | true =>
        rw [Bool.true_and] at hD
        by_cases g1 : (x.ky.size : Int) ≤ 40
        case neg =>
          rw [decide_eq_false (p := x.ky.size ≤ 40) (by omega)] at hD
          simp only [Bool.false_and] at hD
          subst hD
          go_quiet (fail)
          go_wp2
          go_meet
          exact ⟨rfl, below_drewN (Below.refl _ _) _⟩
        rw [decide_eq_true (p := x.ky.size ≤ 40) (by omega), Bool.true_and] at hD
        by_cases g2 : 0 < x.n
        case neg =>
          rw [decide_eq_false g2] at hD
          simp only [Bool.false_and] at hD
          subst hD
          go_quiet (fail)
          go_wp2
          go_meet
          exact ⟨rfl, below_drewN (Below.refl _ _) _⟩
        rw [decide_eq_true g2, Bool.true_and] at hD
        by_cases g3 : x.n ≤ s.n
        case neg =>
          rw [decide_eq_false g3, Bool.and_false] at hD
          subst hD
          rcases Nat.eq_zero_or_pos k with rfl | hkp
          · go_quiet (fail)
            go_wp2
            go_meet
            exact ⟨rfl, below_drewN (Below.refl _ _) _⟩
          obtain ⟨k, rfl⟩ : ∃ i, k = i + 1 := ⟨k - 1, by omega⟩
          obtain ⟨q, hq⟩ : ∃ q, s.l[k]? = some q := ⟨_, List.getElem?_eq_getElem (by rw [HM.out]; omega)⟩
          obtain ⟨b2, off2, cs2, e2, rfl, _, hcq⟩ := HSB.out.get hq
          simp only [Option.some.injEq, Addr.mk.injEq, and_true] at e2
          obtain ⟨rfl, rfl⟩ := e2
          have q0 := hcq 0 _ rfl
          rw [Nat.add_zero] at q0
          generalize q.ky = qn at *
          generalize hb1 : Op.bytesLess qn.toList x.ky.toList = b1 at *
          have i1 : ((k + 1 : Nat) : Int) - 1 = (k : Int) := by omega
          have i2 : (((k + 1 : Nat) : Int) == 0) = false := beq_eq_false_iff_ne.2 (by omega)
          have i3 : ((k : Int) + 1 == 0) = false := beq_eq_false_iff_ne.2 (by omega)
          have i4 : ((k : Int) + 1 = 0) = False := eq_false (by omega)
          have i5 : IntKind.i64.wrap (((k + 1 : Nat) : Int) - 1) = (k : Int) := by rw [IntWalk.i64_in _ (by omega)]; omega
          clear hcq hq
          cases b1 <;>
          (go_quiet (fail)
           go_wp2
           go_meet
           exact ⟨rfl, below_drewN (Below.refl _ _) _⟩)
        rw [decide_eq_true g3, Bool.and_true] at hD
        rcases Nat.eq_zero_or_pos k with rfl | hkp
        · unfold preB at hD
          subst hD
          go_quiet (fail)
          go_wp2
          go_meet
          exact ⟨rfl, below_drewN (Below.refl _ _) _⟩
        obtain ⟨k, rfl⟩ : ∃ i, k = i + 1 := ⟨k - 1, by omega⟩
        obtain ⟨q, hq⟩ : ∃ q, s.l[k]? = some q := ⟨_, List.getElem?_eq_getElem (by rw [HM.out]; omega)⟩
        obtain ⟨b2, off2, cs2, e2, rfl, _, hcq⟩ := HSB.out.get hq
        simp only [Option.some.injEq, Addr.mk.injEq, and_true] at e2
        obtain ⟨rfl, rfl⟩ := e2
        have q0 := hcq 0 _ rfl
        rw [Nat.add_zero] at q0
        rw [preB_succ hq] at hD
        generalize q.ky = qn at *
        have i1 : ((k + 1 : Nat) : Int) - 1 = (k : Int) := by omega
        have i2 : (((k + 1 : Nat) : Int) == 0) = false := beq_eq_false_iff_ne.2 (by omega)
        have i3 : ((k : Int) + 1 == 0) = false := beq_eq_false_iff_ne.2 (by omega)
        have i4 : ((k : Int) + 1 = 0) = False := eq_false (by omega)
        have i5 : IntKind.i64.wrap (((k + 1 : Nat) : Int) - 1) = (k : Int) := by rw [IntWalk.i64_in _ (by omega)]; omega
        clear hcq hq
        cases D <;>
        (go_quiet (fail)
         go_wp2
         go_meet
         exact ⟨rfl, below_drewN (Below.refl _ _) _⟩)
    obtain ⟨rfl, hbc⟩ := hcut
    have hbc2 := HBB.out.trans (hbc.mono HBB.out.size)
    have e1' := (hbc.cell (p := ⟨bc, 1, none⟩) (cell_lt e1)).trans e1
    have HK2 : Hid (D = okP H s.n s.l (k + 1)) := Lib.hid (by rw [okP_step HX.out, ← HK.out]; exact HD.out.symm)
    clear e0 e1 d0 d1 d2 d3 hbc
    cases D with
    | true =>
      have hb : b = true := by have h := HD.out; cases b with | true => rfl | false => simp at h
      obtain ⟨hz1, hz2, hz3⟩ := HZ.out hb
      have hnew := sumRel_of (s := s) (k := k + 1) (by rw [HM.out]; exact HH.out) (by rw [HM.out]; omega) HK2.out rfl
      have hold := sumRel_of (s := s) (k := k) (by rw [HM.out]; exact HH.out) (by rw [HM.out]; omega) HK.out hb
      rw [sumN_take HX.out, ← hz1] at hnew
      have hw1 : IntKind.i64.wrap (z + x.n) = z + x.n := IntWalk.i64_in _ (by omega)
      have HZ2 : Hid (SumRel s.l (k + 1) true (z + x.n)) := Lib.hid (fun _ => by rw [sumN_take HX.out, ← hz1]; exact hnew)
      clear hz1 hnew hold
      go_wp2_with fail
      go_roundw
      case rel => exact ⟨k + 1, true, _, by omega, rfl, rfl, by go_num, HK2, HZ2, hbc2⟩
      case measure => simp [intOf]; omega
    | false =>
      have HZ2 : Hid (∀ z', SumRel s.l (k + 1) false z') := Lib.hid (fun z' h => by simp at h)
      go_wp2_with fail
      go_roundw
      case rel => exact ⟨k + 1, false, _, by omega, rfl, rfl, by go_num, HK2, Lib.hid (HZ2.out _), hbc2⟩
      case measure => simp [intOf]; omega

set_option maxHeartbeats 8000000 in
set_option maxRecDepth 100000 in
theorem hvfault_any (v : Value) (s : Hv) (w : World) (hv : HvV w v s) : Calls Try.prog 53 #[v] w fun e w' => e = .returned (.int .i64 (heavyF s)) ∧ Below w.heap.size w w' := by
  obtain ⟨t, rfl, hs⟩ := hv
  obtain ⟨ao, c, rfl, hnc, hc⟩ := hs.shape
  obtain ⟨m, hm⟩ : ∃ m, s.l.length = m := ⟨_, rfl⟩
  rw [hm] at hs hnc ⊢
  have HM := Lib.hid hm
  have HS := Lib.hid hs
  obtain ⟨H, hH⟩ : ∃ H, headH s.k m s.n s.off = H := ⟨_, rfl⟩
  have HH := Lib.hid hH
  clear hm hs
  go_enter Try.func53, Try.ntmps53
  go_upto_region 1 with (fail)
  obtain ⟨wA, hwA⟩ : ∃ wA, wA = w.alloc (Obj.cells #[.int .i64 s.k, .slice ao m c, .int .i64 s.n, .int .i64 s.off] 86) := ⟨_, rfl⟩
  have hbox : wA.heap[w.heap.size]? = some (.cells #[.int .i64 s.k, .slice ao m c, .int .i64 s.n, .int .i64 s.off] 86 (0, 0)) := by rw [hwA]; exact heap_alloc_new w _
  have hbA : Below w.heap.size w wA := by rw [hwA]; exact (Below.refl _ _).alloc (Nat.le_refl _) _
  rw [← hwA]
  have HBA := Lib.hid hbA
  have HSA := Lib.hid (HS.out.below ctR_mono hbA)
  have hszA := hbA.size
  obtain ⟨⟨d0, d1, d2, d3⟩, -⟩ := bx4 hbox
  obtain ⟨bx, hbx⟩ : ∃ bx, w.heap.size = bx := ⟨_, rfl⟩
  rw [hbx] at d0 d1 d2 d3 ⊢
  have HBD : Hid (∀ W, Below wA.heap.size wA W → W.cell? ⟨bx, 0, none⟩ = some (.int .i64 s.k) ∧ W.cell? ⟨bx, 1, none⟩ = some (.slice ao m c) ∧ W.cell? ⟨bx, 2, none⟩ = some (.int .i64 s.n) ∧ W.cell? ⟨bx, 3, none⟩ = some (.int .i64 s.off)) := Lib.hid (fun W h =>
    ⟨(h.cell (p := ⟨bx, 0, none⟩) (cell_lt d0)).trans d0, (h.cell (p := ⟨bx, 1, none⟩) (cell_lt d0)).trans d1, (h.cell (p := ⟨bx, 2, none⟩) (cell_lt d0)).trans d2, (h.cell (p := ⟨bx, 3, none⟩) (cell_lt d0)).trans d3⟩)
  clear hwA hbox hbA hbx
  go_cut [3] (fun t wx => t = .bool H ∧ wx = wA)
  case first =>
    unfold headH at hH
    by_cases h0 : 1 ≤ s.k
    case neg =>
      rw [decide_eq_false h0] at hH
      simp at hH
      subst hH
      go_wp2_with fail
      go_meet
      exact ⟨rfl, rfl⟩
    by_cases h1 : s.k ≤ 64
    case neg =>
      rw [decide_eq_true h0, decide_eq_false h1] at hH
      simp at hH
      subst hH
      go_wp2_with fail
      go_meet
      exact ⟨rfl, rfl⟩
    by_cases h2 : (m : Int) ≤ s.k
    case neg =>
      rw [decide_eq_true h0, decide_eq_true h1, decide_eq_false h2] at hH
      simp at hH
      subst hH
      go_wp2_with fail
      go_meet
      exact ⟨rfl, rfl⟩
    by_cases h3 : 0 ≤ s.n
    case neg =>
      rw [decide_eq_true h0, decide_eq_true h1, decide_eq_true h2, decide_eq_false h3] at hH
      simp at hH
      subst hH
      go_wp2_with fail
      go_meet
      exact ⟨rfl, rfl⟩
    by_cases h4 : s.n ≤ 1000000000
    case neg =>
      rw [decide_eq_true h0, decide_eq_true h1, decide_eq_true h2, decide_eq_true h3, decide_eq_false h4] at hH
      simp at hH
      subst hH
      go_wp2_with fail
      go_meet
      exact ⟨rfl, rfl⟩
    by_cases h5 : 0 ≤ s.off
    case neg =>
      rw [decide_eq_true h0, decide_eq_true h1, decide_eq_true h2, decide_eq_true h3, decide_eq_true h4, decide_eq_false h5] at hH
      simp at hH
      subst hH
      go_wp2_with fail
      go_meet
      exact ⟨rfl, rfl⟩
    by_cases h6 : s.off ≤ s.n
    case neg =>
      rw [decide_eq_true h0, decide_eq_true h1, decide_eq_true h2, decide_eq_true h3, decide_eq_true h4, decide_eq_true h5, decide_eq_false h6] at hH
      simp at hH
      subst hH
      go_wp2_with fail
      go_meet
      exact ⟨rfl, rfl⟩
    rw [decide_eq_true h0, decide_eq_true h1, decide_eq_true h2, decide_eq_true h3, decide_eq_true h4, decide_eq_true h5, decide_eq_true h6] at hH
    simp at hH
    subst hH
    go_wp2_with fail
    go_meet
    exact ⟨rfl, rfl⟩
  obtain ⟨rfl, hwc⟩ := hcut
  subst hwc
  obtain ⟨wA, rfl⟩ : ∃ x : World, x = wc := ⟨_, rfl⟩
  clear hH
  go_wp2_with fail
  go_loopw [3, 4, 50] (fun q r i wr => ∃ (k : Nat) (b : Bool) (z : Int), k ≤ m ∧ q = .bool b ∧ r = .int .i64 z ∧ i = .int .i64 k ∧ Hid ((b, z) = okR H s.n s.l k) ∧ Below wA.heap.size wA wr) (fun _ _ i _ => m - (intOf i).toNat)
  case atStart => exact ⟨0, H, s.n, by omega, rfl, rfl, rfl, Lib.hid rfl, Below.refl _ _⟩
  case round =>
    obtain ⟨k, b, z, hk, rfl, rfl, rfl, HK, hbel⟩ := hrel
    have hsz := hbel.size
    have HBR := Lib.hid (HBA.out.trans (hbel.mono HBA.out.size))
    have hIF := okR_iff (h := H) (N := s.n) (l := s.l) (fun e => (headH_ok.1 (HH.out.trans e)).2.2.2.1) k (by rw [HM.out]; exact hk)
    rw [← HK.out] at hIF
    have HIF := Lib.hid hIF
    have HZB : Hid (b = true → 0 ≤ z ∧ z ≤ 1000000000) := Lib.hid (fun h => by
      have h1 := hIF.1.1 h
      have h2 := hIF.2 h
      have h3 := headH_ok.1 (HH.out.trans h1.1)
      have h4 := (sumN_pos k (by rw [HM.out]; exact hk) h1.2.1).1
      dsimp only at h2
      omega)
    clear hIF
    by_cases hlt : k < m
    case neg =>
      obtain rfl : k = m := by omega
      clear d0 d1 d2 d3
      obtain ⟨d0, d1, d2, d3⟩ := HBD.out wr hbel
      have hPP := heavyR_eq (s := s)
      rw [HM.out, HH.out, ← HK.out] at hPP
      dsimp only at hPP
      cases b with
      | false =>
        have HF : Hid (heavyF s = 4) := Lib.hid (by unfold heavyF; rw [if_neg (fun h => by have := (hPP.1 h).1; simp at this)])
        clear hPP
        go_wp2_with fail
        go_ret
        exact ⟨by rw [HF.out]; rfl, HBR.out⟩
      | true =>
        have h2 := (HIF.out.1.1 rfl).1
        have h3 := headH_ok.1 (HH.out.trans h2)
        obtain ⟨hz2, hz3⟩ := HZB.out rfl
        obtain ⟨hq1, hq2⟩ := mul_bd h3.1 h3.2.1 h3.2.2.2.2.2.1 (by omega)
        rw [Int.mul_comm] at hq1 hq2
        have hw1 : IntKind.i64.wrap (s.k + 1) = s.k + 1 := IntWalk.i64_in _ (by omega)
        have hw2 : IntKind.i64.wrap (s.off * (s.k + 1)) = s.off * (s.k + 1) := IntWalk.i64_in _ (by omega)
        by_cases hgt : z < s.off * (s.k + 1)
        · have HF : Hid (heavyF s = 4) := Lib.hid (by unfold heavyF; rw [if_neg (fun h => by have := (hPP.1 h).2; omega)])
          clear hPP hz2 hz3 h3 h2 hq1 hq2
          go_wp2_with fail
          go_ret
          exact ⟨by rw [HF.out]; rfl, HBR.out⟩
        · have HF : Hid (heavyF s = 0) := Lib.hid (by unfold heavyF; rw [if_pos (hPP.2 ⟨rfl, by omega⟩)])
          clear hPP hz2 hz3 h3 h2 hq1 hq2
          go_wp2_with fail
          go_ret
          exact ⟨by rw [HF.out]; rfl, HBR.out⟩
    obtain ⟨x, hx⟩ : ∃ x, s.l[k]? = some x := ⟨_, List.getElem?_eq_getElem (by rw [HM.out]; exact hlt)⟩
    have HSR := Lib.hid (HSA.out.below ctR_mono hbel)
    obtain ⟨b0, off, cs, rfl, rfl, _, hck⟩ := HSR.out.get hx
    have c0 := hck 0 _ rfl
    have c1 := hck 1 _ rfl
    rw [Nat.add_zero] at c0
    have HX := Lib.hid hx
    clear hck hx d0 d1 d2 d3
    go_upto_region 6 with (fail)
    obtain ⟨wB, hwB⟩ : ∃ wB, wB = wr.alloc (Obj.cells #[.string x.ky, .int .i64 x.n] 175) := ⟨_, rfl⟩
    have hbox : wB.heap[wr.heap.size]? = some (.cells #[.string x.ky, .int .i64 x.n] 175 (0, 0)) := by rw [hwB]; exact heap_alloc_new wr _
    have hbB : Below wr.heap.size wr wB := by rw [hwB]; exact (Below.refl _ _).alloc (Nat.le_refl _) _
    rw [← hwB]
    have HBB := Lib.hid (hbel.trans (hbB.mono hsz))
    have HSB := Lib.hid (HSR.out.below ctR_mono hbB)
    obtain ⟨⟨e0, e1⟩, -⟩ := bx2 hbox
    obtain ⟨d0, d1, d2, d3⟩ := HBD.out wB HBB.out
    generalize wr.heap.size = bc at *
    clear hwB hbox hbB c0 c1
    obtain ⟨D, hD⟩ : ∃ D, (b && (oneOk s.l k x && decide (x.n ≤ z))) = D := ⟨_, rfl⟩
    have HD := Lib.hid hD
    go_cut [3] (fun t wx => t = .bool D ∧ Below wB.heap.size wB wx)
    case first =>
      unfold oneOk at hD
      cases b with
      | false =>
        simp only [Bool.false_and] at hD
        subst hD
        go_quiet (fail)
        go_wp2
        go_meet
        exact ⟨rfl, below_drewN (Below.refl _ _) _⟩
      | true =>
        rw [Bool.true_and] at hD
        by_cases g1 : (x.ky.size : Int) ≤ 40
        case neg =>
          rw [decide_eq_false (p := x.ky.size ≤ 40) (by omega)] at hD
          simp only [Bool.false_and] at hD
          subst hD
          go_quiet (fail)
          go_wp2
          go_meet
          exact ⟨rfl, below_drewN (Below.refl _ _) _⟩
        rw [decide_eq_true (p := x.ky.size ≤ 40) (by omega), Bool.true_and] at hD
        by_cases g2 : 0 < x.n
        case neg =>
          rw [decide_eq_false g2] at hD
          simp only [Bool.false_and] at hD
          subst hD
          go_quiet (fail)
          go_wp2
          go_meet
          exact ⟨rfl, below_drewN (Below.refl _ _) _⟩
        rw [decide_eq_true g2, Bool.true_and] at hD
        by_cases g3 : x.n ≤ z
        case neg =>
          rw [decide_eq_false g3, Bool.and_false] at hD
          subst hD
          rcases Nat.eq_zero_or_pos k with rfl | hkp
          · go_quiet (fail)
            go_wp2
            go_meet
            exact ⟨rfl, below_drewN (Below.refl _ _) _⟩
          obtain ⟨k, rfl⟩ : ∃ i, k = i + 1 := ⟨k - 1, by omega⟩
          obtain ⟨q, hq⟩ : ∃ q, s.l[k]? = some q := ⟨_, List.getElem?_eq_getElem (by rw [HM.out]; omega)⟩
          obtain ⟨b2, off2, cs2, e2, rfl, _, hcq⟩ := HSB.out.get hq
          simp only [Option.some.injEq, Addr.mk.injEq, and_true] at e2
          obtain ⟨rfl, rfl⟩ := e2
          have q0 := hcq 0 _ rfl
          rw [Nat.add_zero] at q0
          generalize q.ky = qn at *
          generalize hb1 : Op.bytesLess qn.toList x.ky.toList = b1 at *
          have i1 : ((k + 1 : Nat) : Int) - 1 = (k : Int) := by omega
          have i2 : (((k + 1 : Nat) : Int) == 0) = false := beq_eq_false_iff_ne.2 (by omega)
          have i3 : ((k : Int) + 1 == 0) = false := beq_eq_false_iff_ne.2 (by omega)
          have i4 : ((k : Int) + 1 = 0) = False := eq_false (by omega)
          have i5 : IntKind.i64.wrap (((k + 1 : Nat) : Int) - 1) = (k : Int) := by rw [IntWalk.i64_in _ (by omega)]; omega
          clear hcq hq
          cases b1 <;>
          (go_quiet (fail)
           go_wp2
           go_meet
           exact ⟨rfl, below_drewN (Below.refl _ _) _⟩)
        rw [decide_eq_true g3, Bool.and_true] at hD
        rcases Nat.eq_zero_or_pos k with rfl | hkp
        · unfold preB at hD
          subst hD
          go_quiet (fail)
          go_wp2
          go_meet
          exact ⟨rfl, below_drewN (Below.refl _ _) _⟩
        obtain ⟨k, rfl⟩ : ∃ i, k = i + 1 := ⟨k - 1, by omega⟩
        obtain ⟨q, hq⟩ : ∃ q, s.l[k]? = some q := ⟨_, List.getElem?_eq_getElem (by rw [HM.out]; omega)⟩
        obtain ⟨b2, off2, cs2, e2, rfl, _, hcq⟩ := HSB.out.get hq
        simp only [Option.some.injEq, Addr.mk.injEq, and_true] at e2
        obtain ⟨rfl, rfl⟩ := e2
        have q0 := hcq 0 _ rfl
        rw [Nat.add_zero] at q0
        rw [preB_succ hq] at hD
        generalize q.ky = qn at *
        have i1 : ((k + 1 : Nat) : Int) - 1 = (k : Int) := by omega
        have i2 : (((k + 1 : Nat) : Int) == 0) = false := beq_eq_false_iff_ne.2 (by omega)
        have i3 : ((k : Int) + 1 == 0) = false := beq_eq_false_iff_ne.2 (by omega)
        have i4 : ((k : Int) + 1 = 0) = False := eq_false (by omega)
        have i5 : IntKind.i64.wrap (((k + 1 : Nat) : Int) - 1) = (k : Int) := by rw [IntWalk.i64_in _ (by omega)]; omega
        clear hcq hq
        cases D <;>
        (go_quiet (fail)
         go_wp2
         go_meet
         exact ⟨rfl, below_drewN (Below.refl _ _) _⟩)
    obtain ⟨rfl, hbc⟩ := hcut
    have hbc2 := HBB.out.trans (hbc.mono HBB.out.size)
    have e1' := (hbc.cell (p := ⟨bc, 1, none⟩) (cell_lt e1)).trans e1
    have HST : Hid (okR H s.n s.l (k + 1) = if D = true then (true, z - x.n) else (false, z)) := Lib.hid (by rw [okR_step HX.out, ← HK.out]; dsimp only; rw [HD.out])
    clear e0 e1 d0 d1 d2 d3 hbc
    cases D with
    | true =>
      have hb : b = true := by have h := HD.out; cases b with | true => rfl | false => simp at h
      have hx1 : 0 < x.n ∧ x.n ≤ z := by
        have h := HD.out
        simp only [Bool.and_eq_true, decide_eq_true_eq] at h
        exact ⟨(oneOk_pos h.2.1).2.1, h.2.2⟩
      obtain ⟨hz2, hz3⟩ := HZB.out hb
      have hw1 : IntKind.i64.wrap (z - x.n) = z - x.n := IntWalk.i64_in _ (by omega)
      have HK2 : Hid ((true, z - x.n) = okR H s.n s.l (k + 1)) := Lib.hid (by rw [HST.out]; rfl)
      clear hb
      go_wp2_with fail
      go_roundw
      case rel => exact ⟨k + 1, true, _, by omega, rfl, rfl, by go_num, HK2, hbc2⟩
      case measure => simp [intOf]; omega
    | false =>
      have HK2 : Hid ((false, z) = okR H s.n s.l (k + 1)) := Lib.hid (by rw [HST.out]; rfl)
      go_wp2_with fail
      go_roundw
      case rel => exact ⟨k + 1, false, _, by omega, rfl, rfl, by go_num, HK2, hbc2⟩
      case measure => simp [intOf]; omega

end Go.Proofs.Ytcljeedmiobepaa.Hv
/-
  Tallies of what is heavy: the walks of find and of slices.Clone.
-/
namespace Go.Proofs.Ytcljeedmiobepaa.Hv
open Go.RowKit Go.Gh
set_option linter.unusedVariables false
def cmpZ (x y : Int) : Int := if x < y then -1 else if y < x then 1 else 0
theorem nan_str (x : ByteArray) (w : World) : Calls Try.prog 202 #[.string x] w fun e w' => e = .returned (.bool false) ∧ w = w' := by
  have h : (x.toList != x.toList) = false := by simp
  go_enter Try.func202, Try.ntmps202
  go_wp2
  go_ret
  exact ⟨rfl, rfl⟩
theorem cmp_str (x y : ByteArray) (w : World) (hx : x.size ≤ 40) (hy : y.size ≤ 40) : Calls Try.prog 166 #[.string x, .string y] w fun e w' => e = .returned (.int .i64 (cmpZ (kH x) (kH y))) ∧ w = w' := by
  have h1 := kH_less hx hy
  have h2 := kH_less hy hx
  have h3 := kH_same hx hy
  obtain ⟨C, hC⟩ : ∃ C, cmpZ (kH x) (kH y) = C := ⟨_, rfl⟩
  rw [hC]
  unfold cmpZ at hC
  generalize hb1 : Op.bytesLess x.toList y.toList = B1 at *
  generalize hb2 : Op.bytesLess y.toList x.toList = B2 at *
  generalize hb3 : (x.toList == y.toList) = B3 at *
  go_enter Try.func166, Try.ntmps166
  rcases Int.lt_trichotomy (kH x) (kH y) with h | h | h
  · rw [if_pos h] at hC
    subst hC
    obtain rfl : B1 = true := by rw [h1]; exact decide_eq_true h
    clear h1 h2 h3 h
    go_wp2_with (go_at_call 202; refine (nan_str _ _).mono ?_; rintro e w' ⟨rfl, rfl⟩)
    go_ret
    exact ⟨rfl, rfl⟩
  · rw [if_neg (by omega), if_neg (by omega)] at hC
    subst hC
    obtain rfl : B1 = false := by rw [h1]; exact decide_eq_false (by omega)
    obtain rfl : B2 = false := by rw [h2]; exact decide_eq_false (by omega)
    obtain rfl : B3 = true := by rw [h3]; exact decide_eq_true h
    clear h1 h2 h3 h
    go_wp2_with (go_at_call 202; refine (nan_str _ _).mono ?_; rintro e w' ⟨rfl, rfl⟩)
    go_ret
    exact ⟨rfl, rfl⟩
  · rw [if_neg (by omega), if_pos h] at hC
    subst hC
    obtain rfl : B1 = false := by rw [h1]; exact decide_eq_false (by omega)
    obtain rfl : B2 = true := by rw [h2]; exact decide_eq_true h
    obtain rfl : B3 = false := by rw [h3]; exact decide_eq_false (by omega)
    clear h1 h2 h3 h
    go_wp2_with (go_at_call 202; refine (nan_str _ _).mono ?_; rintro e w' ⟨rfl, rfl⟩)
    go_ret
    exact ⟨rfl, rfl⟩
theorem find1_any (x : Ct) (key : ByteArray) (w : World) (hx : x.ky.size ≤ 40) (hk : key.size ≤ 40) : Calls Try.prog 165 #[.agg #[.string x.ky, .int .i64 x.n], .string key] w fun e w' => e = .returned (.int .i64 (cmpZ (kH x.ky) (kH key))) ∧ Below w.heap.size w w' := by
  have hb := (Below.refl w.heap.size w).alloc (Nat.le_refl _) (Obj.cells #[.string x.ky, .int .i64 x.n] 175)
  go_enter Try.func165, Try.ntmps165
  go_wp2_with (go_at_call 166; refine (cmp_str _ _ _ hx hk).mono ?_; rintro e w' ⟨rfl, rfl⟩)
  go_ret
  exact ⟨rfl, hb⟩
set_option maxHeartbeats 4000000 in
set_option maxRecDepth 100000 in
theorem bsf_any (v : Value) (key : ByteArray) (L : List Ct) (w : World) (hs : Sp CtR 2 w v L) (hr : Ris L) (hk40 : key.size ≤ 40) (hn : L.length ≤ 1000000) :
    Calls Try.prog 164 #[v, .string key, .func (.func 165) #[] #[]] w fun e w' => ∃ i : Nat, e = .returned (.tuple #[.int .i64 i, .bool (hitB L key i)]) ∧ AtH L key i ∧ Below w.heap.size w w' := by
  obtain ⟨ao, c, rfl, hnc, hc⟩ := hs.shape
  obtain ⟨n, hm⟩ : ∃ m, L.length = m := ⟨_, rfl⟩
  rw [hm] at hs hnc hn ⊢
  have HM := Lib.hid hm
  have HS := Lib.hid hs
  have HR := Lib.hid hr
  clear hm hs hr
  go_enter Try.func164, Try.ntmps164
  go_wp2_with fail
  go_loopg [9, 10] n (fun kx s5 s6 wr => ∃ (lo hi : Nat), s5 = .int .i64 lo ∧ s6 = .int .i64 hi ∧ lo ≤ hi ∧ hi ≤ n ∧ hi - lo ≤ kx ∧ Below w.heap.size w wr ∧
    Hid ((∀ (j : Nat) (x : Ct), j < lo → L[j]? = some x → kH x.ky < kH key) ∧ (∀ (j : Nat) (x : Ct), hi ≤ j → L[j]? = some x → kH key ≤ kH x.ky)))
  case atStart => exact ⟨0, n, rfl, rfl, Nat.zero_le _, Nat.le_refl _, by omega, Below.refl _ _, Lib.hid ⟨fun j x hj => absurd hj (Nat.not_lt_zero _), fun j x h1 h2 => by have := (List.getElem?_eq_some_iff.1 h2).1; have := HM.out; omega⟩⟩
  case round =>
    obtain ⟨lo, hi, rfl, rfl, hlh, hin, hg, hbr, I⟩ := hrel
    by_cases hlt : lo < hi
    · obtain ⟨x, hx⟩ : ∃ x, L[(lo + hi) / 2]? = some x := ⟨_, List.getElem?_eq_getElem (by rw [HM.out]; omega)⟩
      obtain ⟨b, off, cs, rfl, rfl, _, hck⟩ := (HS.out.below ctR_mono hbr).get hx
      have c0 := hck 0 _ rfl
      have c1 := hck 1 _ rfl
      rw [Nat.add_zero] at c0
      obtain ⟨M, hM⟩ : ∃ M, (lo + hi) / 2 = M := ⟨_, rfl⟩
      have hMi : ((lo : Int) + (hi : Int)) / 2 = (M : Int) := by omega
      rw [hM] at hx c0 c1
      have HX := Lib.hid hx
      have hx40 := (HR.out.1 x (List.mem_of_getElem? hx)).1
      clear hck hx
      by_cases hlk : kH x.ky < kH key
      · have hcz : cmpZ (kH x.ky) (kH key) = -1 := if_pos hlk
        have HCZ := Lib.hid hcz
        clear hcz
        go_wp2_with fail
        refine (find1_any x key _ hx40 hk40).mono ?_
        rw [HCZ.out]
        rintro e w' ⟨rfl, hb'⟩
        go_wp2_with fail
        go_roundg (hi - (M + 1))
        case measure => omega
        case rel =>
          have I2 : Hid ((∀ (j : Nat) (y : Ct), j < M + 1 → L[j]? = some y → kH y.ky < kH key) ∧ (∀ (j : Nat) (y : Ct), hi ≤ j → L[j]? = some y → kH key ≤ kH y.ky)) := Lib.hid ⟨fun j y hj hy => (by
            rcases Nat.lt_or_ge j M with h | h
            · have := ris_lt HR.out h hy HX.out
              omega
            · obtain rfl : j = M := by omega
              have := HX.out
              rw [this] at hy
              obtain rfl := Option.some.inj hy
              exact hlk), I.out.2⟩
          exact ⟨M + 1, hi, by go_num, rfl, by omega, hin, Nat.le_refl _, hbr.trans (hb'.mono hbr.size), I2⟩
      · have hcz : ¬ cmpZ (kH x.ky) (kH key) < 0 := by unfold cmpZ; rw [if_neg hlk]; split <;> omega
        obtain ⟨C, hC⟩ : ∃ C, cmpZ (kH x.ky) (kH key) = C := ⟨_, rfl⟩
        rw [hC] at hcz
        have HCZ := Lib.hid hC
        clear hC
        go_wp2_with fail
        refine (find1_any x key _ hx40 hk40).mono ?_
        rw [HCZ.out]
        rintro e w' ⟨rfl, hb'⟩
        go_wp2_with fail
        go_roundg (M - lo)
        case measure => omega
        case rel =>
          have I2 : Hid ((∀ (j : Nat) (y : Ct), j < lo → L[j]? = some y → kH y.ky < kH key) ∧ (∀ (j : Nat) (y : Ct), M ≤ j → L[j]? = some y → kH key ≤ kH y.ky)) := Lib.hid ⟨I.out.1, fun j y hj hy => (by
            rcases Nat.lt_or_ge M j with h | h
            · have := ris_lt HR.out h HX.out hy
              omega
            · obtain rfl : j = M := by omega
              have := HX.out
              rw [this] at hy
              obtain rfl := Option.some.inj hy
              omega)⟩
          exact ⟨lo, M, rfl, by go_num, by omega, by omega, Nat.le_refl _, hbr.trans (hb'.mono hbr.size), I2⟩
    · obtain rfl : hi = lo := by omega
      have HAT : Hid (AtH L key hi) := Lib.hid ⟨by rw [HM.out]; exact hin, I.out.1, I.out.2⟩
      by_cases hend : hi < n
      · obtain ⟨x, hx⟩ : ∃ x, L[hi]? = some x := ⟨_, List.getElem?_eq_getElem (by rw [HM.out]; exact hend)⟩
        obtain ⟨b, off, cs, rfl, rfl, _, hck⟩ := (HS.out.below ctR_mono hbr).get hx
        have c0 := hck 0 _ rfl
        have c1 := hck 1 _ rfl
        rw [Nat.add_zero] at c0
        have hx40 := (HR.out.1 x (List.mem_of_getElem? hx)).1
        have HH : Hid (hitB L key hi = decide (kH x.ky = kH key)) := Lib.hid (hitB_some hx)
        obtain ⟨C, hC⟩ : ∃ C, cmpZ (kH x.ky) (kH key) = C := ⟨_, rfl⟩
        have HC := Lib.hid hC
        have hcz : (C == 0) = decide (kH x.ky = kH key) := by
          rw [← hC]
          unfold cmpZ
          rcases Int.lt_trichotomy (kH x.ky) (kH key) with h | h | h
          · rw [if_pos h, decide_eq_false (by omega)]; rfl
          · rw [if_neg (by omega), if_neg (by omega), decide_eq_true h]; rfl
          · rw [if_neg (by omega), if_pos h, decide_eq_false (by omega)]; rfl
        generalize decide (kH x.ky = kH key) = D at *
        clear hck hx hC
        go_wp2_with fail
        refine (find1_any x key _ hx40 hk40).mono ?_
        rw [HC.out]
        rintro e w' ⟨rfl, hb'⟩
        go_wp2_with fail
        go_ret2
        exact ⟨hi, by rw [HH.out]; rfl, HAT.out, hbr.trans (hb'.mono hbr.size)⟩
      · have HH : Hid (hitB L key hi = false) := Lib.hid (hitB_none (by rw [HM.out]; omega))
        go_wp2_with fail
        go_ret2
        exact ⟨hi, by rw [HH.out]; rfl, HAT.out, hbr⟩
end Go.Proofs.Ytcljeedmiobepaa.Hv
/-
  The ring: the comparison of places.
-/
namespace Go.Proofs.Ytcljeedmiobepaa.Rng
open Go.RowKit Go.Gh Go.Proofs.Ytcljeedmiobepaa.Nod
set_option linter.unusedVariables false
/-- The first of two that is not 0. -/
def or2 (a b : Int) : Int := if a ≠ 0 then a else b
theorem or2_any (b : Nat) (x y : Int) (w : World) (c0 : w.cell? ⟨b, 0, none⟩ = some (.int .i64 x)) (c1 : w.cell? ⟨b, 1, none⟩ = some (.int .i64 y)) :
    Calls Try.prog 103 #[.slice (some ⟨b, 0, none⟩) 2 2] w fun e w' => e = .returned (.int .i64 (or2 x y)) ∧ w = w' := by
  obtain ⟨C, hC⟩ : ∃ C, or2 x y = C := ⟨_, rfl⟩
  rw [hC]
  unfold or2 at hC
  have HC := Lib.hid hC
  clear hC
  go_enter Try.func103, Try.ntmps103
  go_wp2
  go_loop [8] (fun i => ∃ k : Int, (k = 0 ∨ k = 1 ∨ k = 2) ∧ i = .int .i64 k ∧ Hid ((1 ≤ k → x = 0) ∧ (2 ≤ k → y = 0))) (fun i => 2 - (intOf i).toNat)
  case atStart => exact ⟨0, Or.inl rfl, rfl, Lib.hid ⟨fun h => by omega, fun h => by omega⟩⟩
  case round =>
    obtain ⟨k, hk, rfl, HK⟩ := hrel
    obtain ⟨k1, k2⟩ := HK.out
    have HC1 := HC.out
    rcases hk with rfl | rfl | rfl
    · clear k1 k2
      by_cases hx : x = 0
      · have t1 : (x != 0) = false := by rw [hx]; rfl
        have HK2 : Hid ((1 ≤ (1 : Int) → x = 0) ∧ (2 ≤ (1 : Int) → y = 0)) := Lib.hid ⟨fun _ => hx, fun h => by omega⟩
        clear hx HC1
        go_wp2
        go_round
        case rel => exact ⟨1, Or.inr (Or.inl rfl), rfl, HK2⟩
        case measure => simp [intOf]
      · have t1 : (x != 0) = true := by rw [bne_iff_ne]; exact hx
        have h1 : C = x := by rw [← HC1, if_pos hx]
        clear hx HC1
        subst h1
        go_wp2
        go_ret
        exact ⟨rfl, rfl⟩
    · have hx := k1 (by omega)
      clear k1 k2
      by_cases hy : y = 0
      · have t1 : (y != 0) = false := by rw [hy]; rfl
        have HK2 : Hid ((1 ≤ (2 : Int) → x = 0) ∧ (2 ≤ (2 : Int) → y = 0)) := Lib.hid ⟨fun _ => hx, fun h => hy⟩
        clear hx hy HC1
        go_wp2
        go_round
        case rel => exact ⟨2, Or.inr (Or.inr rfl), rfl, HK2⟩
        case measure => simp [intOf]
      · have t1 : (y != 0) = true := by rw [bne_iff_ne]; exact hy
        have h1 : C = y := by rw [← HC1, if_neg (by simpa using hx)]
        clear hx hy HC1
        subst h1
        go_wp2
        go_ret
        exact ⟨rfl, rfl⟩
    · have hx := k1 (by omega)
      have hy := k2 (by omega)
      have h1 : C = 0 := by rw [← HC1, if_neg (by simpa using hx), hy]
      clear k1 k2 HC1 hx hy
      subst h1
      go_wp2
      go_ret
      exact ⟨rfl, rfl⟩
/-- How two places compare. -/
def cmpPl (a b : Pl) : Int := or2 (cmpI a.t b.t) (Hv.cmpZ (kH a.nm) (kH b.nm))
set_option maxHeartbeats 4000000 in
set_option maxRecDepth 100000 in
theorem placescmp_any (a b : Pl) (w : World) (ha : a.nm.size ≤ 40) (hb : b.nm.size ≤ 40) : Calls Try.prog 171 #[.agg #[.int .u64 a.t, .string a.nm], .agg #[.int .u64 b.t, .string b.nm]] w fun e w' => e = .returned (.int .i64 (cmpPl a b)) ∧ Below w.heap.size w w' := by
  obtain ⟨x, s⟩ := a
  obtain ⟨y, t⟩ := b
  dsimp only at ha hb
  unfold cmpPl
  dsimp only
  obtain ⟨C1, hC1⟩ : ∃ C, cmpI x y = C := ⟨_, rfl⟩
  obtain ⟨C2, hC2⟩ : ∃ C, Hv.cmpZ (kH s) (kH t) = C := ⟨_, rfl⟩
  rw [hC1, hC2]
  have HC1 := Lib.hid hC1
  have HC2 := Lib.hid hC2
  obtain ⟨R, hR⟩ : ∃ R, or2 C1 C2 = R := ⟨_, rfl⟩
  rw [hR]
  have HR := Lib.hid hR
  clear hC1 hC2 hR
  go_enter Try.func171, Try.ntmps171
  go_upto_region 1 with (fail)
  obtain ⟨wA, hwA⟩ : ∃ wA, wA = (w.alloc (Obj.cells #[.int .u64 x, .string s] 186)).alloc (Obj.cells #[.int .u64 y, .string t] 186) := ⟨_, rfl⟩
  have hb1 : wA.heap[w.heap.size]? = some (.cells #[.int .u64 x, .string s] 186 (0, 0)) := by rw [hwA]; exact two_first w _ _
  have hb2 : wA.heap[w.heap.size + 1]? = some (.cells #[.int .u64 y, .string t] 186 (0, 0)) := by rw [hwA]; exact two_second w _ _
  have hBA : Below w.heap.size w wA := by rw [hwA]; exact ((Below.refl _ _).alloc (Nat.le_refl _) _).alloc (by simp) _
  rw [← hwA]
  have a0 := (row_cell 0 _ hb1 rfl).1
  have a1 := (row_cell 1 _ hb1 rfl).1
  have b0 := (row_cell 0 _ hb2 rfl).1
  have b1 := (row_cell 1 _ hb2 rfl).1
  have HBA := Lib.hid hBA
  have hsz := hBA.size
  clear hwA hBA hb1 hb2
  generalize hbx : w.heap.size = bx at *
  have HBX := Lib.hid hbx
  clear hbx
  go_region_held3 (fun w' => w'.cell? ⟨bx, 0, none⟩ = some (.int .u64 x) ∧ w'.cell? ⟨bx, 1, none⟩ = some (.string s) ∧ w'.cell? ⟨bx + 1, 0, none⟩ = some (.int .u64 y) ∧ w'.cell? ⟨bx + 1, 1, none⟩ = some (.string t)) (first | (with_reducible exact ⟨a0, a1, b0, b1⟩) | go_keep) (first
    | (go_at_call 159; refine (cmp_u64 _ _ _).mono ?_; rw [HC1.out]; rintro e w2 ⟨rfl, rfl⟩)
    | (go_at_call 166; refine (Hv.cmp_str _ _ _ ha hb).mono ?_; rw [HC2.out]; rintro e w2 ⟨rfl, rfl⟩)
    | (go_at_call 103; refine (or2_any _ C1 C2 _ (by exact cell_new wA _ [_, _] 0 _ rfl) (by exact cell_new wA _ [_, _] 1 _ rfl)).mono ?_; rw [HR.out]; rintro e w2 ⟨rfl, rfl⟩))
  all_goals
    go_wp2_with fail
    go_ret
    exact ⟨rfl, by rw [HBX.out]; exact (HBA.out.alloc hsz _).drew⟩
end Go.Proofs.Ytcljeedmiobepaa.Rng
/-
  The ring: cmp.Compare at whatever strings.
-/
namespace Go.Proofs.Ytcljeedmiobepaa.Rng
open Go.RowKit Go.Gh Go.Proofs.Ytcljeedmiobepaa.Nod
set_option linter.unusedVariables false
def cmpB (a b : ByteArray) : Int := if Op.bytesLess a.toList b.toList then -1 else if a.toList == b.toList then 0 else 1
theorem cmpB_any (x y : ByteArray) (w : World) : Calls Try.prog 166 #[.string x, .string y] w fun e w' => e = .returned (.int .i64 (cmpB x y)) ∧ w = w' := by
  unfold cmpB
  obtain ⟨B2, h2⟩ : ∃ b, Op.bytesLess x.toList y.toList = b := ⟨_, rfl⟩
  obtain ⟨B3, h3⟩ : ∃ b, (x.toList == y.toList) = b := ⟨_, rfl⟩
  rw [h2, h3]
  go_enter Try.func166, Try.ntmps166
  cases B2 with
  | true =>
    go_wp2_with (go_at_call 202; refine (Hv.nan_str _ _).mono ?_; rintro e w' ⟨rfl, rfl⟩)
    go_ret
    exact ⟨rfl, rfl⟩
  | false =>
    cases B3 with
    | true =>
      go_wp2_with (go_at_call 202; refine (Hv.nan_str _ _).mono ?_; rintro e w' ⟨rfl, rfl⟩)
      go_ret
      exact ⟨rfl, rfl⟩
    | false =>
      go_wp2_with (go_at_call 202; refine (Hv.nan_str _ _).mono ?_; rintro e w' ⟨rfl, rfl⟩)
      go_ret
      exact ⟨rfl, rfl⟩
end Go.Proofs.Ytcljeedmiobepaa.Rng
