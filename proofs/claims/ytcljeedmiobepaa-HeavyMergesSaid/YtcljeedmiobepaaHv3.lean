/-
  Tallies of what is heavy: the walks of Check and HeavyFault.
-/
import Derived.Test.YtcljeedmiobepaaHv2
import Derived.BigQuiet
namespace Go.Proofs.Ytcljeedmiobepaa.Hv
open Go.RowKit Go.Gh
set_option linter.unusedVariables false
theorem sumN_bd {N : Int} {L : List Ct} (hN : N ≤ 1000000000) : ∀ k, k ≤ L.length → (∀ (i : Nat) (x : Ct), i < k → L[i]? = some x → 0 < x.n ∧ x.n ≤ N) → 0 ≤ sumN (L.take k) ∧ sumN (L.take k) ≤ (k : Int) * 1000000000
  | 0, _, _ => by simp [sumN]
  | k + 1, hk, h => by
    obtain ⟨x, hx⟩ : ∃ x, L[k]? = some x := ⟨_, List.getElem?_eq_getElem (by omega)⟩
    have ih := sumN_bd (L := L) hN k (by omega) (fun i y hi => h i y (by omega))
    have := h k x (by omega) hx
    rw [sumN_take hx]
    omega
def SumRel (L : List Ct) (k : Nat) (b : Bool) (z : Int) : Prop := b = true → z = sumN (L.take k) ∧ 0 ≤ z ∧ z ≤ 64000000000
theorem sumRel_of {H : Bool} {s : Hv} {k : Nat} {b : Bool} (hH : headH s.k s.l.length s.n s.off = H) (hk : k ≤ s.l.length) (hb : b = okP H s.n s.l k) : SumRel s.l k b (sumN (s.l.take k)) := by
  intro h1
  rw [hb, okP_iff k hk] at h1
  obtain ⟨h2, h3, h4⟩ := h1
  rw [← hH] at h2
  have h5 := headH_ok.1 h2
  have := sumN_bd (L := s.l) h5.2.2.2.2.1 k hk (fun i x hi hx => ⟨(oneOk_pos (h3 i x hi hx)).2.1, h4 i x hi hx⟩)
  exact ⟨rfl, by omega, by omega⟩
theorem mul_bd {K off : Int} (h1 : 1 ≤ K) (h2 : K ≤ 64) (h3 : 0 ≤ off) (h4 : off ≤ 1000000000) : 0 ≤ (K + 1) * off ∧ (K + 1) * off ≤ 65000000000 := by
  have h5 := mul_nn h1 h3
  have h6 : (K + 1) * off ≤ 65 * off := Int.mul_le_mul_of_nonneg_right (by omega) h3
  omega
set_option maxHeartbeats 8000000 in
set_option maxRecDepth 100000 in
theorem hvcheck_any (v : Value) (s : Hv) (w : World) (hv : HvV w v s) : Calls Try.prog 54 #[v] w fun e w' => e = .returned (.int .i64 (heavyF s)) ∧ Below w.heap.size w w' := by
  obtain ⟨t, rfl, hs⟩ := hv
  obtain ⟨ao, c, rfl, hnc, hc⟩ := hs.shape
  obtain ⟨m, hm⟩ : ∃ m, s.l.length = m := ⟨_, rfl⟩
  rw [hm] at hs hnc ⊢
  have HM := Lib.hid hm
  have HS := Lib.hid hs
  obtain ⟨H, hH⟩ : ∃ H, headH s.k m s.n s.off = H := ⟨_, rfl⟩
  have HH := Lib.hid hH
  clear hm hs
  go_enter Try.func54, Try.ntmps54
  go_upto_region 1 with (fail)
  obtain ⟨wA, hwA⟩ : ∃ wA, wA = w.alloc (Obj.cells #[.int .i64 s.k, .slice ao m c, .int .i64 s.n, .int .i64 s.off] 86) := ⟨_, rfl⟩
  have hbox : wA.heap[w.heap.size]? = some (.cells #[.int .i64 s.k, .slice ao m c, .int .i64 s.n, .int .i64 s.off] 86 (0, 0)) := by rw [hwA]; exact heap_alloc_new w _
  have hbA : Below w.heap.size w wA := by rw [hwA]; exact (Below.refl _ _).alloc (Nat.le_refl _) _
  rw [← hwA]
  have HBA := Lib.hid hbA
  have HSA := Lib.hid (HS.out.below ctR_mono hbA)
  have hszA := hbA.size
  obtain ⟨⟨d0, d1, d2, d3⟩, -⟩ := bx4 hbox
  obtain ⟨bx, hbx⟩ : ∃ bx, w.heap.size = bx := ⟨_, rfl⟩
  rw [hbx] at d0 d1 d2 d3 ⊢
  have HBD : Hid (∀ W, Below wA.heap.size wA W → W.cell? ⟨bx, 0, none⟩ = some (.int .i64 s.k) ∧ W.cell? ⟨bx, 1, none⟩ = some (.slice ao m c) ∧ W.cell? ⟨bx, 2, none⟩ = some (.int .i64 s.n) ∧ W.cell? ⟨bx, 3, none⟩ = some (.int .i64 s.off)) := Lib.hid (fun W h =>
    ⟨(h.cell (p := ⟨bx, 0, none⟩) (cell_lt d0)).trans d0, (h.cell (p := ⟨bx, 1, none⟩) (cell_lt d0)).trans d1, (h.cell (p := ⟨bx, 2, none⟩) (cell_lt d0)).trans d2, (h.cell (p := ⟨bx, 3, none⟩) (cell_lt d0)).trans d3⟩)
  clear hwA hbox hbA hbx
  go_cut [3] (fun t wx => t = .bool H ∧ wx = wA)
  case first =>
    unfold headH at hH
    by_cases h0 : 1 ≤ s.k
    case neg =>
      rw [decide_eq_false h0] at hH
      simp at hH
      subst hH
      go_wp2_with fail
      go_meet
      exact ⟨rfl, rfl⟩
    by_cases h1 : s.k ≤ 64
    case neg =>
      rw [decide_eq_true h0, decide_eq_false h1] at hH
      simp at hH
      subst hH
      go_wp2_with fail
      go_meet
      exact ⟨rfl, rfl⟩
    by_cases h2 : (m : Int) ≤ s.k
    case neg =>
      rw [decide_eq_true h0, decide_eq_true h1, decide_eq_false h2] at hH
      simp at hH
      subst hH
      go_wp2_with fail
      go_meet
      exact ⟨rfl, rfl⟩
    by_cases h3 : 0 ≤ s.n
    case neg =>
      rw [decide_eq_true h0, decide_eq_true h1, decide_eq_true h2, decide_eq_false h3] at hH
      simp at hH
      subst hH
      go_wp2_with fail
      go_meet
      exact ⟨rfl, rfl⟩
    by_cases h4 : s.n ≤ 1000000000
    case neg =>
      rw [decide_eq_true h0, decide_eq_true h1, decide_eq_true h2, decide_eq_true h3, decide_eq_false h4] at hH
      simp at hH
      subst hH
      go_wp2_with fail
      go_meet
      exact ⟨rfl, rfl⟩
    by_cases h5 : 0 ≤ s.off
    case neg =>
      rw [decide_eq_true h0, decide_eq_true h1, decide_eq_true h2, decide_eq_true h3, decide_eq_true h4, decide_eq_false h5] at hH
      simp at hH
      subst hH
      go_wp2_with fail
      go_meet
      exact ⟨rfl, rfl⟩
    by_cases h6 : s.off ≤ s.n
    case neg =>
      rw [decide_eq_true h0, decide_eq_true h1, decide_eq_true h2, decide_eq_true h3, decide_eq_true h4, decide_eq_true h5, decide_eq_false h6] at hH
      simp at hH
      subst hH
      go_wp2_with fail
      go_meet
      exact ⟨rfl, rfl⟩
    rw [decide_eq_true h0, decide_eq_true h1, decide_eq_true h2, decide_eq_true h3, decide_eq_true h4, decide_eq_true h5, decide_eq_true h6] at hH
    simp at hH
    subst hH
    go_wp2_with fail
    go_meet
    exact ⟨rfl, rfl⟩
  obtain ⟨rfl, hwc⟩ := hcut
  subst hwc
  obtain ⟨wA, rfl⟩ : ∃ x : World, x = wc := ⟨_, rfl⟩
  clear hH
  go_wp2_with fail
  go_loopw [3, 4, 48] (fun q r i wr => ∃ (k : Nat) (b : Bool) (z : Int), k ≤ m ∧ q = .bool b ∧ r = .int .i64 z ∧ i = .int .i64 k ∧ Hid (b = okP H s.n s.l k) ∧ Hid (SumRel s.l k b z) ∧ Below wA.heap.size wA wr) (fun _ _ i _ => m - (intOf i).toNat)
  case atStart => exact ⟨0, H, 0, by omega, rfl, rfl, rfl, Lib.hid rfl, Lib.hid (fun _ => ⟨by simp [sumN], by omega, by omega⟩), Below.refl _ _⟩
  case round =>
    obtain ⟨k, b, z, hk, rfl, rfl, rfl, HK, HZ, hbel⟩ := hrel
    have hsz := hbel.size
    have HBR := Lib.hid (HBA.out.trans (hbel.mono HBA.out.size))
    by_cases hlt : k < m
    case neg =>
      obtain rfl : k = m := by omega
      clear d0 d1 d2 d3
      obtain ⟨d0, d1, d2, d3⟩ := HBD.out wr hbel
      have hPP := heavyP_eq (s := s)
      rw [HM.out, HH.out, ← HK.out] at hPP
      cases b with
      | false =>
        have HF : Hid (heavyF s = 4) := Lib.hid (by unfold heavyF; rw [if_neg (fun h => by have := (hPP.1 h).1; simp at this)])
        clear hPP
        go_wp2_with fail
        go_ret
        exact ⟨by rw [HF.out]; rfl, HBR.out⟩
      | true =>
        have h1 := (okP_iff (N := s.n) (l := s.l) k (by rw [HM.out]; exact Nat.le_refl _)).1 HK.out.symm
        obtain ⟨h2, -, -⟩ := h1
        have h3 := headH_ok.1 (HH.out.trans h2)
        obtain ⟨hz1, hz2, hz3⟩ := HZ.out rfl
        rw [List.take_of_length_le (by rw [HM.out]; exact Nat.le_refl _)] at hz1
        rw [← hz1] at hPP
        obtain ⟨hq1, hq2⟩ := mul_bd h3.1 h3.2.1 h3.2.2.2.2.2.1 (by omega)
        have hw1 : IntKind.i64.wrap (s.k + 1) = s.k + 1 := IntWalk.i64_in _ (by omega)
        have hw2 : IntKind.i64.wrap ((s.k + 1) * s.off) = (s.k + 1) * s.off := IntWalk.i64_in _ (by omega)
        have hw3 : IntKind.i64.wrap ((s.k + 1) * s.off + z) = (s.k + 1) * s.off + z := IntWalk.i64_in _ (by omega)
        by_cases hgt : s.n < (s.k + 1) * s.off + z
        · have HF : Hid (heavyF s = 4) := Lib.hid (by unfold heavyF; rw [if_neg (fun h => by have := (hPP.1 h).2; omega)])
          clear hPP hz1 hz2 hz3 h3 h2 hq1 hq2
          go_wp2_with fail
          go_ret
          exact ⟨by rw [HF.out]; rfl, HBR.out⟩
        · have HF : Hid (heavyF s = 0) := Lib.hid (by unfold heavyF; rw [if_pos (hPP.2 ⟨rfl, by omega⟩)])
          clear hPP hz1 hz2 hz3 h3 h2 hq1 hq2
          go_wp2_with fail
          go_ret
          exact ⟨by rw [HF.out]; rfl, HBR.out⟩
    obtain ⟨x, hx⟩ : ∃ x, s.l[k]? = some x := ⟨_, List.getElem?_eq_getElem (by rw [HM.out]; exact hlt)⟩
    have HSR := Lib.hid (HSA.out.below ctR_mono hbel)
    obtain ⟨b0, off, cs, rfl, rfl, _, hck⟩ := HSR.out.get hx
    have c0 := hck 0 _ rfl
    have c1 := hck 1 _ rfl
    rw [Nat.add_zero] at c0
    have HX := Lib.hid hx
    clear hck hx d0 d1 d2 d3
    go_upto_region 6 with (fail)
    obtain ⟨wB, hwB⟩ : ∃ wB, wB = wr.alloc (Obj.cells #[.string x.ky, .int .i64 x.n] 175) := ⟨_, rfl⟩
    have hbox : wB.heap[wr.heap.size]? = some (.cells #[.string x.ky, .int .i64 x.n] 175 (0, 0)) := by rw [hwB]; exact heap_alloc_new wr _
    have hbB : Below wr.heap.size wr wB := by rw [hwB]; exact (Below.refl _ _).alloc (Nat.le_refl _) _
    rw [← hwB]
    have HBB := Lib.hid (hbel.trans (hbB.mono hsz))
    have HSB := Lib.hid (HSR.out.below ctR_mono hbB)
    obtain ⟨⟨e0, e1⟩, -⟩ := bx2 hbox
    obtain ⟨d0, d1, d2, d3⟩ := HBD.out wB HBB.out
    generalize wr.heap.size = bc at *
    clear hwB hbox hbB c0 c1
    obtain ⟨D, hD⟩ : ∃ D, (b && (oneOk s.l k x && decide (x.n ≤ s.n))) = D := ⟨_, rfl⟩
    have HD := Lib.hid hD
    go_cut [3] (fun t wx => t = .bool D ∧ Below wB.heap.size wB wx)
    case first =>
      unfold oneOk at hD
      cases b with
      | false =>
        simp only [Bool.false_and] at hD
        subst hD
        go_quiet (fail)
        go_wp2
        go_meet
        exact ⟨rfl, below_drewN (Below.refl _ _) _⟩
      | true =>
        rw [Bool.true_and] at hD
        by_cases g1 : (x.ky.size : Int) ≤ 40
        case neg =>
          rw [decide_eq_false (p := x.ky.size ≤ 40) (by omega)] at hD
          simp only [Bool.false_and] at hD
          subst hD
          go_quiet (fail)
          go_wp2
          go_meet
          exact ⟨rfl, below_drewN (Below.refl _ _) _⟩
        rw [decide_eq_true (p := x.ky.size ≤ 40) (by omega), Bool.true_and] at hD
        by_cases g2 : 0 < x.n
        case neg =>
          rw [decide_eq_false g2] at hD
          simp only [Bool.false_and] at hD
          subst hD
          go_quiet (fail)
          go_wp2
          go_meet
          exact ⟨rfl, below_drewN (Below.refl _ _) _⟩
        rw [decide_eq_true g2, Bool.true_and] at hD
        by_cases g3 : x.n ≤ s.n
        case neg =>
          rw [decide_eq_false g3, Bool.and_false] at hD
          subst hD
          rcases Nat.eq_zero_or_pos k with rfl | hkp
          · go_quiet (fail)
            go_wp2
            go_meet
            exact ⟨rfl, below_drewN (Below.refl _ _) _⟩
          obtain ⟨k, rfl⟩ : ∃ i, k = i + 1 := ⟨k - 1, by omega⟩
          obtain ⟨q, hq⟩ : ∃ q, s.l[k]? = some q := ⟨_, List.getElem?_eq_getElem (by rw [HM.out]; omega)⟩
          obtain ⟨b2, off2, cs2, e2, rfl, _, hcq⟩ := HSB.out.get hq
          simp only [Option.some.injEq, Addr.mk.injEq, and_true] at e2
          obtain ⟨rfl, rfl⟩ := e2
          have q0 := hcq 0 _ rfl
          rw [Nat.add_zero] at q0
          generalize q.ky = qn at *
          generalize hb1 : Op.bytesLess qn.toList x.ky.toList = b1 at *
          have i1 : ((k + 1 : Nat) : Int) - 1 = (k : Int) := by omega
          have i2 : (((k + 1 : Nat) : Int) == 0) = false := beq_eq_false_iff_ne.2 (by omega)
          have i3 : ((k : Int) + 1 == 0) = false := beq_eq_false_iff_ne.2 (by omega)
          have i4 : ((k : Int) + 1 = 0) = False := eq_false (by omega)
          have i5 : IntKind.i64.wrap (((k + 1 : Nat) : Int) - 1) = (k : Int) := by rw [IntWalk.i64_in _ (by omega)]; omega
          clear hcq hq
          cases b1 <;>
          (go_quiet (fail)
           go_wp2
           go_meet
           exact ⟨rfl, below_drewN (Below.refl _ _) _⟩)
        rw [decide_eq_true g3, Bool.and_true] at hD
        rcases Nat.eq_zero_or_pos k with rfl | hkp
        · unfold preB at hD
          subst hD
          go_quiet (fail)
          go_wp2
          go_meet
          exact ⟨rfl, below_drewN (Below.refl _ _) _⟩
        obtain ⟨k, rfl⟩ : ∃ i, k = i + 1 := ⟨k - 1, by omega⟩
        obtain ⟨q, hq⟩ : ∃ q, s.l[k]? = some q := ⟨_, List.getElem?_eq_getElem (by rw [HM.out]; omega)⟩
        obtain ⟨b2, off2, cs2, e2, rfl, _, hcq⟩ := HSB.out.get hq
        simp only [Option.some.injEq, Addr.mk.injEq, and_true] at e2
        obtain ⟨rfl, rfl⟩ := e2
        have q0 := hcq 0 _ rfl
        rw [Nat.add_zero] at q0
        rw [preB_succ hq] at hD
        generalize q.ky = qn at *
        have i1 : ((k + 1 : Nat) : Int) - 1 = (k : Int) := by omega
        have i2 : (((k + 1 : Nat) : Int) == 0) = false := beq_eq_false_iff_ne.2 (by omega)
        have i3 : ((k : Int) + 1 == 0) = false := beq_eq_false_iff_ne.2 (by omega)
        have i4 : ((k : Int) + 1 = 0) = False := eq_false (by omega)
        have i5 : IntKind.i64.wrap (((k + 1 : Nat) : Int) - 1) = (k : Int) := by rw [IntWalk.i64_in _ (by omega)]; omega
        clear hcq hq
        cases D <;>
        (go_quiet (fail)
         go_wp2
         go_meet
         exact ⟨rfl, below_drewN (Below.refl _ _) _⟩)
    obtain ⟨rfl, hbc⟩ := hcut
    have hbc2 := HBB.out.trans (hbc.mono HBB.out.size)
    have e1' := (hbc.cell (p := ⟨bc, 1, none⟩) (cell_lt e1)).trans e1
    have HK2 : Hid (D = okP H s.n s.l (k + 1)) := Lib.hid (by rw [okP_step HX.out, ← HK.out]; exact HD.out.symm)
    clear e0 e1 d0 d1 d2 d3 hbc
    cases D with
    | true =>
      have hb : b = true := by have h := HD.out; cases b with | true => rfl | false => simp at h
      obtain ⟨hz1, hz2, hz3⟩ := HZ.out hb
      have hnew := sumRel_of (s := s) (k := k + 1) (by rw [HM.out]; exact HH.out) (by rw [HM.out]; omega) HK2.out rfl
      have hold := sumRel_of (s := s) (k := k) (by rw [HM.out]; exact HH.out) (by rw [HM.out]; omega) HK.out hb
      rw [sumN_take HX.out, ← hz1] at hnew
      have hw1 : IntKind.i64.wrap (z + x.n) = z + x.n := IntWalk.i64_in _ (by omega)
      have HZ2 : Hid (SumRel s.l (k + 1) true (z + x.n)) := Lib.hid (fun _ => by rw [sumN_take HX.out, ← hz1]; exact hnew)
      clear hz1 hnew hold
      go_wp2_with fail
      go_roundw
      case rel => exact ⟨k + 1, true, _, by omega, rfl, rfl, by go_num, HK2, HZ2, hbc2⟩
      case measure => simp [intOf]; omega
    | false =>
      have HZ2 : Hid (∀ z', SumRel s.l (k + 1) false z') := Lib.hid (fun z' h => by simp at h)
      go_wp2_with fail
      go_roundw
      case rel => exact ⟨k + 1, false, _, by omega, rfl, rfl, by go_num, HK2, Lib.hid (HZ2.out _), hbc2⟩
      case measure => simp [intOf]; omega

set_option maxHeartbeats 8000000 in
set_option maxRecDepth 100000 in
theorem hvfault_any (v : Value) (s : Hv) (w : World) (hv : HvV w v s) : Calls Try.prog 53 #[v] w fun e w' => e = .returned (.int .i64 (heavyF s)) ∧ Below w.heap.size w w' := by
  obtain ⟨t, rfl, hs⟩ := hv
  obtain ⟨ao, c, rfl, hnc, hc⟩ := hs.shape
  obtain ⟨m, hm⟩ : ∃ m, s.l.length = m := ⟨_, rfl⟩
  rw [hm] at hs hnc ⊢
  have HM := Lib.hid hm
  have HS := Lib.hid hs
  obtain ⟨H, hH⟩ : ∃ H, headH s.k m s.n s.off = H := ⟨_, rfl⟩
  have HH := Lib.hid hH
  clear hm hs
  go_enter Try.func53, Try.ntmps53
  go_upto_region 1 with (fail)
  obtain ⟨wA, hwA⟩ : ∃ wA, wA = w.alloc (Obj.cells #[.int .i64 s.k, .slice ao m c, .int .i64 s.n, .int .i64 s.off] 86) := ⟨_, rfl⟩
  have hbox : wA.heap[w.heap.size]? = some (.cells #[.int .i64 s.k, .slice ao m c, .int .i64 s.n, .int .i64 s.off] 86 (0, 0)) := by rw [hwA]; exact heap_alloc_new w _
  have hbA : Below w.heap.size w wA := by rw [hwA]; exact (Below.refl _ _).alloc (Nat.le_refl _) _
  rw [← hwA]
  have HBA := Lib.hid hbA
  have HSA := Lib.hid (HS.out.below ctR_mono hbA)
  have hszA := hbA.size
  obtain ⟨⟨d0, d1, d2, d3⟩, -⟩ := bx4 hbox
  obtain ⟨bx, hbx⟩ : ∃ bx, w.heap.size = bx := ⟨_, rfl⟩
  rw [hbx] at d0 d1 d2 d3 ⊢
  have HBD : Hid (∀ W, Below wA.heap.size wA W → W.cell? ⟨bx, 0, none⟩ = some (.int .i64 s.k) ∧ W.cell? ⟨bx, 1, none⟩ = some (.slice ao m c) ∧ W.cell? ⟨bx, 2, none⟩ = some (.int .i64 s.n) ∧ W.cell? ⟨bx, 3, none⟩ = some (.int .i64 s.off)) := Lib.hid (fun W h =>
    ⟨(h.cell (p := ⟨bx, 0, none⟩) (cell_lt d0)).trans d0, (h.cell (p := ⟨bx, 1, none⟩) (cell_lt d0)).trans d1, (h.cell (p := ⟨bx, 2, none⟩) (cell_lt d0)).trans d2, (h.cell (p := ⟨bx, 3, none⟩) (cell_lt d0)).trans d3⟩)
  clear hwA hbox hbA hbx
  go_cut [3] (fun t wx => t = .bool H ∧ wx = wA)
  case first =>
    unfold headH at hH
    by_cases h0 : 1 ≤ s.k
    case neg =>
      rw [decide_eq_false h0] at hH
      simp at hH
      subst hH
      go_wp2_with fail
      go_meet
      exact ⟨rfl, rfl⟩
    by_cases h1 : s.k ≤ 64
    case neg =>
      rw [decide_eq_true h0, decide_eq_false h1] at hH
      simp at hH
      subst hH
      go_wp2_with fail
      go_meet
      exact ⟨rfl, rfl⟩
    by_cases h2 : (m : Int) ≤ s.k
    case neg =>
      rw [decide_eq_true h0, decide_eq_true h1, decide_eq_false h2] at hH
      simp at hH
      subst hH
      go_wp2_with fail
      go_meet
      exact ⟨rfl, rfl⟩
    by_cases h3 : 0 ≤ s.n
    case neg =>
      rw [decide_eq_true h0, decide_eq_true h1, decide_eq_true h2, decide_eq_false h3] at hH
      simp at hH
      subst hH
      go_wp2_with fail
      go_meet
      exact ⟨rfl, rfl⟩
    by_cases h4 : s.n ≤ 1000000000
    case neg =>
      rw [decide_eq_true h0, decide_eq_true h1, decide_eq_true h2, decide_eq_true h3, decide_eq_false h4] at hH
      simp at hH
      subst hH
      go_wp2_with fail
      go_meet
      exact ⟨rfl, rfl⟩
    by_cases h5 : 0 ≤ s.off
    case neg =>
      rw [decide_eq_true h0, decide_eq_true h1, decide_eq_true h2, decide_eq_true h3, decide_eq_true h4, decide_eq_false h5] at hH
      simp at hH
      subst hH
      go_wp2_with fail
      go_meet
      exact ⟨rfl, rfl⟩
    by_cases h6 : s.off ≤ s.n
    case neg =>
      rw [decide_eq_true h0, decide_eq_true h1, decide_eq_true h2, decide_eq_true h3, decide_eq_true h4, decide_eq_true h5, decide_eq_false h6] at hH
      simp at hH
      subst hH
      go_wp2_with fail
      go_meet
      exact ⟨rfl, rfl⟩
    rw [decide_eq_true h0, decide_eq_true h1, decide_eq_true h2, decide_eq_true h3, decide_eq_true h4, decide_eq_true h5, decide_eq_true h6] at hH
    simp at hH
    subst hH
    go_wp2_with fail
    go_meet
    exact ⟨rfl, rfl⟩
  obtain ⟨rfl, hwc⟩ := hcut
  subst hwc
  obtain ⟨wA, rfl⟩ : ∃ x : World, x = wc := ⟨_, rfl⟩
  clear hH
  go_wp2_with fail
  go_loopw [3, 4, 50] (fun q r i wr => ∃ (k : Nat) (b : Bool) (z : Int), k ≤ m ∧ q = .bool b ∧ r = .int .i64 z ∧ i = .int .i64 k ∧ Hid ((b, z) = okR H s.n s.l k) ∧ Below wA.heap.size wA wr) (fun _ _ i _ => m - (intOf i).toNat)
  case atStart => exact ⟨0, H, s.n, by omega, rfl, rfl, rfl, Lib.hid rfl, Below.refl _ _⟩
  case round =>
    obtain ⟨k, b, z, hk, rfl, rfl, rfl, HK, hbel⟩ := hrel
    have hsz := hbel.size
    have HBR := Lib.hid (HBA.out.trans (hbel.mono HBA.out.size))
    have hIF := okR_iff (h := H) (N := s.n) (l := s.l) (fun e => (headH_ok.1 (HH.out.trans e)).2.2.2.1) k (by rw [HM.out]; exact hk)
    rw [← HK.out] at hIF
    have HIF := Lib.hid hIF
    have HZB : Hid (b = true → 0 ≤ z ∧ z ≤ 1000000000) := Lib.hid (fun h => by
      have h1 := hIF.1.1 h
      have h2 := hIF.2 h
      have h3 := headH_ok.1 (HH.out.trans h1.1)
      have h4 := (sumN_pos k (by rw [HM.out]; exact hk) h1.2.1).1
      dsimp only at h2
      omega)
    clear hIF
    by_cases hlt : k < m
    case neg =>
      obtain rfl : k = m := by omega
      clear d0 d1 d2 d3
      obtain ⟨d0, d1, d2, d3⟩ := HBD.out wr hbel
      have hPP := heavyR_eq (s := s)
      rw [HM.out, HH.out, ← HK.out] at hPP
      dsimp only at hPP
      cases b with
      | false =>
        have HF : Hid (heavyF s = 4) := Lib.hid (by unfold heavyF; rw [if_neg (fun h => by have := (hPP.1 h).1; simp at this)])
        clear hPP
        go_wp2_with fail
        go_ret
        exact ⟨by rw [HF.out]; rfl, HBR.out⟩
      | true =>
        have h2 := (HIF.out.1.1 rfl).1
        have h3 := headH_ok.1 (HH.out.trans h2)
        obtain ⟨hz2, hz3⟩ := HZB.out rfl
        obtain ⟨hq1, hq2⟩ := mul_bd h3.1 h3.2.1 h3.2.2.2.2.2.1 (by omega)
        rw [Int.mul_comm] at hq1 hq2
        have hw1 : IntKind.i64.wrap (s.k + 1) = s.k + 1 := IntWalk.i64_in _ (by omega)
        have hw2 : IntKind.i64.wrap (s.off * (s.k + 1)) = s.off * (s.k + 1) := IntWalk.i64_in _ (by omega)
        by_cases hgt : z < s.off * (s.k + 1)
        · have HF : Hid (heavyF s = 4) := Lib.hid (by unfold heavyF; rw [if_neg (fun h => by have := (hPP.1 h).2; omega)])
          clear hPP hz2 hz3 h3 h2 hq1 hq2
          go_wp2_with fail
          go_ret
          exact ⟨by rw [HF.out]; rfl, HBR.out⟩
        · have HF : Hid (heavyF s = 0) := Lib.hid (by unfold heavyF; rw [if_pos (hPP.2 ⟨rfl, by omega⟩)])
          clear hPP hz2 hz3 h3 h2 hq1 hq2
          go_wp2_with fail
          go_ret
          exact ⟨by rw [HF.out]; rfl, HBR.out⟩
    obtain ⟨x, hx⟩ : ∃ x, s.l[k]? = some x := ⟨_, List.getElem?_eq_getElem (by rw [HM.out]; exact hlt)⟩
    have HSR := Lib.hid (HSA.out.below ctR_mono hbel)
    obtain ⟨b0, off, cs, rfl, rfl, _, hck⟩ := HSR.out.get hx
    have c0 := hck 0 _ rfl
    have c1 := hck 1 _ rfl
    rw [Nat.add_zero] at c0
    have HX := Lib.hid hx
    clear hck hx d0 d1 d2 d3
    go_upto_region 6 with (fail)
    obtain ⟨wB, hwB⟩ : ∃ wB, wB = wr.alloc (Obj.cells #[.string x.ky, .int .i64 x.n] 175) := ⟨_, rfl⟩
    have hbox : wB.heap[wr.heap.size]? = some (.cells #[.string x.ky, .int .i64 x.n] 175 (0, 0)) := by rw [hwB]; exact heap_alloc_new wr _
    have hbB : Below wr.heap.size wr wB := by rw [hwB]; exact (Below.refl _ _).alloc (Nat.le_refl _) _
    rw [← hwB]
    have HBB := Lib.hid (hbel.trans (hbB.mono hsz))
    have HSB := Lib.hid (HSR.out.below ctR_mono hbB)
    obtain ⟨⟨e0, e1⟩, -⟩ := bx2 hbox
    obtain ⟨d0, d1, d2, d3⟩ := HBD.out wB HBB.out
    generalize wr.heap.size = bc at *
    clear hwB hbox hbB c0 c1
    obtain ⟨D, hD⟩ : ∃ D, (b && (oneOk s.l k x && decide (x.n ≤ z))) = D := ⟨_, rfl⟩
    have HD := Lib.hid hD
    go_cut [3] (fun t wx => t = .bool D ∧ Below wB.heap.size wB wx)
    case first =>
      unfold oneOk at hD
      cases b with
      | false =>
        simp only [Bool.false_and] at hD
        subst hD
        go_quiet (fail)
        go_wp2
        go_meet
        exact ⟨rfl, below_drewN (Below.refl _ _) _⟩
      | true =>
        rw [Bool.true_and] at hD
        by_cases g1 : (x.ky.size : Int) ≤ 40
        case neg =>
          rw [decide_eq_false (p := x.ky.size ≤ 40) (by omega)] at hD
          simp only [Bool.false_and] at hD
          subst hD
          go_quiet (fail)
          go_wp2
          go_meet
          exact ⟨rfl, below_drewN (Below.refl _ _) _⟩
        rw [decide_eq_true (p := x.ky.size ≤ 40) (by omega), Bool.true_and] at hD
        by_cases g2 : 0 < x.n
        case neg =>
          rw [decide_eq_false g2] at hD
          simp only [Bool.false_and] at hD
          subst hD
          go_quiet (fail)
          go_wp2
          go_meet
          exact ⟨rfl, below_drewN (Below.refl _ _) _⟩
        rw [decide_eq_true g2, Bool.true_and] at hD
        by_cases g3 : x.n ≤ z
        case neg =>
          rw [decide_eq_false g3, Bool.and_false] at hD
          subst hD
          rcases Nat.eq_zero_or_pos k with rfl | hkp
          · go_quiet (fail)
            go_wp2
            go_meet
            exact ⟨rfl, below_drewN (Below.refl _ _) _⟩
          obtain ⟨k, rfl⟩ : ∃ i, k = i + 1 := ⟨k - 1, by omega⟩
          obtain ⟨q, hq⟩ : ∃ q, s.l[k]? = some q := ⟨_, List.getElem?_eq_getElem (by rw [HM.out]; omega)⟩
          obtain ⟨b2, off2, cs2, e2, rfl, _, hcq⟩ := HSB.out.get hq
          simp only [Option.some.injEq, Addr.mk.injEq, and_true] at e2
          obtain ⟨rfl, rfl⟩ := e2
          have q0 := hcq 0 _ rfl
          rw [Nat.add_zero] at q0
          generalize q.ky = qn at *
          generalize hb1 : Op.bytesLess qn.toList x.ky.toList = b1 at *
          have i1 : ((k + 1 : Nat) : Int) - 1 = (k : Int) := by omega
          have i2 : (((k + 1 : Nat) : Int) == 0) = false := beq_eq_false_iff_ne.2 (by omega)
          have i3 : ((k : Int) + 1 == 0) = false := beq_eq_false_iff_ne.2 (by omega)
          have i4 : ((k : Int) + 1 = 0) = False := eq_false (by omega)
          have i5 : IntKind.i64.wrap (((k + 1 : Nat) : Int) - 1) = (k : Int) := by rw [IntWalk.i64_in _ (by omega)]; omega
          clear hcq hq
          cases b1 <;>
          (go_quiet (fail)
           go_wp2
           go_meet
           exact ⟨rfl, below_drewN (Below.refl _ _) _⟩)
        rw [decide_eq_true g3, Bool.and_true] at hD
        rcases Nat.eq_zero_or_pos k with rfl | hkp
        · unfold preB at hD
          subst hD
          go_quiet (fail)
          go_wp2
          go_meet
          exact ⟨rfl, below_drewN (Below.refl _ _) _⟩
        obtain ⟨k, rfl⟩ : ∃ i, k = i + 1 := ⟨k - 1, by omega⟩
        obtain ⟨q, hq⟩ : ∃ q, s.l[k]? = some q := ⟨_, List.getElem?_eq_getElem (by rw [HM.out]; omega)⟩
        obtain ⟨b2, off2, cs2, e2, rfl, _, hcq⟩ := HSB.out.get hq
        simp only [Option.some.injEq, Addr.mk.injEq, and_true] at e2
        obtain ⟨rfl, rfl⟩ := e2
        have q0 := hcq 0 _ rfl
        rw [Nat.add_zero] at q0
        rw [preB_succ hq] at hD
        generalize q.ky = qn at *
        have i1 : ((k + 1 : Nat) : Int) - 1 = (k : Int) := by omega
        have i2 : (((k + 1 : Nat) : Int) == 0) = false := beq_eq_false_iff_ne.2 (by omega)
        have i3 : ((k : Int) + 1 == 0) = false := beq_eq_false_iff_ne.2 (by omega)
        have i4 : ((k : Int) + 1 = 0) = False := eq_false (by omega)
        have i5 : IntKind.i64.wrap (((k + 1 : Nat) : Int) - 1) = (k : Int) := by rw [IntWalk.i64_in _ (by omega)]; omega
        clear hcq hq
        cases D <;>
        (go_quiet (fail)
         go_wp2
         go_meet
         exact ⟨rfl, below_drewN (Below.refl _ _) _⟩)
    obtain ⟨rfl, hbc⟩ := hcut
    have hbc2 := HBB.out.trans (hbc.mono HBB.out.size)
    have e1' := (hbc.cell (p := ⟨bc, 1, none⟩) (cell_lt e1)).trans e1
    have HST : Hid (okR H s.n s.l (k + 1) = if D = true then (true, z - x.n) else (false, z)) := Lib.hid (by rw [okR_step HX.out, ← HK.out]; dsimp only; rw [HD.out])
    clear e0 e1 d0 d1 d2 d3 hbc
    cases D with
    | true =>
      have hb : b = true := by have h := HD.out; cases b with | true => rfl | false => simp at h
      have hx1 : 0 < x.n ∧ x.n ≤ z := by
        have h := HD.out
        simp only [Bool.and_eq_true, decide_eq_true_eq] at h
        exact ⟨(oneOk_pos h.2.1).2.1, h.2.2⟩
      obtain ⟨hz2, hz3⟩ := HZB.out hb
      have hw1 : IntKind.i64.wrap (z - x.n) = z - x.n := IntWalk.i64_in _ (by omega)
      have HK2 : Hid ((true, z - x.n) = okR H s.n s.l (k + 1)) := Lib.hid (by rw [HST.out]; rfl)
      clear hb
      go_wp2_with fail
      go_roundw
      case rel => exact ⟨k + 1, true, _, by omega, rfl, rfl, by go_num, HK2, hbc2⟩
      case measure => simp [intOf]; omega
    | false =>
      have HK2 : Hid ((false, z) = okR H s.n s.l (k + 1)) := Lib.hid (by rw [HST.out]; rfl)
      go_wp2_with fail
      go_roundw
      case rel => exact ⟨k + 1, false, _, by omega, rfl, rfl, by go_num, HK2, hbc2⟩
      case measure => simp [intOf]; omega

end Go.Proofs.Ytcljeedmiobepaa.Hv
