/-
  The walks of Grown and GrownBy.
-/
import Derived.Test.YtmbmognhbljliaaRate1
namespace Go.Proofs.Ytmbmognhbljliaa.Rate
open Go.RowKit Go.Gh Go.Proofs.Ytmbmognhbljliaa.Sam Go.Proofs.Ytmbmognhbljliaa.Smp
set_option linter.unusedVariables false
set_option maxHeartbeats 2000000 in
set_option maxRecDepth 100000 in
theorem grown_any (v : Value) (n : Nat) (l : List (List Int)) (w : World) (hs : Sl w 2 v n (rowCells l)) (hl : l.length = n) (hr : Rows64 2 l) (hn : n ≤ 140737488355328) :
    Calls Try.prog 53 #[v] w (GrPost w (grR l)) := by
  obtain ⟨ao, c, rfl, hnc, hc, _⟩ := hs.shape
  have HL := Lib.hid hl
  obtain ⟨e0, he0⟩ : ∃ e, sampF l = e := ⟨_, rfl⟩
  have HE := Lib.hid he0
  by_cases hbad : e0 = 0
  · subst hbad
    have hn2 : n ≤ 1000 := by have := fault_small he0; omega
    clear hl he0
    go_enter Try.func53, Try.ntmps53
    go_wp2_with (go_at_call 67; refine (check_any _ n l _ hs HL.out hr hn).mono ?_; rw [HE.out]; rintro e w1 ⟨rfl, hb1⟩)
    go_loopw [2, 3, 4, 18] (fun r0 r1 r2 i wr => ∃ k : Nat, k ≤ n ∧ i = .int .i64 k ∧ r0 = .int .u64 0 ∧ r1 = .int .i64 0 ∧ r2 = .int .i64 0 ∧ Below w.heap.size w wr ∧ Hid (NoNeg l k)) (fun _ _ _ i _ => n - (intOf i).toNat)
    case atStart => exact ⟨0, by omega, rfl, rfl, rfl, rfl, hb1, fun i hi => by omega⟩
    case round =>
      obtain ⟨k, hk, rfl, rfl, rfl, rfl, hbr, hno⟩ := hrel
      by_cases hlt : k < n
      · obtain ⟨b, off, rfl, hk1, hck⟩ := (hs.below hbr).rowk HL.out hr.k hlt
        obtain ⟨T, V, hx⟩ := row2 _ hk1
        rw [hx] at hck
        have c0 : _ = some (Value.int .i64 T) := hck 0 (by decide)
        have c1 : _ = some (Value.int .i64 V) := hck 1 (by decide)
        rw [Nat.add_zero] at c0
        have hv := vAt_of hx
        have HV := Lib.hid hv
        have hbA := hbr.alloc hbr.size (Obj.cells #[.int .i64 T, .int .i64 V] 90)
        clear hck hk1 hx hv
        by_cases hneg : V < 0
        · have HF : Hid (grR l = (0, 0, 6)) := Lib.hid (gr_bad (counter_neg HE.out HL.out hlt (by rw [HV.out]; exact hneg)) (by decide))
          go_wp2_with fail
          go_ret3
          show GrPost _ _ _ _
          rw [HF.out]
          exact ⟨rfl, hbA⟩
        · have HN : Hid (NoNeg l (k + 1)) := Lib.hid (hno.out.succ (by rw [HV.out]; omega))
          go_wp2_with fail
          go_roundw
          case rel => exact ⟨k + 1, by omega, by go_num, rfl, rfl, rfl, hbA, HN⟩
          case measure => simp [intOf]; omega
      · obtain rfl : k = n := by omega
        have HC : Hid (grR l = (IntKind.u64.wrap (gS l k), (gA l k : Int), 0)) := Lib.hid (gr_ok (counter_ok HE.out HL.out hno.out) HL.out)
        go_wp2_with fail
        go_loopw [8, 9, 10] (fun us ua i wr => ∃ (j a : Nat) (s : Int), j ≤ k ∧ (j + 1 ≤ k ∨ j = 0) ∧ i = .int .i64 (j + 1) ∧ us = .int .u64 s ∧ 0 ≤ s ∧ s < 18446744073709551616 ∧ ua = .int .i64 a ∧ a ≤ j + 1 ∧ Hid (GrAt l (j + 1) s a) ∧ Below w.heap.size w wr) (fun _ _ i _ => k + 1 - (intOf i).toNat)
        case atStart => exact ⟨0, 0, 0, by omega, Or.inr rfl, rfl, rfl, by decide, by decide, rfl, by omega, Lib.hid ⟨rfl, rfl⟩, hbr⟩
        case round =>
          obtain ⟨j, a, s, hj, hjk, rfl, rfl, hs0, hs1, rfl, ha, hgr, hb2⟩ := hrel
          by_cases hlt2 : j + 1 < k
          · obtain ⟨b, off, rfl, hk1, hk2, hck⟩ := (hs.below hb2).row HL.out hr (i := j) (by omega)
            obtain ⟨b', off', hbo, hm1, hm2, hcm⟩ := (hs.below hb2).row HL.out hr (i := j + 1) hlt2
            simp only [Option.some.injEq, Addr.mk.injEq, and_true] at hbo
            obtain ⟨rfl, rfl⟩ := hbo
            obtain ⟨T, P, hx⟩ := row2 _ hk1
            obtain ⟨U, V, hy⟩ := row2 _ hm1
            rw [hx] at hck hk2
            rw [hy] at hcm hm2
            have d1 : _ = some (Value.int .i64 P) := hck 1 (by decide)
            have c1 : _ = some (Value.int .i64 V) := hcm 1 (by decide)
            obtain ⟨_, hP1, hP2⟩ := wf2 hk2
            obtain ⟨_, hV1, hV2⟩ := wf2 hm2
            have hp := vAt_of hx
            have hv := vAt_of hy
            have hp0 : 0 ≤ P := by have := hno.out j (by omega); omega
            have hv0 : 0 ≤ V := by have := hno.out (j + 1) hlt2; omega
            have HP := Lib.hid hp
            have HV := Lib.hid hv
            clear hck hcm hk1 hm1 hk2 hm2 hx hy hp hv hP1 hV1
            have i1 : IntKind.i64.wrap ((j : Int) + 1 - 1) = (j : Int) := by rw [IntWalk.i64_in _ (by omega)]; omega
            have i6 : IntKind.i64.wrap (j : Int) = (j : Int) := IntWalk.i64_in _ (by omega)
            have i2 : ((j : Int) + 1).toNat = j + 1 := by omega
            have i3 : (j : Int) + 1 < k := by omega
            have i4 : 0 ≤ (j : Int) + 1 := by omega
            have i5 : (j : Int) < k := by omega
            by_cases hle : V < P
            · have HN : Hid (GrAt l (j + 1 + 1) (IntKind.u64.wrap (s + V)) (a + 1)) := Lib.hid (grAt_less hgr.out HP.out HV.out hle)
              have w1 : 0 ≤ IntKind.u64.wrap (s + V) := by rw [IntKind.wrap_u64]; omega
              have w2 : IntKind.u64.wrap (s + V) < 18446744073709551616 := by rw [IntKind.wrap_u64]; omega
              have w3 : IntKind.u64.wrap V = V := wrap_in_u64 hv0 (by omega)
              have w4 : decide (V < P) = true := decide_eq_true hle
              go_wp2_with fail
              go_quiet (fail)
              go_wp2_with fail
              go_roundw
              case rel => exact ⟨j + 1, a + 1, _, by omega, Or.inl (by omega), by go_num, rfl, w1, w2, by go_num, by omega, HN, below_drewN hb2 _⟩
              case measure => simp [intOf]; omega
            · have HN : Hid (GrAt l (j + 1 + 1) (IntKind.u64.wrap (s + (V - P))) a) := Lib.hid (grAt_more hgr.out HP.out HV.out hle)
              have w1 : 0 ≤ IntKind.u64.wrap (s + (V - P)) := by rw [IntKind.wrap_u64]; omega
              have w2 : IntKind.u64.wrap (s + (V - P)) < 18446744073709551616 := by rw [IntKind.wrap_u64]; omega
              have w3 : IntKind.i64.wrap (V - P) = V - P := IntWalk.i64_in _ (by omega)
              have w5 : IntKind.u64.wrap (V - P) = V - P := wrap_in_u64 (by omega) (by omega)
              have w4 : decide (V < P) = false := decide_eq_false hle
              go_wp2_with fail
              go_quiet (fail)
              go_wp2_with fail
              go_quiet (fail)
              go_wp2_with fail
              go_roundw
              case rel => exact ⟨j + 1, a, _, by omega, Or.inl (by omega), by go_num, rfl, w1, w2, rfl, by omega, HN, below_drewN hb2 _⟩
              case measure => simp [intOf]; omega
          · have HF : Hid (grR l = (s, (a : Int), 0)) := by
              show _ = _
              rw [HC.out]
              have h1 : gS l k = gS l (j + 1) ∧ gA l k = gA l (j + 1) := by
                rcases hjk with h | h
                · rw [show k = j + 1 by omega]; exact ⟨rfl, rfl⟩
                · subst h
                  rcases Nat.eq_zero_or_pos k with h0 | h0
                  · subst h0; exact ⟨rfl, rfl⟩
                  · rw [show k = 0 + 1 by omega]; exact ⟨rfl, rfl⟩
              rw [h1.1, h1.2, hgr.out.sum, hgr.out.anew]
            have i3 : ¬ (j : Int) + 1 < k := by omega
            go_wp2_with fail
            go_ret3
            show GrPost _ _ _ _
            rw [HF.out]
            exact ⟨rfl, hb2⟩
  · have HF : Hid (grR l = (0, 0, e0)) := Lib.hid (gr_bad (by rw [counter_bad (by rw [he0]; exact hbad), he0]) hbad)
    have t1 : (e0 != 0) = true := by rw [bne_iff_ne]; exact hbad
    clear hl he0
    go_enter Try.func53, Try.ntmps53
    go_wp2_with (go_at_call 67; refine (check_any _ n l _ hs HL.out hr hn).mono ?_; rw [HE.out]; rintro e w1 ⟨rfl, hb1⟩)
    go_ret3
    show GrPost _ _ _ _
    rw [HF.out]
    exact ⟨rfl, hb1⟩
/-- What GrownBy answers of samples that are right. -/
def GbPost (w : World) (l : List (List Int)) (n : Nat) (e : Ending) (w' : World) : Prop := e = .returned (.tuple #[.int .u64 (IntKind.u64.wrap (gS l n)), .int .i64 (gA l n)]) ∧ Below w.heap.size w w'
theorem grAt_first (l : List (List Int)) : GrAt l 1 0 0 := ⟨rfl, rfl⟩
theorem grAt_more2 {l : List (List Int)} {j : Nat} {s P V : Int} {a : Nat} (h : GrAt l (j + 1) s a) (hp : vAt l j = P) (hv : vAt l (j + 1) = V) (hlt : ¬ V < P) : GrAt l (j + 1 + 1) (IntKind.u64.wrap (IntKind.u64.wrap (s + V) - P)) a := by
  have := grAt_more h hp hv hlt
  rwa [wrap_u64_sub, show s + V - P = s + (V - P) by omega]
theorem gb_post {l : List (List Int)} {k : Nat} {s : Int} {a : Nat} {w w' : World} (h : GrAt l k s a) (hb : Below w.heap.size w w') : GbPost w l k (.returned (.tuple #[.int .u64 s, .int .i64 a])) w' := by
  obtain ⟨h1, h2⟩ := h
  subst h1
  subst h2
  exact ⟨rfl, hb⟩
set_option maxHeartbeats 2000000 in
set_option maxRecDepth 100000 in
theorem grownby_any (v : Value) (n : Nat) (l : List (List Int)) (w : World) (hs : Sl w 2 v n (rowCells l)) (hl : l.length = n) (hr : Rows64 2 l) (hn : n ≤ 1000) (hneg : NoNeg l n) :
    Calls Try.prog 57 #[v] w (GbPost w l n) := by
  obtain ⟨ao, c, rfl, hnc, hc, _⟩ := hs.shape
  have HL := Lib.hid hl
  have HNO := Lib.hid hneg
  clear hl hneg
  go_enter Try.func57, Try.ntmps57
  go_wp2_with fail
  go_loopw [4, 5, 6, 7, 10] (fun us ua _ _ i wr => ∃ (k a : Nat) (s : Int), k ≤ n ∧ i = .int .i64 k ∧ us = .int .u64 s ∧ 0 ≤ s ∧ s < 18446744073709551616 ∧ ua = .int .i64 a ∧ a ≤ k ∧ Hid (GrAt l k s a) ∧ Below w.heap.size w wr) (fun _ _ _ _ i _ => n - (intOf i).toNat)
  case atStart => exact ⟨0, 0, 0, by omega, rfl, rfl, by decide, by decide, rfl, by omega, Lib.hid ⟨rfl, rfl⟩, Below.refl _ _⟩
  case round =>
    obtain ⟨k, a, s, hk, rfl, rfl, hs0, hs1, rfl, ha, hgr, hbr⟩ := hrel
    by_cases hlt : k < n
    · obtain ⟨b', off', rfl, hm1, hm2, hcm⟩ := (hs.below hbr).row HL.out hr (i := k) hlt
      obtain ⟨U, V, hy⟩ := row2 _ hm1
      rw [hy] at hcm hm2
      have c0 : _ = some (Value.int .i64 U) := hcm 0 (by decide)
      have c1 : _ = some (Value.int .i64 V) := hcm 1 (by decide)
      rw [Nat.add_zero] at c0
      obtain ⟨_, hV1, hV2⟩ := wf2 hm2
      have hv := vAt_of hy
      have hv0 : 0 ≤ V := by have := HNO.out k hlt; omega
      have HV := Lib.hid hv
      have hnw := cell_lt c1
      have hbA := hbr.alloc hbr.size (Obj.cells #[.int .i64 U, .int .i64 V] 90)
      clear hcm hm1 hm2 hy hv hV1
      by_cases h0 : k = 0
      · have HN : Hid (GrAt l (k + 1) s a) := by
          have h := hgr.out
          subst h0
          have h1 : s = 0 := h.sum.symm
          have h2 : a = 0 := h.anew.symm
          subst h1
          subst h2
          exact grAt_first l
        have e0 : ((k : Int) == 0) = true := by rw [h0]; rfl
        clear h0
        go_wp2_with fail
        go_roundw
        case rel => exact ⟨k + 1, a, s, by omega, by go_num, rfl, hs0, hs1, rfl, by omega, HN, hbA⟩
        case measure => simp [intOf]; omega
      · obtain ⟨j, rfl⟩ : ∃ j, k = j + 1 := ⟨k - 1, by omega⟩
        obtain ⟨b, off, hbo, hk1, hk2, hck⟩ := (hs.below hbr).row HL.out hr (i := j) (by omega)
        simp only [Option.some.injEq, Addr.mk.injEq, and_true] at hbo
        obtain ⟨rfl, rfl⟩ := hbo
        obtain ⟨T, P, hx⟩ := row2 _ hk1
        rw [hx] at hck hk2
        have d1 : _ = some (Value.int .i64 P) := hck 1 (by decide)
        obtain ⟨_, hP1, hP2⟩ := wf2 hk2
        have hp := vAt_of hx
        have hp0 : 0 ≤ P := by have := HNO.out j (by omega); omega
        have HP := Lib.hid hp
        clear hck hk1 hk2 hx hp hP1 h0
        have e0 : (((j + 1 : Nat) : Int) == 0) = false := beq_eq_false_iff_ne.2 (by omega)
        have e1 : ((j : Int) + 1 == 0) = false := beq_eq_false_iff_ne.2 (by omega)
        have i0 : ((j + 1 : Nat) : Int) - 1 = (j : Int) := by omega
        have i1 : IntKind.i64.wrap ((j : Int) + 1 - 1) = (j : Int) := by rw [IntWalk.i64_in _ (by omega)]; omega
        have i6 : IntKind.i64.wrap (j : Int) = (j : Int) := IntWalk.i64_in _ (by omega)
        have i5 : (j : Int) < n := by omega
        have hnew : wr.heap.size ≠ b' := by omega
        have hnew2 : b' ≠ wr.heap.size := by omega
        have w3 : IntKind.u64.wrap V = V := wrap_in_u64 hv0 (by omega)
        have w5 : IntKind.u64.wrap P = P := wrap_in_u64 hp0 (by omega)
        by_cases hle : V < P
        · have HN : Hid (GrAt l (j + 1 + 1) (IntKind.u64.wrap (s + V)) (a + 1)) := Lib.hid (grAt_less hgr.out HP.out HV.out hle)
          have w1 : 0 ≤ IntKind.u64.wrap (s + V) := by rw [IntKind.wrap_u64]; omega
          have w2 : IntKind.u64.wrap (s + V) < 18446744073709551616 := by rw [IntKind.wrap_u64]; omega
          have w4 : decide (P ≤ V) = false := decide_eq_false (by omega)
          go_wp2_with fail
          go_quiet (fail)
          go_wp2_with fail
          go_roundw
          case rel => exact ⟨j + 1 + 1, a + 1, _, by omega, by go_num, rfl, w1, w2, by go_num, by omega, HN, below_drewN hbA _⟩
          case measure => simp [intOf]; omega
        · have HN : Hid (GrAt l (j + 1 + 1) (IntKind.u64.wrap (IntKind.u64.wrap (s + V) - P)) a) := Lib.hid (grAt_more2 hgr.out HP.out HV.out hle)
          have w1 : 0 ≤ IntKind.u64.wrap (IntKind.u64.wrap (s + V) - P) := by rw [IntKind.wrap_u64]; omega
          have w2 : IntKind.u64.wrap (IntKind.u64.wrap (s + V) - P) < 18446744073709551616 := by rw [IntKind.wrap_u64]; omega
          have w4 : decide (P ≤ V) = true := decide_eq_true (by omega)
          go_wp2_with fail
          go_quiet (fail)
          go_wp2_with fail
          go_roundw
          case rel => exact ⟨j + 1 + 1, a, _, by omega, by go_num, rfl, w1, w2, rfl, by omega, HN, below_drewN hbA _⟩
          case measure => simp [intOf]; omega
    · obtain rfl : k = n := by omega
      have HF := Lib.hid (gb_post hgr.out hbr)
      go_wp2_with fail
      go_ret2
      exact HF.out
end Go.Proofs.Ytmbmognhbljliaa.Rate
