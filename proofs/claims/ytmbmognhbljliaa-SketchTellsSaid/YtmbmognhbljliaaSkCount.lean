/-
  The walk of sketch.Count.
-/
import Derived.Test.YtmbmognhbljliaaSkCells
import Derived.Test.YtmbmognhbljliaaSk4
namespace Go.Proofs.Ytmbmognhbljliaa.Sk
open Go.RowKit Go.Gh
set_option linter.unusedVariables false
theorem caL_get (S : ByteArray) (W : Nat) {D k : Nat} (hk : k < D) : (caL S W D).getD k 0 = (ca S W k : Int) := by
  unfold caL
  rw [List.getD_eq_getElem?_getD, List.getElem?_map, List.getElem?_range hk]
  rfl
theorem min_if (m y : Int) : (if y < m then y else m) = min m y := by rw [Int.min_def]; split <;> split <;> omega
def minF (c : List Int) (S : ByteArray) (W : Nat) (N : Int) : Nat → Int
  | 0 => N
  | k + 1 => min (minF c S W N k) (c.getD (ca S W k) 0)
def cntR (D W : Int) (c : List Int) (N : Int) (S : ByteArray) : Int × Int := if skF D W c N = 0 then (minF c S W.toNat N D.toNat, 0) else (0, 4)
theorem cnt_bad {D W : Int} {c : List Int} {N : Int} {S : ByteArray} {e : Int} (h : skF D W c N = e) (he : e ≠ 0) : cntR D W c N S = (0, e) := by
  unfold cntR
  rw [if_neg (by rw [h]; exact he)]
  rcases sk_four D W c N with h' | h' <;> rw [h'] at h
  · exact absurd h.symm he
  · rw [← h]
theorem cnt_ok {d wd : Nat} {c : List Int} {N : Int} {S : ByteArray} (h : skF d wd c N = 0) : cntR d wd c N S = (minF c S wd N d, 0) := by
  unfold cntR
  rw [if_pos h, Int.toNat_natCast, Int.toNat_natCast]
set_option maxHeartbeats 4000000 in
set_option maxRecDepth 100000 in
theorem count_any (v : Value) (D W N : Int) (c : List Int) (S : ByteArray) (w : World) (hv : SkV w v D W c N) (hS : S.size ≤ 140737488355328) :
    Calls Try.prog 60 #[v, .string S] w fun e w' => e = .returned (.tuple #[.int .i64 (cntR D W c N S).1, .int .i64 (cntR D W c N S).2]) ∧ Below w.heap.size w w' := by
  have hv0 := hv
  obtain ⟨cv, n, rfl, hs, hl, hwf, hn, hD, hW, hN⟩ := hv
  obtain ⟨ao, cp, rfl, hnc, hcp, _⟩ := hs.shape
  obtain ⟨e1, he1⟩ : ∃ e, skF D W c N = e := ⟨_, rfl⟩
  have HE1 := Lib.hid he1
  have HL := Lib.hid hl
  clear hl he1 hwf
  go_enter Try.func60, Try.ntmps60
  go_upto_region 1 with (fail)
  refine wp_abs (fun wA => wA.heap[w.heap.size]? = some (.cells #[.int .i64 D, .int .i64 W, .slice ao n cp, .int .i64 N] 66 (0, 0)) ∧ Below w.heap.size w wA ∧ w.heap.size < wA.heap.size) ⟨heap_alloc_new w _, (Below.refl _ _).alloc (Nat.le_refl _) _, by simp⟩ ?_
  rintro wA ⟨hA0, hAb, hAs⟩
  obtain ⟨⟨x0, x1, x2, x3⟩, -⟩ := box4 hA0
  by_cases hz : e1 = 0
  case neg =>
    have HF : Hid (cntR D W c N S = (0, e1)) := Lib.hid (cnt_bad HE1.out hz)
    have t1 : (e1 != 0) = true := by rw [bne_iff_ne]; exact hz
    clear hz
    go_wp2_with fail
    refine (check_any _ D W N c _ (hv0.below hAb)).mono ?_
    rw [HE1.out]
    rintro e w1 ⟨rfl, hb1⟩
    go_wp2_with fail
    go_ret2
    rw [HF.out]
    exact ⟨rfl, hAb.trans (hb1.mono hAb.size)⟩
  have hk1 := HE1.out.trans hz
  obtain ⟨⟨hd1, hd2, hd3, hd4⟩, hdl, hd5, hd6⟩ := head_of hk1
  rw [HL.out] at hdl
  obtain ⟨d, rfl⟩ : ∃ d : Nat, D = d := ⟨D.toNat, by omega⟩
  obtain ⟨wd, rfl⟩ : ∃ d : Nat, W = d := ⟨W.toNat, by omega⟩
  have hnL : n = d * wd := by
    rw [← Int.natCast_mul] at hdl
    omega
  have HNL := Lib.hid hnL
  have HF : Hid (cntR d wd c N S = (minF c S wd N d, 0)) := Lib.hid (cnt_ok hk1)
  have t1 : (e1 != 0) = false := by rw [hz]; rfl
  clear hz hk1 hnL hdl
  go_wp2_with fail
  refine (check_any _ d wd N c _ (hv0.below hAb)).mono ?_
  rw [HE1.out]
  rintro e w1 ⟨rfl, hb1⟩
  have hB1 := hAb.trans (hb1.mono hAb.size)
  have hA1 := (hb1.block _ hAs).trans hA0
  clear x0 x1 x2 x3 hA0
  obtain ⟨⟨x0, x1, x2, x3⟩, -⟩ := box4 hA1
  go_wp2_with fail
  refine (cells_any _ d wd N c S _ (hv0.below hB1) (by omega) (by omega) (by omega) hS).mono ?_
  rintro e w2 ⟨u, rfl, hown, hb2⟩
  have hB2 := hB1.trans (hb2.mono hB1.size)
  have hA2 := (hb2.block _ (Nat.lt_of_lt_of_le hAs hb1.size)).trans hA1
  clear x0 x1 x2 x3 hA1
  obtain ⟨⟨x0, x1, x2, x3⟩, -⟩ := box4 hA2
  have hcs := own_sl hown
  have hcc := hs.below hB2
  obtain ⟨uo, uc, rfl, hu1, hu2, _⟩ := hcs.shape
  clear hown hA2 hs
  go_wp2_with fail
  go_loopw [7, 9, 21] (fun t _ i wx => ∃ k : Nat, k ≤ d ∧ i = .int .i64 k ∧ t = .int .i64 (minF c S wd N k) ∧ wx = w2) (fun _ _ i _ => d - (intOf i).toNat)
  case atStart => exact ⟨0, by omega, rfl, rfl, rfl⟩
  case round =>
    obtain ⟨k, hk, rfl, rfl, rfl⟩ := hrel
    by_cases hlt : k < d
    · have hci : ca S wd k < n := by rw [HNL.out]; exact ca_lt S (by omega) hlt
      obtain ⟨b1, off1, rfl, hc1⟩ := hcs.int (i := k) hlt
      obtain ⟨b2, off2, rfl, hc2⟩ := hcc.int (i := ca S wd k) hci
      rw [caL_get S wd hlt] at hc1
      obtain ⟨m, hm⟩ : ∃ m, minF c S wd N k = m := ⟨_, rfl⟩
      obtain ⟨y, hy⟩ : ∃ y, c.getD (ca S wd k) 0 = y := ⟨_, rfl⟩
      obtain ⟨I, hI⟩ : ∃ I, ca S wd k = I := ⟨_, rfl⟩
      have HN : Hid (minF c S wd N (k + 1) = min m y) := Lib.hid (by rw [minF, hm, hy])
      rw [hm]
      rw [hy] at hc2
      rw [hI] at hc1 hc2 hci
      clear hm hy hI
      go_wp2_with fail
      go_roundw
      case rel => exact ⟨k + 1, by omega, by go_num, by rw [HN.out]; exact congrArg _ (min_if m y), trivial⟩
      case measure => simp [intOf]; omega
    · obtain rfl : k = d := by omega
      go_wp2_with fail
      go_ret2
      rw [HF.out]
      exact ⟨rfl, hB2⟩
end Go.Proofs.Ytmbmognhbljliaa.Sk
