/-
  The walks of sketch.size and SketchFault.
-/
import Derived.Test.YtmbmognhbljliaaSkLaw
import Derived.Test.YtmbmognhbljliaaLib2
import Derived.Test.YtmbmognhbljliaaRows
namespace Go.Proofs.Ytmbmognhbljliaa.Sk
open Go.RowKit Go.Gh
set_option linter.unusedVariables false

theorem size_any (D W : Int) (w : World) : Calls Try.prog 82 #[.int .i64 D, .int .i64 W] w fun e w' => e = .returned (.bool (decide (sizeOk D W))) ∧ w' = w := by
  by_cases h1 : 1 ≤ D
  · by_cases h2 : D ≤ 8
    · by_cases h3 : 1 ≤ W
      · by_cases h4 : W ≤ 200
        · have HF : Hid (decide (sizeOk D W) = true) := decide_eq_true ⟨h1, h2, h3, h4⟩
          go_enter Try.func82, Try.ntmps82
          go_wp2_with fail
          go_ret
          exact ⟨ret_bool (by first | exact HF.out.symm | (rw [HF.out]; simp; omega)), rfl⟩
        · have HF : Hid (decide (sizeOk D W) = false) := decide_eq_false (fun h => h4 h.2.2.2)
          go_enter Try.func82, Try.ntmps82
          go_wp2_with fail
          go_ret
          exact ⟨ret_bool (by first | exact HF.out.symm | (rw [HF.out]; simp; omega)), rfl⟩
      · have HF : Hid (decide (sizeOk D W) = false) := decide_eq_false (fun h => h3 h.2.2.1)
        go_enter Try.func82, Try.ntmps82
        go_wp2_with fail
        go_ret
        exact ⟨ret_bool (by first | exact HF.out.symm | (rw [HF.out]; simp; omega)), rfl⟩
    · have HF : Hid (decide (sizeOk D W) = false) := decide_eq_false (fun h => h2 h.2.1)
      go_enter Try.func82, Try.ntmps82
      go_wp2_with fail
      go_ret
      exact ⟨ret_bool (by first | exact HF.out.symm | (rw [HF.out]; simp; omega)), rfl⟩
  · have HF : Hid (decide (sizeOk D W) = false) := decide_eq_false (fun h => h1 h.1)
    go_enter Try.func82, Try.ntmps82
    go_wp2_with fail
    go_ret
    exact ⟨ret_bool (by first | exact HF.out.symm | (rw [HF.out]; simp; omega)), rfl⟩

/-- A sketch as a value. -/
def SkV (w : World) (v : Value) (D W : Int) (c : List Int) (N : Int) : Prop := ∃ cv n, v = .agg #[.int .i64 D, .int .i64 W, cv, .int .i64 N] ∧ Sl w 1 cv n (c.map (Value.int .i64)) ∧ c.length = n ∧ (∀ z ∈ c, (Lit.int .i64 z).wf = true) ∧ n ≤ 140737488355328 ∧
  (-9223372036854775808 ≤ D ∧ D < 9223372036854775808) ∧ (-9223372036854775808 ≤ W ∧ W < 9223372036854775808) ∧ (-9223372036854775808 ≤ N ∧ N < 9223372036854775808)
theorem SkV.below {w w' : World} {v : Value} {D W N : Int} {c : List Int} (h : SkV w v D W c N) (hb : Below w.heap.size w w') : SkV w' v D W c N := by
  obtain ⟨cv, n, h1, h2, h3⟩ := h
  exact ⟨cv, n, h1, h2.below hb, h3⟩
theorem box4 {w : World} {B : Nat} {T : TypeId} {a b c d : Value} (h : w.heap[B]? = some (.cells #[a, b, c, d] T (0, 0))) : (w.cell? ⟨B, 0, none⟩ = some a ∧ w.cell? ⟨B, 1, none⟩ = some b ∧ w.cell? ⟨B, 2, none⟩ = some c ∧ w.cell? ⟨B, 3, none⟩ = some d) ∧
    (w.frozen? ⟨B, 0, none⟩ = false ∧ w.frozen? ⟨B, 1, none⟩ = false ∧ w.frozen? ⟨B, 2, none⟩ = false ∧ w.frozen? ⟨B, 3, none⟩ = false) :=
  ⟨⟨(row_cell 0 _ h rfl).1, (row_cell 1 _ h rfl).1, (row_cell 2 _ h rfl).1, (row_cell 3 _ h rfl).1⟩, ⟨(row_cell 0 a h rfl).2, (row_cell 1 b h rfl).2, (row_cell 2 c h rfl).2, (row_cell 3 d h rfl).2⟩⟩

set_option maxHeartbeats 4000000 in
set_option maxRecDepth 100000 in
theorem fault_any (v : Value) (D W N : Int) (c : List Int) (w : World) (hv : SkV w v D W c N) :
    Calls Try.prog 46 #[v] w fun e w' => e = .returned (.int .i64 (skF D W c N)) ∧ Below w.heap.size w w' := by
  obtain ⟨cv, n, rfl, hs, hl, hwf, hn, hD, hW, hN⟩ := hv
  obtain ⟨ao, cap, rfl, hnc, hc, _⟩ := hs.shape
  have HL := Lib.hid hl
  have HWF := Lib.hid hwf
  have hbA : Below w.heap.size w (w.alloc (Obj.cells #[.int .i64 D, .int .i64 W, .slice ao n cap, .int .i64 N] 66)) := (Below.refl _ _).alloc (Nat.le_refl _) _
  by_cases hsz : sizeOk D W
  case neg =>
    have HF : Hid (skF D W c N = 4) := Lib.hid (sk_head fun h => hsz h.1)
    have hcase : D < 1 ∨ 8 < D ∨ (1 ≤ D ∧ D ≤ 8 ∧ W < 1) ∨ (1 ≤ D ∧ D ≤ 8 ∧ 200 < W) := by
      unfold sizeOk at hsz
      omega
    clear hsz hl hwf
    rcases hcase with h | h | ⟨h, h2, h3⟩ | ⟨h, h2, h3⟩
    all_goals
      go_enter Try.func46, Try.ntmps46
      go_wp2_with fail
      go_ret
      exact ⟨ret_int HF.out.symm, hbA⟩
  obtain ⟨h1, h2, h3, h4⟩ := hsz
  obtain ⟨d, rfl⟩ : ∃ d : Nat, D = d := ⟨D.toNat, by omega⟩
  obtain ⟨wd, rfl⟩ : ∃ d : Nat, W = d := ⟨W.toNat, by omega⟩
  have hd1 : 0 < d := by omega
  have hd2 : d ≤ 8 := by omega
  have hw1 : 0 < wd := by omega
  have hw2 : wd ≤ 200 := by omega
  obtain ⟨L, hL⟩ : ∃ L, d * wd = L := ⟨_, rfl⟩
  have hLi : (d : Int) * (wd : Int) = (L : Int) := by rw [← hL]; exact (Int.natCast_mul d wd).symm
  have hL2 : L ≤ 1600 := by rw [← hL]; exact Nat.mul_le_mul hd2 hw2
  have HLE := Lib.hid hL
  clear hD hW
  by_cases hlen : n = L
  case neg =>
    have HF : Hid (skF d wd c N = 4) := Lib.hid (sk_head fun h => hlen (by
      have := h.2.1
      rw [hLi, hl] at this
      omega))
    have hne : ((n : Int) != (L : Int)) = true := by rw [bne_iff_ne]; omega
    clear hL hlen hl hwf
    go_enter Try.func46, Try.ntmps46
    go_wp2_with fail
    go_ret
    exact ⟨ret_int HF.out.symm, hbA⟩
  subst hlen
  by_cases hN1 : N < 0
  · have HF : Hid (skF d wd c N = 4) := Lib.hid (sk_head fun h => by have := h.2.2.1; omega)
    clear hL hl hwf
    go_enter Try.func46, Try.ntmps46
    go_wp2_with fail
    go_ret
    exact ⟨ret_int HF.out.symm, hbA⟩
  by_cases hN2 : 1152921504606846976 < N
  · have HF : Hid (skF d wd c N = 4) := Lib.hid (sk_head fun h => by have := h.2.2.2; omega)
    clear hL hl hwf
    go_enter Try.func46, Try.ntmps46
    go_wp2_with fail
    go_ret
    exact ⟨ret_int HF.out.symm, hbA⟩
  have HHEAD : Hid (headOk d wd c N) := Lib.hid ⟨⟨h1, h2, h3, h4⟩, by rw [hLi, hl], by omega, by omega⟩
  have hcl : c.length = d * wd := by rw [hl, hL]
  have HCL := Lib.hid hcl
  clear hL hl hwf hcl h1 h2 h3 h4
  go_enter Try.func46, Try.ntmps46
  go_wp2_with fail
  have hs' := hs.below hbA
  have hbox : (w.alloc (Obj.cells #[.int .i64 d, .int .i64 wd, .slice ao n cap, .int .i64 N] 66)).heap[w.heap.size]? = some (.cells #[.int .i64 d, .int .i64 wd, .slice ao n cap, .int .i64 N] 66 (0, 0)) := heap_alloc_new w _
  obtain ⟨⟨x0, x1, x2, x3⟩, -⟩ := box4 hbox
  generalize w.alloc (Obj.cells #[.int .i64 d, .int .i64 wd, .slice ao n cap, .int .i64 N] 66) = wA at *
  clear hbox
  go_loopw [2, 48] (fun r i wr => ∃ k : Nat, k ≤ d ∧ i = .int .i64 k ∧ r = .int .i64 0 ∧ wr = wA ∧ Hid (∀ i, i < k → rowF N (chunkOf c wd i) = true)) (fun _ i _ => d - (intOf i).toNat)
  case atStart => exact ⟨0, by omega, rfl, rfl, rfl, Lib.hid (fun i hi => by omega)⟩
  case round =>
    obtain ⟨k, hk, rfl, rfl, rfl, HR⟩ := hrel
    by_cases hlt : k < d
    · obtain ⟨q, hq⟩ : ∃ q, k * wd = q := ⟨_, rfl⟩
      have hqi : (k : Int) * (wd : Int) = (q : Int) := by rw [← hq]; exact (Int.natCast_mul k wd).symm
      have hqe : q + wd ≤ n := by have := chunk_end (W := wd) hlt; rw [HLE.out] at this; omega
      have HQ := Lib.hid hq
      have HST : Hid (rowF N (chunkOf c wd k) = rowF (N - 0) ((chunkOf c wd k).drop 0)) := Lib.hid (by rw [Int.sub_zero, List.drop_zero])
      obtain ⟨b, off, rfl, _⟩ := hs'.int (i := q) (by omega)
      clear hq
      have hcq : ¬ cap = q := by omega
      go_wp2_with fail
      go_loopw [2, 4, 66] (fun r s i wx => ∃ (j : Nat) (sum : Int), j ≤ wd ∧ i = .int .i64 j ∧ s = .int .i64 sum ∧ 0 ≤ sum ∧ sum ≤ N ∧ r = .int .i64 0 ∧ wx = wr ∧ Hid (rowF N (chunkOf c wd k) = rowF (N - sum) ((chunkOf c wd k).drop j))) (fun _ _ i _ => wd - (intOf i).toNat)
      case atStart => exact ⟨0, 0, by omega, rfl, rfl, by omega, by omega, rfl, rfl, HST⟩
      case round =>
        obtain ⟨j, sum, hj, rfl, rfl, hs0, hs1, rfl, rfl, HR2⟩ := hrel
        by_cases hlt2 : j < wd
        · obtain ⟨b', off', hbo, hcx⟩ := hs'.int (i := q + j) (by omega)
          simp only [Option.some.injEq, Addr.mk.injEq, and_true] at hbo
          obtain ⟨rfl, rfl⟩ := hbo
          rw [← Nat.add_assoc] at hcx
          obtain ⟨x, hx⟩ : ∃ x, c.getD (q + j) 0 = x := ⟨_, rfl⟩
          rw [hx] at hcx
          have hdr : (chunkOf c wd k).drop j = x :: (chunkOf c wd k).drop (j + 1) := by
            rw [drop_int (by rw [chunk_len HCL.out hlt]; exact hlt2), chunk_get HCL.out hlt hlt2, HQ.out, hx]
          have HD := Lib.hid hdr
          clear hdr hx
          by_cases hx0 : x < 0
          · have HF : Hid (skF d wd c N = 4) := Lib.hid (sk_bad hlt (by rw [HR2.out, HD.out]; exact rowF_bad (Or.inl hx0)))
            go_wp2_with fail
            go_ret
            exact ⟨ret_int HF.out.symm, hbA⟩
          · by_cases hx1 : N - sum < x
            · have HF : Hid (skF d wd c N = 4) := Lib.hid (sk_bad hlt (by rw [HR2.out, HD.out]; exact rowF_bad (Or.inr hx1)))
              go_wp2_with fail
              go_ret
              exact ⟨ret_int HF.out.symm, hbA⟩
            · have HN : Hid (rowF N (chunkOf c wd k) = rowF (N - (sum + x)) ((chunkOf c wd k).drop (j + 1))) := by
                show _ = _
                rw [HR2.out, HD.out, rowF_step (by omega) (by omega), Int.sub_sub]
              go_wp2_with fail
              go_roundw
              case rel => exact ⟨j + 1, sum + x, by omega, by go_num, rfl, by omega, by omega, by first | rfl | trivial, by first | rfl | trivial, HN⟩
              case measure => simp [intOf]; omega
        · obtain rfl : j = wd := by omega
          have HE : Hid (rowF N (chunkOf c j k) = decide (N - sum = 0)) := by
            show _ = _
            rw [HR2.out, List.drop_of_length_le (by rw [chunk_len HCL.out hlt]; exact Nat.le_refl _)]
            rfl
          by_cases hse : sum = N
          · have HN : Hid (∀ i, i < k + 1 → rowF N (chunkOf c j i) = true) := Lib.hid (fun i hi => by
              rcases Nat.lt_or_eq_of_le (Nat.le_of_lt_succ hi) with h | h
              · exact HR.out i h
              · rw [h, HE.out]; exact decide_eq_true (by omega))
            have hne : (sum != N) = false := by rw [hse]; simp
            clear hse
            go_wp2_with fail
            go_roundw
            case rel => exact ⟨k + 1, by omega, by go_num, by first | rfl | trivial, by first | rfl | trivial, HN⟩
            case measure => simp [intOf]; omega
          · have HF : Hid (skF d j c N = 4) := Lib.hid (sk_bad hlt (by rw [HE.out]; exact decide_eq_false (by omega)))
            have hne : (sum != N) = true := by rw [bne_iff_ne]; exact hse
            clear hse
            go_wp2_with fail
            go_ret
            exact ⟨ret_int HF.out.symm, hbA⟩
    · obtain rfl : k = d := by omega
      have HF : Hid (skF k wd c N = 0) := Lib.hid (sk_ok HHEAD.out HR.out)
      go_wp2_with fail
      go_ret
      exact ⟨ret_int HF.out.symm, hbA⟩
end Go.Proofs.Ytmbmognhbljliaa.Sk
