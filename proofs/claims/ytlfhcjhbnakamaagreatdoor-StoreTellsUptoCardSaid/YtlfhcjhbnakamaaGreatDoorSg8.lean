/-
  The walks of Zig and Zag, and of the references to them.
-/
import Derived.Test.YtlfhcjhbnakamaaGreatDoorSg7
namespace Go.Proofs.YtlfhcjhbnakamaaGreatDoor.Bits
open Go.RowKit Go.Gh
set_option linter.unusedVariables false
theorem zig_any (n : Int) (h0 : -9223372036854775808 ≤ n) (h1 : n < 9223372036854775808) (w : World) :
    Calls Tryz.prog 45 #[.int .i64 n] w fun e w' => e = .returned (.int .u64 (zigI n)) ∧ w = w' := by
  by_cases hn : n < 0
  · have e : zigI n = -2 * n - 1 := if_pos hn
    rw [e]; clear e
    go_enter Tryz.func45, Tryz.ntmps45
    go_wp2
    go_ret
    refine ⟨ret_int ?_, rfl⟩
    have e1 : IntKind.u64.wrap (IntKind.u64.wrap n * 2) = 2 * n + 18446744073709551616 := by rw [IntKind.wrap_u64, IntKind.wrap_u64]; omega
    have e2 : IntKind.u64.wrap (n / 9223372036854775808) = 18446744073709551615 := by rw [IntKind.wrap_u64]; omega
    rw [e1, e2, u64_xor_ones _ (by omega) (by omega)]
    omega
  · have e : zigI n = 2 * n := if_neg hn
    rw [e]; clear e
    have h0 : 0 ≤ n := by omega
    go_enter Tryz.func45, Tryz.ntmps45
    go_wp2
    go_ret
    refine ⟨ret_int ?_, rfl⟩
    have e2 : n / 9223372036854775808 = 0 := by omega
    rw [e2, u64_xor_zero _ (by omega) (by omega)]
    omega

theorem zigof_any (n : Int) (h0 : -9223372036854775808 ≤ n) (h1 : n < 9223372036854775808) (w : World) :
    Calls Tryz.prog 53 #[.int .i64 n] w fun e w' => e = .returned (.int .u64 (zigI n)) ∧ w = w' := by
  by_cases hn : n < 0
  · have e : zigI n = -2 * n - 1 := if_pos hn
    rw [e]; clear e
    go_enter Tryz.func53, Tryz.ntmps53
    go_wp2
    go_ret
    refine ⟨ret_int ?_, rfl⟩
    go_arith
  · have e : zigI n = 2 * n := if_neg hn
    rw [e]; clear e
    have h0 : 0 ≤ n := by omega
    go_enter Tryz.func53, Tryz.ntmps53
    go_wp2
    go_ret
    refine ⟨ret_int ?_, rfl⟩
    go_arith

theorem zag_any (u : Int) (h0 : 0 ≤ u) (h1 : u < 18446744073709551616) (w : World) :
    Calls Tryz.prog 47 #[.int .u64 u] w fun e w' => e = .returned (.int .i64 (zagI u)) ∧ w = w' := by
  go_enter Tryz.func47, Tryz.ntmps47
  go_wp2
  go_ret
  refine ⟨ret_int ?_, rfl⟩
  rw [and_one u h0 h1]
  unfold zagI
  have w1 : wrap64 (u % 2) = u % 2 := by go_arith
  by_cases ho : u % 2 = 1
  · rw [if_pos ho, w1, ho]
    rw [show wrap64 (-1) = -1 from by go_arith]
    exact i64_xor_ones (u / 2) (by omega) (by omega)
  · have ho : u % 2 = 0 := by omega
    rw [if_neg (by omega), w1, ho]
    rw [show wrap64 (-0) = 0 from by go_arith]
    exact i64_xor_zero (u / 2) (by omega) (by omega)

theorem zagof_any (u : Int) (h0 : 0 ≤ u) (h1 : u < 18446744073709551616) (w : World) :
    Calls Tryz.prog 50 #[.int .u64 u] w fun e w' => e = .returned (.int .i64 (zagI u)) ∧ w = w' := by
  by_cases ho : u % 2 = 1
  · have e : zagI u = -(u / 2) - 1 := if_pos ho
    rw [e]; clear e
    go_enter Tryz.func50, Tryz.ntmps50
    go_wp2
    go_ret
    refine ⟨ret_int ?_, rfl⟩
    go_arith
  · have e : zagI u = u / 2 := if_neg ho
    rw [e]; clear e
    go_enter Tryz.func50, Tryz.ntmps50
    go_wp2
    go_ret
    refine ⟨ret_int ?_, rfl⟩
    go_arith

end Go.Proofs.YtlfhcjhbnakamaaGreatDoor.Bits
