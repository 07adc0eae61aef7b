/-
  The walks of both and Together: two windows made one.
-/
import Derived.Test.YtmbmognhbljliaaRoll2
namespace Go.Proofs.Ytmbmognhbljliaa.Roll
open Go.RowKit Go.Gh Go.Proofs.Ytmbmognhbljliaa.Smp
set_option linter.unusedVariables false

/-- A window as a value. -/
def winV (r : List Int) : Value := .agg (r.map (Value.int .i64)).toArray
theorem winV_cons (a b c d e f g : Int) : winV [a, b, c, d, e, f, g] = .agg #[.int .i64 a, .int .i64 b, .int .i64 c, .int .i64 d, .int .i64 e, .int .i64 f, .int .i64 g] := rfl

theorem wrap_eq (x : Int) : IntKind.i64.wrap x = wrap64 x := IntWalk.i64_left x

set_option maxHeartbeats 4000000 in
set_option maxRecDepth 100000 in
theorem both_any (a0 a1 a2 a3 a4 a5 a6 b0 b1 b2 b3 b4 b5 b6 : Int) (w : World) :
    Calls Try.prog 79 #[.agg #[.int .i64 a0, .int .i64 a1, .int .i64 a2, .int .i64 a3, .int .i64 a4, .int .i64 a5, .int .i64 a6], .agg #[.int .i64 b0, .int .i64 b1, .int .i64 b2, .int .i64 b3, .int .i64 b4, .int .i64 b5, .int .i64 b6]] w fun e w' => e = .returned (.agg #[.int .i64 a0, .int .i64 (IntKind.i64.wrap (a1 + b1)), .int .i64 (IntKind.i64.wrap (a2 + b2)), .int .i64 (min a3 b3), .int .i64 (max a4 b4), .int .i64 a5, .int .i64 b6]) ∧ Below w.heap.size w w' := by
  go_enter Try.func79, Try.ntmps79
  rcases Int.lt_or_le b3 a3 with h3 | h3 <;> rcases Int.lt_or_le a4 b4 with h4 | h4
  all_goals
    have H3 := Lib.hid h3
    have H4 := Lib.hid h4
    go_wp2_with fail
    refine bodyPost_ret (by simp [results, Try.results79, go_sem]; rfl) rfl ?_
    refine ⟨?_, (((Below.refl _ _).alloc (Nat.le_refl _) _).alloc (by simp) _).alloc (by simp; omega) _⟩
    have h3 := H3.out
    have h4 := H4.out
    have m3 : min a3 b3 = if a3 ≤ b3 then a3 else b3 := Int.min_def ..
    have m4 : max a4 b4 = if a4 ≤ b4 then b4 else a4 := Int.max_def ..
    rw [m3, m4, wrap_eq, wrap_eq]
    simp [h3, h4, Int.not_le.2, Int.le_of_lt]
    try omega

set_option maxHeartbeats 4000000 in
set_option maxRecDepth 100000 in
theorem together_any (a0 a1 a2 a3 a4 a5 a6 b0 b1 b2 b3 b4 b5 b6 : Int) (w : World) :
    Calls Try.prog 71 #[.agg #[.int .i64 a0, .int .i64 a1, .int .i64 a2, .int .i64 a3, .int .i64 a4, .int .i64 a5, .int .i64 a6], .agg #[.int .i64 b0, .int .i64 b1, .int .i64 b2, .int .i64 b3, .int .i64 b4, .int .i64 b5, .int .i64 b6]] w fun e w' => e = .returned (.agg #[.int .i64 a0, .int .i64 (IntKind.i64.wrap (a1 + b1)), .int .i64 (IntKind.i64.wrap (a2 + b2)), .int .i64 (min a3 b3), .int .i64 (max a4 b4), .int .i64 a5, .int .i64 b6]) ∧ Below w.heap.size w w' := by
  rcases Int.lt_or_le b3 a3 with h3 | h3 <;> rcases Int.lt_or_le a4 b4 with h4 | h4
  all_goals
    have H3 := Lib.hid h3
    have H4 := Lib.hid h4
    go_enter Try.func71, Try.ntmps71
    go_wp2_with fail
    refine bodyPost_ret (by simp [results, Try.results71, go_sem]; rfl) rfl ?_
    refine ⟨?_, ?_⟩
    · have h3 := H3.out
      have h4 := H4.out
      have m3 : min a3 b3 = if a3 ≤ b3 then a3 else b3 := Int.min_def ..
      have m4 : max a4 b4 = if a4 ≤ b4 then b4 else a4 := Int.max_def ..
      rw [m3, m4, wrap_eq, wrap_eq]
      simp [h3, h4, Int.not_le.2, Int.le_of_lt]
      try omega
    · exact ((((Below.refl _ _).alloc (Nat.le_refl _) _).alloc (by simp) _).alloc (by simp; omega) _).alloc (by simp; omega) _
end Go.Proofs.Ytmbmognhbljliaa.Roll
