/-
  Times as bits, as a plain function.
-/
import Derived.WalkKit
import Derived.Test.YtbifhmbfmoeofaaDoorBitsLaw3
namespace Go.Gh
open Go.RowKit
set_option linter.unusedVariables false

def wU (c : Int) : Int := IntKind.u64.wrap c
def wI (c : Int) : Int := IntKind.i64.wrap c
theorem wU_bd (c : Int) : 0 ≤ wU c ∧ wU c < 18446744073709551616 := by unfold wU; rw [IntKind.wrap_u64]; omega
def fitN (c : Int) (k : Nat) : Prop := match k with
  | 0 => c = 0
  | 1 => -64 ≤ c ∧ c ≤ 63
  | 2 => -256 ≤ c ∧ c ≤ 255
  | 3 => -2048 ≤ c ∧ c ≤ 2047
  | _ => True
instance (c : Int) (k : Nat) : Decidable (fitN c k) := by unfold fitN; split <;> infer_instance
def chBits (c : Int) : List Bool :=
  if c = 0 then [false] else if -64 ≤ c ∧ c ≤ 63 then [true, false] ++ signs (wU c) 7 else if -256 ≤ c ∧ c ≤ 255 then [true, true, false] ++ signs (wU c) 9
  else if -2048 ≤ c ∧ c ≤ 2047 then [true, true, true, false] ++ signs (wU c) 12 else [true, true, true, true] ++ signs (wU c) 64
theorem chBits_len (c : Int) : (chBits c).length ≤ 68 := by
  unfold chBits
  split
  · simp
  · split
    · rw [List.length_append, signs_len]; simp
    · split
      · rw [List.length_append, signs_len]; simp
      · split
        · rw [List.length_append, signs_len]; simp
        · rw [List.length_append, signs_len]; simp
def stepAt (l : List Int) (k : Nat) : Int := if k ≤ 1 then 0 else wI (l.getD (k - 1) 0 - l.getD (k - 2) 0)
def chAt (l : List Int) (k : Nat) : Int := wI (wI (l.getD k 0 - l.getD (k - 1) 0) - stepAt l k)
def tsTo (l : List Int) : Nat → List Bool
  | 0 => signs l.length 16
  | 1 => signs l.length 16 ++ signs (wU (l.getD 0 0)) 64
  | k + 2 => tsTo l (k + 1) ++ chBits (chAt l (k + 1))
theorem ts_zero (l : List Int) : tsTo l 0 = signs l.length 16 := rfl
theorem ts_first (l : List Int) : tsTo l 1 = tsTo l 0 ++ signs (wU (l.getD 0 0)) 64 := rfl
theorem ts_next (l : List Int) (k : Nat) : tsTo l (k + 1 + 1) = tsTo l (k + 1) ++ chBits (chAt l (k + 1)) := rfl
theorem ts_len (l : List Int) : ∀ k, (tsTo l k).length ≤ 80 + 68 * k
  | 0 => by rw [ts_zero, signs_len]; omega
  | 1 => by rw [ts_first, ts_zero, List.length_append, signs_len, signs_len]; omega
  | k + 2 => by
    rw [ts_next, List.length_append]
    have := ts_len l (k + 1)
    have := chBits_len (chAt l (k + 1))
    omega
end Go.Gh
