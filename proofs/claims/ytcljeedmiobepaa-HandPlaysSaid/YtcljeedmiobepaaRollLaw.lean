/-
  Windows rolled up, as a plain function on rows of seven numbers: [T, N, Sum, Min, Max, First, Last].
-/
import Derived.WalkKit
namespace Go.Gh
open Go.RowKit

def rg (r : List Int) (j : Nat) : Int := r.getD j 0
def oneW (s : List Int) : List Int := [rg s 0, 1, rg s 1, rg s 1, rg s 1, rg s 1, rg s 1]
def bothW (a b : List Int) : List Int := [rg a 0, IntKind.i64.wrap (rg a 1 + rg b 1), IntKind.i64.wrap (rg a 2 + rg b 2), min (rg a 3) (rg b 3), max (rg a 4) (rg b 4), rg a 5, rg b 6]
/-- The start of the window of a time. -/
def startW (t width : Int) : Int := t - t % width
def setT (r : List Int) (t : Int) : List Int := t :: r.drop 1
/-- Fold rows behind those that are done; nothing, if a window counts more than 10^9. -/
def foldW (width : Int) (acc : List (List Int)) : List (List Int) → Option (List (List Int))
  | [] => some acc
  | x :: rest =>
    match acc.getLast? with
    | none => foldW width (acc ++ [setT x (startW (rg x 0) width)]) rest
    | some o =>
      if rg o 0 = startW (rg x 0) width then
        if 1000000000 < rg (bothW o x) 1 then none else foldW width (acc.dropLast ++ [bothW o x]) rest
      else foldW width (acc ++ [setT x (startW (rg x 0) width)]) rest
def goodT (t : Int) : Prop := -1152921504606846976 ≤ t ∧ t ≤ 1152921504606846976
instance (t : Int) : Decidable (goodT t) := inferInstanceAs (Decidable (_ ∧ _))
open Classical in
noncomputable def rolled (l : List (List Int)) (width : Int) : List (List Int) × Int :=
  if width < 1 ∨ 1099511627776 < width then ([], 1) else if ¬ ∀ r ∈ l, goodT (rg r 0) then ([], 6) else match foldW width [] l with
    | none => ([], 2)
    | some out => (out, 0)

theorem fold_new (width : Int) (acc : List (List Int)) (x : List Int) (rest : List (List Int)) (h : ∀ o, acc.getLast? = some o → rg o 0 ≠ startW (rg x 0) width) :
    foldW width acc (x :: rest) = foldW width (acc ++ [setT x (startW (rg x 0) width)]) rest := by
  rw [foldW]
  cases hl : acc.getLast? with
  | none => rfl
  | some o => simp [h o hl]
theorem fold_same (width : Int) (acc : List (List Int)) (o x : List Int) (rest : List (List Int)) (h : rg o 0 = startW (rg x 0) width) (hn : ¬ 1000000000 < rg (bothW o x) 1) :
    foldW width (acc ++ [o]) (x :: rest) = foldW width (acc ++ [bothW o x]) rest := by
  rw [foldW]
  simp [h, hn]
theorem fold_large (width : Int) (acc : List (List Int)) (o x : List Int) (rest : List (List Int)) (h : rg o 0 = startW (rg x 0) width) (hn : 1000000000 < rg (bothW o x) 1) :
    foldW width (acc ++ [o]) (x :: rest) = none := by
  rw [foldW]
  simp [h, hn]
theorem start_le (t width : Int) (h : 1 ≤ width) : startW t width ≤ t ∧ t < startW t width + width := by
  unfold startW
  have h1 := Int.emod_nonneg t (show width ≠ 0 by omega)
  have h2 := Int.emod_lt_of_pos t (show 0 < width by omega)
  omega
theorem rolled_ok {l : List (List Int)} {width : Int} (h : ¬ (width < 1 ∨ 1099511627776 < width)) (hg : ∀ i, i < l.length → goodT (rg (l.getD i []) 0)) : rolled l width = match foldW width [] l with
    | none => ([], 2)
    | some out => (out, 0) := by
  have hall : ∀ r ∈ l, goodT (rg r 0) := by
    intro r hr
    obtain ⟨i, hi, rfl⟩ := List.getElem_of_mem hr
    have := hg i hi
    rwa [List.getD_eq_getElem?_getD, List.getElem?_eq_getElem hi] at this
  unfold rolled
  rw [if_neg h, if_neg (fun hn => hn hall)]
theorem rolled_bad {l : List (List Int)} {width : Int} (h : ¬ (width < 1 ∨ 1099511627776 < width)) {i : Nat} (hi : i < l.length) (hg : ¬ goodT (rg (l.getD i []) 0)) : rolled l width = ([], 6) := by
  unfold rolled
  rw [if_neg h, if_pos]
  intro hall
  apply hg
  rw [List.getD_eq_getElem?_getD, List.getElem?_eq_getElem hi]
  exact hall _ (List.getElem_mem _)
theorem bothW_len (a b : List Int) : (bothW a b).length = 7 := rfl
theorem setT_len {r : List Int} (t : Int) (h : r.length = 7) : (setT r t).length = 7 := by
  unfold setT; simp [h]
theorem row7 (r : List Int) (h : r.length = 7) : ∃ a b c d e f g : Int, r = [a, b, c, d, e, f, g] := by
  match r, h with
  | [a, b, c, d, e, f, g], _ => exact ⟨a, b, c, d, e, f, g, rfl⟩
theorem drop_getD {l : List (List Int)} {k : Nat} (h : k < l.length) : l.drop k = l.getD k [] :: l.drop (k + 1) := by
  rw [List.getD_eq_getElem?_getD, List.getElem?_eq_getElem h]
  exact List.drop_eq_getElem_cons h
end Go.Gh
