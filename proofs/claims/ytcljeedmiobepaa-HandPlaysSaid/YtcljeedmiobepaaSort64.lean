/-
  slices.Sort at []int64, of a row of the call's own.
-/
import Derived.Test.YtcljeedmiobepaaShelf64
import Derived.Sort.OwnSortedInts
import Derived.Test.YtcljeedmiobepaaLib6
namespace Go.Proofs.Ytcljeedmiobepaa.Sort64
open Go.RowKit Go.Gh
set_option linter.unusedVariables false
theorem infoI64 : (Try.prog.info? 2).map (fun i => (i.zero, i.size, i.bytes)) = some (some (.int .i64 0), 1, 8) := by kernel_rfl
theorem elI64 : Elem Try.prog 72 2 1 8 := elem_of Try.underlying72 infoI64 rfl (by decide)
theorem ints_one (l : List Int) : ∀ u ∈ l.map (Value.int .i64), u.oneCell' = true := by
  intro u hu; simp at hu; obtain ⟨z, _, rfl⟩ := hu; rfl
theorem grownBy_self (w : World) (r : Option Nat) : w.grownBy w r := ⟨rfl, rfl, rfl, Nat.le_refl _, fun k _ _ => rfl⟩
theorem sort_own (v : Value) (n B : Nat) (l : List Int) (w : World) (h : w.ownsRow B 2 1 v n (l.map (Value.int .i64))) (hn : n < 4611686018427387904) :
    Calls Try.prog 122 #[v] w fun e w' => e = .returned (.tuple #[]) ∧ w'.ownsRow B 2 1 v n ((l.mergeSort fun x y => decide (x ≤ y)).map (Value.int .i64)) ∧ w.grownBy w' v.ownBlock := by
  have hl : l.length = n := by simpa using h.1
  have h0 := h
  rcases h.2 with ⟨rfl, hn0⟩ | ⟨g, cap, cur, rfl, hb, hg, hn1, hm, hs, ht⟩
  · refine (slices_Sort_int_none_i64 none 0 w).mono ?_
    rintro e w' ⟨rfl, rfl⟩
    have hln : l = [] := List.length_eq_zero_iff.1 (by rw [hl, hn0])
    subst hln
    exact ⟨rfl, by simpa using h0, grownBy_self _ _⟩
  · have h1 := slices_Sort_int_i64 g 0 cap l w (holds_of_blockI hg (by rw [hl]; simpa using ht)) (Array.getElem?_eq_some_iff.1 hg).1 (by omega)
    rw [hl] at h1
    refine h1.mono ?_
    rintro e w' ⟨rfl, q, os, rfl⟩
    refine ⟨rfl, ?_, grownBy_sortedI _⟩
    have h2 := ownsRow_sortedI (n := q) (os := os) (e := 2) (ts := l.mergeSort fun x y => decide (x ≤ y)) (ss := l) (List.length_mergeSort _) hb hg (by omega) hm hs
    rw [hl] at h2
    exact h2
theorem sorted_le (l : List Int) : (l.mergeSort fun x y => decide (x ≤ y)).Pairwise (· ≤ ·) := by
  have h := List.pairwise_mergeSort (le := fun x y : Int => decide (x ≤ y)) (fun a b c h1 h2 => by simp at h1 h2 ⊢; omega) (fun a b => by simp; omega) l
  exact h.imp (fun h => by simpa using h)
end Go.Proofs.Ytcljeedmiobepaa.Sort64
