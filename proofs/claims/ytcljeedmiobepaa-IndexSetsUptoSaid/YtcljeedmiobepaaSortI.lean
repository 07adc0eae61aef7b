/-
  slices.Sort at []int, of a row of the call's own.
-/
import Derived.Test.YtcljeedmiobepaaShelfI
import Derived.Sort.OwnSortedInts
import Derived.Test.YtcljeedmiobepaaLib6
import Derived.Test.YtcljeedmiobepaaIxLaw
namespace Go.Proofs.Ytcljeedmiobepaa.SortI
open Go.RowKit Go.Gh
set_option linter.unusedVariables false
theorem infoInt : (Try.prog.info? 3).map (fun i => (i.zero, i.size, i.bytes)) = some (some (.int .i64 0), 1, 8) := by kernel_rfl
theorem elInt : Elem Try.prog 130 3 1 8 := elem_of Try.underlying130 infoInt rfl (by decide)
theorem ints_one (l : List Int) : ∀ u ∈ l.map (Value.int .i64), u.oneCell' = true := by
  intro u hu; simp at hu; obtain ⟨z, _, rfl⟩ := hu; rfl
theorem grownBy_self (w : World) (r : Option Nat) : w.grownBy w r := ⟨rfl, rfl, rfl, Nat.le_refl _, fun k _ _ => rfl⟩
theorem sort_own (v : Value) (n B : Nat) (l : List Int) (w : World) (h : w.ownsRow B 3 1 v n (l.map (Value.int .i64))) (hn : n < 4611686018427387904) :
    Calls Try.prog 84 #[v] w fun e w' => e = .returned (.tuple #[]) ∧ w'.ownsRow B 3 1 v n ((l.mergeSort fun x y => decide (x ≤ y)).map (Value.int .i64)) ∧ w.grownBy w' v.ownBlock := by
  have hl : l.length = n := by simpa using h.1
  have h0 := h
  rcases h.2 with ⟨rfl, hn0⟩ | ⟨g, cap, cur, rfl, hb, hg, hn1, hm, hs, ht⟩
  · refine (slices_Sort_int_none_int none 0 w).mono ?_
    rintro e w' ⟨rfl, rfl⟩
    have hln : l = [] := List.length_eq_zero_iff.1 (by rw [hl, hn0])
    subst hln
    exact ⟨rfl, by simpa using h0, grownBy_self _ _⟩
  · have h1 := slices_Sort_int_int g 0 cap l w (holds_of_blockI hg (by rw [hl]; simpa using ht)) (Array.getElem?_eq_some_iff.1 hg).1 (by omega)
    rw [hl] at h1
    refine h1.mono ?_
    rintro e w' ⟨rfl, q, os, rfl⟩
    refine ⟨rfl, ?_, grownBy_sortedI _⟩
    have h2 := ownsRow_sortedI (n := q) (os := os) (e := 3) (ts := l.mergeSort fun x y => decide (x ≤ y)) (ss := l) (List.length_mergeSort _) hb hg (by omega) hm hs
    rw [hl] at h2
    exact h2
theorem sorted_le (l : List Int) : (l.mergeSort fun x y => decide (x ≤ y)).Pairwise (· ≤ ·) := by
  have h := List.pairwise_mergeSort (le := fun x y : Int => decide (x ≤ y)) (fun a b c h1 h2 => by simp at h1 h2 ⊢; omega) (fun a b => by simp; omega) l
  exact h.imp (fun h => by simpa using h)
theorem own_cut {w : World} {B size g n m cap : Nat} {e : TypeId} {xs : List Value} (h : w.ownsRow B e size (.slice (some ⟨g, 0, none⟩) n cap) n xs) (hm : m ≤ n) : w.ownsRow B e size (.slice (some ⟨g, 0, none⟩) m cap) m (xs.take (m * size)) := by
  rcases h.2 with ⟨e1, _⟩ | ⟨g', cap', cur, e1, hb, hg, hnc, hcm, hsz, ht⟩
  · simp at e1
  · simp at e1
    obtain ⟨rfl, rfl⟩ := e1
    have hms : m * size ≤ n * size := Nat.mul_le_mul_right _ hm
    refine ⟨by rw [List.length_take, h.1]; omega, Or.inr ⟨g, cap, cur, rfl, hb, hg, by omega, hcm, hsz, ?_⟩⟩
    rw [← ht, List.take_take, Nat.min_eq_left hms]
theorem grow_none (w : World) : Go.Sort.grow w #[] = w := by simp [Go.Sort.grow]
theorem compact_own (v : Value) (n B : Nat) (l : List Int) (w : World) (h : w.ownsRow B 3 1 v n (l.map (Value.int .i64))) (hn : n < 4611686018427387904) :
    Calls Try.prog 194 #[v] w fun e w' => ∃ v', e = .returned v' ∧ w'.ownsRow B 3 1 v' (Lib.compact l).length ((Lib.compact l).map (Value.int .i64)) ∧ w.grownBy w' v.ownBlock := by
  have hl : l.length = n := by simpa using h.1
  have h0 := h
  rcases h.2 with ⟨rfl, hn0⟩ | ⟨g, cap, cur, rfl, hb, hg, hn1, hm, hs, ht⟩
  · refine (slices_Compact_int_empty none 0 w).mono ?_
    rintro e w' ⟨rfl, rfl⟩
    have hln : l = [] := List.length_eq_zero_iff.1 (by rw [hl, hn0])
    subst hln
    exact ⟨_, rfl, World.ownsRow_nil _ _ _ _, grownBy_self _ _⟩
  · have h1 := slices_Compact_int g 0 cap l w (holds_of_blockI hg (by rw [hl]; simpa using ht)) (by omega) (by omega)
    rw [hl] at h1
    have hcl := Go.Gh.compact_len l
    refine h1.mono ?_
    rintro e w' ⟨rfl, q, rfl⟩
    have hlen : (Lib.compact l ++ List.replicate (n - (Lib.compact l).length) 0).length = l.length := by
      rw [List.length_append, List.length_replicate]
      omega
    have h2 := ownsRow_sortedI (n := q) (os := #[]) (e := 3) (ts := Lib.compact l ++ List.replicate (n - (Lib.compact l).length) 0) (ss := l) hlen hb hg (by omega) hm hs
    have h3 := grownBy_sortedI (w := w) (g := g) (n := q) (os := #[]) (Lib.compact l ++ List.replicate (n - (Lib.compact l).length) 0).toArray
    rw [grow_none] at h2 h3
    have h4 := own_cut h2 hcl
    rw [Nat.mul_one, ← List.map_take, List.take_left] at h4
    exact ⟨_, rfl, h4, h3⟩
end Go.Proofs.Ytcljeedmiobepaa.SortI
