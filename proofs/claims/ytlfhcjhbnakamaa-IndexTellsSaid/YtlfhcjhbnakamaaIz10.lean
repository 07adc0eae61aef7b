/-
  A row of uint64 in one block; Less; reverseRange.
-/
import Derived.Test.YtlfhcjhbnakamaaIz1
import Derived.Test.YtlfhcjhbnakamaaIz9
import Derived.Test.YtlfhcjhbnakamaaProg
import Derived.BigRegion
import Derived.BigQuiet
import Derived.Deep.QuietTactic
import Derived.IntWalk
namespace Go.Proofs.Ytlfhcjhbnakamaa.Qs
open Go.RowKit Go.Gh
set_option linter.unusedVariables false
set_option linter.unusedSimpArgs false
def u64 (D : List Int) : List Value := D.map (Value.int .u64)
/-- The row's block. -/
def RowAt (g : Nat) (D : List Int) (rest : List Value) (w : World) : Prop := w.heap[g]? = some (.cells (u64 D ++ rest).toArray 22 (0, 0))
section
variable {g : Nat} {D : List Int} {rest : List Value} {w : World}
theorem RowAt.get (h : RowAt g D rest w) {i : Nat} (hi : i < D.length) : w.cell? ⟨g, i, none⟩ = some (.int .u64 (el D i)) ∧ w.frozen? ⟨g, i, none⟩ = false := by
  refine row_cell i _ h ?_
  unfold u64
  rw [List.getElem?_toArray, List.getElem?_append_left (by rw [List.length_map]; exact hi), List.getElem?_map, el_get hi]
  rfl
theorem u64_set (D : List Int) (i : Nat) (x : Int) (rest : List Value) (hi : i < D.length) : (u64 D ++ rest).set i (.int .u64 x) = u64 (D.set i x) ++ rest := by
  unfold u64
  rw [List.set_append_left _ _ (by rw [List.length_map]; exact hi), List.map_set]
theorem RowAt.set (h : RowAt g D rest w) {i : Nat} (hi : i < D.length) (x : Int) : RowAt g (D.set i x) rest (w.setCell ⟨g, i, none⟩ (.int .u64 x)) := by
  have h1 := row_setCell i (.int .u64 x) h
  rw [List.setIfInBounds_toArray, u64_set D i x rest hi] at h1
  exact h1
theorem RowAt.swap (h : RowAt g D rest w) {i j : Nat} (hi : i < D.length) (hj : j < D.length) : RowAt g (sw D i j) rest ((w.setCell ⟨g, i, none⟩ (.int .u64 (el D j))).setCell ⟨g, j, none⟩ (.int .u64 (el D i))) :=
  (h.set hi (el D j)).set (by rw [List.length_set]; exact hj) (el D i)
theorem RowAt.grown {w' : World} (h : RowAt g D rest w) {r : Option Nat} (hg : w.grownBy w' r) (hr : r ≠ some g) : RowAt g D rest w' := grown_block2 hg hr h
theorem RowAt.below {w' : World} (h : RowAt g D rest w) (hb : Below w.heap.size w w') : RowAt g D rest w' := (hb.block g (Array.getElem?_eq_some_iff.1 h).1).trans h
theorem RowAt.lt (h : RowAt g D rest w) : g < w.heap.size := (Array.getElem?_eq_some_iff.1 h).1
theorem grown_below {w w' : World} {r : Option Nat} (h : Below w.heap.size w w') : w.grownBy w' r := ⟨h.os, h.tape, h.output, h.size, fun k hk _ => h.block k hk⟩
/-- All that a swap's region wants. -/
theorem RowAt.swaps (h : RowAt g D rest w) {i j : Nat} (hi : i < D.length) (hj : j < D.length) : (w.cell? ⟨g, i, none⟩ = some (.int .u64 (el D i)) ∧ w.cell? ⟨g, j, none⟩ = some (.int .u64 (el D j))) ∧ (w.frozen? ⟨g, i, none⟩ = false ∧ w.frozen? ⟨g, j, none⟩ = false ∧ (w.setCell ⟨g, i, none⟩ (.int .u64 (el D j))).frozen? ⟨g, j, none⟩ = false) ∧
    RowAt g (sw D i j) rest ((w.setCell ⟨g, i, none⟩ (.int .u64 (el D j))).setCell ⟨g, j, none⟩ (.int .u64 (el D i))) :=
  ⟨⟨(h.get hi).1, (h.get hj).1⟩, ⟨(h.get hi).2, (h.get hj).2, ((h.set hi (el D j)).get (by rw [List.length_set]; exact hj)).2⟩, h.swap hi hj⟩
theorem RowAt.once (h : RowAt g D rest w) {i j : Nat} (hi : i < D.length) (hj : j < D.length) : (w.setCell ⟨g, i, none⟩ (.int .u64 (el D j))).cell? ⟨g, j, none⟩ = some (.int .u64 (el (D.set i (el D j)) j)) :=
  ((h.set hi (el D j)).get (by rw [List.length_set]; exact hj)).1
theorem grown_swap {w0 : World} (h : w0.grownBy w (some g)) (i j : Nat) (u v : Value) : w0.grownBy ((w.setCell ⟨g, i, none⟩ u).setCell ⟨g, j, none⟩ v) (some g) := grown_setCell (grown_setCell h i u) j v
end
/-- What a call that turns a row by swaps leaves. -/
def QsP (g : Nat) (rest : List Value) (a b : Nat) (D : List Int) (Q : List Int → Prop) (w w' : World) : Prop := ∃ E, Pm a b D E ∧ Q E ∧ RowAt g E rest w' ∧ w.grownBy w' (some g)
theorem isnan_any (x : Int) (w : World) : Calls Try.prog 133 #[.int .u64 x] w fun e w' => e = .returned (.bool false) ∧ w = w' := by
  go_enter Try.func133, Try.ntmps133
  go_wp2_with fail
  go_ret
  exact ⟨rfl, rfl⟩
theorem less_any (x y : Int) (w : World) : Calls Try.prog 125 #[.int .u64 x, .int .u64 y] w fun e w' => e = .returned (.bool (decide (x < y))) ∧ w = w' := by
  go_enter Try.func125, Try.ntmps125
  go_wp2_with (go_at_call 133; refine (isnan_any _ _).mono ?_; rintro e w2 ⟨rfl, rfl⟩)
  go_ret
  exact ⟨rfl, rfl⟩
theorem less_q (x y : Int) (w : World) : Calls Try.prog 125 #[.int .u64 x, .int .u64 y] w fun e w' => e = .returned (.bool (decide (x < y))) ∧ ∃ q, w' = w.drewN q :=
  (less_any x y w).mono fun e w' ⟨h1, h2⟩ => ⟨h1, 0, h2.symm⟩
set_option maxHeartbeats 4000000 in
set_option maxRecDepth 100000 in
theorem reverse_any (g cap a b : Nat) (D : List Int) (rest : List Value) (w : World) (hR : RowAt g D rest w) (hab : a ≤ b) (hb : b ≤ D.length) (hn : D.length ≤ 1000000) (hcap : D.length ≤ cap) (hc : cap ≤ 9223372036854775807) :
    Calls Try.prog 123 #[.slice (some ⟨g, 0, none⟩) D.length cap, .int .i64 a, .int .i64 b] w fun e w' => e = .returned (.tuple #[]) ∧ QsP g rest a b D (fun _ => True) w w' := by
  obtain ⟨n, hN⟩ : ∃ n, D.length = n := ⟨_, rfl⟩
  rw [hN] at hb hn hcap ⊢
  have HN := Lib.hid hN
  have HR := Lib.hid hR
  clear hN hR
  go_enter Try.func123, Try.ntmps123
  go_wp2_with fail
  go_loopw [6, 7] (fun i j wr => ∃ (k m : Nat) (E : List Int), i = .int .i64 k ∧ j = .int .i64 ((m : Int) - 1) ∧ a ≤ k ∧ m ≤ b ∧ Hid (Pm a b D E) ∧ Hid (RowAt g E rest wr) ∧ Hid (w.grownBy wr (some g))) (fun i j _ => (intOf j - intOf i + 1).toNat)
  case atStart => exact ⟨a, b, D, rfl, rfl, Nat.le_refl _, Nat.le_refl _, Lib.hid .refl, HR, Lib.hid (grown_below (Below.refl _ _))⟩
  case round =>
    obtain ⟨k, m, E, rfl, rfl, hk, hm, HP, HE, HG⟩ := hrel
    by_cases hlt : (k : Int) < (m : Int) - 1
    case neg =>
      go_wp2_with fail
      go_end0
      exact ⟨rfl, E, HP.out, trivial, HE.out, HG.out⟩
    obtain ⟨q, rfl⟩ : ∃ q, m = q + 1 := ⟨m - 1, by omega⟩
    have hEl : E.length = n := by rw [HP.out.len]; exact HN.out
    obtain ⟨⟨ci, cj⟩, ⟨fi, fj, fij⟩, hS⟩ := HE.out.swaps (i := k) (j := q) (by omega) (by omega)
    have HS := Lib.hid hS
    have HEL := Lib.hid hEl
    have hqi : ((q + 1 : Nat) : Int) - 1 = (q : Int) := by omega
    rw [hqi] at hlt ⊢
    have hq1 : (q : Int) < (n : Int) := by omega
    have hk1 : (k : Int) < (n : Int) := by omega
    have hk2 : k < n := by omega
    have hq2 : q < n := by omega
    have HP2 := Lib.hid (HP.out.step (i := k) (j := q) hk (by omega) (by omega) (by omega))
    clear hS hEl hqi
    go_upto_region 3 with (fail)
    go_region
    obtain ⟨wn, hwn⟩ : ∃ wn, wn = ((wr.setCell ⟨g, k, none⟩ (.int .u64 (el E q))).setCell ⟨g, q, none⟩ (.int .u64 (el E k))).drew := ⟨_, rfl⟩
    have HE2 : Hid (RowAt g (sw E k q) rest wn) := Lib.hid (by rw [hwn]; exact HS.out)
    have HG2 : Hid (w.grownBy wn (some g)) := Lib.hid (by rw [hwn]; exact grown_drewN (grown_swap HG.out k q _ _) 1)
    rw [← hwn]
    clear hwn ci cj fi fj fij
    go_wp2_with fail
    go_roundw
    case rel => exact ⟨k + 1, q, _, by go_num, by go_num, by omega, by omega, HP2, HE2, HG2⟩
    case measure => simp [intOf]; omega
end Go.Proofs.Ytlfhcjhbnakamaa.Qs
/-
  order2, median, medianAdjacent, choosePivot.
-/
namespace Go.Proofs.Ytlfhcjhbnakamaa.Qs
open Go.RowKit Go.Gh
set_option linter.unusedVariables false
set_option linter.unusedSimpArgs false
/-- The box of the count of swaps. -/
def SwB (sb : Nat) (s : Int) (w : World) : Prop := w.heap[sb]? = some (.cells #[.int .i64 s] 3 (0, 0))
theorem SwB.get {sb : Nat} {s : Int} {w : World} (h : SwB sb s w) : w.cell? ⟨sb, 0, none⟩ = some (.int .i64 s) ∧ w.frozen? ⟨sb, 0, none⟩ = false := row_cell 0 _ h rfl
theorem SwB.set {sb : Nat} {s : Int} {w : World} (h : SwB sb s w) (x : Int) : SwB sb x (w.setCell ⟨sb, 0, none⟩ (.int .i64 x)) := row_setCell 0 (.int .i64 x) h
def O2P (sb a b : Nat) (s : Int) (w : World) (e : Ending) (w' : World) : Prop := ∃ (x y : Nat) (s' : Int), e = .returned (.tuple #[.int .i64 x, .int .i64 y]) ∧ (x = a ∧ y = b ∨ x = b ∧ y = a) ∧ (s ≤ s' ∧ s' ≤ s + 1) ∧ SwB sb s' w' ∧ w.grownBy w' (some sb)
set_option maxHeartbeats 4000000 in
set_option maxRecDepth 100000 in
theorem order2_any (g cap a b sb : Nat) (D : List Int) (rest : List Value) (s : Int) (w : World) (hR : RowAt g D rest w) (hs : SwB sb s w) (h0 : 0 ≤ s) (h1 : s ≤ 1000) (ha : a < D.length) (hb : b < D.length) (hn : D.length ≤ 1000000) (hcap : D.length ≤ cap) (hc : cap ≤ 9223372036854775807) :
    Calls Try.prog 138 #[.slice (some ⟨g, 0, none⟩) D.length cap, .int .i64 a, .int .i64 b, .pointer (some ⟨sb, 0, none⟩)] w (O2P sb a b s w) := by
  obtain ⟨ca, -⟩ := hR.get ha
  obtain ⟨cb, -⟩ := hR.get hb
  obtain ⟨n, hN⟩ : ∃ n, D.length = n := ⟨_, rfl⟩
  rw [hN] at ha hb hn hcap ⊢
  have HS := Lib.hid hs
  obtain ⟨x, hx⟩ : ∃ x, el D a = x := ⟨_, rfl⟩
  obtain ⟨y, hy⟩ : ∃ x, el D b = x := ⟨_, rfl⟩
  rw [hx] at ca
  rw [hy] at cb
  have ha1 : (a : Int) < (n : Int) := by omega
  have hb1 : (b : Int) < (n : Int) := by omega
  have ha0 : (0 : Int) ≤ (a : Int) := by omega
  have hb0 : (0 : Int) ≤ (b : Int) := by omega
  clear hR hs hN hx hy
  go_enter Try.func138, Try.ntmps138
  go_upto_region 1 with (fail)
  by_cases hlt : y < x
  · go_quiet ((go_at_call 125; exact Calls.quiet_of (less_q _ _ _)))
    obtain ⟨wq, hwq⟩ : ∃ wq, wq = w.drewN nq := ⟨_, rfl⟩
    have HS2 : SwB sb s wq := by rw [hwq]; exact HS.out
    obtain ⟨e0, e1⟩ := HS2.get
    have HS3 := Lib.hid (HS2.set (s + 1))
    have HG : Hid (w.grownBy wq (some sb)) := Lib.hid (by rw [hwq]; exact grown_drewN (grown_below (Below.refl _ _)) nq)
    rw [← hwq]
    clear hwq ca cb HS2
    go_wp2_with fail
    go_ret2
    exact ⟨b, a, s + 1, rfl, Or.inr ⟨rfl, rfl⟩, by omega, HS3.out, grown_setCell HG.out 0 _⟩
  · go_quiet ((go_at_call 125; exact Calls.quiet_of (less_q _ _ _)))
    obtain ⟨wq, hwq⟩ : ∃ wq, wq = w.drewN nq := ⟨_, rfl⟩
    have HS2 : SwB sb s wq := by rw [hwq]; exact HS.out
    have HG : Hid (w.grownBy wq (some sb)) := Lib.hid (by rw [hwq]; exact grown_drewN (grown_below (Below.refl _ _)) nq)
    rw [← hwq]
    clear hwq ca cb
    go_wp2_with fail
    go_ret2
    exact ⟨a, b, s, rfl, Or.inl ⟨rfl, rfl⟩, by omega, HS2, HG.out⟩
def MdP (sb a b c : Nat) (s : Int) (w : World) (e : Ending) (w' : World) : Prop := ∃ (x : Nat) (s' : Int), e = .returned (.int .i64 x) ∧ (x = a ∨ x = b ∨ x = c) ∧ (s ≤ s' ∧ s' ≤ s + 3) ∧ SwB sb s' w' ∧ w.grownBy w' (some sb)
theorem some_ne {g sb : Nat} (h : g ≠ sb) : (some sb : Option Nat) ≠ some g := fun e => h (Option.some.inj e).symm
set_option maxHeartbeats 4000000 in
set_option maxRecDepth 100000 in
theorem median_any (g cap a b c sb : Nat) (D : List Int) (rest : List Value) (s : Int) (w : World) (hR : RowAt g D rest w) (hs : SwB sb s w) (hne : g ≠ sb) (h0 : 0 ≤ s) (h1 : s ≤ 900) (ha : a < D.length) (hb : b < D.length) (hcl : c < D.length) (hn : D.length ≤ 1000000) (hcap : D.length ≤ cap) (hc : cap ≤ 9223372036854775807) :
    Calls Try.prog 132 #[.slice (some ⟨g, 0, none⟩) D.length cap, .int .i64 a, .int .i64 b, .int .i64 c, .pointer (some ⟨sb, 0, none⟩)] w (MdP sb a b c s w) := by
  have HO := Lib.hid (fun (a b : Nat) (s : Int) (W : World) (hR : RowAt g D rest W) (hs : SwB sb s W) (h0 : 0 ≤ s) (h1 : s ≤ 1000) (ha : a < D.length) (hb : b < D.length) => order2_any g cap a b sb D rest s W hR hs h0 h1 ha hb hn hcap hc)
  have HR := Lib.hid hR
  have HS := Lib.hid hs
  have HNE := Lib.hid (some_ne hne)
  obtain ⟨n, hN⟩ : ∃ n, D.length = n := ⟨_, rfl⟩
  rw [hN] at ha hb hcl HO ⊢
  clear hR hs hN hn hcap hc hne
  have H1 := Lib.hid (HO.out a b s w HR.out HS.out h0 (by omega) ha hb)
  go_enter Try.func132, Try.ntmps132
  go_wp2_with fail
  refine H1.out.mono ?_
  rintro e w1 ⟨x1, y1, s1, rfl, hxy, hs1, hb1, hg1⟩
  have HR1 := Lib.hid (HR.out.grown hg1 HNE.out)
  have HG1 := Lib.hid hg1
  have hx1 : x1 < n := by omega
  have hy1 : y1 < n := by omega
  have H2 := Lib.hid (HO.out y1 c s1 w1 HR1.out hb1 (by omega) (by omega) hy1 hcl)
  have HXY := Lib.hid hxy
  have HS1 := Lib.hid hs1
  clear hxy hb1 hg1
  go_wp2_with fail
  refine H2.out.mono ?_
  rintro e w2 ⟨x2, y2, s2, rfl, hxy2, hs2, hb2, hg2⟩
  have HR2 := Lib.hid (HR1.out.grown hg2 HNE.out)
  have HG2 := Lib.hid (grown_trans HG1.out hg2)
  have hx2 : x2 < n := by omega
  have H3 := Lib.hid (HO.out x1 x2 s2 w2 HR2.out hb2 (by omega) (by omega) hx1 hx2)
  have HXY2 := Lib.hid hxy2
  have HS2 := Lib.hid hs2
  clear hxy2 hb2 hg2
  go_wp2_with fail
  refine H3.out.mono ?_
  rintro e w3 ⟨x3, y3, s3, rfl, hxy3, hs3, hb3, hg3⟩
  have HG3 := Lib.hid (grown_trans HG2.out hg3)
  have HXY3 := Lib.hid hxy3
  have HS3 := Lib.hid hs3
  have HB3 := Lib.hid hb3
  clear hxy3 hb3 hg3 hs1 hs2 hs3
  go_wp2_with fail
  go_ret
  refine ⟨y3, s3, rfl, ?_, ?_, HB3.out, HG3.out⟩
  · have q1 := HXY.out
    have q2 := HXY2.out
    have q3 := HXY3.out
    omega
  · have q1 := HS1.out
    have q2 := HS2.out
    have q3 := HS3.out
    omega
set_option maxHeartbeats 4000000 in
set_option maxRecDepth 100000 in
theorem medianadj_any (g cap a sb : Nat) (D : List Int) (rest : List Value) (s : Int) (w : World) (hR : RowAt g D rest w) (hs : SwB sb s w) (hne : g ≠ sb) (h0 : 0 ≤ s) (h1 : s ≤ 900) (ha : 1 ≤ a) (hb : a + 1 < D.length) (hn : D.length ≤ 1000000) (hcap : D.length ≤ cap) (hc : cap ≤ 9223372036854775807) :
    Calls Try.prog 131 #[.slice (some ⟨g, 0, none⟩) D.length cap, .int .i64 a, .pointer (some ⟨sb, 0, none⟩)] w (MdP sb (a - 1) a (a + 1) s w) := by
  have HM := Lib.hid (median_any g cap (a - 1) a (a + 1) sb D rest s w hR hs hne h0 h1 (by omega) (by omega) hb hn hcap hc)
  obtain ⟨n, hN⟩ : ∃ n, D.length = n := ⟨_, rfl⟩
  obtain ⟨p, hp⟩ : ∃ p, a - 1 = p := ⟨_, rfl⟩
  obtain ⟨q, hq⟩ : ∃ p, a + 1 = p := ⟨_, rfl⟩
  have e1 : (a : Int) - 1 = (p : Int) := by omega
  have e2 : (a : Int) + 1 = (q : Int) := by omega
  have hq9 : q ≤ 1000000 := by omega
  rw [hN] at HM hb hn ⊢
  rw [hp, hq] at HM ⊢
  clear hR hs hN hcap hc hne hp hq hn
  go_enter Try.func131, Try.ntmps131
  go_wp2_with fail
  refine HM.out.mono ?_
  rintro e w1 ⟨x, s1, rfl, hx, hs1, hb1, hg1⟩
  have HH := Lib.hid (And.intro hx (And.intro hs1 (And.intro hb1 hg1)))
  clear hx hs1 hb1 hg1
  go_wp2_with fail
  go_ret
  exact ⟨x, s1, rfl, HH.out.1, HH.out.2.1, HH.out.2.2.1, HH.out.2.2.2⟩
def CpP (a b : Nat) (w : World) (e : Ending) (w' : World) : Prop := ∃ (p : Nat) (h : Int), e = .returned (.tuple #[.int .i64 p, .int .i64 h]) ∧ a ≤ p ∧ p < b ∧ (h = 0 ∨ h = 1 ∨ h = 2) ∧ Below w.heap.size w w'
end Go.Proofs.Ytlfhcjhbnakamaa.Qs
/-
  choosePivot (PRINTED by mkqs3.py).
-/
namespace Go.Proofs.Ytlfhcjhbnakamaa.Qs
open Go.RowKit Go.Gh
set_option linter.unusedVariables false
set_option linter.unusedSimpArgs false
set_option maxHeartbeats 8000000 in
set_option maxRecDepth 100000 in
theorem choose_any (g cap a b : Nat) (D : List Int) (rest : List Value) (w : World) (hR : RowAt g D rest w) (hl : a + 12 < b) (hb : b ≤ D.length) (hn : D.length ≤ 1000000) (hcap : D.length ≤ cap) (hc : cap ≤ 9223372036854775807) :
    Calls Try.prog 122 #[.slice (some ⟨g, 0, none⟩) D.length cap, .int .i64 a, .int .i64 b] w (CpP a b w) := by
  obtain ⟨l, hl1⟩ : ∃ l, b - a = l := ⟨_, rfl⟩
  obtain ⟨Q, hQ⟩ : ∃ Q, l / 4 = Q := ⟨_, rfl⟩
  obtain ⟨I, hI⟩ : ∃ I, a + Q = I := ⟨_, rfl⟩
  obtain ⟨J, hJ⟩ : ∃ I, a + Q * 2 = I := ⟨_, rfl⟩
  obtain ⟨K, hK⟩ : ∃ I, a + Q * 3 = I := ⟨_, rfl⟩
  have e1 : (b : Int) - (a : Int) = (l : Int) := by omega
  have e2 : (l : Int) / 4 = (Q : Int) := by omega
  have e3 : (a : Int) + (Q : Int) = (I : Int) := by omega
  have e4 : (a : Int) + (Q : Int) * 2 = (J : Int) := by omega
  have e5 : (a : Int) + (Q : Int) * 3 = (K : Int) := by omega
  have hq9 : Q ≤ 250000 := by omega
  have hl9 : l ≤ 1000000 := by omega
  have hl12 : 12 < l := by omega
  obtain ⟨wA, hwA⟩ : ∃ wA, wA = w.alloc (Obj.cells #[.int .i64 0] 3) := ⟨_, rfl⟩
  have hbA : Below w.heap.size w wA := by rw [hwA]; exact (Below.refl _ _).alloc (Nat.le_refl _) _
  have hsw : SwB w.heap.size 0 wA := by rw [hwA]; exact heap_alloc_new w _
  have hne : g ≠ w.heap.size := by have := hR.lt; omega
  have HBA := Lib.hid hbA
  have HWA := Lib.hid hwA
  have HRA := Lib.hid (hR.below hbA)
  have HMA := Lib.hid (fun (i : Nat) (s : Int) (W : World) (hR : RowAt g D rest W) (hs : SwB w.heap.size s W) (h0 : 0 ≤ s) (h1 : s ≤ 900) (hi : 1 ≤ i) (hi2 : i + 1 < D.length) => medianadj_any g cap i w.heap.size D rest s W hR hs hne h0 h1 hi hi2 hn hcap hc)
  have HMD := Lib.hid (fun (i j k : Nat) (s : Int) (W : World) (hR : RowAt g D rest W) (hs : SwB w.heap.size s W) (h0 : 0 ≤ s) (h1 : s ≤ 900) (hi : i < D.length) (hj : j < D.length) (hk : k < D.length) => median_any g cap i j k w.heap.size D rest s W hR hs hne h0 h1 hi hj hk hn hcap hc)
  have HNE := Lib.hid (some_ne hne)
  have HSW := Lib.hid hsw
  obtain ⟨n, hN⟩ : ∃ n, D.length = n := ⟨_, rfl⟩
  have HBn : Hid (b ≤ n) := Lib.hid (by omega)
  rw [hN] at HMA HMD ⊢
  have HA := Lib.hid (And.intro hl1 (And.intro hQ (And.intro hI (And.intro hJ hK))))
  have hI2 : a < I ∧ I + 1 < J ∧ J + 1 < K ∧ K < b := by omega
  have HI2 := Lib.hid hI2
  have hIJK : I ≤ 1000000 ∧ J ≤ 1000000 ∧ K ≤ 1000000 := by omega
  obtain ⟨i9, j9, k9⟩ := hIJK
  clear hR hN hn hcap hc hne hwA hbA hsw hl hb hl1 hQ hI hJ hK hI2
  obtain ⟨sb, hsb⟩ : ∃ sb, w.heap.size = sb := ⟨_, rfl⟩
  rw [hsb] at HMA HMD HNE HSW
  have HSB := Lib.hid hsb
  clear hsb
  go_enter Try.func122, Try.ntmps122
  go_upto_region 3 with (fail)
  rw [HSB.out, ← HWA.out]
  by_cases h50 : 50 ≤ l
  · have HI3 : Hid (a + 1 < I ∧ I + 2 < J ∧ J + 2 < K ∧ K + 1 < b) := Lib.hid (by
      have h1 := HA.out.1
      have h2 := HA.out.2.1
      have h3 := HA.out.2.2.1
      have h4 := HA.out.2.2.2.1
      have h5 := HA.out.2.2.2.2
      have h6 := HI2.out
      omega)
    have H1 := Lib.hid (HMA.out I 0 wA HRA.out HSW.out (by decide) (by decide) (by have := HI3.out; omega) (by have := HI3.out; have := HBn.out; omega))
    go_wp2_with fail
    refine H1.out.mono ?_
    rintro e w1 ⟨x1, s1, rfl, hx1, hs1, hb1, hg1⟩
    have HX1 := Lib.hid hx1
    have HS1 := Lib.hid hs1
    have HR1 := Lib.hid (HRA.out.grown hg1 HNE.out)
    have HG1 := Lib.hid hg1
    have H2 := Lib.hid (HMA.out J s1 w1 HR1.out hb1 (by omega) (by omega) (by have := HI3.out; omega) (by have := HI3.out; have := HBn.out; omega))
    clear hx1 hs1 hb1 hg1
    go_wp2_with fail
    refine H2.out.mono ?_
    rintro e w2 ⟨x2, s2, rfl, hx2, hs2, hb2, hg2⟩
    have HX2 := Lib.hid hx2
    have HS2 := Lib.hid hs2
    have HR2 := Lib.hid (HR1.out.grown hg2 HNE.out)
    have HG2 := Lib.hid (grown_trans HG1.out hg2)
    have H3 := Lib.hid (HMA.out K s2 w2 HR2.out hb2 (by have := HS1.out; omega) (by have := HS1.out; omega) (by have := HI3.out; omega) (by have := HI3.out; have := HBn.out; omega))
    clear hx2 hs2 hb2 hg2
    go_wp2_with fail
    refine H3.out.mono ?_
    rintro e w3 ⟨x3, s3, rfl, hx3, hs3, hb3, hg3⟩
    have HX3 := Lib.hid hx3
    have HS3 := Lib.hid hs3
    have HR3 := Lib.hid (HR2.out.grown hg3 HNE.out)
    have HG3 := Lib.hid (grown_trans HG2.out hg3)
    have HXX : Hid ((a ≤ x1 ∧ x1 < b) ∧ (a ≤ x2 ∧ x2 < b) ∧ (a ≤ x3 ∧ x3 < b)) := Lib.hid (by
      have h1 := HX1.out
      have h2 := HX2.out
      have h3 := HX3.out
      have h6 := HI3.out
      omega)
    have HSS : Hid (0 ≤ s3 ∧ s3 ≤ 9) := Lib.hid (by
      have h1 := HS1.out
      have h2 := HS2.out
      have h3 := HS3.out
      omega)
    have H4 := Lib.hid (HMD.out x1 x2 x3 s3 w3 HR3.out hb3 (by have := HSS.out; omega) (by have := HSS.out; omega) (by have := HXX.out; have := HBn.out; omega) (by have := HXX.out; have := HBn.out; omega) (by have := HXX.out; have := HBn.out; omega))
    clear hb3 hx3 hs3 hg3
    go_wp2_with fail
    refine H4.out.mono ?_
    rintro e w4 ⟨x4, s4, rfl, hx4, hs4, hb4, hg4⟩
    have HX4 : Hid (a ≤ x4 ∧ x4 < b) := Lib.hid (by have := HXX.out; omega)
    have HB4 : Hid (Below w.heap.size w w4) := Lib.hid (HBA.out.trans (below_of_grown (grown_trans HG3.out hg4) HBA.out.size (fun k e => by have := HSB.out; have := Option.some.inj e; omega)))
    obtain ⟨c0, -⟩ := hb4.get
    clear hx4 hs4 hb4 hg4
    by_cases g0 : s4 = 0
    · subst g0
      go_wp2_with fail
      go_ret2
      exact ⟨x4, 1, rfl, HX4.out.1, HX4.out.2, Or.inr (Or.inl rfl), HB4.out⟩
    have t0 : (s4 == 0) = false := by simp; exact g0
    clear g0
    by_cases g1 : s4 = 12
    · subst g1
      clear t0
      go_wp2_with fail
      go_ret2
      exact ⟨x4, 2, rfl, HX4.out.1, HX4.out.2, Or.inr (Or.inr rfl), HB4.out⟩
    have t1 : (s4 == 12) = false := by simp; exact g1
    clear g1
    go_wp2_with fail
    go_ret2
    exact ⟨x4, 0, rfl, HX4.out.1, HX4.out.2, Or.inl rfl, HB4.out⟩
  · have HR3 := HRA
    obtain ⟨w3, rfl⟩ : ∃ x, x = wA := ⟨_, rfl⟩
    obtain ⟨s3, hs3⟩ : ∃ s : Int, s = 0 := ⟨_, rfl⟩
    have hb3 : SwB sb s3 w3 := by rw [hs3]; exact HSW.out
    have HG3 : Hid (w3.grownBy w3 (some sb)) := Lib.hid (grown_below (Below.refl _ _))
    have HXX : Hid ((a ≤ I ∧ I < b) ∧ (a ≤ J ∧ J < b) ∧ (a ≤ K ∧ K < b)) := Lib.hid (by have h6 := HI2.out; omega)
    have HSS : Hid (0 ≤ s3 ∧ s3 ≤ 9) := Lib.hid (by omega)
    clear hs3
    have H4 := Lib.hid (HMD.out I J K s3 w3 HR3.out hb3 (by have := HSS.out; omega) (by have := HSS.out; omega) (by have := HXX.out; have := HBn.out; omega) (by have := HXX.out; have := HBn.out; omega) (by have := HXX.out; have := HBn.out; omega))
    clear hb3
    go_wp2_with fail
    refine H4.out.mono ?_
    rintro e w4 ⟨x4, s4, rfl, hx4, hs4, hb4, hg4⟩
    have HX4 : Hid (a ≤ x4 ∧ x4 < b) := Lib.hid (by have := HXX.out; omega)
    have HB4 : Hid (Below w.heap.size w w4) := Lib.hid (HBA.out.trans (below_of_grown (grown_trans HG3.out hg4) HBA.out.size (fun k e => by have := HSB.out; have := Option.some.inj e; omega)))
    obtain ⟨c0, -⟩ := hb4.get
    clear hx4 hs4 hb4 hg4
    by_cases g0 : s4 = 0
    · subst g0
      go_wp2_with fail
      go_ret2
      exact ⟨x4, 1, rfl, HX4.out.1, HX4.out.2, Or.inr (Or.inl rfl), HB4.out⟩
    have t0 : (s4 == 0) = false := by simp; exact g0
    clear g0
    by_cases g1 : s4 = 12
    · subst g1
      clear t0
      go_wp2_with fail
      go_ret2
      exact ⟨x4, 2, rfl, HX4.out.1, HX4.out.2, Or.inr (Or.inr rfl), HB4.out⟩
    have t1 : (s4 == 12) = false := by simp; exact g1
    clear g1
    go_wp2_with fail
    go_ret2
    exact ⟨x4, 0, rfl, HX4.out.1, HX4.out.2, Or.inl rfl, HB4.out⟩
end Go.Proofs.Ytlfhcjhbnakamaa.Qs
/-
  Insertion, and partitions, by swaps: as plain lists.
-/
namespace Go.Gh
set_option linter.unusedVariables false
set_option linter.unusedSimpArgs false
/-- One is being inserted, at j; all else is in order up to i. -/
def Ins (a i j : Nat) (D : List Int) : Prop := ∀ p q, a ≤ p → p < q → q ≤ i → q ≠ j → el D p ≤ el D q
theorem ins_start {a i : Nat} {D : List Int} (h : Rs a i D) : Ins a i i D := fun p q h1 h2 h3 h4 => h p q h1 h2 (by omega)
theorem ins_step {a i j : Nat} {D : List Int} (h : Ins a i (j + 1) D) (hlt : el D (j + 1) < el D j) (ha : a ≤ j) (hj : j + 1 ≤ i) (hi : i < D.length) : Ins a i j (sw D (j + 1) j) := by
  intro p q h1 h2 h3 h4
  rw [sw_el (by omega) (by omega), sw_el (by omega) (by omega)]
  rw [if_neg h4]
  by_cases hq : q = j + 1
  · rw [if_pos hq]
    by_cases hp : p = j
    · rw [if_pos hp]
      omega
    · rw [if_neg hp, if_neg (by omega)]
      exact h p j h1 (by omega) (by omega) (by omega)
  · rw [if_neg hq]
    by_cases hp : p = j
    · rw [if_pos hp]
      exact h (j + 1) q (by omega) (by omega) h3 (by omega)
    · rw [if_neg hp]
      by_cases hp2 : p = j + 1
      · rw [if_pos hp2]
        exact h j q ha (by omega) h3 (by omega)
      · rw [if_neg hp2]
        exact h p q h1 h2 h3 (by omega)
theorem ins_end {a i j : Nat} {D : List Int} (h : Ins a i j D) (hj : j ≤ a ∨ el D (j - 1) ≤ el D j) (hji : j ≤ i) : Rs a (i + 1) D := by
  intro p q h1 h2 h3
  by_cases hq : q = j
  · subst hq
    rcases hj with hj | hj
    · omega
    · by_cases hp : p = q - 1
      · rw [hp]; exact hj
      · exact Int.le_trans (h p (q - 1) h1 (by omega) (by omega) (by omega)) hj
  · exact h p q h1 h2 (by omega) hq
theorem Rs.mono {a b b' : Nat} {D : List Int} (h : Rs a b D) (hb : b' ≤ b) : Rs a b' D := fun i j h1 h2 h3 => h i j h1 h2 (by omega)
/-- Parted: below m what is at most the one at m, above it what is at least it. -/
def Pt (a b m : Nat) (D : List Int) : Prop := (∀ k, a ≤ k → k < m → el D k ≤ el D m) ∧ ∀ k, m < k → k < b → el D m ≤ el D k
/-- Being parted: i and j to go. -/
def Pg (a b i j : Nat) (x : Int) (D : List Int) : Prop := el D a = x ∧ (∀ k, a < k → k < i → el D k ≤ x) ∧ ∀ k, j ≤ k → k < b → x ≤ el D k
theorem pg_start {a b : Nat} (D : List Int) : Pg a b (a + 1) b (el D a) D := ⟨rfl, fun k h1 h2 => by omega, fun k h1 h2 => by omega⟩
theorem pg_left {a b i j : Nat} {x : Int} {D : List Int} (h : Pg a b i j x D) (hx : el D i ≤ x) : Pg a b (i + 1) j x D :=
  ⟨h.1, fun k h1 h2 => by
    by_cases e : k = i
    · rw [e]; exact hx
    · exact h.2.1 k h1 (by omega), h.2.2⟩
theorem pg_right {a b i j : Nat} {x : Int} {D : List Int} (h : Pg a b i (j + 1) x D) (hx : x ≤ el D j) : Pg a b i j x D :=
  ⟨h.1, h.2.1, fun k h1 h2 => by
    by_cases e : k = j
    · rw [e]; exact hx
    · exact h.2.2 k (by omega) h2⟩
theorem pg_swap {a b i j : Nat} {x : Int} {D : List Int} (h : Pg a b i (j + 1) x D) (hi : x ≤ el D i) (hj : el D j ≤ x) (hai : a < i) (hij : i < j) (hjb : j < b) (hb : b ≤ D.length) : Pg a b (i + 1) j x (sw D i j) := by
  refine ⟨?_, fun k h1 h2 => ?_, fun k h1 h2 => ?_⟩
  · rw [sw_el (by omega) (by omega), if_neg (by omega), if_neg (by omega)]; exact h.1
  · rw [sw_el (by omega) (by omega), if_neg (by omega)]
    by_cases e : k = i
    · rw [if_pos e]; exact hj
    · rw [if_neg e]; exact h.2.1 k h1 (by omega)
  · rw [sw_el (by omega) (by omega)]
    by_cases e : k = j
    · rw [if_pos e]; exact hi
    · rw [if_neg e, if_neg (by omega)]; exact h.2.2 k (by omega) h2
theorem pg_end {a b j : Nat} {x : Int} {D : List Int} (h : Pg a b (j + 1) (j + 1) x D) (haj : a ≤ j) (hjb : j < b) (hb : b ≤ D.length) : Pt a b j (sw D j a) := by
  have e0 : el (sw D j a) j = x := by
    rw [sw_el (by omega) (by omega)]
    by_cases e : j = a
    · rw [if_pos e, e]; exact h.1
    · rw [if_neg e, if_pos rfl]; exact h.1
  refine ⟨fun k h1 h2 => ?_, fun k h1 h2 => ?_⟩
  · rw [e0, sw_el (by omega) (by omega)]
    by_cases e : k = a
    · rw [if_pos e]; exact h.2.1 j (by omega) (by omega)
    · rw [if_neg e, if_neg (by omega)]; exact h.2.1 k (by omega) (by omega)
  · rw [e0, sw_el (by omega) (by omega), if_neg (by omega), if_neg (by omega)]
    exact h.2.2 k (by omega) h2
/-- Left of a nothing is more than what is right of it. -/
def Lo (a b : Nat) (D : List Int) : Prop := a = 0 ∨ ∀ k, a ≤ k → k < b → el D (a - 1) ≤ el D k
theorem Lo.pm {a b : Nat} {D E : List Int} (h : Lo a b D) (hp : Pm a b D E) (hb : b ≤ D.length) : Lo a b E := by
  rcases h with h | h
  · exact Or.inl h
  · by_cases ha : a = 0
    · exact Or.inl ha
    · refine Or.inr (fun k h1 h2 => ?_)
      rw [hp.out hb (k := a - 1) (Or.inl (by omega))]
      exact hp.all hb (fun x => el D (a - 1) ≤ x) h k h1 h2
/-- What the two sides of a parted row owe. -/
theorem pt_left {a b m : Nat} {D E : List Int} (h : Pt a b m D) (hp : Pm a m D E) (hm : a ≤ m) (hmb : m < b) (hb : b ≤ D.length) : Pt a b m E := by
  have e0 : el E m = el D m := hp.out (by omega) (Or.inr (Nat.le_refl _))
  refine ⟨fun k h1 h2 => ?_, fun k h1 h2 => ?_⟩
  · rw [e0]; exact hp.all (by omega) (fun x => x ≤ el D m) h.1 k h1 h2
  · rw [e0, hp.out (by omega) (Or.inr (by omega))]; exact h.2 k h1 h2
theorem pt_right {a b m : Nat} {D E : List Int} (h : Pt a b m D) (hp : Pm (m + 1) b D E) (hm : a ≤ m) (hmb : m < b) (hb : b ≤ D.length) : Pt a b m E := by
  have e0 : el E m = el D m := hp.out (by omega) (Or.inl (by omega))
  refine ⟨fun k h1 h2 => ?_, fun k h1 h2 => ?_⟩
  · rw [e0, hp.out (by omega) (Or.inl (by omega))]; exact h.1 k h1 h2
  · rw [e0]; exact hp.all (by omega) (fun x => el D m ≤ x) (fun k h1 h2 => h.2 k (by omega) h2) k (by omega) h2
/-- The left side is sorted: go on with the right one. -/
theorem fr_left {a0 b0 a b m : Nat} {D : List Int} (hf : Fr a0 b0 a b D) (h : Pt a b m D) (hr : Rs a m D) (ha : a0 ≤ a) (hm : a ≤ m) (hmb : m < b) (hb : b ≤ b0) : Fr a0 b0 (m + 1) b D := by
  refine ⟨fun i j h1 h2 h3 h4 => ?_, hf.2⟩
  by_cases hia : i < a
  · exact hf.1 i j h1 hia h3 h4
  by_cases hjb : b ≤ j
  · exact hf.2 i j hjb h4 h1 h3
  by_cases him : i = m
  · rw [him]; exact h.2 j (by omega) (by omega)
  · by_cases hjm : j < m
    · exact hr i j (by omega) h3 hjm
    · by_cases hjm2 : j = m
      · rw [hjm2]; exact h.1 i (by omega) (by omega)
      · exact Int.le_trans (h.1 i (by omega) (by omega)) (h.2 j (by omega) (by omega))
/-- The right side is sorted: go on with the left one. -/
theorem fr_right {a0 b0 a b m : Nat} {D : List Int} (hf : Fr a0 b0 a b D) (h : Pt a b m D) (hr : Rs (m + 1) b D) (ha : a0 ≤ a) (hm : a ≤ m) (hmb : m < b) (hb : b ≤ b0) : Fr a0 b0 a m D := by
  refine ⟨hf.1, fun i j h1 h2 h3 h4 => ?_⟩
  by_cases hjb : b ≤ j
  · exact hf.2 i j hjb h2 h3 h4
  by_cases hia : i < a
  · exact hf.1 i j h3 hia h4 h2
  by_cases hjm : j = m
  · rw [hjm]; exact h.1 i (by omega) (by omega)
  · by_cases him : i < m
    · exact Int.le_trans (h.1 i (by omega) him) (h.2 j (by omega) (by omega))
    · by_cases him2 : i = m
      · rw [him2]; exact h.2 j (by omega) (by omega)
      · exact hr i j (by omega) h4 (by omega)
theorem lo_left {a b m : Nat} {D : List Int} (h : Lo a b D) (hmb : m ≤ b) : Lo a m D := by
  rcases h with h | h
  · exact Or.inl h
  · exact Or.inr fun k h1 h2 => h k h1 (by omega)
theorem lo_right {a b m : Nat} {D : List Int} (h : Pt a b m D) : Lo (m + 1) b D := Or.inr fun k h1 h2 => by
  rw [Nat.add_sub_cancel]
  exact h.2 k (by omega) h2
/-- Parted by what is equal: the left are all alike. -/
theorem fr_equal {a0 b0 a b m : Nat} {x : Int} {D : List Int} (hf : Fr a0 b0 a b D) (hlo : ∀ k, a ≤ k → k < b → x ≤ el D k) (h1 : ∀ k, a ≤ k → k < m → el D k ≤ x) (ha : a0 ≤ a) (hm : a ≤ m) (hmb : m ≤ b) (hb : b ≤ b0) : Fr a0 b0 m b D := by
  refine ⟨fun i j g1 g2 g3 g4 => ?_, hf.2⟩
  by_cases hia : i < a
  · exact hf.1 i j g1 hia g3 g4
  by_cases hjb : b ≤ j
  · exact hf.2 i j hjb g4 g1 g3
  · exact Int.le_trans (h1 i (by omega) g2) (hlo j (by omega) (by omega))
end Go.Gh
/-
  insertionSort at uint64.
-/
namespace Go.Proofs.Ytlfhcjhbnakamaa.Qs
open Go.RowKit Go.Gh
set_option linter.unusedVariables false
set_option linter.unusedSimpArgs false
set_option maxHeartbeats 8000000 in
set_option maxRecDepth 100000 in
theorem insertion_any (g cap a b : Nat) (D : List Int) (rest : List Value) (w : World) (hR : RowAt g D rest w) (hb : b ≤ D.length) (hab : a ≤ b) (hn : D.length ≤ 1000000) (hcap : D.length ≤ cap) (hc : cap ≤ 9223372036854775807) :
    Calls Try.prog 119 #[.slice (some ⟨g, 0, none⟩) D.length cap, .int .i64 a, .int .i64 b] w fun e w' => e = .returned (.tuple #[]) ∧ QsP g rest a b D (Rs a b) w w' := by
  obtain ⟨n, hN⟩ : ∃ n, D.length = n := ⟨_, rfl⟩
  rw [hN] at hb hn hcap ⊢
  have HN := Lib.hid hN
  have HR := Lib.hid hR
  clear hN hR
  go_enter Try.func119, Try.ntmps119
  go_wp2_with fail
  go_loopw [6] (fun i wr => ∃ (k : Nat) (E : List Int), i = .int .i64 k ∧ a < k ∧ (k ≤ b ∨ k = a + 1) ∧ Hid (Pm a b D E) ∧ Hid (Rs a k E) ∧ Hid (RowAt g E rest wr) ∧ Hid (w.grownBy wr (some g))) (fun i _ => (b - (intOf i).toNat))
  case atStart => exact ⟨a + 1, D, by go_num, by omega, Or.inr rfl, Lib.hid .refl, Lib.hid (fun i j h1 h2 h3 => by omega), HR, Lib.hid (grown_below (Below.refl _ _))⟩
  case round =>
    obtain ⟨k, E, rfl, hak, hkb, HP, HS, HE, HG⟩ := hrel
    by_cases hlt : k < b
    case neg =>
      go_wp2_with fail
      go_end0
      exact ⟨rfl, E, HP.out, HS.out.mono (by omega), HE.out, HG.out⟩
    obtain ⟨wB, rfl⟩ : ∃ x, x = wr := ⟨_, rfl⟩
    go_wp2_with fail
    go_loopw [7] (fun j wr => ∃ (m : Nat) (E : List Int), j = .int .i64 m ∧ a ≤ m ∧ m ≤ k ∧ Hid (Pm a b D E) ∧ Hid (Ins a k m E) ∧ Hid (RowAt g E rest wr) ∧ Hid (w.grownBy wr (some g))) (fun j _ => (intOf j).toNat)
    case atStart => exact ⟨k, E, rfl, by omega, Nat.le_refl _, HP, Lib.hid (ins_start HS.out), HE, HG⟩
    case round =>
      clear HP HS HE HG
      obtain ⟨m, E, rfl, ham, hmk, HP, HI, HE, HG⟩ := hrel
      by_cases hma : a < m
      case neg =>
        have hma2 : decide (a < m) = false := decide_eq_false (by omega)
        have HS2 : Hid (Rs a (k + 1) E) := Lib.hid (ins_end HI.out (Or.inl (by omega)) hmk)
        go_wp2_with fail
        go_quiet (fail)
        have HE3 : Hid (RowAt g E rest (wr.drewN nq)) := HE
        have HG3 := Lib.hid (grown_drewN HG.out nq)
        go_wp2_with fail
        go_roundw
        case rel => exact ⟨k + 1, E, by go_num, by omega, by omega, HP, HS2, HE3, HG3⟩
        case measure => simp [intOf]; omega
      obtain ⟨p, rfl⟩ : ∃ p, m = p + 1 := ⟨m - 1, by omega⟩
      have hEl : E.length = n := by rw [HP.out.len]; exact HN.out
      obtain ⟨q, hq⟩ : ∃ q, q = p + 1 := ⟨_, rfl⟩
      have e1 : (q : Int) - 1 = (p : Int) := by omega
      have e2 : ((p + 1 : Nat) : Int) = (q : Int) := by omega
      rw [e2]
      obtain ⟨⟨cq, cp⟩, ⟨fq, fp, fqp⟩, hS⟩ := HE.out.swaps (i := q) (j := p) (by omega) (by omega)
      have HSW := Lib.hid hS
      have hma2 : decide (a < q) = true := decide_eq_true (by omega)
      have hq1 : (q : Int) < (n : Int) := by omega
      have hp1 : (p : Int) < (n : Int) := by omega
      have hq0 : (0 : Int) ≤ (q : Int) := by omega
      have hp0 : (0 : Int) ≤ (p : Int) := by omega
      have hwr : IntKind.i64.wrap (p : Int) = (p : Int) := IntWalk.i64_in _ (by omega)
      have HQ := Lib.hid hq
      obtain ⟨x, hx⟩ : ∃ x, el E q = x := ⟨_, rfl⟩
      obtain ⟨y, hy⟩ : ∃ x, el E p = x := ⟨_, rfl⟩
      rw [hx] at cq HSW
      rw [hy] at cp fqp HSW
      have HX := Lib.hid hx
      have HY := Lib.hid hy
      clear hS hx hy hq e2
      by_cases hlt2 : x < y
      · have hd : decide (x < y) = true := decide_eq_true hlt2
        have HP2 : Hid (Pm a b D (sw E q p)) := Lib.hid (HP.out.step (by omega) (by have := HQ.out; omega) (by have := HQ.out; omega) (by omega))
        have HI2 : Hid (Ins a k p (sw E q p)) := Lib.hid (by
          have e := HQ.out
          subst e
          exact ins_step HI.out (by rw [HX.out, HY.out]; exact hlt2) (by omega) hmk (by omega))
        go_wp2_with fail
        go_quiet ((go_at_call 125; exact Calls.quiet_of (less_q _ _ _)))
        obtain ⟨wq, hwq⟩ : ∃ wq, wq = wr.drewN nq := ⟨_, rfl⟩
        have dq : wq.cell? ⟨g, q, none⟩ = some (.int .u64 x) := by rw [hwq]; exact cq
        have dp : wq.cell? ⟨g, p, none⟩ = some (.int .u64 y) := by rw [hwq]; exact cp
        have hq : wq.frozen? ⟨g, q, none⟩ = false := by rw [hwq]; exact fq
        have hp : wq.frozen? ⟨g, p, none⟩ = false := by rw [hwq]; exact fp
        have hqp : (wq.setCell ⟨g, q, none⟩ (.int .u64 y)).frozen? ⟨g, p, none⟩ = false := by rw [hwq]; exact fqp
        have HSQ : Hid (RowAt g (sw E q p) rest ((wq.setCell ⟨g, q, none⟩ (.int .u64 y)).setCell ⟨g, p, none⟩ (.int .u64 x))) := Lib.hid (by rw [hwq]; exact HSW.out)
        have HGQ : Hid (w.grownBy wq (some g)) := Lib.hid (by rw [hwq]; exact grown_drewN HG.out nq)
        rw [← hwq]
        clear hwq cq cp fq fp fqp hd
        go_upto_region 6 with (fail)
        go_region
        obtain ⟨wn, hwn⟩ : ∃ wn, wn = ((wq.setCell ⟨g, q, none⟩ (.int .u64 y)).setCell ⟨g, p, none⟩ (.int .u64 x)).drew := ⟨_, rfl⟩
        have HE2 : Hid (RowAt g (sw E q p) rest wn) := Lib.hid (by rw [hwn]; exact HSQ.out)
        have HG2 : Hid (w.grownBy wn (some g)) := Lib.hid (by rw [hwn]; exact grown_drewN (grown_swap HGQ.out q p _ _) 1)
        rw [← hwn]
        clear hwn dq dp hq hp hqp
        go_wp2_with fail
        go_roundw
        case rel => exact ⟨p, _, by go_num, by omega, by omega, HP2, HI2, HE2, HG2⟩
        case measure => simp [intOf]; omega
      · have hd : decide (x < y) = false := decide_eq_false hlt2
        have HS2 : Hid (Rs a (k + 1) E) := Lib.hid (ins_end HI.out (Or.inr (by
          have e := HQ.out
          subst e
          rw [Nat.add_sub_cancel, HX.out, HY.out]
          omega)) hmk)
        go_wp2_with fail
        go_quiet ((go_at_call 125; exact Calls.quiet_of (less_q _ _ _)))
        have HE3 : Hid (RowAt g E rest (wr.drewN nq)) := HE
        have HG3 := Lib.hid (grown_drewN HG.out nq)
        go_wp2_with fail
        go_roundw
        case rel => exact ⟨k + 1, E, by go_num, by omega, by omega, HP, HS2, HE3, HG3⟩
        case measure => simp [intOf]; omega
end Go.Proofs.Ytlfhcjhbnakamaa.Qs
