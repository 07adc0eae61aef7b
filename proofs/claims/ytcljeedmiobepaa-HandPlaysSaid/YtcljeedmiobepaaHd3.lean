/-
  A shard: the walks of hand's New, Read, View, Prepare, Cut, Write.
-/
import Derived.Test.YtcljeedmiobepaaHd2
namespace Go.Proofs.Ytcljeedmiobepaa.Hd
open Go.RowKit Go.Gh Go.Proofs.Ytcljeedmiobepaa.Rk
set_option linter.unusedVariables false
/-- Nothing but the box has turned. -/
structure OB (B hb : Nat) (w w' : World) : Prop where
  sz : w'.heap.size = w.heap.size
  keep : ∀ b, b ≠ hb → w'.heap[b]? = w.heap[b]?
  bel : Below B w w'
theorem OB.refl (B hb : Nat) (w : World) : OB B hb w w := ⟨rfl, fun _ _ => rfl, Below.refl _ _⟩
theorem OB.set {B hb : Nat} {w w' : World} (h : OB B hb w w') (hB : B ≤ hb) (i : Nat) (x : Value) : OB B hb w (w'.setCell ⟨hb, i, none⟩ x) :=
  ⟨by simpa using h.sz, fun b hb' => by rw [Below.heap_setCell _ ⟨hb, i, none⟩ _ b (fun e => hb' e)]; exact h.keep b hb', h.bel.setCell (p := ⟨hb, i, none⟩) hB _⟩
theorem OB.drew {B hb : Nat} {w w' : World} (h : OB B hb w w') : OB B hb w w'.drew := ⟨h.sz, h.keep, h.bel.drew⟩
theorem OB.drewN {B hb : Nat} {w w' : World} (h : OB B hb w w') (n : Nat) : OB B hb w (w'.drewN n) := ⟨by simpa using h.sz, fun b hb' => by simpa using h.keep b hb', below_drewN h.bel n⟩
set_option maxRecDepth 100000 in
theorem crash0_any (hb : Nat) (T : TypeId) (a b c d e f : Value) (w : World) (h : w.heap[hb]? = some (.cells #[a, b, c, d, e, f] T (0, 0))) : Calls Try.prog 43 #[.pointer (some ⟨hb, 0, none⟩)] w fun e w' => e = .returned (.tuple #[]) ∧ w' = ((w.setCell ⟨hb, 2, none⟩ (.string noB)).setCell ⟨hb, 4, none⟩ (.slice none 0 0)).setCell ⟨hb, 5, none⟩ (.slice none 0 0) := by
  obtain ⟨-, ⟨f0, f1, f2, f3, f4, f5⟩⟩ := bx6 h
  obtain ⟨⟨d0, d1, d2, d3, d4, d5⟩, -⟩ := bx6 h
  clear h
  go_enter Try.func43, Try.ntmps43
  go_wp2_with fail
  go_end0
  exact ⟨rfl, rfl⟩
def nameB (s : ByteArray) : Bool := !(s.toList.isEmpty) && decide (s.size ≤ 20)
set_option maxRecDepth 100000 in
theorem name_any (s : ByteArray) (w : World) : Calls Try.prog 111 #[.string s] w fun e w' => e = .returned (.bool (nameB s)) ∧ w' = w := by
  obtain ⟨R, hR⟩ : ∃ R, nameB s = R := ⟨_, rfl⟩
  have HR := Lib.hid hR
  rw [hR]
  clear hR
  by_cases h1 : s.toList = []
  · have t1 : s.toList.isEmpty = true := (emp_iff _).1 h1
    have HE : Hid (R = false) := Lib.hid (by rw [← HR.out]; unfold nameB; rw [t1]; rfl)
    go_enter Try.func111, Try.ntmps111
    go_wp2_with fail
    go_ret
    rw [HE.out]
    exact ⟨rfl, rfl⟩
  · have t1 : s.toList.isEmpty = false := by cases h : s.toList.isEmpty with | false => rfl | true => exact absurd ((emp_iff _).2 h) h1
    by_cases h2 : s.size ≤ 20
    · have h3 : (s.size : Int) ≤ 20 := by omega
      have HE : Hid (R = true) := Lib.hid (by rw [← HR.out]; unfold nameB; rw [t1, decide_eq_true h2]; rfl)
      go_enter Try.func111, Try.ntmps111
      go_wp2_with fail
      go_ret
      rw [HE.out]
      exact ⟨rfl, rfl⟩
    · have h3 : ¬ (s.size : Int) ≤ 20 := by omega
      have HE : Hid (R = false) := Lib.hid (by rw [← HR.out]; unfold nameB; rw [t1, decide_eq_false h2]; rfl)
      go_enter Try.func111, Try.ntmps111
      go_wp2_with fail
      go_ret
      rw [HE.out]
      exact ⟨rfl, rfl⟩
def RdPost (l : List Int) (c : Int) (w : World) (e : Ending) (w' : World) : Prop := ∃ v', e = .returned (.tuple #[v', .int .i64 c]) ∧ Ns w' v' l ∧ Below w.heap.size w w'
set_option maxRecDepth 100000 in
theorem pread_any (B hb : Nat) (s : Hd) (ep : Int) (vh vn vl : Value) (w : World) (h : PAt B hb s vh vn vl w) (hn : s.has.length ≤ 1000) : Calls Try.prog 45 #[.pointer (some ⟨hb, 0, none⟩), .int .i64 ep] w (RdPost (if ep ≠ s.e then [] else s.has) (if ep ≠ s.e then 10 else 0) w) := by
  have HP := Lib.hid h
  obtain ⟨⟨d0, d1, d2, d3, d4, d5⟩, -⟩ := bx6 h.box
  obtain ⟨n, hm⟩ : ∃ n, s.has.length = n := ⟨_, rfl⟩
  have HN := Lib.hid hm
  have hown := h.has
  rw [hm] at hown hn
  obtain ⟨ho, hc, rfl, -, -, -⟩ := own_shape hown
  have HNS : Hid (Ns w (.slice ho n hc) s.has) := Lib.hid (by unfold Ns; rw [hm]; exact own_sl hown)
  clear h hm hown
  by_cases he : ep ≠ s.e
  · rw [if_pos he, if_pos he]
    have t1 : (ep != s.e) = true := by rw [bne_iff_ne]; exact he
    clear he
    go_enter Try.func45, Try.ntmps45
    go_wp2_with fail
    go_ret2
    exact ⟨_, rfl, ns_nil, Below.refl _ _⟩
  · rw [if_neg he, if_neg he]
    have t1 : (ep != s.e) = false := by
      have : ep = s.e := Classical.not_not.1 he
      rw [this]; simp
    clear he
    go_enter Try.func45, Try.ntmps45
    go_wp2_with fail
    refine (clone64_any _ s.has _ HNS.out (by rw [HN.out]; omega)).mono ?_
    rintro e w1 ⟨v1, rfl, hown1, hb1⟩
    have HN1 : Hid (Ns w1 v1 s.has) := Lib.hid (own_sl hown1)
    have HB1 := Lib.hid hb1
    rw [HN.out] at hown1
    obtain ⟨o1, c1, rfl, -, -, -⟩ := own_shape hown1
    clear hown1 hb1
    go_wp2_with fail
    go_ret2
    exact ⟨_, rfl, HN1.out, HB1.out⟩
theorem bx4_store {w : World} {b : Nat} {T : TypeId} {a0 a1 a2 a3 : Value} (x0 x1 x2 x3 : Value) (h : w.heap[b]? = some (.cells #[a0, a1, a2, a3] T (0, 0))) : ((((w.setCell ⟨b, 0, none⟩ x0).setCell ⟨b, 1, none⟩ x1).setCell ⟨b, 2, none⟩ x2).setCell ⟨b, 3, none⟩ x3).heap[b]? = some (.cells #[x0, x1, x2, x3] T (0, 0)) := by
  simpa using row_setCell 3 x3 (row_setCell 2 x2 (row_setCell 1 x1 (row_setCell 0 x0 h)))
theorem bx4_below {w0 w : World} {B b : Nat} (x0 x1 x2 x3 : Value) (hB : B ≤ b) (h : Below B w0 w) : Below B w0 ((((w.setCell ⟨b, 0, none⟩ x0).setCell ⟨b, 1, none⟩ x1).setCell ⟨b, 2, none⟩ x2).setCell ⟨b, 3, none⟩ x3) :=
  (((h.setCell (p := ⟨b, 0, none⟩) hB _).setCell (p := ⟨b, 1, none⟩) hB _).setCell (p := ⟨b, 2, none⟩) hB _).setCell (p := ⟨b, 3, none⟩) hB _
set_option maxRecDepth 100000 in
theorem pview_any (B hb : Nat) (s : Hd) (vh vn vl : Value) (w : World) (h : PAt B hb s vh vn vl w) : Calls Try.prog 48 #[.pointer (some ⟨hb, 0, none⟩)] w fun e w' => e = .returned (.agg #[.int .i64 s.e, .string s.o, .string s.t, .int .i64 s.left.length]) ∧ Below w.heap.size w w' := by
  obtain ⟨n, hm⟩ : ∃ n, s.left.length = n := ⟨_, rfl⟩
  have hsh := Sl.shape h.lft
  rw [hm] at hsh ⊢
  obtain ⟨lo, lc, rfl, -, -, -⟩ := hsh
  obtain ⟨wA, hwA⟩ : ∃ wA, wA = w.alloc (.cells #[.int .i64 0, .string noB, .string noB, .int .i64 0] 81) := ⟨_, rfl⟩
  have hbA : Below w.heap.size w wA := by rw [hwA]; exact (Below.refl _ _).alloc (Nat.le_refl _) _
  have hbx := (hbA.block _ h.hlt).trans h.box
  have hnw : wA.heap[w.heap.size]? = some (.cells #[.int .i64 0, .string noB, .string noB, .int .i64 0] 81 (0, 0)) := by rw [hwA]; exact heap_alloc_new w _
  have HW := Lib.hid hwA
  have HBA := Lib.hid hbA
  obtain ⟨⟨d0, d1, d2, d3, d4, d5⟩, -⟩ := bx6 hbx
  obtain ⟨⟨g0, g1, g2, g3⟩, ⟨k0, k1, k2, k3⟩⟩ := bx4 hnw
  have hst := bx4_store (.int .i64 s.e) (.string s.o) (.string s.t) (.int .i64 n) hnw
  have HST := Lib.hid hst
  have HBF := Lib.hid (bx4_below (.int .i64 s.e) (.string s.o) (.string s.t) (.int .i64 n) (Nat.le_refl w.heap.size) hbA)
  clear h hm hwA hbA hbx hnw hst
  go_enter Try.func48, Try.ntmps48
  go_upto_region 1 with (fail)
  have hW := HW.out
  first | rw [← hW] | (unfold noB at hW; rw [← hW])
  clear hW
  go_region
  all_goals
    go_wp2_with fail
    obtain ⟨⟨s0, s1, s2, s3⟩, -⟩ := bx4 HST.out
    refine bodyPost_ret (v := .agg #[.int .i64 s.e, .string s.o, .string s.t, .int .i64 n]) (by simp [results, Try.results48, go_sem, s0, s1, s2, s3]) rfl ?_
    exact ⟨rfl, HBF.out.drew⟩
end Go.Proofs.Ytcljeedmiobepaa.Hd
