/-
  The walks of claim.Newer and NewerThan.
-/
import Derived.Test.YtcljeedmiobepaaCmp
import Derived.Test.YtcljeedmiobepaaClLaw3
import Derived.Deep.RegionHeld3
import Derived.Deep.QuietTactic
import Derived.BigQuiet
namespace Go.Proofs.Ytcljeedmiobepaa.Nod
open Go.RowKit Go.Gh
set_option linter.unusedVariables false
/-- A claim that is handed in by value. -/
def ClV (w : World) (v : Value) (x : Cl) : Prop := ∃ t, v = .agg #[.int .i64 x.ver, .int .i64 x.st, .string x.nm, t] ∧ Toks w t x.tk
theorem newer_or (a b : Cl) : newerC a b = decide (0 < or3 (cmpI a.ver b.ver) (cmpI a.st b.st) (cmpT a.tk b.tk)) := rfl
set_option maxHeartbeats 4000000 in
set_option maxRecDepth 100000 in
theorem newer_any (v u : Value) (a b : Cl) (w : World) (hv : ClV w v a) (hu : ClV w u b) : Calls Try.prog 18 #[v, u] w fun e w' => e = .returned (.bool (newerC a b)) ∧ Below w.heap.size w w' := by
  obtain ⟨ta, rfl, hta⟩ := hv
  obtain ⟨tb, rfl, htb⟩ := hu
  obtain ⟨av, sa, an, atk⟩ := a
  obtain ⟨bv, sb, bn, btk⟩ := b
  rw [newer_or]
  dsimp only at *
  obtain ⟨C1, hC1⟩ : ∃ C, cmpI av bv = C := ⟨_, rfl⟩
  obtain ⟨C2, hC2⟩ : ∃ C, cmpI sa sb = C := ⟨_, rfl⟩
  obtain ⟨C3, hC3⟩ : ∃ C, cmpT atk btk = C := ⟨_, rfl⟩
  rw [hC1, hC2, hC3]
  have HC1 := Lib.hid hC1
  have HC2 := Lib.hid hC2
  have HC3 := Lib.hid hC3
  obtain ⟨R, hR⟩ : ∃ R, or3 C1 C2 C3 = R := ⟨_, rfl⟩
  rw [hR]
  have HR := Lib.hid hR
  have HTA := Lib.hid hta
  have HTB := Lib.hid htb
  clear hC1 hC2 hC3 hR hta htb
  go_enter Try.func18, Try.ntmps18
  go_wp2_with fail
  obtain ⟨wA, hwA⟩ : ∃ wA, wA = (w.alloc (Obj.cells #[.int .i64 av, .int .i64 sa, .string an, ta] 27)).alloc (Obj.cells #[.int .i64 bv, .int .i64 sb, .string bn, tb] 27) := ⟨_, rfl⟩
  have hb1 : wA.heap[w.heap.size]? = some (.cells #[.int .i64 av, .int .i64 sa, .string an, ta] 27 (0, 0)) := by rw [hwA]; exact two_first w _ _
  have hb2 : wA.heap[w.heap.size + 1]? = some (.cells #[.int .i64 bv, .int .i64 sb, .string bn, tb] 27 (0, 0)) := by rw [hwA]; exact two_second w _ _
  have hBA : Below w.heap.size w wA := by rw [hwA]; exact ((Below.refl _ _).alloc (Nat.le_refl _) _).alloc (by simp) _
  rw [← hwA]
  have a0 : wA.cell? ⟨w.heap.size, 0, none⟩ = some (.int .i64 av) := (row_cell 0 _ hb1 rfl).1
  have a1 : wA.cell? ⟨w.heap.size, 1, none⟩ = some (.int .i64 sa) := (row_cell 1 _ hb1 rfl).1
  have a3 : wA.cell? ⟨w.heap.size, 3, none⟩ = some ta := (row_cell 3 _ hb1 rfl).1
  have b0 : wA.cell? ⟨w.heap.size + 1, 0, none⟩ = some (.int .i64 bv) := (row_cell 0 _ hb2 rfl).1
  have b1 : wA.cell? ⟨w.heap.size + 1, 1, none⟩ = some (.int .i64 sb) := (row_cell 1 _ hb2 rfl).1
  have b3 : wA.cell? ⟨w.heap.size + 1, 3, none⟩ = some tb := (row_cell 3 _ hb2 rfl).1
  have hdr : Below wA.heap.size wA wA.drew := (Below.refl _ _).drew
  have HTA1 : Hid (Toks wA.drew ta atk) := Lib.hid ((HTA.out.below hBA).below hdr)
  have HTB1 : Hid (Toks wA.drew tb btk) := Lib.hid ((HTB.out.below hBA).below hdr)
  have HBA := Lib.hid hBA
  have hsz := hBA.size
  clear hwA hBA hb1 hb2 hdr
  generalize hbx : w.heap.size = bx at *
  have HBX := Lib.hid hbx
  clear hbx
  go_region_held3 (fun w' => w'.cell? ⟨bx, 0, none⟩ = some (.int .i64 av) ∧ w'.cell? ⟨bx, 1, none⟩ = some (.int .i64 sa) ∧ w'.cell? ⟨bx, 3, none⟩ = some ta ∧ w'.cell? ⟨bx + 1, 0, none⟩ = some (.int .i64 bv) ∧ w'.cell? ⟨bx + 1, 1, none⟩ = some (.int .i64 sb) ∧ w'.cell? ⟨bx + 1, 3, none⟩ = some tb) (first | (with_reducible exact ⟨a0, a1, a3, b0, b1, b3⟩) | go_keep) (first
    | (go_at_call 104; refine (cmp_i64 _ _ _).mono ?_; rw [HC1.out]; rintro e w2 ⟨rfl, rfl⟩)
    | (go_at_call 105; refine (cmp_int _ _ _).mono ?_; rw [HC2.out]; rintro e w2 ⟨rfl, rfl⟩)
    | (go_at_call 106; refine (compare_any _ _ atk btk _ HTA1.out HTB1.out).mono ?_; rw [HC3.out]; rintro e w2 ⟨rfl, rfl⟩)
    | (go_at_call 103; refine (or_any _ C1 C2 C3 _ (by exact cell_new wA _ [_, _, _] 0 _ rfl) (by exact cell_new wA _ [_, _, _] 1 _ rfl) (by exact cell_new wA _ [_, _, _] 2 _ rfl)).mono ?_; rw [HR.out]; rintro e w2 ⟨rfl, rfl⟩))
  all_goals
    go_wp2_with fail
    go_ret
    exact ⟨rfl, by rw [HBX.out]; exact (HBA.out.alloc hsz _).drew⟩
end Go.Proofs.Ytcljeedmiobepaa.Nod
