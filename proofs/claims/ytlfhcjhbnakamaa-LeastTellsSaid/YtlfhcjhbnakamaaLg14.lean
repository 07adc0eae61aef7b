/-
  The walk of the law LeastTells.
-/
import Derived.Test.YtlfhcjhbnakamaaLg12
import Derived.Test.YtlfhcjhbnakamaaLg13
import Derived.Deep.RegionHeld3
import Derived.Test.YtlfhcjhbnakamaaRows
namespace Go.Proofs.Ytlfhcjhbnakamaa.LeastTells
open Go.RowKit Go.Gh Go.Proofs.Ytlfhcjhbnakamaa.Qs Go.Proofs.Ytlfhcjhbnakamaa.Lst
set_option linter.unusedVariables false
set_option linter.unusedSimpArgs false
/-- A sieve's box. -/
def BxA (W : World) (B : Nat) (k : Int) (ao : Option Addr) (n c : Nat) : Prop := W.heap[B]? = some (.cells #[.int .i64 k, .slice ao n c] 46 (0, 0))
theorem BxA.below {W W' : World} {B : Nat} {k : Int} {ao : Option Addr} {n c : Nat} (h : BxA W B k ao n c) (hb : Below W.heap.size W W') : BxA W' B k ao n c := (hb.block B (Array.getElem?_eq_some_iff.1 h).1).trans h
theorem BxA.lt {W : World} {B : Nat} {k : Int} {ao : Option Addr} {n c : Nat} (h : BxA W B k ao n c) : B < W.heap.size := (Array.getElem?_eq_some_iff.1 h).1
theorem BxA.cells {W : World} {B : Nat} {k : Int} {ao : Option Addr} {n c : Nat} (h : BxA W B k ao n c) : W.cell? ⟨B, 0, none⟩ = some (.int .i64 k) ∧ W.cell? ⟨B, 1, none⟩ = some (.slice ao n c) := (bx2 h).1
theorem BxA.stays {W : World} {B : Nat} {k : Int} {ao : Option Addr} {n c : Nat} (h : BxA W B k ao n c) : W.frozen? ⟨B, 0, none⟩ = false ∧ W.frozen? ⟨B, 1, none⟩ = false := (bx2 h).2
theorem lsv_open {w : World} {v : Value} {s : Ls} (h : LsV w v s) : ∃ ao n c, v = .agg #[.int .i64 s.k, .slice ao n c] ∧ s.h.length = n := by
  obtain ⟨t, rfl, hs, -⟩ := h
  obtain ⟨ao, c, rfl, -⟩ := hs.shape
  exact ⟨ao, _, c, rfl, rfl⟩
theorem lsame_self (v u : Value) (s : Ls) (w : World) (hv : LsV w v s) (hu : LsV w u s) : Calls Try.prog 33 #[v, u] w fun e w' => e = .returned (.bool true) ∧ Below w.heap.size w w' := by
  have h := lsame_any v u s s w hv hu
  rw [same_self] at h
  exact h
theorem lsv_store {W : World} {B : Nat} {k : Int} {ao : Option Addr} {n c : Nat} {v : Value} {s : Ls} (h : LsV W v s) (hb : BxA W B k ao n c) (u0 u1 : Value) : LsV ((W.setCell ⟨B, 0, none⟩ u0).setCell ⟨B, 1, none⟩ u1) v s := by
  obtain ⟨t, h1, ⟨ao', cap, e1, e2, e3, e4, e5, e6⟩, h3⟩ := h
  refine ⟨t, h1, ⟨ao', cap, e1, e2, e3, e4, e5, fun hn => ?_⟩, h3⟩
  obtain ⟨b, off, hao, hc⟩ := e6 hn
  refine ⟨b, off, hao, fun i u hu => ?_⟩
  have h0 := hc i u hu
  obtain ⟨z, hz, rfl⟩ : ∃ z, s.h[i]? = some z ∧ Value.int .u64 z = u := by simpa using hu
  obtain ⟨c0, c1⟩ := hb.cells
  rw [World.cell?_setCell_other (h := fun e => by rw [← e, c1] at h0; cases h0), World.cell?_setCell_other (h := fun e => by rw [← e, c0] at h0; cases h0)]
  exact h0
theorem BxA.store {W : World} {B : Nat} {k k' : Int} {ao ao' : Option Addr} {n c n' c' : Nat} (h : BxA W B k ao n c) : BxA ((W.setCell ⟨B, 0, none⟩ (.int .i64 k')).setCell ⟨B, 1, none⟩ (.slice ao' n' c')) B k' ao' n' c' := bx2_store h
/-- What stands in memory while want grows. -/
def WtAt (B : Nat) (W9 : World) (s : Ls) (ao : Option Addr) (n c : Nat) (wr : World) : Prop := BxA wr B s.k ao n c ∧ LsV wr (.agg #[.int .i64 s.k, .slice ao n c]) s ∧ Below B W9 wr
def WtR (B m : Nat) (W9 : World) (s : Ls) (T : List Int) (i : Value) (wr : World) : Prop := ∃ j ao n c, j ≤ m ∧ i = .int .i64 j ∧ WtAt B W9 ((T.take j).foldl svU s) ao n c wr
theorem rngI {z : Int} (h : (Lit.int .i64 z).wf = true) : -9223372036854775808 ≤ z ∧ z < 9223372036854775808 := by
  simp [Lit.wf, IntKind.min, IntKind.max, IntKind.signed, IntKind.bits] at h
  omega
set_option maxHeartbeats 8000000 in
set_option maxRecDepth 100000 in
theorem walk (v0 v1 v2 v3 : Value) (w : World) (h0 : IsInt .i64 w v0) (h1 : IsLs w v1) (h2 : IsLs w v2) (h3 : IsInts .u8 w v3) :
    Calls Try.prog 6 #[v0, v1, v2, v3] w fun e w' => e = .returned (.bool true) ∧ Below w.heap.size w w' := by
  obtain ⟨k, rfl, hk⟩ := h0
  obtain ⟨s, hs⟩ := h1
  obtain ⟨t, ht⟩ := h2
  obtain ⟨p, d, hu, hd, -⟩ := h3
  have hk := rngI hk
  obtain ⟨so, sn, sc, rfl, hsn⟩ := lsv_open hs
  obtain ⟨to', tn, tc, rfl, htn⟩ := lsv_open ht
  obtain ⟨uo, uc, rfl, -, -, -⟩ := hu.shape
  have HS := Lib.hid hs
  have HT := Lib.hid ht
  have HU := Lib.hid hu
  have HD := Lib.hid hd
  have HTN := Lib.hid htn
  obtain ⟨ak, hak⟩ : ∃ a, (if k < 2 ∨ 64 < k then (0 : Int) else k) = a := ⟨_, rfl⟩
  obtain ⟨ae, hae⟩ : ∃ a, (if k < 2 ∨ 64 < k then (1 : Int) else 0) = a := ⟨_, rfl⟩
  have HAK := Lib.hid hak
  have HAE := Lib.hid hae
  have HEM : Hid (∀ W : World, Calls Try.prog 29 #[.int .i64 k] W fun e w' => e = .returned (.tuple #[.agg #[.int .i64 ak, .slice none 0 0], .int .i64 ae]) ∧ Below W.heap.size W w') := Lib.hid (fun W => by
    have h := lempty_any k W
    unfold EmP at h
    rw [hak, hae] at h
    exact h)
  obtain ⟨F, hF⟩ : ∃ F, lsF s = F := ⟨_, rfl⟩
  obtain ⟨HH, hHH⟩ : ∃ h, Hash.hashI 0 d p = h := ⟨_, rfl⟩
  obtain ⟨A, hA⟩ : ∃ A, (if lsF s = 0 then svU s (Hash.hashI 0 d p) else ⟨0, []⟩) = A := ⟨_, rfl⟩
  obtain ⟨⟨M, me⟩, hM⟩ : ∃ r, mergeL s t = r := ⟨_, rfl⟩
  obtain ⟨G, hG⟩ : ∃ G, (if lsF s = 0 then guessL s else 0) = G := ⟨_, rfl⟩
  have HF := Lib.hid hF
  have HHH := Lib.hid hHH
  have HA := Lib.hid hA
  have HM := Lib.hid hM
  have HG := Lib.hid hG
  have HADD : Hid (∀ W, Below w.heap.size w W → Calls Try.prog 30 #[.agg #[.int .i64 s.k, .slice so sn sc], .slice uo p uc] W fun e w' => ∃ v', e = .returned (.tuple #[v', .int .i64 F]) ∧ LsV w' v' A ∧ Below W.heap.size W w') := Lib.hid (fun W hW => by
    have h := ladd_any _ _ s p d W (HS.out.below hW) (HU.out.below hW) hd
    rw [hF] at h hA
    rw [hA] at h
    exact h)
  have HMER : Hid (∀ W, Below w.heap.size w W → Calls Try.prog 31 #[.agg #[.int .i64 s.k, .slice so sn sc], .agg #[.int .i64 t.k, .slice to' tn tc]] W fun e w' => ∃ u, e = .returned (.tuple #[u, .int .i64 me]) ∧ LsV w' u M ∧ Below W.heap.size W w') := Lib.hid (fun W hW => by
    have h := lmerge_any _ _ s t W (HS.out.below hW) (HT.out.below hW)
    rw [hM] at h
    exact h)
  have HGU : Hid (∀ W, Below w.heap.size w W → Calls Try.prog 32 #[.agg #[.int .i64 s.k, .slice so sn sc]] W fun e w' => e = .returned (.tuple #[.int .u64 G, .int .i64 F]) ∧ Below W.heap.size W w') := Lib.hid (fun W hW => by
    by_cases hz : lsF s = 0
    · have h := guess_ok _ s W (HS.out.below hW) hz
      rw [if_pos hz] at hG
      rw [← hF, hz, ← hG]
      exact h
    · have h := guess_bad _ s W (HS.out.below hW) hz
      rw [if_neg hz] at hG
      rw [← hF, ← hG]
      exact h)
  have HCK : Hid (∀ W, Below w.heap.size w W → Calls Try.prog 35 #[.agg #[.int .i64 s.k, .slice so sn sc]] W fun e w' => e = .returned (.int .i64 F) ∧ Below W.heap.size W w') := Lib.hid (fun W hW => by
    have h := lcheck_any _ s W (HS.out.below hW)
    rw [hF] at h
    exact h)
  have HLF : Hid (∀ W, Below w.heap.size w W → Calls Try.prog 34 #[.agg #[.int .i64 s.k, .slice so sn sc]] W fun e w' => e = .returned (.int .i64 F) ∧ Below W.heap.size W w') := Lib.hid (fun W hW => by
    have h := lfault_any _ s W (HS.out.below hW)
    rw [hF] at h
    exact h)
  clear hs ht hu hd hsn htn hak hae hF hHH hA hM hG
  obtain ⟨b0, hb0⟩ : ∃ b, w.heap.size = b := ⟨_, rfl⟩
  go_enter Try.func6, Try.ntmps6
  go_upto_region 1 with (fail)
  refine wp_abs (fun wA => BxA wA w.heap.size s.k so sn sc ∧ BxA wA (w.heap.size + 1) t.k to' tn tc ∧ Below w.heap.size w wA) ⟨(Below.heap_alloc _ _ _ (by simp)).trans (heap_alloc_new w _), by have := heap_alloc_new (w.alloc (Obj.cells #[.int .i64 s.k, .slice so sn sc] 46)) (Obj.cells #[.int .i64 t.k, .slice to' tn tc] 46); simpa [BxA] using this, ((Below.refl _ _).alloc (Nat.le_refl _) _).alloc (by simp) _⟩ ?_
  rw [hb0]
  rintro w0 ⟨q0, q1, hB0⟩
  rw [← hb0] at hB0
  go_wp2_with fail
  refine (HEM.out _).mono ?_
  rintro e w1 ⟨rfl, hb1⟩
  have hB1 := hB0.trans (hb1.mono hB0.size)
  replace q0 := q0.below hb1
  replace q1 := q1.below hb1
  have hl0 := q0.lt
  have hl1 := q1.lt
  clear hb1 hB0
  go_upto_region 2 with (fail)
  refine wp_abs (fun wx => BxA wx b0 s.k so sn sc ∧ BxA wx (b0 + 1) t.k to' tn tc ∧ BxA wx w1.heap.size ak none 0 0 ∧ Below w.heap.size w wx) ⟨q0.below ((Below.refl _ _).alloc (Nat.le_refl _) _), q1.below ((Below.refl _ _).alloc (Nat.le_refl _) _), heap_alloc_new w1 _, hB1.alloc hB1.size _⟩ ?_
  obtain ⟨b2, hb2⟩ : ∃ b, w1.heap.size = b := ⟨_, rfl⟩
  rw [hb2] at hl0 hl1 ⊢
  clear q0 q1 hB1 hb2
  rintro w2 ⟨q0, q1, q2, hB2⟩
  have hl2 := q2.lt
  obtain ⟨x0, x1⟩ := q0.cells
  obtain ⟨y0, y1⟩ := q1.cells
  go_wp2_with fail
  refine (HADD.out _ hB2).mono ?_
  rintro e w3 ⟨vx, rfl, hx, hb3⟩
  have hB3 := hB2.trans (hb3.mono hB2.size)
  replace q0 := q0.below hb3
  replace q1 := q1.below hb3
  replace q2 := q2.below hb3
  have HX := Lib.hid hx
  obtain ⟨xo, xn, xc, rfl, hxn⟩ := lsv_open hx
  clear hb3 hB2 hx hxn x0 x1 y0 y1
  go_upto_region 3 with (fail)
  refine wp_abs (fun wx => BxA wx b0 s.k so sn sc ∧ BxA wx (b0 + 1) t.k to' tn tc ∧ BxA wx b2 ak none 0 0 ∧ BxA wx w3.heap.size A.k xo xn xc ∧ LsV wx (.agg #[.int .i64 A.k, .slice xo xn xc]) A ∧ Below w.heap.size w wx) ⟨q0.below ((Below.refl _ _).alloc (Nat.le_refl _) _), q1.below ((Below.refl _ _).alloc (Nat.le_refl _) _), q2.below ((Below.refl _ _).alloc (Nat.le_refl _) _), heap_alloc_new w3 _, HX.out.below ((Below.refl _ _).alloc (Nat.le_refl _) _), hB3.alloc hB3.size _⟩ ?_
  have hl2 := q2.lt
  obtain ⟨b3, hb3⟩ : ∃ b, w3.heap.size = b := ⟨_, rfl⟩
  rw [hb3] at hl2 ⊢
  clear q0 q1 q2 hB3 hb3 HX
  rintro w4 ⟨q0, q1, q2, q3, hx, hB4⟩
  have HX := Lib.hid hx
  obtain ⟨x0, x1⟩ := q0.cells
  obtain ⟨y0, y1⟩ := q1.cells
  clear hx
  go_wp2_with fail
  refine (HMER.out _ hB4).mono ?_
  rintro e w5 ⟨vy, rfl, hy, hb5⟩
  have hB5 := hB4.trans (hb5.mono hB4.size)
  replace q0 := q0.below hb5
  replace q1 := q1.below hb5
  replace q2 := q2.below hb5
  replace q3 := q3.below hb5
  have HX5 := Lib.hid (HX.out.below hb5)
  have HY := Lib.hid hy
  obtain ⟨yo, yn, yc, rfl, hyn⟩ := lsv_open hy
  clear hb5 hB4 hy hyn HX x0 x1 y0 y1
  go_upto_region 4 with (fail)
  refine wp_abs (fun wx => BxA wx b0 s.k so sn sc ∧ BxA wx (b0 + 1) t.k to' tn tc ∧ BxA wx b2 ak none 0 0 ∧ BxA wx b3 A.k xo xn xc ∧ BxA wx w5.heap.size M.k yo yn yc ∧ LsV wx (.agg #[.int .i64 A.k, .slice xo xn xc]) A ∧ LsV wx (.agg #[.int .i64 M.k, .slice yo yn yc]) M ∧ Below w.heap.size w wx)
    ⟨q0.below ((Below.refl _ _).alloc (Nat.le_refl _) _), q1.below ((Below.refl _ _).alloc (Nat.le_refl _) _), q2.below ((Below.refl _ _).alloc (Nat.le_refl _) _), q3.below ((Below.refl _ _).alloc (Nat.le_refl _) _), heap_alloc_new w5 _, HX5.out.below ((Below.refl _ _).alloc (Nat.le_refl _) _), HY.out.below ((Below.refl _ _).alloc (Nat.le_refl _) _), hB5.alloc hB5.size _⟩ ?_
  have hl3 := q3.lt
  obtain ⟨b4, hb4⟩ : ∃ b, w5.heap.size = b := ⟨_, rfl⟩
  rw [hb4] at hl3 ⊢
  clear q0 q1 q2 q3 hB5 hb4 HX5 HY
  rintro w6 ⟨q0, q1, q2, q3, q4, hx, hy, hB6⟩
  have HX := Lib.hid hx
  have HY := Lib.hid hy
  obtain ⟨x0, x1⟩ := q0.cells
  clear hx hy
  go_wp2_with fail
  refine (HGU.out _ hB6).mono ?_
  rintro e w7 ⟨rfl, hb7⟩
  have hB7 := hB6.trans (hb7.mono hB6.size)
  replace q0 := q0.below hb7
  replace q1 := q1.below hb7
  replace q2 := q2.below hb7
  replace q3 := q3.below hb7
  replace q4 := q4.below hb7
  have HX7 := Lib.hid (HX.out.below hb7)
  have HY7 := Lib.hid (HY.out.below hb7)
  clear hb7 hB6 HX HY x0 x1
  go_upto_region 6 with (fail)
  refine wp_abs (fun wx => BxA wx b0 s.k so sn sc ∧ BxA wx (b0 + 1) t.k to' tn tc ∧ BxA wx b2 ak none 0 0 ∧ BxA wx b3 A.k xo xn xc ∧ BxA wx b4 M.k yo yn yc ∧ BxA wx w7.heap.size 0 none 0 0 ∧ LsV wx (.agg #[.int .i64 A.k, .slice xo xn xc]) A ∧ LsV wx (.agg #[.int .i64 M.k, .slice yo yn yc]) M ∧ Below w.heap.size w wx)
    ⟨q0.below ((Below.refl _ _).alloc (Nat.le_refl _) _), q1.below ((Below.refl _ _).alloc (Nat.le_refl _) _), q2.below ((Below.refl _ _).alloc (Nat.le_refl _) _), q3.below ((Below.refl _ _).alloc (Nat.le_refl _) _), q4.below ((Below.refl _ _).alloc (Nat.le_refl _) _), heap_alloc_new w7 _, HX7.out.below ((Below.refl _ _).alloc (Nat.le_refl _) _), HY7.out.below ((Below.refl _ _).alloc (Nat.le_refl _) _), hB7.alloc hB7.size _⟩ ?_
  have hl4 := q4.lt
  obtain ⟨b5, hb5⟩ : ∃ b, w7.heap.size = b := ⟨_, rfl⟩
  rw [hb5] at hl4 ⊢
  clear q0 q1 q2 q3 q4 hB7 hb5 HX7 HY7
  rintro w8 ⟨q0, q1, q2, q3, q4, q5, hx, hy, hB8⟩
  have HXB : Hid (∀ W, Below w8.heap.size w8 W → (W.cell? ⟨b3, 0, none⟩ = some (.int .i64 A.k) ∧ W.cell? ⟨b3, 1, none⟩ = some (.slice xo xn xc)) ∧ (W.cell? ⟨b0, 0, none⟩ = some (.int .i64 s.k) ∧ W.cell? ⟨b0, 1, none⟩ = some (.slice so sn sc))) := Lib.hid (fun W h => ⟨(q3.below h).cells, (q0.below h).cells⟩)
  have HTB : Hid (∀ W, Below w8.heap.size w8 W → W.cell? ⟨b0 + 1, 0, none⟩ = some (.int .i64 t.k) ∧ W.cell? ⟨b0 + 1, 1, none⟩ = some (.slice to' tn tc)) := Lib.hid (fun W h => (q1.below h).cells)
  have HAB : Hid (∀ W, Below w8.heap.size w8 W → W.cell? ⟨b2, 0, none⟩ = some (.int .i64 ak) ∧ W.cell? ⟨b2, 1, none⟩ = some (.slice none 0 0)) := Lib.hid (fun W h => (q2.below h).cells)
  have HYB : Hid (∀ W, Below w8.heap.size w8 W → W.cell? ⟨b4, 0, none⟩ = some (.int .i64 M.k) ∧ W.cell? ⟨b4, 1, none⟩ = some (.slice yo yn yc)) := Lib.hid (fun W h => (q4.below h).cells)
  have HZB : Hid (∀ W, Below w8.heap.size w8 W → W.cell? ⟨b5, 0, none⟩ = some (.int .i64 0) ∧ W.cell? ⟨b5, 1, none⟩ = some (.slice none 0 0)) := Lib.hid (fun W h => (q5.below h).cells)
  have HLX : Hid (∀ W, Below w8.heap.size w8 W → LsV W (.agg #[.int .i64 A.k, .slice xo xn xc]) A) := Lib.hid (fun W h => hx.below h)
  have HLY : Hid (∀ W, Below w8.heap.size w8 W → LsV W (.agg #[.int .i64 M.k, .slice yo yn yc]) M) := Lib.hid (fun W h => hy.below h)
  have HBW : Hid (∀ W, Below w8.heap.size w8 W → Below w.heap.size w W) := Lib.hid (fun W h => hB8.trans (h.mono hB8.size))
  have HB0 : Hid (Below w8.heap.size w8 w8) := Lib.hid (Below.refl _ _)
  have HBS : Hid (w.heap.size ≤ w8.heap.size) := Lib.hid hB8.size
  have HL5 := Lib.hid q5.lt
  clear q0 q1 q2 q3 q4 q5 hx hy hB8 hl0 hl1 hl2 hl3 hl4 hb0
  -- regions 6 to 10
  obtain ⟨D, hD⟩ : ∃ D, decide (k < 2 ∨ 64 < k) = D := ⟨_, rfl⟩
  have HDD := Lib.hid hD
  clear hD
  go_cut [50] (fun x wx => x = .bool D ∧ w8 = wx)
  case first =>
    by_cases c1 : k < 2
    · obtain rfl : true = D := by rw [← HDD.out]; exact (decide_eq_true (Or.inl c1)).symm
      go_wp2_with fail
      go_meet
      exact ⟨rfl, rfl⟩
    · by_cases c2 : 64 < k
      · obtain rfl : true = D := by rw [← HDD.out]; exact (decide_eq_true (Or.inr c2)).symm
        go_wp2_with fail
        go_meet
        exact ⟨rfl, rfl⟩
      · obtain rfl : false = D := by rw [← HDD.out]; exact (decide_eq_false (by omega)).symm
        go_wp2_with fail
        go_meet
        exact ⟨rfl, rfl⟩
  obtain ⟨rfl, hwx⟩ := hcut
  subst hwx
  go_upto_if 50 with (fail)
  go_cut [] (fun wx => Below w8.heap.size w8 wx)
  case first =>
    obtain ⟨x0, x1⟩ := HAB.out _ HB0.out
    obtain ⟨y0, y1⟩ := HZB.out _ HB0.out
    cases D
    · have hk2 := of_decide_eq_false HDD.out
      obtain rfl : k = ak := by rw [← HAK.out]; exact (if_neg hk2).symm
      obtain rfl : 0 = ae := by rw [← HAE.out]; exact (if_neg hk2).symm
      clear hk2
      go_wp2_with fail
      refine (lsame_self _ _ ⟨k, []⟩ _ ⟨_, rfl, own_sl (World.ownsRow_nil _ w8.heap.size 22 _), (fun z hz => by cases hz), hk.1, hk.2, Nat.zero_le _⟩ ⟨_, rfl, own_sl (World.ownsRow_nil _ w8.heap.size 22 _), (fun z hz => by cases hz), hk.1, hk.2, Nat.zero_le _⟩).mono ?_
      rintro e w9 ⟨rfl, hb9⟩
      go_wp2_with fail
      go_meet
      exact hb9
    · have hk2 := of_decide_eq_true HDD.out
      obtain rfl : 0 = ak := by rw [← HAK.out]; exact (if_pos hk2).symm
      obtain rfl : 1 = ae := by rw [← HAE.out]; exact (if_pos hk2).symm
      clear hk2
      go_wp2_with fail
      refine (lsame_self _ _ ⟨0, []⟩ _ (lsv_zero _) (lsv_zero _)).mono ?_
      rintro e w9 ⟨rfl, hb9⟩
      go_wp2_with fail
      go_meet
      exact hb9
  obtain ⟨w9, rfl⟩ : ∃ x, x = wc := ⟨_, rfl⟩
  have HB9 := Lib.hid hcut
  clear hcut HAK HAE HDD HEM
  obtain ⟨⟨x0, x1⟩, ⟨y0, y1⟩⟩ := HXB.out _ HB9.out
  go_wp2_with fail
  refine (HLF.out _ (HBW.out _ HB9.out)).mono ?_
  rintro e w10 ⟨rfl, hb10⟩
  have HB10 := Lib.hid (HB9.out.trans (hb10.mono HB9.out.size))
  clear x0 x1 y0 y1 hb10 HB9
  obtain ⟨⟨x0, x1⟩, ⟨y0, y1⟩⟩ := HXB.out _ HB10.out
  have tF : (F != F) = false := by simp
  have tE : (F == F) = true := by simp
  go_wp2_with fail
  refine (HCK.out _ (HBW.out _ HB10.out)).mono ?_
  rintro e w11 ⟨rfl, hb11⟩
  have HB11 := Lib.hid (HB10.out.trans (hb11.mono HB10.out.size))
  clear x0 x1 y0 y1 hb11 HB10
  obtain ⟨⟨x0, x1⟩, ⟨y0, y1⟩⟩ := HXB.out _ HB11.out
  obtain ⟨z0, z1⟩ := HZB.out _ HB11.out
  by_cases hz : F = 0
  case neg =>
    have t1 : (F != 0) = true := by rw [bne_iff_ne]; exact hz
    have hsz : lsF s ≠ 0 := by rw [HF.out]; exact hz
    have hA0 := HA.out
    rw [if_neg hsz] at hA0
    subst hA0
    have hM0 := HM.out
    rw [merge_bad1 hsz, HF.out] at hM0
    obtain ⟨rfl, rfl⟩ : ⟨0, []⟩ = M ∧ F = me := ⟨congrArg Prod.fst hM0, congrArg Prod.snd hM0⟩
    obtain rfl : 0 = G := by rw [← HG.out, if_neg hsz]
    have HLX2 : Hid (LsV w11 (.agg #[.int .i64 0, .slice xo xn xc]) ⟨0, []⟩) := Lib.hid (HLX.out _ HB11.out)
    clear hz hsz hM0
    go_wp2_with fail
    refine (lsame_self _ _ ⟨0, []⟩ _ HLX2.out (lsv_zero _)).mono ?_
    rintro e w12 ⟨rfl, hb12⟩
    have HB12 := Lib.hid (HB11.out.trans (hb12.mono HB11.out.size))
    clear x0 x1 y0 y1 z0 z1 hb12
    obtain ⟨x0, x1⟩ := HYB.out _ HB12.out
    obtain ⟨z0, z1⟩ := HZB.out _ HB12.out
    go_wp2_with fail
    refine (lsame_self _ _ ⟨0, []⟩ _ (HLY.out _ HB12.out) (lsv_zero _)).mono ?_
    rintro e w13 ⟨rfl, hb13⟩
    have HB13 := Lib.hid (HB12.out.trans (hb13.mono HB12.out.size))
    clear x0 x1 z0 z1 hb13
    go_wp2_with fail
    go_ret
    exact ⟨rfl, HBW.out _ HB13.out⟩
  subst hz
  have hA0 := HA.out
  rw [if_pos HF.out, HHH.out] at hA0
  subst hA0
  obtain rfl : guessL s = G := by rw [← HG.out, if_pos HF.out]
  generalize hGL : guessL s = G at *
  have HGL := Lib.hid hGL
  have hU : U64 HH := by
    have h := Hash.hashI_bd 0 d (by decide) (by decide) p
    rw [HHH.out] at h
    exact h
  have HUU := Lib.hid hU
  have tG : (G != G) = false := by simp
  have HBd : Hid (Below w11.heap.size w11 w11.drew) := Lib.hid (Below.refl _ _).drew
  have HXC : Hid (∀ W, Below w11.heap.size w11 W → W.cell? ⟨b3, 0, none⟩ = some (.int .i64 (svU s HH).k) ∧ W.cell? ⟨b3, 1, none⟩ = some (.slice xo xn xc) ∧ W.cell? ⟨b0, 0, none⟩ = some (.int .i64 s.k) ∧ W.cell? ⟨b0, 1, none⟩ = some (.slice so sn sc)) := Lib.hid (fun W h => by
    obtain ⟨⟨a1, a2⟩, a3⟩ := HXB.out W (HB11.out.trans (h.mono HB11.out.size))
    exact ⟨a1, a2, a3⟩)
  have HLS : Hid (∀ W, Below w11.heap.size w11 W → LsV W (.agg #[.int .i64 s.k, .slice so sn sc]) s) := Lib.hid (fun W h => HS.out.below (HBW.out _ (HB11.out.trans (h.mono HB11.out.size))))
  have HLX3 : Hid (∀ W, Below w11.heap.size w11 W → LsV W (.agg #[.int .i64 (svU s HH).k, .slice xo xn xc]) (svU s HH)) := Lib.hid (fun W h => HLX.out _ (HB11.out.trans (h.mono HB11.out.size)))
  have HU2 : Hid (∀ W, Below w11.heap.size w11 W → Sl W 1 (.slice uo p uc) p (d.map (Value.int .u8))) := Lib.hid (fun W h => HU.out.below (HBW.out _ (HB11.out.trans (h.mono HB11.out.size))))
  have q0 := HXC.out _ (Below.refl _ _)
  have q1 := HXC.out _ HBd.out
  clear x0 x1 y0 y1 z0 z1 hGL hU
  go_upto_region 16 with (fail)
  go_region_held3 (fun w' => w'.cell? ⟨b3, 0, none⟩ = some (.int .i64 (svU s HH).k) ∧ w'.cell? ⟨b3, 1, none⟩ = some (.slice xo xn xc) ∧ w'.cell? ⟨b0, 0, none⟩ = some (.int .i64 s.k) ∧ w'.cell? ⟨b0, 1, none⟩ = some (.slice so sn sc)) (first | (with_reducible exact q4) | (with_reducible exact q3) | (with_reducible exact q2) | (with_reducible exact q1) | (with_reducible exact q0) | go_keep) (first
    | (go_at_call 21; refine (Hash.hashof_any 0 _ p d (by decide) (by decide) _ (HU2.out _ HBd.out) HD.out).mono ?_; rw [HHH.out]; rintro e w12 ⟨rfl, hq⟩; subst hq)
    | (go_at_call 36; refine (sieved_any _ s HH _ (HLS.out _ HBd.out) HUU.out HF.out).mono ?_; rintro e w13 ⟨v13, rfl, hl13, hb13⟩; have HB13 : Hid (Below w11.heap.size w11 w13) := Lib.hid (HBd.out.trans (hb13.mono HBd.out.size)); have q2 := HXC.out _ HB13.out; obtain ⟨o13, n13, c13, rfl, -⟩ := lsv_open hl13; have HL13 := Lib.hid hl13; clear hb13 hl13)
    | (go_at_call 33; refine (lsame_self _ _ (svU s HH) _ (HLX3.out _ HB13.out) HL13.out).mono ?_; rintro e w14 ⟨rfl, hb14⟩; have HB14 : Hid (Below w11.heap.size w11 w14) := Lib.hid (HB13.out.trans (hb14.mono HB13.out.size)); have q3 := HXC.out _ HB14.out; clear hb14)
    | (go_at_call 37; refine (guessof_any _ s _ (HLS.out _ HB14.out) HF.out).mono ?_; rw [HGL.out]; rintro e w15 ⟨rfl, hb15⟩; have HB15 : Hid (Below w11.heap.size w11 w15) := Lib.hid (HB14.out.trans (hb15.mono HB14.out.size)); have q4 := HXC.out _ HB15.out; clear hb15))
  all_goals
    have HB16 : Hid (Below w8.heap.size w8 w15) := Lib.hid (HB11.out.trans (HB15.out.mono HB11.out.size))
    clear q0 q1 q2 q3 q4 HXC HLS HLX3 HU2 HB13 HB14 HB15 HBd HB11 HL13 HGL
    obtain ⟨x0, x1⟩ := HTB.out _ HB16.out
    obtain ⟨F2, hF2⟩ : ∃ F, lsF t = F := ⟨_, rfl⟩
    have hLF2 := lfault_any _ t _ (HT.out.below (HBW.out _ HB16.out))
    rw [hF2] at hLF2
    have HF2 := Lib.hid hF2
    have HLF2 := Lib.hid hLF2
    clear hF2 hLF2
    go_wp2_with fail
    refine HLF2.out.mono ?_
    rintro e w17 ⟨rfl, hb17⟩
    have HB17 := Lib.hid (HB16.out.trans (hb17.mono HB16.out.size))
    clear x0 x1 hb17 HB16 HLF2
    obtain ⟨x0, x1⟩ := HTB.out _ HB17.out
    obtain ⟨-, ⟨y0, y1⟩⟩ := HXB.out _ HB17.out
    have hLYz : ∀ W, Below w8.heap.size w8 W → M = ⟨0, []⟩ → Calls Try.prog 33 #[.agg #[.int .i64 M.k, .slice yo yn yc], .agg #[.int .i64 0, .slice none 0 0]] W fun e w' => e = .returned (.bool true) ∧ Below W.heap.size W w' := fun W h hM0 => by
      have h1 := HLY.out W h
      subst hM0
      exact lsame_self _ _ ⟨0, []⟩ _ h1 (lsv_zero _)
    have HLYZ := Lib.hid hLYz
    clear hLYz
    by_cases hz2 : F2 = 0
    case neg =>
      have t2 : (F2 == 0) = false := beq_eq_false_iff_ne.2 hz2
      have t3 : (F2 != 0) = true := by rw [bne_iff_ne]; exact hz2
      have t4 : (F2 == F2) = true := by simp
      have hM0 := HM.out
      rw [merge_bad2 HF.out (by rw [HF2.out]; exact hz2), HF2.out] at hM0
      obtain rfl : F2 = me := congrArg Prod.snd hM0
      have HM1 : Hid (M = ⟨0, []⟩) := Lib.hid (congrArg Prod.fst hM0).symm
      clear hz2 hM0 y0 y1
      obtain ⟨y0, y1⟩ := HYB.out _ HB17.out
      obtain ⟨z0, z1⟩ := HZB.out _ HB17.out
      go_wp2_with fail
      refine (HLYZ.out _ HB17.out HM1.out).mono ?_
      rintro e w18 ⟨rfl, hb18⟩
      have HB18 := Lib.hid (HB17.out.trans (hb18.mono HB17.out.size))
      clear x0 x1 y0 y1 z0 z1 hb18
      go_wp2_with fail
      go_ret
      exact ⟨rfl, HBW.out _ HB18.out⟩
    subst hz2
    by_cases hkk : s.k = t.k
    case neg =>
      have t2 : (s.k != t.k) = true := by rw [bne_iff_ne]; exact hkk
      have hM0 := HM.out
      rw [merge_bad3 HF.out HF2.out hkk] at hM0
      obtain rfl : 1 = me := congrArg Prod.snd hM0
      have HM1 : Hid (M = ⟨0, []⟩) := Lib.hid (congrArg Prod.fst hM0).symm
      clear hkk hM0
      obtain ⟨u0, u1⟩ := HYB.out _ HB17.out
      obtain ⟨z0, z1⟩ := HZB.out _ HB17.out
      go_wp2_with fail
      refine (HLYZ.out _ HB17.out HM1.out).mono ?_
      rintro e w18 ⟨rfl, hb18⟩
      have HB18 := Lib.hid (HB17.out.trans (hb18.mono HB17.out.size))
      clear x0 x1 y0 y1 z0 z1 u0 u1 hb18
      go_wp2_with fail
      go_ret
      exact ⟨rfl, HBW.out _ HB18.out⟩
    have t2 : (s.k != t.k) = false := by rw [hkk]; simp
    have hM0 := HM.out
    rw [merge_ok HF.out HF2.out hkk] at hM0
    obtain rfl : 0 = me := congrArg Prod.snd hM0
    have HM1 : Hid (t.h.foldl svU s = M) := Lib.hid (congrArg Prod.fst hM0)
    have HSV := Lib.hid (HS.out.below (HBW.out _ HB17.out))
    clear hkk hM0 HLYZ
    go_upto_region 24 with (fail)
    refine wp_abs (fun wx => WtAt w17.heap.size w17 s so sn sc wx) ⟨heap_alloc_new w17 _, HSV.out.below ((Below.refl _ _).alloc (Nat.le_refl _) _), (Below.refl _ _).alloc (Nat.le_refl _) _⟩ ?_
    obtain ⟨b9, hb9⟩ : ∃ b, w17.heap.size = b := ⟨_, rfl⟩
    rw [hb9]
    have HB9 := Lib.hid hb9
    rintro w18 hw18
    have HW18 := Lib.hid hw18
    clear hw18 hb9 x0 x1 y0 y1 HSV
    have HB18 := Lib.hid (HB17.out.trans (HW18.out.2.2.mono (by rw [← HB9.out]; exact HB17.out.size)))
    obtain ⟨x0, x1⟩ := HTB.out _ HB18.out
    have htn9 : tn ≤ 140737488355328 := by
      obtain ⟨_, _, _, _, _, _, h9⟩ := HT.out
      rw [HTN.out] at h9
      exact h9
    obtain ⟨-, hst, hzt, -⟩ : LsV w18 (.agg #[.int .i64 t.k, .slice to' tn tc]) t ∧ Sl w18 1 (.slice to' tn tc) tn (t.h.map (Value.int .u64)) ∧ (∀ z ∈ t.h, U64 z) ∧ True := by
      have h1 := HT.out.below (HBW.out _ HB18.out)
      refine ⟨h1, ?_⟩
      obtain ⟨u, hu, h2, h3, -⟩ := h1
      obtain ⟨rfl⟩ : Value.slice to' tn tc = u := by simpa using hu
      rw [HTN.out] at h2
      exact ⟨h2, h3, trivial⟩
    have HST := Lib.hid hst
    have HZT := Lib.hid hzt
    have hlt9 : b9 < w18.heap.size := HW18.out.1.lt
    clear hst hzt
    go_wp2_with fail
    go_loopw [149] (fun i wr => WtR b9 tn w17 s t.h i wr) (fun i _ => tn - (intOf i).toNat)
    case atStart => exact ⟨0, so, sn, sc, Nat.zero_le _, rfl, HW18.out⟩
    case round =>
      clear x0 x1
      obtain ⟨j, wo, wn, wc', hj, rfl, hwt⟩ := hrel
      have HWT := Lib.hid hwt
      have HBR := Lib.hid (HB17.out.trans (hwt.2.2.mono (by rw [← HB9.out]; exact HB17.out.size)))
      obtain ⟨x0, x1⟩ := HWT.out.1.cells
      obtain ⟨f0, f1⟩ := HWT.out.1.stays
      clear hwt
      by_cases hlt : j < tn
      case neg =>
        obtain rfl : j = tn := by omega
        have HFULL : Hid (((t.h.take j).foldl svU s) = M) := Lib.hid (by rw [List.take_of_length_le (by rw [HTN.out]; exact Nat.le_refl _)]; exact HM1.out)
        have HWL : Hid (LsV wr (.agg #[.int .i64 ((t.h.take j).foldl svU s).k, .slice wo wn wc']) M) := Lib.hid (by have h := HWT.out.2.1; rw [HFULL.out] at h ⊢; exact h)
        obtain ⟨y0, y1⟩ := HYB.out _ HBR.out
        go_wp2_with fail
        refine (lsame_self _ _ M _ (HLY.out _ HBR.out) HWL.out).mono ?_
        rintro e w19 ⟨rfl, hb19⟩
        have HB19 := Lib.hid (HBR.out.trans (hb19.mono HBR.out.size))
        clear x0 x1 y0 y1 f0 f1 hb19
        go_wp2_with fail
        go_ret
        exact ⟨rfl, HBW.out _ HB19.out⟩
      obtain ⟨x, hx⟩ : ∃ x, t.h[j]? = some x := ⟨_, List.getElem?_eq_getElem (by rw [HTN.out]; exact hlt)⟩
      have hsr : Sl wr 1 (.slice to' tn tc) tn (t.h.map (Value.int .u64)) := by
        have h1 := HT.out.below (HBW.out _ HBR.out)
        obtain ⟨u, hu, h2, h3, -⟩ := h1
        obtain ⟨rfl⟩ : Value.slice to' tn tc = u := by simpa using hu
        rw [HTN.out] at h2
        exact h2
      obtain ⟨tb, toff, rfl, c0⟩ := sl_elU hsr hx hlt
      have HUX := Lib.hid (HZT.out x (List.mem_of_getElem? hx))
      have HNX : Hid ((t.h.take (j + 1)).foldl svU s = svU ((t.h.take j).foldl svU s) x) := Lib.hid (fold_next hx)
      have HF0 : Hid (lsF ((t.h.take j).foldl svU s) = 0) := Lib.hid (lsF_fold HF.out _)
      clear hx hsr
      generalize hCU : (t.h.take j).foldl svU s = CU at *
      clear hCU
      go_wp2_with fail
      refine (sieved_any _ CU x _ HWT.out.2.1 HUX.out HF0.out).mono ?_
      rintro e w19 ⟨v19, rfl, hl19, hb19⟩
      obtain ⟨no, nn, nc, rfl, -⟩ := lsv_open hl19
      have HBX : Hid (BxA w19 b9 CU.k wo wn wc') := Lib.hid (HWT.out.1.below hb19)
      have HB19 : Hid (Below b9 w17 w19) := Lib.hid (HWT.out.2.2.trans (hb19.mono (Nat.le_of_lt HWT.out.1.lt)))
      have HL19 := Lib.hid hl19
      clear x0 x1 f0 f1 c0 hl19 hb19
      obtain ⟨x0, x1⟩ := HBX.out.cells
      obtain ⟨f0, f1⟩ := HBX.out.stays
      have HEND : Hid (WtAt b9 w17 (svU CU x) no nn nc ((w19.setCell ⟨b9, 0, none⟩ (.int .i64 (svU CU x).k)).setCell ⟨b9, 1, none⟩ (.slice no nn nc))) := Lib.hid ⟨HBX.out.store, lsv_store HL19.out HBX.out _ _, (HB19.out.setCell (p := ⟨b9, 0, none⟩) (Nat.le_refl _) _).setCell (p := ⟨b9, 1, none⟩) (Nat.le_refl _) _⟩
      go_wp2_with fail
      go_roundw
      case rel => exact ⟨j + 1, no, nn, nc, by omega, by go_num, by rw [HNX.out]; exact HEND.out⟩
      case measure => simp [intOf]; omega
end Go.Proofs.Ytlfhcjhbnakamaa.LeastTells
/-
  'gaugehouselaw.LeastTells' returns true, whatever is handed in, and its arguments read behind the call as they read before. No condition beside those of the given row.
-/
namespace Go.Proofs.Ytlfhcjhbnakamaa.LeastTells
open Go.RowKit Go.ChangeShapes Go.WideShapes Go.ChangeAt Go.Gh Go.Proofs.Ytlfhcjhbnakamaa.Lst
set_option linter.unusedVariables false
theorem own : ownKnob Try.prog.godebug = none := by kernel_rfl
theorem laidOut : laidOutB Try.prog = true := by kernel_rfl
set_option maxRecDepth 100000 in
theorem lifted (os : Os) (started : os.Started) (H : Type) (enc : TypeId × Value → H) :
    ReturnsInHanded {} Try.checked os 6 .any (Rows.leastTellsSpec.pre6 enc Try.prog Try.f6 Rows.leastTellsRow.domain false) (Rows.leastTellsSpec.post enc Try.prog Try.f6 false true false false) := by
  refine returnsInHanded_of_change_sized (C := Try.checked) own started (by kernel_rfl) Try.func6
    (ChangeSpec.witness6 (enc := enc) (C := Try.checked) false ⟨#[], #[.int .i64 0, .agg #[.int .i64 0, .slice none 0 0], .agg #[.int .i64 0, .slice none 0 0], .slice none 0 0], []⟩ 8 (by kernel_rfl) (by kernel_rfl) (by kernel_rfl) (by kernel_rfl)) ?_
  intro W base args ds gs before hval0 hW hcnd hsz0 _
  have hval : ∀ (j : Nat) t v, Try.f6.params[j]? = some t → args[j]? = some v → Value.okWide Try.prog W .any base t v := hval0
  have hW' := hW
  obtain ⟨p, q, hA0, hV, rfl, hfz, hnd⟩ := hW
  have hA : DataW.TrodAll enc Try.prog W 0 (fun _ => true) true Try.f6.params.toList args.toList ds p := hA0
  have hsz : (DataW.weightsEach Try.prog (Try.f6.params.toList ++ Rows.leastTellsSpec.plain.varTypes Try.prog) (ds ++ gs)).all (fun n => decide (n ≤ reachBytes)) = true := hsz0
  rw [Try.params6] at hA hval hsz
  obtain ⟨v0, vs0, d0, ds0, p0, q0, hargs, rfl, rfl, h0, r0⟩ := trodAll_cons hA
  obtain ⟨v1, vs1, d1, ds1, p1, q1, rfl, rfl, rfl, h1, r1⟩ := trodAll_cons r0
  obtain ⟨v2, vs2, d2, ds2, p2, q2, rfl, rfl, rfl, h2, r2⟩ := trodAll_cons r1
  obtain ⟨v3, vs3, d3, ds3, p3, q3, rfl, rfl, rfl, h3, r3⟩ := trodAll_cons r2
  obtain ⟨rfl, rfl, rfl⟩ := trodAll_nil r3
  obtain rfl : args = #[v0, v1, v2, v3] := by cases args; simp_all
  obtain ⟨rfl, rfl⟩ := trodVars_none hV
  have u0 := (isInt_of Try.underlying3 (hval 0 _ v0 rfl rfl) h0 (sized_at hsz 0 rfl rfl))
  have u1 := (isLs_of (hval 1 _ v1 rfl rfl) h1 (sized_at hsz 1 rfl rfl))
  have u2 := (isLs_of (hval 2 _ v2 rfl rfl) h2 (sized_at hsz 2 rfl rfl))
  have u3 := (isInts_of Try.underlying23 Try.underlying5 (by kernel_rfl) (of_decide_eq_true (by kernel_rfl)) (hval 3 _ v3 rfl rfl) h3 (sized_at hsz 3 rfl rfl))
  clear hA0 hval0
  refine (walk v0 v1 v2 v3 W u0 u1 u2 u3).mono fun e W' ⟨he, bel⟩ => ?_
  subst he
  exact ⟨_, rfl, _, _, _, [], _, [], hW', trodAll_mk1 (shut_bool Try.underlying4 _), (trodAll_cons_mk (Below.trod laidOut (by kernel_rfl) (of_decide_eq_true (by kernel_rfl)) h0 bel (trod_lt' h0)) (trodAll_cons_mk (Below.trod laidOut (by kernel_rfl) (of_decide_eq_true (by kernel_rfl)) h1 bel (trod_lt' h1)) (trodAll_cons_mk (Below.trod laidOut (by kernel_rfl) (of_decide_eq_true (by kernel_rfl)) h2 bel (trod_lt' h2)) (trodAll_cons_mk (Below.trod laidOut (by kernel_rfl) (of_decide_eq_true (by kernel_rfl)) h3 bel (trod_lt' h3)) trodAll_mk0)))), rfl, bel.frame _, fun h => by cases h⟩
theorem over : Rows.leastTellsRow.holds Try.pinned (OpenSpec.ofChange Rows.leastTellsSpec) :=
  OpenClaim.holds_of_wide 6 Try.f6 rfl rfl rfl rfl rfl rfl rfl ⟨rfl, rfl, rfl, rfl, rfl⟩ rfl rfl rfl rfl rfl (by kernel_rfl) Try.func6 (by kernel_rfl)
    (of_decide_eq_true (by kernel_rfl)) (by unfold Func.isWrapper; first | (rw [if_pos (by decide +kernel)]; kernel_rfl) | (rw [if_neg (by decide +kernel)]; exact ⟨rfl, rfl⟩))
    (fun os started H enc _ => lifted os started H enc)
theorem proved : Rows.LeastTellsSaid := over
#print axioms proved
end Go.Proofs.Ytlfhcjhbnakamaa.LeastTells
