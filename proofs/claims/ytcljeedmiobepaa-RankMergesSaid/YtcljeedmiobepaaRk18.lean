/-
  Ranks: the walk of Merge.
-/
import Derived.Test.YtcljeedmiobepaaRk17
import Derived.Deep.RegionLaw
import Derived.Deep.RegionHeld3
import Derived.BigRegion
namespace Go.Proofs.Ytcljeedmiobepaa.Rk
open Go.RowKit Go.Gh
set_option linter.unusedVariables false
section
variable {a b : Rk} {e : Int}
theorem rr_bad1 (h : rankF a = e) (hz : e ≠ 0) : mergeR a b = (rk0, e) := by
  unfold mergeR
  rw [h, if_neg hz]
theorem rr_bad2 (h1 : rankF a = 0) (h : rankF b = e) (hz : e ≠ 0) : mergeR a b = (rk0, e) := by
  unfold mergeR
  rw [h1, if_pos rfl, h, if_neg hz]
theorem rr_k (h1 : rankF a = 0) (h : rankF b = 0) (hz : ¬ a.k = b.k) : mergeR a b = (rk0, 1) := by
  unfold mergeR
  rw [h1, if_pos rfl, h, if_pos rfl, if_neg hz]
theorem rr_ok (h1 : rankF a = 0) (h : rankF b = 0) (hz : a.k = b.k) : mergeR a b = boundG (joinG a b) := by
  unfold mergeR
  rw [h1, if_pos rfl, h, if_pos rfl, if_pos hz]
end
theorem rk_zero {w w' : World} {r : Rk × Int} {e : Int} (h : r = (rk0, e)) (hb : Below w.heap.size w w') : RkPost w r (.returned (.tuple #[.agg #[.int .i64 0, .slice none 0 0, .slice none 0 0, .int .i64 0, .int .i64 0], .int .i64 e])) w' := by
  subst h
  exact ⟨_, rfl, rkV_zero _, hb⟩
theorem bx5_al {w : World} {B : Nat} {T : TypeId} {a b c d e : Value} (h : ∀ o, (w.alloc o).heap[B]? = some (.cells #[a, b, c, d, e] T (0, 0))) :
    ((∀ o, (w.alloc o).cell? ⟨B, 0, none⟩ = some a) ∧ (∀ o, (w.alloc o).cell? ⟨B, 1, none⟩ = some b) ∧ (∀ o, (w.alloc o).cell? ⟨B, 2, none⟩ = some c) ∧ (∀ o, (w.alloc o).cell? ⟨B, 3, none⟩ = some d) ∧ (∀ o, (w.alloc o).cell? ⟨B, 4, none⟩ = some e)) ∧
    ((∀ o, (w.alloc o).frozen? ⟨B, 0, none⟩ = false) ∧ (∀ o, (w.alloc o).frozen? ⟨B, 1, none⟩ = false) ∧ (∀ o, (w.alloc o).frozen? ⟨B, 2, none⟩ = false) ∧ (∀ o, (w.alloc o).frozen? ⟨B, 3, none⟩ = false) ∧ (∀ o, (w.alloc o).frozen? ⟨B, 4, none⟩ = false)) := by
  have h' := fun o => bx5 (h o)
  exact ⟨⟨fun o => (h' o).1.1, fun o => (h' o).1.2.1, fun o => (h' o).1.2.2.1, fun o => (h' o).1.2.2.2.1, fun o => (h' o).1.2.2.2.2⟩, ⟨fun o => (h' o).2.1, fun o => (h' o).2.2.1, fun o => (h' o).2.2.2.1, fun o => (h' o).2.2.2.2.1, fun o => (h' o).2.2.2.2.2⟩⟩
theorem jat_fin {w wr X : World} {a b : Rk} {b9 bb K : Nat} {ta ua tb ub c0 c1 c2 c3 c4 : Value} {x4 : Obj} (hbox : X.heap[b9]? = some (.cells #[.int .i64 a.k, ta, ua, .int .i64 a.n, .int .i64 a.sl] 141 (0, 0))) (ha : OwnRk wr.heap.size X a ta ua) (hb : OwnRk K X b tb ub) (hK : wr.heap.size ≤ K)
    (hta : ∀ g, ta.ownBlock = some g → g < K) (hua : ∀ g, ua.ownBlock = some g → g < K) (hX : Below wr.heap.size wr X) (hl : wr.heap.size ≤ b9) (hbb : bb < wr.heap.size) (h3 : X.heap[bb]? = some (.cells #[c0, c1, c2, c3, c4] 141 (0, 0))) (h4 : X.heap[bb + 1]? = some x4) (hw : Below w.heap.size w X) (hlw : w.heap.size ≤ bb) :
    JAt (((((X.setCell ⟨bb, 0, none⟩ (.int .i64 b.k)).setCell ⟨bb, 1, none⟩ tb).setCell ⟨bb, 2, none⟩ ub).setCell ⟨bb, 3, none⟩ (.int .i64 b.n)).setCell ⟨bb, 4, none⟩ (.int .i64 b.sl)) wr.heap.size b9 a ta ua b.lv ub b.tl tb (((((X.setCell ⟨bb, 0, none⟩ (.int .i64 b.k)).setCell ⟨bb, 1, none⟩ tb).setCell ⟨bb, 2, none⟩ ub).setCell ⟨bb, 3, none⟩ (.int .i64 b.n)).setCell ⟨bb, 4, none⟩ (.int .i64 b.sl)) ∧
    (((((X.setCell ⟨bb, 0, none⟩ (.int .i64 b.k)).setCell ⟨bb, 1, none⟩ tb).setCell ⟨bb, 2, none⟩ ub).setCell ⟨bb, 3, none⟩ (.int .i64 b.n)).setCell ⟨bb, 4, none⟩ (.int .i64 b.sl)).heap[bb]? = some (.cells #[.int .i64 b.k, tb, ub, .int .i64 b.n, .int .i64 b.sl] 141 (0, 0)) ∧
    (((((X.setCell ⟨bb, 0, none⟩ (.int .i64 b.k)).setCell ⟨bb, 1, none⟩ tb).setCell ⟨bb, 2, none⟩ ub).setCell ⟨bb, 3, none⟩ (.int .i64 b.n)).setCell ⟨bb, 4, none⟩ (.int .i64 b.sl)).heap[bb + 1]? = some x4 ∧
    Below w.heap.size w (((((X.setCell ⟨bb, 0, none⟩ (.int .i64 b.k)).setCell ⟨bb, 1, none⟩ tb).setCell ⟨bb, 2, none⟩ ub).setCell ⟨bb, 3, none⟩ (.int .i64 b.n)).setCell ⟨bb, 4, none⟩ (.int .i64 b.sl)) := by
  have ha2 := ha.stores5 (x0 := .int .i64 b.k) (x1 := tb) (x2 := ub) (x3 := .int .i64 b.n) (x4 := .int .i64 b.sl) h3
  have hb2 := hb.stores5 (x0 := .int .i64 b.k) (x1 := tb) (x2 := ub) (x3 := .int .i64 b.n) (x4 := .int .i64 b.sl) h3
  have hbox2 := block_stores_other (b := bb) (b' := b9) (by omega) [.int .i64 b.k, tb, ub, .int .i64 b.n, .int .i64 b.sl] X 0 hbox
  have h42 := block_stores_other (b := bb) (b' := bb + 1) (by omega) [.int .i64 b.k, tb, ub, .int .i64 b.n, .int .i64 b.sl] X 0 h4
  have hap : ∀ (v : Value) (t : Value) (n B' : Nat) (T : TypeId) (xs : List Value) (Y : World), Y.ownsRow B' T 1 v n xs → K ≤ B' → (∀ g, t.ownBlock = some g → g < K) → v.ownBlock = none ∨ v.ownBlock ≠ t.ownBlock := fun v t n B' T xs Y ho hB hlt => by
    cases hv : v.ownBlock with
    | none => exact Or.inl rfl
    | some g =>
      refine Or.inr fun e => ?_
      have := (ho.lt g hv).1
      have := hlt g e.symm
      omega
  obtain ⟨P, e1, e2, e3, e4⟩ := hb2.2
  refine ⟨⟨hbox2, ha2, ⟨P, e1, e2, fun p hp => ?_, own_mono e4 hK⟩, own_mono hb2.1 hK, hap _ _ _ _ _ _ _ e4 (Nat.le_refl _) hua, hap _ _ _ _ _ _ _ hb2.1 (Nat.le_refl _) hta, ⟨hl, by have := hX.size; simpa using this⟩, Below.refl _ _⟩, bx5_store _ _ _ _ _ h3, h42, bx5_below _ _ _ _ _ hlw hw⟩
  obtain ⟨t1, i1, i2, i3⟩ := e3 p hp
  exact ⟨t1, i1, own_mono i2 hK, hap _ _ _ _ _ _ _ i2 (Nat.le_refl _) hta⟩
set_option maxHeartbeats 40000000 in
set_option maxRecDepth 100000 in
theorem Merge_any (v v' : Value) (a b : Rk) (w : World) (hva : RkV w v a) (hvb : RkV w v' b) : Calls Try.prog 100 #[v, v'] w (RkPost w (mergeR a b)) := by
  obtain ⟨ao, n, ca, po, p1, pa, rfl, hva⟩ := rk_shape hva
  obtain ⟨bo, m, cb, qo, q1, qb, rfl, hvb⟩ := rk_shape hvb
  have HVA := Lib.hid hva
  have HVB := Lib.hid hvb
  obtain ⟨e1, he1⟩ : ∃ e, rankF a = e := ⟨_, rfl⟩
  obtain ⟨e2, he2⟩ : ∃ e, rankF b = e := ⟨_, rfl⟩
  have HE1 := Lib.hid he1
  have HE2 := Lib.hid he2
  clear hva hvb he1 he2
  go_enter Try.func100, Try.ntmps100
  go_wp2_with fail
  obtain ⟨wA, hwA⟩ : ∃ wA, wA = (((w.alloc (Obj.cells #[.int .i64 a.k, .slice ao n ca, .slice po p1 pa, .int .i64 a.n, .int .i64 a.sl] 141)).alloc (Obj.cells #[.int .i64 b.k, .slice bo m cb, .slice qo q1 qb, .int .i64 b.n, .int .i64 b.sl] 141)).alloc (Obj.cells #[.int .i64 0, .slice none 0 0, .slice none 0 0, .int .i64 0, .int .i64 0] 141)).alloc (Obj.cells #[.int .i64 a.k, .slice ao n ca, .slice po p1 pa, .int .i64 a.n, .int .i64 a.sl, .int .i64 b.k, .slice bo m cb, .slice qo q1 qb, .int .i64 b.n, .int .i64 b.sl] 141) := ⟨_, rfl⟩
  have hAs : wA.heap.size = w.heap.size + 1 + 1 + 1 + 1 := by rw [hwA]; simp
  have hAb : Below w.heap.size w wA := by rw [hwA]; exact ((((Below.refl _ w).alloc (Nat.le_refl _) _).alloc (by simp) _).alloc (by simp; omega) _).alloc (by simp; omega) _
  have hA0 : wA.heap[w.heap.size]? = some (.cells #[.int .i64 a.k, .slice ao n ca, .slice po p1 pa, .int .i64 a.n, .int .i64 a.sl] 141 (0, 0)) := by
    rw [hwA, Below.heap_alloc _ _ _ (by first | (simp; done) | (simp; omega)), Below.heap_alloc _ _ _ (by first | (simp; done) | (simp; omega))]
    exact two_first w _ _
  have hA1 : wA.heap[w.heap.size + 1]? = some (.cells #[.int .i64 b.k, .slice bo m cb, .slice qo q1 qb, .int .i64 b.n, .int .i64 b.sl] 141 (0, 0)) := by
    rw [hwA, Below.heap_alloc _ _ _ (by first | (simp; done) | (simp; omega)), Below.heap_alloc _ _ _ (by first | (simp; done) | (simp; omega))]
    exact two_second w _ _
  have hA2 : wA.heap[w.heap.size + 1 + 1]? = some (.cells #[.int .i64 0, .slice none 0 0, .slice none 0 0, .int .i64 0, .int .i64 0] 141 (0, 0)) := by
    rw [hwA]
    have := two_first ((w.alloc (Obj.cells #[.int .i64 a.k, .slice ao n ca, .slice po p1 pa, .int .i64 a.n, .int .i64 a.sl] 141)).alloc (Obj.cells #[.int .i64 b.k, .slice bo m cb, .slice qo q1 qb, .int .i64 b.n, .int .i64 b.sl] 141)) (Obj.cells #[.int .i64 0, .slice none 0 0, .slice none 0 0, .int .i64 0, .int .i64 0] 141) (Obj.cells #[.int .i64 a.k, .slice ao n ca, .slice po p1 pa, .int .i64 a.n, .int .i64 a.sl, .int .i64 b.k, .slice bo m cb, .slice qo q1 qb, .int .i64 b.n, .int .i64 b.sl] 141)
    rwa [World.size_alloc, World.size_alloc] at this
  have hA3 : wA.heap[w.heap.size + 1 + 1 + 1]? = some (.cells #[.int .i64 a.k, .slice ao n ca, .slice po p1 pa, .int .i64 a.n, .int .i64 a.sl, .int .i64 b.k, .slice bo m cb, .slice qo q1 qb, .int .i64 b.n, .int .i64 b.sl] 141 (0, 0)) := by
    rw [hwA]
    have := two_second ((w.alloc (Obj.cells #[.int .i64 a.k, .slice ao n ca, .slice po p1 pa, .int .i64 a.n, .int .i64 a.sl] 141)).alloc (Obj.cells #[.int .i64 b.k, .slice bo m cb, .slice qo q1 qb, .int .i64 b.n, .int .i64 b.sl] 141)) (Obj.cells #[.int .i64 0, .slice none 0 0, .slice none 0 0, .int .i64 0, .int .i64 0] 141) (Obj.cells #[.int .i64 a.k, .slice ao n ca, .slice po p1 pa, .int .i64 a.n, .int .i64 a.sl, .int .i64 b.k, .slice bo m cb, .slice qo q1 qb, .int .i64 b.n, .int .i64 b.sl] 141)
    rwa [World.size_alloc, World.size_alloc] at this
  rw [← hwA]
  have HAS := Lib.hid hAs
  have hlt0 : w.heap.size < wA.heap.size := by omega
  have hlt1 : w.heap.size + 1 < wA.heap.size := by omega
  have hlt2 : w.heap.size + 1 + 1 < wA.heap.size := by omega
  have hlt3 : w.heap.size + 1 + 1 + 1 < wA.heap.size := by omega
  clear hwA hAs
  go_loopw [7, 8, 18] (fun _ _ i wr => ∃ k : Int, (k = 0 ∨ k = 1 ∨ k = 2) ∧ i = .int .i64 k ∧ Below wA.heap.size wA wr ∧ Hid ((1 ≤ k → e1 = 0) ∧ (2 ≤ k → e2 = 0))) (fun _ _ i _ => (3 - intOf i).toNat)
  case atStart => exact ⟨0, Or.inl rfl, rfl, Below.refl _ _, by constructor <;> intro h <;> omega⟩
  case round =>
    obtain ⟨k, hk, rfl, hbr, hdone⟩ := hrel
    have hBw : Below w.heap.size w wr := hAb.trans (hbr.mono (by omega))
    have q0 := (hbr.block _ hlt0).trans hA0
    have q1' := (hbr.block _ hlt1).trans hA1
    have q2 := (hbr.block _ hlt2).trans hA2
    have q3 := (hbr.block _ hlt3).trans hA3
    have l0 : wr.cell? ⟨w.heap.size + 1 + 1 + 1, 0, none⟩ = some (.int .i64 a.k) := (row_cell 0 _ q3 rfl).1
    have l1 : wr.cell? ⟨w.heap.size + 1 + 1 + 1, 1, none⟩ = some (.slice ao n ca) := (row_cell 1 _ q3 rfl).1
    have l2 : wr.cell? ⟨w.heap.size + 1 + 1 + 1, 2, none⟩ = some (.slice po p1 pa) := (row_cell 2 _ q3 rfl).1
    have l3 : wr.cell? ⟨w.heap.size + 1 + 1 + 1, 3, none⟩ = some (.int .i64 a.n) := (row_cell 3 _ q3 rfl).1
    have l4 : wr.cell? ⟨w.heap.size + 1 + 1 + 1, 4, none⟩ = some (.int .i64 a.sl) := (row_cell 4 _ q3 rfl).1
    have l5 : wr.cell? ⟨w.heap.size + 1 + 1 + 1, 5, none⟩ = some (.int .i64 b.k) := (row_cell 5 _ q3 rfl).1
    have l6 : wr.cell? ⟨w.heap.size + 1 + 1 + 1, 6, none⟩ = some (.slice bo m cb) := (row_cell 6 _ q3 rfl).1
    have l7 : wr.cell? ⟨w.heap.size + 1 + 1 + 1, 7, none⟩ = some (.slice qo q1 qb) := (row_cell 7 _ q3 rfl).1
    have l8 : wr.cell? ⟨w.heap.size + 1 + 1 + 1, 8, none⟩ = some (.int .i64 b.n) := (row_cell 8 _ q3 rfl).1
    have l9 : wr.cell? ⟨w.heap.size + 1 + 1 + 1, 9, none⟩ = some (.int .i64 b.sl) := (row_cell 9 _ q3 rfl).1
    rcases hk with rfl | rfl | rfl
    · skip
      have hbA := hBw.alloc hBw.size (Obj.cells #[.int .i64 a.k, .slice ao n ca, .slice po p1 pa, .int .i64 a.n, .int .i64 a.sl] 141)
      have hbr2 := hbr.alloc (hbr.size) (Obj.cells #[.int .i64 a.k, .slice ao n ca, .slice po p1 pa, .int .i64 a.n, .int .i64 a.sl] 141)
      by_cases hz : e1 = 0
      · have HN : Hid ((1 ≤ (1 : Int) → e1 = 0) ∧ (2 ≤ (1 : Int) → e2 = 0)) := ⟨fun _ => hz, fun h => by omega⟩
        have t1 : (e1 != 0) = false := by rw [hz]; rfl
        clear hz
        go_wp2_with fail
        refine (rkcheck_any _ a _ (HVA.out.below hbA)).mono ?_
        rw [HE1.out]
        rintro e w1 ⟨rfl, hb1⟩
        go_wp2_with fail
        go_roundw
        case rel => exact ⟨1, Or.inr (Or.inl rfl), rfl, hbr2.trans (hb1.mono hbr2.size), HN⟩
        case measure => simp [intOf]
      · have HF : Hid (mergeR a b = (rk0, e1)) := Lib.hid (rr_bad1 HE1.out hz)
        have t1 : (e1 != 0) = true := by rw [bne_iff_ne]; exact hz
        clear hz
        go_wp2_with fail
        refine (rkcheck_any _ a _ (HVA.out.below hbA)).mono ?_
        rw [HE1.out]
        rintro e w1 ⟨rfl, hb1⟩
        have hb2 := hbr2.trans (hb1.mono hbr2.size)
        have hB2 := hbA.trans (hb1.mono hbA.size)
        have z2 := (hb2.block _ hlt2).trans hA2
        obtain ⟨⟨r0, r1, r2, r3, r4⟩, ⟨f0, f1, f2, f3, f4⟩⟩ := bx5 z2
        have z3 := bx5_store (.int .i64 0) (.slice none 0 0) (.slice none 0 0) (.int .i64 0) (.int .i64 0) z2
        obtain ⟨⟨s0, s1, s2, s3, s4⟩, -⟩ := bx5 z3
        have hB3 := bx5_below (.int .i64 0) (.slice none 0 0) (.slice none 0 0) (.int .i64 0) (.int .i64 0) (show w.heap.size ≤ w.heap.size + 1 + 1 by omega) hB2
        clear z2 z3
        go_wp2_with fail
        refine bodyPost_ret (v := .tuple #[.agg #[.int .i64 0, .slice none 0 0, .slice none 0 0, .int .i64 0, .int .i64 0], .int .i64 e1]) (by simp [results, Try.results100, go_sem, s0, s1, s2, s3, s4]) rfl ?_
        exact rk_zero HF.out hB3
    · have hz1 := hdone.out.1 (by omega)
      have hbA := hBw.alloc hBw.size (Obj.cells #[.int .i64 b.k, .slice bo m cb, .slice qo q1 qb, .int .i64 b.n, .int .i64 b.sl] 141)
      have hbr2 := hbr.alloc (hbr.size) (Obj.cells #[.int .i64 b.k, .slice bo m cb, .slice qo q1 qb, .int .i64 b.n, .int .i64 b.sl] 141)
      by_cases hz : e2 = 0
      · have HN : Hid ((1 ≤ (2 : Int) → e1 = 0) ∧ (2 ≤ (2 : Int) → e2 = 0)) := ⟨fun _ => hz1, fun _ => hz⟩
        have t1 : (e2 != 0) = false := by rw [hz]; rfl
        clear hz
        go_wp2_with fail
        refine (rkcheck_any _ b _ (HVB.out.below hbA)).mono ?_
        rw [HE2.out]
        rintro e w1 ⟨rfl, hb1⟩
        go_wp2_with fail
        go_roundw
        case rel => exact ⟨2, Or.inr (Or.inr rfl), rfl, hbr2.trans (hb1.mono hbr2.size), HN⟩
        case measure => simp [intOf]
      · have HF : Hid (mergeR a b = (rk0, e2)) := Lib.hid (rr_bad2 (HE1.out.trans hz1) HE2.out hz)
        have t1 : (e2 != 0) = true := by rw [bne_iff_ne]; exact hz
        clear hz
        go_wp2_with fail
        refine (rkcheck_any _ b _ (HVB.out.below hbA)).mono ?_
        rw [HE2.out]
        rintro e w1 ⟨rfl, hb1⟩
        have hb2 := hbr2.trans (hb1.mono hbr2.size)
        have hB2 := hbA.trans (hb1.mono hbA.size)
        have z2 := (hb2.block _ hlt2).trans hA2
        obtain ⟨⟨r0, r1, r2, r3, r4⟩, ⟨f0, f1, f2, f3, f4⟩⟩ := bx5 z2
        have z3 := bx5_store (.int .i64 0) (.slice none 0 0) (.slice none 0 0) (.int .i64 0) (.int .i64 0) z2
        obtain ⟨⟨s0, s1, s2, s3, s4⟩, -⟩ := bx5 z3
        have hB3 := bx5_below (.int .i64 0) (.slice none 0 0) (.slice none 0 0) (.int .i64 0) (.int .i64 0) (show w.heap.size ≤ w.heap.size + 1 + 1 by omega) hB2
        clear z2 z3
        go_wp2_with fail
        refine bodyPost_ret (v := .tuple #[.agg #[.int .i64 0, .slice none 0 0, .slice none 0 0, .int .i64 0, .int .i64 0], .int .i64 e2]) (by simp [results, Try.results100, go_sem, s0, s1, s2, s3, s4]) rfl ?_
        exact rk_zero HF.out hB3
    · have hz1 := hdone.out.1 (by omega)
      have hz2 := hdone.out.2 (by omega)
      have hk1 := HE1.out.trans hz1
      have hk2 := HE2.out.trans hz2
      clear l0 l1 l2 l3 l4 l5 l6 l7 l8 l9 q3 hdone hz1 hz2
      obtain ⟨⟨x0, x1, x2, x3, x4⟩, -⟩ := bx5 q0
      obtain ⟨⟨y0, y1, y2, y3, y4⟩, -⟩ := bx5 q1'
      have HK1 := Lib.hid hk1
      have HK2 := Lib.hid hk2
      by_cases hDD : a.k = b.k
      case neg =>
        have HF : Hid (mergeR a b = (rk0, 1)) := Lib.hid (rr_k HK1.out HK2.out hDD)
        have t1 : (a.k != b.k) = true := by rw [bne_iff_ne]; exact hDD
        clear hDD
        have z2 := (hbr.block _ hlt2).trans hA2
        obtain ⟨⟨r0, r1, r2, r3, r4⟩, ⟨f0, f1, f2, f3, f4⟩⟩ := bx5 z2
        have z3 := bx5_store (.int .i64 0) (.slice none 0 0) (.slice none 0 0) (.int .i64 0) (.int .i64 0) z2
        obtain ⟨⟨s0, s1, s2, s3, s4⟩, -⟩ := bx5 z3
        have hB3 := bx5_below (.int .i64 0) (.slice none 0 0) (.slice none 0 0) (.int .i64 0) (.int .i64 0) (show w.heap.size ≤ w.heap.size + 1 + 1 by omega) hBw
        clear z2 z3
        go_wp2_with fail
        refine bodyPost_ret (v := .tuple #[.agg #[.int .i64 0, .slice none 0 0, .slice none 0 0, .int .i64 0, .int .i64 0], .int .i64 1]) (by simp [results, Try.results100, go_sem, s0, s1, s2, s3, s4]) rfl ?_
        exact rk_zero HF.out hB3
      have t1 : (a.k != b.k) = false := by rw [← hDD]; simp
      have HDD := Lib.hid hDD
      have HF : Hid (mergeR a b = boundG (joinG a b)) := Lib.hid (rr_ok HK1.out HK2.out hDD)
      have HW1 := Lib.hid (rank_ok hk1)
      have HW2 := Lib.hid (rank_ok hk2)
      have HX : Hid (∀ W, Below wr.heap.size wr W → W.heap[w.heap.size]? = some (.cells #[.int .i64 a.k, .slice ao n ca, .slice po p1 pa, .int .i64 a.n, .int .i64 a.sl] 141 (0, 0)) ∧ W.heap[w.heap.size + 1]? = some (.cells #[.int .i64 b.k, .slice bo m cb, .slice qo q1 qb, .int .i64 b.n, .int .i64 b.sl] 141 (0, 0)) ∧ W.heap[w.heap.size + 1 + 1]? = some (.cells #[.int .i64 0, .slice none 0 0, .slice none 0 0, .int .i64 0, .int .i64 0] 141 (0, 0)) ∧ Below w.heap.size w W) := Lib.hid (fun W h => by
        have hs := hbr.size
        exact ⟨(h.block _ (by omega)).trans q0, (h.block _ (by omega)).trans q1', (h.block _ (by omega)).trans q2, hBw.trans (h.mono hBw.size)⟩)
      clear q0 q1' q2 hk1 hk2 hDD
      go_upto_region 10 with (fail)

      have HBX : Hid (wr.heap.size = wr.heap.size) := Lib.hid rfl
      go_cut [9] (fun t wx => ∃ (b9 : Nat) (tO uO tP uP : Option Addr) (tn tc un uc vn vc xn xc : Nat), t = .pointer (some ⟨b9, 0, none⟩) ∧ Hid (JAt wx wr.heap.size b9 a (.slice tO tn tc) (.slice uO un uc) b.lv (.slice uP xn xc) b.tl (.slice tP vn vc) wx ∧ wx.heap[w.heap.size + 1]? = some (.cells #[.int .i64 b.k, .slice tP vn vc, .slice uP xn xc, .int .i64 b.n, .int .i64 b.sl] 141 (0, 0)) ∧ wx.heap[w.heap.size + 1 + 1]? = some (.cells #[.int .i64 0, .slice none 0 0, .slice none 0 0, .int .i64 0, .int .i64 0] 141 (0, 0)) ∧ Below w.heap.size w wx))
      case first =>
        have hbd : Below wr.heap.size wr wr.drew := (Below.refl _ wr).drew
        have hbe : ∀ o, Below wr.heap.size wr (wr.alloc o).drew := fun o => ((Below.refl _ wr).alloc (Nat.le_refl _) o).drew
        clear x0 x1 x2 x3 x4 y0 y1 y2 y3 y4
        obtain ⟨⟨x0, x1, x2, x3, x4⟩, -⟩ := bx5 (HX.out _ hbd).1
        obtain ⟨⟨y0, y1, y2, y3, y4⟩, -⟩ := bx5 (HX.out _ hbd).2.1
        obtain ⟨⟨m0, m1, m2, m3, m4⟩, -⟩ := bx5_al (w := wr) (fun o => (HX.out _ (hbe o)).1)
        obtain ⟨⟨n0, n1, n2, n3, n4⟩, -⟩ := bx5_al (w := wr) (fun o => (HX.out _ (hbe o)).2.1)
        go_region_with (first
          | (go_at_call 150; (with_reducible refine Calls.mono (own_any _ a _ (HVA.out.below (hBw.trans (Below.mono (by first | with_reducible exact hbd | with_reducible exact hbe _) hBw.size))) HW1.out) ?_); rintro e wa ⟨ta, ua, rfl, howna, hba⟩; obtain ⟨tao, tac, rfl, -, -, -⟩ := own_shape howna.1; obtain ⟨Pa, -, -, -, ia⟩ := howna.2; obtain ⟨uao, uac, rfl, -, -, -⟩ := own_shape ia; have hqa : Below wr.heap.size wr wa := (by first | exact hbd.trans hba | exact (hbe _).trans (hba.mono (hbe _).size)); have hqae := fun o => (hqa.alloc hqa.size o); clear x0 x1 x2 x3 x4 y0 y1 y2 y3 y4 m0 m1 m2 m3 m4 n0 n1 n2 n3 n4; obtain ⟨⟨y0, y1, y2, y3, y4⟩, -⟩ := bx5 (HX.out _ hqa).2.1; obtain ⟨⟨n0, n1, n2, n3, n4⟩, -⟩ := bx5_al (fun o => (HX.out _ (hqae o)).2.1); (try (have zn := Lib.hid ((hba.block wr.heap.size (by simp)).trans (heap_alloc_new wr _)))))
          | (go_at_call 150; (with_reducible refine Calls.mono (own_any _ b _ (HVB.out.below (hBw.trans (Below.mono (by first | with_reducible exact hqa | with_reducible exact hqae _) hBw.size))) HW2.out) ?_); rintro e wb ⟨tb, ub, rfl, hownb, hbb⟩; obtain ⟨tbo, tbc, rfl, -, -, -⟩ := own_shape hownb.1; obtain ⟨Pb, -, -, -, ib⟩ := hownb.2; obtain ⟨ubo, ubc, rfl, -, -, -⟩ := own_shape ib; have hqb : Below wr.heap.size wr wb := (by first | exact hqa.trans (hbb.mono hqa.size) | exact (hqae _).trans (hbb.mono (hqae _).size)); have hA2 := (by first | exact Lib.hid ((howna.mono (by simp)).below hbb) | exact Lib.hid (((howna.mono (by simp)).below ((Below.refl _ wa).alloc (Nat.le_refl _) _)).below hbb) : Hid (OwnRk wr.heap.size wb a (.slice tao a.tl.length tac) (.slice uao a.lv.length uac))); clear y0 y1 y2 y3 y4 n0 n1 n2 n3 n4; (try (have zm := (hbb.block wa.heap.size (by simp)).trans (heap_alloc_new wa _); have hXX := bx5_below (.int .i64 a.k) (.slice tao a.tl.length tac) (.slice uao a.lv.length uac) (.int .i64 a.n) (.int .i64 a.sl) (hqa.size) hqb; have JJ := Lib.hid (jat_fin (bx5_store (.int .i64 a.k) (.slice tao a.tl.length tac) (.slice uao a.lv.length uac) (.int .i64 a.n) (.int .i64 a.sl) zm) (hA2.out.stores5 (x0 := .int .i64 a.k) (x1 := .slice tao a.tl.length tac) (x2 := .slice uao a.lv.length uac) (x3 := .int .i64 a.n) (x4 := .int .i64 a.sl) zm) (hownb.stores5 (x0 := .int .i64 a.k) (x1 := .slice tao a.tl.length tac) (x2 := .slice uao a.lv.length uac) (x3 := .int .i64 a.n) (x4 := .int .i64 a.sl) zm) (Nat.le_trans hqa.size (by simp)) (fun g hg => Nat.lt_of_lt_of_le (howna.1.lt g hg).2 (by simp)) (fun g hg => Nat.lt_of_lt_of_le (ia.lt g hg).2 (by simp)) hXX (hqa.size) (by have := hbr.size; omega) (HX.out _ hXX).2.1 (HX.out _ hXX).2.2.1 (HX.out _ hXX).2.2.2 (by omega)); obtain ⟨⟨o0, o1, o2, o3, o4⟩, ⟨k0, k1, k2, k3, k4⟩⟩ := bx5 zm)); (try (have zm := (hbb.block wr.heap.size (Array.getElem?_eq_some_iff.1 zn.out).1).trans zn.out; have hXX := bx5_below (.int .i64 a.k) (.slice tao a.tl.length tac) (.slice uao a.lv.length uac) (.int .i64 a.n) (.int .i64 a.sl) (Nat.le_refl wr.heap.size) hqb; have JJ := Lib.hid (jat_fin (bx5_store (.int .i64 a.k) (.slice tao a.tl.length tac) (.slice uao a.lv.length uac) (.int .i64 a.n) (.int .i64 a.sl) zm) (hA2.out.stores5 (x0 := .int .i64 a.k) (x1 := .slice tao a.tl.length tac) (x2 := .slice uao a.lv.length uac) (x3 := .int .i64 a.n) (x4 := .int .i64 a.sl) zm) (hownb.stores5 (x0 := .int .i64 a.k) (x1 := .slice tao a.tl.length tac) (x2 := .slice uao a.lv.length uac) (x3 := .int .i64 a.n) (x4 := .int .i64 a.sl) zm) (Nat.le_trans hqa.size (by simp)) (fun g hg => Nat.lt_of_lt_of_le (howna.1.lt g hg).2 (by simp)) (fun g hg => Nat.lt_of_lt_of_le (ia.lt g hg).2 (by simp)) hXX (Nat.le_refl wr.heap.size) (by have := hbr.size; omega) (HX.out _ hXX).2.1 (HX.out _ hXX).2.2.1 (HX.out _ hXX).2.2.2 (by omega)); obtain ⟨⟨o0, o1, o2, o3, o4⟩, ⟨k0, k1, k2, k3, k4⟩⟩ := bx5 zm)); obtain ⟨⟨ra0, ra1, ra2, ra3, ra4⟩, ⟨sa0, sa1, sa2, sa3, sa4⟩⟩ := bx5 (HX.out _ (bx5_below (.int .i64 a.k) (.slice tao a.tl.length tac) (.slice uao a.lv.length uac) (.int .i64 a.n) (.int .i64 a.sl) (Nat.le_refl wr.heap.size) hqb)).2.1; obtain ⟨⟨rb0, rb1, rb2, rb3, rb4⟩, ⟨sb0, sb1, sb2, sb3, sb4⟩⟩ := bx5 (HX.out _ (bx5_below (.int .i64 a.k) (.slice tao a.tl.length tac) (.slice uao a.lv.length uac) (.int .i64 a.n) (.int .i64 a.sl) hqa.size hqb)).2.1; have hX1 := hqb.alloc hqb.size (Obj.cells #[.int .i64 a.k, .slice tao a.tl.length tac, .slice uao a.lv.length uac, .int .i64 a.n, .int .i64 a.sl] 141); have J1 := Lib.hid (jat_fin (heap_alloc_new wb _) (hA2.out.below ((Below.refl _ wb).alloc (Nat.le_refl _) _)) (hownb.below ((Below.refl _ wb).alloc (Nat.le_refl _) _)) (Nat.le_trans hqa.size (by simp)) (fun g hg => Nat.lt_of_lt_of_le (howna.1.lt g hg).2 (by simp)) (fun g hg => Nat.lt_of_lt_of_le (ia.lt g hg).2 (by simp)) hX1 (hqb.size) (by have := hbr.size; omega) (HX.out _ hX1).2.1 (HX.out _ hX1).2.2.1 (HX.out _ hX1).2.2.2 (by omega)); obtain ⟨⟨y0, y1, y2, y3, y4⟩, ⟨l0, l1, l2, l3, l4⟩⟩ := bx5_al (fun o => (HX.out _ (hqb.alloc hqb.size o)).2.1))
          | fail)
        all_goals
          go_wp2
          go_meet
          first
          | (with_reducible exact ⟨_, _, _, _, _, _, _, _, _, _, _, _, _, rfl, J1⟩)
          | (with_reducible exact ⟨_, _, _, _, _, _, _, _, _, _, _, _, _, rfl, JJ⟩)
      obtain ⟨b9, tO, uO, tP, uP, tn, tc, un, uc, vn, vc, xn, xc, rfl, hcc⟩ := hcut
      obtain ⟨hj0, hb3, hb4, hbw⟩ := hcc.out
      clear hcc x0 x1 x2 x3 x4 y0 y1 y2 y3 y4
      obtain ⟨wJ, rfl⟩ : ∃ x, x = wc := ⟨_, rfl⟩
      obtain ⟨B, hB⟩ : ∃ B, wr.heap.size = B := ⟨_, rfl⟩
      have hlB : w.heap.size + 1 + 1 < B := by
        rw [← hB]
        have := hbr.size
        omega
      rw [hB] at hj0
      have HX2 : Hid (∀ W, Below B wJ W → W.heap[w.heap.size + 1]? = some (.cells #[.int .i64 b.k, .slice tP vn vc, .slice uP xn xc, .int .i64 b.n, .int .i64 b.sl] 141 (0, 0)) ∧ W.heap[w.heap.size + 1 + 1]? = some (.cells #[.int .i64 0, .slice none 0 0, .slice none 0 0, .int .i64 0, .int .i64 0] 141 (0, 0)) ∧ Below w.heap.size w W) := Lib.hid (fun W h => ⟨(h.block _ (by omega)).trans hb3, (h.block _ hlB).trans hb4, hbw.trans (h.mono (by omega))⟩)
      have hxn : b.lv.length = xn := by
        obtain ⟨P, g1, g2, g3, g4⟩ := hj0.lvs
        obtain ⟨_, _, e, -⟩ := own_shape g4
        simp only [Value.slice.injEq] at e
        exact e.2.1.symm
      have hvn : b.tl.length = vn := by
        obtain ⟨_, _, e, -⟩ := own_shape hj0.tls
        simp only [Value.slice.injEq] at e
        exact e.2.1.symm
      have hma := mi_start HW1.out HW2.out
      obtain ⟨hlb, hb20, hb63⟩ := lst_all HW2.out
      rw [hxn] at hb20
      have hms := mi_steps hma hlb (by rw [hxn]; exact hb20)
      rw [hxn] at hms
      rw [hvn] at hb63
      have hslk := hma.sl
      have hsl2 : 0 ≤ a.sl + b.sl ∧ a.sl + b.sl ≤ 2305843009213693952 := by
        have h1 : 0 ≤ a.sl + b.sl ∧ a.sl + b.sl ≤ 2305843009213693952 + ((0 : Nat) : Int) * 134217728 := hslk
        omega
      obtain ⟨S0, hS0⟩ : ∃ S0 : Rk, (⟨a.k, a.tl, a.lv, a.n, a.sl + b.sl⟩ : Rk) = S0 := ⟨_, rfl⟩
      have HJ0 := Lib.hid hj0
      have hj1 := hj0.slk (a.sl + b.sl)
      rw [hS0] at hma hms hj1
      have hJ : joinG a b = addTo (stepTo S0 b.lv xn) b.tl vn := by unfold joinG; rw [hS0, hxn, hvn]
      have hadd := fun j => mi_adds (hms xn (Nat.le_refl _)) hb20 (tl := b.tl) (by rw [hvn]; omega) j
      rw [hvn] at hadd
      have j1 : IntKind.i64.wrap (a.sl + b.sl) = a.sl + b.sl := IntWalk.i64_in _ (by omega)
      have HJ1 := Lib.hid hj1
      have HMS := Lib.hid hms
      have HADD := Lib.hid hadd
      have HJJ := Lib.hid hJ
      have HLB := Lib.hid hlb
      have HXN := Lib.hid hxn
      have HVN := Lib.hid hvn
      have hak := hma.k2
      obtain ⟨⟨d0, d1, d2, d3, d4⟩, ⟨f0, f1, f2, f3, f4⟩⟩ := bx5 hj0.box
      obtain ⟨⟨y0, y1, y2, y3, y4⟩, -⟩ := bx5 hb3
      clear hj0 hb3 hb4 hj1 hma hms hadd hslk hJ hlb hxn hvn hS0
      go_upto_region 12 with (fail)
      obtain ⟨wK, hwK⟩ : ∃ x, x = wJ.setCell ⟨b9, 4, none⟩ (.int .i64 (a.sl + b.sl)) := ⟨_, rfl⟩
      rw [← hwK] at HJ1 ⊢
      clear hwK HJ0 d0 d1 d2 d3 d4 f0 f1 f2 f3 f4 y0 y1 y2 y3 y4
      obtain ⟨⟨y0, y1, y2, y3, y4⟩, -⟩ := bx5 (HX2.out _ HJ1.out.bel).1
      obtain ⟨wE, rfl⟩ : ∃ x, x = wr := ⟨_, rfl⟩
      go_wp2_with fail
      go_loopw [10, 11, 48] (fun _ _ i wx => ∃ (j : Nat) (gO : Option Addr) (gn gc : Nat), j ≤ xn ∧ i = .int .i64 j ∧ Hid (JAt wJ B b9 (stepTo S0 b.lv j) (.slice tO tn tc) (.slice gO gn gc) b.lv (.slice uP xn xc) b.tl (.slice tP vn vc) wx)) (fun _ _ i _ => xn - (intOf i).toNat)
      case atStart => exact ⟨0, _, _, _, Nat.zero_le _, rfl, HJ1⟩
      case round =>
        obtain ⟨j, gO, gn, gc, hj, rfl, HM⟩ := hrel
        have hmi := HMS.out j hj
        have HST := Lib.hid (fun (l : List Int) (h : b.lv[j]? = some l) => stepTo_step (s := S0) h)
        obtain ⟨Sj, hSj⟩ : ∃ Sj, stepTo S0 b.lv j = Sj := ⟨_, rfl⟩
        have HSJ := Lib.hid hSj
        rw [hSj] at HM hmi HST
        have h20 : (j : Int) ≤ 20 := by omega
        have hnb := hmi.nn
        have hn2 : 0 ≤ Sj.n ∧ Sj.n ≤ 8589934592 := by omega
        have hsb : 0 ≤ Sj.sl ∧ Sj.sl ≤ 4611686018427387904 := by
          have h1 := hmi.sl
          omega
        have hmn : Sj.lv.length ≤ 30 := by have := hmi.short (by omega); omega
        have hjk := hmi.kk
        have HLST := Lib.hid (fun x hx => (hmi.lst x hx).1)
        clear y0 y1 y2 y3 y4 hmi hnb hSj
        by_cases hlt : j < xn
        · obtain ⟨l, hl⟩ : ∃ l, b.lv[j]? = some l := ⟨_, List.getElem?_eq_getElem (by rw [HXN.out]; exact hlt)⟩
          have hlst := HLB.out l (List.mem_of_getElem? hl)
          obtain ⟨g, cap, ta, e9, c0, hrow, hap⟩ := HM.out.level hl
          simp only [Value.slice.injEq] at e9
          obtain ⟨rfl, -, rfl⟩ := e9
          obtain ⟨lo, lc, rfl, -, -, -⟩ := own_shape hrow
          have HST2 := Lib.hid (HST.out l hl)
          have h64 := hlst.1
          have HCT := Lib.hid (HM.out.cat (i := j) hrow hap HLST.out h64 hsb.1)
          obtain ⟨ln, hln⟩ : ∃ ln, l.length = ln := ⟨_, rfl⟩
          rw [hln] at c0 HCT h64
          have HLN := Lib.hid hln
          clear hl hlst hrow hap hln HST
          by_cases h0 : ln = 0
          · have HEQ : Hid (stepTo S0 b.lv (j + 1) = Sj) := Lib.hid (by rw [HST2.out]; unfold levG; rw [if_pos (by rw [HLN.out]; exact h0)])
            clear HCT
            subst h0
            go_wp2_with fail
            go_roundw
            case rel => exact ⟨j + 1, _, _, _, by omega, by go_num, by rw [HEQ.out]; exact HM⟩
            case measure => simp [intOf]; omega
          · have HEQ : Hid (stepTo S0 b.lv (j + 1) = ⟨Sj.k, Sj.tl, (carryG Sj.lv Sj.sl l j).1, Sj.n + Sj.k * 2 ^ j, (carryG Sj.lv Sj.sl l j).2⟩) := Lib.hid (by
              rw [HST2.out]
              unfold levG
              rw [if_neg (by rw [HLN.out]; exact h0)])
            have hpos : (0 : Int) < (ln : Int) := by omega
            go_upto_region 16 with (fail)
            go_wp2_with fail
            refine (carry_any _ B b9 Sj.k Sj.n Sj.sl Sj.sl Sj.tl l Sj.lv j _ _ _ HCT.out hmn (by omega) hsb).mono ?_
            rintro e w5 ⟨rfl, u', hx5, ho5, hf5, hb5⟩
            obtain ⟨T, hT⟩ : ∃ T, carryG Sj.lv Sj.sl l j = T := ⟨_, rfl⟩
            rw [hT] at hx5 ho5 HEQ
            obtain ⟨Q, q1', q2', q3', q4'⟩ := ho5.2
            obtain ⟨gO', gc', rfl, -, -, -⟩ := own_shape q4'
            have hM5 := HM.out.carried (s' := ⟨Sj.k, Sj.tl, T.1, Sj.n, T.2⟩) hx5 ho5 hf5 hb5
            have HN := Lib.hid (hM5.num (Sj.n + Sj.k * 2 ^ j))
            have hp := pow_le (i := j) (by omega)
            have hzb := mul_bnd (c := Sj.k) (p := 2 ^ j) (C := 64) (P := 1048576) (by omega) (by omega) (by omega) hp.2
            have hm64 : min j 64 = j := by omega
            have hw1 : wrap64 (Sj.k * 2 ^ j) = Sj.k * 2 ^ j := IntWalk.wrap64_in _ (by omega)
            have hw2 : wrap64 (Sj.n + Sj.k * 2 ^ j) = Sj.n + Sj.k * 2 ^ j := IntWalk.wrap64_in _ (by omega)
            clear hf5 hb5 ho5 hx5 q1' q2' q3' q4' hT HCT c0 hp hzb hjk
            obtain ⟨⟨d0, d1, d2, d3, d4⟩, ⟨f0, f1, f2, f3, f4⟩⟩ := bx5 hM5.box
            clear hM5
            go_upto_region 17 with (fail)
            go_region
            all_goals
              go_wp2
              go_roundw
              case rel => exact ⟨j + 1, _, _, _, by omega, by go_num, by rw [HEQ.out]; exact Lib.hid (HN.out.below (Below.refl _ _).drew)⟩
              case measure => simp [intOf]; omega
        · have hjq : j = xn := by omega
          subst hjq
          obtain ⟨wF, rfl⟩ : ∃ x, x = wr := ⟨_, rfl⟩
          have HM0 := Lib.hid HM.out.tail
          rw [← HSJ.out] at HM0
          obtain ⟨⟨y0, y1, y2, y3, y4⟩, -⟩ := bx5 (HX2.out _ HM.out.bel).1
          clear hn2 hsb hmn hjk HLST HST hlt
          go_wp2_with fail
          go_loopw [13, 71] (fun _ i wx => ∃ (k : Nat) (rO gO : Option Addr) (rn rc gn gc : Nat), k ≤ vn ∧ i = .int .i64 k ∧ Hid (TlAt wJ B b9 (addTo (stepTo S0 b.lv j) b.tl k) (.slice rO rn rc) (.slice gO gn gc) b.tl (.slice tP vn vc) wx)) (fun _ i _ => vn - (intOf i).toNat)
          case atStart => exact ⟨0, _, _, _, _, _, _, Nat.zero_le _, rfl, HM0⟩
          case round =>
            obtain ⟨k, rO, gO, rn, rc, gn, gc, hk, rfl, HMK⟩ := hrel
            have hmi := HADD.out k hk
            have HAS2 := Lib.hid (fun (v : Int) (hv : b.tl[k]? = some v) => addTo_step (s := stepTo S0 b.lv j) hv)
            have HJK := Lib.hid (show k = vn → joinG a b = addTo (stepTo S0 b.lv j) b.tl k from fun h => by rw [HJJ.out, h])
            obtain ⟨Sk, hSk⟩ : ∃ Sk, addTo (stepTo S0 b.lv j) b.tl k = Sk := ⟨_, rfl⟩
            rw [hSk] at HMK hmi HAS2 HJK
            have hb4 : (j : Int) ≤ 20 ∧ (k : Int) ≤ 63 := by omega
            have hnb := hmi.nn
            have hsb := hmi.sl
            have hn2 : 0 ≤ Sk.n ∧ Sk.n ≤ 4611686018427387904 := by omega
            have hs2 : 0 ≤ Sk.sl ∧ Sk.sl ≤ 4611686018427387904 := by omega
            have hmn : Sk.lv.length ≤ 30 := by have := hmi.short (by omega); omega
            have ht63 : Sk.tl.length ≤ 63 := by have := hmi.tll; have := hmi.k2; omega
            have HLST := Lib.hid (fun x hx => (hmi.lst x hx).1)
            have HSRT := Lib.hid hmi.tls
            clear hmi hnb hsb hSk y0 y1 y2 y3 y4
            by_cases hlt : k < vn
            · obtain ⟨v, hv⟩ : ∃ v, b.tl[k]? = some v := ⟨_, List.getElem?_eq_getElem (by rw [HVN.out]; exact hlt)⟩
              have HEQ := Lib.hid (HAS2.out v hv)
              obtain ⟨g, cap, e9, c0⟩ := HMK.out.cell hv
              simp only [Value.slice.injEq] at e9
              obtain ⟨rfl, -, rfl⟩ := e9
              clear hv
              go_upto_region 22 with (fail)
              go_wp2_with fail
              refine (add_any _ B b9 Sk v _ _ HMK.out.box HMK.out.own HMK.out.low HSRT.out ht63 hmn HLST.out hn2 hs2).mono ?_
              rintro e w5 ⟨rfl, t', u', hx5, ho5, hf5, hb5⟩
              obtain ⟨hk5, hn5⟩ := addG_kn Sk v
              obtain ⟨R, hR⟩ : ∃ R, addG Sk v = R := ⟨_, rfl⟩
              rw [hR] at hx5 ho5 hk5 hn5 HEQ
              rw [← hk5, ← hn5] at hx5
              obtain ⟨rO', rc', rfl, -, -, -⟩ := own_shape ho5.1
              obtain ⟨Q, q1', q2', q3', q4'⟩ := ho5.2
              obtain ⟨gO', gc', rfl, -, -, -⟩ := own_shape q4'
              have HN := Lib.hid (HMK.out.added hx5 ho5 hf5 hb5)
              clear hf5 hb5 ho5 hx5 q1' q2' q3' q4' hR c0 hk5 hn5
              go_wp2_with fail
              go_roundw
              case rel => exact ⟨k + 1, _, _, _, _, _, _, by omega, by go_num, by rw [HEQ.out]; exact HN⟩
              case measure => simp [intOf]; omega
            · have HJE := Lib.hid (HJK.out (by omega))
              have hrk := HMK.out.own.rk
              have HRK := Lib.hid hrk
              obtain ⟨⟨d0, d1, d2, d3, d4⟩, -⟩ := bx5 HMK.out.box
              clear hrk
              go_wp2_with fail
              refine (bounded2_any _ Sk _ HRK.out).mono ?_
              rintro e w5 ⟨hb5, hcase⟩
              have hbB := HMK.out.bel.trans (hb5.mono HMK.out.low.2)
              obtain ⟨-, hx6, hB5⟩ := HX2.out _ hbB
              have HO5 := Lib.hid (HMK.out.own.below hb5)
              have HB5 := Lib.hid hB5
              clear hb5 d0 d1 d2 d3 d4 hbB hB5
              obtain ⟨⟨d0, d1, d2, d3, d4⟩, ⟨f0, f1, f2, f3, f4⟩⟩ := bx5 hx6
              rcases hcase with ⟨hbd, rfl⟩ | ⟨hbd, rfl⟩
              · have HFR : Hid (mergeR a b = (rk0, 2)) := Lib.hid (by rw [HF.out, HJE.out, hbd])
                have hst := bx5_store (.int .i64 0) (.slice none 0 0) (.slice none 0 0) (.int .i64 0) (.int .i64 0) hx6
                obtain ⟨⟨s0, s1, s2, s3, s4⟩, -⟩ := bx5 hst
                have HBF := Lib.hid (bx5_below (.int .i64 0) (.slice none 0 0) (.slice none 0 0) (.int .i64 0) (.int .i64 0) (show w.heap.size ≤ w.heap.size + 1 + 1 by omega) HB5.out)
                clear hst hx6 hbd
                go_wp2_with fail
                refine bodyPost_ret (v := .tuple #[.agg #[.int .i64 0, .slice none 0 0, .slice none 0 0, .int .i64 0, .int .i64 0], .int .i64 2]) (by simp [results, Try.results100, go_sem, s0, s1, s2, s3, s4]) rfl ?_
                exact rk_zero HFR.out HBF.out
              · have HFR : Hid (mergeR a b = (Sk, 0)) := Lib.hid (by rw [HF.out, HJE.out, hbd])
                have hst := bx5_store (.int .i64 Sk.k) (.slice rO rn rc) (.slice gO gn gc) (.int .i64 Sk.n) (.int .i64 Sk.sl) hx6
                obtain ⟨⟨s0, s1, s2, s3, s4⟩, -⟩ := bx5 hst
                have HBF := Lib.hid (bx5_below (.int .i64 Sk.k) (.slice rO rn rc) (.slice gO gn gc) (.int .i64 Sk.n) (.int .i64 Sk.sl) (show w.heap.size ≤ w.heap.size + 1 + 1 by omega) HB5.out)
                have HFIN := Lib.hid (HO5.out.stores5 (x0 := .int .i64 Sk.k) (x1 := .slice rO rn rc) (x2 := .slice gO gn gc) (x3 := .int .i64 Sk.n) (x4 := .int .i64 Sk.sl) hx6).rk
                clear hst hx6 hbd
                go_wp2_with fail
                refine bodyPost_ret (v := .tuple #[.agg #[.int .i64 Sk.k, .slice rO rn rc, .slice gO gn gc, .int .i64 Sk.n, .int .i64 Sk.sl], .int .i64 0]) (by simp [results, Try.results100, go_sem, s0, s1, s2, s3, s4]) rfl ?_
                show RkPost _ _ _ _
                rw [HFR.out]
                exact ⟨_, rfl, HFIN.out, HBF.out⟩
end Go.Proofs.Ytcljeedmiobepaa.Rk
