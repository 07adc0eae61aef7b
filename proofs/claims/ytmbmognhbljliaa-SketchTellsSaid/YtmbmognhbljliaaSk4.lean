/-
  The walk of sketch.Merge.
-/
import Derived.Test.YtmbmognhbljliaaSk2
import Derived.Test.YtmbmognhbljliaaSk3
import Derived.Test.YtmbmognhbljliaaLib6
namespace Go.Proofs.Ytmbmognhbljliaa.Sk
open Go.RowKit Go.Gh
set_option linter.unusedVariables false

def wrS (z : Int) : Int := IntKind.i64.wrap z
theorem wrS_wf (z : Int) : (Lit.int .i64 (wrS z)).wf = true := by
  refine Go.WalkArith.wf_i64 ?_
  unfold wrS
  rw [IntWalk.i64_left]
  unfold wrap64
  omega
def sumL (c c' : List Int) (k : Nat) : List Int := (List.range k).map fun i => wrS (c.getD i 0 + c'.getD i 0)
theorem sumL_len (c c' : List Int) (k : Nat) : (sumL c c' k).length = k := by unfold sumL; simp
theorem sumL_succ (c c' : List Int) (k : Nat) : sumL c c' (k + 1) = sumL c c' k ++ [wrS (c.getD k 0 + c'.getD k 0)] := by unfold sumL; rw [List.range_succ, List.map_append]; rfl
theorem sumL_wf (c c' : List Int) (k : Nat) : ∀ z ∈ sumL c c' k, (Lit.int .i64 z).wf = true := by
  intro z hz
  unfold sumL at hz
  obtain ⟨i, _, rfl⟩ := List.mem_map.1 hz
  exact wrS_wf _
def partL (c c' : List Int) (k : Nat) : List Int := sumL c c' k ++ c.drop k
theorem part_zero (c c' : List Int) : partL c c' 0 = c := rfl
theorem part_all (c c' : List Int) {n : Nat} (h : c.length = n) : partL c c' n = sumL c c' n := by
  unfold partL; rw [List.drop_of_length_le (by omega), List.append_nil]
theorem part_len {c c' : List Int} {k n : Nat} (h : c.length = n) (hk : k ≤ n) : (partL c c' k).length = n := by
  unfold partL; rw [List.length_append, sumL_len, List.length_drop]; omega
theorem part_get {c c' : List Int} {k : Nat} (h : k < c.length) : (partL c c' k).getD k 0 = c.getD k 0 := by
  unfold partL
  rw [List.getD_eq_getElem?_getD, List.getElem?_append_right (by rw [sumL_len]; exact Nat.le_refl _), sumL_len, Nat.sub_self, drop_int h]
  rfl
theorem part_set {c c' : List Int} {k : Nat} (h : k < c.length) : (partL c c' k).set k (wrS (c.getD k 0 + c'.getD k 0)) = partL c c' (k + 1) := by
  unfold partL
  rw [List.set_append_right _ _ (by rw [sumL_len]; exact Nat.le_refl _), sumL_len, Nat.sub_self, drop_int h, List.set_cons_zero, sumL_succ, List.append_assoc]
  rfl
def Sk4 := Int × Int × List Int × Int
def zeroSk : Sk4 := (0, 0, [], 0)
def mrg (D W : Int) (c : List Int) (N D' W' : Int) (c' : List Int) (N' : Int) : Sk4 × Int :=
  if skF D W c N = 0 then if skF D' W' c' N' = 0 then if D = D' ∧ W = W' then if 1152921504606846976 - N' < N then (zeroSk, 2) else ((D, W, sumL c c' c.length, N + N'), 0) else (zeroSk, 1) else (zeroSk, 4) else (zeroSk, 4)
def SkR (w : World) (v : Value) (r : Sk4) : Prop := SkV w v r.1 r.2.1 r.2.2.1 r.2.2.2
def MgPost (w : World) (r : Sk4 × Int) (e : Ending) (w' : World) : Prop := ∃ v', e = .returned (.tuple #[v', .int .i64 r.2]) ∧ SkR w' v' r.1 ∧ Below w.heap.size w w'
theorem skZero (w : World) : SkR w (.agg #[.int .i64 0, .int .i64 0, .slice none 0 0, .int .i64 0]) zeroSk :=
  ⟨.slice none 0 0, 0, rfl, sl_nil w 1, rfl, by intro z hz; simp [zeroSk] at hz, by decide, by simp [zeroSk], by simp [zeroSk], by simp [zeroSk]⟩
theorem sk_four (D W : Int) (c : List Int) (N : Int) : skF D W c N = 0 ∨ skF D W c N = 4 := by
  unfold skF; split
  · exact Or.inl rfl
  · exact Or.inr rfl
/-- Four stores into a block of four cells. -/
theorem box4_store {w : World} {B : Nat} {T : TypeId} {a b c d : Value} (x0 x1 x2 x3 : Value) (h : w.heap[B]? = some (.cells #[a, b, c, d] T (0, 0))) :
    ((((w.setCell ⟨B, 0, none⟩ x0).setCell ⟨B, 1, none⟩ x1).setCell ⟨B, 2, none⟩ x2).setCell ⟨B, 3, none⟩ x3).heap[B]? = some (.cells #[x0, x1, x2, x3] T (0, 0)) := by
  have h0 := row_setCell 0 x0 h
  have h1 := row_setCell 1 x1 h0
  have h2 := row_setCell 2 x2 h1
  have h3 := row_setCell 3 x3 h2
  simpa using h3
theorem box4_below {w w0 : World} {B n : Nat} (x0 x1 x2 x3 : Value) (hn : n ≤ B) (h : Below n w0 w) :
    Below n w0 ((((w.setCell ⟨B, 0, none⟩ x0).setCell ⟨B, 1, none⟩ x1).setCell ⟨B, 2, none⟩ x2).setCell ⟨B, 3, none⟩ x3) :=
  (((h.setCell (p := ⟨B, 0, none⟩) hn _).setCell (p := ⟨B, 1, none⟩) hn _).setCell (p := ⟨B, 2, none⟩) hn _).setCell (p := ⟨B, 3, none⟩) hn _
theorem mrg_bad1 {D W N D' W' N' : Int} {c c' : List Int} {e : Int} (h : skF D W c N = e) (he : e ≠ 0) : mrg D W c N D' W' c' N' = (zeroSk, e) := by
  unfold mrg
  rcases sk_four D W c N with h' | h'
  · omega
  · rw [if_neg (by omega)]; rw [← h, h']
theorem mrg_bad2 {D W N D' W' N' : Int} {c c' : List Int} {e : Int} (h1 : skF D W c N = 0) (h : skF D' W' c' N' = e) (he : e ≠ 0) : mrg D W c N D' W' c' N' = (zeroSk, e) := by
  unfold mrg
  rw [if_pos h1]
  rcases sk_four D' W' c' N' with h' | h'
  · omega
  · rw [if_neg (by omega)]; rw [← h, h']
theorem mg_zero {w w' : World} {r : Sk4 × Int} {e : Int} (h : r = (zeroSk, e)) (hb : Below w.heap.size w w') : MgPost w r (.returned (.tuple #[.agg #[.int .i64 0, .int .i64 0, .slice none 0 0, .int .i64 0], .int .i64 e])) w' := by
  subst h
  exact ⟨_, rfl, skZero _, hb⟩
theorem mrg_size {D W N D' W' N' : Int} {c c' : List Int} (h1 : skF D W c N = 0) (h2 : skF D' W' c' N' = 0) (h : ¬ (D = D' ∧ W = W')) : mrg D W c N D' W' c' N' = (zeroSk, 1) := by
  unfold mrg
  rw [if_pos h1, if_pos h2, if_neg h]
theorem mrg_much {D W N N' : Int} {c c' : List Int} (h1 : skF D W c N = 0) (h2 : skF D W c' N' = 0) (h : 1152921504606846976 - N' < N) : mrg D W c N D W c' N' = (zeroSk, 2) := by
  unfold mrg
  rw [if_pos h1, if_pos h2, if_pos ⟨rfl, rfl⟩, if_pos h]
theorem mrg_ok {D W N N' : Int} {c c' : List Int} {n : Nat} (h1 : skF D W c N = 0) (h2 : skF D W c' N' = 0) (h : ¬ 1152921504606846976 - N' < N) (hn : c.length = n) : mrg D W c N D W c' N' = ((D, W, sumL c c' n, N + N'), 0) := by
  unfold mrg
  rw [if_pos h1, if_pos h2, if_pos ⟨rfl, rfl⟩, if_neg h, hn]
  rfl
theorem head_of {D W N : Int} {c : List Int} (h : skF D W c N = 0) : headOk D W c N := by
  unfold skF at h
  split at h
  · rename_i h'; exact h'.1
  · simp at h
/-- How far the sums have come: the row, the three blocks. -/
structure SumAt (B : Nat) (D W N N' : Int) (c c' : List Int) (n k : Nat) (g cap : Nat) (bo : Option Addr) (cb : Nat) (base : Nat) (w wr : World) : Prop where
  own : wr.ownsRow base 2 1 (.slice (some ⟨g, 0, none⟩) n cap) n ((partL c c' k).map (Value.int .i64))
  boxA : wr.heap[B]? = some (.cells #[.int .i64 D, .int .i64 W, .slice (some ⟨g, 0, none⟩) n cap, .int .i64 (N + N')] 66 (0, 0))
  boxB : wr.heap[B + 1]? = some (.cells #[.int .i64 D, .int .i64 W, .slice bo n cb, .int .i64 N'] 66 (0, 0))
  boxR : wr.heap[B + 1 + 1]? = some (.cells #[.int .i64 0, .int .i64 0, .slice none 0 0, .int .i64 0] 66 (0, 0))
  bel : Below B w wr
theorem SumAt.step {B : Nat} {D W N N' : Int} {c c' : List Int} {n k g cap : Nat} {bo : Option Addr} {cb base : Nat} {w wr : World} (h : SumAt B D W N N' c c' n k g cap bo cb base w wr) (hk : k < n) (hl : c.length = n) (hB : B + 1 + 1 < base) {z : Int} (hz : wrS (c.getD k 0 + c'.getD k 0) = z) :
    SumAt B D W N N' c c' n (k + 1) g cap bo cb base w (wr.setCell ⟨g, k, none⟩ (.int .i64 z)) := by
  have hg : base ≤ g := (h.own.lt g rfl).1
  refine ⟨?_, row_setCell_other _ h.boxA (by omega), row_setCell_other _ h.boxB (by omega), row_setCell_other _ h.boxR (by omega), h.bel.setCell (p := ⟨g, k, none⟩) (show B ≤ g by omega) _⟩
  have := (h.own.stored k (.int .i64 z)).1
  rw [← List.map_set, ← hz, part_set (by omega)] at this
  rw [← hz]
  exact this
theorem SumAt.cell {B : Nat} {D W N N' : Int} {c c' : List Int} {n k g cap : Nat} {bo : Option Addr} {cb base : Nat} {w wr : World} (h : SumAt B D W N N' c c' n k g cap bo cb base w wr) (hk : k < n) (hl : c.length = n) :
    wr.cell? ⟨g, k, none⟩ = some (.int .i64 (c.getD k 0)) ∧ wr.frozen? ⟨g, k, none⟩ = false := by
  refine ⟨?_, h.own.frozenAt _⟩
  rw [h.own.cellAt _ (by omega), List.getElem?_map, ← part_get (c' := c') (show k < c.length by omega), List.getD_eq_getElem?_getD, List.getElem?_eq_getElem (by rw [part_len hl (by omega)]; exact hk)]
  rfl
set_option maxHeartbeats 4000000 in
set_option maxRecDepth 100000 in
theorem merge_any (v v' : Value) (D W N D' W' N' : Int) (c c' : List Int) (w : World) (hv : SkV w v D W c N) (hv' : SkV w v' D' W' c' N') :
    Calls Try.prog 45 #[v, v'] w (MgPost w (mrg D W c N D' W' c' N')) := by
  have hv0 := hv
  have hv0' := hv'
  obtain ⟨cv, n, rfl, hs, hl, hwf, hn, hD, hW, hN⟩ := hv
  obtain ⟨cu, m, rfl, ht, hm, hwf', hm2, hD', hW', hN'⟩ := hv'
  obtain ⟨ao, ca, rfl, hnc, hca, _⟩ := hs.shape
  obtain ⟨bo, cb, rfl, hmc, hcb, _⟩ := ht.shape
  obtain ⟨e1, he1⟩ : ∃ e, skF D W c N = e := ⟨_, rfl⟩
  obtain ⟨e2, he2⟩ : ∃ e, skF D' W' c' N' = e := ⟨_, rfl⟩
  have HE1 := Lib.hid he1
  have HE2 := Lib.hid he2
  have HL := Lib.hid hl
  have HM := Lib.hid hm
  clear hl hm he1 he2 hwf hwf'
  go_enter Try.func45, Try.ntmps45
  go_wp2_with fail
  obtain ⟨wA, hwA⟩ : ∃ wA, wA = ((((w.alloc (Obj.cells #[.int .i64 D, .int .i64 W, .slice ao n ca, .int .i64 N] 66)).alloc (Obj.cells #[.int .i64 D', .int .i64 W', .slice bo m cb, .int .i64 N'] 66)).alloc (Obj.cells #[.int .i64 0, .int .i64 0, .slice none 0 0, .int .i64 0] 66)).alloc (Obj.cells #[.int .i64 D, .int .i64 W, .slice ao n ca, .int .i64 N, .int .i64 D', .int .i64 W', .slice bo m cb, .int .i64 N'] 66)) := ⟨_, rfl⟩
  have hAs : wA.heap.size = w.heap.size + 1 + 1 + 1 + 1 := by rw [hwA]; simp
  have hAb : Below w.heap.size w wA := by rw [hwA]; exact ((((Below.refl _ w).alloc (Nat.le_refl _) _).alloc (by simp) _).alloc (by simp; omega) _).alloc (by simp; omega) _
  have hA0 : wA.heap[w.heap.size]? = some (.cells #[.int .i64 D, .int .i64 W, .slice ao n ca, .int .i64 N] 66 (0, 0)) := by
    rw [hwA, Below.heap_alloc _ _ _ (by first | (simp; done) | (simp; omega)), Below.heap_alloc _ _ _ (by first | (simp; done) | (simp; omega))]
    exact two_first w _ _
  have hA1 : wA.heap[w.heap.size + 1]? = some (.cells #[.int .i64 D', .int .i64 W', .slice bo m cb, .int .i64 N'] 66 (0, 0)) := by
    rw [hwA, Below.heap_alloc _ _ _ (by first | (simp; done) | (simp; omega)), Below.heap_alloc _ _ _ (by first | (simp; done) | (simp; omega))]
    exact two_second w _ _
  have hA2 : wA.heap[w.heap.size + 1 + 1]? = some (.cells #[.int .i64 0, .int .i64 0, .slice none 0 0, .int .i64 0] 66 (0, 0)) := by
    rw [hwA]
    have := two_first ((w.alloc (Obj.cells #[.int .i64 D, .int .i64 W, .slice ao n ca, .int .i64 N] 66)).alloc (Obj.cells #[.int .i64 D', .int .i64 W', .slice bo m cb, .int .i64 N'] 66)) (Obj.cells #[.int .i64 0, .int .i64 0, .slice none 0 0, .int .i64 0] 66) (Obj.cells #[.int .i64 D, .int .i64 W, .slice ao n ca, .int .i64 N, .int .i64 D', .int .i64 W', .slice bo m cb, .int .i64 N'] 66)
    rwa [World.size_alloc, World.size_alloc] at this
  have hA3 : wA.heap[w.heap.size + 1 + 1 + 1]? = some (.cells #[.int .i64 D, .int .i64 W, .slice ao n ca, .int .i64 N, .int .i64 D', .int .i64 W', .slice bo m cb, .int .i64 N'] 66 (0, 0)) := by
    rw [hwA]
    have := two_second ((w.alloc (Obj.cells #[.int .i64 D, .int .i64 W, .slice ao n ca, .int .i64 N] 66)).alloc (Obj.cells #[.int .i64 D', .int .i64 W', .slice bo m cb, .int .i64 N'] 66)) (Obj.cells #[.int .i64 0, .int .i64 0, .slice none 0 0, .int .i64 0] 66) (Obj.cells #[.int .i64 D, .int .i64 W, .slice ao n ca, .int .i64 N, .int .i64 D', .int .i64 W', .slice bo m cb, .int .i64 N'] 66)
    rwa [World.size_alloc, World.size_alloc] at this
  rw [← hwA]
  have HAS := Lib.hid hAs
  have hlt0 : w.heap.size < wA.heap.size := by omega
  have hlt1 : w.heap.size + 1 < wA.heap.size := by omega
  have hlt2 : w.heap.size + 1 + 1 < wA.heap.size := by omega
  have hlt3 : w.heap.size + 1 + 1 + 1 < wA.heap.size := by omega
  clear hwA hAs
  go_loopw [7, 8, 15] (fun _ _ i wr => ∃ k : Int, (k = 0 ∨ k = 1 ∨ k = 2) ∧ i = .int .i64 k ∧ Below wA.heap.size wA wr ∧ Hid ((1 ≤ k → e1 = 0) ∧ (2 ≤ k → e2 = 0))) (fun _ _ i _ => (3 - intOf i).toNat)
  case atStart => exact ⟨0, Or.inl rfl, rfl, Below.refl _ _, by constructor <;> intro h <;> omega⟩
  case round =>
    obtain ⟨k, hk, rfl, hbr, hdone⟩ := hrel
    have hBw : Below w.heap.size w wr := hAb.trans (hbr.mono (by omega))
    have q0 := (hbr.block _ hlt0).trans hA0
    have q1 := (hbr.block _ hlt1).trans hA1
    have q2 := (hbr.block _ hlt2).trans hA2
    have q3 := (hbr.block _ hlt3).trans hA3
    have l0 : wr.cell? ⟨w.heap.size + 1 + 1 + 1, 0, none⟩ = some (.int .i64 D) := (row_cell 0 _ q3 rfl).1
    have l1 : wr.cell? ⟨w.heap.size + 1 + 1 + 1, 1, none⟩ = some (.int .i64 W) := (row_cell 1 _ q3 rfl).1
    have l2 : wr.cell? ⟨w.heap.size + 1 + 1 + 1, 2, none⟩ = some (.slice ao n ca) := (row_cell 2 _ q3 rfl).1
    have l3 : wr.cell? ⟨w.heap.size + 1 + 1 + 1, 3, none⟩ = some (.int .i64 N) := (row_cell 3 _ q3 rfl).1
    have l4 : wr.cell? ⟨w.heap.size + 1 + 1 + 1, 4, none⟩ = some (.int .i64 D') := (row_cell 4 _ q3 rfl).1
    have l5 : wr.cell? ⟨w.heap.size + 1 + 1 + 1, 5, none⟩ = some (.int .i64 W') := (row_cell 5 _ q3 rfl).1
    have l6 : wr.cell? ⟨w.heap.size + 1 + 1 + 1, 6, none⟩ = some (.slice bo m cb) := (row_cell 6 _ q3 rfl).1
    have l7 : wr.cell? ⟨w.heap.size + 1 + 1 + 1, 7, none⟩ = some (.int .i64 N') := (row_cell 7 _ q3 rfl).1
    rcases hk with rfl | rfl | rfl
    · have hbA := hBw.alloc hBw.size (Obj.cells #[.int .i64 D, .int .i64 W, .slice ao n ca, .int .i64 N] 66)
      have hbr2 := hbr.alloc (hbr.size) (Obj.cells #[.int .i64 D, .int .i64 W, .slice ao n ca, .int .i64 N] 66)
      by_cases hz : e1 = 0
      · have HN : Hid ((1 ≤ (1 : Int) → e1 = 0) ∧ (2 ≤ (1 : Int) → e2 = 0)) := ⟨fun _ => hz, fun h => by omega⟩
        have t1 : (e1 != 0) = false := by rw [hz]; rfl
        clear hz
        go_wp2_with fail
        refine (check_any _ D W N c _ (hv0.below hbA)).mono ?_
        rw [HE1.out]
        rintro e w1 ⟨rfl, hb1⟩
        go_wp2_with fail
        go_roundw
        case rel => exact ⟨1, Or.inr (Or.inl rfl), rfl, hbr2.trans (hb1.mono hbr2.size), HN⟩
        case measure => simp [intOf]
      · have HF : Hid (mrg D W c N D' W' c' N' = (zeroSk, e1)) := Lib.hid (mrg_bad1 HE1.out hz)
        have t1 : (e1 != 0) = true := by rw [bne_iff_ne]; exact hz
        clear hz
        go_wp2_with fail
        refine (check_any _ D W N c _ (hv0.below hbA)).mono ?_
        rw [HE1.out]
        rintro e w1 ⟨rfl, hb1⟩
        have hb2 := hbr2.trans (hb1.mono hbr2.size)
        have hB2 := hbA.trans (hb1.mono hbA.size)
        have z2 := (hb2.block _ hlt2).trans hA2
        obtain ⟨⟨r0, r1, r2, r3⟩, ⟨f0, f1, f2, f3⟩⟩ := box4 z2
        have z3 := box4_store (.int .i64 0) (.int .i64 0) (.slice none 0 0) (.int .i64 0) z2
        obtain ⟨⟨s0, s1, s2, s3⟩, -⟩ := box4 z3
        have hB3 := box4_below (.int .i64 0) (.int .i64 0) (.slice none 0 0) (.int .i64 0) (show w.heap.size ≤ w.heap.size + 1 + 1 by omega) hB2
        go_wp2_with fail
        refine bodyPost_ret (v := .tuple #[.agg #[.int .i64 0, .int .i64 0, .slice none 0 0, .int .i64 0], .int .i64 e1]) (by simp [results, Try.results45, go_sem, s0, s1, s2, s3]) rfl ?_
        exact mg_zero HF.out hB3
    · have hz1 := hdone.out.1 (by omega)
      have hbA := hBw.alloc hBw.size (Obj.cells #[.int .i64 D', .int .i64 W', .slice bo m cb, .int .i64 N'] 66)
      have hbr2 := hbr.alloc (hbr.size) (Obj.cells #[.int .i64 D', .int .i64 W', .slice bo m cb, .int .i64 N'] 66)
      by_cases hz : e2 = 0
      · have HN : Hid ((1 ≤ (2 : Int) → e1 = 0) ∧ (2 ≤ (2 : Int) → e2 = 0)) := ⟨fun _ => hz1, fun _ => hz⟩
        have t1 : (e2 != 0) = false := by rw [hz]; rfl
        clear hz hz1
        go_wp2_with fail
        refine (check_any _ D' W' N' c' _ (hv0'.below hbA)).mono ?_
        rw [HE2.out]
        rintro e w1 ⟨rfl, hb1⟩
        go_wp2_with fail
        go_roundw
        case rel => exact ⟨2, Or.inr (Or.inr rfl), rfl, hbr2.trans (hb1.mono hbr2.size), HN⟩
        case measure => simp [intOf]
      · have HF : Hid (mrg D W c N D' W' c' N' = (zeroSk, e2)) := Lib.hid (mrg_bad2 (HE1.out.trans hz1) HE2.out hz)
        have t1 : (e2 != 0) = true := by rw [bne_iff_ne]; exact hz
        clear hz hz1
        go_wp2_with fail
        refine (check_any _ D' W' N' c' _ (hv0'.below hbA)).mono ?_
        rw [HE2.out]
        rintro e w1 ⟨rfl, hb1⟩
        have hb2 := hbr2.trans (hb1.mono hbr2.size)
        have hB2 := hbA.trans (hb1.mono hbA.size)
        have z2 := (hb2.block _ hlt2).trans hA2
        obtain ⟨⟨r0, r1, r2, r3⟩, ⟨f0, f1, f2, f3⟩⟩ := box4 z2
        have z3 := box4_store (.int .i64 0) (.int .i64 0) (.slice none 0 0) (.int .i64 0) z2
        obtain ⟨⟨s0, s1, s2, s3⟩, -⟩ := box4 z3
        have hB3 := box4_below (.int .i64 0) (.int .i64 0) (.slice none 0 0) (.int .i64 0) (show w.heap.size ≤ w.heap.size + 1 + 1 by omega) hB2
        go_wp2_with fail
        refine bodyPost_ret (v := .tuple #[.agg #[.int .i64 0, .int .i64 0, .slice none 0 0, .int .i64 0], .int .i64 e2]) (by simp [results, Try.results45, go_sem, s0, s1, s2, s3]) rfl ?_
        exact mg_zero HF.out hB3
    · have hz1 := hdone.out.1 (by omega)
      have hz2 := hdone.out.2 (by omega)
      have hk1 := HE1.out.trans hz1
      have hk2 := HE2.out.trans hz2
      clear l0 l1 l2 l3 l4 l5 l6 l7 q3 hdone hz1 hz2
      obtain ⟨⟨x0, x1, x2, x3⟩, ⟨g0, g1, g2, g3⟩⟩ := box4 q0
      obtain ⟨⟨y0, y1, y2, y3⟩, -⟩ := box4 q1
      obtain ⟨⟨hd1, hd2, hd3, hd4⟩, hdl, hd5, hd6⟩ := head_of hk1
      obtain ⟨-, hdl', hd5', hd6'⟩ := head_of hk2
      rw [HL.out] at hdl
      rw [HM.out] at hdl'
      have HK1 := Lib.hid hk1
      have HK2 := Lib.hid hk2
      clear hk1 hk2
      by_cases hDD : D = D'
      case neg =>
        have HF : Hid (mrg D W c N D' W' c' N' = (zeroSk, 1)) := Lib.hid (mrg_size HK1.out HK2.out (fun h => hDD h.1))
        have t1 : (D != D') = true := by rw [bne_iff_ne]; exact hDD
        clear hDD hdl hdl'
        have z2 := (hbr.block _ hlt2).trans hA2
        obtain ⟨⟨r0, r1, r2, r3⟩, ⟨f0, f1, f2, f3⟩⟩ := box4 z2
        have z3 := box4_store (.int .i64 0) (.int .i64 0) (.slice none 0 0) (.int .i64 0) z2
        obtain ⟨⟨s0, s1, s2, s3⟩, -⟩ := box4 z3
        have hB3 := box4_below (.int .i64 0) (.int .i64 0) (.slice none 0 0) (.int .i64 0) (show w.heap.size ≤ w.heap.size + 1 + 1 by omega) hBw
        go_wp2_with fail
        refine bodyPost_ret (v := .tuple #[.agg #[.int .i64 0, .int .i64 0, .slice none 0 0, .int .i64 0], .int .i64 1]) (by simp [results, Try.results45, go_sem, s0, s1, s2, s3]) rfl ?_
        exact mg_zero HF.out hB3
      subst hDD
      by_cases hWW : W = W'
      case neg =>
        have HF : Hid (mrg D W c N D W' c' N' = (zeroSk, 1)) := Lib.hid (mrg_size HK1.out HK2.out (fun h => hWW h.2))
        have t1 : (W != W') = true := by rw [bne_iff_ne]; exact hWW
        have t2 : (D != D) = false := by simp
        clear hWW hdl hdl'
        have z2 := (hbr.block _ hlt2).trans hA2
        obtain ⟨⟨r0, r1, r2, r3⟩, ⟨f0, f1, f2, f3⟩⟩ := box4 z2
        have z3 := box4_store (.int .i64 0) (.int .i64 0) (.slice none 0 0) (.int .i64 0) z2
        obtain ⟨⟨s0, s1, s2, s3⟩, -⟩ := box4 z3
        have hB3 := box4_below (.int .i64 0) (.int .i64 0) (.slice none 0 0) (.int .i64 0) (show w.heap.size ≤ w.heap.size + 1 + 1 by omega) hBw
        go_wp2_with fail
        refine bodyPost_ret (v := .tuple #[.agg #[.int .i64 0, .int .i64 0, .slice none 0 0, .int .i64 0], .int .i64 1]) (by simp [results, Try.results45, go_sem, s0, s1, s2, s3]) rfl ?_
        exact mg_zero HF.out hB3
      subst hWW
      have t1 : (D != D) = false := by simp
      have t2 : (W != W) = false := by simp
      obtain rfl : m = n := by
        rw [← hdl] at hdl'
        omega
      have hmL : m ≤ 1600 := by
        have : D * W ≤ 8 * 200 := Int.mul_le_mul hd2 hd4 (by omega) (by omega)
        omega
      have hm0 : 0 < m := by
        have : 0 < D * W := Int.mul_pos (by omega) (by omega)
        omega
      by_cases hmuch : 1152921504606846976 - N' < N
      · have HF : Hid (mrg D W c N D W c' N' = (zeroSk, 2)) := Lib.hid (mrg_much HK1.out HK2.out hmuch)
        clear hdl hdl'
        have z2 := (hbr.block _ hlt2).trans hA2
        obtain ⟨⟨r0, r1, r2, r3⟩, ⟨f0, f1, f2, f3⟩⟩ := box4 z2
        have z3 := box4_store (.int .i64 0) (.int .i64 0) (.slice none 0 0) (.int .i64 0) z2
        obtain ⟨⟨s0, s1, s2, s3⟩, -⟩ := box4 z3
        have hB3 := box4_below (.int .i64 0) (.int .i64 0) (.slice none 0 0) (.int .i64 0) (show w.heap.size ≤ w.heap.size + 1 + 1 by omega) hBw
        go_wp2_with fail
        refine bodyPost_ret (v := .tuple #[.agg #[.int .i64 0, .int .i64 0, .slice none 0 0, .int .i64 0], .int .i64 2]) (by simp [results, Try.results45, go_sem, s0, s1, s2, s3]) rfl ?_
        exact mg_zero HF.out hB3
      have HF : Hid (mrg D W c N D W c' N' = ((D, W, sumL c c' m, N + N'), 0)) := Lib.hid (mrg_ok HK1.out HK2.out hmuch HL.out)
      clear hdl hdl'
      go_wp2_with fail
      refine (clone_any _ m c _ (hs.below hBw) hmL).mono ?_
      rintro e w1 ⟨v1, rfl, hown1, hb1⟩
      obtain ⟨g, cap, rfl, hgb, hgl, hgc, hgc2, _⟩ := own_some hown1 hm0
      have hsz := hbr.size
      have p0 := (hb1.block w.heap.size (by omega)).trans q0
      have p1 := (hb1.block (w.heap.size + 1) (by omega)).trans q1
      have p2 := (hb1.block (w.heap.size + 1 + 1) (by omega)).trans q2
      clear x0 x1 x2 x3 g0 g1 g2 g3 y0 y1 y2 y3 q0 q1 q2
      obtain ⟨⟨x0, x1, x2, x3⟩, ⟨g0, g1, g2, g3⟩⟩ := box4 p0
      obtain ⟨⟨y0, y1, y2, y3⟩, -⟩ := box4 p1
      go_wp2_with fail
      have hS0 : SumAt w.heap.size D W N N' c c' m 0 g cap bo cb wr.heap.size w ((w1.setCell ⟨w.heap.size, 2, none⟩ (.slice (some ⟨g, 0, none⟩) m cap)).setCell ⟨w.heap.size, 3, none⟩ (.int .i64 (N + N'))) := by
        have a0 := row_setCell 2 (.slice (some ⟨g, 0, none⟩) m cap) p0
        have a1 := row_setCell 3 (.int .i64 (N + N')) a0
        refine ⟨?_, by simpa using a1, row_setCell_other _ (row_setCell_other _ p1 (by omega)) (by omega), row_setCell_other _ (row_setCell_other _ p2 (by omega)) (by omega), ?_⟩
        · rw [part_zero]
          have hne : ∀ j, (Value.slice (some ⟨g, 0, none⟩) m cap).ownBlock ≠ some (⟨w.heap.size, j, none⟩ : Addr).block := by
            intro j h
            simp [Value.ownBlock] at h
            omega
          exact ownsRow_setCell_other (ownsRow_setCell_other hown1 (a := ⟨w.heap.size, 2, none⟩) (hne 2) _) (a := ⟨w.heap.size, 3, none⟩) (hne 3) _
        · exact ((hBw.trans (hb1.mono hBw.size)).setCell (p := ⟨w.heap.size, 2, none⟩) (Nat.le_refl _) _).setCell (p := ⟨w.heap.size, 3, none⟩) (Nat.le_refl _) _
      have HS0 := Lib.hid hS0
      clear hS0 hown1 p0 p1 p2 x0 x1 x2 x3 g0 g1 g2 g3 y0 y1 y2 y3
      have hbase : w.heap.size + 1 + 1 < wr.heap.size := by omega
      obtain ⟨base, hbs⟩ : ∃ base, wr.heap.size = base := ⟨_, rfl⟩
      rw [hbs] at HS0 hbase
      clear hbs
      go_loopw [9, 10, 61] (fun _ _ i wx => ∃ k : Nat, k ≤ m ∧ i = .int .i64 k ∧ Hid (SumAt w.heap.size D W N N' c c' m k g cap bo cb base w wx)) (fun _ _ i _ => m - (intOf i).toNat)
      case atStart => exact ⟨0, by omega, rfl, HS0⟩
      case round =>
        obtain ⟨k, hk, rfl, HS⟩ := hrel
        obtain ⟨⟨x0, x1, x2, x3⟩, -⟩ := box4 HS.out.boxA
        have hBel := HS.out.bel
        by_cases hlt : k < m
        · obtain ⟨b2, off2, rfl, hc2⟩ := (ht.below hBel).int (i := k) hlt
          obtain ⟨hc1, hf1⟩ := HS.out.cell hlt HL.out
          obtain ⟨x, hx⟩ : ∃ x, c.getD k 0 = x := ⟨_, rfl⟩
          obtain ⟨y, hy⟩ : ∃ y, c'.getD k 0 = y := ⟨_, rfl⟩
          obtain ⟨z, hz⟩ : ∃ z, wrap64 (x + y) = z := ⟨_, rfl⟩
          have hz' : IntKind.i64.wrap (x + y) = z := by rw [IntWalk.i64_left]; exact hz
          have HN : Hid (SumAt w.heap.size D W N N' c c' m (k + 1) g cap (some ⟨b2, off2, none⟩) cb base w (wr.setCell ⟨g, k, none⟩ (.int .i64 z))) := Lib.hid (HS.out.step hlt HL.out hbase (by rw [hx, hy]; exact hz'))
          rw [hx] at hc1
          rw [hy] at hc2
          clear hx hy
          go_wp2_with fail
          go_roundw
          case rel => exact ⟨k + 1, by omega, by go_num, HN⟩
          case measure => simp [intOf]; omega
        · obtain rfl : k = m := by omega
          have z2 := HS.out.boxR
          obtain ⟨⟨r0, r1, r2, r3⟩, ⟨f0, f1, f2, f3⟩⟩ := box4 z2
          have z3 := box4_store (.int .i64 D) (.int .i64 W) (.slice (some ⟨g, 0, none⟩) k cap) (.int .i64 (N + N')) z2
          obtain ⟨⟨s0, s1, s2, s3⟩, -⟩ := box4 z3
          have hB3 := box4_below (.int .i64 D) (.int .i64 W) (.slice (some ⟨g, 0, none⟩) k cap) (.int .i64 (N + N')) (show w.heap.size ≤ w.heap.size + 1 + 1 by omega) hBel
          have hrow := HS.out.own
          rw [part_all c c' HL.out] at hrow
          have hne : (Value.slice (some ⟨g, 0, none⟩) k cap).ownBlock ≠ some (w.heap.size + 1 + 1) := by
            intro h
            have := (hrow.lt _ h).1
            omega
          have hrow2 := ownsRow_setCell_other (ownsRow_setCell_other (ownsRow_setCell_other (ownsRow_setCell_other hrow (a := ⟨w.heap.size + 1 + 1, 0, none⟩) hne (.int .i64 D)) (a := ⟨w.heap.size + 1 + 1, 1, none⟩) hne (.int .i64 W)) (a := ⟨w.heap.size + 1 + 1, 2, none⟩) hne (.slice (some ⟨g, 0, none⟩) k cap)) (a := ⟨w.heap.size + 1 + 1, 3, none⟩) hne (.int .i64 (N + N'))
          have HROW := Lib.hid (own_sl hrow2)
          clear hrow hrow2 z2 z3
          go_wp2_with fail
          refine bodyPost_ret (v := .tuple #[.agg #[.int .i64 D, .int .i64 W, .slice (some ⟨g, 0, none⟩) k cap, .int .i64 (N + N')], .int .i64 0]) (by simp [results, Try.results45, go_sem, s0, s1, s2, s3]) rfl ?_
          show MgPost _ _ _ _
          rw [HF.out]
          exact ⟨_, rfl, ⟨_, k, rfl, HROW.out, sumL_len _ _ _, sumL_wf _ _ _, by omega, hD, hW, by show _ ≤ N + N' ∧ N + N' < _; omega⟩, hB3⟩
end Go.Proofs.Ytmbmognhbljliaa.Sk
