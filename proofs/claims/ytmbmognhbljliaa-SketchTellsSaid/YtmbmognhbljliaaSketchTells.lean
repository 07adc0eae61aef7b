/-
  The walk of the law SketchTells.
-/
import Derived.Test.YtmbmognhbljliaaSkEmpty
import Derived.Test.YtmbmognhbljliaaSkAdd
import Derived.Deep.RegionHeld3
namespace Go.Proofs.Ytmbmognhbljliaa.SketchTells
open Go.RowKit Go.Gh Go.Proofs.Ytmbmognhbljliaa.Sk
set_option linter.unusedVariables false
theorem part4 {a b d : Int} {c : List Int} {r : Sk4 × Int} {e x y z e2 : Int} {l : List Int} (h : r = ((a, b, c, d), e)) (h2 : r = ((x, y, l, z), e2)) : a = x ∧ b = y ∧ c = l ∧ d = z ∧ e = e2 := by
  have h3 := h.symm.trans h2
  exact ⟨congrArg (fun r : Sk4 × Int => r.1.1) h3, congrArg (fun r : Sk4 × Int => r.1.2.1) h3, congrArg (fun r : Sk4 × Int => r.1.2.2.1) h3, congrArg (fun r : Sk4 × Int => r.1.2.2.2) h3, congrArg (fun r : Sk4 × Int => r.2) h3⟩
theorem emp_parts {D W a b d e : Int} {c : List Int} (h : empR D W = ((a, b, c, d), e)) : (¬ sizeOk D W → a = 0 ∧ b = 0 ∧ c = [] ∧ d = 0 ∧ e = 1) ∧ (∀ x y L : Nat, D = x → W = y → x * y = L → sizeOk D W → a = x ∧ b = y ∧ c = List.replicate L 0 ∧ d = 0 ∧ e = 0) :=
  ⟨fun hs => part4 h (emp_bad hs), fun x y L hx hy hL hs => by subst hx hy; exact part4 h (emp_ok hs hL)⟩
theorem rng {z : Int} (h : (Lit.int .i64 z).wf = true) : -9223372036854775808 ≤ z ∧ z < 9223372036854775808 := by
  simp [Lit.wf, IntKind.min, IntKind.max, IntKind.signed, IntKind.bits] at h
  omega
/-- What stands in memory while want grows: its row, its box. -/
structure WtAt (bw base d wd : Nat) (N' : Int) (c : List Int) (S : ByteArray) (nn : Int) (n k g cap : Nat) (w8 wx : World) : Prop where
  own : wx.ownsRow base 2 1 (.slice (some ⟨g, 0, none⟩) n cap) n ((adF c S wd nn k).map (Value.int .i64))
  boxW : wx.heap[bw]? = some (.cells #[.int .i64 d, .int .i64 wd, .slice (some ⟨g, 0, none⟩) n cap, .int .i64 N'] 66 (0, 0))
  bel : Below base w8 wx
  low : base ≤ bw
  len : c.length = n
theorem WtAt.below {bw base d wd : Nat} {N' : Int} {c : List Int} {S : ByteArray} {nn : Int} {n k g cap : Nat} {w8 wx wy : World} (h : WtAt bw base d wd N' c S nn n k g cap w8 wx) (hs : w8.heap.size = base) (hb : Below wx.heap.size wx wy) : WtAt bw base d wd N' c S nn n k g cap w8 wy :=
  ⟨own_below h.own hb, (hb.block _ (Array.getElem?_eq_some_iff.1 h.boxW).1).trans h.boxW, h.bel.trans (hb.mono (by have := h.bel.size; omega)), h.low, h.len⟩
theorem WtAt.cell {bw base d wd : Nat} {N' : Int} {c : List Int} {S : ByteArray} {nn : Int} {n k g cap : Nat} {w8 wx : World} (h : WtAt bw base d wd N' c S nn n k g cap w8 wx) {i : Nat} (hi : i < n) :
    wx.cell? ⟨g, i, none⟩ = some (.int .i64 ((adF c S wd nn k).getD i 0)) ∧ wx.frozen? ⟨g, i, none⟩ = false := by
  refine ⟨?_, h.own.frozenAt _⟩
  rw [h.own.cellAt _ (by omega), List.getElem?_map, List.getD_eq_getElem?_getD, List.getElem?_eq_getElem (by rw [adF_len, h.len]; exact hi)]
  rfl
theorem WtAt.step {bw base d wd : Nat} {N' : Int} {c : List Int} {S : ByteArray} {nn : Int} {n k g cap : Nat} {w8 wx : World} (h : WtAt bw base d wd N' c S nn n k g cap w8 wx) {z : Int} {i : Nat} (hi : ca S wd k = i) (hz : wrS ((adF c S wd nn k).getD i 0 + nn) = z) :
    WtAt bw base d wd N' c S nn n (k + 1) g cap w8 (wx.setCell ⟨g, i, none⟩ (.int .i64 z)) := by
  have hg : base ≤ g := (h.own.lt g rfl).1
  have hne : (Value.slice (some ⟨g, 0, none⟩) n cap).ownBlock ≠ some bw := own_block_ne h.own h.boxW (by decide)
  have hgb : g ≠ bw := fun he => hne (by rw [he]; rfl)
  refine ⟨?_, row_setCell_other _ h.boxW hgb.symm, h.bel.setCell (p := ⟨g, i, none⟩) hg _, h.low, h.len⟩
  have := (h.own.stored i (.int .i64 z)).1
  rw [← List.map_set, ← hz, ← hi] at this
  rw [← hz, ← hi]
  exact this
theorem WtAt.more {bw base d wd : Nat} {N' N2 : Int} {c : List Int} {S : ByteArray} {nn : Int} {n k g cap : Nat} {w8 wx : World} (h : WtAt bw base d wd N' c S nn n k g cap w8 wx) :
    WtAt bw base d wd N2 c S nn n k g cap w8 (wx.setCell ⟨bw, 3, none⟩ (.int .i64 N2)) := by
  have hne : (Value.slice (some ⟨g, 0, none⟩) n cap).ownBlock ≠ some bw := own_block_ne h.own h.boxW (by decide)
  have a := row_setCell 3 (.int .i64 N2) h.boxW
  exact ⟨ownsRow_setCell_other h.own (a := ⟨bw, 3, none⟩) hne _, by simpa using a, h.bel.setCell (p := ⟨bw, 3, none⟩) h.low _, h.low, h.len⟩
theorem WtAt.sk {bw base d wd : Nat} {N' : Int} {c : List Int} {S : ByteArray} {nn : Int} {n k g cap : Nat} {w8 wx : World} (h : WtAt bw base d wd N' c S nn n k g cap w8 wx) (hwf : ∀ z ∈ c, (Lit.int .i64 z).wf = true) (hn : n ≤ 1600) (hd : d ≤ 8) (hw : wd ≤ 200) (hN : 0 ≤ N' ∧ N' ≤ 1152921504606846976) :
    SkV wx (.agg #[.int .i64 d, .int .i64 wd, .slice (some ⟨g, 0, none⟩) n cap, .int .i64 N']) d wd (adF c S wd nn k) N' :=
  ⟨_, n, rfl, own_sl h.own, by rw [adF_len, h.len], adF_wf hwf S wd nn k, by omega, by omega, by omega, by omega⟩
theorem box4_al {w : World} {B : Nat} {T : TypeId} {a b c d : Value} (h : w.heap[B]? = some (.cells #[a, b, c, d] T (0, 0))) :
    (∀ o, (w.alloc o).cell? ⟨B, 0, none⟩ = some a) ∧ (∀ o, (w.alloc o).cell? ⟨B, 1, none⟩ = some b) ∧ (∀ o, (w.alloc o).cell? ⟨B, 2, none⟩ = some c) ∧ (∀ o, (w.alloc o).cell? ⟨B, 3, none⟩ = some d) := by
  have hl : B < w.heap.size := (Array.getElem?_eq_some_iff.1 h).1
  have h' := fun o => box4 ((Below.heap_alloc w o B hl).trans h)
  exact ⟨fun o => (h' o).1.1, fun o => (h' o).1.2.1, fun o => (h' o).1.2.2.1, fun o => (h' o).1.2.2.2⟩
theorem WtAt.ofNew {base b1 d wd : Nat} {N : Int} {c : List Int} {S : ByteArray} {nn : Int} {n g cap : Nat} {w8 w9 : World} (hown : w9.ownsRow b1 2 1 (.slice (some ⟨g, 0, none⟩) n cap) n (c.map (Value.int .i64))) (hb1 : base ≤ b1) (hb : Below base w8 w9) (hl : base ≤ w9.heap.size) (hc : c.length = n) :
    WtAt w9.heap.size base d wd N c S nn n 0 g cap w8 (w9.alloc (.cells #[.int .i64 d, .int .i64 wd, .slice (some ⟨g, 0, none⟩) n cap, .int .i64 N] 66)) :=
  ⟨own_mono (hown.alloc _) hb1, heap_alloc_new w9 _, hb.alloc hl _, hl, hc⟩
theorem WtAt.ofOld {bw base b1 d wd : Nat} {N : Int} {c : List Int} {S : ByteArray} {nn : Int} {n g cap : Nat} {w8 w9 : World} {x0 x1 x2 x3 : Value} (hown : w9.ownsRow b1 2 1 (.slice (some ⟨g, 0, none⟩) n cap) n (c.map (Value.int .i64))) (hbw : bw < b1) (hlow : base ≤ bw) (hb : Below base w8 w9) (hc : c.length = n) (hx : w9.heap[bw]? = some (.cells #[x0, x1, x2, x3] 66 (0, 0))) :
    WtAt bw base d wd N c S nn n 0 g cap w8 ((((w9.setCell ⟨bw, 0, none⟩ (.int .i64 d)).setCell ⟨bw, 1, none⟩ (.int .i64 wd)).setCell ⟨bw, 2, none⟩ (.slice (some ⟨g, 0, none⟩) n cap)).setCell ⟨bw, 3, none⟩ (.int .i64 N)) := by
  have hne : (Value.slice (some ⟨g, 0, none⟩) n cap).ownBlock ≠ some bw := fun h => by have := (hown.lt _ h).1; omega
  refine ⟨own_mono (ownsRow_setCell_other (ownsRow_setCell_other (ownsRow_setCell_other (ownsRow_setCell_other hown (a := ⟨bw, 0, none⟩) hne _) (a := ⟨bw, 1, none⟩) hne _) (a := ⟨bw, 2, none⟩) hne _) (a := ⟨bw, 3, none⟩) hne _) (by omega), box4_store _ _ _ _ hx, box4_below _ _ _ _ hlow hb, hlow, hc⟩
set_option maxHeartbeats 8000000 in
set_option maxRecDepth 100000 in
theorem walk (v0 v1 v2 v3 v4 : Value) (w : World) (h0 : IsInt .i64 w v0) (h1 : IsInt .i64 w v1) (h2 : IsSk w v2) (h3 : IsString w v3) (h4 : IsInt .i64 w v4) :
    Calls Try.prog 11 #[v0, v1, v2, v3, v4] w fun e w' => e = .returned (.bool true) ∧ Below w.heap.size w w' := by
  obtain ⟨D0, rfl, hD0'⟩ := h0
  obtain ⟨W0, rfl, hW0'⟩ := h1
  obtain ⟨D, W, c, N, hv⟩ := h2
  obtain ⟨S, rfl, hS⟩ := h3
  obtain ⟨nn, rfl, hnn'⟩ := h4
  have hD0 := rng hD0'
  have hW0 := rng hW0'
  have hnn := rng hnn'
  clear hD0' hW0' hnn'
  have hv0 := hv
  obtain ⟨cv, n, rfl, hs, hl, hwf, hn, hD, hW, hN⟩ := hv
  obtain ⟨ao, cp, rfl, hnc, hcp, _⟩ := hs.shape
  obtain ⟨e1, he1⟩ : ∃ e, skF D W c N = e := ⟨_, rfl⟩
  obtain ⟨⟨⟨aD, aW, ac, aN⟩, ae⟩, hEM⟩ : ∃ r, empR D0 W0 = r := ⟨_, rfl⟩
  obtain ⟨⟨⟨bD, bW, bc, bN⟩, be⟩, hAD⟩ : ∃ r, addR D W c N S nn = r := ⟨_, rfl⟩
  obtain ⟨⟨cc, ce⟩, hCN⟩ : ∃ r, cntR D W c N S = r := ⟨_, rfl⟩
  have HE1 := Lib.hid he1
  have HEM := Lib.hid hEM
  have HAD := Lib.hid hAD
  have HCN := Lib.hid hCN
  have HL := Lib.hid hl
  have HWF := Lib.hid hwf
  clear hl he1 hwf hEM hAD hCN
  go_enter Try.func11, Try.ntmps11
  go_upto_region 1 with (fail)
  refine wp_abs (fun wA => wA.heap[w.heap.size]? = some (.cells #[.int .i64 D, .int .i64 W, .slice ao n cp, .int .i64 N] 66 (0, 0)) ∧ Below w.heap.size w wA ∧ w.heap.size < wA.heap.size) ⟨heap_alloc_new w _, (Below.refl _ _).alloc (Nat.le_refl _) _, by simp⟩ ?_
  rintro wA ⟨q0, hB0, hlt0⟩
  go_wp2_with fail
  refine (empty_any D0 W0 _ hD0 hW0).mono ?_
  rw [HEM.out]
  rintro e w1 ⟨va, rfl, hska, hb1⟩
  have hska2 : SkV w1 va aD aW ac aN := hska
  have HSKA := Lib.hid hska2
  clear hska
  obtain ⟨cva, na, rfl, hsa, -⟩ := hska2
  obtain ⟨aoa, caa, rfl, _⟩ := hsa.shape
  have hB1 := hB0.trans (hb1.mono hB0.size)
  have q1 := (hb1.block _ hlt0).trans q0
  have hlt1 : w.heap.size < w1.heap.size := Nat.lt_of_lt_of_le hlt0 hb1.size
  clear q0 hsa hb1 hB0 hlt0
  go_upto_region 2 with (fail)
  refine wp_abs (fun wx => wx.heap[w.heap.size]? = some (.cells #[.int .i64 D, .int .i64 W, .slice ao n cp, .int .i64 N] 66 (0, 0)) ∧ wx.heap[w1.heap.size]? = some (.cells #[.int .i64 aD, .int .i64 aW, .slice aoa na caa, .int .i64 aN] 66 (0, 0)) ∧ Below w.heap.size w wx ∧ w1.heap.size < wx.heap.size ∧ SkV wx (.agg #[.int .i64 aD, .int .i64 aW, .slice aoa na caa, .int .i64 aN]) aD aW ac aN)
    ⟨(Below.heap_alloc _ _ _ (by omega)).trans q1, heap_alloc_new w1 _, hB1.alloc hB1.size _, by simp, HSKA.out.below ((Below.refl _ w1).alloc (Nat.le_refl _) _)⟩ ?_
  obtain ⟨ba, hba⟩ : ∃ ba, w1.heap.size = ba := ⟨_, rfl⟩
  rw [hba] at hlt1 ⊢
  clear q1 HSKA hB1 hba
  rintro w2 ⟨q2, qa2, hB2, hlt2, hska2⟩
  have HSKA2 := Lib.hid hska2
  clear hska2
  obtain ⟨⟨x0, x1, x2, x3⟩, -⟩ := box4 q2
  go_wp2_with fail
  refine (add_any _ D W N c S nn _ (hv0.below hB2) hS hnn).mono ?_
  rw [HAD.out]
  rintro e w3 ⟨vb, rfl, hskb, hb3⟩
  have hskb2 : SkV w3 vb bD bW bc bN := hskb
  have HSKB := Lib.hid hskb2
  clear hskb
  obtain ⟨cvb, nb, rfl, hsb, -⟩ := hskb2
  obtain ⟨aob, cab, rfl, _⟩ := hsb.shape
  have hB3 := hB2.trans (hb3.mono hB2.size)
  have q3 := (hb3.block _ (by omega)).trans q2
  have qa3 := (hb3.block _ hlt2).trans qa2
  have hlt3 : ba < w3.heap.size := Nat.lt_of_lt_of_le hlt2 hb3.size
  have HSKA3 := Lib.hid (HSKA2.out.below hb3)
  clear q2 qa2 hsb hb3 hB2 hlt2 HSKA2 x0 x1 x2 x3
  obtain ⟨⟨x0, x1, x2, x3⟩, -⟩ := box4 q3
  go_upto_region 3 with (fail)
  refine wp_abs (fun wx => wx.heap[w.heap.size]? = some (.cells #[.int .i64 D, .int .i64 W, .slice ao n cp, .int .i64 N] 66 (0, 0)) ∧ wx.heap[ba]? = some (.cells #[.int .i64 aD, .int .i64 aW, .slice aoa na caa, .int .i64 aN] 66 (0, 0)) ∧ wx.heap[w3.heap.size]? = some (.cells #[.int .i64 bD, .int .i64 bW, .slice aob nb cab, .int .i64 bN] 66 (0, 0)) ∧ Below w.heap.size w wx ∧ w3.heap.size < wx.heap.size ∧ SkV wx (.agg #[.int .i64 aD, .int .i64 aW, .slice aoa na caa, .int .i64 aN]) aD aW ac aN ∧ SkV wx (.agg #[.int .i64 bD, .int .i64 bW, .slice aob nb cab, .int .i64 bN]) bD bW bc bN)
    ⟨(Below.heap_alloc _ _ _ (by omega)).trans q3, (Below.heap_alloc _ _ _ hlt3).trans qa3, heap_alloc_new w3 _, hB3.alloc hB3.size _, by simp, HSKA3.out.below ((Below.refl _ w3).alloc (Nat.le_refl _) _), HSKB.out.below ((Below.refl _ w3).alloc (Nat.le_refl _) _)⟩ ?_
  obtain ⟨bb, hbb⟩ : ∃ ba, w3.heap.size = ba := ⟨_, rfl⟩
  rw [hbb] at hlt3 ⊢
  clear q3 qa3 HSKA3 HSKB hB3 hbb x0 x1 x2 x3
  rintro w4 ⟨q4, qa4, qb4, hB4, hlt4, hska4, hskb4⟩
  obtain ⟨⟨x0, x1, x2, x3⟩, -⟩ := box4 q4
  have HA4 := Lib.hid hska4
  have HB4 := Lib.hid hskb4
  clear hska4 hskb4
  go_wp2_with fail
  refine (count_any _ D W N c S _ (hv0.below hB4) hS).mono ?_
  rw [HCN.out]
  rintro e w5 ⟨rfl, hb5⟩
  have hB5 := hB4.trans (hb5.mono hB4.size)
  have q5 := (hb5.block w.heap.size (by omega)).trans q4
  have qa5 := (hb5.block _ (Nat.lt_trans hlt3 hlt4)).trans qa4
  have qb5 := (hb5.block _ hlt4).trans qb4
  have hlt5 : bb < w5.heap.size := Nat.lt_of_lt_of_le hlt4 hb5.size
  have HA5 := Lib.hid (HA4.out.below hb5)
  have HB5 := Lib.hid (HB4.out.below hb5)
  have hs5 := hs.below hB5
  have hv5 := hv0.below hB5
  clear q4 qa4 qb4 hb5 hB4 hlt4 HA4 HB4 x0 x1 x2 x3
  have Q5 := Lib.hid q5
  have QA5 := Lib.hid qa5
  have QB5 := Lib.hid qb5
  have HV5 := Lib.hid hv5
  have HS5 := Lib.hid hs5
  clear q5 qa5 qb5 hs5 hv5 hs hv0
  go_upto_region 4 with (fail)
  obtain ⟨sz, hsz⟩ : ∃ b, decide (sizeOk D0 W0) = b := ⟨_, rfl⟩
  have HSZ := Lib.hid hsz
  go_cut [55] (fun t wx => t = .bool (!sz) ∧ w5 = wx)
  case first =>
    have hb : sz = (decide (sizeOk D0 W0)) := hsz.symm
    clear hsz
    go_wp2_with fail
    all_goals go_meet
    all_goals
      refine ⟨congrArg Value.bool ?_, rfl⟩
      rw [hb]
      by_cases hso : sizeOk D0 W0
      · rw [decide_eq_true hso]
        obtain ⟨h5, h6, h7, h8⟩ := hso
        simp <;> omega
      · rw [decide_eq_false hso]
        unfold sizeOk at hso
        simp <;> omega
  obtain ⟨rfl, hwx⟩ := hcut
  subst hwx
  clear hsz
  go_upto_if 55 with (fail)
  go_cut [] (fun wx => Below w5.heap.size w5 wx)
  case first =>
    cases sz
    · obtain ⟨rfl, rfl, rfl, rfl, rfl⟩ := (emp_parts HEM.out).1 (of_decide_eq_false HSZ.out)
      obtain ⟨⟨x0, x1, x2, x3⟩, -⟩ := box4 QA5.out
      go_wp2_with fail
      refine (same_any _ _ 0 0 0 [] _ HA5.out (skZero _)).mono ?_
      rintro e w9 ⟨rfl, hb9⟩
      go_wp2_with fail
      go_meet
      exact hb9
    · have hso := of_decide_eq_true HSZ.out
      have hso' := hso
      obtain ⟨h1, h2, h3, h4⟩ := hso'
      obtain ⟨d0, rfl⟩ : ∃ d : Nat, D0 = d := ⟨D0.toNat, by omega⟩
      obtain ⟨w0, rfl⟩ : ∃ d : Nat, W0 = d := ⟨W0.toNat, by omega⟩
      obtain ⟨L, hL⟩ : ∃ L, d0 * w0 = L := ⟨_, rfl⟩
      obtain ⟨rfl, rfl, rfl, rfl, rfl⟩ := (emp_parts HEM.out).2 d0 w0 L rfl rfl hL hso
      have hLi : (d0 : Int) * (w0 : Int) = (L : Int) := by rw [← hL]; exact (Int.natCast_mul d0 w0).symm
      have hL2 : L ≤ 1600 := by rw [← hL]; exact Nat.mul_le_mul (show d0 ≤ 8 by omega) (show w0 ≤ 200 by omega)
      have hmk := make_run L hL2
      rw [← Go.Proofs.Ytmbmognhbljliaa.Sk.wrap_small (show L ≤ 100000 by omega)] at hmk
      have HZ : Hid (SkV (w5.alloc (.cells (zerosV L).toArray 2)).drew (.agg #[.int .i64 d0, .int .i64 w0, .slice (some ⟨w5.heap.size, 0, none⟩) L L, .int .i64 0]) d0 w0 (List.replicate L 0) 0) :=
        Lib.hid ⟨_, L, rfl, zeros_sl w5 L hL2, by simp, by intro z hz; rw [(List.mem_replicate.1 hz).2]; decide, by omega, by omega, by omega, by omega⟩
      have hbq : Below w5.heap.size w5 (w5.alloc (.cells (zerosV L).toArray 2)).drew := ((Below.refl _ w5).alloc (Nat.le_refl _) _).drew
      have HA7 := Lib.hid (HA5.out.below hbq)
      have HBQ := Lib.hid hbq
      obtain ⟨⟨x0, x1, x2, x3⟩, -⟩ := box4 QA5.out
      have hqd := ((Below.refl w5.heap.size w5).drew.block ba (by omega)).trans QA5.out
      have HQA7 := Lib.hid ((hbq.block ba (by omega)).trans QA5.out)
      obtain ⟨a0, a1, a2, a3⟩ := box4_al QA5.out
      clear hso hL h1 h2 h3 h4 hbq
      go_upto_region 7 with (fail)
      go_region_held3 (fun w' => w'.cell? ⟨ba, 0, none⟩ = some (.int .i64 d0) ∧ w'.cell? ⟨ba, 1, none⟩ = some (.int .i64 w0) ∧ w'.cell? ⟨ba, 2, none⟩ = some (.slice aoa na caa) ∧ w'.cell? ⟨ba, 3, none⟩ = some (.int .i64 0)) (first | (with_reducible exact ⟨x0, x1, x2, x3⟩) | (with_reducible exact ⟨y0, y1, y2, y3⟩) | (with_reducible exact ⟨a0 _, a1 _, a2 _, a3 _⟩) | go_keep) (first
        | (go_at_call 47; refine (same_any _ _ d0 w0 0 (List.replicate L 0) _ HA7.out HZ.out).mono ?_; rintro e w9 ⟨rfl, hb9⟩; obtain ⟨⟨y0, y1, y2, y3⟩, -⟩ := box4 ((hb9.block ba (by simp; omega)).trans HQA7.out)))
      all_goals (go_wp2_with fail; go_meet)
      all_goals exact HBQ.out.trans (hb9.mono HBQ.out.size)
  have hB6 := hB5.trans (hcut.mono hB5.size)
  have hltB : w.heap.size < w5.heap.size := by omega
  have Q6 := Lib.hid ((hcut.block w.heap.size hltB).trans Q5.out)
  have QB6 := Lib.hid ((hcut.block bb hlt5).trans QB5.out)
  have HB6 := Lib.hid (HB5.out.below hcut)
  have HV6 := Lib.hid (HV5.out.below hcut)
  have HS6 := Lib.hid (HS5.out.below hcut)
  have hlt6 : bb < wc.heap.size := Nat.lt_of_lt_of_le hlt5 hcut.size
  have hltB6 : w.heap.size < wc.heap.size := Nat.lt_of_lt_of_le hltB hcut.size
  clear hcut Q5 QA5 QB5 HA5 HB5 HV5 HS5 hB5 hlt5 hltB HEM HSZ
  obtain ⟨⟨x0, x1, x2, x3⟩, -⟩ := box4 Q6.out
  have t0 : (e1 != e1) = false := by simp
  by_cases hz : e1 = 0
  case neg =>
    obtain ⟨rfl, rfl, rfl, rfl, rfl⟩ := part4 HAD.out (add_bad HE1.out hz)
    obtain ⟨rfl, rfl⟩ : cc = 0 ∧ ce = be := by
      have h3 := HCN.out.symm.trans (cnt_bad HE1.out hz)
      exact ⟨congrArg Prod.fst h3, congrArg Prod.snd h3⟩
    have t1 : (ce != 0) = true := by rw [bne_iff_ne]; exact hz
    have t2 : (ce == ce) = true := by simp
    clear hz
    go_wp2_with fail
    refine (fault_any _ D W N c _ HV6.out).mono ?_
    rw [HE1.out]
    rintro e w7 ⟨rfl, hb7⟩
    clear x0 x1 x2 x3
    obtain ⟨⟨x0, x1, x2, x3⟩, -⟩ := box4 ((hb7.block _ hltB6).trans Q6.out)
    go_wp2_with fail
    refine (check_any _ D W N c _ (HV6.out.below hb7)).mono ?_
    rw [HE1.out]
    rintro e w8 ⟨rfl, hb8⟩
    have hb68 := hb7.trans (hb8.mono hb7.size)
    clear x0 x1 x2 x3
    obtain ⟨⟨x0, x1, x2, x3⟩, -⟩ := box4 ((hb68.block _ hlt6).trans QB6.out)
    go_wp2_with fail
    refine (same_any _ _ 0 0 0 [] _ (HB6.out.below hb68) (skZero _)).mono ?_
    rintro e w9 ⟨rfl, hb9⟩
    go_wp2_with fail
    go_ret
    exact ⟨rfl, (hB6.trans (hb68.mono hB6.size)).trans (hb9.mono (Nat.le_trans hB6.size hb68.size))⟩
  have hk1 := HE1.out.trans hz
  obtain ⟨⟨hd1, hd2, hd3, hd4⟩, hdl, hd5, hd6⟩ := head_of hk1
  rw [HL.out] at hdl
  obtain ⟨d, rfl⟩ : ∃ d : Nat, D = d := ⟨D.toNat, by omega⟩
  obtain ⟨wd, rfl⟩ : ∃ d : Nat, W = d := ⟨W.toNat, by omega⟩
  have hnL : n = d * wd := by
    rw [← Int.natCast_mul] at hdl
    omega
  have hn16 : n ≤ 1600 := by rw [hnL]; exact Nat.mul_le_mul (show d ≤ 8 by omega) (show wd ≤ 200 by omega)
  have hn0 : 0 < n := by rw [hnL]; exact Nat.mul_pos (show 0 < d by omega) (show 0 < wd by omega)
  have HNL := Lib.hid hnL
  have HK1 := Lib.hid hk1
  have t1 : (e1 != 0) = false := by rw [hz]; rfl
  obtain ⟨hcc, rfl⟩ : cc = minF c S wd N d ∧ ce = 0 := by
    have h3 := HCN.out.symm.trans (cnt_ok hk1)
    exact ⟨congrArg Prod.fst h3, congrArg Prod.snd h3⟩
  have HCC := Lib.hid hcc
  clear hz hk1 hnL hdl hcc HCN
  go_wp2_with fail
  refine (fault_any _ d wd N c _ HV6.out).mono ?_
  rw [HE1.out]
  rintro e w7 ⟨rfl, hb7⟩
  clear x0 x1 x2 x3
  obtain ⟨⟨x0, x1, x2, x3⟩, -⟩ := box4 ((hb7.block _ hltB6).trans Q6.out)
  go_wp2_with fail
  refine (check_any _ d wd N c _ (HV6.out.below hb7)).mono ?_
  rw [HE1.out]
  rintro e w8 ⟨rfl, hb8⟩
  have hb68 := hb7.trans (hb8.mono hb7.size)
  clear x0 x1 x2 x3
  have Q8 := Lib.hid ((hb68.block _ hltB6).trans Q6.out)
  have QB8 := Lib.hid ((hb68.block _ hlt6).trans QB6.out)
  have HB8 := Lib.hid (HB6.out.below hb68)
  have HV8 := Lib.hid (HV6.out.below hb68)
  have HS8 := Lib.hid (HS6.out.below hb68)
  have hB8 := hB6.trans (hb68.mono hB6.size)
  have hlt8 : bb < w8.heap.size := Nat.lt_of_lt_of_le hlt6 hb68.size
  have hltB8 : w.heap.size < w8.heap.size := Nat.lt_of_lt_of_le hltB6 hb68.size
  clear Q6 QB6 HB6 HV6 HS6 hB6 hlt6 hltB6 hb68 hb7 hb8
  obtain ⟨⟨x0, x1, x2, x3⟩, -⟩ := box4 Q8.out
  go_upto_region 14 with (fail)
  have HWF2 := Lib.hid HWF.out
  have hq1 : Below w8.heap.size w8 w8.drew := (Below.refl _ _).drew
  have hq2 : Below w8.heap.size w8 (w8.alloc (Obj.cells #[.int .i64 0, .int .i64 0, .slice none 0 0, .int .i64 0] 66)).drew := ((Below.refl _ w8).alloc (Nat.le_refl _) _).drew
  have HQ1 := Lib.hid (HS8.out.below hq1)
  have HQ2 := Lib.hid (HS8.out.below hq2)
  have HZB : Hid ((w8.alloc (Obj.cells #[.int .i64 0, .int .i64 0, .slice none 0 0, .int .i64 0] 66)).drew.heap[w8.heap.size]? = some (.cells #[.int .i64 0, .int .i64 0, .slice none 0 0, .int .i64 0] 66 (0, 0))) := Lib.hid (heap_alloc_new w8 _)
  have qd0 := (hq1.block _ hltB8).trans Q8.out
  obtain ⟨l0, l1, l2, l3⟩ := box4_al qd0
  go_cut [18] (fun t wx => ∃ bw g cap, t = .pointer (some ⟨bw, 0, none⟩) ∧ Hid (WtAt bw w8.heap.size d wd N c S nn n 0 g cap w8 wx))
  case first =>
    go_region_held3 (fun w' => w'.cell? ⟨w.heap.size, 0, none⟩ = some (.int .i64 d) ∧ w'.cell? ⟨w.heap.size, 1, none⟩ = some (.int .i64 wd) ∧ w'.cell? ⟨w.heap.size, 2, none⟩ = some (.slice ao n cp) ∧ w'.cell? ⟨w.heap.size, 3, none⟩ = some (.int .i64 N)) (first | (with_reducible exact ⟨x0, x1, x2, x3⟩) | (with_reducible exact ⟨y0, y1, y2, y3⟩) | (with_reducible exact ⟨r0, r1, r2, r3⟩) | (with_reducible exact ⟨a0 _, a1 _, a2 _, a3 _⟩) | (with_reducible exact ⟨l0 _, l1 _, l2 _, l3 _⟩) | go_keep) (first
      | (go_at_call 62; refine (clone_any _ n c _ (by first | (with_reducible exact HQ1.out) | (with_reducible exact HQ2.out)) hn16).mono ?_; rintro e w9 ⟨v', rfl, hown9, hb9⟩; obtain ⟨g, cap, rfl, hgb, hgl, hgc, hgc2, _⟩ := own_some hown9 hn0; have hb89 : Below w8.heap.size w8 w9 := (by first | exact hq1.trans (hb9.mono (Nat.le_refl w8.heap.size)) | exact hq2.trans (hb9.mono hq2.size)); obtain ⟨⟨y0, y1, y2, y3⟩, -⟩ := box4 ((hb89.block _ hltB8).trans Q8.out); obtain ⟨a0, a1, a2, a3⟩ := box4_al ((hb89.block _ hltB8).trans Q8.out); (try (have hbox9 := (hb9.block w8.heap.size (by simp)).trans HZB.out; obtain ⟨⟨k0, k1, k2, k3⟩, ⟨z0, z1, z2, z3⟩⟩ := box4 hbox9; have hst : ((((w9.setCell ⟨w8.heap.size, 0, none⟩ (.int .i64 d)).setCell ⟨w8.heap.size, 1, none⟩ (.int .i64 wd)).setCell ⟨w8.heap.size, 2, none⟩ (.slice (some ⟨g, 0, none⟩) n cap)).setCell ⟨w8.heap.size, 3, none⟩ (.int .i64 N)).heap[w.heap.size]? = _ := row_setCell_other _ (row_setCell_other _ (row_setCell_other _ (row_setCell_other _ ((hb89.block _ hltB8).trans Q8.out) (by omega)) (by omega)) (by omega)) (by omega); obtain ⟨⟨r0, r1, r2, r3⟩, -⟩ := box4 hst))))
    all_goals (go_wp2_with fail; go_meet)
    all_goals first
      | exact ⟨_, g, cap, rfl, WtAt.ofNew hown9 (Nat.le_refl _) hb89 hb89.size HL.out⟩
      | exact ⟨_, g, cap, rfl, WtAt.ofOld hown9 (by simp) (Nat.le_refl _) hb89 HL.out hbox9⟩
  obtain ⟨bw, g, cap, rfl, HW⟩ := hcut
  obtain ⟨base, hbase⟩ : ∃ base, w8.heap.size = base := ⟨_, rfl⟩
  have HBASE := Lib.hid hbase
  rw [hbase] at HW hltB8 hlt8
  clear hbase hq1 hq2 HQ1 HQ2 HZB x0 x1 x2 x3 l0 l1 l2 l3
  obtain ⟨⟨x0, x1, x2, x3⟩, -⟩ := box4 ((HW.out.bel.block _ hltB8).trans Q8.out)
  go_wp2_with fail
  go_loopw [19, 20, 21, 117] (fun t _ _ i wx => ∃ k : Nat, k ≤ d ∧ i = .int .i64 k ∧ t = .int .i64 (minF c S wd N k) ∧ Hid (WtAt bw base d wd N c S nn n 0 g cap w8 wx)) (fun _ _ _ i _ => d - (intOf i).toNat)
  case atStart => exact ⟨0, by omega, rfl, rfl, HW⟩
  case round =>
    clear x0 x1 x2 x3 HW
    obtain ⟨k, hk, rfl, rfl, HW⟩ := hrel
    obtain ⟨⟨x0, x1, x2, x3⟩, -⟩ := box4 ((HW.out.bel.block _ hltB8).trans Q8.out)
    by_cases hlt : k < d
    · have HVr := Lib.hid (HV8.out.below (by rw [HBASE.out]; exact HW.out.bel))
      go_wp2_with fail
      refine (cellof_any _ d wd k N c S _ HVr.out (by omega) (by omega) (by omega) hlt hS).mono ?_
      rintro e w10 ⟨rfl, hb10⟩
      clear x0 x1 x2 x3
      have HW10 := Lib.hid (HW.out.below HBASE.out hb10)
      obtain ⟨⟨x0, x1, x2, x3⟩, -⟩ := box4 ((HW10.out.bel.block _ hltB8).trans Q8.out)
      have hci : ca S wd k < n := by rw [HNL.out]; exact ca_lt S (by omega) hlt
      obtain ⟨b2, off2, hao, hc2⟩ := (HS8.out.below (by rw [HBASE.out]; exact HW10.out.bel)).int (i := ca S wd k) hci
      obtain ⟨m, hm⟩ : ∃ m, minF c S wd N k = m := ⟨_, rfl⟩
      obtain ⟨y, hy⟩ : ∃ y, c.getD (ca S wd k) 0 = y := ⟨_, rfl⟩
      obtain ⟨I, hI⟩ : ∃ I, ca S wd k = I := ⟨_, rfl⟩
      have HN : Hid (minF c S wd N (k + 1) = min m y) := Lib.hid (by rw [minF, hm, hy])
      rw [hm]
      rw [hy] at hc2
      rw [hI] at hc2 hci ⊢
      clear hm hy hI HVr HW hb10
      subst hao
      go_wp2_with fail
      go_roundw
      case rel => exact ⟨k + 1, by omega, by go_num, by rw [HN.out]; exact congrArg _ (min_if m y), HW10⟩
      case measure => simp [intOf]; omega
    · obtain rfl : k = d := by omega
      have hM : minF c S wd N k = cc := HCC.out.symm
      rw [hM]
      have t4 : (cc != cc) = false := by simp
      clear hM
      by_cases hneg : nn < 0
      · obtain ⟨rfl, rfl, rfl, rfl, rfl⟩ := part4 HAD.out (add_neg HK1.out hneg)
        obtain ⟨⟨y0, y1, y2, y3⟩, -⟩ := box4 ((HW.out.bel.block _ hlt8).trans QB8.out)
        have hWB := HW.out.bel
        rw [← HBASE.out] at hWB
        go_wp2_with fail
        refine (same_any _ _ 0 0 0 [] _ (HB8.out.below hWB) (skZero _)).mono ?_
        rintro e w9 ⟨rfl, hb9⟩
        have hfin := hB8.trans ((hWB.mono hB8.size).trans (hb9.mono (Nat.le_trans hB8.size hWB.size)))
        go_wp2_with fail
        go_ret
        exact ⟨rfl, hfin⟩
      by_cases hmuch : 1152921504606846976 - N < nn
      · obtain ⟨rfl, rfl, rfl, rfl, rfl⟩ := part4 HAD.out (add_much HK1.out hneg hmuch)
        obtain ⟨⟨y0, y1, y2, y3⟩, -⟩ := box4 ((HW.out.bel.block _ hlt8).trans QB8.out)
        have hWB := HW.out.bel
        rw [← HBASE.out] at hWB
        go_wp2_with fail
        refine (same_any _ _ 0 0 0 [] _ (HB8.out.below hWB) (skZero _)).mono ?_
        rintro e w9 ⟨rfl, hb9⟩
        have hfin := hB8.trans ((hWB.mono hB8.size).trans (hb9.mono (Nat.le_trans hB8.size hWB.size)))
        go_wp2_with fail
        go_ret
        exact ⟨rfl, hfin⟩
      obtain ⟨rfl, rfl, hbc, rfl, rfl⟩ := part4 HAD.out (add_ok HK1.out hneg hmuch)
      have HBC := Lib.hid hbc
      have HM2 := Lib.hid (HW.out.more (N2 := N + nn))
      obtain ⟨⟨y0, y1, y2, y3⟩, ⟨f0, f1, f2, f3⟩⟩ := box4 HW.out.boxW
      clear hbc HW
      go_upto_region 29 with (fail)
      refine wp_abs (fun wx => WtAt bw base k wd (N + nn) c S nn n 0 g cap w8 wx) HM2.out ?_
      rintro wE hE
      have HE := Lib.hid hE
      clear hE HM2 x0 x1 x2 x3 y0 y1 y2 y3 f0 f1 f2 f3
      obtain ⟨⟨x0, x1, x2, x3⟩, -⟩ := box4 ((HE.out.bel.block _ hltB8).trans Q8.out)
      go_wp2_with fail
      go_loopw [22, 167] (fun _ i wx => ∃ j : Nat, j ≤ k ∧ i = .int .i64 j ∧ Hid (WtAt bw base k wd (N + nn) c S nn n j g cap w8 wx)) (fun _ i _ => k - (intOf i).toNat)
      case atStart => exact ⟨0, by omega, rfl, HE⟩
      case round =>
        clear x0 x1 x2 x3 HE
        obtain ⟨j, hj, rfl, HW⟩ := hrel
        obtain ⟨⟨x0, x1, x2, x3⟩, -⟩ := box4 ((HW.out.bel.block _ hltB8).trans Q8.out)
        obtain ⟨⟨y0, y1, y2, y3⟩, -⟩ := box4 HW.out.boxW
        by_cases hlt : j < k
        · have hdr : Below wr.heap.size wr wr.drew := (Below.refl _ _).drew
          have HWd := Lib.hid (HW.out.below HBASE.out hdr)
          have HVr := Lib.hid (HV8.out.below (by rw [HBASE.out]; exact HWd.out.bel))
          have hci : ca S wd j < n := by rw [HNL.out]; exact ca_lt S (by omega) hlt
          obtain ⟨y, hy⟩ : ∃ y, (adF c S wd nn j).getD (ca S wd j) 0 = y := ⟨_, rfl⟩
          obtain ⟨I, hI⟩ : ∃ I, ca S wd j = I := ⟨_, rfl⟩
          have HY := Lib.hid hy
          have HI := Lib.hid hI
          rw [hI] at hci
          have HCALL := cellof_any _ k wd j N c S _ HVr.out (by omega) (by omega) (by omega) hlt hS
          rw [hI] at HCALL
          have HCA := Lib.hid HCALL
          clear hy hI HCALL
          go_upto_region 32 with (fail)
          go_region_law (first
            | (go_simp; go_at_call 63; refine HCA.out.mono ?_; rintro e w11 ⟨rfl, hb11⟩; have HW11 := Lib.hid (HWd.out.below HBASE.out hb11); obtain ⟨⟨z0, z1, z2, z3⟩, -⟩ := box4 HW11.out.boxW; obtain ⟨⟨s0, s1, s2, s3⟩, -⟩ := box4 ((HW11.out.bel.block _ hltB8).trans Q8.out); obtain ⟨hcl, hfz⟩ := HW11.out.cell hci; rw [← HI.out, HY.out, HI.out] at hcl))
          all_goals
            obtain ⟨z, hz⟩ : ∃ z, IntKind.i64.wrap (y + nn) = z := ⟨_, rfl⟩
            have HN := Lib.hid (HW11.out.step HI.out (z := z) (by rw [← HI.out, HY.out]; exact hz))
            rw [hz]
            clear hcl hfz hz
            go_wp2_with fail
            go_roundw
          all_goals first
            | exact ⟨j + 1, by omega, by go_num, HN⟩
            | (simp [intOf]; omega)
        · obtain rfl : j = k := by omega
          have hWB := HW.out.bel
          rw [← HBASE.out] at hWB
          obtain ⟨⟨z0, z1, z2, z3⟩, -⟩ := box4 ((HW.out.bel.block _ hlt8).trans QB8.out)
          have HBx := HB8.out.below hWB
          rw [HBC.out] at HBx
          have HBX := Lib.hid HBx
          have HSW := Lib.hid (HW.out.sk HWF.out hn16 (by omega) (by omega) (by omega))
          clear HBx
          go_wp2_with fail
          refine (same_any _ _ j wd (N + nn) (adF c S wd nn j) _ HBX.out HSW.out).mono ?_
          rintro e w9 ⟨rfl, hb9⟩
          have hfin := hB8.trans ((hWB.mono hB8.size).trans (hb9.mono (Nat.le_trans hB8.size hWB.size)))
          go_wp2_with fail
          go_ret
          exact ⟨rfl, hfin⟩
end Go.Proofs.Ytmbmognhbljliaa.SketchTells
