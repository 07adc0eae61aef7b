/-
  The walk of sketch.Add.
-/
import Derived.Test.YtmbmognhbljliaaSkCount
namespace Go.Proofs.Ytmbmognhbljliaa.Sk
open Go.RowKit Go.Gh
set_option linter.unusedVariables false
def adF (c : List Int) (S : ByteArray) (W : Nat) (nn : Int) : Nat → List Int
  | 0 => c
  | k + 1 => (adF c S W nn k).set (ca S W k) (wrS ((adF c S W nn k).getD (ca S W k) 0 + nn))
theorem adF_len (c : List Int) (S : ByteArray) (W : Nat) (nn : Int) (k : Nat) : (adF c S W nn k).length = c.length := by
  induction k with
  | zero => rfl
  | succ k ih => rw [adF, List.length_set, ih]
theorem adF_wf {c : List Int} (h : ∀ z ∈ c, (Lit.int .i64 z).wf = true) (S : ByteArray) (W : Nat) (nn : Int) (k : Nat) : ∀ z ∈ adF c S W nn k, (Lit.int .i64 z).wf = true := by
  induction k with
  | zero => exact h
  | succ k ih =>
    intro z hz
    rw [adF] at hz
    rcases List.mem_or_eq_of_mem_set hz with h' | rfl
    · exact ih z h'
    · exact wrS_wf _
def addR (D W : Int) (c : List Int) (N : Int) (S : ByteArray) (nn : Int) : Sk4 × Int :=
  if skF D W c N = 0 then if nn < 0 then (zeroSk, 1) else if 1152921504606846976 - N < nn then (zeroSk, 2) else ((D, W, adF c S W.toNat nn D.toNat, N + nn), 0) else (zeroSk, 4)
theorem add_bad {D W : Int} {c : List Int} {N : Int} {S : ByteArray} {nn e : Int} (h : skF D W c N = e) (he : e ≠ 0) : addR D W c N S nn = (zeroSk, e) := by
  unfold addR
  rw [if_neg (by rw [h]; exact he)]
  rcases sk_four D W c N with h' | h' <;> rw [h'] at h
  · exact absurd h.symm he
  · rw [← h]
theorem add_neg {D W : Int} {c : List Int} {N : Int} {S : ByteArray} {nn : Int} (h : skF D W c N = 0) (hn : nn < 0) : addR D W c N S nn = (zeroSk, 1) := by
  unfold addR; rw [if_pos h, if_pos hn]
theorem add_much {D W : Int} {c : List Int} {N : Int} {S : ByteArray} {nn : Int} (h : skF D W c N = 0) (hn : ¬ nn < 0) (hm : 1152921504606846976 - N < nn) : addR D W c N S nn = (zeroSk, 2) := by
  unfold addR; rw [if_pos h, if_neg hn, if_pos hm]
theorem add_ok {d wd : Nat} {c : List Int} {N : Int} {S : ByteArray} {nn : Int} (h : skF d wd c N = 0) (hn : ¬ nn < 0) (hm : ¬ 1152921504606846976 - N < nn) : addR d wd c N S nn = (((d : Int), (wd : Int), adF c S wd nn d, N + nn), 0) := by
  unfold addR; rw [if_pos h, if_neg hn, if_neg hm, Int.toNat_natCast, Int.toNat_natCast]; rfl
/-- How far the adding has come: the row, the two blocks, the list of cells. -/
structure AddAt (B : Nat) (d wd : Nat) (N' : Int) (c : List Int) (S : ByteArray) (nn : Int) (n k g cap base base2 : Nat) (u : Value) (w wr : World) : Prop where
  own : wr.ownsRow base 2 1 (.slice (some ⟨g, 0, none⟩) n cap) n ((adF c S wd nn k).map (Value.int .i64))
  boxA : wr.heap[B]? = some (.cells #[.int .i64 d, .int .i64 wd, .slice (some ⟨g, 0, none⟩) n cap, .int .i64 N'] 66 (0, 0))
  boxR : wr.heap[B + 1]? = some (.cells #[.int .i64 0, .int .i64 0, .slice none 0 0, .int .i64 0] 66 (0, 0))
  lst : wr.ownsRow base2 3 1 u d ((caL S wd d).map (Value.int .i64))
  bel : Below B w wr
theorem AddAt.step {B d wd : Nat} {N' : Int} {c : List Int} {S : ByteArray} {nn : Int} {n k g cap base base2 : Nat} {u : Value} {w wr : World} (h : AddAt B d wd N' c S nn n k g cap base base2 u w wr) (hB : B + 1 < base) (hg2 : g < base2) {z : Int} {i : Nat} (hi : ca S wd k = i) (hz : wrS ((adF c S wd nn k).getD i 0 + nn) = z) :
    AddAt B d wd N' c S nn n (k + 1) g cap base base2 u w (wr.setCell ⟨g, i, none⟩ (.int .i64 z)) := by
  have hg : base ≤ g := (h.own.lt g rfl).1
  refine ⟨?_, row_setCell_other _ h.boxA (by omega), row_setCell_other _ h.boxR (by omega), ?_, h.bel.setCell (p := ⟨g, i, none⟩) (show B ≤ g by omega) _⟩
  · have := (h.own.stored i (.int .i64 z)).1
    rw [← List.map_set, ← hz, ← hi] at this
    rw [← hz, ← hi]
    exact this
  · refine ownsRow_setCell_other h.lst (a := ⟨g, i, none⟩) ?_ _
    intro h'
    have := (h.lst.lt _ h').1
    have h2 : (⟨g, i, none⟩ : Addr).block = g := rfl
    omega
theorem AddAt.cell {B d wd : Nat} {N' : Int} {c : List Int} {S : ByteArray} {nn : Int} {n k g cap base base2 : Nat} {u : Value} {w wr : World} (h : AddAt B d wd N' c S nn n k g cap base base2 u w wr) {i : Nat} (hi : i < n) (hl : c.length = n) :
    wr.cell? ⟨g, i, none⟩ = some (.int .i64 ((adF c S wd nn k).getD i 0)) ∧ wr.frozen? ⟨g, i, none⟩ = false := by
  refine ⟨?_, h.own.frozenAt _⟩
  rw [h.own.cellAt _ (by omega), List.getElem?_map, List.getD_eq_getElem?_getD, List.getElem?_eq_getElem (by rw [adF_len, hl]; exact hi)]
  rfl
set_option maxHeartbeats 4000000 in
set_option maxRecDepth 100000 in
theorem add_any (v : Value) (D W N : Int) (c : List Int) (S : ByteArray) (nn : Int) (w : World) (hv : SkV w v D W c N) (hS : S.size ≤ 140737488355328) (hnn : -9223372036854775808 ≤ nn ∧ nn < 9223372036854775808) :
    Calls Try.prog 59 #[v, .string S, .int .i64 nn] w (MgPost w (addR D W c N S nn)) := by
  have hv0 := hv
  obtain ⟨cv, n, rfl, hs, hl, hwf, hn, hD, hW, hN⟩ := hv
  obtain ⟨ao, cp, rfl, hnc, hcp, _⟩ := hs.shape
  obtain ⟨e1, he1⟩ : ∃ e, skF D W c N = e := ⟨_, rfl⟩
  have HE1 := Lib.hid he1
  have HL := Lib.hid hl
  have HWF := Lib.hid hwf
  clear hl he1 hwf
  go_enter Try.func59, Try.ntmps59
  go_upto_region 1 with (fail)
  refine wp_abs (fun wA => wA.heap[w.heap.size]? = some (.cells #[.int .i64 D, .int .i64 W, .slice ao n cp, .int .i64 N] 66 (0, 0)) ∧ wA.heap[w.heap.size + 1]? = some (.cells #[.int .i64 0, .int .i64 0, .slice none 0 0, .int .i64 0] 66 (0, 0)) ∧ Below w.heap.size w wA ∧ w.heap.size + 1 < wA.heap.size) ⟨two_first w _ _, two_second w _ _, ((Below.refl _ _).alloc (Nat.le_refl _) _).alloc (by simp) _, by simp⟩ ?_
  rintro wA ⟨hA0, hA2, hAb, hAs⟩
  have hAs0 : w.heap.size < wA.heap.size := by omega
  obtain ⟨⟨x0, x1, x2, x3⟩, -⟩ := box4 hA0
  by_cases hz : e1 = 0
  case neg =>
    have HF : Hid (addR D W c N S nn = (zeroSk, e1)) := Lib.hid (add_bad HE1.out hz)
    have t1 : (e1 != 0) = true := by rw [bne_iff_ne]; exact hz
    clear hz
    go_wp2_with fail
    refine (check_any _ D W N c _ (hv0.below hAb)).mono ?_
    rw [HE1.out]
    rintro e w1 ⟨rfl, hb1⟩
    have hB2 := hAb.trans (hb1.mono hAb.size)
    have z2 := (hb1.block _ hAs).trans hA2
    obtain ⟨⟨r0, r1, r2, r3⟩, ⟨f0, f1, f2, f3⟩⟩ := box4 z2
    have z3 := box4_store (.int .i64 0) (.int .i64 0) (.slice none 0 0) (.int .i64 0) z2
    obtain ⟨⟨s0, s1, s2, s3⟩, -⟩ := box4 z3
    have hB3 := box4_below (.int .i64 0) (.int .i64 0) (.slice none 0 0) (.int .i64 0) (show w.heap.size ≤ w.heap.size + 1 by omega) hB2
    go_wp2_with fail
    refine bodyPost_ret (v := .tuple #[.agg #[.int .i64 0, .int .i64 0, .slice none 0 0, .int .i64 0], .int .i64 e1]) (by simp [results, Try.results59, go_sem, s0, s1, s2, s3]) rfl ?_
    exact mg_zero HF.out hB3
  have hk1 := HE1.out.trans hz
  obtain ⟨⟨hd1, hd2, hd3, hd4⟩, hdl, hd5, hd6⟩ := head_of hk1
  rw [HL.out] at hdl
  obtain ⟨d, rfl⟩ : ∃ d : Nat, D = d := ⟨D.toNat, by omega⟩
  obtain ⟨wd, rfl⟩ : ∃ d : Nat, W = d := ⟨W.toNat, by omega⟩
  have hnL : n = d * wd := by
    rw [← Int.natCast_mul] at hdl
    omega
  have hn16 : n ≤ 1600 := by rw [hnL]; exact Nat.mul_le_mul (show d ≤ 8 by omega) (show wd ≤ 200 by omega)
  have hn0 : 0 < n := by rw [hnL]; exact Nat.mul_pos (show 0 < d by omega) (show 0 < wd by omega)
  have HNL := Lib.hid hnL
  have HK1 := Lib.hid hk1
  have t1 : (e1 != 0) = false := by rw [hz]; rfl
  clear hz hk1 hnL hdl
  go_wp2_with fail
  refine (check_any _ d wd N c _ (hv0.below hAb)).mono ?_
  rw [HE1.out]
  rintro e w1 ⟨rfl, hb1⟩
  have hB1 := hAb.trans (hb1.mono hAb.size)
  have hA1 := (hb1.block _ hAs0).trans hA0
  have hR1 := (hb1.block _ hAs).trans hA2
  have hs1 : w.heap.size + 1 < w1.heap.size := Nat.lt_of_lt_of_le hAs hb1.size
  clear x0 x1 x2 x3 hA0 hA2 hb1 hAb hAs hAs0
  obtain ⟨⟨x0, x1, x2, x3⟩, ⟨g0, g1, g2, g3⟩⟩ := box4 hA1
  by_cases hneg : nn < 0
  · have HF : Hid (addR d wd c N S nn = (zeroSk, 1)) := Lib.hid (add_neg HK1.out hneg)
    obtain ⟨⟨r0, r1, r2, r3⟩, ⟨f0, f1, f2, f3⟩⟩ := box4 hR1
    have z3 := box4_store (.int .i64 0) (.int .i64 0) (.slice none 0 0) (.int .i64 0) hR1
    obtain ⟨⟨s0, s1, s2, s3⟩, -⟩ := box4 z3
    have hB3 := box4_below (.int .i64 0) (.int .i64 0) (.slice none 0 0) (.int .i64 0) (show w.heap.size ≤ w.heap.size + 1 by omega) hB1
    go_wp2_with fail
    refine bodyPost_ret (v := .tuple #[.agg #[.int .i64 0, .int .i64 0, .slice none 0 0, .int .i64 0], .int .i64 1]) (by simp [results, Try.results59, go_sem, s0, s1, s2, s3]) rfl ?_
    exact mg_zero HF.out hB3
  by_cases hmuch : 1152921504606846976 - N < nn
  · have HF : Hid (addR d wd c N S nn = (zeroSk, 2)) := Lib.hid (add_much HK1.out hneg hmuch)
    obtain ⟨⟨r0, r1, r2, r3⟩, ⟨f0, f1, f2, f3⟩⟩ := box4 hR1
    have z3 := box4_store (.int .i64 0) (.int .i64 0) (.slice none 0 0) (.int .i64 0) hR1
    obtain ⟨⟨s0, s1, s2, s3⟩, -⟩ := box4 z3
    have hB3 := box4_below (.int .i64 0) (.int .i64 0) (.slice none 0 0) (.int .i64 0) (show w.heap.size ≤ w.heap.size + 1 by omega) hB1
    go_wp2_with fail
    refine bodyPost_ret (v := .tuple #[.agg #[.int .i64 0, .int .i64 0, .slice none 0 0, .int .i64 0], .int .i64 2]) (by simp [results, Try.results59, go_sem, s0, s1, s2, s3]) rfl ?_
    exact mg_zero HF.out hB3
  have HF : Hid (addR d wd c N S nn = (((d : Int), (wd : Int), adF c S wd nn d, N + nn), 0)) := Lib.hid (add_ok HK1.out hneg hmuch)
  go_wp2_with fail
  refine (clone_any _ n c _ (hs.below hB1) hn16).mono ?_
  rintro e w2 ⟨v1, rfl, hown1, hb2⟩
  obtain ⟨g, cap, rfl, hgb, hgl, hgc, hgc2, _⟩ := own_some hown1 hn0
  have p0 := (hb2.block w.heap.size (by omega)).trans hA1
  have p1 := (hb2.block (w.heap.size + 1) hs1).trans hR1
  have hB2 := hB1.trans (hb2.mono hB1.size)
  have hs2 := hb2.size
  clear x0 x1 x2 x3 g0 g1 g2 g3 hA1 hR1
  obtain ⟨⟨x0, x1, x2, x3⟩, ⟨g0, g1, g2, g3⟩⟩ := box4 p0
  have a0 := row_setCell 2 (.slice (some ⟨g, 0, none⟩) n cap) p0
  have a1 := row_setCell 3 (.int .i64 (N + nn)) a0
  obtain ⟨w3, hw3⟩ : ∃ w3, w3 = (w2.setCell ⟨w.heap.size, 2, none⟩ (.slice (some ⟨g, 0, none⟩) n cap)).setCell ⟨w.heap.size, 3, none⟩ (.int .i64 (N + nn)) := ⟨_, rfl⟩
  have b0 : w3.heap[w.heap.size]? = some (.cells #[.int .i64 d, .int .i64 wd, .slice (some ⟨g, 0, none⟩) n cap, .int .i64 (N + nn)] 66 (0, 0)) := by rw [hw3]; simpa using a1
  have b1 : w3.heap[w.heap.size + 1]? = some (.cells #[.int .i64 0, .int .i64 0, .slice none 0 0, .int .i64 0] 66 (0, 0)) := by rw [hw3]; exact row_setCell_other _ (row_setCell_other _ p1 (by omega)) (by omega)
  have hne : ∀ j, (Value.slice (some ⟨g, 0, none⟩) n cap).ownBlock ≠ some (⟨w.heap.size, j, none⟩ : Addr).block := by
    intro j h
    simp [Value.ownBlock] at h
    omega
  have b2 : w3.ownsRow w1.heap.size 2 1 (.slice (some ⟨g, 0, none⟩) n cap) n (c.map (Value.int .i64)) := by
    rw [hw3]
    exact ownsRow_setCell_other (ownsRow_setCell_other hown1 (a := ⟨w.heap.size, 2, none⟩) (hne 2) _) (a := ⟨w.heap.size, 3, none⟩) (hne 3) _
  have b3 : Below w.heap.size w w3 := by rw [hw3]; exact (hB2.setCell (p := ⟨w.heap.size, 2, none⟩) (Nat.le_refl _) _).setCell (p := ⟨w.heap.size, 3, none⟩) (Nat.le_refl _) _
  have b4 : w.heap.size + 1 < w3.heap.size := by
    have : w3.heap.size = w2.heap.size := by rw [hw3]; simp
    omega
  have HW3 := Lib.hid hw3
  have hsk3 : SkV w3 (.agg #[.int .i64 d, .int .i64 wd, .slice (some ⟨g, 0, none⟩) n cap, .int .i64 (N + nn)]) d wd c (N + nn) := ⟨_, n, rfl, own_sl b2, HL.out, HWF.out, by omega, hD, hW, by omega⟩
  have B0 := Lib.hid b0
  have B1 := Lib.hid b1
  have B2 := Lib.hid b2
  have B3 := Lib.hid b3
  have HSK := Lib.hid hsk3
  clear a0 a1 hne b0 b1 b2 b3 hown1 p0 p1 hsk3 hw3 hs
  go_upto_region 10 with (fail)
  rw [← HW3.out]
  clear HW3 x0 x1 x2 x3 g0 g1 g2 g3
  obtain ⟨⟨x0, x1, x2, x3⟩, -⟩ := box4 B0.out
  go_wp2_with fail
  refine (cells_any _ d wd (N + nn) c S _ HSK.out (by omega) (by omega) (by omega) hS).mono ?_
  rintro e w4 ⟨u, rfl, hown4, hb4⟩
  obtain ⟨uo, uc, rfl, hu1, hu2, _⟩ := own_shape hown4
  have HS0 : Hid (AddAt w.heap.size d wd (N + nn) c S nn n 0 g cap w1.heap.size w3.heap.size (.slice uo d uc) w w4) := Lib.hid ⟨own_below B2.out hb4, (hb4.block _ (by omega)).trans B0.out, (hb4.block _ b4).trans B1.out, hown4, B3.out.trans (hb4.mono B3.out.size)⟩
  have hg3 : g < w3.heap.size := (B2.out.lt g rfl).2
  obtain ⟨base, hbs⟩ : ∃ base, w1.heap.size = base := ⟨_, rfl⟩
  obtain ⟨base2, hbs2⟩ : ∃ base2, w3.heap.size = base2 := ⟨_, rfl⟩
  rw [hbs, hbs2] at HS0
  rw [hbs] at hs1
  rw [hbs2] at hg3
  clear x0 x1 x2 x3 B0 B1 B2 B3 HSK hb4 hown4 b4 hb2 hs2 hgb hgl hbs hbs2 hB1 hB2
  have HX := HS0.out.boxA
  obtain ⟨⟨x0, x1, x2, x3⟩, -⟩ := box4 HX
  clear HX
  go_wp2_with fail
  go_loopw [10, 41] (fun _ i wx => ∃ k : Nat, k ≤ d ∧ i = .int .i64 k ∧ Hid (AddAt w.heap.size d wd (N + nn) c S nn n k g cap base base2 (.slice uo d uc) w wx)) (fun _ i _ => d - (intOf i).toNat)
  case atStart => exact ⟨0, by omega, rfl, HS0⟩
  case round =>
    clear x0 x1 x2 x3
    obtain ⟨k, hk, rfl, HS⟩ := hrel
    obtain ⟨⟨x0, x1, x2, x3⟩, -⟩ := box4 HS.out.boxA
    by_cases hlt : k < d
    · obtain ⟨b1, off1, hu, hc1⟩ := (own_sl HS.out.lst).int (i := k) hlt
      rw [caL_get S wd hlt] at hc1
      have hci : ca S wd k < n := by rw [HNL.out]; exact ca_lt S (by omega) hlt
      obtain ⟨I, hI⟩ : ∃ I, ca S wd k = I := ⟨_, rfl⟩
      rw [hI] at hc1 hci
      obtain ⟨hc2, hf2⟩ := HS.out.cell hci HL.out
      obtain ⟨y, hy⟩ : ∃ y, (adF c S wd nn k).getD I 0 = y := ⟨_, rfl⟩
      obtain ⟨z, hz⟩ : ∃ z, wrap64 (y + nn) = z := ⟨_, rfl⟩
      have hz' : IntKind.i64.wrap (y + nn) = z := by rw [IntWalk.i64_left]; exact hz
      have HN : Hid (AddAt w.heap.size d wd (N + nn) c S nn n (k + 1) g cap base base2 (.slice uo d uc) w (wr.setCell ⟨g, I, none⟩ (.int .i64 z))) := Lib.hid (HS.out.step hs1 hg3 hI (by rw [hy]; exact hz'))
      rw [hy] at hc2
      subst hu
      clear hy hI
      go_wp2_with fail
      go_roundw
      case rel => exact ⟨k + 1, by omega, by go_num, HN⟩
      case measure => simp [intOf]; omega
    · obtain rfl : k = d := by omega
      have z2 := HS.out.boxR
      obtain ⟨⟨r0, r1, r2, r3⟩, ⟨f0, f1, f2, f3⟩⟩ := box4 z2
      have z3 := box4_store (.int .i64 k) (.int .i64 wd) (.slice (some ⟨g, 0, none⟩) n cap) (.int .i64 (N + nn)) z2
      obtain ⟨⟨s0, s1, s2, s3⟩, -⟩ := box4 z3
      have hB3 := box4_below (.int .i64 k) (.int .i64 wd) (.slice (some ⟨g, 0, none⟩) n cap) (.int .i64 (N + nn)) (show w.heap.size ≤ w.heap.size + 1 by omega) HS.out.bel
      have hrow := HS.out.own
      have hne : (Value.slice (some ⟨g, 0, none⟩) n cap).ownBlock ≠ some (w.heap.size + 1) := by
        intro h
        have := (hrow.lt _ h).1
        omega
      have hrow2 := ownsRow_setCell_other (ownsRow_setCell_other (ownsRow_setCell_other (ownsRow_setCell_other hrow (a := ⟨w.heap.size + 1, 0, none⟩) hne (.int .i64 k)) (a := ⟨w.heap.size + 1, 1, none⟩) hne (.int .i64 wd)) (a := ⟨w.heap.size + 1, 2, none⟩) hne (.slice (some ⟨g, 0, none⟩) n cap)) (a := ⟨w.heap.size + 1, 3, none⟩) hne (.int .i64 (N + nn))
      have HROW := Lib.hid (own_sl hrow2)
      clear hrow hrow2 z2 z3
      go_wp2_with fail
      refine bodyPost_ret (v := .tuple #[.agg #[.int .i64 k, .int .i64 wd, .slice (some ⟨g, 0, none⟩) n cap, .int .i64 (N + nn)], .int .i64 0]) (by simp [results, Try.results59, go_sem, s0, s1, s2, s3]) rfl ?_
      show MgPost _ _ _ _
      rw [HF.out]
      exact ⟨_, rfl, ⟨_, n, rfl, HROW.out, by show (adF c S wd nn k).length = n; rw [adF_len, HL.out], adF_wf HWF.out S wd nn k, by omega, hD, hW, by show _ ≤ N + nn ∧ N + nn < _; omega⟩, hB3⟩
end Go.Proofs.Ytmbmognhbljliaa.Sk
