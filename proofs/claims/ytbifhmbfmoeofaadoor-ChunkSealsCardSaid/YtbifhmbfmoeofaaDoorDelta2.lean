/-
  The walk of delta.Pack.
-/
import Derived.Test.YtbifhmbfmoeofaaDoorDelta1
import Derived.Test.YtbifhmbfmoeofaaDoorWriter
namespace Go.Proofs.YtbifhmbfmoeofaaDoor.Delta
open Go.RowKit Go.Gh Go.Proofs.YtbifhmbfmoeofaaDoor.Bits
set_option linter.unusedVariables false

/-- What the table of widths holds. -/
def Table (w : World) : Prop := 0 < w.heap.size ∧
  (w.cell? ⟨0, 0, none⟩ = some (.int .u64 0) ∧ w.cell? ⟨0, 1, none⟩ = some (.int .i64 1) ∧ w.cell? ⟨0, 2, none⟩ = some (.int .i64 0)) ∧
  (w.cell? ⟨0, 3, none⟩ = some (.int .u64 2) ∧ w.cell? ⟨0, 4, none⟩ = some (.int .i64 2) ∧ w.cell? ⟨0, 5, none⟩ = some (.int .i64 7)) ∧
  (w.cell? ⟨0, 6, none⟩ = some (.int .u64 6) ∧ w.cell? ⟨0, 7, none⟩ = some (.int .i64 3) ∧ w.cell? ⟨0, 8, none⟩ = some (.int .i64 9)) ∧
  (w.cell? ⟨0, 9, none⟩ = some (.int .u64 14) ∧ w.cell? ⟨0, 10, none⟩ = some (.int .i64 4) ∧ w.cell? ⟨0, 11, none⟩ = some (.int .i64 12)) ∧
  (w.cell? ⟨0, 12, none⟩ = some (.int .u64 15) ∧ w.cell? ⟨0, 13, none⟩ = some (.int .i64 4) ∧ w.cell? ⟨0, 14, none⟩ = some (.int .i64 64))
theorem Table.below {w w' : World} (h : Table w) (hb : Below w.heap.size w w') : Table w' := by
  obtain ⟨h0, ⟨a0, a1, a2⟩, ⟨b0, b1, b2⟩, ⟨c0, c1, c2⟩, ⟨d0, d1, d2⟩, e0, e1, e2⟩ := h
  have t : ∀ i u, w.cell? ⟨0, i, none⟩ = some u → w'.cell? ⟨0, i, none⟩ = some u := fun i u hu => (hb.cell (p := ⟨0, i, none⟩) h0).trans hu
  exact ⟨Nat.lt_of_lt_of_le h0 hb.size, ⟨t _ _ a0, t _ _ a1, t _ _ a2⟩, ⟨t _ _ b0, t _ _ b1, t _ _ b2⟩, ⟨t _ _ c0, t _ _ c1, t _ _ c2⟩, ⟨t _ _ d0, t _ _ d1, t _ _ d2⟩, t _ _ e0, t _ _ e1, t _ _ e2⟩
def mkOf : Nat → Int
  | 0 => 0 | 1 => 2 | 2 => 6 | 3 => 14 | _ => 15
def lnOf : Nat → Nat
  | 0 => 1 | 1 => 2 | 2 => 3 | 3 => 4 | _ => 4
def anOf : Nat → Nat
  | 0 => 0 | 1 => 7 | 2 => 9 | 3 => 12 | _ => 64
theorem chFit {C : Int} (j : Nat) (h : ∀ i, i < j → ¬ fitN C i) (hj : fitN C j) (hj4 : j ≤ 4) : chBits C = signs (mkOf j) (lnOf j) ++ signs (wU C) (anOf j) := by
  have s2 : signs 2 2 = [true, false] := by decide
  have s6 : signs 6 3 = [true, true, false] := by decide
  have s14 : signs 14 4 = [true, true, true, false] := by decide
  have s15 : signs 15 4 = [true, true, true, true] := by decide
  have s0 : signs 0 1 = [false] := by decide
  obtain rfl | rfl | rfl | rfl | rfl : j = 0 ∨ j = 1 ∨ j = 2 ∨ j = 3 ∨ j = 4 := by omega
  · rw [ch0 hj]; simp [s0, signs, mkOf, lnOf, anOf]
  · have h0 : ¬ C = 0 := h 0 (by omega)
    rw [ch1 h0 hj]; simp [s2, mkOf, lnOf, anOf]
  · have h0 : ¬ C = 0 := h 0 (by omega)
    have h1 : ¬ (-64 ≤ C ∧ C ≤ 63) := h 1 (by omega)
    rw [ch2 h0 h1 hj]; simp [s6, mkOf, lnOf, anOf]
  · have h0 : ¬ C = 0 := h 0 (by omega)
    have h1 : ¬ (-64 ≤ C ∧ C ≤ 63) := h 1 (by omega)
    have h2 : ¬ (-256 ≤ C ∧ C ≤ 255) := h 2 (by omega)
    rw [ch3 h0 h1 h2 hj]; simp [s14, mkOf, lnOf, anOf]
  · have h0 : ¬ C = 0 := h 0 (by omega)
    have h1 : ¬ (-64 ≤ C ∧ C ≤ 63) := h 1 (by omega)
    have h2 : ¬ (-256 ≤ C ∧ C ≤ 255) := h 2 (by omega)
    have h3 : ¬ (-2048 ≤ C ∧ C ≤ 2047) := h 3 (by omega)
    rw [ch4 h0 h1 h2 h3]; simp [s15, mkOf, lnOf, anOf]
theorem index0 (w : World) : (Instr.index 78 (.agg #[.int .u64 0, .int .i64 1, .int .i64 0, .int .u64 2, .int .i64 2, .int .i64 7, .int .u64 6, .int .i64 3, .int .i64 9, .int .u64 14, .int .i64 4, .int .i64 12, .int .u64 15, .int .i64 4, .int .i64 64]) (.int .i64 0)).run Tryd.prog w = .ok (.agg #[.int .u64 0, .int .i64 1, .int .i64 0]) w := by kernel_rfl
theorem index1 (w : World) : (Instr.index 78 (.agg #[.int .u64 0, .int .i64 1, .int .i64 0, .int .u64 2, .int .i64 2, .int .i64 7, .int .u64 6, .int .i64 3, .int .i64 9, .int .u64 14, .int .i64 4, .int .i64 12, .int .u64 15, .int .i64 4, .int .i64 64]) (.int .i64 1)).run Tryd.prog w = .ok (.agg #[.int .u64 2, .int .i64 2, .int .i64 7]) w := by kernel_rfl
theorem index2 (w : World) : (Instr.index 78 (.agg #[.int .u64 0, .int .i64 1, .int .i64 0, .int .u64 2, .int .i64 2, .int .i64 7, .int .u64 6, .int .i64 3, .int .i64 9, .int .u64 14, .int .i64 4, .int .i64 12, .int .u64 15, .int .i64 4, .int .i64 64]) (.int .i64 2)).run Tryd.prog w = .ok (.agg #[.int .u64 6, .int .i64 3, .int .i64 9]) w := by kernel_rfl
theorem index3 (w : World) : (Instr.index 78 (.agg #[.int .u64 0, .int .i64 1, .int .i64 0, .int .u64 2, .int .i64 2, .int .i64 7, .int .u64 6, .int .i64 3, .int .i64 9, .int .u64 14, .int .i64 4, .int .i64 12, .int .u64 15, .int .i64 4, .int .i64 64]) (.int .i64 3)).run Tryd.prog w = .ok (.agg #[.int .u64 14, .int .i64 4, .int .i64 12]) w := by kernel_rfl
theorem index4 (w : World) : (Instr.index 78 (.agg #[.int .u64 0, .int .i64 1, .int .i64 0, .int .u64 2, .int .i64 2, .int .i64 7, .int .u64 6, .int .i64 3, .int .i64 9, .int .u64 14, .int .i64 4, .int .i64 12, .int .u64 15, .int .i64 4, .int .i64 64]) (.int .i64 4)).run Tryd.prog w = .ok (.agg #[.int .u64 15, .int .i64 4, .int .i64 64]) w := by kernel_rfl
def PackPost (w : World) (s : List Bool) (e : Ending) (w' : World) : Prop := ∃ v, e = .returned (.tuple #[.agg #[v, .int .i64 s.length], .int .i64 0]) ∧ w'.ownsRow (w.heap.size + 1) 5 1 v (pack s).length ((pack s).map (Value.int .u8)) ∧ Below w.heap.size w w'
theorem winv_below {w w' : World} {B wb : Nat} {s : List Bool} (h : WInv w B wb s) (hb : Below w.heap.size w w') : WInv w' B wb s := by
  obtain ⟨v, h1, h2⟩ := h
  exact ⟨v, (hb.block wb (Array.getElem?_eq_some_iff.1 h1).1).trans h1, own_below h2 hb⟩
theorem cells3 {w : World} {B : Nat} {T : TypeId} {a b c : Value} (h : w.heap[B]? = some (.cells #[a, b, c] T (0, 0))) : w.cell? ⟨B, 0, none⟩ = some a ∧ w.cell? ⟨B, 1, none⟩ = some b ∧ w.cell? ⟨B, 2, none⟩ = some c :=
  ⟨(row_cell 0 _ h rfl).1, (row_cell 1 _ h rfl).1, (row_cell 2 _ h rfl).1⟩
theorem box2 {w : World} {B : Nat} {T : TypeId} {a b : Value} (h : w.heap[B]? = some (.cells #[a, b] T (0, 0))) : (w.cell? ⟨B, 0, none⟩ = some a ∧ w.cell? ⟨B, 1, none⟩ = some b) ∧ (w.frozen? ⟨B, 0, none⟩ = false ∧ w.frozen? ⟨B, 1, none⟩ = false) :=
  ⟨⟨(row_cell 0 _ h rfl).1, (row_cell 1 _ h rfl).1⟩, ⟨(row_cell 0 a h rfl).2, (row_cell 1 b h rfl).2⟩⟩
theorem box2_store {w : World} {B : Nat} {T : TypeId} {a b : Value} (x0 x1 : Value) (h : w.heap[B]? = some (.cells #[a, b] T (0, 0))) : ((w.setCell ⟨B, 0, none⟩ x0).setCell ⟨B, 1, none⟩ x1).heap[B]? = some (.cells #[x0, x1] T (0, 0)) := by
  have h0 := row_setCell 0 x0 h
  have h1 := row_setCell 1 x1 h0
  simpa using h1
set_option maxHeartbeats 8000000 in
set_option maxRecDepth 100000 in
theorem pack_any (v : Value) (n : Nat) (l : List Int) (w : World) (hs : Sl w 1 v n (l.map (Value.int .i64))) (hl : l.length = n) (hwf : ∀ z ∈ l, (Lit.int .i64 z).wf = true) (hn : n ≤ 1000) (hT : Table w) :
    Calls Tryd.prog 17 #[v] w (PackPost w (tsTo l n)) := by
  obtain ⟨ao, c, rfl, hnc, hc, _⟩ := hs.shape
  have HL := Lib.hid hl
  have HWF := Lib.hid hwf
  have H0 : Hid (tsTo l 0 = [] ++ signs (n : Int) 16) := by show _ = _; rw [ts_zero, hl]; rfl
  clear hl hwf
  go_enter Tryd.func17, Tryd.ntmps17
  go_wp2_with fail
  obtain ⟨wA, hwA⟩ : ∃ wA, wA = (w.alloc (Obj.cells #[.slice none 0 0, .int .i64 0] 39)).alloc (Obj.cells #[.slice none 0 0, .int .i64 0] 74) := ⟨_, rfl⟩
  have hAs : wA.heap.size = w.heap.size + 1 + 1 := by rw [hwA]; simp
  have hAb : Below w.heap.size w wA := by rw [hwA]; exact ((Below.refl _ w).alloc (Nat.le_refl _) _).alloc (by simp) _
  have hA0 : wA.heap[w.heap.size]? = some (.cells #[.slice none 0 0, .int .i64 0] 39 (0, 0)) := by rw [hwA]; exact two_first w _ _
  have hA1 : wA.heap[w.heap.size + 1]? = some (.cells #[.slice none 0 0, .int .i64 0] 74 (0, 0)) := by rw [hwA]; exact two_second w _ _
  have hinv0 : WInv wA (w.heap.size + 1) (w.heap.size + 1) [] := ⟨.slice none 0 0, hA1, World.ownsRow_nil _ _ _ _⟩
  rw [← hwA]
  have HAS := Lib.hid hAs
  clear hwA hAs hA1
  refine (wput_any (n : Int) 16 [] (w.heap.size + 1) (w.heap.size + 1) _ (by omega) (by omega) (by decide) (by simp) (Nat.le_refl _) hinv0).mono ?_
  rintro e w1 ⟨rfl, hi1, hb1, _⟩
  rw [← H0.out] at hi1
  go_wp2_with fail
  have hBW : Below w.heap.size w w1 := hAb.trans (hb1.mono (by omega))
  have HI0 := Lib.hid hi1
  have HB0 := Lib.hid hb1
  clear hi1 hinv0
  go_loopw [5, 6, 7, 8, 9, 11, 22] (fun ul us _ _ _ _ i wr => ∃ (k : Nat) (L ST : Int), k ≤ n ∧ i = .int .i64 k ∧ ul = .int .i64 L ∧ us = .int .i64 ST ∧ Hid (L = if k = 0 then 0 else l.getD (k - 1) 0) ∧ Hid (ST = stepAt l k) ∧ Hid (WInv wr (w.heap.size + 1) (w.heap.size + 1) (tsTo l k)) ∧ Hid (Below (w.heap.size + 1) wA wr)) (fun _ _ _ _ _ _ i _ => n - (intOf i).toNat)
  case atStart => exact ⟨0, 0, 0, by omega, rfl, rfl, rfl, Lib.hid rfl, Lib.hid rfl, HI0, HB0⟩
  case round =>
    obtain ⟨k, L, ST, hk, rfl, rfl, rfl, HLL, HSS, HI, HB⟩ := hrel
    have hbel : Below w.heap.size w wr := hAb.trans (HB.out.mono (by omega))
    by_cases hlt : k < n
    · obtain ⟨b, off, rfl, hck⟩ := (hs.below hbel).int (i := k) hlt
      have hk1 : k < l.length := by rw [HL.out]; exact hlt
      have hwk := wf_i64 (HWF.out (l.getD k 0) (by rw [List.getD_eq_getElem?_getD, List.getElem?_eq_getElem hk1]; exact List.getElem_mem _))
      obtain ⟨t, ht⟩ : ∃ t, l.getD k 0 = t := ⟨_, rfl⟩
      rw [ht] at hck hwk
      have HT := Lib.hid ht
      have HTL : Hid ((tsTo l k).length ≤ 1000000) := by show _ ≤ _; have := ts_len l k; omega
      have HWK := Lib.hid hwk
      clear ht hk1 hwk hbel
      by_cases h0 : k = 0
      · have HCF : Hid (tsTo l (k + 1) = tsTo l k ++ signs (wU t) 64) := by
          show _ = _
          have h2 := HT.out
          subst h0
          rw [ts_first, h2]
        have HSN : Hid (ST = stepAt l (k + 1)) := by
          show _ = _
          rw [HSS.out]
          subst h0
          rfl
        have HLN : Hid (t = if k + 1 = 0 then 0 else l.getD (k + 1 - 1) 0) := by
          show _ = _
          rw [if_neg (by omega), Nat.add_sub_cancel, HT.out]
        have e0 : ((k : Int) == 0) = true := by rw [h0]; rfl
        clear h0
        go_wp2_with fail
        refine (wput_any (wU t) 64 (tsTo l k) (w.heap.size + 1) (w.heap.size + 1) _ (wU_bd t).1 (wU_bd t).2 (by decide) HTL.out (Nat.le_refl _) HI.out).mono ?_
        rintro e w2 ⟨rfl, hi2, hb2, _⟩
        rw [← HCF.out] at hi2
        have HW2 := Lib.hid hi2
        have HB2 := Lib.hid (HB.out.trans hb2)
        clear hi2 hb2
        go_wp2_with fail
        go_roundw
        case rel => exact ⟨k + 1, t, ST, by omega, by go_num, rfl, rfl, HLN, HSN, HW2, HB2⟩
        case measure => simp [intOf]; omega
      · obtain ⟨j, hkj⟩ : ∃ j, k = j + 1 := ⟨k - 1, by omega⟩
        have hLj : L = l.getD j 0 := by
          have := HLL.out
          rwa [if_neg h0, hkj, Nat.add_sub_cancel] at this
        obtain ⟨ST', hST⟩ : ∃ z, wrap64 (t - L) = z := ⟨_, rfl⟩
        obtain ⟨C, hC⟩ : ∃ z, wrap64 (ST' - ST) = z := ⟨_, rfl⟩
        have HCH : Hid (chAt l k = C) := by
          show _ = _
          have h1 := HT.out
          have h2 := HSS.out
          subst hkj
          unfold chAt wI
          rw [h1, Nat.add_sub_cancel, ← hLj, ← h2, IntWalk.i64_left, IntWalk.i64_left, hST, hC]
        have HSN : Hid (ST' = stepAt l (k + 1)) := by
          show _ = _
          have h1 := HT.out
          subst hkj
          unfold stepAt wI
          rw [if_neg (by omega), Nat.add_sub_cancel, show j + 1 + 1 - 2 = j by omega, h1, ← hLj, IntWalk.i64_left, hST]
        have HLN : Hid (t = if k + 1 = 0 then 0 else l.getD (k + 1 - 1) 0) := by
          show _ = _
          rw [if_neg (by omega), Nat.add_sub_cancel, HT.out]
        have HNX : Hid (tsTo l (k + 1) = tsTo l k ++ chBits C) := by
          show _ = _
          have h1 := HCH.out
          subst hkj
          rw [ts_next, h1]
        have HCB : Hid (-9223372036854775808 ≤ C ∧ C < 9223372036854775808) := by
          show _ ∧ _
          rw [← hC]
          unfold wrap64
          omega
        have hTr := hT.below (hAb.trans (HB.out.mono (by omega)))
        have HTQ : Hid ((tsTo l k).length ≤ 100000) := by show _ ≤ _; have := ts_len l k; omega
        have e0 : ((k : Int) == 0) = false := beq_eq_false_iff_ne.2 (by omega)
        clear hLj h0 hkj
        obtain ⟨_, ⟨p0, p1, p2⟩, ⟨p3, p4, p5⟩, ⟨p6, p7, p8⟩, ⟨p9, p10, p11⟩, p12, p13, p14⟩ := hTr
        go_wp2_with fail
        rw [hST, hC]
        have HST := Lib.hid hST
        clear p0 p1 p2 p3 p4 p5 p6 p7 p8 p9 p10 p11 p12 p13 p14 hck hC hST
        go_loopw [11, 39] (fun _ i wz => ∃ j : Nat, j ≤ 4 ∧ i = .int .i64 j ∧ Hid (∀ i, i < j → ¬ fitN C i) ∧ Hid (WInv wz (w.heap.size + 1) (w.heap.size + 1) (tsTo l k)) ∧ Hid (Below (w.heap.size + 1) wA wz)) (fun _ i _ => 5 - (intOf i).toNat)
        case atStart => exact ⟨0, by omega, rfl, Lib.hid (fun i hi => by omega), HI, HB⟩
        case round =>
          obtain ⟨j, hj4, rfl, HNF, HIZ, HBZ⟩ := hrel
          have hszB : w.heap.size + 1 ≤ wr.heap.size := by have := HBZ.out.size; have := HAS.out; omega
          have hszC : w.heap.size + 1 < wr.heap.size := by have := HBZ.out.size; have := HAS.out; omega
          obtain rfl | rfl | rfl | rfl | rfl : j = 0 ∨ j = 1 ∨ j = 2 ∨ j = 3 ∨ j = 4 := by omega
          · have hidx := index0
            have hbX := HBZ.out.alloc hszB (Obj.cells #[.int .u64 0, .int .i64 1, .int .i64 0] 77)
            have hinvX := winv_below HIZ.out ((Below.refl _ wr).alloc (Nat.le_refl _) (Obj.cells #[.int .u64 0, .int .i64 1, .int .i64 0] 77))
            have hX := heap_alloc_new wr (Obj.cells #[.int .u64 0, .int .i64 1, .int .i64 0] 77)
            have hXl : (wr.alloc (Obj.cells #[.int .u64 0, .int .i64 1, .int .i64 0] 77)).heap.size = wr.heap.size + 1 := by simp
            by_cases hfit : fitN C 0
            · have HCF : Hid (tsTo l (k + 1) = (tsTo l k ++ signs 0 1) ++ signs (wU C) 0) := by
                show _ = _
                rw [HNX.out, chFit 0 HNF.out hfit (by decide), List.append_assoc]
                rfl
              have HFT : Hid (decide (fitN C 0) = true) := decide_eq_true hfit
              clear hfit
              go_wp2_with fail
              generalize hwX : wr.alloc (Obj.cells #[.int .u64 0, .int .i64 1, .int .i64 0] 77) = wX at *
              obtain ⟨bX, hbXe⟩ : ∃ bX, wr.heap.size = bX := ⟨_, rfl⟩
              have hbXB : w.heap.size + 1 < bX := by omega
              rw [hbXe] at hX hXl ⊢
              clear hwX hbXe
              refine (fits0 C _).mono ?_
              rw [HFT.out]
              rintro e w1 ⟨rfl, rfl⟩
              obtain ⟨x0, x1, x2⟩ := cells3 hX
              go_wp2_with fail
              refine (wput_any 0 1 (tsTo l k) (w.heap.size + 1) (w.heap.size + 1) _ (by decide) (by decide) (by decide) HTL.out (Nat.le_refl _) hinvX).mono ?_
              rintro e w3 ⟨rfl, hi1, hb1, hkp⟩
              have hX2 := hkp bX _ _ _ hX (by omega) (by decide)
              clear x0 x1 x2
              obtain ⟨x0, x1, x2⟩ := cells3 hX2
              go_wp2_with fail
              refine (wput_any (wU C) 0 _ (w.heap.size + 1) (w.heap.size + 1) _ (wU_bd C).1 (wU_bd C).2 (by decide) (by rw [List.length_append, signs_len]; have := HTL.out; have := HTQ.out; omega) (Nat.le_refl _) hi1).mono ?_
              rintro e w4 ⟨rfl, hi2, hb2, _⟩
              rw [← HCF.out] at hi2
              have HW2 := Lib.hid hi2
              have HB2 := Lib.hid ((hbX.trans hb1).trans hb2)
              clear hi1 hi2 hb1 hb2 hkp hX hX2 x0 x1 x2 hbX hinvX
              go_wp2_with fail
              go_roundw
              case rel => exact ⟨k + 1, t, ST', by omega, by go_num, rfl, by first | rfl | exact congrArg (Value.int .i64) HST.out, HLN, HSN, HW2, HB2⟩
              case measure => simp [intOf]; omega
            · have HFF : Hid (decide (fitN C 0) = false) := decide_eq_false hfit
              have HNF2 : Hid (∀ i, i < 0 + 1 → ¬ fitN C i) := Lib.hid (fun i hi => by
                rcases Nat.lt_or_eq_of_le (Nat.le_of_lt_succ hi) with h | h
                · exact HNF.out i h
                · rw [h]; exact hfit)
              have HIX := Lib.hid hinvX
              have HBX := Lib.hid hbX
              clear hfit hX hXl hinvX hbX
              go_wp2_with fail
              refine (fits0 C _).mono ?_
              rw [HFF.out]
              rintro e w1 ⟨rfl, rfl⟩
              go_wp2_with fail
              go_roundw
              case rel => exact ⟨0 + 1, by decide, by first | rfl | go_num, HNF2, HIX, HBX⟩
              case measure => simp [intOf]
          · have hidx := index1
            have hbX := HBZ.out.alloc hszB (Obj.cells #[.int .u64 2, .int .i64 2, .int .i64 7] 77)
            have hinvX := winv_below HIZ.out ((Below.refl _ wr).alloc (Nat.le_refl _) (Obj.cells #[.int .u64 2, .int .i64 2, .int .i64 7] 77))
            have hX := heap_alloc_new wr (Obj.cells #[.int .u64 2, .int .i64 2, .int .i64 7] 77)
            have hXl : (wr.alloc (Obj.cells #[.int .u64 2, .int .i64 2, .int .i64 7] 77)).heap.size = wr.heap.size + 1 := by simp
            by_cases hfit : fitN C 1
            · have HCF : Hid (tsTo l (k + 1) = (tsTo l k ++ signs 2 2) ++ signs (wU C) 7) := by
                show _ = _
                rw [HNX.out, chFit 1 HNF.out hfit (by decide), List.append_assoc]
                rfl
              have HFT : Hid (decide (fitN C 1) = true) := decide_eq_true hfit
              clear hfit
              go_wp2_with fail
              generalize hwX : wr.alloc (Obj.cells #[.int .u64 2, .int .i64 2, .int .i64 7] 77) = wX at *
              obtain ⟨bX, hbXe⟩ : ∃ bX, wr.heap.size = bX := ⟨_, rfl⟩
              have hbXB : w.heap.size + 1 < bX := by omega
              rw [hbXe] at hX hXl ⊢
              clear hwX hbXe
              refine (fits7 C HCB.out.1 HCB.out.2 _).mono ?_
              rw [HFT.out]
              rintro e w1 ⟨rfl, rfl⟩
              obtain ⟨x0, x1, x2⟩ := cells3 hX
              go_wp2_with fail
              refine (wput_any 2 2 (tsTo l k) (w.heap.size + 1) (w.heap.size + 1) _ (by decide) (by decide) (by decide) HTL.out (Nat.le_refl _) hinvX).mono ?_
              rintro e w3 ⟨rfl, hi1, hb1, hkp⟩
              have hX2 := hkp bX _ _ _ hX (by omega) (by decide)
              clear x0 x1 x2
              obtain ⟨x0, x1, x2⟩ := cells3 hX2
              go_wp2_with fail
              refine (wput_any (wU C) 7 _ (w.heap.size + 1) (w.heap.size + 1) _ (wU_bd C).1 (wU_bd C).2 (by decide) (by rw [List.length_append, signs_len]; have := HTL.out; have := HTQ.out; omega) (Nat.le_refl _) hi1).mono ?_
              rintro e w4 ⟨rfl, hi2, hb2, _⟩
              rw [← HCF.out] at hi2
              have HW2 := Lib.hid hi2
              have HB2 := Lib.hid ((hbX.trans hb1).trans hb2)
              clear hi1 hi2 hb1 hb2 hkp hX hX2 x0 x1 x2 hbX hinvX
              go_wp2_with fail
              go_roundw
              case rel => exact ⟨k + 1, t, ST', by omega, by go_num, rfl, by first | rfl | exact congrArg (Value.int .i64) HST.out, HLN, HSN, HW2, HB2⟩
              case measure => simp [intOf]; omega
            · have HFF : Hid (decide (fitN C 1) = false) := decide_eq_false hfit
              have HNF2 : Hid (∀ i, i < 1 + 1 → ¬ fitN C i) := Lib.hid (fun i hi => by
                rcases Nat.lt_or_eq_of_le (Nat.le_of_lt_succ hi) with h | h
                · exact HNF.out i h
                · rw [h]; exact hfit)
              have HIX := Lib.hid hinvX
              have HBX := Lib.hid hbX
              clear hfit hX hXl hinvX hbX
              go_wp2_with fail
              refine (fits7 C HCB.out.1 HCB.out.2 _).mono ?_
              rw [HFF.out]
              rintro e w1 ⟨rfl, rfl⟩
              go_wp2_with fail
              go_roundw
              case rel => exact ⟨1 + 1, by decide, by first | rfl | go_num, HNF2, HIX, HBX⟩
              case measure => simp [intOf]
          · have hidx := index2
            have hbX := HBZ.out.alloc hszB (Obj.cells #[.int .u64 6, .int .i64 3, .int .i64 9] 77)
            have hinvX := winv_below HIZ.out ((Below.refl _ wr).alloc (Nat.le_refl _) (Obj.cells #[.int .u64 6, .int .i64 3, .int .i64 9] 77))
            have hX := heap_alloc_new wr (Obj.cells #[.int .u64 6, .int .i64 3, .int .i64 9] 77)
            have hXl : (wr.alloc (Obj.cells #[.int .u64 6, .int .i64 3, .int .i64 9] 77)).heap.size = wr.heap.size + 1 := by simp
            by_cases hfit : fitN C 2
            · have HCF : Hid (tsTo l (k + 1) = (tsTo l k ++ signs 6 3) ++ signs (wU C) 9) := by
                show _ = _
                rw [HNX.out, chFit 2 HNF.out hfit (by decide), List.append_assoc]
                rfl
              have HFT : Hid (decide (fitN C 2) = true) := decide_eq_true hfit
              clear hfit
              go_wp2_with fail
              generalize hwX : wr.alloc (Obj.cells #[.int .u64 6, .int .i64 3, .int .i64 9] 77) = wX at *
              obtain ⟨bX, hbXe⟩ : ∃ bX, wr.heap.size = bX := ⟨_, rfl⟩
              have hbXB : w.heap.size + 1 < bX := by omega
              rw [hbXe] at hX hXl ⊢
              clear hwX hbXe
              refine (fits9 C HCB.out.1 HCB.out.2 _).mono ?_
              rw [HFT.out]
              rintro e w1 ⟨rfl, rfl⟩
              obtain ⟨x0, x1, x2⟩ := cells3 hX
              go_wp2_with fail
              refine (wput_any 6 3 (tsTo l k) (w.heap.size + 1) (w.heap.size + 1) _ (by decide) (by decide) (by decide) HTL.out (Nat.le_refl _) hinvX).mono ?_
              rintro e w3 ⟨rfl, hi1, hb1, hkp⟩
              have hX2 := hkp bX _ _ _ hX (by omega) (by decide)
              clear x0 x1 x2
              obtain ⟨x0, x1, x2⟩ := cells3 hX2
              go_wp2_with fail
              refine (wput_any (wU C) 9 _ (w.heap.size + 1) (w.heap.size + 1) _ (wU_bd C).1 (wU_bd C).2 (by decide) (by rw [List.length_append, signs_len]; have := HTL.out; have := HTQ.out; omega) (Nat.le_refl _) hi1).mono ?_
              rintro e w4 ⟨rfl, hi2, hb2, _⟩
              rw [← HCF.out] at hi2
              have HW2 := Lib.hid hi2
              have HB2 := Lib.hid ((hbX.trans hb1).trans hb2)
              clear hi1 hi2 hb1 hb2 hkp hX hX2 x0 x1 x2 hbX hinvX
              go_wp2_with fail
              go_roundw
              case rel => exact ⟨k + 1, t, ST', by omega, by go_num, rfl, by first | rfl | exact congrArg (Value.int .i64) HST.out, HLN, HSN, HW2, HB2⟩
              case measure => simp [intOf]; omega
            · have HFF : Hid (decide (fitN C 2) = false) := decide_eq_false hfit
              have HNF2 : Hid (∀ i, i < 2 + 1 → ¬ fitN C i) := Lib.hid (fun i hi => by
                rcases Nat.lt_or_eq_of_le (Nat.le_of_lt_succ hi) with h | h
                · exact HNF.out i h
                · rw [h]; exact hfit)
              have HIX := Lib.hid hinvX
              have HBX := Lib.hid hbX
              clear hfit hX hXl hinvX hbX
              go_wp2_with fail
              refine (fits9 C HCB.out.1 HCB.out.2 _).mono ?_
              rw [HFF.out]
              rintro e w1 ⟨rfl, rfl⟩
              go_wp2_with fail
              go_roundw
              case rel => exact ⟨2 + 1, by decide, by first | rfl | go_num, HNF2, HIX, HBX⟩
              case measure => simp [intOf]
          · have hidx := index3
            have hbX := HBZ.out.alloc hszB (Obj.cells #[.int .u64 14, .int .i64 4, .int .i64 12] 77)
            have hinvX := winv_below HIZ.out ((Below.refl _ wr).alloc (Nat.le_refl _) (Obj.cells #[.int .u64 14, .int .i64 4, .int .i64 12] 77))
            have hX := heap_alloc_new wr (Obj.cells #[.int .u64 14, .int .i64 4, .int .i64 12] 77)
            have hXl : (wr.alloc (Obj.cells #[.int .u64 14, .int .i64 4, .int .i64 12] 77)).heap.size = wr.heap.size + 1 := by simp
            by_cases hfit : fitN C 3
            · have HCF : Hid (tsTo l (k + 1) = (tsTo l k ++ signs 14 4) ++ signs (wU C) 12) := by
                show _ = _
                rw [HNX.out, chFit 3 HNF.out hfit (by decide), List.append_assoc]
                rfl
              have HFT : Hid (decide (fitN C 3) = true) := decide_eq_true hfit
              clear hfit
              go_wp2_with fail
              generalize hwX : wr.alloc (Obj.cells #[.int .u64 14, .int .i64 4, .int .i64 12] 77) = wX at *
              obtain ⟨bX, hbXe⟩ : ∃ bX, wr.heap.size = bX := ⟨_, rfl⟩
              have hbXB : w.heap.size + 1 < bX := by omega
              rw [hbXe] at hX hXl ⊢
              clear hwX hbXe
              refine (fits12 C HCB.out.1 HCB.out.2 _).mono ?_
              rw [HFT.out]
              rintro e w1 ⟨rfl, rfl⟩
              obtain ⟨x0, x1, x2⟩ := cells3 hX
              go_wp2_with fail
              refine (wput_any 14 4 (tsTo l k) (w.heap.size + 1) (w.heap.size + 1) _ (by decide) (by decide) (by decide) HTL.out (Nat.le_refl _) hinvX).mono ?_
              rintro e w3 ⟨rfl, hi1, hb1, hkp⟩
              have hX2 := hkp bX _ _ _ hX (by omega) (by decide)
              clear x0 x1 x2
              obtain ⟨x0, x1, x2⟩ := cells3 hX2
              go_wp2_with fail
              refine (wput_any (wU C) 12 _ (w.heap.size + 1) (w.heap.size + 1) _ (wU_bd C).1 (wU_bd C).2 (by decide) (by rw [List.length_append, signs_len]; have := HTL.out; have := HTQ.out; omega) (Nat.le_refl _) hi1).mono ?_
              rintro e w4 ⟨rfl, hi2, hb2, _⟩
              rw [← HCF.out] at hi2
              have HW2 := Lib.hid hi2
              have HB2 := Lib.hid ((hbX.trans hb1).trans hb2)
              clear hi1 hi2 hb1 hb2 hkp hX hX2 x0 x1 x2 hbX hinvX
              go_wp2_with fail
              go_roundw
              case rel => exact ⟨k + 1, t, ST', by omega, by go_num, rfl, by first | rfl | exact congrArg (Value.int .i64) HST.out, HLN, HSN, HW2, HB2⟩
              case measure => simp [intOf]; omega
            · have HFF : Hid (decide (fitN C 3) = false) := decide_eq_false hfit
              have HNF2 : Hid (∀ i, i < 3 + 1 → ¬ fitN C i) := Lib.hid (fun i hi => by
                rcases Nat.lt_or_eq_of_le (Nat.le_of_lt_succ hi) with h | h
                · exact HNF.out i h
                · rw [h]; exact hfit)
              have HIX := Lib.hid hinvX
              have HBX := Lib.hid hbX
              clear hfit hX hXl hinvX hbX
              go_wp2_with fail
              refine (fits12 C HCB.out.1 HCB.out.2 _).mono ?_
              rw [HFF.out]
              rintro e w1 ⟨rfl, rfl⟩
              go_wp2_with fail
              go_roundw
              case rel => exact ⟨3 + 1, by decide, by first | rfl | go_num, HNF2, HIX, HBX⟩
              case measure => simp [intOf]
          · have hidx := index4
            have hbX := HBZ.out.alloc hszB (Obj.cells #[.int .u64 15, .int .i64 4, .int .i64 64] 77)
            have hinvX := winv_below HIZ.out ((Below.refl _ wr).alloc (Nat.le_refl _) (Obj.cells #[.int .u64 15, .int .i64 4, .int .i64 64] 77))
            have hX := heap_alloc_new wr (Obj.cells #[.int .u64 15, .int .i64 4, .int .i64 64] 77)
            have hXl : (wr.alloc (Obj.cells #[.int .u64 15, .int .i64 4, .int .i64 64] 77)).heap.size = wr.heap.size + 1 := by simp
            have hfit : fitN C 4 := trivial
            have HCF : Hid (tsTo l (k + 1) = (tsTo l k ++ signs 15 4) ++ signs (wU C) 64) := by
              show _ = _
              rw [HNX.out, chFit 4 HNF.out hfit (by decide), List.append_assoc]
              rfl
            have HFT : Hid (decide (fitN C 4) = true) := decide_eq_true hfit
            clear hfit
            go_wp2_with fail
            generalize hwX : wr.alloc (Obj.cells #[.int .u64 15, .int .i64 4, .int .i64 64] 77) = wX at *
            obtain ⟨bX, hbXe⟩ : ∃ bX, wr.heap.size = bX := ⟨_, rfl⟩
            have hbXB : w.heap.size + 1 < bX := by omega
            rw [hbXe] at hX hXl ⊢
            clear hwX hbXe
            refine (fits64 C HCB.out.1 HCB.out.2 _).mono ?_
            rw [HFT.out]
            rintro e w1 ⟨rfl, rfl⟩
            obtain ⟨x0, x1, x2⟩ := cells3 hX
            go_wp2_with fail
            refine (wput_any 15 4 (tsTo l k) (w.heap.size + 1) (w.heap.size + 1) _ (by decide) (by decide) (by decide) HTL.out (Nat.le_refl _) hinvX).mono ?_
            rintro e w3 ⟨rfl, hi1, hb1, hkp⟩
            have hX2 := hkp bX _ _ _ hX (by omega) (by decide)
            clear x0 x1 x2
            obtain ⟨x0, x1, x2⟩ := cells3 hX2
            go_wp2_with fail
            refine (wput_any (wU C) 64 _ (w.heap.size + 1) (w.heap.size + 1) _ (wU_bd C).1 (wU_bd C).2 (by decide) (by rw [List.length_append, signs_len]; have := HTL.out; have := HTQ.out; omega) (Nat.le_refl _) hi1).mono ?_
            rintro e w4 ⟨rfl, hi2, hb2, _⟩
            rw [← HCF.out] at hi2
            have HW2 := Lib.hid hi2
            have HB2 := Lib.hid ((hbX.trans hb1).trans hb2)
            clear hi1 hi2 hb1 hb2 hkp hX hX2 x0 x1 x2 hbX hinvX
            go_wp2_with fail
            go_roundw
            case rel => exact ⟨k + 1, t, ST', by omega, by go_num, rfl, by first | rfl | exact congrArg (Value.int .i64) HST.out, HLN, HSN, HW2, HB2⟩
            case measure => simp [intOf]; omega
    · obtain rfl : k = n := by omega
      obtain ⟨vB, hx, hown⟩ := HI.out
      obtain ⟨va, vc, rfl, hv1, hv2, _⟩ := (own_sl hown).shape
      have hbel : Below w.heap.size w wr := hAb.trans (HB.out.mono (by omega))
      have hR := (HB.out.block w.heap.size (by omega)).trans hA0
      obtain ⟨⟨r0, r1⟩, ⟨f0, f1⟩⟩ := box2 hR
      obtain ⟨⟨q0, q1⟩, -⟩ := box2 hx
      have hR2 := box2_store (.slice va (pack (tsTo l k)).length vc) (.int .i64 (tsTo l k).length) hR
      obtain ⟨⟨s0, s1⟩, -⟩ := box2 hR2
      have hne : ∀ j, (Value.slice va (pack (tsTo l k)).length vc).ownBlock ≠ some (⟨w.heap.size, j, none⟩ : Addr).block := fun j h => absurd (hown.lt _ h).1 (by show ¬ (w.heap.size + 1 ≤ w.heap.size); omega)
      have hown2 := ownsRow_setCell_other (ownsRow_setCell_other hown (a := ⟨w.heap.size, 0, none⟩) (hne 0) (.slice va (pack (tsTo l k)).length vc)) (a := ⟨w.heap.size, 1, none⟩) (hne 1) (.int .i64 (tsTo l k).length)
      have HOWN := Lib.hid hown2
      have hb3 := (hbel.setCell (p := ⟨w.heap.size, 0, none⟩) (Nat.le_refl _) (.slice va (pack (tsTo l k)).length vc)).setCell (p := ⟨w.heap.size, 1, none⟩) (Nat.le_refl _) (.int .i64 (tsTo l k).length)
      clear hown hown2 hx hR hR2
      go_wp2_with fail
      refine bodyPost_ret (v := .tuple #[.agg #[.slice va (pack (tsTo l k)).length vc, .int .i64 (tsTo l k).length], .int .i64 0]) (by simp [results, Tryd.results17, go_sem, s0, s1]) rfl ?_
      exact ⟨_, rfl, HOWN.out, hb3⟩
end Go.Proofs.YtbifhmbfmoeofaaDoor.Delta
