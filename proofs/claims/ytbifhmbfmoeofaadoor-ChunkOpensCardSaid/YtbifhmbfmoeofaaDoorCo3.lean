/-
  The walk of delta.Pack.
-/
import Derived.Test.YtbifhmbfmoeofaaDoorCo1
import Derived.Test.YtbifhmbfmoeofaaDoorCo2
import Derived.WalkKit
import Derived.Lib.TrailingZeros
import Derived.Laws.Bits64b
import Derived.IntWalk
import Derived.Lib.Strings
import Derived.Lib.Slices
import Derived.Lib.Small
import Derived.Lib.Walk
import Derived.Lib.BitFns
namespace Go.Proofs.YtbifhmbfmoeofaaDoor.Delta
open Go.RowKit Go.Gh Go.Proofs.YtbifhmbfmoeofaaDoor.Bits
set_option linter.unusedVariables false

/-- What the table of widths holds. -/
def Table (w : World) : Prop := 0 < w.heap.size ∧
  (w.cell? ⟨0, 0, none⟩ = some (.int .u64 0) ∧ w.cell? ⟨0, 1, none⟩ = some (.int .i64 1) ∧ w.cell? ⟨0, 2, none⟩ = some (.int .i64 0)) ∧
  (w.cell? ⟨0, 3, none⟩ = some (.int .u64 2) ∧ w.cell? ⟨0, 4, none⟩ = some (.int .i64 2) ∧ w.cell? ⟨0, 5, none⟩ = some (.int .i64 7)) ∧
  (w.cell? ⟨0, 6, none⟩ = some (.int .u64 6) ∧ w.cell? ⟨0, 7, none⟩ = some (.int .i64 3) ∧ w.cell? ⟨0, 8, none⟩ = some (.int .i64 9)) ∧
  (w.cell? ⟨0, 9, none⟩ = some (.int .u64 14) ∧ w.cell? ⟨0, 10, none⟩ = some (.int .i64 4) ∧ w.cell? ⟨0, 11, none⟩ = some (.int .i64 12)) ∧
  (w.cell? ⟨0, 12, none⟩ = some (.int .u64 15) ∧ w.cell? ⟨0, 13, none⟩ = some (.int .i64 4) ∧ w.cell? ⟨0, 14, none⟩ = some (.int .i64 64))
theorem Table.below {w w' : World} (h : Table w) (hb : Below w.heap.size w w') : Table w' := by
  obtain ⟨h0, ⟨a0, a1, a2⟩, ⟨b0, b1, b2⟩, ⟨c0, c1, c2⟩, ⟨d0, d1, d2⟩, e0, e1, e2⟩ := h
  have t : ∀ i u, w.cell? ⟨0, i, none⟩ = some u → w'.cell? ⟨0, i, none⟩ = some u := fun i u hu => (hb.cell (p := ⟨0, i, none⟩) h0).trans hu
  exact ⟨Nat.lt_of_lt_of_le h0 hb.size, ⟨t _ _ a0, t _ _ a1, t _ _ a2⟩, ⟨t _ _ b0, t _ _ b1, t _ _ b2⟩, ⟨t _ _ c0, t _ _ c1, t _ _ c2⟩, ⟨t _ _ d0, t _ _ d1, t _ _ d2⟩, t _ _ e0, t _ _ e1, t _ _ e2⟩
def mkOf : Nat → Int
  | 0 => 0 | 1 => 2 | 2 => 6 | 3 => 14 | _ => 15
def lnOf : Nat → Nat
  | 0 => 1 | 1 => 2 | 2 => 3 | 3 => 4 | _ => 4
def anOf : Nat → Nat
  | 0 => 0 | 1 => 7 | 2 => 9 | 3 => 12 | _ => 64
theorem chFit {C : Int} (j : Nat) (h : ∀ i, i < j → ¬ fitN C i) (hj : fitN C j) (hj4 : j ≤ 4) : chBits C = signs (mkOf j) (lnOf j) ++ signs (wU C) (anOf j) := by
  have s2 : signs 2 2 = [true, false] := by decide
  have s6 : signs 6 3 = [true, true, false] := by decide
  have s14 : signs 14 4 = [true, true, true, false] := by decide
  have s15 : signs 15 4 = [true, true, true, true] := by decide
  have s0 : signs 0 1 = [false] := by decide
  obtain rfl | rfl | rfl | rfl | rfl : j = 0 ∨ j = 1 ∨ j = 2 ∨ j = 3 ∨ j = 4 := by omega
  · rw [ch0 hj]; simp [s0, signs, mkOf, lnOf, anOf]
  · have h0 : ¬ C = 0 := h 0 (by omega)
    rw [ch1 h0 hj]; simp [s2, mkOf, lnOf, anOf]
  · have h0 : ¬ C = 0 := h 0 (by omega)
    have h1 : ¬ (-64 ≤ C ∧ C ≤ 63) := h 1 (by omega)
    rw [ch2 h0 h1 hj]; simp [s6, mkOf, lnOf, anOf]
  · have h0 : ¬ C = 0 := h 0 (by omega)
    have h1 : ¬ (-64 ≤ C ∧ C ≤ 63) := h 1 (by omega)
    have h2 : ¬ (-256 ≤ C ∧ C ≤ 255) := h 2 (by omega)
    rw [ch3 h0 h1 h2 hj]; simp [s14, mkOf, lnOf, anOf]
  · have h0 : ¬ C = 0 := h 0 (by omega)
    have h1 : ¬ (-64 ≤ C ∧ C ≤ 63) := h 1 (by omega)
    have h2 : ¬ (-256 ≤ C ∧ C ≤ 255) := h 2 (by omega)
    have h3 : ¬ (-2048 ≤ C ∧ C ≤ 2047) := h 3 (by omega)
    rw [ch4 h0 h1 h2 h3]; simp [s15, mkOf, lnOf, anOf]
theorem index0 (w : World) : (Instr.index 78 (.agg #[.int .u64 0, .int .i64 1, .int .i64 0, .int .u64 2, .int .i64 2, .int .i64 7, .int .u64 6, .int .i64 3, .int .i64 9, .int .u64 14, .int .i64 4, .int .i64 12, .int .u64 15, .int .i64 4, .int .i64 64]) (.int .i64 0)).run Tryd.prog w = .ok (.agg #[.int .u64 0, .int .i64 1, .int .i64 0]) w := by kernel_rfl
theorem index1 (w : World) : (Instr.index 78 (.agg #[.int .u64 0, .int .i64 1, .int .i64 0, .int .u64 2, .int .i64 2, .int .i64 7, .int .u64 6, .int .i64 3, .int .i64 9, .int .u64 14, .int .i64 4, .int .i64 12, .int .u64 15, .int .i64 4, .int .i64 64]) (.int .i64 1)).run Tryd.prog w = .ok (.agg #[.int .u64 2, .int .i64 2, .int .i64 7]) w := by kernel_rfl
theorem index2 (w : World) : (Instr.index 78 (.agg #[.int .u64 0, .int .i64 1, .int .i64 0, .int .u64 2, .int .i64 2, .int .i64 7, .int .u64 6, .int .i64 3, .int .i64 9, .int .u64 14, .int .i64 4, .int .i64 12, .int .u64 15, .int .i64 4, .int .i64 64]) (.int .i64 2)).run Tryd.prog w = .ok (.agg #[.int .u64 6, .int .i64 3, .int .i64 9]) w := by kernel_rfl
theorem index3 (w : World) : (Instr.index 78 (.agg #[.int .u64 0, .int .i64 1, .int .i64 0, .int .u64 2, .int .i64 2, .int .i64 7, .int .u64 6, .int .i64 3, .int .i64 9, .int .u64 14, .int .i64 4, .int .i64 12, .int .u64 15, .int .i64 4, .int .i64 64]) (.int .i64 3)).run Tryd.prog w = .ok (.agg #[.int .u64 14, .int .i64 4, .int .i64 12]) w := by kernel_rfl
theorem index4 (w : World) : (Instr.index 78 (.agg #[.int .u64 0, .int .i64 1, .int .i64 0, .int .u64 2, .int .i64 2, .int .i64 7, .int .u64 6, .int .i64 3, .int .i64 9, .int .u64 14, .int .i64 4, .int .i64 12, .int .u64 15, .int .i64 4, .int .i64 64]) (.int .i64 4)).run Tryd.prog w = .ok (.agg #[.int .u64 15, .int .i64 4, .int .i64 64]) w := by kernel_rfl
def PackPost (w : World) (s : List Bool) (e : Ending) (w' : World) : Prop := ∃ v, e = .returned (.tuple #[.agg #[v, .int .i64 s.length], .int .i64 0]) ∧ w'.ownsRow (w.heap.size + 1) 5 1 v (pack s).length ((pack s).map (Value.int .u8)) ∧ Below w.heap.size w w'
theorem winv_below {w w' : World} {B wb : Nat} {s : List Bool} (h : WInv w B wb s) (hb : Below w.heap.size w w') : WInv w' B wb s := by
  obtain ⟨v, h1, h2⟩ := h
  exact ⟨v, (hb.block wb (Array.getElem?_eq_some_iff.1 h1).1).trans h1, own_below h2 hb⟩
theorem cells3 {w : World} {B : Nat} {T : TypeId} {a b c : Value} (h : w.heap[B]? = some (.cells #[a, b, c] T (0, 0))) : w.cell? ⟨B, 0, none⟩ = some a ∧ w.cell? ⟨B, 1, none⟩ = some b ∧ w.cell? ⟨B, 2, none⟩ = some c :=
  ⟨(row_cell 0 _ h rfl).1, (row_cell 1 _ h rfl).1, (row_cell 2 _ h rfl).1⟩
theorem box2 {w : World} {B : Nat} {T : TypeId} {a b : Value} (h : w.heap[B]? = some (.cells #[a, b] T (0, 0))) : (w.cell? ⟨B, 0, none⟩ = some a ∧ w.cell? ⟨B, 1, none⟩ = some b) ∧ (w.frozen? ⟨B, 0, none⟩ = false ∧ w.frozen? ⟨B, 1, none⟩ = false) :=
  ⟨⟨(row_cell 0 _ h rfl).1, (row_cell 1 _ h rfl).1⟩, ⟨(row_cell 0 a h rfl).2, (row_cell 1 b h rfl).2⟩⟩
theorem box2_store {w : World} {B : Nat} {T : TypeId} {a b : Value} (x0 x1 : Value) (h : w.heap[B]? = some (.cells #[a, b] T (0, 0))) : ((w.setCell ⟨B, 0, none⟩ x0).setCell ⟨B, 1, none⟩ x1).heap[B]? = some (.cells #[x0, x1] T (0, 0)) := by
  have h0 := row_setCell 0 x0 h
  have h1 := row_setCell 1 x1 h0
  simpa using h1
set_option maxHeartbeats 8000000 in
set_option maxRecDepth 100000 in
theorem pack_any (v : Value) (n : Nat) (l : List Int) (w : World) (hs : Sl w 1 v n (l.map (Value.int .i64))) (hl : l.length = n) (hwf : ∀ z ∈ l, (Lit.int .i64 z).wf = true) (hn : n ≤ 1000) (hT : Table w) :
    Calls Tryd.prog 17 #[v] w (PackPost w (tsTo l n)) := by
  obtain ⟨ao, c, rfl, hnc, hc, _⟩ := hs.shape
  have HL := Lib.hid hl
  have HWF := Lib.hid hwf
  have H0 : Hid (tsTo l 0 = [] ++ signs (n : Int) 16) := by show _ = _; rw [ts_zero, hl]; rfl
  clear hl hwf
  go_enter Tryd.func17, Tryd.ntmps17
  go_wp2_with fail
  obtain ⟨wA, hwA⟩ : ∃ wA, wA = (w.alloc (Obj.cells #[.slice none 0 0, .int .i64 0] 39)).alloc (Obj.cells #[.slice none 0 0, .int .i64 0] 74) := ⟨_, rfl⟩
  have hAs : wA.heap.size = w.heap.size + 1 + 1 := by rw [hwA]; simp
  have hAb : Below w.heap.size w wA := by rw [hwA]; exact ((Below.refl _ w).alloc (Nat.le_refl _) _).alloc (by simp) _
  have hA0 : wA.heap[w.heap.size]? = some (.cells #[.slice none 0 0, .int .i64 0] 39 (0, 0)) := by rw [hwA]; exact two_first w _ _
  have hA1 : wA.heap[w.heap.size + 1]? = some (.cells #[.slice none 0 0, .int .i64 0] 74 (0, 0)) := by rw [hwA]; exact two_second w _ _
  have hinv0 : WInv wA (w.heap.size + 1) (w.heap.size + 1) [] := ⟨.slice none 0 0, hA1, World.ownsRow_nil _ _ _ _⟩
  rw [← hwA]
  have HAS := Lib.hid hAs
  clear hwA hAs hA1
  refine (wput_any (n : Int) 16 [] (w.heap.size + 1) (w.heap.size + 1) _ (by omega) (by omega) (by decide) (by simp) (Nat.le_refl _) hinv0).mono ?_
  rintro e w1 ⟨rfl, hi1, hb1, _⟩
  rw [← H0.out] at hi1
  go_wp2_with fail
  have hBW : Below w.heap.size w w1 := hAb.trans (hb1.mono (by omega))
  have HI0 := Lib.hid hi1
  have HB0 := Lib.hid hb1
  clear hi1 hinv0
  go_loopw [5, 6, 7, 8, 9, 11, 22] (fun ul us _ _ _ _ i wr => ∃ (k : Nat) (L ST : Int), k ≤ n ∧ i = .int .i64 k ∧ ul = .int .i64 L ∧ us = .int .i64 ST ∧ Hid (L = if k = 0 then 0 else l.getD (k - 1) 0) ∧ Hid (ST = stepAt l k) ∧ Hid (WInv wr (w.heap.size + 1) (w.heap.size + 1) (tsTo l k)) ∧ Hid (Below (w.heap.size + 1) wA wr)) (fun _ _ _ _ _ _ i _ => n - (intOf i).toNat)
  case atStart => exact ⟨0, 0, 0, by omega, rfl, rfl, rfl, Lib.hid rfl, Lib.hid rfl, HI0, HB0⟩
  case round =>
    obtain ⟨k, L, ST, hk, rfl, rfl, rfl, HLL, HSS, HI, HB⟩ := hrel
    have hbel : Below w.heap.size w wr := hAb.trans (HB.out.mono (by omega))
    by_cases hlt : k < n
    · obtain ⟨b, off, rfl, hck⟩ := (hs.below hbel).int (i := k) hlt
      have hk1 : k < l.length := by rw [HL.out]; exact hlt
      have hwk := wf_i64 (HWF.out (l.getD k 0) (by rw [List.getD_eq_getElem?_getD, List.getElem?_eq_getElem hk1]; exact List.getElem_mem _))
      obtain ⟨t, ht⟩ : ∃ t, l.getD k 0 = t := ⟨_, rfl⟩
      rw [ht] at hck hwk
      have HT := Lib.hid ht
      have HTL : Hid ((tsTo l k).length ≤ 1000000) := by show _ ≤ _; have := ts_len l k; omega
      have HWK := Lib.hid hwk
      clear ht hk1 hwk hbel
      by_cases h0 : k = 0
      · have HCF : Hid (tsTo l (k + 1) = tsTo l k ++ signs (wU t) 64) := by
          show _ = _
          have h2 := HT.out
          subst h0
          rw [ts_first, h2]
        have HSN : Hid (ST = stepAt l (k + 1)) := by
          show _ = _
          rw [HSS.out]
          subst h0
          rfl
        have HLN : Hid (t = if k + 1 = 0 then 0 else l.getD (k + 1 - 1) 0) := by
          show _ = _
          rw [if_neg (by omega), Nat.add_sub_cancel, HT.out]
        have e0 : ((k : Int) == 0) = true := by rw [h0]; rfl
        clear h0
        go_wp2_with fail
        refine (wput_any (wU t) 64 (tsTo l k) (w.heap.size + 1) (w.heap.size + 1) _ (wU_bd t).1 (wU_bd t).2 (by decide) HTL.out (Nat.le_refl _) HI.out).mono ?_
        rintro e w2 ⟨rfl, hi2, hb2, _⟩
        rw [← HCF.out] at hi2
        have HW2 := Lib.hid hi2
        have HB2 := Lib.hid (HB.out.trans hb2)
        clear hi2 hb2
        go_wp2_with fail
        go_roundw
        case rel => exact ⟨k + 1, t, ST, by omega, by go_num, rfl, rfl, HLN, HSN, HW2, HB2⟩
        case measure => simp [intOf]; omega
      · obtain ⟨j, hkj⟩ : ∃ j, k = j + 1 := ⟨k - 1, by omega⟩
        have hLj : L = l.getD j 0 := by
          have := HLL.out
          rwa [if_neg h0, hkj, Nat.add_sub_cancel] at this
        obtain ⟨ST', hST⟩ : ∃ z, wrap64 (t - L) = z := ⟨_, rfl⟩
        obtain ⟨C, hC⟩ : ∃ z, wrap64 (ST' - ST) = z := ⟨_, rfl⟩
        have HCH : Hid (chAt l k = C) := by
          show _ = _
          have h1 := HT.out
          have h2 := HSS.out
          subst hkj
          unfold chAt wI
          rw [h1, Nat.add_sub_cancel, ← hLj, ← h2, IntWalk.i64_left, IntWalk.i64_left, hST, hC]
        have HSN : Hid (ST' = stepAt l (k + 1)) := by
          show _ = _
          have h1 := HT.out
          subst hkj
          unfold stepAt wI
          rw [if_neg (by omega), Nat.add_sub_cancel, show j + 1 + 1 - 2 = j by omega, h1, ← hLj, IntWalk.i64_left, hST]
        have HLN : Hid (t = if k + 1 = 0 then 0 else l.getD (k + 1 - 1) 0) := by
          show _ = _
          rw [if_neg (by omega), Nat.add_sub_cancel, HT.out]
        have HNX : Hid (tsTo l (k + 1) = tsTo l k ++ chBits C) := by
          show _ = _
          have h1 := HCH.out
          subst hkj
          rw [ts_next, h1]
        have HCB : Hid (-9223372036854775808 ≤ C ∧ C < 9223372036854775808) := by
          show _ ∧ _
          rw [← hC]
          unfold wrap64
          omega
        have hTr := hT.below (hAb.trans (HB.out.mono (by omega)))
        have HTQ : Hid ((tsTo l k).length ≤ 100000) := by show _ ≤ _; have := ts_len l k; omega
        have e0 : ((k : Int) == 0) = false := beq_eq_false_iff_ne.2 (by omega)
        clear hLj h0 hkj
        obtain ⟨_, ⟨p0, p1, p2⟩, ⟨p3, p4, p5⟩, ⟨p6, p7, p8⟩, ⟨p9, p10, p11⟩, p12, p13, p14⟩ := hTr
        go_wp2_with fail
        rw [hST, hC]
        have HST := Lib.hid hST
        clear p0 p1 p2 p3 p4 p5 p6 p7 p8 p9 p10 p11 p12 p13 p14 hck hC hST
        go_loopw [11, 39] (fun _ i wz => ∃ j : Nat, j ≤ 4 ∧ i = .int .i64 j ∧ Hid (∀ i, i < j → ¬ fitN C i) ∧ Hid (WInv wz (w.heap.size + 1) (w.heap.size + 1) (tsTo l k)) ∧ Hid (Below (w.heap.size + 1) wA wz)) (fun _ i _ => 5 - (intOf i).toNat)
        case atStart => exact ⟨0, by omega, rfl, Lib.hid (fun i hi => by omega), HI, HB⟩
        case round =>
          obtain ⟨j, hj4, rfl, HNF, HIZ, HBZ⟩ := hrel
          have hszB : w.heap.size + 1 ≤ wr.heap.size := by have := HBZ.out.size; have := HAS.out; omega
          have hszC : w.heap.size + 1 < wr.heap.size := by have := HBZ.out.size; have := HAS.out; omega
          obtain rfl | rfl | rfl | rfl | rfl : j = 0 ∨ j = 1 ∨ j = 2 ∨ j = 3 ∨ j = 4 := by omega
          · have hidx := index0
            have hbX := HBZ.out.alloc hszB (Obj.cells #[.int .u64 0, .int .i64 1, .int .i64 0] 77)
            have hinvX := winv_below HIZ.out ((Below.refl _ wr).alloc (Nat.le_refl _) (Obj.cells #[.int .u64 0, .int .i64 1, .int .i64 0] 77))
            have hX := heap_alloc_new wr (Obj.cells #[.int .u64 0, .int .i64 1, .int .i64 0] 77)
            have hXl : (wr.alloc (Obj.cells #[.int .u64 0, .int .i64 1, .int .i64 0] 77)).heap.size = wr.heap.size + 1 := by simp
            by_cases hfit : fitN C 0
            · have HCF : Hid (tsTo l (k + 1) = (tsTo l k ++ signs 0 1) ++ signs (wU C) 0) := by
                show _ = _
                rw [HNX.out, chFit 0 HNF.out hfit (by decide), List.append_assoc]
                rfl
              have HFT : Hid (decide (fitN C 0) = true) := decide_eq_true hfit
              clear hfit
              go_wp2_with fail
              generalize hwX : wr.alloc (Obj.cells #[.int .u64 0, .int .i64 1, .int .i64 0] 77) = wX at *
              obtain ⟨bX, hbXe⟩ : ∃ bX, wr.heap.size = bX := ⟨_, rfl⟩
              have hbXB : w.heap.size + 1 < bX := by omega
              rw [hbXe] at hX hXl ⊢
              clear hwX hbXe
              refine (fits0 C _).mono ?_
              rw [HFT.out]
              rintro e w1 ⟨rfl, rfl⟩
              obtain ⟨x0, x1, x2⟩ := cells3 hX
              go_wp2_with fail
              refine (wput_any 0 1 (tsTo l k) (w.heap.size + 1) (w.heap.size + 1) _ (by decide) (by decide) (by decide) HTL.out (Nat.le_refl _) hinvX).mono ?_
              rintro e w3 ⟨rfl, hi1, hb1, hkp⟩
              have hX2 := hkp bX _ _ _ hX (by omega) (by decide)
              clear x0 x1 x2
              obtain ⟨x0, x1, x2⟩ := cells3 hX2
              go_wp2_with fail
              refine (wput_any (wU C) 0 _ (w.heap.size + 1) (w.heap.size + 1) _ (wU_bd C).1 (wU_bd C).2 (by decide) (by rw [List.length_append, signs_len]; have := HTL.out; have := HTQ.out; omega) (Nat.le_refl _) hi1).mono ?_
              rintro e w4 ⟨rfl, hi2, hb2, _⟩
              rw [← HCF.out] at hi2
              have HW2 := Lib.hid hi2
              have HB2 := Lib.hid ((hbX.trans hb1).trans hb2)
              clear hi1 hi2 hb1 hb2 hkp hX hX2 x0 x1 x2 hbX hinvX
              go_wp2_with fail
              go_roundw
              case rel => exact ⟨k + 1, t, ST', by omega, by go_num, rfl, by first | rfl | exact congrArg (Value.int .i64) HST.out, HLN, HSN, HW2, HB2⟩
              case measure => simp [intOf]; omega
            · have HFF : Hid (decide (fitN C 0) = false) := decide_eq_false hfit
              have HNF2 : Hid (∀ i, i < 0 + 1 → ¬ fitN C i) := Lib.hid (fun i hi => by
                rcases Nat.lt_or_eq_of_le (Nat.le_of_lt_succ hi) with h | h
                · exact HNF.out i h
                · rw [h]; exact hfit)
              have HIX := Lib.hid hinvX
              have HBX := Lib.hid hbX
              clear hfit hX hXl hinvX hbX
              go_wp2_with fail
              refine (fits0 C _).mono ?_
              rw [HFF.out]
              rintro e w1 ⟨rfl, rfl⟩
              go_wp2_with fail
              go_roundw
              case rel => exact ⟨0 + 1, by decide, by first | rfl | go_num, HNF2, HIX, HBX⟩
              case measure => simp [intOf]
          · have hidx := index1
            have hbX := HBZ.out.alloc hszB (Obj.cells #[.int .u64 2, .int .i64 2, .int .i64 7] 77)
            have hinvX := winv_below HIZ.out ((Below.refl _ wr).alloc (Nat.le_refl _) (Obj.cells #[.int .u64 2, .int .i64 2, .int .i64 7] 77))
            have hX := heap_alloc_new wr (Obj.cells #[.int .u64 2, .int .i64 2, .int .i64 7] 77)
            have hXl : (wr.alloc (Obj.cells #[.int .u64 2, .int .i64 2, .int .i64 7] 77)).heap.size = wr.heap.size + 1 := by simp
            by_cases hfit : fitN C 1
            · have HCF : Hid (tsTo l (k + 1) = (tsTo l k ++ signs 2 2) ++ signs (wU C) 7) := by
                show _ = _
                rw [HNX.out, chFit 1 HNF.out hfit (by decide), List.append_assoc]
                rfl
              have HFT : Hid (decide (fitN C 1) = true) := decide_eq_true hfit
              clear hfit
              go_wp2_with fail
              generalize hwX : wr.alloc (Obj.cells #[.int .u64 2, .int .i64 2, .int .i64 7] 77) = wX at *
              obtain ⟨bX, hbXe⟩ : ∃ bX, wr.heap.size = bX := ⟨_, rfl⟩
              have hbXB : w.heap.size + 1 < bX := by omega
              rw [hbXe] at hX hXl ⊢
              clear hwX hbXe
              refine (fits7 C HCB.out.1 HCB.out.2 _).mono ?_
              rw [HFT.out]
              rintro e w1 ⟨rfl, rfl⟩
              obtain ⟨x0, x1, x2⟩ := cells3 hX
              go_wp2_with fail
              refine (wput_any 2 2 (tsTo l k) (w.heap.size + 1) (w.heap.size + 1) _ (by decide) (by decide) (by decide) HTL.out (Nat.le_refl _) hinvX).mono ?_
              rintro e w3 ⟨rfl, hi1, hb1, hkp⟩
              have hX2 := hkp bX _ _ _ hX (by omega) (by decide)
              clear x0 x1 x2
              obtain ⟨x0, x1, x2⟩ := cells3 hX2
              go_wp2_with fail
              refine (wput_any (wU C) 7 _ (w.heap.size + 1) (w.heap.size + 1) _ (wU_bd C).1 (wU_bd C).2 (by decide) (by rw [List.length_append, signs_len]; have := HTL.out; have := HTQ.out; omega) (Nat.le_refl _) hi1).mono ?_
              rintro e w4 ⟨rfl, hi2, hb2, _⟩
              rw [← HCF.out] at hi2
              have HW2 := Lib.hid hi2
              have HB2 := Lib.hid ((hbX.trans hb1).trans hb2)
              clear hi1 hi2 hb1 hb2 hkp hX hX2 x0 x1 x2 hbX hinvX
              go_wp2_with fail
              go_roundw
              case rel => exact ⟨k + 1, t, ST', by omega, by go_num, rfl, by first | rfl | exact congrArg (Value.int .i64) HST.out, HLN, HSN, HW2, HB2⟩
              case measure => simp [intOf]; omega
            · have HFF : Hid (decide (fitN C 1) = false) := decide_eq_false hfit
              have HNF2 : Hid (∀ i, i < 1 + 1 → ¬ fitN C i) := Lib.hid (fun i hi => by
                rcases Nat.lt_or_eq_of_le (Nat.le_of_lt_succ hi) with h | h
                · exact HNF.out i h
                · rw [h]; exact hfit)
              have HIX := Lib.hid hinvX
              have HBX := Lib.hid hbX
              clear hfit hX hXl hinvX hbX
              go_wp2_with fail
              refine (fits7 C HCB.out.1 HCB.out.2 _).mono ?_
              rw [HFF.out]
              rintro e w1 ⟨rfl, rfl⟩
              go_wp2_with fail
              go_roundw
              case rel => exact ⟨1 + 1, by decide, by first | rfl | go_num, HNF2, HIX, HBX⟩
              case measure => simp [intOf]
          · have hidx := index2
            have hbX := HBZ.out.alloc hszB (Obj.cells #[.int .u64 6, .int .i64 3, .int .i64 9] 77)
            have hinvX := winv_below HIZ.out ((Below.refl _ wr).alloc (Nat.le_refl _) (Obj.cells #[.int .u64 6, .int .i64 3, .int .i64 9] 77))
            have hX := heap_alloc_new wr (Obj.cells #[.int .u64 6, .int .i64 3, .int .i64 9] 77)
            have hXl : (wr.alloc (Obj.cells #[.int .u64 6, .int .i64 3, .int .i64 9] 77)).heap.size = wr.heap.size + 1 := by simp
            by_cases hfit : fitN C 2
            · have HCF : Hid (tsTo l (k + 1) = (tsTo l k ++ signs 6 3) ++ signs (wU C) 9) := by
                show _ = _
                rw [HNX.out, chFit 2 HNF.out hfit (by decide), List.append_assoc]
                rfl
              have HFT : Hid (decide (fitN C 2) = true) := decide_eq_true hfit
              clear hfit
              go_wp2_with fail
              generalize hwX : wr.alloc (Obj.cells #[.int .u64 6, .int .i64 3, .int .i64 9] 77) = wX at *
              obtain ⟨bX, hbXe⟩ : ∃ bX, wr.heap.size = bX := ⟨_, rfl⟩
              have hbXB : w.heap.size + 1 < bX := by omega
              rw [hbXe] at hX hXl ⊢
              clear hwX hbXe
              refine (fits9 C HCB.out.1 HCB.out.2 _).mono ?_
              rw [HFT.out]
              rintro e w1 ⟨rfl, rfl⟩
              obtain ⟨x0, x1, x2⟩ := cells3 hX
              go_wp2_with fail
              refine (wput_any 6 3 (tsTo l k) (w.heap.size + 1) (w.heap.size + 1) _ (by decide) (by decide) (by decide) HTL.out (Nat.le_refl _) hinvX).mono ?_
              rintro e w3 ⟨rfl, hi1, hb1, hkp⟩
              have hX2 := hkp bX _ _ _ hX (by omega) (by decide)
              clear x0 x1 x2
              obtain ⟨x0, x1, x2⟩ := cells3 hX2
              go_wp2_with fail
              refine (wput_any (wU C) 9 _ (w.heap.size + 1) (w.heap.size + 1) _ (wU_bd C).1 (wU_bd C).2 (by decide) (by rw [List.length_append, signs_len]; have := HTL.out; have := HTQ.out; omega) (Nat.le_refl _) hi1).mono ?_
              rintro e w4 ⟨rfl, hi2, hb2, _⟩
              rw [← HCF.out] at hi2
              have HW2 := Lib.hid hi2
              have HB2 := Lib.hid ((hbX.trans hb1).trans hb2)
              clear hi1 hi2 hb1 hb2 hkp hX hX2 x0 x1 x2 hbX hinvX
              go_wp2_with fail
              go_roundw
              case rel => exact ⟨k + 1, t, ST', by omega, by go_num, rfl, by first | rfl | exact congrArg (Value.int .i64) HST.out, HLN, HSN, HW2, HB2⟩
              case measure => simp [intOf]; omega
            · have HFF : Hid (decide (fitN C 2) = false) := decide_eq_false hfit
              have HNF2 : Hid (∀ i, i < 2 + 1 → ¬ fitN C i) := Lib.hid (fun i hi => by
                rcases Nat.lt_or_eq_of_le (Nat.le_of_lt_succ hi) with h | h
                · exact HNF.out i h
                · rw [h]; exact hfit)
              have HIX := Lib.hid hinvX
              have HBX := Lib.hid hbX
              clear hfit hX hXl hinvX hbX
              go_wp2_with fail
              refine (fits9 C HCB.out.1 HCB.out.2 _).mono ?_
              rw [HFF.out]
              rintro e w1 ⟨rfl, rfl⟩
              go_wp2_with fail
              go_roundw
              case rel => exact ⟨2 + 1, by decide, by first | rfl | go_num, HNF2, HIX, HBX⟩
              case measure => simp [intOf]
          · have hidx := index3
            have hbX := HBZ.out.alloc hszB (Obj.cells #[.int .u64 14, .int .i64 4, .int .i64 12] 77)
            have hinvX := winv_below HIZ.out ((Below.refl _ wr).alloc (Nat.le_refl _) (Obj.cells #[.int .u64 14, .int .i64 4, .int .i64 12] 77))
            have hX := heap_alloc_new wr (Obj.cells #[.int .u64 14, .int .i64 4, .int .i64 12] 77)
            have hXl : (wr.alloc (Obj.cells #[.int .u64 14, .int .i64 4, .int .i64 12] 77)).heap.size = wr.heap.size + 1 := by simp
            by_cases hfit : fitN C 3
            · have HCF : Hid (tsTo l (k + 1) = (tsTo l k ++ signs 14 4) ++ signs (wU C) 12) := by
                show _ = _
                rw [HNX.out, chFit 3 HNF.out hfit (by decide), List.append_assoc]
                rfl
              have HFT : Hid (decide (fitN C 3) = true) := decide_eq_true hfit
              clear hfit
              go_wp2_with fail
              generalize hwX : wr.alloc (Obj.cells #[.int .u64 14, .int .i64 4, .int .i64 12] 77) = wX at *
              obtain ⟨bX, hbXe⟩ : ∃ bX, wr.heap.size = bX := ⟨_, rfl⟩
              have hbXB : w.heap.size + 1 < bX := by omega
              rw [hbXe] at hX hXl ⊢
              clear hwX hbXe
              refine (fits12 C HCB.out.1 HCB.out.2 _).mono ?_
              rw [HFT.out]
              rintro e w1 ⟨rfl, rfl⟩
              obtain ⟨x0, x1, x2⟩ := cells3 hX
              go_wp2_with fail
              refine (wput_any 14 4 (tsTo l k) (w.heap.size + 1) (w.heap.size + 1) _ (by decide) (by decide) (by decide) HTL.out (Nat.le_refl _) hinvX).mono ?_
              rintro e w3 ⟨rfl, hi1, hb1, hkp⟩
              have hX2 := hkp bX _ _ _ hX (by omega) (by decide)
              clear x0 x1 x2
              obtain ⟨x0, x1, x2⟩ := cells3 hX2
              go_wp2_with fail
              refine (wput_any (wU C) 12 _ (w.heap.size + 1) (w.heap.size + 1) _ (wU_bd C).1 (wU_bd C).2 (by decide) (by rw [List.length_append, signs_len]; have := HTL.out; have := HTQ.out; omega) (Nat.le_refl _) hi1).mono ?_
              rintro e w4 ⟨rfl, hi2, hb2, _⟩
              rw [← HCF.out] at hi2
              have HW2 := Lib.hid hi2
              have HB2 := Lib.hid ((hbX.trans hb1).trans hb2)
              clear hi1 hi2 hb1 hb2 hkp hX hX2 x0 x1 x2 hbX hinvX
              go_wp2_with fail
              go_roundw
              case rel => exact ⟨k + 1, t, ST', by omega, by go_num, rfl, by first | rfl | exact congrArg (Value.int .i64) HST.out, HLN, HSN, HW2, HB2⟩
              case measure => simp [intOf]; omega
            · have HFF : Hid (decide (fitN C 3) = false) := decide_eq_false hfit
              have HNF2 : Hid (∀ i, i < 3 + 1 → ¬ fitN C i) := Lib.hid (fun i hi => by
                rcases Nat.lt_or_eq_of_le (Nat.le_of_lt_succ hi) with h | h
                · exact HNF.out i h
                · rw [h]; exact hfit)
              have HIX := Lib.hid hinvX
              have HBX := Lib.hid hbX
              clear hfit hX hXl hinvX hbX
              go_wp2_with fail
              refine (fits12 C HCB.out.1 HCB.out.2 _).mono ?_
              rw [HFF.out]
              rintro e w1 ⟨rfl, rfl⟩
              go_wp2_with fail
              go_roundw
              case rel => exact ⟨3 + 1, by decide, by first | rfl | go_num, HNF2, HIX, HBX⟩
              case measure => simp [intOf]
          · have hidx := index4
            have hbX := HBZ.out.alloc hszB (Obj.cells #[.int .u64 15, .int .i64 4, .int .i64 64] 77)
            have hinvX := winv_below HIZ.out ((Below.refl _ wr).alloc (Nat.le_refl _) (Obj.cells #[.int .u64 15, .int .i64 4, .int .i64 64] 77))
            have hX := heap_alloc_new wr (Obj.cells #[.int .u64 15, .int .i64 4, .int .i64 64] 77)
            have hXl : (wr.alloc (Obj.cells #[.int .u64 15, .int .i64 4, .int .i64 64] 77)).heap.size = wr.heap.size + 1 := by simp
            have hfit : fitN C 4 := trivial
            have HCF : Hid (tsTo l (k + 1) = (tsTo l k ++ signs 15 4) ++ signs (wU C) 64) := by
              show _ = _
              rw [HNX.out, chFit 4 HNF.out hfit (by decide), List.append_assoc]
              rfl
            have HFT : Hid (decide (fitN C 4) = true) := decide_eq_true hfit
            clear hfit
            go_wp2_with fail
            generalize hwX : wr.alloc (Obj.cells #[.int .u64 15, .int .i64 4, .int .i64 64] 77) = wX at *
            obtain ⟨bX, hbXe⟩ : ∃ bX, wr.heap.size = bX := ⟨_, rfl⟩
            have hbXB : w.heap.size + 1 < bX := by omega
            rw [hbXe] at hX hXl ⊢
            clear hwX hbXe
            refine (fits64 C HCB.out.1 HCB.out.2 _).mono ?_
            rw [HFT.out]
            rintro e w1 ⟨rfl, rfl⟩
            obtain ⟨x0, x1, x2⟩ := cells3 hX
            go_wp2_with fail
            refine (wput_any 15 4 (tsTo l k) (w.heap.size + 1) (w.heap.size + 1) _ (by decide) (by decide) (by decide) HTL.out (Nat.le_refl _) hinvX).mono ?_
            rintro e w3 ⟨rfl, hi1, hb1, hkp⟩
            have hX2 := hkp bX _ _ _ hX (by omega) (by decide)
            clear x0 x1 x2
            obtain ⟨x0, x1, x2⟩ := cells3 hX2
            go_wp2_with fail
            refine (wput_any (wU C) 64 _ (w.heap.size + 1) (w.heap.size + 1) _ (wU_bd C).1 (wU_bd C).2 (by decide) (by rw [List.length_append, signs_len]; have := HTL.out; have := HTQ.out; omega) (Nat.le_refl _) hi1).mono ?_
            rintro e w4 ⟨rfl, hi2, hb2, _⟩
            rw [← HCF.out] at hi2
            have HW2 := Lib.hid hi2
            have HB2 := Lib.hid ((hbX.trans hb1).trans hb2)
            clear hi1 hi2 hb1 hb2 hkp hX hX2 x0 x1 x2 hbX hinvX
            go_wp2_with fail
            go_roundw
            case rel => exact ⟨k + 1, t, ST', by omega, by go_num, rfl, by first | rfl | exact congrArg (Value.int .i64) HST.out, HLN, HSN, HW2, HB2⟩
            case measure => simp [intOf]; omega
    · obtain rfl : k = n := by omega
      obtain ⟨vB, hx, hown⟩ := HI.out
      obtain ⟨va, vc, rfl, hv1, hv2, _⟩ := (own_sl hown).shape
      have hbel : Below w.heap.size w wr := hAb.trans (HB.out.mono (by omega))
      have hR := (HB.out.block w.heap.size (by omega)).trans hA0
      obtain ⟨⟨r0, r1⟩, ⟨f0, f1⟩⟩ := box2 hR
      obtain ⟨⟨q0, q1⟩, -⟩ := box2 hx
      have hR2 := box2_store (.slice va (pack (tsTo l k)).length vc) (.int .i64 (tsTo l k).length) hR
      obtain ⟨⟨s0, s1⟩, -⟩ := box2 hR2
      have hne : ∀ j, (Value.slice va (pack (tsTo l k)).length vc).ownBlock ≠ some (⟨w.heap.size, j, none⟩ : Addr).block := fun j h => absurd (hown.lt _ h).1 (by show ¬ (w.heap.size + 1 ≤ w.heap.size); omega)
      have hown2 := ownsRow_setCell_other (ownsRow_setCell_other hown (a := ⟨w.heap.size, 0, none⟩) (hne 0) (.slice va (pack (tsTo l k)).length vc)) (a := ⟨w.heap.size, 1, none⟩) (hne 1) (.int .i64 (tsTo l k).length)
      have HOWN := Lib.hid hown2
      have hb3 := (hbel.setCell (p := ⟨w.heap.size, 0, none⟩) (Nat.le_refl _) (.slice va (pack (tsTo l k)).length vc)).setCell (p := ⟨w.heap.size, 1, none⟩) (Nat.le_refl _) (.int .i64 (tsTo l k).length)
      clear hown hown2 hx hR hR2
      go_wp2_with fail
      refine bodyPost_ret (v := .tuple #[.agg #[.slice va (pack (tsTo l k)).length vc, .int .i64 (tsTo l k).length], .int .i64 0]) (by simp [results, Tryd.results17, go_sem, s0, s1]) rfl ?_
      exact ⟨_, rfl, HOWN.out, hb3⟩
end Go.Proofs.YtbifhmbfmoeofaaDoor.Delta
/-
  Measures as bits, as a plain function: noughts ahead and behind.
-/
namespace Go.Gh
open Go.RowKit
set_option linter.unusedVariables false

def runF : List Bool → Nat
  | [] => 0
  | b :: s => if b then 0 else runF s + 1
theorem runF_le (s : List Bool) : runF s ≤ s.length := by
  induction s with
  | nil => simp [runF]
  | cons b s ih => rw [runF]; split <;> simp <;> omega
theorem runF_step (s : List Bool) : ∀ k, k < s.length → k ≤ runF s → if s.getD k false then runF s = k else k + 1 ≤ runF s := by
  induction s with
  | nil => intro k h; simp at h
  | cons b s ih =>
    intro k h hr
    cases k with
    | zero =>
      cases b
      · simp [runF]
      · simp [runF]
    | succ k =>
      cases b
      · have := ih k (by simpa using h) (by simpa [runF] using hr)
        simp only [List.getD_cons_succ, runF]
        simp only [Bool.false_eq_true, if_false] at *
        split at this <;> simp_all
      · simp [runF] at hr
theorem runF_end {s : List Bool} (h : s.length ≤ runF s) : runF s = s.length := Nat.le_antisymm (runF_le s) h

/-- L bits and no fewer. -/
def IsLen (x L : Nat) : Prop := x < 2 ^ L ∧ (L = 0 ∨ 2 ^ (L - 1) ≤ x)
theorem isLen_shift {x k L : Nat} (hx : 2 ^ k ≤ x) (h : IsLen (x / 2 ^ k) L) : IsLen x (k + L) := by
  have hp : 0 < 2 ^ k := Nat.two_pow_pos k
  have h1 : 1 ≤ x / 2 ^ k := (Nat.le_div_iff_mul_le hp).2 (by omega)
  obtain ⟨ha, hb⟩ := h
  have hL : L ≠ 0 := by rintro rfl; simp at ha; omega
  refine ⟨?_, Or.inr ?_⟩
  · rw [Nat.pow_add, Nat.mul_comm]
    exact (Nat.div_lt_iff_lt_mul hp).1 ha
  · have h2 : 2 ^ (L - 1) ≤ x / 2 ^ k := by omega
    rw [show k + L - 1 = (L - 1) + k by omega, Nat.pow_add]
    exact (Nat.le_div_iff_mul_le hp).1 h2
theorem bitI_top {x n : Nat} (h : x < 2 ^ (n + 1)) : bitI (x : Int) n = decide (2 ^ n ≤ x) := by
  unfold bitI
  rw [two_pow_cast, ← Int.natCast_ediv]
  rw [Nat.pow_succ] at h
  by_cases hx : 2 ^ n ≤ x
  · have : x / 2 ^ n = 1 := by
      have h1 : 1 ≤ x / 2 ^ n := (Nat.le_div_iff_mul_le (Nat.two_pow_pos n)).2 (by omega)
      have h2 : x / 2 ^ n < 2 := (Nat.div_lt_iff_lt_mul (Nat.two_pow_pos n)).2 (by omega)
      omega
    rw [this]; simp [hx]
  · have : x / 2 ^ n = 0 := Nat.div_eq_of_lt (by omega)
    rw [this]; simp [hx]
theorem lead_len {x L : Nat} (h : IsLen x L) : ∀ n, L ≤ n → runF (signs (x : Int) n) = n - L := by
  intro n
  induction n with
  | zero => intro hL; simp [signs, runF]
  | succ n ih =>
    intro hL
    have hlt : x < 2 ^ (n + 1) := Nat.lt_of_lt_of_le h.1 (Nat.pow_le_pow_right (by decide) hL)
    rw [signs, runF, bitI_top hlt]
    by_cases he : L = n + 1
    · have : 2 ^ n ≤ x := by
        rcases h.2 with h2 | h2
        · omega
        · rw [he] at h2; simpa using h2
      simp [this, he]
    · have : ¬ 2 ^ n ≤ x := by
        have := Nat.lt_of_lt_of_le h.1 (Nat.pow_le_pow_right (show 0 < 2 by decide) (show L ≤ n by omega))
        omega
      simp only [this, decide_false, Bool.false_eq_true, if_false]
      rw [ih (by omega)]
      omega
theorem tail_ctz : ∀ (n x : Nat), runF (signs (x : Int) n).reverse = Lib.ctzFrom n x := by
  intro n
  induction n with
  | zero => intro x; rfl
  | succ n ih =>
    intro x
    rw [signs_half, List.reverse_append, List.reverse_cons, List.reverse_nil, List.nil_append, List.singleton_append, runF, Lib.ctzFrom]
    have e : (x : Int) / 2 = ((x / 2 : Nat) : Int) := by omega
    rw [e, ih (x / 2)]
    have hb : bitI (x : Int) 0 = decide (x % 2 = 1) := by
      unfold bitI
      rw [Int.pow_zero, Int.ediv_one]
      rcases (show x % 2 = 0 ∨ x % 2 = 1 by omega) with h | h
      · have : (x : Int) % 2 = 0 := by omega
        rw [this, h]; rfl
      · have : (x : Int) % 2 = 1 := by omega
        rw [this, h]; rfl
    rw [hb]
    by_cases hx : x % 2 = 1
    · simp [hx]
    · simp [hx]; omega
theorem bitI_down (v : Int) (b i : Nat) : bitI (v / 2 ^ b) i = bitI v (i + b) := by
  unfold bitI
  rw [Int.ediv_ediv_of_nonneg (Int.le_of_lt (two_pow_pos b)), Nat.add_comm, ← Int.pow_add]
theorem mid_signs (v : Int) (n a b : Nat) (h : a + b ≤ n) : ((signs v n).drop a).take (n - b - a) = signs (v / 2 ^ b) (n - a - b) := by
  apply List.ext_getElem?
  intro k
  by_cases hk : k < n - a - b
  · have h1 : (((signs v n).drop a).take (n - b - a)).length = n - a - b := by rw [List.length_take, List.length_drop, signs_len]; omega
    have e1 : (((signs v n).drop a).take (n - b - a)).getD k false = bitI v (n - 1 - (a + k)) := by
      rw [List.getD_eq_getElem?_getD, List.getElem?_take, if_pos (by omega), List.getElem?_drop, ← List.getD_eq_getElem?_getD, signs_get _ _ _ (by omega)]
    have e2 : (signs (v / 2 ^ b) (n - a - b)).getD k false = bitI v (n - 1 - (a + k)) := by
      rw [signs_get _ _ _ hk, bitI_down]
      congr 1; omega
    have l1 : k < (((signs v n).drop a).take (n - b - a)).length := by omega
    have l2 : k < (signs (v / 2 ^ b) (n - a - b)).length := by rw [signs_len]; exact hk
    rw [List.getD_eq_getElem?_getD, List.getElem?_eq_getElem l1] at e1
    rw [List.getD_eq_getElem?_getD, List.getElem?_eq_getElem l2] at e2
    rw [List.getElem?_eq_getElem l1, List.getElem?_eq_getElem l2]
    simp only [Option.getD_some] at e1 e2
    rw [e1, e2]
  · rw [List.getElem?_eq_none (by rw [List.length_take, List.length_drop, signs_len]; omega), List.getElem?_eq_none (by rw [signs_len]; omega)]

def leadF (T : Int) : Nat := runF (signs T 64)
def tailF (T : Int) : Nat := runF (signs T 64).reverse
theorem leadF_le (T : Int) : leadF T ≤ 64 := by have := runF_le (signs T 64); rwa [signs_len] at this
theorem lead_nat {x L : Nat} (h : IsLen x L) (hL : L ≤ 64) : leadF (x : Int) = 64 - L := lead_len h 64 hL
theorem tail_nat {x : Nat} (hx : x ≠ 0) : tailF (x : Int) = Lib.ctz 64 x := by
  unfold tailF Lib.ctz
  rw [if_neg hx, tail_ctz]
theorem lead_zero : leadF 0 = 64 := by decide
/-- A number that is not nought: its noughts ahead and behind leave a bit. -/
theorem lead_tail {x : Nat} (hx : x ≠ 0) (hb : x < 18446744073709551616) : leadF (x : Int) + tailF (x : Int) ≤ 63 := by
  obtain ⟨m, hm, hk⟩ := Lib.ctzFrom_spec 64 x (by omega) hb
  have ht : tailF (x : Int) = Lib.ctzFrom 64 x := tail_ctz 64 x
  generalize Lib.ctzFrom 64 x = k at *
  have hl : IsLen x (x.log2 + 1) := by
    refine ⟨Nat.lt_log2_self, Or.inr ?_⟩
    exact Nat.log2_self_le hx
  have h64 : x.log2 + 1 ≤ 64 := by
    have := (Nat.log2_lt hx).2 (show x < 2 ^ 64 from hb)
    omega
  rw [ht, lead_nat hl h64]
  have h1 : 2 ^ k ≤ x := by rw [hm]; exact Nat.le_mul_of_pos_right _ (by omega)
  have := (Nat.le_log2 hx).2 h1
  omega

/-- What is written of a turn. -/
def midB (T : Int) (a b : Nat) : List Bool := signs (T / 2 ^ b) (64 - a - b)
def putX (s : List Bool) (ld tl : Int) (T : Int) : List Bool × Int × Int :=
  if T = 0 then (s ++ [false], ld, tl)
  else if 0 ≤ ld ∧ ld ≤ leadF T ∧ tl ≤ tailF T then (s ++ [true, false] ++ midB T ld.toNat tl.toNat, ld, tl)
  else (s ++ [true, true] ++ signs (leadF T) 6 ++ signs (63 - leadF T - tailF T) 6 ++ midB T (leadF T) (tailF T), (leadF T : Int), (tailF T : Int))
def xorI (x y : Int) : Int := bits .xor .u64 x y
def msTo (l : List Int) : Nat → List Bool × Int × Int
  | 0 => (signs l.length 16, -1, -1)
  | 1 => (signs l.length 16 ++ signs (l.getD 0 0) 64, -1, -1)
  | k + 2 => putX (msTo l (k + 1)).1 (msTo l (k + 1)).2.1 (msTo l (k + 1)).2.2 (xorI (l.getD (k + 1) 0) (l.getD k 0))
theorem ms_zero (l : List Int) : msTo l 0 = (signs l.length 16, -1, -1) := rfl
theorem ms_first (l : List Int) : msTo l 1 = (signs l.length 16 ++ signs (l.getD 0 0) 64, -1, -1) := rfl
theorem ms_next (l : List Int) (k : Nat) : msTo l (k + 1 + 1) = putX (msTo l (k + 1)).1 (msTo l (k + 1)).2.1 (msTo l (k + 1)).2.2 (xorI (l.getD (k + 1) 0) (l.getD k 0)) := rfl
theorem putX_len (s : List Bool) (ld tl T : Int) : (putX s ld tl T).1.length ≤ s.length + 78 := by
  unfold putX
  split
  · simp
  · split
    · simp [midB, signs_len]; omega
    · simp [midB, signs_len]; omega
theorem ms_len (l : List Int) : ∀ k, (msTo l k).1.length ≤ 80 + 78 * k
  | 0 => by rw [ms_zero, signs_len]; omega
  | 1 => by rw [ms_first]; simp [signs_len]
  | k + 2 => by
    rw [ms_next]
    have h1 := ms_len l (k + 1)
    have h2 := putX_len (msTo l (k + 1)).1 (msTo l (k + 1)).2.1 (msTo l (k + 1)).2.2 (xorI (l.getD (k + 1) 0) (l.getD k 0))
    omega
/-- A window, or none yet. -/
def winOk (ld tl : Int) : Prop := (ld = -1 ∧ tl = -1) ∨ (0 ≤ ld ∧ 0 ≤ tl ∧ ld + tl ≤ 63)
theorem putX_win {s : List Bool} {ld tl T : Int} (h : winOk ld tl) (h0 : 0 ≤ T) (h1 : T < 18446744073709551616) : winOk (putX s ld tl T).2.1 (putX s ld tl T).2.2 := by
  unfold putX
  split
  · exact h
  · rename_i hT
    split
    · exact h
    · obtain ⟨x, rfl⟩ := Int.eq_ofNat_of_zero_le h0
      have := lead_tail (x := x) (by omega) (by omega)
      right
      simp only
      omega
end Go.Gh
/-
  The walks of the small functions behind xor's Pack: run, backward, size, the noughts ahead and behind.
-/
namespace Go.Proofs.YtbifhmbfmoeofaaDoor.Xor
open Go.RowKit Go.Gh Go.Proofs.YtbifhmbfmoeofaaDoor.Bits
set_option linter.unusedVariables false

theorem run_any (s : List Bool) (hn : s.length ≤ 100000) (w : World) :
    Calls Tryd.prog 42 #[.string (sbits s)] w fun e w' => e = .returned (.int .i64 (runF s)) ∧ w = w' := by
  go_enter Tryd.func42, Tryd.ntmps42
  go_wp2_with fail
  go_loop [3] (fun i => ∃ (k : Nat), k ≤ s.length ∧ k ≤ runF s ∧ i = .int .i64 k) (fun i => s.length - (intOf i).toNat)
  case atStart => exact ⟨0, by omega, by omega, rfl⟩
  case round =>
    obtain ⟨k, hk, hr, rfl⟩ := hrel
    by_cases hlt : k < s.length
    · have hk2 : k < (sbits s).size := by rw [sbits_size]; exact hlt
      have hsz : (sbits s).size ≤ 100000 := by rw [sbits_size]; exact hn
      have hg := sbits_get s k hk2 hlt
      have hst := runF_step s k hlt hr
      have he : s.getD k false = s[k] := by rw [List.getD_eq_getElem?_getD, List.getElem?_eq_getElem hlt]; rfl
      rw [he] at hst
      by_cases hb : s[k] = true
      · have t1 : ((((sbits s)[k]'hk2).toNat : Int) == 48) = false := by rw [hg, if_pos hb]; rfl
        rw [if_pos hb] at hst
        have HST := Lib.hid hst
        clear hg hst
        go_wp2
        go_ret
        exact ⟨by rw [HST.out]; rfl, rfl⟩
      · have t1 : ((((sbits s)[k]'hk2).toNat : Int) == 48) = true := by rw [hg, if_neg hb]; rfl
        rw [if_neg hb] at hst
        clear hg
        go_wp2
        go_round
        case rel => exact ⟨k + 1, by omega, by omega, by go_num⟩
        case measure => simp [intOf]; omega
    · have hz : s.length = (sbits s).size := (sbits_size s).symm
      obtain rfl : k = s.length := by omega
      have hge : (sbits s).size ≤ s.length := by omega
      have HE := Lib.hid (runF_end hr)
      clear hz
      go_wp2
      go_ret
      exact ⟨by rw [HE.out]; rfl, rfl⟩
theorem sbits_one (s : List Bool) (k : Nat) (h : k < s.length) : (sbits s).extract k (k + 1) = sbits [s.getD k false] := by
  unfold sbits
  rw [ByteArray.extract_mk]
  rw [show k + 1 - k = 1 by omega, List.drop_eq_getElem_cons (by simpa using h)]
  simp [List.getD_eq_getElem?_getD, List.getElem?_eq_getElem h]
theorem backward_any (s : List Bool) (hn : s.length ≤ 100000) (w : World) :
    Calls Tryd.prog 43 #[.string (sbits s)] w fun e w' => e = .returned (.string (sbits s.reverse)) ∧ w = w' := by
  have hsz : (sbits s).size = s.length := sbits_size s
  go_enter Tryd.func43, Tryd.ntmps43
  go_wp2_with fail
  go_loop [3, 4, 7] (fun x _ i => ∃ (k : Nat) (S : ByteArray), k ≤ s.length ∧ i = .int .i64 k ∧ x = .string S ∧ Hid (S = sbits (s.take k).reverse) ∧ S.size ≤ k) (fun _ _ i => s.length - (intOf i).toNat)
  case atStart => exact ⟨0, _, by omega, rfl, rfl, by show _ = _; simp [sbits], by decide⟩
  case round =>
    obtain ⟨k, S, hk, rfl, rfl, hS, hSz⟩ := hrel
    by_cases hlt : k < s.length
    · have h1 : k ≤ (sbits s).size := by omega
      have h2 : k + 1 ≤ (sbits s).size := by omega
      have hx : ((sbits s).extract k (k + 1)).size = 1 := by rw [sbits_one s k hlt, sbits_size]; rfl
      have HX : Hid ((sbits s).extract k (k + 1) ++ S = sbits (s.take (k + 1)).reverse) := by
        show _ = _
        rw [sbits_one s k hlt, hS.out, sbits_append, take_snoc' s k hlt, List.reverse_append]
        simp [List.getD_eq_getElem?_getD, List.getElem?_eq_getElem hlt]
      have hsum : ((sbits s).extract k (k + 1)).size + S.size ≤ 9223372036854775807 := by omega
      go_wp2
      go_round
      case rel =>
        refine ⟨k + 1, _, by omega, by go_num, rfl, HX, ?_⟩
        rw [ByteArray.size_append]; omega
      case measure => simp [intOf]; omega
    · obtain rfl : k = s.length := by omega
      have HE : Hid (S = sbits s.reverse) := by show _ = _; rw [hS.out, List.take_length]
      go_wp2
      go_ret
      exact ⟨ret_str HE.out, rfl⟩
theorem size_any (b : Bool) (ld tl : Int) (h : 0 ≤ ld ∧ 0 ≤ tl ∧ ld + tl ≤ 64) (w : World) :
    Calls Tryd.prog 41 #[.agg #[.bool b, .int .i64 ld, .int .i64 tl]] w fun e w' => e = .returned (.int .i64 (64 - ld - tl)) ∧ Below w.heap.size w w' := by
  go_enter Tryd.func41, Tryd.ntmps41
  go_wp2
  go_ret
  exact ⟨rfl, (Below.refl _ _).alloc (Nat.le_refl _) _⟩
end Go.Proofs.YtbifhmbfmoeofaaDoor.Xor
/-
  The walks of math/bits: Len64 (after the kit's worked walk), LeadingZeros64, TrailingZeros64.
-/
namespace Go.Proofs.YtbifhmbfmoeofaaDoor.Xor
open Go.RowKit Go.Gh Go.Proofs.YtbifhmbfmoeofaaDoor.Bits
set_option linter.unusedVariables false

theorem isLen_aux : ∀ f x, x < 2 ^ f → IsLen x (Lib.bitLenAux f x) := by
  intro f
  induction f with
  | zero => intro x h; exact ⟨h, Or.inl rfl⟩
  | succ f ih =>
    intro x h
    rw [Lib.bitLenAux]
    split
    · rename_i h0; subst h0; exact ⟨by decide, Or.inl rfl⟩
    · rename_i h0
      have hx : x / 2 < 2 ^ f := by rw [Nat.pow_succ] at h; omega
      have hi := ih (x / 2) hx
      by_cases h1 : x = 1
      · subst h1
        have : Lib.bitLenAux f (1 / 2) = 0 := by cases f <;> simp [Lib.bitLenAux]
        rw [this]
        exact ⟨by decide, Or.inr (by decide)⟩
      · exact isLen_shift (k := 1) (by omega) hi
theorem isLen_bitLen {x : Nat} (h : x < 18446744073709551616) : IsLen x (Lib.bitLen x) := isLen_aux 64 x h
theorem bitLen_64 {x : Nat} (h : x < 18446744073709551616) : Lib.bitLen x ≤ 64 := by
  have := (isLen_bitLen h).2
  rcases this with h1 | h1
  · omega
  · refine Nat.le_of_not_lt fun hc => ?_
    have : 2 ^ 64 ≤ 2 ^ (Lib.bitLen x - 1) := Nat.pow_le_pow_right (by decide) (by omega)
    omega

theorem isLen_uniq {x a b : Nat} (ha : IsLen x a) (hb : IsLen x b) : a = b := by
  have key : ∀ {a b : Nat}, IsLen x a → IsLen x b → ¬ a < b := by
    intro a b ha hb hlt
    rcases hb.2 with h | h
    · omega
    · have := Nat.lt_of_lt_of_le ha.1 (Nat.pow_le_pow_right (show 0 < 2 by decide) (show a ≤ b - 1 by omega))
      omega
  have h1 := key ha hb
  have h2 := key hb ha
  omega
theorem tab_len (y : Nat) (hy : y < 256) (h : y < Lib.len8tab.size) : ((Lib.len8tab[y]'h).toNat : Int) = Lib.bitLen y ∧ Lib.bitLen y ≤ 8 := by
  have e := Lib.len8_eq ⟨y, hy⟩
  have l := Lib.bitLen_le8 ⟨y, hy⟩
  refine ⟨?_, l⟩
  rw [← e]
  unfold Lib.len8
  simp only [Int.toNat_natCast]
  rw [ByteArray.getElem?_lt' _ _ h]
  rfl
theorem len_fin (x y : Int) (k : Nat) (h0 : 0 ≤ x) (h1 : x ≤ 18446744073709551615) (hk : (2 : Int) ^ k ≤ x) (hk64 : k ≤ 64) (hy : y = x / 2 ^ k) (hy2 : y < 256) (hb : y.toNat < Lib.len8tab.size) :
    wrap64 (k + wrap64 ((Lib.len8tab[y.toNat]'hb).toNat : Int)) = (Lib.bitLen x.toNat : Int) := by
  obtain ⟨X, rfl⟩ := Int.eq_ofNat_of_zero_le h0
  rw [two_pow_cast] at hk hy
  obtain ⟨Y, hY⟩ : ∃ Y, X / 2 ^ k = Y := ⟨_, rfl⟩
  have hy' : y = (Y : Int) := by rw [hy, ← hY]; rfl
  subst hy'
  simp only [Int.toNat_natCast] at hb ⊢
  obtain ⟨e, l⟩ := tab_len Y (by omega) hb
  rw [e]
  have hs := isLen_shift (x := X) (k := k) (by omega) (by rw [hY]; exact isLen_bitLen (by omega))
  rw [isLen_uniq (isLen_bitLen (x := X) (by omega)) hs]
  unfold wrap64
  omega
theorem len_fin0 (x : Int) (h0 : 0 ≤ x) (hy2 : x < 256) (hb : x.toNat < Lib.len8tab.size) :
    wrap64 (wrap64 ((Lib.len8tab[x.toNat]'hb).toNat : Int)) = (Lib.bitLen x.toNat : Int) := by
  obtain ⟨e, l⟩ := tab_len x.toNat (by omega) hb
  rw [e]
  unfold wrap64
  omega
set_option maxHeartbeats 4000000 in
set_option maxRecDepth 100000 in
theorem len64_any (x : Int) (w : World) (h0 : 0 ≤ x) (h1 : x ≤ 18446744073709551615) :
    Calls Tryd.prog 53 #[.int .u64 x] w fun e w' => e = .returned (.int .i64 (Lib.bitLen x.toNat)) ∧ w' = w := by
  go_enter Tryd.func53, Tryd.ntmps53
  have hsz : Lib.len8tab.size = 256 := Lib.len8tab_size
  go_wp2_with fail
  all_goals go_ret
  all_goals refine ⟨congrArg Ending.returned (congrArg (Value.int IntKind.i64) ?_), rfl⟩
  · exact len_fin x _ 56 h0 h1 (by omega) (by decide) (by omega) (by omega) _
  · exact len_fin x _ 48 h0 h1 (by omega) (by decide) (by omega) (by omega) _
  · exact len_fin x _ 40 h0 h1 (by omega) (by decide) (by omega) (by omega) _
  · exact len_fin x _ 32 h0 h1 (by omega) (by decide) (by omega) (by omega) _
  · exact len_fin x _ 24 h0 h1 (by omega) (by decide) (by omega) (by omega) _
  · exact len_fin x _ 16 h0 h1 (by omega) (by decide) (by omega) (by omega) _
  · exact len_fin x _ 8 h0 h1 (by omega) (by decide) (by omega) (by omega) _
  · exact len_fin0 x h0 (by omega) _
theorem leading_any (x : Nat) (h : x < 18446744073709551616) (w : World) :
    Calls Tryd.prog 39 #[.int .u64 x] w fun e w' => e = .returned (.int .i64 (leadF x)) ∧ w' = w := by
  have hb := bitLen_64 h
  have HE := Lib.hid (lead_nat (isLen_bitLen h) hb)
  have HX : Hid ((x : Int).toNat = x) := Int.toNat_natCast x
  obtain ⟨L, hL⟩ : ∃ L, Lib.bitLen x = L := ⟨_, rfl⟩
  have HL := Lib.hid hL
  rw [hL] at hb
  clear hL
  go_enter Tryd.func39, Tryd.ntmps39
  go_wp2_with fail
  refine (len64_any x _ (by omega) (by omega)).mono ?_
  rw [HX.out, HL.out]
  rintro e w' ⟨rfl, rfl⟩
  go_wp2_with fail
  go_ret
  refine ⟨congrArg Ending.returned (congrArg (Value.int IntKind.i64) ?_), rfl⟩
  rw [HE.out, HL.out]
  omega
/-- The table in its variable. -/
def TabX (w : World) : Prop := ∀ j, j < 64 → w.cell? ⟨1, j, none⟩ = some (.int .u8 (Lib.deBruijn64tab.getD j 0)) 
theorem TabX.below {w w' : World} (h : TabX w) (hb : Below 2 w w') : TabX w' := fun j hj => (hb.cell (p := ⟨1, j, none⟩) (show 1 < 2 by decide)).trans (h j hj)
theorem tz_key (x a : Nat) (hx : x < 18446744073709551616) (hx0 : x ≠ 0) (hlow : x &&& (18446744073709551616 - x) = a) :
    IntKind.u64.wrap (bits BinOp.and IntKind.u64 (x : Int) (IntKind.u64.wrap (-(x : Int))) * 285870213051353865) / 288230376151711744 = ((a * 285870213051353865 % 18446744073709551616 / 288230376151711744 : Nat) : Int) := by
  have e1 : IntKind.u64.wrap (-(x : Int)) = ((18446744073709551616 - x : Nat) : Int) := by rw [IntKind.wrap_u64]; omega
  rw [e1, bits_and_u64_nat x _ hx (by omega), hlow, IntKind.wrap_u64]
  omega
set_option maxHeartbeats 1000000 in
theorem tz_core (x k idx : Nat) (w : World) (hx0 : ((x : Int) == 0) = false)
    (key : IntKind.u64.wrap (bits BinOp.and IntKind.u64 (x : Int) (IntKind.u64.wrap (-(x : Int))) * 285870213051353865) / 288230376151711744 = (idx : Int))
    (hi : idx < 64) (hk : k < 64) (hcell : w.cell? ⟨1, idx, none⟩ = some (.int .u8 k)) :
    Calls Tryd.prog 40 #[.int .u64 x] w fun e w' => e = .returned (.int .i64 k) ∧ w' = w := by
  go_enter Tryd.func40, Tryd.ntmps40
  go_wp2_with (simp only [key])
  go_ret
  exact ⟨rfl, rfl⟩
theorem trailing_any (x : Nat) (hx : x < 18446744073709551616) (hx0 : x ≠ 0) (w : World) (hT : TabX w) :
    Calls Tryd.prog 40 #[.int .u64 x] w fun e w' => e = .returned (.int .i64 (tailF x)) ∧ w' = w := by
  obtain ⟨hlow, hk⟩ := Lib.lowest_bit 64 x hx0 hx
  obtain ⟨hi, htab⟩ := Lib.deBruijn64_at _ hk
  have hcell := hT _ hi
  rw [htab] at hcell
  rw [tail_nat hx0]
  exact tz_core x _ _ w (by simp; omega) (tz_key x _ hx hx0 hlow) hi hk hcell
end Go.Proofs.YtbifhmbfmoeofaaDoor.Xor
