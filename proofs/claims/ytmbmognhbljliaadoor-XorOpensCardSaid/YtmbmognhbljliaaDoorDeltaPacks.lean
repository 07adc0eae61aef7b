/-
  The walk of the law DeltaPacks.
-/
import Derived.Test.YtmbmognhbljliaaDoorDelta2
import Derived.Test.YtmbmognhbljliaaDoorBits7
import Derived.Test.YtmbmognhbljliaaDoorBitsV
namespace Go.Proofs.YtmbmognhbljliaaDoor.DeltaPacks
open Go.RowKit Go.Gh Go.Proofs.YtmbmognhbljliaaDoor.Bits Go.Proofs.YtmbmognhbljliaaDoor.Delta
set_option linter.unusedVariables false

theorem pack_large (v : Value) (n : Nat) (xs : List Value) (w : World) (hs : Sl w 1 v n xs) (hn : 1000 < n) (hn' : n ≤ 140737488355328) :
    Calls Tryd.prog 7 #[v] w fun e w' => e = .returned (.tuple #[.agg #[.slice none 0 0, .int .i64 0], .int .i64 2]) ∧ Below w.heap.size w w' := by
  obtain ⟨ao, c, rfl, hnc, hc, _⟩ := hs.shape
  go_enter Tryd.func7, Tryd.ntmps7
  go_wp2_with fail
  have hA0 := heap_alloc_new w (Obj.cells #[.slice none 0 0, .int .i64 0] 25)
  obtain ⟨⟨r0, r1⟩, -⟩ := box2 hA0
  refine bodyPost_ret (v := .tuple #[.agg #[.slice none 0 0, .int .i64 0], .int .i64 2]) (by simp [results, Tryd.results7, go_sem, r0, r1]) rfl ?_
  exact ⟨rfl, (Below.refl _ w).alloc (Nat.le_refl _) _⟩

set_option maxRecDepth 100000 in
set_option maxHeartbeats 4000000 in
theorem walk (v : Value) (w : World) (h : IsInts .i64 w v) (hT : Table w) :
    Calls Tryd.prog 3 #[v] w fun e w' => e = .returned (.bool true) ∧ Below w.heap.size w w' := by
  obtain ⟨n, l, hs, hwf, hn⟩ := h
  obtain ⟨ao, c, rfl, hnc, hc, hlen⟩ := hs.shape
  have hl : l.length = n := by simpa using hlen
  have HWF := Lib.hid hwf
  have HL := Lib.hid hl
  clear hwf hl hlen
  go_enter Tryd.func3, Tryd.ntmps3
  by_cases hbig : 1000 < n
  · go_wp2_with fail
    refine (pack_large _ n _ _ hs hbig hn).mono ?_
    rintro e w1 ⟨rfl, hb1⟩
    have hb2 := hb1.alloc hb1.size (Obj.cells #[.slice none 0 0, .int .i64 0] 25)
    have hx := heap_alloc_new w1 (Obj.cells #[.slice none 0 0, .int .i64 0] 25)
    obtain ⟨⟨r0, r1⟩, -⟩ := box2 hx
    clear hx
    go_wp2_with fail
    refine (samebits_any _ _ [] [] 0 0 _ (bv_zero _) (bv_zero _)).mono ?_
    rintro e w3 ⟨rfl, hb3⟩
    rw [sameB_one]
    have hb4 := hb2.trans (hb3.mono hb2.size)
    clear hb1 hb2 hb3 r0 r1
    go_wp2_with fail
    go_ret
    exact ⟨rfl, hb4⟩
  · have hn1 : n ≤ 1000 := by omega
    clear hbig
    go_wp2_with fail
    refine (pack_any _ n l _ hs HL.out HWF.out hn1 hT).mono ?_
    rintro e w1 ⟨y, rfl, hown, hb1⟩
    obtain ⟨ay, cy, rfl, _, _, _⟩ := (own_sl hown).shape
    have hpl : (pack (tsTo l n)).length ≤ 9000 := by have := ts_len l n; rw [pack_len]; omega
    have htl : (tsTo l n).length ≤ 68080 := by have := ts_len l n; omega
    have hy := bv_own (N := ((tsTo l n).length : Int)) hown (pack_bytes _) (by omega) (by omega) (by omega)
    obtain ⟨L, hL⟩ : ∃ L, pack (tsTo l n) = L := ⟨_, rfl⟩
    obtain ⟨N, hN⟩ : ∃ N : Int, ((tsTo l n).length : Int) = N := ⟨_, rfl⟩
    have HLL := Lib.hid hL
    have HNN := Lib.hid hN
    have HTL := Lib.hid htl
    rw [hL, hN] at hy
    rw [hL, hN]
    rw [hL] at hpl
    clear hown hL hN htl
    go_upto_region 2 with (fail)
    refine wp_abs (fun w2 => BitsV w2 (.agg #[.slice ay L.length cy, .int .i64 N]) L N ∧ Sl w2 1 (.slice ao n c) n (l.map (Value.int .i64)) ∧ w2.heap[w1.heap.size]? = some (.cells #[.slice ay L.length cy, .int .i64 N] 25 (0, 0)) ∧ Below w.heap.size w w2 ∧ w1.heap.size + 1 ≤ w2.heap.size)
        ⟨bv_below hy ((Below.refl _ _).alloc (Nat.le_refl _) _), hs.below (hb1.alloc hb1.size _), heap_alloc_new w1 _, hb1.alloc hb1.size _, by simp⟩ ?_
    clear hy hs
    rintro w2 ⟨hy, hs, hb, hbel, hsz⟩
    obtain ⟨⟨r0, r1⟩, -⟩ := box2 hb
    clear hb hb1
    have hd : decide (1000 < (n : Int)) = false := decide_eq_false (by omega)
    by_cases h60 : 60 < n
    · have hd2 : decide (60 < (n : Int)) = true := decide_eq_true (by omega)
      go_upto_region 4 with (fail)
      go_quiet (fail)
      go_wp2_with fail
      go_ret
      exact ⟨rfl, below_drewN hbel _⟩
    · have hz : w1.heap.size < w2.heap.size := by omega
      have hd2 : decide (60 < (n : Int)) = false := decide_eq_false (by omega)
      have hz2 := hbel.size
      go_upto_region 4 with (fail)
      go_region_law (first
        | (go_simp; go_at_call 10; refine (timesigns_any _ n l _ (hs.below (Below.refl _ _).drew) HL.out HWF.out hn1).mono ?_; rintro e wu ⟨rfl, hbu⟩; have hBu : Below w2.heap.size w2 wu := ((Below.refl _ _).drew).trans hbu; have yu0 := (hBu.cell (p := ⟨w1.heap.size, 0, none⟩) hz).trans r0; have yu1 := (hBu.cell (p := ⟨w1.heap.size, 1, none⟩) hz).trans r1)
        | (go_simp; go_at_call 9; refine (packed_any _ (by have := HTL.out; omega) _).mono ?_; rintro e wp ⟨pb, rfl, hownp, hbp⟩; have hyp := bv_own (N := ((tsTo l n).length : Int)) hownp (pack_bytes _) (by rw [HLL.out]; omega) (by have := HTL.out; omega) (by have := HTL.out; omega); rw [HLL.out, HNN.out] at hyp; rw [HNN.out]; have hBp : Below w2.heap.size w2 wp := hBu.trans (hbp.mono hBu.size); have yp0 := (hBp.cell (p := ⟨w1.heap.size, 0, none⟩) hz).trans r0; have yp1 := (hBp.cell (p := ⟨w1.heap.size, 1, none⟩) hz).trans r1)
        | (go_simp; go_at_call 8; refine (samebits_any _ _ L L _ _ _ (bv_below hy hBp) hyp).mono ?_; rintro e wq ⟨rfl, hbq⟩; rw [sameB_one]; have hBq : Below w2.heap.size w2 wq := hBp.trans (hbq.mono hBp.size)))
      all_goals (go_wp2_with fail; go_ret; exact ⟨rfl, hbel.trans (hBq.mono hz2)⟩)
end Go.Proofs.YtmbmognhbljliaaDoor.DeltaPacks
