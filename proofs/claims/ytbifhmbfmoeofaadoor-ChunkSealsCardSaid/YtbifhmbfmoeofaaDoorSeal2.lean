/-
  The walk of chunk.Seal.
-/
import Derived.Test.YtbifhmbfmoeofaaDoorSeal1
namespace Go.Proofs.YtbifhmbfmoeofaaDoor.Seal
open Go.RowKit Go.Gh Go.Proofs.YtbifhmbfmoeofaaDoor.Bits Go.Proofs.YtbifhmbfmoeofaaDoor.Delta Go.Proofs.YtbifhmbfmoeofaaDoor.Sam Go.Proofs.YtbifhmbfmoeofaaDoor.Smp
set_option linter.unusedVariables false
def SealPost (l : List (List Int)) (w : World) (e : Ending) (w' : World) : Prop := ∃ v, e = .returned (.tuple #[v, .int .i64 0]) ∧ w'.ownsRow w.heap.size 5 1 v (sealF l).length ((sealF l).map (Value.int .u8)) ∧ Below w.heap.size w w'
theorem seal_bad (v : Value) (n : Nat) (l : List (List Int)) (w : World) (hs : Sl w 2 v n (rowCells l)) (hl : l.length = n) (hr : Rows64 2 l) (hn : n ≤ 140737488355328) (c : Int) (hc : sampF l = c) (hc0 : c ≠ 0) :
    Calls Tryd.prog 9 #[v] w fun e w' => e = .returned (.tuple #[.slice none 0 0, .int .i64 c]) ∧ Below w.heap.size w w' := by
  have t1 : (c != 0) = true := by rw [bne_iff_ne]; exact hc0
  go_enter Tryd.func9, Tryd.ntmps9
  go_wp2_with fail
  refine (check_any _ n l _ hs hl hr hn).mono ?_
  rw [hc]
  rintro e w1 ⟨rfl, hb1⟩
  go_wp2_with fail
  go_ret2
  exact ⟨rfl, hb1⟩
theorem ints_one8 (l : List Int) : ∀ u ∈ l.map (Value.int .u8), u.oneCell' = true := by
  intro u hu; simp at hu; obtain ⟨z, _, rfl⟩ := hu; rfl
theorem hD5 {w w5 : World} {bx B : Nat} {o : Obj} (hlt : bx < B) (hb : Below B w w5) (h : w.heap[bx]? = some o) : w5.heap[bx]? = some o := (hb.block bx hlt).trans h
def outK (A B : List Int) : Nat → List Int
  | 0 => []
  | 1 => A
  | _ => A ++ B
theorem ts_ge (l : List Int) : ∀ k, 16 ≤ (tsTo l k).length
  | 0 => by rw [ts_zero, signs_len]; exact Nat.le_refl _
  | 1 => by rw [ts_first, List.length_append, ts_zero, signs_len]; omega
  | k + 2 => by rw [ts_next, List.length_append]; have := ts_ge l (k + 1); omega
theorem ms_ge (l : List Int) : ∀ k, 16 ≤ (msTo l k).1.length
  | 0 => by rw [ms_zero]; show 16 ≤ (signs _ 16).length; rw [signs_len]; exact Nat.le_refl _
  | 1 => by rw [ms_first]; show 16 ≤ (signs _ 16 ++ _).length; rw [List.length_append, signs_len]; omega
  | k + 2 => by
    have h := ms_ge l (k + 1)
    rw [ms_next]
    unfold putX
    repeat' split
    all_goals (simp only [List.length_append]; omega)
theorem lt_of_some' {w : World} {b : Nat} {o : Obj} (h : w.heap[b]? = some o) : b < w.heap.size := (Array.getElem?_eq_some_iff.1 h).1
theorem rel_next {w w2 : World} {l : List (List Int)} {k bx : Nat} {x0 x1 : Int} {v1 v2 : Value} {cs : Array Value} (hk : k < l.length) (hrow : l.getD k [] = [x0, x1])
    (S : Pair w w.heap.size 2 63 65 v1 (k + 1) (((timesF l).take k).map (Value.int .i64) ++ [.int .i64 x0]) v2 (k + 1) (((valsF l).take k).map (Value.int .u64) ++ [.int .u64 (IntKind.u64.wrap x1)]) bx cs w2) :
    w2.ownsRow w.heap.size 2 1 v1 (k + 1) (((timesF l).take (k + 1)).map (Value.int .i64)) ∧ w2.ownsRow w.heap.size 63 1 v2 (k + 1) (((valsF l).take (k + 1)).map (Value.int .u64)) ∧ Below w.heap.size w w2 := by
  obtain ⟨h1, h2, h3, _⟩ := S
  rw [times_snoc hk, vals_snoc hk, hrow, List.map_append, List.map_append]
  exact ⟨h1, h2, h3⟩
set_option maxHeartbeats 8000000 in
set_option maxRecDepth 100000 in
theorem seal_any (v : Value) (n : Nat) (l : List (List Int)) (w : World) (hs : Sl w 2 v n (rowCells l)) (hl : l.length = n) (hr : Rows64 2 l) (hc : sampF l = 0) (hT : Table w) (hX : Xor.TabX w) (h2 : 2 ≤ w.heap.size) :
    Calls Tryd.prog 9 #[v] w (SealPost l w) := by
  have hn : n ≤ 1000 := by rw [← hl]; exact fault_small hc
  obtain ⟨ao, c, rfl, hnc, hcc, _⟩ := hs.shape
  have HS := Lib.hid hs
  have HL := Lib.hid hl
  have HR := Lib.hid hr
  have HC := Lib.hid hc
  have HT := Lib.hid hT
  have HX := Lib.hid hX
  have HH2 := Lib.hid h2
  clear hs hl hr hc hT hX h2
  go_enter Tryd.func9, Tryd.ntmps9
  go_wp2_with fail
  refine (check_any _ n l _ HS.out HL.out HR.out (by omega)).mono ?_
  rw [HC.out]
  rintro e w1 ⟨rfl, hb1⟩
  have HB1 := Lib.hid hb1
  clear hb1
  go_wp2_with fail
  go_loopw [5, 6, 8, 23] (fun u1 u2 _ i wx => ∃ k : Nat, k ≤ n ∧ i = .int .i64 k ∧ Hid (wx.ownsRow w.heap.size 2 1 u1 k (((timesF l).take k).map (Value.int .i64)) ∧ wx.ownsRow w.heap.size 63 1 u2 k (((valsF l).take k).map (Value.int .u64)) ∧ Below w.heap.size w wx)) (fun _ _ _ i _ => n - (intOf i).toNat)
  case atStart => exact ⟨0, by omega, rfl, Lib.hid ⟨by simpa using World.ownsRow_nil _ _ _ _, by simpa using World.ownsRow_nil _ _ _ _, HB1.out⟩⟩
  case round =>
    obtain ⟨k, hk, rfl, HREL⟩ := hrel
    obtain ⟨hO1, hO2, hB⟩ := HREL.out
    by_cases hlt : k < n
    · obtain ⟨b, off, rfl, hrl, hcell⟩ := (HS.out.below hB).rowk HL.out HR.out.k hlt
      obtain ⟨x0, x1, hrow⟩ := row2 (l.getD k []) hrl
      have c0 : wr.cell? ⟨b, off + k * 2, none⟩ = some (.int .i64 x0) := by have := hcell 0 (by decide); rw [hrow] at this; exact this
      have c1 : wr.cell? ⟨b, off + k * 2 + 1, none⟩ = some (.int .i64 x1) := by have := hcell 1 (by decide); rw [hrow] at this; exact this
      have HROW := Lib.hid hrow
      have hsz := hB.size
      obtain ⟨bx, hbx⟩ : ∃ bx, wr.heap.size = bx := ⟨_, rfl⟩
      obtain ⟨y1, hy1⟩ : ∃ y, IntKind.u64.wrap x1 = y := ⟨_, rfl⟩
      have HY := Lib.hid hy1
      obtain ⟨o1, k1, rfl, _⟩ := own_shape hO1
      obtain ⟨o2, k2, rfl, _⟩ := own_shape hO2
      have hP : Pair w w.heap.size 2 63 65 (.slice o1 k k1) k (((timesF l).take k).map (Value.int .i64)) (.slice o2 k k2) k (((valsF l).take k).map (Value.int .u64)) bx #[.int .i64 x0, .int .i64 x1] (wr.alloc (.cells #[.int .i64 x0, .int .i64 x1] 65)) :=
        ⟨hO1.alloc _, hO2.alloc _, hB.alloc hsz _, by simp; omega, by rw [← hbx]; exact heap_alloc_new wr _⟩
      have HP0 := Lib.hid hP
      clear hP hO1 hO2 hB hcell hrow hrl hy1
      go_upto_region 9 with (fail)
      generalize wr.alloc (.cells #[.int .i64 x0, .int .i64 x1] 65) = wa at *
      have S0 := HP0.out.drew
      have HKL : Hid (k < l.length) := Lib.hid (by rw [HL.out]; exact hlt)
      have hcells := HP0.out.cells
      obtain ⟨d0, d1⟩ := hcells
      clear HP0 c0 c1 hbx HREL
      go_region_held3 (fun w' => w'.cell? ⟨bx, 0, none⟩ = some (.int .i64 x0) ∧ w'.cell? ⟨bx, 1, none⟩ = some (.int .i64 x1)) (first | (with_reducible exact ⟨d0, d1⟩) | (with_reducible exact S2.cells) | (with_reducible exact S1.cells) | (with_reducible exact (S1.alloc _).cells) | (with_reducible exact (S0.alloc _).cells) | (with_reducible exact ((S0.alloc _).alloc _).cells) | go_keep) (first
        | (refine step_first elI64 rfl _ _ rfl rfl rfl (by first | exact S0.alloc _ | exact (S0.alloc _).alloc _) (by first | exact heap_alloc_new _ _ | exact two_first _ _ _ | exact two_second _ _ _) (by rfl) (by omega) (by omega) (by decide) (by decide) ?_; intro g1 cap1 w1' S1 K1)
        | (refine step_second elU64 rfl _ _ rfl rfl rfl (by first | exact S0.alloc _ | exact (S0.alloc _).alloc _) (by first | exact heap_alloc_new _ _ | exact two_first _ _ _ | exact two_second _ _ _) (by rfl) (by omega) (by omega) (by decide) (by decide) ?_; intro g1 cap1 w1' S1 K1)
        | (refine step_first elI64 rfl _ _ rfl rfl rfl (by first | exact S1 | exact S1.alloc _) (by first | exact heap_alloc_new _ _ | exact K1 _ _ _ _ (two_first _ _ _) (by decide) | exact K1 _ _ _ _ (two_second _ _ _) (by decide)) (by rfl) (by omega) (by omega) (by decide) (by decide) ?_; intro g2 cap2 w2 S2 K2)
        | (refine step_second elU64 rfl _ _ rfl rfl rfl (by first | exact S1 | exact S1.alloc _) (by first | exact heap_alloc_new _ _ | exact K1 _ _ _ _ (two_first _ _ _) (by decide) | exact K1 _ _ _ _ (two_second _ _ _) (by decide)) (by rfl) (by omega) (by omega) (by decide) (by decide) ?_; intro g2 cap2 w2 S2 K2))
      all_goals
        have HR2 := rel_next HKL.out HROW.out S2
        clear S2 K2 S1 K1 S0
        go_wp2_with fail
        go_roundw
        case rel => exact ⟨k + 1, by omega, by go_num, Lib.hid HR2⟩
        case measure => simp [intOf]; omega
    · obtain rfl : k = n := by omega
      obtain ⟨hO1, hO2, hB⟩ := HREL.out
      have HTL : Hid ((timesF l).length = k) := Lib.hid (by unfold timesF; rw [List.length_map]; exact HL.out)
      have HVL : Hid ((valsF l).length = k) := Lib.hid (by unfold valsF; rw [List.length_map]; exact HL.out)
      rw [List.take_of_length_le (by rw [HTL.out]; exact Nat.le_refl _)] at hO1
      rw [List.take_of_length_le (by rw [HVL.out]; exact Nat.le_refl _)] at hO2
      have HO2 := Lib.hid hO2
      have HS1 := Lib.hid (own_sl hO1)
      have HB := Lib.hid hB
      have HTW := Lib.hid (timesF_wf HR.out)
      have HVW := Lib.hid (valsF_wf l)
      clear hO1 hO2 hB HREL
      go_wp2_with fail
      refine (Delta.pack_any _ k (timesF l) _ HS1.out HTL.out HTW.out hn (HT.out.below HB.out)).mono ?_
      rintro e w2 ⟨v1, rfl, hown1, hb2⟩
      have hp1 := Go.Gh.ts_len (timesF l) k
      obtain ⟨s1, hs1⟩ : ∃ s, tsTo (timesF l) k = s := ⟨_, rfl⟩
      have HS1E := Lib.hid hs1
      rw [hs1] at hown1 hp1 ⊢
      have HV1 := Lib.hid (own_sl hown1)
      obtain ⟨o1, c1, rfl, hpc1, _⟩ := own_shape hown1
      obtain ⟨p1, hp1l⟩ : ∃ p, (pack s1).length = p := ⟨_, rfl⟩
      have HP1 := Lib.hid hp1l
      rw [hp1l] at HV1 hpc1 ⊢
      have HB2 := Lib.hid (HB.out.trans (hb2.mono HB.out.size))
      have HO22 := Lib.hid (own_sl (own_below HO2.out hb2))
      have hszw := HB2.out.size
      have hw2 := HH2.out
      clear hown1 hb2 hs1 hp1l
      go_upto_region 12 with (fail)
      have hbA : Below w2.heap.size w2 (w2.alloc (.cells #[.slice o1 p1 c1, .int .i64 s1.length] 39)) := (Below.refl _ _).alloc (Nat.le_refl _) _
      have hA := heap_alloc_new w2 (.cells #[.slice o1 p1 c1, .int .i64 s1.length] 39)
      have HV1A := Lib.hid (HV1.out.below hbA)
      have HBA := Lib.hid (HB2.out.trans (hbA.mono hszw))
      have HO2A := Lib.hid (HO22.out.below hbA)
      obtain ⟨b1, hb1e⟩ : ∃ b, w2.heap.size = b := ⟨_, rfl⟩
      rw [hb1e] at hA hbA hszw ⊢
      generalize w2.alloc (.cells #[.slice o1 p1 c1, .int .i64 s1.length] 39) = wA at *
      have hltA := lt_of_some' hA
      clear HV1 HO22 hbA
      go_wp2_with fail
      refine (Xor.pack_any _ k (valsF l) _ HO2A.out HVL.out HVW.out hn (HX.out.below (HBA.out.mono hw2)) (Nat.le_trans hw2 HBA.out.size)).mono ?_
      rintro e w3 ⟨v2, rfl, hown2, hb3⟩
      have hp2 := Go.Gh.ms_len (valsF l) k
      obtain ⟨s2, hs2⟩ : ∃ s, (msTo (valsF l) k).1 = s := ⟨_, rfl⟩
      have HS2E := Lib.hid hs2
      rw [hs2] at hown2 hp2 ⊢
      have HV2 := Lib.hid (own_sl hown2)
      obtain ⟨o2, c2, rfl, hpc2, _⟩ := own_shape hown2
      obtain ⟨p2, hp2l⟩ : ∃ p, (pack s2).length = p := ⟨_, rfl⟩
      have HP2 := Lib.hid hp2l
      rw [hp2l] at HV2 hpc2 ⊢
      have HV13 := Lib.hid (HV1A.out.below hb3)
      have HB3 := Lib.hid (HBA.out.trans (hb3.mono HBA.out.size))
      have hA3 := (hb3.block b1 hltA).trans hA
      have hlt3 := lt_of_some' hA3
      obtain ⟨x0, x1⟩ : w3.cell? ⟨b1, 0, none⟩ = some (.slice o1 p1 c1) ∧ w3.cell? ⟨b1, 1, none⟩ = some (.int .i64 s1.length) := ⟨(row_cell 0 _ hA3 rfl).1, (row_cell 1 _ hA3 rfl).1⟩
      have y0 := (Below.heap_alloc w3 (.cells #[.slice o2 p2 c2, .int .i64 s2.length] 39) b1 hlt3).trans hA3
      clear hown2 hb3 hs2 hp2l hA
      go_upto_region 14 with (fail)
      have hbB : Below w3.heap.size w3 (w3.alloc (.cells #[.slice o2 p2 c2, .int .i64 s2.length] 39)) := (Below.refl _ _).alloc (Nat.le_refl _) _
      have hB2 := heap_alloc_new w3 (.cells #[.slice o2 p2 c2, .int .i64 s2.length] 39)
      obtain ⟨b2, hb2e⟩ : ∃ b, w3.heap.size = b := ⟨_, rfl⟩
      have HV1B := Lib.hid (HV13.out.below hbB)
      have HV2B := Lib.hid (HV2.out.below hbB)
      have HBB := Lib.hid (HB3.out.trans (hbB.mono HB3.out.size))
      rw [hb2e] at hB2 ⊢
      clear x0 x1 HV13 HV2 hbB
      generalize w3.alloc (.cells #[.slice o2 p2 c2, .int .i64 s2.length] 39) = wB at *
      obtain ⟨x0, x1⟩ : wB.cell? ⟨b1, 0, none⟩ = some (.slice o1 p1 c1) ∧ wB.cell? ⟨b1, 1, none⟩ = some (.int .i64 s1.length) := ⟨(row_cell 0 _ y0 rfl).1, (row_cell 1 _ y0 rfl).1⟩
      obtain ⟨x2, x3⟩ : wB.cell? ⟨b2, 0, none⟩ = some (.slice o2 p2 c2) ∧ wB.cell? ⟨b2, 1, none⟩ = some (.int .i64 s2.length) := ⟨(row_cell 0 _ hB2 rfl).1, (row_cell 1 _ hB2 rfl).1⟩
      have hbC : Below wB.heap.size wB (wB.alloc (.cells #[.slice o1 p1 c1, .int .i64 s1.length, .slice o2 p2 c2, .int .i64 s2.length] 39)) := (Below.refl _ _).alloc (Nat.le_refl _) _
      have hC := heap_alloc_new wB (.cells #[.slice o1 p1 c1, .int .i64 s1.length, .slice o2 p2 c2, .int .i64 s2.length] 39)
      obtain ⟨b3, hb3e⟩ : ∃ b, wB.heap.size = b := ⟨_, rfl⟩
      have HBC := Lib.hid (HBB.out.trans (hbC.mono HBB.out.size))
      have HV1C := Lib.hid (HV1B.out.below hbC)
      have HV2C := Lib.hid (HV2B.out.below hbC)
      clear y0 hA3 hB2 HV1B HV2B hbC
      go_wp2_with fail
      rw [hb3e] at hC
      generalize wB.alloc (.cells #[.slice o1 p1 c1, .int .i64 s1.length, .slice o2 p2 c2, .int .i64 s2.length] 39) = wC at *
      have HCB := Lib.hid hC
      have hltC := lt_of_some' hC
      obtain ⟨A, hAe⟩ : ∃ A, putI 9 (s1.length : Int) ++ pack s1 = A := ⟨_, rfl⟩
      obtain ⟨B2, hB2e⟩ : ∃ A, putI 9 (s2.length : Int) ++ pack s2 = A := ⟨_, rfl⟩
      have HFIN : Hid (sealF l = A ++ B2) := Lib.hid (by unfold sealF sealP; rw [HL.out, HS1E.out, HS2E.out, hAe, hB2e])
      have HEL : Hid (∀ j, j < 2 → ∃ (o : Option Addr) (p c : Nat) (s : List Bool), wC.cell? ⟨b3, j * 2, none⟩ = some (.slice o p c) ∧ wC.cell? ⟨b3, j * 2 + 1, none⟩ = some (.int .i64 s.length) ∧ Sl wC 1 (.slice o p c) p ((pack s).map (Value.int .u8)) ∧ (pack s).length = p ∧ s.length ≤ 90000 ∧ 16 ≤ s.length ∧ outK A B2 (j + 1) = outK A B2 j ++ (putI 9 (s.length : Int) ++ pack s)) := Lib.hid (by
        intro j hj
        rcases (show j = 0 ∨ j = 1 by omega) with rfl | rfl
        · refine ⟨o1, p1, c1, s1, (row_cell 0 _ hC rfl).1, (row_cell 1 _ hC rfl).1, HV1C.out, HP1.out, by omega, ?_, by rw [hAe]; rfl⟩
          rw [← HS1E.out]
          exact ts_ge (timesF l) k
        · refine ⟨o2, p2, c2, s2, (row_cell 2 _ hC rfl).1, (row_cell 3 _ hC rfl).1, HV2C.out, HP2.out, by omega, ?_, by rw [hB2e]; rfl⟩
          rw [← HS2E.out]
          exact ms_ge (valsF l) k)
      clear x0 x1 x2 x3 hC hAe hB2e HV1C HV2C
      go_loopw [13, 53] (fun u i wx => ∃ (j : Nat), j ≤ 2 ∧ i = .int .i64 j ∧ Hid (wx.ownsRow wC.heap.size 5 1 u (outK A B2 j).length ((outK A B2 j).map (Value.int .u8))) ∧ Hid (Below wC.heap.size wC wx) ∧ Hid ((outK A B2 j).length ≤ 100000 * j)) (fun _ i _ => 2 - (intOf i).toNat)
      case atStart => exact ⟨0, by omega, rfl, Lib.hid (World.ownsRow_nil _ _ _ _), Lib.hid (Below.refl _ _), Lib.hid (by simp [outK])⟩
      case round =>
        obtain ⟨j, hj, rfl, HO, HBW, HLE⟩ := hrel
        by_cases hlt2 : j < 2
        · obtain ⟨o, p, c', s, e0, e1, hsl, hpl, hs9, hs16, hout⟩ := HEL.out j hlt2
          have q0 := (HBW.out.cell (p := ⟨b3, j * 2, none⟩) hltC).trans e0
          have q1 := (HBW.out.cell (p := ⟨b3, j * 2 + 1, none⟩) hltC).trans e1
          have hp0 : 0 < p := by rw [← hpl, pack_len]; omega
          have hp9 : p ≤ 20000 := by rw [← hpl, pack_len]; omega
          have hle := HLE.out
          obtain ⟨m, hm⟩ : ∃ m, (outK A B2 j).length = m := ⟨_, rfl⟩
          obtain ⟨N, hN⟩ : ∃ N, s.length = N := ⟨_, rfl⟩
          have hui : IntKind.u64.wrap (N : Int) = N := by rw [IntKind.wrap_u64]; omega
          have hq := putI_len 9 (N : Int)
          obtain ⟨q, hqe⟩ : ∃ q, (putI 9 (N : Int)).length = q := ⟨_, rfl⟩
          have HO1 := HO.out
          rw [hm] at hle HO1
          rw [hN] at q1 hs9 hs16 hout
          rw [hqe] at hq
          have HM := Lib.hid hm
          have HQ := Lib.hid hqe
          have HPL := Lib.hid hpl
          have HOUT := Lib.hid hout
          obtain ⟨uo, uc, rfl, _⟩ := own_shape HO1
          have hszr := HBW.out.size
          obtain ⟨bx, hbx⟩ : ∃ bx, wr.heap.size = bx := ⟨_, rfl⟩
          have hbD : Below wr.heap.size wr (wr.alloc (.cells #[.slice o p c', .int .i64 N] 39)) := (Below.refl _ _).alloc (Nat.le_refl _) _
          have hD := heap_alloc_new wr (.cells #[.slice o p c', .int .i64 N] 39)
          have HD1 : Hid (Below wC.heap.size wC (wr.alloc (.cells #[.slice o p c', .int .i64 N] 39)).drew) := Lib.hid ((HBW.out.trans (hbD.mono hszr)).drew)
          have HO2 : Hid ((wr.alloc (.cells #[.slice o p c', .int .i64 N] 39)).drew.ownsRow wC.heap.size 5 1 (.slice uo m uc) m ((outK A B2 j).map (Value.int .u8))) := Lib.hid (own_below HO1 hbD).drew
          rw [hbx] at hD
          have HSL := Lib.hid hsl
          clear e0 e1 hsl hpl hout hm hqe HO HO1 hbD HLE
          go_upto_region 17 with (fail)
          generalize wr.alloc (.cells #[.slice o p c', .int .i64 N] 39) = wD at *
          obtain ⟨x0, x1⟩ : wD.cell? ⟨bx, 0, none⟩ = some (.slice o p c') ∧ wD.cell? ⟨bx, 1, none⟩ = some (.int .i64 N) := ⟨(row_cell 0 _ hD rfl).1, (row_cell 1 _ hD rfl).1⟩
          have hltD := lt_of_some' hD
          have hszD := HD1.out.size
          clear q0 q1 hN hbx
          go_region_held3 (fun w' => w'.cell? ⟨bx, 0, none⟩ = some (.slice o p c') ∧ w'.cell? ⟨bx, 1, none⟩ = some (.int .i64 N)) (first | (with_reducible exact ⟨x0, x1⟩) | (with_reducible exact ⟨y0, y1⟩) | (with_reducible exact ⟨z0, z1⟩) | (with_reducible exact ⟨t0, t1⟩) | go_keep) (first
            | (go_at_call 31; refine (put_any N (by omega) (by omega) _).mono ?_; rintro e w5 ⟨pv, rfl, hpv, hb5⟩; have HO5 := own_below HO2.out hb5; have HP5 := own_sl hpv; have HD5 := hD5 hltD hb5 hD; obtain ⟨y0, y1⟩ : w5.cell? ⟨bx, 0, none⟩ = some (.slice o p c') ∧ w5.cell? ⟨bx, 1, none⟩ = some (.int .i64 N) := ⟨(row_cell 0 _ HD5 rfl).1, (row_cell 1 _ HD5 rfl).1⟩; have hb5C := HD1.out.trans (hb5.mono hszD); have hsz5 := hb5C.size; have hne5 := own_block_ne HO5 HD5 (by decide))
            | (refine step_app_lies elU8 rfl _ _ rfl HO6 rfl rfl HS6 (ints_one8 _) hp0 (by omega) (by omega) hsz6 ?_; intro g7 cap7 w7 HO7 hg7; have hb7C := Below.grown hb6C hg7 hsz6 (fun k hk => (HO6.lt k hk).1); obtain ⟨t0, t1⟩ : w7.cell? ⟨bx, 0, none⟩ = some (.slice o p c') ∧ w7.cell? ⟨bx, 1, none⟩ = some (.int .i64 N) := by (have h := grown_block2 hg7 hne6 HD6; exact ⟨(row_cell 0 _ h rfl).1, (row_cell 1 _ h rfl).1⟩))
            | (refine step_app_lies elU8 rfl _ _ rfl HO5 rfl rfl HP5 (ints_one8 _) (by rw [HQ.out]; omega) (by rw [HQ.out]; omega) (by rw [HQ.out]; omega) hsz5 ?_; rw [HQ.out]; intro g6 cap6 w6 HO6 hg6; have HD6 := grown_block2 hg6 hne5 HD5; obtain ⟨z0, z1⟩ : w6.cell? ⟨bx, 0, none⟩ = some (.slice o p c') ∧ w6.cell? ⟨bx, 1, none⟩ = some (.int .i64 N) := ⟨(row_cell 0 _ HD6 rfl).1, (row_cell 1 _ HD6 rfl).1⟩; have hb6C := Below.grown hb5C hg6 hsz5 (fun k hk => (HO5.lt k hk).1); have hsz6 := hb6C.size; have hne6 := own_block_ne HO6 HD6 (by decide); have HS6 := HSL.out.below hb6C))
          have HLN : Hid ((outK A B2 (j + 1)).length = m + q + p) := Lib.hid (by rw [HOUT.out, List.length_append, List.length_append, HM.out, HQ.out, HPL.out]; omega)
          have HF7 : Hid (w7.ownsRow wC.heap.size 5 1 (.slice (some ⟨g7, 0, none⟩) (m + q + p) cap7) (outK A B2 (j + 1)).length ((outK A B2 (j + 1)).map (Value.int .u8))) := Lib.hid (by
            rw [HLN.out, HOUT.out, List.map_append, List.map_append, ← List.append_assoc]
            exact HO7)
          have HB7 := Lib.hid hb7C
          have HLE7 : Hid ((outK A B2 (j + 1)).length ≤ 100000 * (j + 1)) := Lib.hid (by rw [HLN.out]; omega)
          clear hpv hb5 HO5 HP5 HD5 y0 y1 hb5C hsz5 hne5 HO6 hg6 HD6 z0 z1 hb6C hsz6 hne6 HS6 HO7 hg7 hb7C t0 t1
          go_wp2_with fail
          go_roundw
          case rel => exact ⟨j + 1, by omega, by go_num, HF7, HB7, HLE7⟩
          case measure => simp [intOf]; omega
        · obtain rfl : j = 2 := by omega
          have HO' := HO.out
          have HF : Hid (wr.ownsRow w.heap.size 5 1 u13 (sealF l).length ((sealF l).map (Value.int .u8))) := Lib.hid (by rw [HFIN.out]; exact own_mono HO' HBC.out.size)
          clear HO'
          go_wp2_with fail
          go_ret2
          exact ⟨_, rfl, HF.out, HBC.out.trans (HBW.out.mono HBC.out.size)⟩
end Go.Proofs.YtbifhmbfmoeofaaDoor.Seal
