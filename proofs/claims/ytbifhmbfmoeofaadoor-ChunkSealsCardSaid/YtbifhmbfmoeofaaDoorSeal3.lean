/-
  The walk of Sealed.
-/
import Derived.Test.YtbifhmbfmoeofaaDoorSeal2
namespace Go.Proofs.YtbifhmbfmoeofaaDoor.Seal
open Go.RowKit Go.Gh Go.Proofs.YtbifhmbfmoeofaaDoor.Bits Go.Proofs.YtbifhmbfmoeofaaDoor.Delta Go.Proofs.YtbifhmbfmoeofaaDoor.Sam Go.Proofs.YtbifhmbfmoeofaaDoor.Smp
set_option linter.unusedVariables false
theorem sl_keepB {w w7 w8 : World} {n : Nat} {v : Value} {xs : List Value} (_ : Sl w7 1 v n xs) (h : Sl w 1 v n xs) (hb7 : Below w.heap.size w w7) (hb8 : Below w.heap.size w7 w8) : Sl w8 1 v n xs := h.below (hb7.trans hb8)
theorem Sl.drew {w : World} {n size : Nat} {v : Value} {xs : List Value} (h : Sl w size v n xs) : Sl w.drew size v n xs := h.below ((Below.refl _ _).drew)
def SdPost (l : List (List Int)) (w : World) (e : Ending) (w' : World) : Prop := ∃ v, e = .returned v ∧ w'.ownsRow w.heap.size 5 1 v (sealF l).length ((sealF l).map (Value.int .u8)) ∧ Below w.heap.size w w'
set_option maxHeartbeats 8000000 in
set_option maxRecDepth 100000 in
theorem sealed_any (v : Value) (n : Nat) (l : List (List Int)) (w : World) (hs : Sl w 2 v n (rowCells l)) (hl : l.length = n) (hr : Rows64 2 l) (hn : n ≤ 1000) :
    Calls Tryd.prog 13 #[v] w (SdPost l w) := by
  obtain ⟨ao, c, rfl, hnc, hcc, _⟩ := hs.shape
  have HS := Lib.hid hs
  have HL := Lib.hid hl
  have HR := Lib.hid hr
  clear hs hl hr
  go_enter Tryd.func13, Tryd.ntmps13
  go_wp2_with fail
  go_loopw [3, 4, 12] (fun u1 u2 i wx => ∃ k : Nat, k ≤ n ∧ i = .int .i64 k ∧ Hid (wx.ownsRow w.heap.size 2 1 u1 k (((timesF l).take k).map (Value.int .i64)) ∧ wx.ownsRow w.heap.size 63 1 u2 k (((valsF l).take k).map (Value.int .u64)) ∧ Below w.heap.size w wx)) (fun _ _ i _ => n - (intOf i).toNat)
  case atStart => exact ⟨0, by omega, rfl, Lib.hid ⟨by simpa using World.ownsRow_nil _ _ _ _, by simpa using World.ownsRow_nil _ _ _ _, Below.refl _ _⟩⟩
  case round =>
    obtain ⟨k, hk, rfl, HREL⟩ := hrel
    obtain ⟨hO1, hO2, hB⟩ := HREL.out
    by_cases hlt : k < n
    · obtain ⟨b, off, rfl, hrl, hcell⟩ := (HS.out.below hB).rowk HL.out HR.out.k hlt
      obtain ⟨x0, x1, hrow⟩ := row2 (l.getD k []) hrl
      have c0 : wr.cell? ⟨b, off + k * 2, none⟩ = some (.int .i64 x0) := by have := hcell 0 (by decide); rw [hrow] at this; exact this
      have c1 : wr.cell? ⟨b, off + k * 2 + 1, none⟩ = some (.int .i64 x1) := by have := hcell 1 (by decide); rw [hrow] at this; exact this
      have HROW := Lib.hid hrow
      have hsz := hB.size
      obtain ⟨bx, hbx⟩ : ∃ bx, wr.heap.size = bx := ⟨_, rfl⟩
      obtain ⟨o1, k1, rfl, _⟩ := own_shape hO1
      obtain ⟨o2, k2, rfl, _⟩ := own_shape hO2
      have hP : Pair w w.heap.size 2 63 65 (.slice o1 k k1) k (((timesF l).take k).map (Value.int .i64)) (.slice o2 k k2) k (((valsF l).take k).map (Value.int .u64)) bx #[.int .i64 x0, .int .i64 x1] (wr.alloc (.cells #[.int .i64 x0, .int .i64 x1] 65)) :=
        ⟨hO1.alloc _, hO2.alloc _, hB.alloc hsz _, by simp; omega, by rw [← hbx]; exact heap_alloc_new wr _⟩
      have HP0 := Lib.hid hP
      have HKL : Hid (k < l.length) := Lib.hid (by rw [HL.out]; exact hlt)
      clear hP hO1 hO2 hB hcell hrow hrl
      go_upto_region 6 with (fail)
      generalize wr.alloc (.cells #[.int .i64 x0, .int .i64 x1] 65) = wa at *
      have S0 := HP0.out
      obtain ⟨d0, d1⟩ := S0.cells
      have hA := (S0.alloc (.cells #[.int .i64 x0] 2))
      have hsl := sl_one (heap_alloc_new wa (.cells #[.int .i64 x0] 2))
      have hown := hA.1
      have hszA := hA.2.2.2.1
      clear HP0 c0 c1 hbx HREL
      go_wp2_with (at_builtin; refine wp_app_lies elI64 rfl _ _ rfl hown rfl rfl hsl (by intro y hy; simp at hy; subst hy; rfl) (by decide) ?c1 ?c2 hszA ?_)
      case c1 => omega
      case c2 => omega
      intro g1 cap1 w1 hown1 hg1
      obtain ⟨S1, K1⟩ := hA.first (by decide) (by decide) hown1 hg1
      obtain ⟨y0, y1⟩ := S1.cells
      have hA1 := (S1.alloc (.cells #[.int .u64 (IntKind.u64.wrap x1)] 63))
      have hsl1 := sl_one (heap_alloc_new w1 (.cells #[.int .u64 (IntKind.u64.wrap x1)] 63))
      have hown2 := hA1.2.1
      have hszA1 := hA1.2.2.2.1
      clear hA hsl hown hszA d0 d1 hown1 hg1 K1
      go_wp2_with (at_builtin; refine wp_app_lies elU64 rfl _ _ rfl hown2 rfl rfl hsl1 (by intro y hy; simp at hy; subst hy; rfl) (by decide) ?c3 ?c4 hszA1 ?_)
      case c3 => omega
      case c4 => omega
      intro g2 cap2 w2 hown3 hg2
      obtain ⟨S2, K2⟩ := hA1.second (by decide) (by decide) hown3 hg2
      have S2' : Pair w w.heap.size 2 63 65 (.slice (some ⟨g1, 0, none⟩) (k + 1) cap1) (k + 1) (((timesF l).take k).map (Value.int .i64) ++ [.int .i64 x0]) (.slice (some ⟨g2, 0, none⟩) (k + 1) cap2) (k + 1) (((valsF l).take k).map (Value.int .u64) ++ [.int .u64 (IntKind.u64.wrap x1)]) bx #[.int .i64 x0, .int .i64 x1] w2 := by rw [List.map_take, List.map_take]; exact S2
      have HR2 := rel_next HKL.out HROW.out S2'
      clear S2' S2 K2 S1 S0 hA1 hsl1 hown2 hszA1 hown3 hg2 y0 y1
      go_wp2_with fail
      go_roundw
      case rel => exact ⟨k + 1, by omega, by go_num, Lib.hid HR2⟩
      case measure => simp [intOf]; omega
    · obtain rfl : k = n := by omega
      have HTL : Hid ((timesF l).length = k) := Lib.hid (by unfold timesF; rw [List.length_map]; exact HL.out)
      have HVL : Hid ((valsF l).length = k) := Lib.hid (by unfold valsF; rw [List.length_map]; exact HL.out)
      rw [List.take_of_length_le (by rw [HTL.out]; exact Nat.le_refl _)] at hO1
      rw [List.take_of_length_le (by rw [HVL.out]; exact Nat.le_refl _)] at hO2
      have HS2 := Lib.hid (own_sl hO2)
      have HS1 := Lib.hid (own_sl hO1)
      have HB := Lib.hid hB
      have HTW := Lib.hid (timesF_wf HR.out)
      have HVW := Lib.hid (valsF_wf l)
      clear hO1 hO2 hB HREL
      have hp1 := Go.Gh.ts_len (timesF l) k
      have hg1 := ts_ge (timesF l) k
      obtain ⟨s1, hs1⟩ : ∃ s, tsTo (timesF l) k = s := ⟨_, rfl⟩
      have HS1E := Lib.hid hs1
      have hp2 := Go.Gh.ms_len (valsF l) k
      have hg2 := ms_ge (valsF l) k
      obtain ⟨s2, hs2⟩ : ∃ s, (msTo (valsF l) k).1 = s := ⟨_, rfl⟩
      have HS2E := Lib.hid hs2
      rw [hs1] at hp1 hg1
      rw [hs2] at hp2 hg2
      clear hs1 hs2
      go_wp2_with fail
      refine (Delta.timesigns_any _ k (timesF l) _ HS1.out HTL.out HTW.out hn).mono ?_
      rw [HS1E.out]
      rintro e w2 ⟨rfl, hb2⟩
      have HB2 := Lib.hid (HB.out.trans (hb2.mono HB.out.size))
      have HS22 := Lib.hid (HS2.out.below hb2)
      clear hb2
      go_wp2_with fail
      refine (packed_any s1 (by omega) _).mono ?_
      rintro e w3 ⟨v1, rfl, hown1, hb3⟩
      have HV1 := Lib.hid (own_sl hown1)
      obtain ⟨o1, c1, rfl, hpc1, _⟩ := own_shape hown1
      have HB3 := Lib.hid (HB2.out.trans (hb3.mono HB2.out.size))
      have HS23 := Lib.hid (HS22.out.below hb3)
      clear hb3 hown1
      go_wp2_with fail
      refine (Xor.measuresigns_any _ k (valsF l) _ HS23.out HVL.out HVW.out hn).mono ?_
      rw [HS2E.out]
      rintro e w4 ⟨rfl, hb4⟩
      have HB4 := Lib.hid (HB3.out.trans (hb4.mono HB3.out.size))
      have HV14 := Lib.hid (HV1.out.below hb4)
      clear hb4
      go_wp2_with fail
      refine (packed_any s2 (by omega) _).mono ?_
      rintro e w5 ⟨v2, rfl, hown2, hb5⟩
      have HV2 := Lib.hid (own_sl hown2)
      obtain ⟨o2, c2, rfl, hpc2, _⟩ := own_shape hown2
      have HB5 := Lib.hid (HB4.out.trans (hb5.mono HB4.out.size))
      have HV15 := Lib.hid (HV14.out.below hb5)
      obtain ⟨p1, hp1l⟩ : ∃ p, (pack s1).length = p := ⟨_, rfl⟩
      obtain ⟨p2, hp2l⟩ : ∃ p, (pack s2).length = p := ⟨_, rfl⟩
      obtain ⟨N1, hN1⟩ : ∃ p, s1.length = p := ⟨_, rfl⟩
      obtain ⟨N2, hN2⟩ : ∃ p, s2.length = p := ⟨_, rfl⟩
      have HP1 := Lib.hid hp1l
      have HP2 := Lib.hid hp2l
      have HN1 := Lib.hid hN1
      have HN2 := Lib.hid hN2
      have hpp1 : 0 < p1 ∧ p1 ≤ 20000 := by rw [← hp1l, pack_len]; omega
      have hpp2 : 0 < p2 ∧ p2 ≤ 20000 := by rw [← hp2l, pack_len]; omega
      rw [hp1l] at HV15 hpc1 ⊢
      rw [hp2l] at HV2 hpc2 ⊢
      rw [hN1] at hp1 hg1 ⊢
      rw [hN2] at hp2 hg2 ⊢
      clear hp1l hp2l hN1 hN2 hown2 hb5
      go_upto_region 10 with (fail)
      have q1 := two_first w5 (.cells #[.slice o1 p1 c1, .int .i64 N1] 39) (.cells #[.slice o2 p2 c2, .int .i64 N2] 39)
      have q2 := two_second w5 (.cells #[.slice o1 p1 c1, .int .i64 N1] 39) (.cells #[.slice o2 p2 c2, .int .i64 N2] 39)
      have hb6 : Below w5.heap.size w5 ((w5.alloc (.cells #[.slice o1 p1 c1, .int .i64 N1] 39)).alloc (.cells #[.slice o2 p2 c2, .int .i64 N2] 39)) := ((Below.refl _ _).alloc (Nat.le_refl _) _).alloc (by simp) _
      have HV16 := Lib.hid (Sl.drew (HV15.out.below hb6))
      have HV26 := Lib.hid (Sl.drew (HV2.out.below hb6))
      have HB6 := Lib.hid ((HB5.out.trans (hb6.mono HB5.out.size)).drew)
      obtain ⟨b1, hb1e⟩ : ∃ b, w5.heap.size = b := ⟨_, rfl⟩
      obtain ⟨b2, hb2e⟩ : ∃ b, b1 + 1 = b := ⟨_, rfl⟩
      rw [hb1e, hb2e]
      rw [hb1e] at q1 q2
      rw [hb2e] at q2
      clear hb6 HV15 HV2
      generalize ((w5.alloc (.cells #[.slice o1 p1 c1, .int .i64 N1] 39)).alloc (.cells #[.slice o2 p2 c2, .int .i64 N2] 39)) = wD at *
      have hlt1 := lt_of_some' q1
      have hlt2 := lt_of_some' q2
      obtain ⟨x0, x1⟩ : wD.cell? ⟨b1, 0, none⟩ = some (.slice o1 p1 c1) ∧ wD.cell? ⟨b1, 1, none⟩ = some (.int .i64 N1) := ⟨(row_cell 0 _ q1 rfl).1, (row_cell 1 _ q1 rfl).1⟩
      have hui : IntKind.u64.wrap (N1 : Int) = N1 := by rw [IntKind.wrap_u64]; omega
      have hui2 : IntKind.u64.wrap (N2 : Int) = N2 := by rw [IntKind.wrap_u64]; omega
      have hq1 := putI_len 9 (N1 : Int)
      obtain ⟨l1, hl1⟩ : ∃ q, (putI 9 (N1 : Int)).length = q := ⟨_, rfl⟩
      have HL1 := Lib.hid hl1
      rw [hl1] at hq1
      have hq2 := putI_len 9 (N2 : Int)
      obtain ⟨l2, hl2⟩ : ∃ q, (putI 9 (N2 : Int)).length = q := ⟨_, rfl⟩
      have HL2 := Lib.hid hl2
      rw [hl2] at hq2
      clear hl1 hl2 hb1e hb2e
      have Hq2 := Lib.hid q2
      have hwd : w.heap.size ≤ wD.drew.heap.size := HB6.out.size
      go_region_held3 (fun w' => w'.cell? ⟨b1, 0, none⟩ = some (.slice o1 p1 c1) ∧ w'.cell? ⟨b1, 1, none⟩ = some (.int .i64 N1)) (first | (with_reducible exact ⟨x0, x1⟩) | (with_reducible exact ⟨y0, y1⟩) | (with_reducible exact ⟨z0, z1⟩) | go_keep) (first
        | (go_at_call 32; refine (bytesof_any 9 N1 (by omega) (by omega) (by omega) (lt_fuel (by omega)) _).mono ?_; rintro e w7 ⟨pv, rfl, hpv, hb7⟩; rw [HL1.out] at hpv; have HP7 := hpv; have HB7 := HB6.out.trans (hb7.mono hwd); have hs7 := HB7.size; have Q17 := hD5 hlt1 hb7 q1; have Q27 := hD5 hlt2 hb7 Hq2.out; have HV17 := HV16.out.below hb7; have HV27 := HV26.out.below hb7; have hsz7 := hb7.size; obtain ⟨y0, y1⟩ : w7.cell? ⟨b1, 0, none⟩ = some (.slice o1 p1 c1) ∧ w7.cell? ⟨b1, 1, none⟩ = some (.int .i64 N1) := ⟨(row_cell 0 _ Q17 rfl).1, (row_cell 1 _ Q17 rfl).1⟩)
        | (refine step_app_lies elU8 rfl _ _ rfl HP7 rfl rfl HV17 (ints_one8 _) hpp1.1 (by omega) (by omega) hsz7 ?_; intro g8 cap8 w8 HO8 hg8; have Q18 := grown_block2 hg8 (own_block_ne HP7 Q17 (by decide)) Q17; have Q28 := grown_block2 hg8 (own_block_ne HP7 Q27 (by decide)) Q27; have hb8 := Below.grown (Below.refl wD.drew.heap.size w7) hg8 hsz7 (fun k hk => (HP7.lt k hk).1); have HB8 := HB7.trans (hb8.mono hwd); have HV28 := sl_keepB HV27 HV26.out hb7 hb8; obtain ⟨z0, z1⟩ : w8.cell? ⟨b1, 0, none⟩ = some (.slice o1 p1 c1) ∧ w8.cell? ⟨b1, 1, none⟩ = some (.int .i64 N1) := ⟨(row_cell 0 _ Q18 rfl).1, (row_cell 1 _ Q18 rfl).1⟩))
      obtain ⟨t0, t1⟩ : w8.cell? ⟨b2, 0, none⟩ = some (.slice o2 p2 c2) ∧ w8.cell? ⟨b2, 1, none⟩ = some (.int .i64 N2) := ⟨(row_cell 0 _ Q28 rfl).1, (row_cell 1 _ Q28 rfl).1⟩
      have HO8' := Lib.hid HO8
      have HV8 := Lib.hid HV28
      have HB8' := Lib.hid HB8
      have Hb8 := Lib.hid (hb7.trans (hb8.mono (Nat.le_refl _)))
      have HQ8 := Lib.hid Q28
      have hlt8 := lt_of_some' Q28
      clear HO8 HV28 HB8 Q28 Q18 z0 z1 y0 y1 Q17 Q27 HV17 HV27 HP7 hpv HB7 hg8 q1 q2 hb8 hb7 x0 x1
      go_wp2_with fail
      refine (bytesof_any 9 N2 (by omega) (by omega) (by omega) (lt_fuel (by omega)) _).mono ?_
      rintro e w9 ⟨pv2, rfl, hpv2, hb9⟩
      rw [HL2.out] at hpv2
      have HQ9 := Lib.hid ((hb9.block b2 hlt8).trans HQ8.out)
      have HV9 := Lib.hid (HV8.out.below hb9)
      have hO9 := own_below HO8'.out hb9
      have hs9 := own_sl hpv2
      have hB9 := Hb8.out.trans (hb9.mono Hb8.out.size)
      have HB9 := Lib.hid hB9
      have hsz9 := hB9.size
      have hne9 := own_block_ne hO9 HQ9.out (by decide)
      clear hpv2 hb9 t0 t1 hB9
      go_wp2_with (at_builtin; refine wp_app_lies elU8 rfl _ _ rfl hO9 rfl rfl hs9 (ints_one8 _) ?c5 ?c6 ?c7 hsz9 ?_)
      case c5 => omega
      case c6 => omega
      case c7 => omega
      intro g10 cap10 w10 hO10 hg10
      have HQ10 := Lib.hid (grown_block2 hg10 hne9 HQ9.out)
      have hb10 := Below.grown HB9.out hg10 hsz9 (fun k hk => (hO9.lt k hk).1)
      have HV10 := Lib.hid (HV26.out.below hb10)
      obtain ⟨t0, t1⟩ : w10.cell? ⟨b2, 0, none⟩ = some (.slice o2 p2 c2) ∧ w10.cell? ⟨b2, 1, none⟩ = some (.int .i64 N2) := ⟨(row_cell 0 _ HQ10.out rfl).1, (row_cell 1 _ HQ10.out rfl).1⟩
      have hs10 := HV10.out
      have hsz10 := hb10.size
      have HB10 := Lib.hid hb10
      clear hO9 hs9 hne9 hg10 hb10
      go_wp2_with (at_builtin; refine wp_app_lies elU8 rfl _ _ rfl hO10 rfl rfl hs10 (ints_one8 _) hpp2.1 ?c8 ?c9 hsz10 ?_)
      case c8 => omega
      case c9 => omega
      intro g11 cap11 w11 hO11 hg11
      have hb11 := Below.grown HB10.out hg11 hsz10 (fun k hk => (hO10.lt k hk).1)
      have HB11 := Lib.hid (HB6.out.trans (hb11.mono hwd))
      have HFIN : Hid (w11.ownsRow w.heap.size 5 1 (.slice (some ⟨g11, 0, none⟩) (l1 + p1 + l2 + p2) cap11) (sealF l).length ((sealF l).map (Value.int .u8))) := Lib.hid (by
        have e : sealF l = putI 9 (N1 : Int) ++ pack s1 ++ (putI 9 (N2 : Int) ++ pack s2) := by unfold sealF sealP; rw [HL.out, HS1E.out, HS2E.out, HN1.out, HN2.out]
        have e2 : (sealF l).length = l1 + p1 + l2 + p2 := by rw [e]; simp only [List.length_append]; rw [HL1.out, HL2.out, HP1.out, HP2.out]; omega
        rw [e2, e, List.map_append, List.map_append, List.map_append, List.append_assoc]
        exact own_mono hO11 hwd)
      clear hO10 hO11 hg11 hb11 hs10
      go_wp2_with fail
      go_ret
      exact ⟨_, rfl, HFIN.out, HB11.out⟩
end Go.Proofs.YtbifhmbfmoeofaaDoor.Seal
