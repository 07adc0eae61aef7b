/-
  The walk of the law XorOpens.
-/
import Derived.Test.YtmbmognhbljliaaDoorXO3
import Derived.Test.YtmbmognhbljliaaDoorBitsIs
namespace Go.Proofs.YtmbmognhbljliaaDoor.XorOpens
open Go.RowKit Go.Gh Go.Proofs.YtmbmognhbljliaaDoor.Bits Go.Proofs.YtmbmognhbljliaaDoor.Delta Go.Proofs.YtmbmognhbljliaaDoor.Xor
set_option linter.unusedVariables false
set_option maxHeartbeats 8000000 in
set_option maxRecDepth 100000 in
theorem walk (v : Value) (w : World) (h : IsBits w v) (hT : TabX w) (hT2 : 2 ≤ w.heap.size) :
    Calls Tryd.prog 6 #[v] w fun e w' => e = .returned (.bool true) ∧ Below w.heap.size w w' := by
  obtain ⟨l, N, hv⟩ := h
  have hv0 := hv
  obtain ⟨b, len, rfl, hs, hby, hwf, hlen, hN0, hN1⟩ := hv
  obtain ⟨ao, cp, rfl, hnc, hcp, hll⟩ := hs.shape
  have HT := Lib.hid hT
  clear hs hby hwf hll hT
  go_enter Tryd.func6, Tryd.ntmps6
  go_upto_region 1 with (fail)
  refine wp_abs (fun wA => wA.heap[w.heap.size]? = some (.cells #[.slice ao len cp, .int .i64 N] 25 (0, 0)) ∧ Below w.heap.size w wA ∧ w.heap.size < wA.heap.size) ⟨heap_alloc_new w _, (Below.refl _ _).alloc (Nat.le_refl _) _, by simp⟩ ?_
  rintro wA ⟨hA0, hAb, hAs⟩
  obtain ⟨⟨x0, x1⟩, -⟩ := box2 hA0
  by_cases hbig : 2000 < N
  · go_wp2_with fail
    go_ret
    exact ⟨rfl, hAb⟩
  have hN2 : N ≤ 2000 := by omega
  clear hbig
  have HU := Xor.unpack_any _ l N wA (bv_below hv0 hAb) hN2 (HT.out.below (hAb.mono hT2)) (Nat.le_trans hT2 hAb.size)
  go_wp2_with fail
  refine HU.mono ?_
  rintro e w1 ⟨hb1, hcase⟩
  have hB1 := hAb.trans (hb1.mono hAb.size)
  have hA1 := (hb1.block _ hAs).trans hA0
  have hs1 : w.heap.size < w1.heap.size := Nat.lt_of_lt_of_le hAs hb1.size
  clear x0 x1 hA0 hb1 hAb hAs HU
  obtain ⟨⟨x0, x1⟩, -⟩ := box2 hA1
  have HV1 := Lib.hid (bv_below hv0 hB1)
  by_cases hok : okB l N
  case neg =>
    have HF : Hid (faultB l N = 4) := Lib.hid (if_neg hok)
    rcases hcase with ⟨h1, _⟩ | ⟨_, rfl⟩
    · exact absurd h1 hok
    clear hok
    go_wp2_with fail
    refine (fault_any _ l N _ HV1.out).mono ?_
    rw [HF.out]
    rintro e w2 ⟨rfl, hb2⟩
    go_wp2_with fail
    go_ret
    exact ⟨rfl, hB1.trans (hb2.mono hB1.size)⟩
  have HF : Hid (faultB l N = 0) := Lib.hid (if_pos hok)
  obtain ⟨M, rfl⟩ : ∃ M : Nat, N = M := ⟨N.toNat, by have := hok.1; omega⟩
  have HOK := Lib.hid hok
  rw [Int.toNat_natCast] at hcase
  clear hok
  by_cases hgood : okXI (unpack l M)
  case neg =>
    have HNO : Hid (¬ okXR (unpack l M)) := Lib.hid (by
      rintro ⟨o, h1, h2, h3⟩
      exact hgood (okXR_I h1 h2 h3).1)
    rcases hcase with ⟨_, h1, _⟩ | ⟨_, rfl⟩
    · exact absurd h1 hgood
    clear hgood
    go_wp2_with fail
    refine (fault_any _ l M _ HV1.out).mono ?_
    rw [HF.out]
    rintro e w2 ⟨rfl, hb2⟩
    have hB2 := hB1.trans (hb2.mono hB1.size)
    have hA2 := (hb2.block _ hs1).trans hA1
    clear x0 x1
    obtain ⟨⟨x0, x1⟩, -⟩ := box2 hA2
    go_wp2_with fail
    refine (unpacked_any _ l M _ (bv_below HV1.out hb2) HOK.out (by omega)).mono ?_
    rintro e w3 ⟨rfl, hb3⟩
    have hB3 := hB2.trans (hb3.mono hB2.size)
    go_wp2_with fail
    refine (measuresof_any (unpack l M) (by rw [unpack_len]; omega) _).mono ?_
    rintro e w4 ⟨hb4, hx⟩
    rcases hx with ⟨o, vr, nr, h1, h2, h3, _⟩ | ⟨_, vr, rfl⟩
    · exact absurd ⟨o, h1, h2, h3⟩ HNO.out
    go_wp2_with fail
    go_ret
    exact ⟨rfl, hB3.trans (hb4.mono hB3.size)⟩
  have HGD := Lib.hid hgood
  rcases hcase with ⟨_, _, vi, ni, rfl, hsi, hli⟩ | ⟨h1, _⟩
  case inr => exact absurd ⟨HOK.out, hgood⟩ h1
  have HSI := Lib.hid hsi
  have HLI := Lib.hid hli
  clear hgood hsi hli
  go_wp2_with fail
  refine (fault_any _ l M _ HV1.out).mono ?_
  rw [HF.out]
  rintro e w2 ⟨rfl, hb2⟩
  have hB2 := hB1.trans (hb2.mono hB1.size)
  have hA2 := (hb2.block _ hs1).trans hA1
  clear x0 x1
  obtain ⟨⟨x0, x1⟩, -⟩ := box2 hA2
  go_wp2_with fail
  refine (unpacked_any _ l M _ (bv_below HV1.out hb2) HOK.out (by omega)).mono ?_
  rintro e w3 ⟨rfl, hb3⟩
  have hB3 := hB2.trans (hb3.mono hB2.size)
  go_wp2_with fail
  refine (measuresof_any (unpack l M) (by rw [unpack_len]; omega) _).mono ?_
  rintro e w4 ⟨hb4, hx⟩
  rcases hx with ⟨o, vr, nr, h1, h2, h3, rfl, hsr, hlr⟩ | ⟨hno, _⟩
  case inr => exact absurd ⟨_, okXI_R HGD.out, HGD.out.2.1, HGD.out.2.2⟩ hno
  obtain rfl : (unxI (unpack l M)).1 = o := (okXR_I h1 h2 h3).2
  have hB4 := hB3.trans (hb4.mono hB3.size)
  have HE := eqx_any vi vr ni nr _ _ w4 (((HSI.out.below hb2).below hb3).below hb4) hsr HLI.out hlr
  rw [show decide ((unxI (unpack l M)).1 = (unxI (unpack l M)).1) = true from by simp] at HE
  have HEE := Lib.hid HE
  clear HE hsr hlr h1 h2 h3
  go_wp2_with fail
  refine HEE.out.mono ?_
  rintro e w5 ⟨rfl, hb5⟩
  go_wp2_with fail
  go_ret
  exact ⟨rfl, hB4.trans (hb5.mono hB4.size)⟩
end Go.Proofs.YtmbmognhbljliaaDoor.XorOpens
