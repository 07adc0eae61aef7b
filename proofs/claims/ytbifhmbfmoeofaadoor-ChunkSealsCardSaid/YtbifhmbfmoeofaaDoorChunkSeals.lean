/-
  The walk of the law ChunkSeals.
-/
import Derived.Test.YtbifhmbfmoeofaaDoorSeal3
namespace Go.Proofs.YtbifhmbfmoeofaaDoor.ChunkSeals
open Go.RowKit Go.Gh Go.Proofs.YtbifhmbfmoeofaaDoor.Bits Go.Proofs.YtbifhmbfmoeofaaDoor.Sam Go.Proofs.YtbifhmbfmoeofaaDoor.Smp Go.Proofs.YtbifhmbfmoeofaaDoor.Seal
set_option linter.unusedVariables false
theorem sealF_bytes (l : List (List Int)) (hl : l.length ≤ 1000) : ∀ z ∈ sealF l, (Lit.int .u8 z).wf = true := by
  have h1 := Go.Gh.ts_len (timesF l) l.length
  have h2 := Go.Gh.ms_len (valsF l) l.length
  have hp : ∀ s : List Bool, s.length ≤ 90000 → ∀ z ∈ putI 9 (s.length : Int) ++ pack s, (Lit.int .u8 z).wf = true := by
    intro s hs z hz
    rcases List.mem_append.1 hz with h | h
    · exact putI_wf 9 _ (by omega) (lt_fuel (by omega)) z h
    · exact u8_of_bytes (pack_bytes s) z h
  intro z hz
  unfold sealF sealP at hz
  rcases List.mem_append.1 hz with h | h
  · exact hp _ (by omega) z h
  · exact hp _ (by omega) z h
set_option maxHeartbeats 4000000 in
set_option maxRecDepth 100000 in
theorem walk (v : Value) (w : World) (h : IsRows 2 w v) (hT : Delta.Table w) (hX : Xor.TabX w) (h2 : 2 ≤ w.heap.size) :
    Calls Tryd.prog 3 #[v] w fun e w' => e = .returned (.bool true) ∧ Below w.heap.size w w' := by
  obtain ⟨n, l, hs, hl, hr, hn⟩ := h
  obtain ⟨ao, c, rfl, hnc, hcc, _⟩ := hs.shape
  have HL := Lib.hid hl
  have HR := Lib.hid hr
  have HS := Lib.hid hs
  have HT := Lib.hid hT
  have HX := Lib.hid hX
  have HN := Lib.hid hn
  clear hs hl hr hT hX hn
  by_cases hmid : 40 < n ∧ n ≤ 1000
  · obtain ⟨m1, m2⟩ := hmid
    go_enter Tryd.func3, Tryd.ntmps3
    go_wp2_with fail
    go_ret
    exact ⟨rfl, Below.refl _ _⟩
  obtain ⟨F, hF⟩ : ∃ F, sampF l = F := ⟨_, rfl⟩
  have HF := Lib.hid hF
  have t0 : (F != F) = false := by simp
  have t1 : (F == F) = true := by simp
  have hand : ¬ (40 < n) ∨ ¬ (n ≤ 1000) := by omega
  by_cases hz : F = 0
  case neg =>
    have t2 : (F != 0) = true := by rw [bne_iff_ne]; exact hz
    rcases hand with h40 | h1000
    case' inl => have hcase : n ≤ 40 := by omega
    case' inr => have hcase : 1000 < n := by omega
    all_goals
      go_enter Tryd.func3, Tryd.ntmps3
      go_wp2_with fail
      refine (seal_bad _ n l _ HS.out HL.out HR.out HN.out F HF.out hz).mono ?_
      rintro e w1 ⟨rfl, hb1⟩
      go_wp2_with fail
      refine (samplesfault_any _ n l _ (HS.out.below hb1) HL.out HR.out HN.out).mono ?_
      rw [HF.out]
      rintro e w2 ⟨rfl, hb2⟩
      have hb12 := hb1.trans (hb2.mono hb1.size)
      go_wp2_with fail
      refine (check_any _ n l _ (HS.out.below hb12) HL.out HR.out HN.out).mono ?_
      rw [HF.out]
      rintro e w3 ⟨rfl, hb3⟩
      have hb13 := hb12.trans (hb3.mono hb12.size)
      go_wp2_with fail
      go_ret
      exact ⟨rfl, hb13⟩
  subst hz
  have hn1 : n ≤ 1000 := by rw [← HL.out]; exact fault_small HF.out
  have hcase : n ≤ 40 := by omega
  go_enter Tryd.func3, Tryd.ntmps3
  go_wp2_with fail
  refine (seal_any _ n l _ HS.out HL.out HR.out HF.out HT.out HX.out h2).mono ?_
  rintro e w1 ⟨sv, rfl, hown1, hb1⟩
  have HV1 := Lib.hid (own_sl hown1)
  clear hown1
  go_wp2_with fail
  refine (samplesfault_any _ n l _ (HS.out.below hb1) HL.out HR.out HN.out).mono ?_
  rw [HF.out]
  rintro e w2 ⟨rfl, hb2⟩
  have hb12 := hb1.trans (hb2.mono hb1.size)
  have HV2 := Lib.hid (HV1.out.below hb2)
  go_wp2_with fail
  refine (check_any _ n l _ (HS.out.below hb12) HL.out HR.out HN.out).mono ?_
  rw [HF.out]
  rintro e w3 ⟨rfl, hb3⟩
  have hb13 := hb12.trans (hb3.mono hb12.size)
  have HV3 := Lib.hid (HV2.out.below hb3)
  clear hb1 hb2 hb12 hb3
  go_wp2_with fail
  refine (sealed_any _ n l _ (HS.out.below hb13) HL.out HR.out hn1).mono ?_
  rintro e w4 ⟨dv, rfl, hown4, hb4⟩
  have hb14 := hb13.trans (hb4.mono hb13.size)
  have hwf : ∀ z ∈ sealF l, (Lit.int .u8 z).wf = true := sealF_bytes l (by rw [HL.out]; exact hn1)
  have HE := equal_any sv dv _ _ _ _ w4 (HV3.out.below hb4) (own_sl hown4) hwf hwf
  rw [show decide (sealF l = sealF l) = true from by simp] at HE
  have HEE := Lib.hid HE
  clear HE hown4 hwf hb4
  go_wp2_with fail
  refine HEE.out.mono ?_
  rintro e w5 ⟨rfl, rfl⟩
  go_wp2_with fail
  go_ret
  exact ⟨rfl, hb14⟩
end Go.Proofs.YtbifhmbfmoeofaaDoor.ChunkSeals
