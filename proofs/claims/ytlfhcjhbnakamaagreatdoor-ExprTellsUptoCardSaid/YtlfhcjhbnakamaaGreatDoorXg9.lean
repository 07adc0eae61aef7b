/-
  Expressions: FormatInt, Join at names, the walk of text (PRINTED by mkex5.py).
-/
import Derived.Test.YtlfhcjhbnakamaaGreatDoorXg7
import Derived.Test.YtlfhcjhbnakamaaGreatDoorXg8
import Derived.Lib.AppendIntMem
import Derived.Deep.RegionHeld3
namespace Go.Proofs.YtlfhcjhbnakamaaGreatDoor.Exp
open Go.RowKit Go.Gh Go.Proofs.YtlfhcjhbnakamaaGreatDoor.Lab
set_option linter.unusedVariables false
set_option linter.unusedSimpArgs false
def WTab (w : World) : Prop := ∀ k : Nat, k < 9 → w.cell? ⟨1, k, none⟩ = some (.string (mkS (wrd k)))
theorem WTab.below {w w' : World} (h : WTab w) (hb : Below w.heap.size w w') : WTab w' := fun k hk => (hb.cell (p := ⟨1, k, none⟩) (cell_lt (h k hk))).trans (h k hk)
def PTab (w : World) : Prop := Lib.TabIs Tryz.prog w "internal/strconv.uint64pow10" .u64 Lib.pow10Tab
theorem PTab.below {w w' : World} (h : PTab w) (hb : Below w.heap.size w w') : PTab w' := Lib.tabBelow_of_tabIs h w' hb
theorem format_any (n : Int) (h0 : -9223372036854775808 ≤ n) (h1 : n < 9223372036854775808) (w : World) (hP : PTab w) : Calls Tryz.prog 65 #[.int .i64 n, .int .i64 10] w fun e w' => e = .returned (.string (mkS (Lib.itoa n))) ∧ Below w.heap.size w w' := by
  refine (YtlfhcjhbnakamaaGreatDoor.strconv_FormatInt_10 n h0 (by omega) w hP).mono ?_
  rintro e w' ⟨rfl, k, os, rfl⟩
  exact ⟨rfl, Lib.below_grow _ _ (Nat.le_refl _) _ _⟩
theorem join_any (ab : Option Addr) (lb cb : Nat) (BS : List By) (w : World) (hs : Sp StrR 1 w (.slice ab lb cb) BS) (hl : BS.length = lb) (h10 : lb ≤ 10) (h20 : ∀ s ∈ BS, s.length ≤ 20) : Calls Tryz.prog 63 #[.slice ab lb cb, .string ⟨#[44]⟩] w fun e w' => e = .returned (.string (mkS (commas BS))) ∧ Below w.heap.size w w' := by
  have hle : (commas BS).length ≤ 1050 := by
    have := commas_le BS (fun x hx => by have := h20 x hx; omega)
    omega
  have HL : commas BS = Lib.join ((BS.map mkS).map (·.data.toList)) (⟨#[44]⟩ : ByteArray).data.toList := by
    rw [commas_join, List.map_map]
    congr 1
    exact (List.map_id'' (fun x => rfl) BS).symm
  rcases Nat.eq_zero_or_pos lb with h0 | h0
  · have hB0 : BS = [] := List.length_eq_zero_iff.1 (hl.trans h0)
    rw [h0]
    refine (YtlfhcjhbnakamaaGreatDoor.strings_Join_none ab cb ⟨#[44]⟩ w).mono ?_
    rintro e w' ⟨rfl, rfl⟩
    exact ⟨by rw [hB0]; rfl, Below.refl _ _⟩
  · obtain ⟨s0, hs0⟩ : ∃ s, BS[0]? = some s := ⟨_, List.getElem?_eq_getElem (by omega)⟩
    obtain ⟨b, off, cs, rfl, ⟨rfl, -⟩, -, hc0⟩ := hs.get hs0
    have hbk : b < w.heap.size := cell_lt (hc0 0 _ rfl)
    have hcells : ∀ (j : Nat) y, (BS.map mkS)[j]? = some y → w.cell? ⟨b, off + j, none⟩ = some (.string y) := by
      intro j y hj
      rw [List.getElem?_map] at hj
      obtain ⟨s, hsj, rfl⟩ := Option.map_eq_some_iff.1 hj
      obtain ⟨b', off', cs', e', ⟨rfl, -⟩, -, hc⟩ := hs.get hsj
      injection e' with e'
      injection e' with e1 e2
      have := hc 0 _ rfl
      rw [Nat.add_zero, Nat.mul_one, ← e1, ← e2] at this
      exact this
    have hxl : (BS.map mkS).length = lb := by rw [List.length_map, hl]
    obtain ⟨ao, c, e, h1, h2⟩ := hs.shape
    injection e with e1 e2 e3
    have h := YtlfhcjhbnakamaaGreatDoor.strings_Join b off cb (BS.map mkS) ⟨#[44]⟩ w hcells hbk (by rw [hxl]; omega) (by rw [hxl]; omega) (by rw [← HL]; omega)
    rw [hxl, ← HL] at h
    refine h.mono ?_
    rintro e w' ⟨rfl, hb⟩
    exact ⟨rfl, hb⟩
theorem one_of {L : List Ex} (h : L.length = 1) : ∃ y, L = [y] := by
  match L, h with
  | [y], _ => exact ⟨y, rfl⟩
theorem two_of {L : List Ex} (h : L.length = 2) : ∃ y z, L = [y, z] := by
  match L, h with
  | [y, z], _ => exact ⟨y, z, rfl⟩
def TxO (vy vz : Value) (Ty Tz : ByteArray) (v : Value) (T : ByteArray) : Prop := v = vy ∧ T = Ty ∨ v = vz ∧ T = Tz
set_option maxHeartbeats 16000000 in
set_option maxRecDepth 100000 in
theorem text_any (d : Nat) : ∀ (x : Ex) (u0 u1 u2 u3 u4 u5 : Value) (w : World), ExD d w x [u0, u1, u2, u3, u4, u5] → chX x = 0 → szX x ≤ 100 → STab w → WTab w → PTab w → Calls Tryz.prog 37 #[.agg #[u0, u1, u2, u3, u4, u5]] w fun e w' => e = .returned (.string (mkS (txX x))) ∧ Below w.heap.size w w' := by
  induction d with
  | zero => intro x u0 u1 u2 u3 u4 u5 w h; exact h.elim
  | succ d ih =>
    intro x u0 u1 u2 u3 u4 u5 w h hch hsz hT hWT hPT
    have hnum := exD_num _ _ _ _ h
    have hlen := txX_len _ x (Nat.le_refl _) hnum hch
    obtain ⟨vm, vb, vx, hc, hm, hb, hx, hbd, bk1, bk2, bn1, bn2, bw1, bw2⟩ := h
    simp only [List.cons.injEq, and_true] at hc
    obtain ⟨rfl, rfl, rfl, rfl, rfl, rfl⟩ := hc
    obtain ⟨hbad, hmf, hlf, hcl⟩ := chX_ok hch
    obtain ⟨hby1, hby2⟩ := byL_ok hlf
    have htx := txX_eq x
    have hsx := szX_eq x
    obtain ⟨lm, hlm⟩ : ∃ n, x.ms.length = n := ⟨_, rfl⟩
    obtain ⟨lb, hlb⟩ : ∃ n, x.bs.length = n := ⟨_, rfl⟩
    obtain ⟨lx, hlx⟩ : ∃ n, x.xs.length = n := ⟨_, rfl⟩
    have hnb : ¬ BadC (prtF x.kd) x.kd x.n x.wd x.ms.length x.bs.length x.xs.length := hbad
    rw [hlm, hlb, hlx] at hnb
    obtain ⟨am, cm, rfl, hm1, hm2⟩ := hm.shapeN hlm
    obtain ⟨ab, cb, rfl, hb1, hb2⟩ := hb.shapeN hlb
    obtain ⟨ax, cx, rfl, hx1, hx2⟩ := hx.shapeN hlx
    obtain ⟨R, hR⟩ : ∃ R, mkS (txX x) = R := ⟨_, rfl⟩
    rw [htx] at hR hlen
    rw [htx, hR]
    obtain ⟨MS, hMS⟩ : ∃ E, x.ms = E := ⟨_, rfl⟩
    obtain ⟨BS, hBS⟩ : ∃ E, x.bs = E := ⟨_, rfl⟩
    obtain ⟨XS, hXS⟩ : ∃ E, x.xs = E := ⟨_, rfl⟩
    obtain ⟨K, hK⟩ : ∃ K, x.kd = K := ⟨_, rfl⟩
    obtain ⟨N, hN⟩ : ∃ K, x.n = K := ⟨_, rfl⟩
    obtain ⟨W, hW⟩ : ∃ K, x.wd = K := ⟨_, rfl⟩
    rw [hMS] at hm hmf hR hlen
    rw [hBS] at hb hlb hby1 hby2 hlf hR hlen
    rw [hXS] at hx hlx hcl hsx hR hlen
    rw [hK] at hR hlen hnb bk1 bk2
    rw [hN] at hR hlen hnb bn1 bn2
    rw [hW] at hR hlen hnb bw1 bw2
    rw [hK, hN, hW]
    have HPA := Lib.hid (fun w => parts_any K w)
    have hcase : (K = 1 ∧ prtF K = 0) ∨ (K = 2 ∧ prtF K = 0) ∨ (3 ≤ K ∧ K ≤ 5 ∧ prtF K = 1 ∧ lx = 1) ∨ (6 ≤ K ∧ K ≤ 8 ∧ prtF K = 2 ∧ lx = 2) := by
      have h1 : ¬ prtF K < 0 := fun h => hnb (Or.inl h)
      have h2 : (lx : Int) = prtF K := Classical.byContradiction fun h => hnb (Or.inr (Or.inl h))
      unfold prtF at h1 h2 ⊢
      by_cases g1 : K = 1
      · exact Or.inl ⟨g1, if_pos (Or.inl g1)⟩
      by_cases g2 : K = 2
      · exact Or.inr (Or.inl ⟨g2, if_pos (Or.inr g2)⟩)
      rw [if_neg (by omega)] at h1 h2
      by_cases g3 : K = 3 ∨ K = 4 ∨ K = 5
      · rw [if_pos g3] at h2
        exact Or.inr (Or.inr (Or.inl ⟨by omega, by omega, by rw [if_neg (by omega), if_pos g3], by omega⟩))
      · rw [if_neg g3] at h1 h2
        by_cases g4 : K = 6 ∨ K = 7 ∨ K = 8
        · rw [if_pos g4] at h2
          exact Or.inr (Or.inr (Or.inr ⟨by omega, by omega, by rw [if_neg (by omega), if_neg g3, if_pos g4], by omega⟩))
        · rw [if_neg g4] at h1
          omega
    obtain ⟨wa, hwa, hbox, hba, hsa⟩ := box_ex w (.int .i64 K) (.int .i64 N) (.int .i64 W) (.slice am lm cm) (.slice ab lb cb) (.slice ax lx cx)
    have HWA := Lib.hid hwa
    have HBA := Lib.hid hba
    obtain ⟨⟨d0, d1, d2, d3, d4, d5⟩, -⟩ := bx6 hbox
    obtain ⟨bx, hbx⟩ : ∃ bx, w.heap.size = bx := ⟨_, rfl⟩
    rw [hbx] at d0 d1 d2 d3 d4 d5 hbox
    have HBX := Lib.hid hbox
    have HBE := Lib.hid hbx
    have HCASE := Lib.hid hcase
    have HR := Lib.hid hR
    have HLEN := Lib.hid hlen
    have HM := Lib.hid (hm.below mtR_mono hba)
    have HB := Lib.hid (hb.below strR_mono hba)
    have HX := Lib.hid (hx.below (exD_mono d) hba)
    have HTA := Lib.hid (hT.below hba)
    have HWT := Lib.hid (hWT.below hba)
    have HPT := Lib.hid (hPT.below hba)
    have HCL := Lib.hid hcl
    have HSX := Lib.hid hsx
    have HSZ := Lib.hid hsz
    have HIH := Lib.hid ih
    have HLB := Lib.hid hlb
    have HLX := Lib.hid hlx
    have HBY2 := Lib.hid hby2
    have HMF := Lib.hid hmf
    have hlb10 : lb ≤ 10 := by rw [← hlb]; exact hby1
    have hbl : bx < wa.heap.size := (Array.getElem?_eq_some_iff.1 hbox).1
    clear hbx hnum hch hsz hT hWT hPT hbad hlf hbd hby1 hby2 htx hsx hlm hnb hm hb hx hMS hBS hXS hK hN hW hwa hba hsa hbox hcase hR hlen hcl ih hlb hlx hmf
    rcases HCASE.out with ⟨rfl, hp⟩ | ⟨rfl, hp⟩ | ⟨k3, k5, hp, rfl⟩ | ⟨k6, k8, hp, rfl⟩
    · rw [hp] at HPA
      have HFI := Lib.hid (format_any N bn1 bn2 wa HPT.out)
      have HRR : Hid (mkS (Lib.itoa N) = R) := Lib.hid (by rw [← HR.out]; rfl)
      rw [HRR.out] at HFI
      clear hp
      go_enter Tryz.func37, Tryz.ntmps37
      go_upto_region 1 with (fail)
      rw [HBE.out, ← HWA.out]
      go_wp2_with (first
        | (go_at_call 64; refine (HPA.out _).mono ?_; rintro e w2 ⟨rfl, rfl⟩)
        | (go_at_call 65; refine HFI.out.mono ?_; rintro e w2 ⟨rfl, hb2⟩; have HB2 := Lib.hid (HBA.out.trans (hb2.mono HBA.out.size)); clear hb2))
      go_ret
      exact ⟨rfl, HB2.out⟩
    · rw [hp] at HPA
      have HMT := mtt_any _ MS wa HM.out HTA.out
      rw [HMF.out] at HMT
      have HMT2 := Lib.hid HMT
      have HFI := Lib.hid (fun W2 (h : Below wa.heap.size wa W2) => format_any W bw1 bw2 W2 (HPT.out.below h))
      obtain ⟨A, hA⟩ : ∃ A, A = mkS (textM MS) := ⟨_, rfl⟩
      obtain ⟨I, hI⟩ : ∃ A, A = mkS (Lib.itoa W) := ⟨_, rfl⟩
      have HRR : Hid (A ++ ⟨#[91]⟩ ++ I ++ ⟨#[93]⟩ = R) := Lib.hid (by
        rw [← HR.out, hA, hI]
        show mkS _ ++ mkS [91] ++ mkS _ ++ mkS [93] = mkS (textM MS ++ (91 :: (Lib.itoa W ++ [93])))
        rw [mkS_app, mkS_app, mkS_app]
        congr 1
        simp)
      have hA1 : A.size ≤ 1060 := by rw [hA, mkS_size]; exact textM_le HMF.out
      have hI1 : I.size ≤ 20 := by rw [hI, mkS_size]; exact itoa_len bw1 bw2
      have s1 : A.size + 1 ≤ 9223372036854775807 := by omega
      have s2 : A.size + 1 + I.size ≤ 9223372036854775807 := by omega
      have s3 : A.size + 1 + I.size + 1 ≤ 9223372036854775807 := by omega
      rw [← hI] at HFI
      have HA := Lib.hid hA
      clear hp HMT hA hI
      go_enter Tryz.func37, Tryz.ntmps37
      go_upto_region 1 with (fail)
      rw [HBE.out, ← HWA.out]
      go_wp2_with (first
        | (go_at_call 64; refine (HPA.out _).mono ?_; rintro e w2 ⟨rfl, rfl⟩)
        | (go_at_call 25; refine HMT2.out.mono ?_; rintro e w2 ⟨rfl, hb2⟩; rw [if_pos rfl, ← HA.out]; have HB2 := Lib.hid (HBA.out.trans (hb2.mono HBA.out.size)); obtain ⟨⟨-, -, q2, -, -, -⟩, -⟩ := bx6 ((hb2.block bx hbl).trans HBX.out); have HFI2 := Lib.hid (HFI.out w2 hb2); clear hb2)
        | (go_at_call 65; refine HFI2.out.mono ?_; rintro e w3 ⟨rfl, hb3⟩; have HB3 := Lib.hid (HB2.out.trans (hb3.mono HB2.out.size)); clear hb3))
      go_ret
      exact ⟨by rw [HRR.out]; rfl, HB3.out⟩
    · rw [hp] at HPA
      obtain ⟨y, rfl⟩ := one_of HLX.out
      have hzy : szX y ≤ 99 := by have h1 := HSX.out; have h2 := HSZ.out; rw [szL_cons, szL_nil] at h1; omega
      have hcy : chX y = 0 := chL_at HCL.out (k := 0) rfl
      obtain ⟨b, off, cs, hax, hy2, -, hck⟩ := HX.out.get (i := 0) (a := y) rfl
      obtain ⟨y0, y1, y2, y3, y4, y5, y6, y7, y8, y9, yA, yB, rfl⟩ := exD_shape hy2
      have c0 := hck 0 _ rfl
      have c1 := hck 1 _ rfl
      have c2 := hck 2 _ rfl
      have c3 := hck 3 _ rfl
      have c4 := hck 4 _ rfl
      have c5 := hck 5 _ rfl
      simp only [Nat.zero_mul, Nat.add_zero] at c0 c1 c2 c3 c4 c5
      subst hax
      have HTY := Lib.hid (fun W2 (h : Below wa.heap.size wa W2) => HIH.out y (.int .i64 y0) (.int .i64 y1) (.int .i64 y2) (.slice y3 y4 y5) (.slice y6 y7 y8) (.slice y9 yA yB) W2 (exD_mono d _ _ _ _ hy2 h) hcy (by omega) (HTA.out.below h) (HWT.out.below h) (HPT.out.below h))
      have hty : (txX y).length ≤ 200000 := by
        have := txX_len _ y (Nat.le_refl _) (exD_num _ _ _ _ hy2) hcy
        omega
      obtain ⟨kk, rfl⟩ : ∃ kk : Nat, K = kk := ⟨K.toNat, by omega⟩
      have hkk : kk < 9 := by omega
      have hw := HWT.out kk hkk
      obtain ⟨Wd, hWd⟩ : ∃ A, A = mkS (wrd kk) := ⟨_, rfl⟩
      obtain ⟨Ty, hTy⟩ : ∃ A, A = mkS (txX y) := ⟨_, rfl⟩
      have hWd1 : Wd.size ≤ 5 := by rw [hWd, mkS_size]; exact wrd_le _
      have hTy1 : Ty.size ≤ 200000 := by rw [hTy, mkS_size]; exact hty
      rw [← hWd] at hw
      rw [← hTy] at HTY
      have hRR : R = mkS (wrd kk ++ (byT BS ++ (40 :: (txX y ++ [41])))) := by
        rw [← HR.out]
        unfold asmX
        rw [if_neg (by omega), if_neg (by omega), if_pos (by omega), txL_cons]
        rfl
      by_cases hlb0 : lb = 0
      · subst hlb0
        have hB0 : BS = [] := List.length_eq_zero_iff.1 HLB.out
        have HRR : Hid (Wd ++ ⟨#[40]⟩ ++ Ty ++ ⟨#[41]⟩ = R) := Lib.hid (by
          rw [hRR, hB0, hWd, hTy]
          show mkS _ ++ mkS [40] ++ mkS _ ++ mkS [41] = _
          rw [mkS_app, mkS_app, mkS_app]
          congr 1
          simp [byT])
        have s1 : Wd.size + 1 ≤ 9223372036854775807 := by omega
        have s2 : Wd.size + 1 + Ty.size ≤ 9223372036854775807 := by omega
        have s3 : Wd.size + 1 + Ty.size + 1 ≤ 9223372036854775807 := by omega
        clear hB0 hRR hWd hTy hp hck hy2 hcy hzy hty
        go_enter Tryz.func37, Tryz.ntmps37
        go_upto_region 1 with (fail)
        rw [HBE.out, ← HWA.out]
        go_wp2_with (first
          | (go_at_call 64; refine (HPA.out _).mono ?_; rintro e w2 ⟨rfl, rfl⟩)
          | (go_at_call 37; refine (HTY.out _ (Below.refl _ _)).mono ?_; rintro e w2 ⟨rfl, hb2⟩; have HB2 := Lib.hid (HBA.out.trans (hb2.mono HBA.out.size)); clear hb2))
        go_ret
        exact ⟨by rw [HRR.out]; rfl, HB2.out⟩
      · have hlb1 : 0 < lb := by omega
        obtain ⟨J, hJ⟩ : ∃ A, A = mkS (commas BS) := ⟨_, rfl⟩
        have hJ1 : J.size ≤ 1050 := by
          rw [hJ, mkS_size]
          have := commas_le BS (fun x hx => by have := HBY2.out x hx; omega)
          have := HLB.out
          omega
        have HJO := Lib.hid (join_any ab lb cb BS wa HB.out HLB.out hlb10 HBY2.out)
        rw [← hJ] at HJO
        have HRR : Hid (Wd ++ (⟨#[32, 98, 121, 32]⟩ ++ J) ++ ⟨#[40]⟩ ++ Ty ++ ⟨#[41]⟩ = R) := Lib.hid (by
          have hb : byT BS = [32, 98, 121, 32] ++ commas BS := by
            have := HLB.out
            match BS, this with
            | s :: r, _ => rfl
            | [], h => exact absurd h (by simp; omega)
          rw [hRR, hb, hWd, hTy, hJ]
          show mkS _ ++ (mkS [32, 98, 121, 32] ++ mkS _) ++ mkS [40] ++ mkS _ ++ mkS [41] = _
          rw [mkS_app, mkS_app, mkS_app, mkS_app, mkS_app]
          congr 1
          simp)
        have s0 : 4 + J.size ≤ 9223372036854775807 := by omega
        have s1 : Wd.size + (4 + J.size) ≤ 9223372036854775807 := by omega
        have s2 : Wd.size + (4 + J.size) + 1 ≤ 9223372036854775807 := by omega
        have s3 : Wd.size + (4 + J.size) + 1 + Ty.size ≤ 9223372036854775807 := by omega
        have s4 : Wd.size + (4 + J.size) + 1 + Ty.size + 1 ≤ 9223372036854775807 := by omega
        have HC0 := Lib.hid c0
        have HKC := Lib.hid (fun (W2 : World) (h : Below wa.heap.size wa W2) => (And.intro ((h.cell (p := ⟨b, off, none⟩) (cell_lt c0)).trans c0) (And.intro ((h.cell (p := ⟨b, off + 1, none⟩) (cell_lt c0)).trans c1) (And.intro ((h.cell (p := ⟨b, off + 2, none⟩) (cell_lt c0)).trans c2) (And.intro ((h.cell (p := ⟨b, off + 3, none⟩) (cell_lt c0)).trans c3) (And.intro ((h.cell (p := ⟨b, off + 4, none⟩) (cell_lt c0)).trans c4) ((h.cell (p := ⟨b, off + 5, none⟩) (cell_lt c0)).trans c5)))))))
        clear hRR hWd hTy hJ hp hck hy2 hcy hzy hty
        go_enter Tryz.func37, Tryz.ntmps37
        go_upto_region 1 with (fail)
        rw [HBE.out, ← HWA.out]
        go_wp2_with (first
          | (go_at_call 64; refine (HPA.out _).mono ?_; rintro e w2 ⟨rfl, rfl⟩)
          | (go_at_call 63; refine HJO.out.mono ?_; rintro e w2 ⟨rfl, hb2⟩; have HB2 := Lib.hid (HBA.out.trans (hb2.mono HBA.out.size)); have HBW := Lib.hid hb2; obtain ⟨⟨-, -, -, -, -, q5⟩, -⟩ := bx6 ((hb2.block bx hbl).trans HBX.out); obtain ⟨e0, e1, e2, e3, e4, e5⟩ := HKC.out _ hb2; clear hb2)
          | (go_at_call 37; refine (HTY.out _ HBW.out).mono ?_; rintro e w3 ⟨rfl, hb3⟩; have HB3 := Lib.hid (HB2.out.trans (hb3.mono HB2.out.size)); clear hb3))
        go_ret
        exact ⟨by rw [HRR.out]; rfl, HB3.out⟩
    · rw [hp] at HPA
      obtain ⟨y, z, rfl⟩ := two_of HLX.out
      have hsum : szX y + szX z ≤ 99 := by have h1 := HSX.out; have h2 := HSZ.out; rw [szL_cons, szL_cons, szL_nil] at h1; omega
      have hcy : chX y = 0 := chL_at HCL.out (k := 0) rfl
      have hcz : chX z = 0 := chL_at HCL.out (k := 1) rfl
      obtain ⟨b, off, cs, hax, hy2, -, hck⟩ := HX.out.get (i := 0) (a := y) rfl
      obtain ⟨b', off', cs', hax', hz2, -, hck'⟩ := HX.out.get (i := 1) (a := z) rfl
      obtain ⟨y0, y1, y2, y3, y4, y5, y6, y7, y8, y9, yA, yB, rfl⟩ := exD_shape hy2
      obtain ⟨z0, z1, z2, z3, z4, z5, z6, z7, z8, z9, zA, zB, rfl⟩ := exD_shape hz2
      rw [hax] at hax'
      injection hax' with hax'
      injection hax' with e1 e2
      subst e1 e2
      have c0 := hck 0 _ rfl
      have c1 := hck 1 _ rfl
      have c2 := hck 2 _ rfl
      have c3 := hck 3 _ rfl
      have c4 := hck 4 _ rfl
      have c5 := hck 5 _ rfl
      have g0 := hck' 0 _ rfl
      have g1 := hck' 1 _ rfl
      have g2 := hck' 2 _ rfl
      have g3 := hck' 3 _ rfl
      have g4 := hck' 4 _ rfl
      have g5 := hck' 5 _ rfl
      simp only [Nat.zero_mul, Nat.one_mul, Nat.add_zero] at c0 c1 c2 c3 c4 c5 g0 g1 g2 g3 g4 g5
      subst hax
      have hty : (txX y).length ≤ 200000 := by
        have := txX_len _ y (Nat.le_refl _) (exD_num _ _ _ _ hy2) hcy
        omega
      have htz : (txX z).length ≤ 200000 := by
        have := txX_len _ z (Nat.le_refl _) (exD_num _ _ _ _ hz2) hcz
        omega
      have HTO : Hid (∀ v T W2, TxO (.agg #[.int .i64 y0, .int .i64 y1, .int .i64 y2, .slice y3 y4 y5, .slice y6 y7 y8, .slice y9 yA yB]) (.agg #[.int .i64 z0, .int .i64 z1, .int .i64 z2, .slice z3 z4 z5, .slice z6 z7 z8, .slice z9 zA zB]) (mkS (txX y)) (mkS (txX z)) v T → Below wa.heap.size wa W2 → Calls Tryz.prog 37 #[v] W2 fun e w' => e = .returned (.string T) ∧ Below W2.heap.size W2 w') := Lib.hid (by
        intro v T W2 hv h
        rcases hv with ⟨rfl, rfl⟩ | ⟨rfl, rfl⟩
        · exact HIH.out y (.int .i64 y0) (.int .i64 y1) (.int .i64 y2) (.slice y3 y4 y5) (.slice y6 y7 y8) (.slice y9 yA yB) W2 (exD_mono d _ _ _ _ hy2 h) hcy (by omega) (HTA.out.below h) (HWT.out.below h) (HPT.out.below h)
        · exact HIH.out z (.int .i64 z0) (.int .i64 z1) (.int .i64 z2) (.slice z3 z4 z5) (.slice z6 z7 z8) (.slice z9 zA zB) W2 (exD_mono d _ _ _ _ hz2 h) hcz (by omega) (HTA.out.below h) (HWT.out.below h) (HPT.out.below h))
      have B1 : Hid (TxO (.agg #[.int .i64 y0, .int .i64 y1, .int .i64 y2, .slice y3 y4 y5, .slice y6 y7 y8, .slice y9 yA yB]) (.agg #[.int .i64 z0, .int .i64 z1, .int .i64 z2, .slice z3 z4 z5, .slice z6 z7 z8, .slice z9 zA zB]) (mkS (txX y)) (mkS (txX z)) (.agg #[.int .i64 y0, .int .i64 y1, .int .i64 y2, .slice y3 y4 y5, .slice y6 y7 y8, .slice y9 yA yB]) (mkS (txX y))) := Lib.hid (Or.inl ⟨rfl, rfl⟩)
      have B2 : Hid (TxO (.agg #[.int .i64 y0, .int .i64 y1, .int .i64 y2, .slice y3 y4 y5, .slice y6 y7 y8, .slice y9 yA yB]) (.agg #[.int .i64 z0, .int .i64 z1, .int .i64 z2, .slice z3 z4 z5, .slice z6 z7 z8, .slice z9 zA zB]) (mkS (txX y)) (mkS (txX z)) (.agg #[.int .i64 z0, .int .i64 z1, .int .i64 z2, .slice z3 z4 z5, .slice z6 z7 z8, .slice z9 zA zB]) (mkS (txX z))) := Lib.hid (Or.inr ⟨rfl, rfl⟩)
      obtain ⟨kk, rfl⟩ : ∃ kk : Nat, K = kk := ⟨K.toNat, by omega⟩
      have hkk : kk < 9 := by omega
      have hw := HWT.out kk hkk
      obtain ⟨Wd, hWd⟩ : ∃ A, A = mkS (wrd kk) := ⟨_, rfl⟩
      obtain ⟨Ty, hTy⟩ : ∃ A, A = mkS (txX y) := ⟨_, rfl⟩
      obtain ⟨Tz, hTz⟩ : ∃ A, A = mkS (txX z) := ⟨_, rfl⟩
      have hWd1 : Wd.size ≤ 5 := by rw [hWd, mkS_size]; exact wrd_le _
      have hTy1 : Ty.size ≤ 200000 := by rw [hTy, mkS_size]; exact hty
      have hTz1 : Tz.size ≤ 200000 := by rw [hTz, mkS_size]; exact htz
      have HRR : Hid (⟨#[40]⟩ ++ Ty ++ Wd ++ Tz ++ ⟨#[41]⟩ = R) := Lib.hid (by
        rw [← HR.out]
        unfold asmX
        rw [if_neg (by omega), if_neg (by omega), if_neg (by omega), txL_cons, txL_cons, hWd, hTy, hTz]
        show mkS [40] ++ mkS _ ++ mkS _ ++ mkS _ ++ mkS [41] = mkS (40 :: (txX y ++ (wrd kk ++ (txX z ++ [41]))))
        rw [mkS_app, mkS_app, mkS_app, mkS_app]
        congr 1
        simp)
      rw [← hWd] at hw
      rw [← hTy, ← hTz] at HTO B1 B2
      have s1 : (9223372036854775807 < 1 + Ty.size) = False := eq_false (by omega)
      have s2 : (9223372036854775807 < 1 + Ty.size + Wd.size) = False := eq_false (by omega)
      have s3 : (9223372036854775807 < 1 + Ty.size + Wd.size + Tz.size) = False := eq_false (by omega)
      have s4 : (9223372036854775807 < 1 + Ty.size + Wd.size + Tz.size + 1) = False := eq_false (by omega)
      have HKC := Lib.hid (fun (W2 : World) (h : Below wa.heap.size wa W2) => And.intro ((h.cell (p := ⟨bx, 5, none⟩) hbl).trans d5) (And.intro ((h.cell (p := ⟨bx, 0, none⟩) hbl).trans d0) (And.intro ((h.cell (p := ⟨1, kk, none⟩) (cell_lt hw)).trans hw) (And.intro ((h.cell (p := ⟨b, off, none⟩) (cell_lt c0)).trans c0) (And.intro ((h.cell (p := ⟨b, off + 1, none⟩) (cell_lt c0)).trans c1) (And.intro ((h.cell (p := ⟨b, off + 2, none⟩) (cell_lt c0)).trans c2) (And.intro ((h.cell (p := ⟨b, off + 3, none⟩) (cell_lt c0)).trans c3) (And.intro ((h.cell (p := ⟨b, off + 4, none⟩) (cell_lt c0)).trans c4) (And.intro ((h.cell (p := ⟨b, off + 5, none⟩) (cell_lt c0)).trans c5) (And.intro ((h.cell (p := ⟨b, off + 6, none⟩) (cell_lt c0)).trans g0) (And.intro ((h.cell (p := ⟨b, off + 6 + 1, none⟩) (cell_lt c0)).trans g1) (And.intro ((h.cell (p := ⟨b, off + 6 + 2, none⟩) (cell_lt c0)).trans g2) (And.intro ((h.cell (p := ⟨b, off + 6 + 3, none⟩) (cell_lt c0)).trans g3) (And.intro ((h.cell (p := ⟨b, off + 6 + 4, none⟩) (cell_lt c0)).trans g4) ((h.cell (p := ⟨b, off + 6 + 5, none⟩) (cell_lt c0)).trans g5)))))))))))))))
      have HB0 := Lib.hid (Below.refl wa.heap.size wa)
      have kk0 : (0 : Int) ≤ (kk : Int) := by omega
      have kk9 : (kk : Int) < 9 := by omega
      have HB0d := Lib.hid (Below.refl wa.heap.size wa).drew
      clear hWd hTy hTz hp hck hck' hy2 hz2 hcy hcz hsum hty htz
      go_enter Tryz.func37, Tryz.ntmps37
      go_upto_region 1 with (fail)
      rw [HBE.out, ← HWA.out]
      go_upto_region 8 with (go_at_call 64; refine (HPA.out _).mono ?_; rintro e w2 ⟨rfl, rfl⟩)
      go_region_held3 (fun w' => w'.cell? ⟨bx, 5, none⟩ = some (.slice (some ⟨b, off, none⟩) 2 cx) ∧ w'.cell? ⟨bx, 0, none⟩ = some (.int .i64 kk) ∧ w'.cell? ⟨1, kk, none⟩ = some (.string Wd) ∧ w'.cell? ⟨b, off, none⟩ = some (.int .i64 y0) ∧ w'.cell? ⟨b, off + 1, none⟩ = some (.int .i64 y1) ∧ w'.cell? ⟨b, off + 2, none⟩ = some (.int .i64 y2) ∧ w'.cell? ⟨b, off + 3, none⟩ = some (.slice y3 y4 y5) ∧ w'.cell? ⟨b, off + 4, none⟩ = some (.slice y6 y7 y8) ∧ w'.cell? ⟨b, off + 5, none⟩ = some (.slice y9 yA yB) ∧ w'.cell? ⟨b, off + 6, none⟩ = some (.int .i64 z0) ∧ w'.cell? ⟨b, off + 6 + 1, none⟩ = some (.int .i64 z1) ∧ w'.cell? ⟨b, off + 6 + 2, none⟩ = some (.int .i64 z2) ∧ w'.cell? ⟨b, off + 6 + 3, none⟩ = some (.slice z3 z4 z5) ∧ w'.cell? ⟨b, off + 6 + 4, none⟩ = some (.slice z6 z7 z8) ∧ w'.cell? ⟨b, off + 6 + 5, none⟩ = some (.slice z9 zA zB)) (first | (with_reducible exact HKC.out _ HBf.out) | (with_reducible exact HKC.out _ HB0.out) | (with_reducible exact HKC.out _ HB0d.out) | go_keep)
        ((go_at_call 37; refine (HTO.out _ _ _ (by first | exact B1.out | exact B2.out) (by first | (with_reducible exact HBf.out) | (with_reducible exact HB0.out) | (with_reducible exact HB0d.out) | (with_reducible exact HBf.out.drew))).mono ?_; rintro e w4 ⟨rfl, hb4⟩; have HBf : Hid (Below wa.heap.size wa w4) := Lib.hid (by first | (with_reducible exact HBf.out.trans (hb4.mono HBf.out.size)) | (with_reducible exact HBf.out.drew.trans (hb4.mono HBf.out.drew.size)) | (with_reducible exact HB0.out.trans hb4) | (with_reducible exact HB0d.out.trans (hb4.mono HB0d.out.size))); obtain ⟨f5, f0, fw, m0, m1, m2, m3, m4, m5, n0, n1, n2, n3, n4, n5⟩ := HKC.out _ HBf.out; clear hb4))
      all_goals
        go_wp2_with fail
        go_ret
        exact ⟨by rw [HRR.out]; rfl, HBA.out.trans (HBf.out.mono HBA.out.size)⟩
end Go.Proofs.YtlfhcjhbnakamaaGreatDoor.Exp
/-
  The walk of Decimal: the digits of a number.
-/
namespace Go.Proofs.YtlfhcjhbnakamaaGreatDoor.Exp
open Go.RowKit Go.Gh Go.Proofs.YtlfhcjhbnakamaaGreatDoor.Lab
set_option linter.unusedVariables false
set_option linter.unusedSimpArgs false
theorem digits_piece (r : Nat) (h : r < 10) : (⟨#[48, 49, 50, 51, 52, 53, 54, 55, 56, 57]⟩ : ByteArray).extract r (r + 1) = mkS (Lib.decDigits r) := by
  rw [Lib.decDigits_one h]
  show (mkS [48, 49, 50, 51, 52, 53, 54, 55, 56, 57]).extract r (r + 1) = _
  rw [mkS_ext]
  have : r = 0 ∨ r = 1 ∨ r = 2 ∨ r = 3 ∨ r = 4 ∨ r = 5 ∨ r = 6 ∨ r = 7 ∨ r = 8 ∨ r = 9 := by omega
  rcases this with rfl | rfl | rfl | rfl | rfl | rfl | rfl | rfl | rfl | rfl <;> rfl
theorem dec_split {m : Nat} (h : ¬ m < 10) : Lib.decDigits m = Lib.decDigits (m / 10) ++ Lib.decDigits (m % 10) := by
  rw [Lib.decDigits, dif_neg h, Lib.decDigits_one (Nat.mod_lt _ (by decide))]
theorem dec_small (k m : Nat) (h : m < 10 ^ (k + 1)) : (mkS (Lib.decDigits m)).size ≤ k + 1 := by rw [mkS_size]; exact dec_len k m h
set_option maxHeartbeats 4000000 in
set_option maxRecDepth 100000 in
theorem dec_nat (m : Nat) : m < 9223372036854775808 → ∀ w, Calls Tryz.prog 42 #[.int .i64 (m : Int)] w fun e w' => e = .returned (.string (mkS (Lib.decDigits m))) ∧ w = w' := by
  induction m using Nat.strongRecOn with
  | _ m ih =>
    intro hm w
    obtain ⟨r, hr⟩ : ∃ r, m % 10 = r := ⟨_, rfl⟩
    obtain ⟨q, hq⟩ : ∃ q, m / 10 = q := ⟨_, rfl⟩
    have hr9 : r < 10 := by omega
    have er : (m : Int) % 10 = (r : Int) := by omega
    have eq : (m : Int) / 10 = (q : Int) := by omega
    have hdig := digits_piece r hr9
    have hs1 : (mkS (Lib.decDigits r)).size = 1 := by rw [mkS_size, Lib.decDigits_one hr9]; rfl
    by_cases h10 : m < 10
    · obtain rfl : m = r := by omega
      have HD := Lib.hid hdig
      clear hdig hr hq ih eq er hs1
      go_enter Tryz.func42, Tryz.ntmps42
      go_wp2_with fail
      go_ret
      exact ⟨by rw [Nat.mod_eq_of_lt hr9, HD.out]; rfl, rfl⟩
    · have HQ := Lib.hid (ih q (by omega) (by omega))
      have hs2 := dec_small 18 q (by omega)
      have HSP : Hid (mkS (Lib.decDigits q) ++ mkS (Lib.decDigits r) = mkS (Lib.decDigits m)) := Lib.hid (by rw [mkS_app, dec_split h10, hr, hq])
      have HD := Lib.hid hdig
      generalize mkS (Lib.decDigits q) = Q at *
      clear hdig hr hq ih hs1
      go_enter Tryz.func42, Tryz.ntmps42
      go_wp2_with (refine (HQ.out _).mono ?_; rintro e w2 ⟨rfl, rfl⟩)
      go_ret
      exact ⟨by rw [HD.out, HSP.out]; rfl, rfl⟩
set_option maxHeartbeats 4000000 in
set_option maxRecDepth 100000 in
theorem decimal_any (n : Int) (h1 : -9223372036854775808 ≤ n) (h2 : n < 9223372036854775808) (w : World) : Calls Tryz.prog 42 #[.int .i64 n] w fun e w' => e = .returned (.string (mkS (Lib.itoa n))) ∧ w = w' := by
  by_cases hn : n < 0
  case neg =>
    obtain ⟨m, rfl⟩ : ∃ m : Nat, n = (m : Int) := ⟨n.toNat, by omega⟩
    have e : Lib.itoa (m : Int) = Lib.decDigits m := by unfold Lib.itoa; rw [if_neg hn]; rfl
    rw [e]
    exact dec_nat m (by omega) w
  obtain ⟨m, rfl⟩ : ∃ m : Nat, n = -(m : Int) := ⟨n.natAbs, by omega⟩
  have e : Lib.itoa (-(m : Int)) = 45 :: Lib.decDigits m := by unfold Lib.itoa; rw [if_pos hn, Int.natAbs_neg, Int.natAbs_natCast]
  rw [e]
  obtain ⟨r, hr⟩ : ∃ r, m % 10 = r := ⟨_, rfl⟩
  obtain ⟨q, hq⟩ : ∃ q, m / 10 = q := ⟨_, rfl⟩
  have hr9 : r < 10 := by omega
  have er : (-(m : Int)).tmod 10 = -(r : Int) := by rw [Int.neg_tmod, Int.tmod_eq_emod_of_nonneg (by omega)]; omega
  have eq : (-(m : Int)).tdiv 10 = -(q : Int) := by rw [Int.neg_tdiv, Int.tdiv_eq_ediv_of_nonneg (by omega)]; omega
  have HR := Lib.hid (dec_nat r (by omega))
  have HQ := Lib.hid (dec_nat q (by omega))
  have hs1 : (mkS (Lib.decDigits r)).size = 1 := by rw [mkS_size, Lib.decDigits_one hr9]; rfl
  have hs2 := dec_small 18 q (by omega)
  have HSP : Hid (m < 10 ∧ m = r ∧ q = 0 ∨ ¬ m < 10 ∧ ¬ q = 0 ∧ Lib.decDigits m = Lib.decDigits q ++ Lib.decDigits r) := Lib.hid (by
    by_cases h10 : m < 10
    · exact Or.inl ⟨h10, by omega, by omega⟩
    · exact Or.inr ⟨h10, by omega, by rw [dec_split h10, hr, hq]⟩)
  have hm0 : 0 < m := by omega
  have hq9 : q ≤ 922337203685477580 := by omega
  clear hn h2 hr hq e
  rcases HSP.out with ⟨-, rfl, rfl⟩ | ⟨-, hq0, hd⟩
  · generalize hRs : mkS (Lib.decDigits m) = R at *
    have HRs := Lib.hid hRs
    clear hRs HQ hs2
    go_enter Tryz.func42, Tryz.ntmps42
    go_wp2_with (refine (HR.out _).mono ?_; rintro e w2 ⟨rfl, rfl⟩)
    go_ret
    exact ⟨by rw [← HRs.out]; rfl, rfl⟩
  · have HD := Lib.hid hd
    obtain ⟨R, hRs⟩ : ∃ R, mkS (Lib.decDigits r) = R := ⟨_, rfl⟩
    obtain ⟨Q, hQs⟩ : ∃ R, mkS (Lib.decDigits q) = R := ⟨_, rfl⟩
    rw [hRs] at HR hs1
    rw [hQs] at HQ hs2
    have HRs := Lib.hid hRs
    have HQs := Lib.hid hQs
    clear hd hRs hQs
    have hq1 : 0 < q := by omega
    have hqq : ((q : Int) == 0) = false := by simp; omega
    go_enter Tryz.func42, Tryz.ntmps42
    go_wp2_with fail
    refine (HQ.out _).mono ?_
    rintro e w2 ⟨rfl, rfl⟩
    go_wp2_with fail
    refine (HR.out _).mono ?_
    rintro e w2 ⟨rfl, rfl⟩
    go_wp2_with fail
    go_ret
    exact ⟨by rw [HD.out, ← HRs.out, ← HQs.out]; rfl, rfl⟩
end Go.Proofs.YtlfhcjhbnakamaaGreatDoor.Exp
