/-
  Expressions: the walk of ExprText (PRINTED by mkex6.py).
-/
import Derived.Test.YtjmplhkdohlbcaaGreatDoorEz14
namespace Go.Proofs.YtjmplhkdohlbcaaGreatDoor.Exp
open Go.RowKit Go.Gh Go.Proofs.YtjmplhkdohlbcaaGreatDoor.Lab
set_option linter.unusedVariables false
set_option linter.unusedSimpArgs false
/-- What the loop over the names has written. -/
def byK (b : List By) (k : Nat) : By := byT (b.take k)
theorem commas_snoc : ∀ (l : List By) (s : By), l ≠ [] → commas (l ++ [s]) = commas l ++ 44 :: s
  | [], s, h => absurd rfl h
  | [x], s, _ => rfl
  | x :: y :: r, s, _ => by
    show x ++ 44 :: commas (y :: r ++ [s]) = (x ++ 44 :: commas (y :: r)) ++ 44 :: s
    rw [commas_snoc (y :: r) s (by simp)]
    simp
theorem byK_first {b : List By} {s : By} (h : b[0]? = some s) : byK b 1 = [32, 98, 121, 32] ++ s := by
  match b, h with
  | x :: r, h =>
    obtain rfl : x = s := by simpa using h
    rfl
theorem byT_ne {l : List By} (h : l ≠ []) : byT l = [32, 98, 121, 32] ++ commas l := by
  match l, h with
  | x :: r, _ => rfl
theorem byK_next {b : List By} {k : Nat} {s : By} (hk : 0 < k) (h : b[k]? = some s) : byK b (k + 1) = byK b k ++ 44 :: s := by
  have hl : k < b.length := (List.getElem?_eq_some_iff.1 h).1
  have h1 : b.take k ≠ [] := fun e => by
    have := congrArg List.length e
    rw [List.length_take, List.length_nil] at this
    omega
  unfold byK
  rw [List.take_add_one, h]
  show byT (b.take k ++ [s]) = _
  rw [byT_ne h1, byT_ne (by simp), commas_snoc _ _ h1]
  simp
theorem byK_len {b : List By} {k : Nat} (h1 : b.length ≤ 10) (h2 : ∀ s ∈ b, s.length ≤ 20) : (byK b k).length ≤ 1100 := by
  unfold byK
  by_cases h : b.take k = []
  · rw [h]; exact Nat.zero_le _
  · rw [byT_ne h, List.length_append]
    have := commas_le (b.take k) (fun x hx => by have := h2 x (List.mem_of_mem_take hx); omega)
    have h3 : (b.take k).length ≤ 10 := by rw [List.length_take]; omega
    have h4 : ([32, 98, 121, 32] : By).length = 4 := rfl
    omega
set_option maxHeartbeats 16000000 in
set_option maxRecDepth 100000 in
theorem extext_any (d : Nat) : ∀ (x : Ex) (u0 u1 u2 u3 u4 u5 : Value) (w : World), ExD d w x [u0, u1, u2, u3, u4, u5] → chX x = 0 → szX x ≤ 100 → Calls Tryz.prog 18 #[.agg #[u0, u1, u2, u3, u4, u5]] w fun e w' => e = .returned (.string (mkS (txX x))) ∧ Below w.heap.size w w' := by
  induction d with
  | zero => intro x u0 u1 u2 u3 u4 u5 w h; exact h.elim
  | succ d ih =>
    intro x u0 u1 u2 u3 u4 u5 w h hch hsz
    have hnum := exD_num _ _ _ _ h
    have hlen := txX_len _ x (Nat.le_refl _) hnum hch
    obtain ⟨vm, vb, vx, hc, hm, hb, hx, hbd, bk1, bk2, bn1, bn2, bw1, bw2⟩ := h
    simp only [List.cons.injEq, and_true] at hc
    obtain ⟨rfl, rfl, rfl, rfl, rfl, rfl⟩ := hc
    obtain ⟨hbad, hmf, hlf, hcl⟩ := chX_ok hch
    obtain ⟨hby1, hby2⟩ := byL_ok hlf
    have htx := txX_eq x
    have hsx := szX_eq x
    obtain ⟨lm, hlm⟩ : ∃ n, x.ms.length = n := ⟨_, rfl⟩
    obtain ⟨lb, hlb⟩ : ∃ n, x.bs.length = n := ⟨_, rfl⟩
    obtain ⟨lx, hlx⟩ : ∃ n, x.xs.length = n := ⟨_, rfl⟩
    have hnb : ¬ BadC (prtF x.kd) x.kd x.n x.wd x.ms.length x.bs.length x.xs.length := hbad
    rw [hlm, hlb, hlx] at hnb
    obtain ⟨am, cm, rfl, hm1, hm2⟩ := hm.shapeN hlm
    obtain ⟨ab, cb, rfl, hb1, hb2⟩ := hb.shapeN hlb
    obtain ⟨ax, cx, rfl, hx1, hx2⟩ := hx.shapeN hlx
    obtain ⟨R, hR⟩ : ∃ R, mkS (txX x) = R := ⟨_, rfl⟩
    rw [htx] at hR hlen
    rw [htx, hR]
    obtain ⟨MS, hMS⟩ : ∃ E, x.ms = E := ⟨_, rfl⟩
    obtain ⟨BS, hBS⟩ : ∃ E, x.bs = E := ⟨_, rfl⟩
    obtain ⟨XS, hXS⟩ : ∃ E, x.xs = E := ⟨_, rfl⟩
    obtain ⟨K, hK⟩ : ∃ K, x.kd = K := ⟨_, rfl⟩
    obtain ⟨N, hN⟩ : ∃ K, x.n = K := ⟨_, rfl⟩
    obtain ⟨W, hW⟩ : ∃ K, x.wd = K := ⟨_, rfl⟩
    rw [hMS] at hm hmf hR hlen
    rw [hBS] at hb hlb hby1 hby2 hlf hR hlen
    rw [hXS] at hx hlx hcl hsx hR hlen
    rw [hK] at hR hlen hnb bk1 bk2
    rw [hN] at hR hlen hnb bn1 bn2
    rw [hW] at hR hlen hnb bw1 bw2
    rw [hK, hN, hW]
    have hcase : (K = 1 ∧ prtF K = 0) ∨ (K = 2 ∧ prtF K = 0) ∨ (3 ≤ K ∧ K ≤ 5 ∧ prtF K = 1 ∧ lx = 1) ∨ (6 ≤ K ∧ K ≤ 8 ∧ prtF K = 2 ∧ lx = 2) := by
      have h1 : ¬ prtF K < 0 := fun h => hnb (Or.inl h)
      have h2 : (lx : Int) = prtF K := Classical.byContradiction fun h => hnb (Or.inr (Or.inl h))
      unfold prtF at h1 h2 ⊢
      by_cases g1 : K = 1
      · exact Or.inl ⟨g1, if_pos (Or.inl g1)⟩
      by_cases g2 : K = 2
      · exact Or.inr (Or.inl ⟨g2, if_pos (Or.inr g2)⟩)
      rw [if_neg (by omega)] at h1 h2
      by_cases g3 : K = 3 ∨ K = 4 ∨ K = 5
      · rw [if_pos g3] at h2
        exact Or.inr (Or.inr (Or.inl ⟨by omega, by omega, by rw [if_neg (by omega), if_pos g3], by omega⟩))
      · rw [if_neg g3] at h1 h2
        by_cases g4 : K = 6 ∨ K = 7 ∨ K = 8
        · rw [if_pos g4] at h2
          exact Or.inr (Or.inr (Or.inr ⟨by omega, by omega, by rw [if_neg (by omega), if_neg g3, if_pos g4], by omega⟩))
        · rw [if_neg g4] at h1
          omega
    obtain ⟨wa, hwa, hbox, hba, hsa⟩ := box_ex w (.int .i64 K) (.int .i64 N) (.int .i64 W) (.slice am lm cm) (.slice ab lb cb) (.slice ax lx cx)
    have HWA := Lib.hid hwa
    have HBA := Lib.hid hba
    obtain ⟨⟨d0, d1, d2, d3, d4, d5⟩, -⟩ := bx6 hbox
    obtain ⟨bx, hbx⟩ : ∃ bx, w.heap.size = bx := ⟨_, rfl⟩
    rw [hbx] at d0 d1 d2 d3 d4 d5 hbox
    have HBX := Lib.hid hbox
    have HBE := Lib.hid hbx
    have HCASE := Lib.hid hcase
    have HR := Lib.hid hR
    have HLEN := Lib.hid hlen
    have HM := Lib.hid (hm.below mtR_mono hba)
    have HB := Lib.hid (hb.below strR_mono hba)
    have HX := Lib.hid (hx.below (exD_mono d) hba)
    have HCL := Lib.hid hcl
    have HSX := Lib.hid hsx
    have HSZ := Lib.hid hsz
    have HIH := Lib.hid ih
    have HLB := Lib.hid hlb
    have HLX := Lib.hid hlx
    have HBY2 := Lib.hid hby2
    have HMF := Lib.hid hmf
    have hlb10 : lb ≤ 10 := by rw [← hlb]; exact hby1
    have hbl : bx < wa.heap.size := (Array.getElem?_eq_some_iff.1 hbox).1
    clear hbx hnum hch hsz hbad hlf hbd hby1 hby2 htx hsx hlm hnb hm hb hx hMS hBS hXS hK hN hW hwa hba hsa hbox hcase hR hlen hcl ih hlb hlx hmf
    rcases HCASE.out with ⟨rfl, -⟩ | ⟨rfl, -⟩ | ⟨k3, k5, -, rfl⟩ | ⟨k6, k8, -, rfl⟩
    · have HFI := Lib.hid (decimal_any N bn1 bn2)
      have HRR : Hid (mkS (Lib.itoa N) = R) := Lib.hid (by rw [← HR.out]; rfl)
      rw [HRR.out] at HFI
      go_enter Tryz.func18, Tryz.ntmps18
      go_upto_region 1 with (fail)
      rw [HBE.out, ← HWA.out]
      go_wp2_with (go_at_call 46; refine (HFI.out _).mono ?_; rintro e w2 ⟨rfl, rfl⟩)
      go_ret
      exact ⟨rfl, HBA.out⟩
    · have HMT := Lib.hid (fun W2 (h : Below wa.heap.size wa W2) => mtext_any _ MS W2 (HM.out.below mtR_mono h) HMF.out)
      have HFI := Lib.hid (decimal_any W bw1 bw2)
      obtain ⟨A, hA⟩ : ∃ A, A = mkS (textM MS) := ⟨_, rfl⟩
      obtain ⟨I, hI⟩ : ∃ A, A = mkS (Lib.itoa W) := ⟨_, rfl⟩
      have HRR : Hid (A ++ ⟨#[91]⟩ ++ I ++ ⟨#[93]⟩ = R) := Lib.hid (by
        rw [← HR.out, hA, hI]
        show mkS _ ++ mkS [91] ++ mkS _ ++ mkS [93] = mkS (textM MS ++ (91 :: (Lib.itoa W ++ [93])))
        rw [mkS_app, mkS_app, mkS_app]
        congr 1
        simp)
      have hA1 : A.size ≤ 1060 := by rw [hA, mkS_size]; exact textM_le HMF.out
      have hI1 : I.size ≤ 20 := by rw [hI, mkS_size]; exact itoa_len bw1 bw2
      have s1 : (9223372036854775807 < A.size + 1) = False := eq_false (by omega)
      have s2 : (9223372036854775807 < A.size + 1 + I.size) = False := eq_false (by omega)
      have s3 : (9223372036854775807 < A.size + 1 + I.size + 1) = False := eq_false (by omega)
      rw [← hI] at HFI
      rw [← hA] at HMT
      have HKC := Lib.hid (fun (W2 : World) (h : Below wa.heap.size wa W2) => And.intro ((h.cell (p := ⟨bx, 3, none⟩) hbl).trans d3) ((h.cell (p := ⟨bx, 2, none⟩) hbl).trans d2))
      have HB0 := Lib.hid (Below.refl wa.heap.size wa)
      have HB0d := Lib.hid (Below.refl wa.heap.size wa).drew
      clear hA hI
      go_enter Tryz.func18, Tryz.ntmps18
      go_upto_region 1 with (fail)
      rw [HBE.out, ← HWA.out]
      go_upto_region 5 with (fail)
      go_region_held3 (fun w' => w'.cell? ⟨bx, 3, none⟩ = some (.slice am lm cm) ∧ w'.cell? ⟨bx, 2, none⟩ = some (.int .i64 W)) (first | (with_reducible exact HKC.out _ HBf.out) | (with_reducible exact HKC.out _ HB0.out) | (with_reducible exact HKC.out _ HB0d.out) | go_keep)
        (first
          | (go_at_call 23; refine (HMT.out _ (by first | (with_reducible exact HB0.out) | (with_reducible exact HB0d.out))).mono ?_; rintro e w4 ⟨rfl, hb4⟩; have HBf : Hid (Below wa.heap.size wa w4) := Lib.hid (by first | (with_reducible exact HB0.out.trans hb4) | (with_reducible exact HB0d.out.trans (hb4.mono HB0d.out.size))); obtain ⟨f3, f2⟩ := HKC.out _ HBf.out; clear hb4)
          | (go_at_call 46; refine (HFI.out _).mono ?_; rintro e w5 ⟨rfl, rfl⟩))
      all_goals
        go_wp2_with fail
        go_ret
        exact ⟨by rw [HRR.out]; rfl, HBA.out.trans (HBf.out.mono HBA.out.size)⟩
    · obtain ⟨y, rfl⟩ := one_of HLX.out
      have hzy : szX y ≤ 99 := by have h1 := HSX.out; have h2 := HSZ.out; rw [szL_cons, szL_nil] at h1; omega
      have hcy : chX y = 0 := chL_at HCL.out (k := 0) rfl
      obtain ⟨b, off, cs, hax, hy2, -, hck⟩ := HX.out.get (i := 0) (a := y) rfl
      obtain ⟨y0, y1, y2, y3, y4, y5, y6, y7, y8, y9, yA, yB, rfl⟩ := exD_shape hy2
      have c0 := hck 0 _ rfl
      have c1 := hck 1 _ rfl
      have c2 := hck 2 _ rfl
      have c3 := hck 3 _ rfl
      have c4 := hck 4 _ rfl
      have c5 := hck 5 _ rfl
      simp only [Nat.zero_mul, Nat.add_zero] at c0 c1 c2 c3 c4 c5
      subst hax
      have HTY := Lib.hid (fun W2 (h : Below wa.heap.size wa W2) => HIH.out y (.int .i64 y0) (.int .i64 y1) (.int .i64 y2) (.slice y3 y4 y5) (.slice y6 y7 y8) (.slice y9 yA yB) W2 (exD_mono d _ _ _ _ hy2 h) hcy (by omega))
      have hty : (txX y).length ≤ 200000 := by
        have := txX_len _ y (Nat.le_refl _) (exD_num _ _ _ _ hy2) hcy
        omega
      obtain ⟨Wd, hWd⟩ : ∃ A, A = mkS (wrd K) := ⟨_, rfl⟩
      obtain ⟨Ty, hTy⟩ : ∃ A, A = mkS (txX y) := ⟨_, rfl⟩
      have hWd1 : Wd.size ≤ 5 := by rw [hWd, mkS_size]; exact wrd_le _
      have hTy1 : Ty.size ≤ 200000 := by rw [hTy, mkS_size]; exact hty
      rw [← hTy] at HTY
      have HRR : Hid (∀ O : ByteArray, O = mkS (wrd K ++ byK BS lb) → O ++ ⟨#[40]⟩ ++ Ty ++ ⟨#[41]⟩ = R) := Lib.hid (by
        intro O hO
        rw [← HR.out]
        unfold asmX
        rw [if_neg (by omega), if_neg (by omega), if_pos (by omega), txL_cons, hO, hTy]
        show mkS _ ++ mkS [40] ++ mkS _ ++ mkS [41] = mkS (wrd K ++ (byT BS ++ (40 :: (txX y ++ [41]))))
        rw [mkS_app, mkS_app, mkS_app]
        unfold byK
        rw [List.take_of_length_le (by rw [HLB.out]; exact Nat.le_refl _)]
        congr 1
        simp)
      have HW := Lib.hid hWd
      have HKC := Lib.hid (fun (W2 : World) (h : Below wa.heap.size wa W2) => (And.intro ((h.cell (p := ⟨b, off, none⟩) (cell_lt c0)).trans c0) (And.intro ((h.cell (p := ⟨b, off + 1, none⟩) (cell_lt c0)).trans c1) (And.intro ((h.cell (p := ⟨b, off + 2, none⟩) (cell_lt c0)).trans c2) (And.intro ((h.cell (p := ⟨b, off + 3, none⟩) (cell_lt c0)).trans c3) (And.intro ((h.cell (p := ⟨b, off + 4, none⟩) (cell_lt c0)).trans c4) ((h.cell (p := ⟨b, off + 5, none⟩) (cell_lt c0)).trans c5)))))))
      have hk35 : K = 3 ∨ K = 4 ∨ K = 5 := by omega
      clear hWd hTy hck hy2 hcy hzy hty
      obtain ⟨WB, hWB⟩ : ∃ W, wrd K = W := ⟨_, rfl⟩
      have hWBs : WB.length ≤ 5 := by rw [← hWB]; exact wrd_le _
      rw [hWB] at HRR
      have HWB := Lib.hid hWB
      clear hWB
      rcases hk35 with rfl | rfl | rfl
      all_goals
        go_enter Tryz.func18, Tryz.ntmps18
        go_upto_region 1 with (fail)
        rw [HBE.out, ← HWA.out]
        go_wp2_with fail
        go_loopw [3, 37] (fun s i wr => ∃ (k : Nat) (O : ByteArray), k ≤ lb ∧ s = .string O ∧ i = .int .i64 k ∧ Hid (O = mkS (WB ++ byK BS k)) ∧ Hid (Below wa.heap.size wa wr)) (fun s i _ => lb - (intOf i).toNat)
        case atStart => exact ⟨0, _, Nat.zero_le _, rfl, rfl, Lib.hid (by rw [← HWB.out]; rfl), Lib.hid ((Below.refl _ _).alloc (Nat.le_refl _) _)⟩
        case round =>
          obtain ⟨k, O, hk, rfl, rfl, HO, HBR⟩ := hrel
          have hbyl : (byK BS k).length ≤ 1100 := byK_len (by rw [HLB.out]; exact hlb10) HBY2.out
          have hOs : O.size ≤ 1200 := by
            rw [HO.out, mkS_size, List.length_append]
            have := hWBs
            omega
          clear hbyl
          obtain ⟨⟨-, -, -, -, q4, q5⟩, -⟩ := bx6 ((HBR.out.block bx hbl).trans HBX.out)
          by_cases hlt : k < lb
          case neg =>
            obtain rfl : k = lb := by omega
            have s1 : O.size + 1 ≤ 9223372036854775807 := by omega
            have s2 : O.size + 1 + Ty.size ≤ 9223372036854775807 := by omega
            have s3 : O.size + 1 + Ty.size + 1 ≤ 9223372036854775807 := by omega
            have HR2 := Lib.hid (HRR.out O HO.out)
            obtain ⟨e0, e1, e2, e3, e4, e5⟩ := HKC.out _ HBR.out
            have HTX := Lib.hid (HTY.out _ HBR.out)
            clear c0 c1 c2 c3 c4 c5
            go_wp2_with (go_at_call 18; refine HTX.out.mono ?_; rintro e w2 ⟨rfl, hb2⟩; have HB2 := Lib.hid (HBA.out.trans ((HBR.out.trans (hb2.mono HBR.out.size)).mono HBA.out.size)); clear hb2)
            go_ret
            exact ⟨by rw [HR2.out]; rfl, HB2.out⟩
          obtain ⟨s, hs⟩ : ∃ s, BS[k]? = some s := ⟨_, List.getElem?_eq_getElem (by rw [HLB.out]; exact hlt)⟩
          obtain ⟨b2, off2, cs, rfl, ⟨rfl, hsl⟩, -, hck⟩ := (HB.out.below strR_mono HBR.out).get hs
          have r0 := hck 0 _ rfl
          rw [Nat.add_zero, Nat.mul_one] at r0
          obtain ⟨Sn, hSn⟩ : ∃ A, A = mkS s := ⟨_, rfl⟩
          rw [← hSn] at r0
          have hSs : Sn.size ≤ 20 := by rw [hSn, mkS_size]; exact HBY2.out s (List.mem_of_getElem? hs)
          have s1 : O.size + 1 ≤ 9223372036854775807 := by omega
          have s2 : O.size + 1 + Sn.size ≤ 9223372036854775807 := by omega
          have s3 : O.size + 4 ≤ 9223372036854775807 := by omega
          have s4 : O.size + 4 + Sn.size ≤ 9223372036854775807 := by omega
          have HSN := Lib.hid hSn
          have HS := Lib.hid hs
          clear hck hs hSn c0 c1 c2 c3 c4 c5 hsl
          by_cases hk0 : k = 0
          · subst hk0
            rw [Nat.add_zero] at r0
            have HO2 : Hid (O ++ ⟨#[32, 98, 121, 32]⟩ ++ Sn = mkS (WB ++ byK BS (0 + 1))) := Lib.hid (by
              rw [byK_first HS.out, HO.out, HSN.out]
              show mkS (_ ++ []) ++ mkS [32, 98, 121, 32] ++ mkS _ = _
              rw [mkS_app, mkS_app]
              congr 1
              simp)
            go_wp2_with fail
            go_roundw
            case rel => exact ⟨0 + 1, _, by omega, rfl, by go_num, HO2, HBR⟩
            case measure => simp [intOf]; omega
          · have HO2 : Hid (O ++ ⟨#[44]⟩ ++ Sn = mkS (WB ++ byK BS (k + 1))) := Lib.hid (by
              rw [byK_next (by omega) HS.out, HO.out, HSN.out]
              show mkS _ ++ mkS [44] ++ mkS _ = _
              rw [mkS_app, mkS_app]
              congr 1
              simp)
            have hk1 : ((k : Int) == 0) = false := by simp; omega
            go_wp2_with fail
            go_roundw
            case rel => exact ⟨k + 1, _, by omega, rfl, by go_num, HO2, HBR⟩
            case measure => simp [intOf]; omega
    · obtain ⟨y, z, rfl⟩ := two_of HLX.out
      have hsum : szX y + szX z ≤ 99 := by have h1 := HSX.out; have h2 := HSZ.out; rw [szL_cons, szL_cons, szL_nil] at h1; omega
      have hcy : chX y = 0 := chL_at HCL.out (k := 0) rfl
      have hcz : chX z = 0 := chL_at HCL.out (k := 1) rfl
      obtain ⟨b, off, cs, hax, hy2, -, hck⟩ := HX.out.get (i := 0) (a := y) rfl
      obtain ⟨b', off', cs', hax', hz2, -, hck'⟩ := HX.out.get (i := 1) (a := z) rfl
      obtain ⟨y0, y1, y2, y3, y4, y5, y6, y7, y8, y9, yA, yB, rfl⟩ := exD_shape hy2
      obtain ⟨z0, z1, z2, z3, z4, z5, z6, z7, z8, z9, zA, zB, rfl⟩ := exD_shape hz2
      rw [hax] at hax'
      injection hax' with hax'
      injection hax' with e1 e2
      subst e1 e2
      have c0 := hck 0 _ rfl
      have c1 := hck 1 _ rfl
      have c2 := hck 2 _ rfl
      have c3 := hck 3 _ rfl
      have c4 := hck 4 _ rfl
      have c5 := hck 5 _ rfl
      have g0 := hck' 0 _ rfl
      have g1 := hck' 1 _ rfl
      have g2 := hck' 2 _ rfl
      have g3 := hck' 3 _ rfl
      have g4 := hck' 4 _ rfl
      have g5 := hck' 5 _ rfl
      simp only [Nat.zero_mul, Nat.one_mul, Nat.add_zero] at c0 c1 c2 c3 c4 c5 g0 g1 g2 g3 g4 g5
      subst hax
      have hty : (txX y).length ≤ 200000 := by
        have := txX_len _ y (Nat.le_refl _) (exD_num _ _ _ _ hy2) hcy
        omega
      have htz : (txX z).length ≤ 200000 := by
        have := txX_len _ z (Nat.le_refl _) (exD_num _ _ _ _ hz2) hcz
        omega
      have HTO : Hid (∀ v T W2, TxO (.agg #[.int .i64 y0, .int .i64 y1, .int .i64 y2, .slice y3 y4 y5, .slice y6 y7 y8, .slice y9 yA yB]) (.agg #[.int .i64 z0, .int .i64 z1, .int .i64 z2, .slice z3 z4 z5, .slice z6 z7 z8, .slice z9 zA zB]) (mkS (txX y)) (mkS (txX z)) v T → Below wa.heap.size wa W2 → Calls Tryz.prog 18 #[v] W2 fun e w' => e = .returned (.string T) ∧ Below W2.heap.size W2 w') := Lib.hid (by
        intro v T W2 hv h
        rcases hv with ⟨rfl, rfl⟩ | ⟨rfl, rfl⟩
        · exact HIH.out y (.int .i64 y0) (.int .i64 y1) (.int .i64 y2) (.slice y3 y4 y5) (.slice y6 y7 y8) (.slice y9 yA yB) W2 (exD_mono d _ _ _ _ hy2 h) hcy (by omega)
        · exact HIH.out z (.int .i64 z0) (.int .i64 z1) (.int .i64 z2) (.slice z3 z4 z5) (.slice z6 z7 z8) (.slice z9 zA zB) W2 (exD_mono d _ _ _ _ hz2 h) hcz (by omega))
      have B1 : Hid (TxO (.agg #[.int .i64 y0, .int .i64 y1, .int .i64 y2, .slice y3 y4 y5, .slice y6 y7 y8, .slice y9 yA yB]) (.agg #[.int .i64 z0, .int .i64 z1, .int .i64 z2, .slice z3 z4 z5, .slice z6 z7 z8, .slice z9 zA zB]) (mkS (txX y)) (mkS (txX z)) (.agg #[.int .i64 y0, .int .i64 y1, .int .i64 y2, .slice y3 y4 y5, .slice y6 y7 y8, .slice y9 yA yB]) (mkS (txX y))) := Lib.hid (Or.inl ⟨rfl, rfl⟩)
      have B2 : Hid (TxO (.agg #[.int .i64 y0, .int .i64 y1, .int .i64 y2, .slice y3 y4 y5, .slice y6 y7 y8, .slice y9 yA yB]) (.agg #[.int .i64 z0, .int .i64 z1, .int .i64 z2, .slice z3 z4 z5, .slice z6 z7 z8, .slice z9 zA zB]) (mkS (txX y)) (mkS (txX z)) (.agg #[.int .i64 z0, .int .i64 z1, .int .i64 z2, .slice z3 z4 z5, .slice z6 z7 z8, .slice z9 zA zB]) (mkS (txX z))) := Lib.hid (Or.inr ⟨rfl, rfl⟩)
      obtain ⟨κ, rfl⟩ : ∃ κ : Nat, K = (κ : Int) + 6 := ⟨(K - 6).toNat, by omega⟩
      have hk3 : κ = 0 ∨ κ = 1 ∨ κ = 2 := by omega
      obtain ⟨Wd, hWd⟩ : ∃ A, A = mkS (wrd ((κ : Int) + 6)) := ⟨_, rfl⟩
      obtain ⟨Ty, hTy⟩ : ∃ A, A = mkS (txX y) := ⟨_, rfl⟩
      obtain ⟨Tz, hTz⟩ : ∃ A, A = mkS (txX z) := ⟨_, rfl⟩
      have hWd1 : Wd.size ≤ 5 := by rw [hWd, mkS_size]; exact wrd_le _
      have hTy1 : Ty.size ≤ 200000 := by rw [hTy, mkS_size]; exact hty
      have hTz1 : Tz.size ≤ 200000 := by rw [hTz, mkS_size]; exact htz
      have HRR : Hid (⟨#[40]⟩ ++ Ty ++ Wd ++ Tz ++ ⟨#[41]⟩ = R) := Lib.hid (by
        rw [← HR.out]
        unfold asmX
        rw [if_neg (by omega), if_neg (by omega), if_neg (by omega), txL_cons, txL_cons, hWd, hTy, hTz]
        show mkS [40] ++ mkS _ ++ mkS _ ++ mkS _ ++ mkS [41] = mkS (40 :: (txX y ++ (wrd _ ++ (txX z ++ [41]))))
        rw [mkS_app, mkS_app, mkS_app, mkS_app]
        congr 1
        simp)
      rw [← hTy, ← hTz] at HTO B1 B2
      have s1 : (9223372036854775807 < 1 + Ty.size) = False := eq_false (by omega)
      have s2 : (9223372036854775807 < 1 + Ty.size + Wd.size) = False := eq_false (by omega)
      have s3 : (9223372036854775807 < 1 + Ty.size + Wd.size + Tz.size) = False := eq_false (by omega)
      have s4 : (9223372036854775807 < 1 + Ty.size + Wd.size + Tz.size + 1) = False := eq_false (by omega)
      have HKC := Lib.hid (fun (W2 : World) (h : Below wa.heap.size wa W2) => And.intro ((h.cell (p := ⟨bx, 5, none⟩) hbl).trans d5) (And.intro ((h.cell (p := ⟨bx, 0, none⟩) hbl).trans d0) (And.intro ((h.cell (p := ⟨b, off, none⟩) (cell_lt c0)).trans c0) (And.intro ((h.cell (p := ⟨b, off + 1, none⟩) (cell_lt c0)).trans c1) (And.intro ((h.cell (p := ⟨b, off + 2, none⟩) (cell_lt c0)).trans c2) (And.intro ((h.cell (p := ⟨b, off + 3, none⟩) (cell_lt c0)).trans c3) (And.intro ((h.cell (p := ⟨b, off + 4, none⟩) (cell_lt c0)).trans c4) (And.intro ((h.cell (p := ⟨b, off + 5, none⟩) (cell_lt c0)).trans c5) (And.intro ((h.cell (p := ⟨b, off + 6, none⟩) (cell_lt c0)).trans g0) (And.intro ((h.cell (p := ⟨b, off + 6 + 1, none⟩) (cell_lt c0)).trans g1) (And.intro ((h.cell (p := ⟨b, off + 6 + 2, none⟩) (cell_lt c0)).trans g2) (And.intro ((h.cell (p := ⟨b, off + 6 + 3, none⟩) (cell_lt c0)).trans g3) (And.intro ((h.cell (p := ⟨b, off + 6 + 4, none⟩) (cell_lt c0)).trans g4) ((h.cell (p := ⟨b, off + 6 + 5, none⟩) (cell_lt c0)).trans g5))))))))))))))
      have HB0d := Lib.hid (Below.refl wa.heap.size wa).drew
      have e1 : ((κ : Int) + 6 == 1) = false := by simp; omega
      have e2 : ((κ : Int) + 6 == 2) = false := by simp; omega
      have e3 : ((κ : Int) + 6 == 3) = false := by simp; omega
      have e4 : ((κ : Int) + 6 == 4) = false := by simp; omega
      have e5 : ((κ : Int) + 6 == 5) = false := by simp; omega
      have kk0 : (0 : Int) ≤ (κ : Int) := by omega
      have kk9 : (κ : Int) < 3 := by omega
      have kk3 : κ < 3 := by omega
      have hwr : IntKind.i64.wrap (κ : Int) = κ := by rw [IntKind.wrap_i64]; omega
      have HWD := Lib.hid hWd
      have HK3 := Lib.hid hk3
      clear hWd hTy hTz hck hck' hy2 hz2 hcy hcz hsum hty htz k6 k8 hk3
      go_enter Tryz.func18, Tryz.ntmps18
      go_upto_region 1 with (fail)
      rw [HBE.out, ← HWA.out]
      go_upto_region 19 with (fail)
      refine wp_region_noPanic ?_
      refine wp_region_held_drew (S := fun w' => w'.cell? ⟨bx, 5, none⟩ = some (.slice (some ⟨b, off, none⟩) 2 cx) ∧ w'.cell? ⟨bx, 0, none⟩ = some (.int .i64 ((κ : Int) + 6)) ∧ w'.cell? ⟨b, off, none⟩ = some (.int .i64 y0) ∧ w'.cell? ⟨b, off + 1, none⟩ = some (.int .i64 y1) ∧ w'.cell? ⟨b, off + 2, none⟩ = some (.int .i64 y2) ∧ w'.cell? ⟨b, off + 3, none⟩ = some (.slice y3 y4 y5) ∧ w'.cell? ⟨b, off + 4, none⟩ = some (.slice y6 y7 y8) ∧ w'.cell? ⟨b, off + 5, none⟩ = some (.slice y9 yA yB) ∧ w'.cell? ⟨b, off + 6, none⟩ = some (.int .i64 z0) ∧ w'.cell? ⟨b, off + 6 + 1, none⟩ = some (.int .i64 z1) ∧ w'.cell? ⟨b, off + 6 + 2, none⟩ = some (.int .i64 z2) ∧ w'.cell? ⟨b, off + 6 + 3, none⟩ = some (.slice z3 z4 z5) ∧ w'.cell? ⟨b, off + 6 + 4, none⟩ = some (.slice z6 z7 z8) ∧ w'.cell? ⟨b, off + 6 + 5, none⟩ = some (.slice z9 zA zB)) (by kernel_rfl) (HKC.out _ HB0d.out) (fun hHeld => ?_)
      refine wpAnyH_take (i := 0) (v := ?v0_1) rfl (by kernel_rfl) (by kernel_rfl) (by kernel_rfl) (fun _ _ _ h => h) (Or.inl ⟨by rfl, ?hy0_1⟩) (HKC.out _ HB0d.out) ?rest0_1
      case hy0_1 => (intro w hSw; (try dsimp only at hSw); go_simp; (try with_reducible rfl))
      case rest0_1 =>
      try simp only [Act.put, List.setIfInBounds_toArray, List.set_cons_zero, List.set_cons_succ, List.getElem_toArray, List.getElem_cons_succ, List.getElem_cons_zero]
      refine wpAnyH_take (i := 1) (v := ?v1_2) rfl (by kernel_rfl) (by kernel_rfl) (by kernel_rfl) (fun _ _ _ h => h) (Or.inl ⟨by rfl, ?hy1_2⟩) (HKC.out _ HB0d.out) ?rest1_2
      case hy1_2 => (intro w hSw; (try dsimp only at hSw); go_simp; (try with_reducible rfl))
      case rest1_2 =>
      try simp only [Act.put, List.setIfInBounds_toArray, List.set_cons_zero, List.set_cons_succ, List.getElem_toArray, List.getElem_cons_succ, List.getElem_cons_zero]
      refine wpAnyH_take (i := 2) (v := ?v2_3) rfl (by kernel_rfl) (by kernel_rfl) (by kernel_rfl) (fun _ _ _ h => h) (Or.inl ⟨by rfl, ?hy2_3⟩) (HKC.out _ HB0d.out) ?rest2_3
      case hy2_3 => (intro w hSw; (try dsimp only at hSw); go_simp; (try with_reducible rfl))
      case rest2_3 =>
      try simp only [Act.put, List.setIfInBounds_toArray, List.set_cons_zero, List.set_cons_succ, List.getElem_toArray, List.getElem_cons_succ, List.getElem_cons_zero]
      refine wpAnyH_take (i := 3) (v := ?v3_4) rfl (by kernel_rfl) (by kernel_rfl) (by kernel_rfl) (fun _ _ _ h => h) (Or.inl ⟨by rfl, ?hy3_4⟩) (HKC.out _ HB0d.out) ?rest3_4
      case hy3_4 => (intro w hSw; (try dsimp only at hSw); go_simp; (try with_reducible rfl))
      case rest3_4 =>
      try simp only [Act.put, List.setIfInBounds_toArray, List.set_cons_zero, List.set_cons_succ, List.getElem_toArray, List.getElem_cons_succ, List.getElem_cons_zero]
      refine wpAnyH_take (i := 7) (v := ?v7_5) rfl (by kernel_rfl) (by kernel_rfl) (by kernel_rfl) (fun _ _ _ h => h) (Or.inl ⟨by rfl, ?hy7_5⟩) (HKC.out _ HB0d.out) ?rest7_5
      case hy7_5 => (intro w hSw; (try dsimp only at hSw); go_simp; (try with_reducible rfl))
      case rest7_5 =>
      try simp only [Act.put, List.setIfInBounds_toArray, List.set_cons_zero, List.set_cons_succ, List.getElem_toArray, List.getElem_cons_succ, List.getElem_cons_zero]
      refine wpAnyH_take (i := 8) (v := ?v8_6) rfl (by kernel_rfl) (by kernel_rfl) (by kernel_rfl) (fun _ _ _ h => h) (Or.inl ⟨by rfl, ?hy8_6⟩) (HKC.out _ HB0d.out) ?rest8_6
      case hy8_6 => (intro w hSw; (try dsimp only at hSw); go_simp; (try with_reducible rfl))
      case rest8_6 =>
      try simp only [Act.put, List.setIfInBounds_toArray, List.set_cons_zero, List.set_cons_succ, List.getElem_toArray, List.getElem_cons_succ, List.getElem_cons_zero]
      refine wpAnyH_take (i := 9) (v := ?v9_7) rfl (by kernel_rfl) (by kernel_rfl) (by kernel_rfl) (fun _ _ _ h => h) (Or.inl ⟨by rfl, ?hy9_7⟩) (HKC.out _ HB0d.out) ?rest9_7
      case hy9_7 => (intro w hSw; (try dsimp only at hSw); go_simp; (try with_reducible rfl))
      case rest9_7 =>
      try simp only [Act.put, List.setIfInBounds_toArray, List.set_cons_zero, List.set_cons_succ, List.getElem_toArray, List.getElem_cons_succ, List.getElem_cons_zero]
      refine wpAnyH_take (i := 13) (v := ?v13_8) rfl (by kernel_rfl) (by kernel_rfl) (by kernel_rfl) (fun _ _ _ h => h) (Or.inl ⟨by rfl, ?hy13_8⟩) (HKC.out _ HB0d.out) ?rest13_8
      case hy13_8 => (intro w hSw; (try dsimp only at hSw); go_simp; (try with_reducible rfl))
      case rest13_8 =>
      try simp only [Act.put, List.setIfInBounds_toArray, List.set_cons_zero, List.set_cons_succ, List.getElem_toArray, List.getElem_cons_succ, List.getElem_cons_zero]
      refine wpAnyH_take (i := 14) (v := ?v14_9) rfl (by kernel_rfl) (by kernel_rfl) (by kernel_rfl) (fun _ _ _ h => h) (Or.inl ⟨by rfl, ?hy14_9⟩) (HKC.out _ HB0d.out) ?rest14_9
      case hy14_9 => (intro w hSw; (try dsimp only at hSw); go_simp; (try with_reducible rfl))
      case rest14_9 =>
      try simp only [Act.put, List.setIfInBounds_toArray, List.set_cons_zero, List.set_cons_succ, List.getElem_toArray, List.getElem_cons_succ, List.getElem_cons_zero]
      refine wpAnyH_take (i := 15) (v := ?v15_10) rfl (by kernel_rfl) (by kernel_rfl) (by kernel_rfl) (fun _ _ _ h => h) (Or.inl ⟨by rfl, ?hy15_10⟩) (HKC.out _ HB0d.out) ?rest15_10
      case hy15_10 => (intro w hSw; (try dsimp only at hSw); go_simp; (try with_reducible rfl))
      case rest15_10 =>
      try simp only [Act.put, List.setIfInBounds_toArray, List.set_cons_zero, List.set_cons_succ, List.getElem_toArray, List.getElem_cons_succ, List.getElem_cons_zero]
      refine wpAnyH_take (i := 16) (v := ?v16_11) rfl (by kernel_rfl) (by kernel_rfl) (by kernel_rfl) (fun _ _ _ h => h) (Or.inl ⟨by rfl, ?hy16_11⟩) (HKC.out _ HB0d.out) ?rest16_11
      case hy16_11 => (intro w hSw; (try dsimp only at hSw); go_simp; (try with_reducible rfl))
      case rest16_11 =>
      try simp only [Act.put, List.setIfInBounds_toArray, List.set_cons_zero, List.set_cons_succ, List.getElem_toArray, List.getElem_cons_succ, List.getElem_cons_zero]
      refine wpAnyH_ready (rs := [4, 6]) (by kernel_rfl) (by simp) ?_
      refine AllReadyH.cons rfl (fun K hK => ?_) ?_
      · go_simp
        refine (HTO.out _ _ _ (by first | exact B1.out | exact B2.out) HB0d.out).mono ?_
        rintro e w1 ⟨rfl, hbn⟩
        have HB1 : Hid (Below wa.heap.size wa w1) := Lib.hid (HB0d.out.trans (hbn.mono HB0d.out.size))
        clear hbn
        refine hK.out _ _ (HKC.out _ HB1.out) (fun hHeld => ?_)
        clear hK K
        try simp only [Act.put, List.setIfInBounds_toArray, List.set_cons_zero, List.set_cons_succ, List.getElem_toArray, List.getElem_cons_succ, List.getElem_cons_zero]
        refine wpAnyH_take (i := 5) (v := ?v5_12) rfl (by kernel_rfl) (by kernel_rfl) (by kernel_rfl) (fun _ _ _ h => h) (Or.inl ⟨by rfl, ?hy5_12⟩) (HKC.out _ HB1.out) ?rest5_12
        case hy5_12 => (intro w hSw; (try dsimp only at hSw); go_simp; (try with_reducible rfl))
        case rest5_12 =>
        try simp only [Act.put, List.setIfInBounds_toArray, List.set_cons_zero, List.set_cons_succ, List.getElem_toArray, List.getElem_cons_succ, List.getElem_cons_zero]
        refine wpAnyH_ready (rs := [6, 17]) (by kernel_rfl) (by simp) ?_
        refine AllReadyH.cons rfl (fun K hK => ?_) ?_
        · obtain ⟨w2, hw2⟩ : ∃ W, W = w1.alloc (Obj.cells #[.string ⟨#[32, 43, 32]⟩, .string ⟨#[32, 45, 32]⟩, .string ⟨#[32, 42, 32]⟩] 9) := ⟨_, rfl⟩
          obtain ⟨N2, hn2⟩ : ∃ N, N = w1.heap.size := ⟨_, rfl⟩
          have HB2 : Hid (Below wa.heap.size wa w2) := Lib.hid (by rw [hw2]; exact HB1.out.alloc HB1.out.size _)
          have zf2 : w2.cell? ⟨N2, κ, none⟩ = some (.string Wd) := by
            rw [hw2, hn2, HWD.out]
            refine (row_cell κ _ (heap_alloc_new w1 _) ?_).1
            rcases HK3.out with rfl | rfl | rfl <;> rfl
          go_simp
          rw [← hw2, ← hn2]
          clear hw2 hn2
          refine hK.out _ _ (HKC.out _ HB2.out) (fun hHeld => ?_)
          clear hK K
          try simp only [Act.put, List.setIfInBounds_toArray, List.set_cons_zero, List.set_cons_succ, List.getElem_toArray, List.getElem_cons_succ, List.getElem_cons_zero]
          refine wpAnyH_more (S' := fun w' => (w'.cell? ⟨bx, 5, none⟩ = some (.slice (some ⟨b, off, none⟩) 2 cx) ∧ w'.cell? ⟨bx, 0, none⟩ = some (.int .i64 ((κ : Int) + 6)) ∧ w'.cell? ⟨b, off, none⟩ = some (.int .i64 y0) ∧ w'.cell? ⟨b, off + 1, none⟩ = some (.int .i64 y1) ∧ w'.cell? ⟨b, off + 2, none⟩ = some (.int .i64 y2) ∧ w'.cell? ⟨b, off + 3, none⟩ = some (.slice y3 y4 y5) ∧ w'.cell? ⟨b, off + 4, none⟩ = some (.slice y6 y7 y8) ∧ w'.cell? ⟨b, off + 5, none⟩ = some (.slice y9 yA yB) ∧ w'.cell? ⟨b, off + 6, none⟩ = some (.int .i64 z0) ∧ w'.cell? ⟨b, off + 6 + 1, none⟩ = some (.int .i64 z1) ∧ w'.cell? ⟨b, off + 6 + 2, none⟩ = some (.int .i64 z2) ∧ w'.cell? ⟨b, off + 6 + 3, none⟩ = some (.slice z3 z4 z5) ∧ w'.cell? ⟨b, off + 6 + 4, none⟩ = some (.slice z6 z7 z8) ∧ w'.cell? ⟨b, off + 6 + 5, none⟩ = some (.slice z9 zA zB)) ∧ w'.cell? ⟨N2, κ, none⟩ = some (.string Wd)) (fun w h => h.1) _ _ _ _ ?_
          refine wpAnyH_take (i := 10) (v := ?v10_13) rfl (by kernel_rfl) (by kernel_rfl) (by kernel_rfl) (fun _ _ _ h => h) (Or.inl ⟨by rfl, ?hy10_13⟩) ⟨HKC.out _ HB2.out, zf2⟩ ?rest10_13
          case hy10_13 => (intro w hSw; (try dsimp only at hSw); go_simp; (try with_reducible rfl))
          case rest10_13 =>
          try simp only [Act.put, List.setIfInBounds_toArray, List.set_cons_zero, List.set_cons_succ, List.getElem_toArray, List.getElem_cons_succ, List.getElem_cons_zero]
          refine wpAnyH_take (i := 11) (v := ?v11_14) rfl (by kernel_rfl) (by kernel_rfl) (by kernel_rfl) (fun _ _ _ h => h) (Or.inl ⟨by rfl, ?hy11_14⟩) ⟨HKC.out _ HB2.out, zf2⟩ ?rest11_14
          case hy11_14 => (intro w hSw; (try dsimp only at hSw); go_simp; (try with_reducible rfl))
          case rest11_14 =>
          try simp only [Act.put, List.setIfInBounds_toArray, List.set_cons_zero, List.set_cons_succ, List.getElem_toArray, List.getElem_cons_succ, List.getElem_cons_zero]
          refine wpAnyH_take (i := 12) (v := ?v12_15) rfl (by kernel_rfl) (by kernel_rfl) (by kernel_rfl) (fun _ _ _ h => h) (Or.inl ⟨by rfl, ?hy12_15⟩) ⟨HKC.out _ HB2.out, zf2⟩ ?rest12_15
          case hy12_15 => (intro w hSw; (try dsimp only at hSw); go_simp; (try with_reducible rfl))
          case rest12_15 =>
          try simp only [Act.put, List.setIfInBounds_toArray, List.set_cons_zero, List.set_cons_succ, List.getElem_toArray, List.getElem_cons_succ, List.getElem_cons_zero]
          refine wpAnyH_ready (rs := [17]) (by kernel_rfl) (by simp) ?_
          refine AllReadyH.cons rfl (fun K hK => ?_) ?_
          · go_simp
            refine (HTO.out _ _ _ (by first | exact B1.out | exact B2.out) HB2.out).mono ?_
            rintro e w3 ⟨rfl, hbn⟩
            have HB3 : Hid (Below wa.heap.size wa w3) := Lib.hid (HB2.out.trans (hbn.mono HB2.out.size))
            have zf2x := (hbn.cell (p := ⟨N2, κ, none⟩) (cell_lt zf2)).trans zf2
            clear hbn
            refine hK.out _ _ ⟨HKC.out _ HB3.out, zf2x⟩ (fun hHeld => ?_)
            clear hK K
            try simp only [Act.put, List.setIfInBounds_toArray, List.set_cons_zero, List.set_cons_succ, List.getElem_toArray, List.getElem_cons_succ, List.getElem_cons_zero]
            refine wpAnyH_take (i := 18) (v := ?v18_16) rfl (by kernel_rfl) (by kernel_rfl) (by kernel_rfl) (fun _ _ _ h => h) (Or.inl ⟨by rfl, ?hy18_16⟩) ⟨HKC.out _ HB3.out, zf2x⟩ ?rest18_16
            case hy18_16 => (intro w hSw; (try dsimp only at hSw); go_simp; (try with_reducible rfl))
            case rest18_16 =>
            try simp only [Act.put, List.setIfInBounds_toArray, List.set_cons_zero, List.set_cons_succ, List.getElem_toArray, List.getElem_cons_succ, List.getElem_cons_zero]
            refine wpAnyH_take (i := 19) (v := ?v19_17) rfl (by kernel_rfl) (by kernel_rfl) (by kernel_rfl) (fun _ _ _ h => h) (Or.inl ⟨by rfl, ?hy19_17⟩) ⟨HKC.out _ HB3.out, zf2x⟩ ?rest19_17
            case hy19_17 => (intro w hSw; (try dsimp only at hSw); go_simp; (try with_reducible rfl))
            case rest19_17 =>
            try simp only [Act.put, List.setIfInBounds_toArray, List.set_cons_zero, List.set_cons_succ, List.getElem_toArray, List.getElem_cons_succ, List.getElem_cons_zero]
            refine wpAnyH_take (i := 20) (v := ?v20_18) rfl (by kernel_rfl) (by kernel_rfl) (by kernel_rfl) (fun _ _ _ h => h) (Or.inl ⟨by rfl, ?hy20_18⟩) ⟨HKC.out _ HB3.out, zf2x⟩ ?rest20_18
            case hy20_18 => (intro w hSw; (try dsimp only at hSw); go_simp; (try with_reducible rfl))
            case rest20_18 =>
            try simp only [Act.put, List.setIfInBounds_toArray, List.set_cons_zero, List.set_cons_succ, List.getElem_toArray, List.getElem_cons_succ, List.getElem_cons_zero]
            refine wpAnyH_done (by kernel_rfl) ?_ _
            refine NoPanic.normal ?_
            go_wp2_with fail
            go_ret
            exact ⟨by rw [HRR.out]; rfl, HBA.out.trans (HB3.out.mono HBA.out.size)⟩
          exact AllReadyH.nil
        refine AllReadyH.cons rfl (fun K hK => ?_) ?_
        · go_simp
          refine (HTO.out _ _ _ (by first | exact B1.out | exact B2.out) HB1.out).mono ?_
          rintro e w2 ⟨rfl, hbn⟩
          have HB2 : Hid (Below wa.heap.size wa w2) := Lib.hid (HB1.out.trans (hbn.mono HB1.out.size))
          clear hbn
          refine hK.out _ _ (HKC.out _ HB2.out) (fun hHeld => ?_)
          clear hK K
          try simp only [Act.put, List.setIfInBounds_toArray, List.set_cons_zero, List.set_cons_succ, List.getElem_toArray, List.getElem_cons_succ, List.getElem_cons_zero]
          refine wpAnyH_ready (rs := [6]) (by kernel_rfl) (by simp) ?_
          refine AllReadyH.cons rfl (fun K hK => ?_) ?_
          · obtain ⟨w3, hw3⟩ : ∃ W, W = w2.alloc (Obj.cells #[.string ⟨#[32, 43, 32]⟩, .string ⟨#[32, 45, 32]⟩, .string ⟨#[32, 42, 32]⟩] 9) := ⟨_, rfl⟩
            obtain ⟨N3, hn3⟩ : ∃ N, N = w2.heap.size := ⟨_, rfl⟩
            have HB3 : Hid (Below wa.heap.size wa w3) := Lib.hid (by rw [hw3]; exact HB2.out.alloc HB2.out.size _)
            have zf3 : w3.cell? ⟨N3, κ, none⟩ = some (.string Wd) := by
              rw [hw3, hn3, HWD.out]
              refine (row_cell κ _ (heap_alloc_new w2 _) ?_).1
              rcases HK3.out with rfl | rfl | rfl <;> rfl
            go_simp
            rw [← hw3, ← hn3]
            clear hw3 hn3
            refine hK.out _ _ (HKC.out _ HB3.out) (fun hHeld => ?_)
            clear hK K
            try simp only [Act.put, List.setIfInBounds_toArray, List.set_cons_zero, List.set_cons_succ, List.getElem_toArray, List.getElem_cons_succ, List.getElem_cons_zero]
            refine wpAnyH_more (S' := fun w' => (w'.cell? ⟨bx, 5, none⟩ = some (.slice (some ⟨b, off, none⟩) 2 cx) ∧ w'.cell? ⟨bx, 0, none⟩ = some (.int .i64 ((κ : Int) + 6)) ∧ w'.cell? ⟨b, off, none⟩ = some (.int .i64 y0) ∧ w'.cell? ⟨b, off + 1, none⟩ = some (.int .i64 y1) ∧ w'.cell? ⟨b, off + 2, none⟩ = some (.int .i64 y2) ∧ w'.cell? ⟨b, off + 3, none⟩ = some (.slice y3 y4 y5) ∧ w'.cell? ⟨b, off + 4, none⟩ = some (.slice y6 y7 y8) ∧ w'.cell? ⟨b, off + 5, none⟩ = some (.slice y9 yA yB) ∧ w'.cell? ⟨b, off + 6, none⟩ = some (.int .i64 z0) ∧ w'.cell? ⟨b, off + 6 + 1, none⟩ = some (.int .i64 z1) ∧ w'.cell? ⟨b, off + 6 + 2, none⟩ = some (.int .i64 z2) ∧ w'.cell? ⟨b, off + 6 + 3, none⟩ = some (.slice z3 z4 z5) ∧ w'.cell? ⟨b, off + 6 + 4, none⟩ = some (.slice z6 z7 z8) ∧ w'.cell? ⟨b, off + 6 + 5, none⟩ = some (.slice z9 zA zB)) ∧ w'.cell? ⟨N3, κ, none⟩ = some (.string Wd)) (fun w h => h.1) _ _ _ _ ?_
            refine wpAnyH_take (i := 10) (v := ?v10_19) rfl (by kernel_rfl) (by kernel_rfl) (by kernel_rfl) (fun _ _ _ h => h) (Or.inl ⟨by rfl, ?hy10_19⟩) ⟨HKC.out _ HB3.out, zf3⟩ ?rest10_19
            case hy10_19 => (intro w hSw; (try dsimp only at hSw); go_simp; (try with_reducible rfl))
            case rest10_19 =>
            try simp only [Act.put, List.setIfInBounds_toArray, List.set_cons_zero, List.set_cons_succ, List.getElem_toArray, List.getElem_cons_succ, List.getElem_cons_zero]
            refine wpAnyH_take (i := 11) (v := ?v11_20) rfl (by kernel_rfl) (by kernel_rfl) (by kernel_rfl) (fun _ _ _ h => h) (Or.inl ⟨by rfl, ?hy11_20⟩) ⟨HKC.out _ HB3.out, zf3⟩ ?rest11_20
            case hy11_20 => (intro w hSw; (try dsimp only at hSw); go_simp; (try with_reducible rfl))
            case rest11_20 =>
            try simp only [Act.put, List.setIfInBounds_toArray, List.set_cons_zero, List.set_cons_succ, List.getElem_toArray, List.getElem_cons_succ, List.getElem_cons_zero]
            refine wpAnyH_take (i := 12) (v := ?v12_21) rfl (by kernel_rfl) (by kernel_rfl) (by kernel_rfl) (fun _ _ _ h => h) (Or.inl ⟨by rfl, ?hy12_21⟩) ⟨HKC.out _ HB3.out, zf3⟩ ?rest12_21
            case hy12_21 => (intro w hSw; (try dsimp only at hSw); go_simp; (try with_reducible rfl))
            case rest12_21 =>
            try simp only [Act.put, List.setIfInBounds_toArray, List.set_cons_zero, List.set_cons_succ, List.getElem_toArray, List.getElem_cons_succ, List.getElem_cons_zero]
            refine wpAnyH_take (i := 18) (v := ?v18_22) rfl (by kernel_rfl) (by kernel_rfl) (by kernel_rfl) (fun _ _ _ h => h) (Or.inl ⟨by rfl, ?hy18_22⟩) ⟨HKC.out _ HB3.out, zf3⟩ ?rest18_22
            case hy18_22 => (intro w hSw; (try dsimp only at hSw); go_simp; (try with_reducible rfl))
            case rest18_22 =>
            try simp only [Act.put, List.setIfInBounds_toArray, List.set_cons_zero, List.set_cons_succ, List.getElem_toArray, List.getElem_cons_succ, List.getElem_cons_zero]
            refine wpAnyH_take (i := 19) (v := ?v19_23) rfl (by kernel_rfl) (by kernel_rfl) (by kernel_rfl) (fun _ _ _ h => h) (Or.inl ⟨by rfl, ?hy19_23⟩) ⟨HKC.out _ HB3.out, zf3⟩ ?rest19_23
            case hy19_23 => (intro w hSw; (try dsimp only at hSw); go_simp; (try with_reducible rfl))
            case rest19_23 =>
            try simp only [Act.put, List.setIfInBounds_toArray, List.set_cons_zero, List.set_cons_succ, List.getElem_toArray, List.getElem_cons_succ, List.getElem_cons_zero]
            refine wpAnyH_take (i := 20) (v := ?v20_24) rfl (by kernel_rfl) (by kernel_rfl) (by kernel_rfl) (fun _ _ _ h => h) (Or.inl ⟨by rfl, ?hy20_24⟩) ⟨HKC.out _ HB3.out, zf3⟩ ?rest20_24
            case hy20_24 => (intro w hSw; (try dsimp only at hSw); go_simp; (try with_reducible rfl))
            case rest20_24 =>
            try simp only [Act.put, List.setIfInBounds_toArray, List.set_cons_zero, List.set_cons_succ, List.getElem_toArray, List.getElem_cons_succ, List.getElem_cons_zero]
            refine wpAnyH_done (by kernel_rfl) ?_ _
            refine NoPanic.normal ?_
            go_wp2_with fail
            go_ret
            exact ⟨by rw [HRR.out]; rfl, HBA.out.trans (HB3.out.mono HBA.out.size)⟩
          exact AllReadyH.nil
        exact AllReadyH.nil
      refine AllReadyH.cons rfl (fun K hK => ?_) ?_
      · obtain ⟨w1, hw1⟩ : ∃ W, W = (wa.alloc (Obj.cells #[.string ⟨#[32, 43, 32]⟩, .string ⟨#[32, 45, 32]⟩, .string ⟨#[32, 42, 32]⟩] 9)).drew := ⟨_, rfl⟩
        obtain ⟨N1, hn1⟩ : ∃ N, N = wa.heap.size := ⟨_, rfl⟩
        have HB1 : Hid (Below wa.heap.size wa w1) := Lib.hid (by rw [hw1]; exact ((Below.refl _ _).alloc (Nat.le_refl _) _).drew)
        have zf1 : w1.cell? ⟨N1, κ, none⟩ = some (.string Wd) := by
          rw [hw1, hn1, HWD.out]
          refine (row_cell κ _ (heap_alloc_new wa _) ?_).1
          rcases HK3.out with rfl | rfl | rfl <;> rfl
        go_simp
        rw [← hw1, ← hn1]
        clear hw1 hn1
        refine hK.out _ _ (HKC.out _ HB1.out) (fun hHeld => ?_)
        clear hK K
        try simp only [Act.put, List.setIfInBounds_toArray, List.set_cons_zero, List.set_cons_succ, List.getElem_toArray, List.getElem_cons_succ, List.getElem_cons_zero]
        refine wpAnyH_more (S' := fun w' => (w'.cell? ⟨bx, 5, none⟩ = some (.slice (some ⟨b, off, none⟩) 2 cx) ∧ w'.cell? ⟨bx, 0, none⟩ = some (.int .i64 ((κ : Int) + 6)) ∧ w'.cell? ⟨b, off, none⟩ = some (.int .i64 y0) ∧ w'.cell? ⟨b, off + 1, none⟩ = some (.int .i64 y1) ∧ w'.cell? ⟨b, off + 2, none⟩ = some (.int .i64 y2) ∧ w'.cell? ⟨b, off + 3, none⟩ = some (.slice y3 y4 y5) ∧ w'.cell? ⟨b, off + 4, none⟩ = some (.slice y6 y7 y8) ∧ w'.cell? ⟨b, off + 5, none⟩ = some (.slice y9 yA yB) ∧ w'.cell? ⟨b, off + 6, none⟩ = some (.int .i64 z0) ∧ w'.cell? ⟨b, off + 6 + 1, none⟩ = some (.int .i64 z1) ∧ w'.cell? ⟨b, off + 6 + 2, none⟩ = some (.int .i64 z2) ∧ w'.cell? ⟨b, off + 6 + 3, none⟩ = some (.slice z3 z4 z5) ∧ w'.cell? ⟨b, off + 6 + 4, none⟩ = some (.slice z6 z7 z8) ∧ w'.cell? ⟨b, off + 6 + 5, none⟩ = some (.slice z9 zA zB)) ∧ w'.cell? ⟨N1, κ, none⟩ = some (.string Wd)) (fun w h => h.1) _ _ _ _ ?_
        refine wpAnyH_take (i := 10) (v := ?v10_25) rfl (by kernel_rfl) (by kernel_rfl) (by kernel_rfl) (fun _ _ _ h => h) (Or.inl ⟨by rfl, ?hy10_25⟩) ⟨HKC.out _ HB1.out, zf1⟩ ?rest10_25
        case hy10_25 => (intro w hSw; (try dsimp only at hSw); go_simp; (try with_reducible rfl))
        case rest10_25 =>
        try simp only [Act.put, List.setIfInBounds_toArray, List.set_cons_zero, List.set_cons_succ, List.getElem_toArray, List.getElem_cons_succ, List.getElem_cons_zero]
        refine wpAnyH_take (i := 11) (v := ?v11_26) rfl (by kernel_rfl) (by kernel_rfl) (by kernel_rfl) (fun _ _ _ h => h) (Or.inl ⟨by rfl, ?hy11_26⟩) ⟨HKC.out _ HB1.out, zf1⟩ ?rest11_26
        case hy11_26 => (intro w hSw; (try dsimp only at hSw); go_simp; (try with_reducible rfl))
        case rest11_26 =>
        try simp only [Act.put, List.setIfInBounds_toArray, List.set_cons_zero, List.set_cons_succ, List.getElem_toArray, List.getElem_cons_succ, List.getElem_cons_zero]
        refine wpAnyH_ready (rs := [4]) (by kernel_rfl) (by simp) ?_
        refine AllReadyH.cons rfl (fun K hK => ?_) ?_
        · go_simp
          refine (HTO.out _ _ _ (by first | exact B1.out | exact B2.out) HB1.out).mono ?_
          rintro e w2 ⟨rfl, hbn⟩
          have HB2 : Hid (Below wa.heap.size wa w2) := Lib.hid (HB1.out.trans (hbn.mono HB1.out.size))
          have zf1x := (hbn.cell (p := ⟨N1, κ, none⟩) (cell_lt zf1)).trans zf1
          clear hbn
          refine hK.out _ _ ⟨HKC.out _ HB2.out, zf1x⟩ (fun hHeld => ?_)
          clear hK K
          try simp only [Act.put, List.setIfInBounds_toArray, List.set_cons_zero, List.set_cons_succ, List.getElem_toArray, List.getElem_cons_succ, List.getElem_cons_zero]
          refine wpAnyH_take (i := 5) (v := ?v5_27) rfl (by kernel_rfl) (by kernel_rfl) (by kernel_rfl) (fun _ _ _ h => h) (Or.inl ⟨by rfl, ?hy5_27⟩) ⟨HKC.out _ HB2.out, zf1x⟩ ?rest5_27
          case hy5_27 => (intro w hSw; (try dsimp only at hSw); go_simp; (try with_reducible rfl))
          case rest5_27 =>
          try simp only [Act.put, List.setIfInBounds_toArray, List.set_cons_zero, List.set_cons_succ, List.getElem_toArray, List.getElem_cons_succ, List.getElem_cons_zero]
          refine wpAnyH_take (i := 12) (v := ?v12_28) rfl (by kernel_rfl) (by kernel_rfl) (by kernel_rfl) (fun _ _ _ h => h) (Or.inl ⟨by rfl, ?hy12_28⟩) ⟨HKC.out _ HB2.out, zf1x⟩ ?rest12_28
          case hy12_28 => (intro w hSw; (try dsimp only at hSw); go_simp; (try with_reducible rfl))
          case rest12_28 =>
          try simp only [Act.put, List.setIfInBounds_toArray, List.set_cons_zero, List.set_cons_succ, List.getElem_toArray, List.getElem_cons_succ, List.getElem_cons_zero]
          refine wpAnyH_ready (rs := [17]) (by kernel_rfl) (by simp) ?_
          refine AllReadyH.cons rfl (fun K hK => ?_) ?_
          · go_simp
            refine (HTO.out _ _ _ (by first | exact B1.out | exact B2.out) HB2.out).mono ?_
            rintro e w3 ⟨rfl, hbn⟩
            have HB3 : Hid (Below wa.heap.size wa w3) := Lib.hid (HB2.out.trans (hbn.mono HB2.out.size))
            have zf1xx := (hbn.cell (p := ⟨N1, κ, none⟩) (cell_lt zf1x)).trans zf1x
            clear hbn
            refine hK.out _ _ ⟨HKC.out _ HB3.out, zf1xx⟩ (fun hHeld => ?_)
            clear hK K
            try simp only [Act.put, List.setIfInBounds_toArray, List.set_cons_zero, List.set_cons_succ, List.getElem_toArray, List.getElem_cons_succ, List.getElem_cons_zero]
            refine wpAnyH_take (i := 18) (v := ?v18_29) rfl (by kernel_rfl) (by kernel_rfl) (by kernel_rfl) (fun _ _ _ h => h) (Or.inl ⟨by rfl, ?hy18_29⟩) ⟨HKC.out _ HB3.out, zf1xx⟩ ?rest18_29
            case hy18_29 => (intro w hSw; (try dsimp only at hSw); go_simp; (try with_reducible rfl))
            case rest18_29 =>
            try simp only [Act.put, List.setIfInBounds_toArray, List.set_cons_zero, List.set_cons_succ, List.getElem_toArray, List.getElem_cons_succ, List.getElem_cons_zero]
            refine wpAnyH_take (i := 19) (v := ?v19_30) rfl (by kernel_rfl) (by kernel_rfl) (by kernel_rfl) (fun _ _ _ h => h) (Or.inl ⟨by rfl, ?hy19_30⟩) ⟨HKC.out _ HB3.out, zf1xx⟩ ?rest19_30
            case hy19_30 => (intro w hSw; (try dsimp only at hSw); go_simp; (try with_reducible rfl))
            case rest19_30 =>
            try simp only [Act.put, List.setIfInBounds_toArray, List.set_cons_zero, List.set_cons_succ, List.getElem_toArray, List.getElem_cons_succ, List.getElem_cons_zero]
            refine wpAnyH_take (i := 20) (v := ?v20_31) rfl (by kernel_rfl) (by kernel_rfl) (by kernel_rfl) (fun _ _ _ h => h) (Or.inl ⟨by rfl, ?hy20_31⟩) ⟨HKC.out _ HB3.out, zf1xx⟩ ?rest20_31
            case hy20_31 => (intro w hSw; (try dsimp only at hSw); go_simp; (try with_reducible rfl))
            case rest20_31 =>
            try simp only [Act.put, List.setIfInBounds_toArray, List.set_cons_zero, List.set_cons_succ, List.getElem_toArray, List.getElem_cons_succ, List.getElem_cons_zero]
            refine wpAnyH_done (by kernel_rfl) ?_ _
            refine NoPanic.normal ?_
            go_wp2_with fail
            go_ret
            exact ⟨by rw [HRR.out]; rfl, HBA.out.trans (HB3.out.mono HBA.out.size)⟩
          exact AllReadyH.nil
        exact AllReadyH.nil
      exact AllReadyH.nil
end Go.Proofs.YtjmplhkdohlbcaaGreatDoor.Exp
/-
  Expressions: the walks of Check, ExprFault, Text (PRINTED by mkex7.py).
-/
namespace Go.Proofs.YtjmplhkdohlbcaaGreatDoor.Exp
open Go.RowKit Go.Gh Go.Proofs.YtjmplhkdohlbcaaGreatDoor.Lab
set_option linter.unusedVariables false
set_option linter.unusedSimpArgs false
set_option maxHeartbeats 4000000 in
set_option maxRecDepth 100000 in
theorem checkT_any (d : Nat) (x : Ex) (u0 u1 u2 u3 u4 u5 : Value) (w : World) (h : ExD d w x [u0, u1, u2, u3, u4, u5]) (hz : szX x ≤ 1048576) : Calls Tryz.prog 17 #[.agg #[u0, u1, u2, u3, u4, u5]] w fun e w' => e = .returned (.int .i64 (exF x)) ∧ Below w.heap.size w w' := by
  obtain ⟨k0, k1, k2, am, lm, cm, ab, lb, cb, ax, lx, cx, hsh⟩ := exD_shape h
  simp only [List.cons.injEq, and_true] at hsh
  obtain ⟨rfl, rfl, rfl, rfl, rfl, rfl⟩ := hsh
  obtain ⟨wa, hwa, hbox, hba, hsa⟩ := box_ex w (.int .i64 k0) (.int .i64 k1) (.int .i64 k2) (.slice am lm cm) (.slice ab lb cb) (.slice ax lx cx)
  have HC1 := Lib.hid (count_any d x _ _ _ _ _ _ wa (exD_mono d _ _ _ _ h hba) hz)
  have HC2 := Lib.hid (fun W (hb : Below w.heap.size w W) => check_any d x _ _ _ _ _ _ W (exD_mono d _ _ _ _ h hb))
  obtain ⟨F, hF⟩ : ∃ F, exF x = F := ⟨_, rfl⟩
  obtain ⟨c, hc⟩ : ∃ c, chX x = c := ⟨_, rfl⟩
  obtain ⟨m, hm⟩ : ∃ m, szX x = m := ⟨_, rfl⟩
  have HF : Hid (F = if 100 < m then 2 else c) := Lib.hid (by rw [← hF, ← hm, ← hc]; rfl)
  rw [hF]
  rw [hm] at HC1
  rw [hc] at HC2
  have HWA := Lib.hid hwa
  have HBA := Lib.hid hba
  obtain ⟨⟨d0, d1, d2, d3, d4, d5⟩, -⟩ := bx6 hbox
  obtain ⟨bx, hbx⟩ : ∃ bx, w.heap.size = bx := ⟨_, rfl⟩
  rw [hbx] at d0 d1 d2 d3 d4 d5 hbox
  have HBX := Lib.hid hbox
  have HBE := Lib.hid hbx
  have hbl : bx < wa.heap.size := (Array.getElem?_eq_some_iff.1 hbox).1
  clear h hz hwa hbox hba hsa hF hc hm hbx
  go_enter Tryz.func17, Tryz.ntmps17
  go_upto_region 1 with (fail)
  rw [HBE.out, ← HWA.out]
  go_wp2_with fail
  refine HC1.out.mono ?_
  rintro e w2 ⟨rfl, hb2⟩
  obtain ⟨⟨e0, e1, e2, e3, e4, e5⟩, -⟩ := bx6 ((hb2.block bx hbl).trans HBX.out)
  have HB2 := Lib.hid (HBA.out.trans (hb2.mono HBA.out.size))
  have HC3 := Lib.hid (HC2.out w2 HB2.out)
  clear hb2 d0 d1 d2 d3 d4 d5
  by_cases hm : 100 < m
  · have hf : F = 2 := by rw [HF.out]; exact if_pos hm
    subst hf
    have hm2 : (100 : Int) < (m : Int) := by omega
    go_wp2_with fail
    go_ret
    exact ⟨rfl, HB2.out⟩
  · have hf : F = c := by rw [HF.out]; exact if_neg hm
    subst hf
    go_wp2_with fail
    refine HC3.out.mono ?_
    rintro e w3 ⟨rfl, hb3⟩
    go_wp2_with fail
    go_ret
    exact ⟨rfl, HB2.out.trans (hb3.mono HB2.out.size)⟩
set_option maxHeartbeats 4000000 in
set_option maxRecDepth 100000 in
theorem faultT_any (d : Nat) (x : Ex) (u0 u1 u2 u3 u4 u5 : Value) (w : World) (h : ExD d w x [u0, u1, u2, u3, u4, u5]) (hz : szX x ≤ 1048576) : Calls Tryz.prog 16 #[.agg #[u0, u1, u2, u3, u4, u5]] w fun e w' => e = .returned (.int .i64 (exF x)) ∧ Below w.heap.size w w' := by
  obtain ⟨k0, k1, k2, am, lm, cm, ab, lb, cb, ax, lx, cx, hsh⟩ := exD_shape h
  simp only [List.cons.injEq, and_true] at hsh
  obtain ⟨rfl, rfl, rfl, rfl, rfl, rfl⟩ := hsh
  obtain ⟨wa, hwa, hbox, hba, hsa⟩ := box_ex w (.int .i64 k0) (.int .i64 k1) (.int .i64 k2) (.slice am lm cm) (.slice ab lb cb) (.slice ax lx cx)
  have HC1 := Lib.hid (sizeof_any d x _ _ _ _ _ _ wa (exD_mono d _ _ _ _ h hba) hz)
  have HC2 := Lib.hid (fun W (hb : Below w.heap.size w W) => exfault_any d x _ _ _ _ _ _ W (exD_mono d _ _ _ _ h hb))
  obtain ⟨F, hF⟩ : ∃ F, exF x = F := ⟨_, rfl⟩
  obtain ⟨c, hc⟩ : ∃ c, chX x = c := ⟨_, rfl⟩
  obtain ⟨m, hm⟩ : ∃ m, szX x = m := ⟨_, rfl⟩
  have HF : Hid (F = if 100 < m then 2 else c) := Lib.hid (by rw [← hF, ← hm, ← hc]; rfl)
  rw [hF]
  rw [hm] at HC1
  rw [hc] at HC2
  have HWA := Lib.hid hwa
  have HBA := Lib.hid hba
  obtain ⟨⟨d0, d1, d2, d3, d4, d5⟩, -⟩ := bx6 hbox
  obtain ⟨bx, hbx⟩ : ∃ bx, w.heap.size = bx := ⟨_, rfl⟩
  rw [hbx] at d0 d1 d2 d3 d4 d5 hbox
  have HBX := Lib.hid hbox
  have HBE := Lib.hid hbx
  have hbl : bx < wa.heap.size := (Array.getElem?_eq_some_iff.1 hbox).1
  clear h hz hwa hbox hba hsa hF hc hm hbx
  go_enter Tryz.func16, Tryz.ntmps16
  go_upto_region 1 with (fail)
  rw [HBE.out, ← HWA.out]
  go_wp2_with fail
  refine HC1.out.mono ?_
  rintro e w2 ⟨rfl, hb2⟩
  obtain ⟨⟨e0, e1, e2, e3, e4, e5⟩, -⟩ := bx6 ((hb2.block bx hbl).trans HBX.out)
  have HB2 := Lib.hid (HBA.out.trans (hb2.mono HBA.out.size))
  have HC3 := Lib.hid (HC2.out w2 HB2.out)
  clear hb2 d0 d1 d2 d3 d4 d5
  by_cases hm : 100 < m
  · have hf : F = 2 := by rw [HF.out]; exact if_pos hm
    subst hf
    have hm2 : (100 : Int) < (m : Int) := by omega
    go_wp2_with fail
    go_ret
    exact ⟨rfl, HB2.out⟩
  · have hf : F = c := by rw [HF.out]; exact if_neg hm
    subst hf
    go_wp2_with fail
    refine HC3.out.mono ?_
    rintro e w3 ⟨rfl, hb3⟩
    go_wp2_with fail
    go_ret
    exact ⟨rfl, HB2.out.trans (hb3.mono HB2.out.size)⟩
theorem exF_ok {x : Ex} (h : exF x = 0) : szX x ≤ 100 ∧ chX x = 0 := by
  unfold exF at h
  split at h
  · exact absurd h (by decide)
  · exact ⟨by omega, h⟩
def TxP (w : World) (F : Int) (t : By) (e : Ending) (w' : World) : Prop := e = .returned (.tuple #[.string (mkS (if F = 0 then t else [])), .int .i64 F]) ∧ Below w.heap.size w w'
set_option maxHeartbeats 4000000 in
set_option maxRecDepth 100000 in
theorem textT_any (d : Nat) (x : Ex) (u0 u1 u2 u3 u4 u5 : Value) (w : World) (h : ExD d w x [u0, u1, u2, u3, u4, u5]) (hz : szX x ≤ 1048576) (hT : STab w) (hW : WTab w) (hP : PTab w) : Calls Tryz.prog 15 #[.agg #[u0, u1, u2, u3, u4, u5]] w (TxP w (exF x) (txX x)) := by
  obtain ⟨k0, k1, k2, am, lm, cm, ab, lb, cb, ax, lx, cx, hsh⟩ := exD_shape h
  simp only [List.cons.injEq, and_true] at hsh
  obtain ⟨rfl, rfl, rfl, rfl, rfl, rfl⟩ := hsh
  obtain ⟨wa, hwa, hbox, hba, hsa⟩ := box_ex w (.int .i64 k0) (.int .i64 k1) (.int .i64 k2) (.slice am lm cm) (.slice ab lb cb) (.slice ax lx cx)
  have HC1 := Lib.hid (checkT_any d x _ _ _ _ _ _ wa (exD_mono d _ _ _ _ h hba) hz)
  have HC2 := Lib.hid (fun W (hb : Below w.heap.size w W) (h0 : exF x = 0) => text_any d x _ _ _ _ _ _ W (exD_mono d _ _ _ _ h hb) (exF_ok h0).2 (exF_ok h0).1 (hT.below hb) (hW.below hb) (hP.below hb))
  obtain ⟨F, hF⟩ : ∃ F, exF x = F := ⟨_, rfl⟩
  obtain ⟨T, hTT⟩ : ∃ T, txX x = T := ⟨_, rfl⟩
  rw [hF, hTT]
  rw [hF] at HC1 HC2
  rw [hTT] at HC2
  have HWA := Lib.hid hwa
  have HBA := Lib.hid hba
  obtain ⟨⟨d0, d1, d2, d3, d4, d5⟩, -⟩ := bx6 hbox
  obtain ⟨bx, hbx⟩ : ∃ bx, w.heap.size = bx := ⟨_, rfl⟩
  rw [hbx] at d0 d1 d2 d3 d4 d5 hbox
  have HBX := Lib.hid hbox
  have HBE := Lib.hid hbx
  have hbl : bx < wa.heap.size := (Array.getElem?_eq_some_iff.1 hbox).1
  clear h hz hT hW hP hwa hbox hba hsa hF hTT hbx
  go_enter Tryz.func15, Tryz.ntmps15
  go_upto_region 1 with (fail)
  rw [HBE.out, ← HWA.out]
  go_wp2_with fail
  refine HC1.out.mono ?_
  rintro e w2 ⟨rfl, hb2⟩
  obtain ⟨⟨e0, e1, e2, e3, e4, e5⟩, -⟩ := bx6 ((hb2.block bx hbl).trans HBX.out)
  have HB2 := Lib.hid (HBA.out.trans (hb2.mono HBA.out.size))
  clear hb2 d0 d1 d2 d3 d4 d5
  by_cases hf : F = 0
  · subst hf
    have HC3 := Lib.hid (HC2.out w2 HB2.out rfl)
    go_wp2_with fail
    refine HC3.out.mono ?_
    rintro e w3 ⟨rfl, hb3⟩
    have HB3 := Lib.hid (HB2.out.trans (hb3.mono HB2.out.size))
    clear hb3
    go_wp2_with fail
    go_ret2
    exact ⟨by rw [if_pos rfl]; rfl, HB3.out⟩
  · have t1 : (F != 0) = true := by rw [bne_iff_ne]; exact hf
    have HE : Hid (mkS (if F = 0 then T else []) = ⟨#[]⟩) := Lib.hid (by rw [if_neg hf]; rfl)
    clear hf
    go_wp2_with fail
    go_ret2
    exact ⟨by rw [HE.out]; rfl, HB2.out⟩
end Go.Proofs.YtjmplhkdohlbcaaGreatDoor.Exp
