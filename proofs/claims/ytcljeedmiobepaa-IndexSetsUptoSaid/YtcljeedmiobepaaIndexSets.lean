/-
  The walk of the law IndexSets.
-/
import Derived.Test.YtcljeedmiobepaaIx4
namespace Go.Proofs.Ytcljeedmiobepaa.IndexSets
open Go.RowKit Go.Gh Go.Proofs.Ytcljeedmiobepaa.Rk Go.Proofs.Ytcljeedmiobepaa.Ix
set_option linter.unusedVariables false
theorem ns_shape {w : World} {v : Value} {l : List Int} (h : Ns w v l) : ∃ ao c, v = .slice ao l.length c := by
  obtain ⟨ao, c, e, -⟩ := Sl.shape h
  exact ⟨ao, c, e⟩
set_option maxHeartbeats 8000000 in
set_option maxRecDepth 100000 in
theorem walk (v0 v1 v2 : Value) (w : World) (h0 : IsNs w v0) (h1 : IsNs w v1) (h2 : IsInt .i64 w v2) :
    Calls Try.prog 11 #[v0, v1, v2] w fun e w' => e = .returned (.bool true) ∧ Below w.heap.size w w' := by
  obtain ⟨a, ha, hla⟩ := h0
  obtain ⟨b, hb, hlb⟩ := h1
  obtain ⟨n, rfl, -⟩ := h2
  obtain ⟨ao, c, rfl⟩ := ns_shape ha
  obtain ⟨bo, d, rfl⟩ := ns_shape hb
  obtain ⟨na, hna⟩ : ∃ k, a.length = k := ⟨_, rfl⟩
  obtain ⟨nb, hnb⟩ : ∃ k, b.length = k := ⟨_, rfl⟩
  rw [hna] at ha ⊢
  rw [hnb] at hb ⊢
  have HA := Lib.hid ha
  have HB := Lib.hid hb
  have HLA := Lib.hid hla
  have HLB := Lib.hid hlb
  have hla2 : na ≤ 1048576 := by omega
  have hlb2 : nb ≤ 1048576 := by omega
  have HNA := Lib.hid hna
  have HNB := Lib.hid hnb
  clear ha hb hla hlb hna hnb
  go_enter Try.func11, Try.ntmps11
  go_wp2_with fail
  refine (cloneI_any _ a _ HA.out (by have := HLA.out; omega)).mono ?_
  rw [HNA.out]
  rintro e w1 ⟨v1, rfl, hown1, hb1⟩
  obtain ⟨a1, c1, rfl, -, -, -⟩ := own_shape hown1
  have hsl : Sl w1 1 (.slice bo nb d) nb (b.map (Value.int .i64)) := by
    have := HB.out.below hb1
    unfold Ns at this
    rwa [HNB.out] at this
  go_wp2_with (at_builtin; refine wpList_append_gen SortI.elInt rfl _ _ rfl hown1 hb1 rfl rfl hsl (SortI.ints_one _) ?c1 ?c2 hb1.size ?_)
  case c1 => omega
  case c2 => omega
  intro v2 w2 hown2 hbel2 _
  obtain ⟨z, hz⟩ : ∃ z, a ++ b = z := ⟨_, rfl⟩
  obtain ⟨N, hN⟩ : ∃ N, na + nb = N := ⟨_, rfl⟩
  have hzN : z.length = N := by rw [← hz, List.length_append, HNA.out, HNB.out, hN]
  have hns : Ns w2 v2 z := by
    unfold Ns
    rw [hzN, ← hz, List.map_append, ← hN]
    exact own_sl hown2
  rw [hN] at hown2
  obtain ⟨z1, zc, rfl, -, -, -⟩ := own_shape hown2
  have hN2 : N ≤ 2097152 := by omega
  have HNS := Lib.hid hns
  have HZ := Lib.hid hz
  have HZN := Lib.hid hzN
  have HB2 := Lib.hid hbel2
  clear hown1 hown2 hb1 hbel2 hsl hns hz hN hzN
  go_wp2_with fail
  go_loopw [7, 8, 11, 20] (fun x y _ i wx => LawRel w2 w2.heap.size a b z N x y i wx) (fun _ _ _ i _ => N - (intOf i).toNat)
  case atStart => exact ⟨0, Nat.zero_le _, rfl, World.ownsRow_nil _ _ _ _, World.ownsRow_nil _ _ _ _, Or.inl rfl, Below.refl _ _, Nat.le_refl _⟩
  case round =>
    obtain ⟨j, hj, rfl, htwo⟩ := hrel
    obtain ⟨-, -, -, -, hs5, hs6⟩ := anTo_spec a b z j (by rw [HZN.out]; exact hj)
    have HST := Lib.hid (fun (v : Int) (h : z[j]? = some v) => anTo_step (a := a) (b := b) h)
    have HEND : Hid (j = N → ∀ (lx ly : List Int), anTo a b z j = (ly, lx) → andL (setL a) (setL b) = (lx.mergeSort fun x y => decide (x ≤ y)) ∧ setL (a ++ b) = (ly.mergeSort fun x y => decide (x ≤ y))) := Lib.hid (fun h lx ly e => by
      have e1 := and_same a b
      have e2 := or_same a b
      rw [HZ.out, HZN.out, ← h, e] at e1 e2
      rw [HZ.out]
      exact ⟨e1, e2⟩)
    obtain ⟨⟨ly, lx⟩, hAN⟩ : ∃ P, anTo a b z j = P := ⟨_, rfl⟩
    rw [hAN] at htwo hs5 hs6 HST
    dsimp only at htwo hs5 hs6
    obtain ⟨p, hp⟩ : ∃ k, lx.length = k := ⟨_, rfl⟩
    obtain ⟨q, hq⟩ : ∃ k, ly.length = k := ⟨_, rfl⟩
    rw [hp] at htwo hs6
    rw [hq] at htwo hs5
    obtain ⟨xo, xc, rfl, -, -, -⟩ := own_shape htwo.fst
    obtain ⟨yo, yc, rfl, -, -, -⟩ := own_shape htwo.snd
    have HPX := Lib.hid hp
    have HQY := Lib.hid hq
    have HT := Lib.hid htwo
    have HAN := Lib.hid hAN
    clear hp hq htwo hAN
    by_cases hlt : j < N
    · obtain ⟨v, hv⟩ : ∃ v, z[j]? = some v := ⟨_, List.getElem?_eq_getElem (by rw [HZN.out]; exact hlt)⟩
      obtain ⟨g, off, rfl, c0⟩ := (HNS.out.below HT.out.bel).at hv
      have HS2 := Lib.hid (HST.out v hv)
      obtain ⟨D, hD⟩ : ∃ D, decide (v ∈ ly) = D := ⟨_, rfl⟩
      have HD := Lib.hid hD
      clear hv hD HST HEND HAN
      go_wp2_with fail
      refine (containsI_any _ ly v _ D (HT.out.swap.ns1 HQY.out) HD.out).mono ?_
      rintro e w3 ⟨rfl, rfl⟩
      cases D with
      | true =>
        have HE : Hid (anTo a b z (j + 1) = (ly, lx)) := Lib.hid (by rw [HS2.out]; unfold anS; rw [if_pos (of_decide_eq_true HD.out)])
        go_wp2_with fail
        go_roundw
        case rel => exact ⟨j + 1, by omega, by go_num, by rw [HE.out]; dsimp only; rw [HPX.out, HQY.out]; exact HT.out⟩
        case measure => simp [intOf]; omega
      | false =>
        have HE0 : Hid (anTo a b z (j + 1) = (ly ++ [v], if v ∈ a ∧ v ∈ b then lx ++ [v] else lx)) := Lib.hid (by rw [HS2.out]; unfold anS; rw [if_neg (of_decide_eq_false HD.out)])
        have htw := HT.out
        go_wp2_with (at_builtin; refine append1L SortI.elInt rfl _ _ rfl htw.snd htw.bel htw.low rfl rfl rfl ?c1 ?c2 ?_)
        case c1 => omega
        case c2 => omega
        intro g4 cap4 w4 hown4 hb4 hg4 hl4
        have T4 : Two w2 w2.heap.size (.slice xo p xc) p lx (.slice (some ⟨g4, 0, none⟩) (q + 1) cap4) (q + 1) (ly ++ [v]) w4 := (htw.swap.grow1 (by rw [List.map_append]; exact hown4) hb4 hg4 hl4).swap
        have HT4 := Lib.hid T4
        have HQ4 : Hid ((ly ++ [v]).length = q + 1) := Lib.hid (by rw [List.length_append, List.length_singleton, HQY.out])
        obtain ⟨DA, hDA⟩ : ∃ D, decide (v ∈ a) = D := ⟨_, rfl⟩
        obtain ⟨DB, hDB⟩ : ∃ D, decide (v ∈ b) = D := ⟨_, rfl⟩
        have HDA := Lib.hid hDA
        have HDB := Lib.hid hDB
        clear hown4 hb4 hg4 hl4 T4 htw hDA hDB
        go_wp2_with fail
        refine (containsI_any _ a v _ DA (HA.out.below (HB2.out.trans (HT4.out.bel.mono HB2.out.size))) HDA.out).mono ?_
        rintro e w5 ⟨rfl, rfl⟩
        cases DA with
        | false =>
          have HE : Hid (anTo a b z (j + 1) = (ly ++ [v], lx)) := Lib.hid (by rw [HE0.out, if_neg (fun h => (of_decide_eq_false HDA.out) h.1)])
          go_wp2_with fail
          go_roundw
          case rel => exact ⟨j + 1, by omega, by go_num, by rw [HE.out]; dsimp only; rw [HPX.out, HQ4.out]; exact HT4.out⟩
          case measure => simp [intOf]; omega
        | true =>
          go_wp2_with fail
          refine (containsI_any _ b v _ DB (HB.out.below (HB2.out.trans (HT4.out.bel.mono HB2.out.size))) HDB.out).mono ?_
          rintro e w6 ⟨rfl, rfl⟩
          cases DB with
          | false =>
            have HE : Hid (anTo a b z (j + 1) = (ly ++ [v], lx)) := Lib.hid (by rw [HE0.out, if_neg (fun h => (of_decide_eq_false HDB.out) h.2)])
            go_wp2_with fail
            go_roundw
            case rel => exact ⟨j + 1, by omega, by go_num, by rw [HE.out]; dsimp only; rw [HPX.out, HQ4.out]; exact HT4.out⟩
            case measure => simp [intOf]; omega
          | true =>
            have HE : Hid (anTo a b z (j + 1) = (ly ++ [v], lx ++ [v])) := Lib.hid (by rw [HE0.out, if_pos ⟨of_decide_eq_true HDA.out, of_decide_eq_true HDB.out⟩])
            have htw := HT4.out
            go_wp2_with (at_builtin; refine append1L SortI.elInt rfl _ _ rfl htw.fst htw.bel htw.low rfl rfl rfl ?c3 ?c4 ?_)
            case c3 => omega
            case c4 => omega
            intro g7 cap7 w7 hown7 hb7 hg7 hl7
            have T7 : Two w2 w2.heap.size (.slice (some ⟨g7, 0, none⟩) (p + 1) cap7) (p + 1) (lx ++ [v]) (.slice (some ⟨g4, 0, none⟩) (q + 1) cap4) (q + 1) (ly ++ [v]) w7 := htw.grow1 (by rw [List.map_append]; exact hown7) hb7 hg7 hl7
            have HT7 := Lib.hid T7
            have HP7 : Hid ((lx ++ [v]).length = p + 1) := Lib.hid (by rw [List.length_append, List.length_singleton, HPX.out])
            clear hown7 hb7 hg7 hl7 T7 htw
            go_wp2_with fail
            go_roundw
            case rel => exact ⟨j + 1, by omega, by go_num, by rw [HE.out]; dsimp only; rw [HP7.out, HQ4.out]; exact HT7.out⟩
            case measure => simp [intOf]; omega
    · have hjN : j = N := by omega
      obtain ⟨he1, he2⟩ := HEND.out hjN lx ly HAN.out
      have HE1 := Lib.hid he1
      have HE2 := Lib.hid he2
      subst hjN
      clear he1 he2 HEND HST HAN hlt
      go_wp2_with fail
      refine (SortI.sort_own _ p _ lx _ HT.out.fst (by omega)).mono ?_
      rintro e w3 ⟨rfl, hown3, hg3⟩
      have HT3 := Lib.hid (HT.out.put1 hown3 hg3)
      clear hown3 hg3 HT
      go_wp2_with fail
      refine (SortI.sort_own _ q _ ly _ HT3.out.snd (by omega)).mono ?_
      rintro e w4 ⟨rfl, hown4, hg4⟩
      have HT4 := Lib.hid ((HT3.out.swap.put1 hown4 hg4).swap)
      have HX4 : Hid (Ns w4 (.slice xo p xc) (andL (setL a) (setL b))) := Lib.hid (by rw [HE1.out]; exact HT4.out.ns1 (by rw [List.length_mergeSort]; exact HPX.out))
      have HY4 : Hid (Ns w4 (.slice yo q yc) (setL (a ++ b))) := Lib.hid (by rw [HE2.out]; exact HT4.out.swap.ns1 (by rw [List.length_mergeSort]; exact HQY.out))
      have HB4 := Lib.hid (HB2.out.trans (HT4.out.bel.mono HB2.out.size))
      clear hown4 hg4 HT3 HT4
      go_wp2_with fail
      refine (Not_any n _ a _ (HA.out.below HB4.out) (by rw [HNA.out]; omega)).mono ?_
      rintro e w5 ⟨v5, rfl, hn5, hb5⟩
      obtain ⟨E, hE⟩ : ∃ E : Int, (if n < 0 ∨ 1000 < n then 1 else 0) = E := ⟨_, rfl⟩
      obtain ⟨L, hL⟩ : ∃ L : List Int, (if n < 0 ∨ 1000 < n then [] else notTo a n.toNat) = L := ⟨_, rfl⟩
      rw [hL] at hn5
      rw [hE]
      obtain ⟨lo, lc, rfl⟩ := ns_shape hn5
      obtain ⟨ln, hln⟩ : ∃ k, L.length = k := ⟨_, rfl⟩
      rw [hln] at hn5 ⊢
      have HLN := Lib.hid hln
      have HN5 := Lib.hid hn5
      have HX5 := Lib.hid (HX4.out.below hb5)
      have HY5 := Lib.hid (HY4.out.below hb5)
      have HB5 := Lib.hid (HB4.out.trans (hb5.mono HB4.out.size))
      have HE := Lib.hid hE
      have HL := Lib.hid hL
      clear hE hL hn5 hb5 hln HX4 HY4
      go_wp2_with fail
      refine (And_any _ _ a b _ (HA.out.below HB5.out) (HB.out.below HB5.out) (by rw [HNA.out]; omega) (by rw [HNB.out]; omega)).mono ?_
      rintro e w6 ⟨v6, rfl, hn6, hb6⟩
      have HN6 := Lib.hid hn6
      obtain ⟨so, sc, rfl⟩ := ns_shape hn6
      obtain ⟨s6, hs6'⟩ : ∃ k, (andL (setL a) (setL b)).length = k := ⟨_, rfl⟩
      rw [hs6'] at HN6 ⊢
      have HX6 := Lib.hid (HX5.out.below hb6)
      have HY6 := Lib.hid (HY5.out.below hb6)
      have HN56 := Lib.hid (HN5.out.below hb6)
      have HB6 := Lib.hid (HB5.out.trans (hb6.mono HB5.out.size))
      clear hn6 hb6 HX5 HY5 HN5 hs6'
      go_wp2_with fail
      refine (equalI_any _ _ (andL (setL a) (setL b)) _ HN6.out HX6.out).mono ?_
      rintro e w7 ⟨rfl, q7, hq7⟩
      have hb7 : Below w6.heap.size w6 w7 := by rw [hq7]; exact below_drewN (Below.refl _ _) _
      have HY7 := Lib.hid (HY6.out.below hb7)
      have HN7 := Lib.hid (HN56.out.below hb7)
      have HB7 := Lib.hid (HB6.out.trans (hb7.mono HB6.out.size))
      clear hb7 hq7 HX6 HY6 HN56 HN6
      go_wp2_with fail
      refine (Or_any _ _ a b _ (HA.out.below HB7.out) (HB.out.below HB7.out) HLA.out HLB.out).mono ?_
      rintro e w8 ⟨v8, rfl, hn8, hb8⟩
      have HN8 := Lib.hid hn8
      obtain ⟨ro, rc, rfl⟩ := ns_shape hn8
      obtain ⟨s8, hs8⟩ : ∃ k, (setL (a ++ b)).length = k := ⟨_, rfl⟩
      rw [hs8] at HN8 ⊢
      have HY8 := Lib.hid (HY7.out.below hb8)
      have HN78 := Lib.hid (HN7.out.below hb8)
      have HB8 := Lib.hid (HB7.out.trans (hb8.mono HB7.out.size))
      clear hn8 hb8 HY7 HN7 hs8
      go_wp2_with fail
      refine (equalI_any _ _ (setL (a ++ b)) _ HN8.out HY8.out).mono ?_
      rintro e w9 ⟨rfl, q9, hq9⟩
      have hb9 : Below w8.heap.size w8 w9 := by rw [hq9]; exact below_drewN (Below.refl _ _) _
      have HN9 := Lib.hid (HN78.out.below hb9)
      have HB9 := Lib.hid (HB8.out.trans (hb9.mono HB8.out.size))
      clear hb9 hq9 HY8 HN78 HN8
      by_cases hbad : n < 0 ∨ 1000 < n
      · have hE1 : E = 1 := by rw [← HE.out, if_pos hbad]
        have hL0 : ln = 0 := by rw [← HLN.out, ← HL.out, if_pos hbad]; rfl
        subst hE1
        subst hL0
        by_cases hlo : n < 0
        · clear hbad
          go_wp2_with fail
          go_ret
          exact ⟨rfl, HB9.out⟩
        · have hhi : 1000 < n := hbad.resolve_left hlo
          clear hbad
          go_wp2_with fail
          go_ret
          exact ⟨rfl, HB9.out⟩
      · have hE0 : E = 0 := by rw [← HE.out, if_neg hbad]
        have hLE := HL.out
        rw [if_neg hbad] at hLE
        have HLE := Lib.hid hLE
        subst hE0
        obtain ⟨M, hM⟩ : ∃ M : Nat, n = (M : Int) := ⟨n.toNat, by omega⟩
        subst hM
        have hM1 : M ≤ 1000 := by omega
        have hM0 : ¬ ((M : Int) < 0) := by omega
        have hM2 : ¬ (1000 < (M : Int)) := by omega
        have tE : ((0 : Int) == 0) = true := rfl
        clear hbad hLE HE HL
        go_wp2_with fail
        obtain ⟨wz, rfl⟩ : ∃ x, x = wr := ⟨_, rfl⟩
        go_loopw [9, 14, 83] (fun u _ i wx => ∃ k : Nat, k ≤ M ∧ i = .int .i64 k ∧ Hid (wx.ownsRow w9.heap.size 3 1 u (notTo a k).length ((notTo a k).map (Value.int .i64))) ∧ Below w9.heap.size w9 wx) (fun _ _ i _ => M - (intOf i).toNat)
        case atStart => exact ⟨0, Nat.zero_le _, rfl, Lib.hid (World.ownsRow_nil _ _ _ _), Below.refl _ _⟩
        case round =>
          obtain ⟨k, hk, rfl, HO, hbr⟩ := hrel
          obtain ⟨r, hr⟩ : ∃ r, (notTo a k).length = r := ⟨_, rfl⟩
          have hown := HO.out
          rw [hr] at hown
          have hrj : r ≤ k := by rw [← hr]; exact notTo_len a k
          have HR := Lib.hid hr
          obtain ⟨uo, uc, rfl, huc, -, -⟩ := own_shape hown
          clear hr
          by_cases hlt2 : k < M
          · have hlt' : (k : Int) < (M : Int) := by omega
            obtain ⟨D, hD⟩ : ∃ D, decide ((k : Int) ∈ a) = D := ⟨_, rfl⟩
            have HD := Lib.hid hD
            clear hD HO
            go_wp2_with fail
            refine (containsI_any _ a k _ D (HA.out.below (HB9.out.trans (hbr.mono HB9.out.size))) HD.out).mono ?_
            rintro e wq ⟨rfl, rfl⟩
            cases D with
            | true =>
              have HN2 : Hid (notTo a (k + 1) = notTo a k) := Lib.hid (by rw [notTo, if_pos (of_decide_eq_true HD.out)])
              have HO4 := Lib.hid hown
              clear hown
              go_wp2_with fail
              go_roundw
              case rel => exact ⟨k + 1, by omega, by go_num, by rw [HN2.out, HR.out]; exact HO4, hbr⟩
              case measure => simp [intOf]; omega
            | false =>
              have HN2 : Hid (notTo a (k + 1) = notTo a k ++ [(k : Int)]) := Lib.hid (by rw [notTo, if_neg (of_decide_eq_false HD.out)])
              go_wp2_with (at_builtin; refine append1 [.int .i64 k] SortI.elInt rfl _ _ rfl hown hbr hbr.size rfl rfl rfl (one_all _ rfl) ?c4 ?c5 ?_)
              case c4 => omega
              case c5 => omega
              intro v7 w7' hown7 hbel7 _
              have HO7 : Hid (w7'.ownsRow w9.heap.size 3 1 v7 (notTo a (k + 1)).length ((notTo a (k + 1)).map (Value.int .i64))) := Lib.hid (by
                rw [HN2.out, List.length_append, List.length_singleton, HR.out, List.map_append]
                exact hown7)
              clear hown7 hown
              go_wp2_with fail
              go_roundw
              case rel => exact ⟨k + 1, by omega, by go_num, HO7, hbel7⟩
              case measure => simp [intOf]; omega
          · have hkM : k = M := by omega
            subst hkM
            have hLE := HLE.out
            rw [Int.toNat_natCast] at hLE
            have HF : Hid (Ns wr (.slice uo r uc) L) := Lib.hid (by unfold Ns; rw [← hLE, HR.out]; exact own_sl hown)
            have HN10 := Lib.hid (HN9.out.below hbr)
            have HBF := Lib.hid (HB9.out.trans (hbr.mono HB9.out.size))
            clear hown HO hLE
            go_wp2_with fail
            refine (equalI_any _ _ L _ HN10.out HF.out).mono ?_
            rintro e wl ⟨rfl, ql, hql⟩
            have hbl : Below wr.heap.size wr wl := by rw [hql]; exact below_drewN (Below.refl _ _) _
            have HBL := Lib.hid (HBF.out.trans (hbl.mono HBF.out.size))
            clear hql hbl
            go_wp2_with fail
            go_ret
            exact ⟨rfl, HBL.out⟩
end Go.Proofs.Ytcljeedmiobepaa.IndexSets
