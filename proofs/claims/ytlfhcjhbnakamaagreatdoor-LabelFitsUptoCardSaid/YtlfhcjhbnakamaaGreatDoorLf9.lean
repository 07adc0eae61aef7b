/-
  Labels that fit matches: the walks of Fit and Fits.
-/
import Derived.Test.YtlfhcjhbnakamaaGreatDoorLf7
import Derived.Test.YtlfhcjhbnakamaaGreatDoorLf8
import Derived.Deep.RegionHeld3
import Derived.Deep.CutBlock
namespace Go.Proofs.YtlfhcjhbnakamaaGreatDoor.Lab
open Go.RowKit Go.Gh
set_option linter.unusedVariables false
set_option linter.unusedSimpArgs false
/-- The library's variable: some number. -/
def MTab (w : World) : Prop := ∃ q : Int, w.cell? ⟨3, 0, none⟩ = some (.int .i64 q)
theorem MTab.below {w w' : World} (h : MTab w) (hb : Below w.heap.size w w') : MTab w' := by
  obtain ⟨q, hq⟩ := h
  exact ⟨q, (hb.cell (p := ⟨_, 0, none⟩) (cell_lt hq)).trans hq⟩
theorem contains_any (a b : By) (w : World) (hM : MTab w) (ha : a.length ≤ 1048576) : Calls Tryz.prog 69 #[.string (mkS a), .string (mkS b)] w fun e w' => e = .returned (.bool (Lib.contains a b)) ∧ w' = w := by
  obtain ⟨q, hq⟩ := hM
  have h := YtlfhcjhbnakamaaGreatDoor.strings_Contains (mkS a) (mkS b) q w (by rw [mkS_size]; omega) hq
  rwa [mkS_data, mkS_data] at h
theorem prefix_any (a b : By) (w : World) : Calls Tryz.prog 68 #[.string (mkS a), .string (mkS b)] w fun e w' => e = .returned (.bool (b.isPrefixOf a)) ∧ w' = w := by
  have h := YtlfhcjhbnakamaaGreatDoor.strings_HasPrefix (mkS a) (mkS b) w
  rw [mkS_data, mkS_data] at h
  exact h
theorem str_eq (a b : By) : ((mkS a).toList == (mkS b).toList) = decide (a = b) := by
  rw [mkS_list, mkS_list, Bool.eq_iff_iff]
  simp
set_option maxHeartbeats 4000000 in
set_option maxRecDepth 100000 in
theorem fit_any (v : Value) (L : List Lb) (m : Mt) (w : World) (hs : Sp LbR 2 w v L) (hM : MTab w) (hv : (valF L m.nm).length ≤ 1048576) : Calls Tryz.prog 55 #[v, .agg #[.int .i64 m.kd, .string (mkS m.nm), .string (mkS m.vl)]] w fun e w' => e = .returned (.bool (fitB L m)) ∧ Below w.heap.size w w' := by
  obtain ⟨ao, c, rfl, -, -⟩ := hs.shape
  obtain ⟨n, hn⟩ : ∃ n, L.length = n := ⟨_, rfl⟩
  rw [hn] at hs ⊢
  have HS := Lib.hid hs
  have HVA := Lib.hid (fun W (hb : Below w.heap.size w W) => value_any _ L m.nm W (hs.below lbR_mono hb))
  have HCO := Lib.hid (fun W (hb : Below w.heap.size w W) => contains_any (valF L m.nm) m.vl W (hM.below hb) hv)
  have HPR := Lib.hid (fun W => prefix_any (valF L m.nm) m.vl W)
  have HEQ := Lib.hid (str_eq (valF L m.nm) m.vl)
  obtain ⟨F, hF⟩ : ∃ F, fitB L m = F := ⟨_, rfl⟩
  rw [hF]
  unfold fitB at hF
  have HF := Lib.hid hF
  obtain ⟨K, hK⟩ : ∃ z, m.kd = z := ⟨_, rfl⟩
  obtain ⟨Sn, hSn⟩ : ∃ z, mkS m.nm = z := ⟨_, rfl⟩
  obtain ⟨Mv, hMv⟩ : ∃ z, mkS m.vl = z := ⟨_, rfl⟩
  obtain ⟨V, hV⟩ : ∃ z, mkS (valF L m.nm) = z := ⟨_, rfl⟩
  rw [hSn, hV] at HVA
  rw [hV, hMv] at HCO HPR HEQ
  rw [hK] at HF
  rw [hK, hSn, hMv]
  clear hn hs hM hv hF hK hSn hMv hV
  obtain ⟨wa, hwa⟩ : ∃ wa, wa = w.alloc (Obj.cells #[.int .i64 K, .string Sn, .string Mv] 70) := ⟨_, rfl⟩
  have hbox : wa.heap[w.heap.size]? = some (.cells #[.int .i64 K, .string Sn, .string Mv] 70 (0, 0)) := by rw [hwa]; exact heap_alloc_new w _
  have hba : Below w.heap.size w wa := by rw [hwa]; exact (Below.refl _ _).alloc (Nat.le_refl _) _
  have hsa : w.heap.size < wa.heap.size := by rw [hwa]; simp
  have HBA := Lib.hid hba
  have HWA := Lib.hid hwa
  clear hba hwa
  go_enter Tryz.func55, Tryz.ntmps55
  go_upto_region 1 with (fail)
  rw [← HWA.out]
  obtain ⟨⟨d0, d1, d2⟩, -⟩ := bx3 hbox
  have HC1 := Lib.hid (HVA.out wa HBA.out)
  obtain ⟨bx, hbx⟩ : ∃ bx, w.heap.size = bx := ⟨_, rfl⟩
  rw [hbx] at hbox hsa d0 d1 d2 ⊢
  have HBX := Lib.hid hbx
  clear hbx
  go_upto_region 2 with (go_at_call 67; refine HC1.out.mono ?_; rintro e w1 ⟨rfl, hb1⟩; have hbox1 := (hb1.block bx hsa).trans hbox; have HB1 := Lib.hid (HBA.out.trans (hb1.mono HBA.out.size)); clear hb1 d0 d1 d2; obtain ⟨⟨d0, d1, d2⟩, -⟩ := bx3 hbox1)
  clear hbox hbox1
  by_cases k1 : K = 1
  · subst k1
    rw [if_pos rfl] at HF
    have heq := HEQ.out
    rw [HF.out] at heq
    go_wp2_with fail
    go_ret
    exact ⟨by rfl, HB1.out⟩
  have b1 : (K == 1) = false := beq_eq_false_iff_ne.2 k1
  rw [if_neg k1] at HF
  by_cases k2 : K = 2
  · subst k2
    rw [if_pos rfl] at HF
    have heq := HEQ.out
    obtain ⟨D, hD⟩ : ∃ D, decide (valF L m.nm = m.vl) = D := ⟨_, rfl⟩
    rw [hD] at heq HF
    clear hD
    go_wp2_with fail
    go_ret
    exact ⟨by rw [← HF.out]; rfl, HB1.out⟩
  have b2 : (K == 2) = false := beq_eq_false_iff_ne.2 k2
  rw [if_neg k2] at HF
  by_cases k3 : K = 3
  · subst k3
    rw [if_pos rfl] at HF
    rw [HF.out] at HPR
    clear k1 k2
    go_wp2_with (go_at_call 68; refine (HPR.out _).mono ?_; rintro e w2 ⟨rfl, rfl⟩)
    go_ret
    exact ⟨by rfl, HB1.out⟩
  have b3 : (K == 3) = false := beq_eq_false_iff_ne.2 k3
  rw [if_neg k3] at HF
  rw [HF.out] at HCO
  clear k1 k2 k3
  go_wp2_with (go_at_call 69; refine (HCO.out w1 HB1.out).mono ?_; rintro e w2 ⟨rfl, rfl⟩)
  go_ret
  exact ⟨by rfl, HB1.out⟩
theorem goL_val : ∀ (l : List Lb) (p : Option By), goL p l = 0 → ∀ x ∈ l, x.vl.length ≤ 40
  | [], _, _, x, hx => by simp at hx
  | y :: r, p, h, x, hx => by
    rw [goL_cons] at h
    split at h
    · exact absurd h (by decide)
    split at h
    · exact absurd h (by decide)
    split at h
    · exact absurd h (by decide)
    rename_i h3
    rcases List.mem_cons.1 hx with rfl | hx
    · omega
    · exact goL_val r _ h x hx
theorem valF_len {L : List Lb} (h : labelF L = 0) (n : By) : (valF L n).length ≤ 40 := by
  unfold labelF at h
  split at h
  · exact absurd h (by decide)
  · unfold valF
    cases hf : L.find? (fun x => decide (x.nm = n)) with
    | none => simp
    | some x => exact goL_val L none h x (List.mem_of_find?_eq_some hf)
/-- What Fits answers. -/
def fitsR (L : List Lb) (M : List Mt) : Bool × Int := if labelF L ≠ 0 then (false, labelF L) else if matchF M ≠ 0 then (false, matchF M) else (fitsB L M, 0)
set_option maxHeartbeats 8000000 in
set_option maxRecDepth 100000 in
theorem fits_any (v u : Value) (L : List Lb) (M : List Mt) (w : World) (hs : Sp LbR 2 w v L) (ht : Sp MtR 3 w u M) (hM : MTab w) : Calls Tryz.prog 24 #[v, u] w fun e w' => e = .returned (.tuple #[.bool (fitsR L M).1, .int .i64 (fitsR L M).2]) ∧ Below w.heap.size w w' := by
  obtain ⟨ao, c, rfl, -, -⟩ := hs.shape
  obtain ⟨p, hp⟩ : ∃ n, L.length = n := ⟨_, rfl⟩
  rw [hp] at hs ⊢
  obtain ⟨n, hn⟩ : ∃ n, M.length = n := ⟨_, rfl⟩
  obtain ⟨mo, mc, rfl, hnc, hmc⟩ := ht.shapeN hn
  have HS := Lib.hid hs
  have HT := Lib.hid ht
  have HN := Lib.hid hn
  have HMT := Lib.hid hM
  have HCL := Lib.hid (lbcheck_any _ L w hs)
  have HCM := Lib.hid (fun W (hb : Below w.heap.size w W) => mtcheck_any _ M W (ht.below mtR_mono hb))
  obtain ⟨R1, R2, hR⟩ : ∃ a b, fitsR L M = (a, b) := ⟨_, _, rfl⟩
  rw [hR]
  have hR2 := hR
  unfold fitsR at hR2
  have HR := Lib.hid hR2
  obtain ⟨E, hE⟩ : ∃ E, labelF L = E := ⟨_, rfl⟩
  obtain ⟨E2, hE2⟩ : ∃ E, matchF M = E := ⟨_, rfl⟩
  rw [hE] at HCL
  rw [hE2] at HCM
  have HE := Lib.hid hE
  have HE2 := Lib.hid hE2
  clear hp hs ht hn hM hR hR2 hE hE2
  by_cases hz : E = 0
  case neg =>
    have h := HR.out
    rw [HE.out, if_pos hz] at h
    injection h with h1 h2
    subst h1 h2
    have t1 : (E != 0) = true := by rw [bne_iff_ne]; exact hz
    clear hz
    go_enter Tryz.func24, Tryz.ntmps24
    go_wp2_with (go_at_call 10; refine HCL.out.mono ?_; rintro e w1 ⟨rfl, hb1⟩; have HB1 := Lib.hid hb1; clear hb1)
    go_ret2
    exact ⟨rfl, HB1.out⟩
  subst hz
  by_cases hz2 : E2 = 0
  case neg =>
    have h := HR.out
    rw [HE.out, if_neg (by simp), HE2.out, if_pos hz2] at h
    injection h with h1 h2
    subst h1 h2
    have t1 : (E2 != 0) = true := by rw [bne_iff_ne]; exact hz2
    clear hz2
    go_enter Tryz.func24, Tryz.ntmps24
    go_wp2_with (first
      | (go_at_call 10; refine HCL.out.mono ?_; rintro e w1 ⟨rfl, hb1⟩; have HB1 := Lib.hid hb1; clear hb1)
      | (go_at_call 54; refine (HCM.out w1 HB1.out).mono ?_; rintro e w2 ⟨rfl, hb2⟩; have HB2 := Lib.hid (HB1.out.trans (hb2.mono HB1.out.size)); clear hb2))
    go_ret2
    exact ⟨rfl, HB2.out⟩
  subst hz2
  have HRR : Hid (R1 = fitsB L M ∧ R2 = 0) := Lib.hid (by
    have h := HR.out
    rw [HE.out, if_neg (by simp), HE2.out, if_neg (by simp)] at h
    injection h with h1 h2
    exact ⟨h1.symm, h2.symm⟩)
  go_enter Tryz.func24, Tryz.ntmps24
  go_wp2_with (first
    | (go_at_call 10; refine HCL.out.mono ?_; rintro e w1 ⟨rfl, hb1⟩; have HB1 := Lib.hid hb1; clear hb1)
    | (go_at_call 54; refine (HCM.out w1 HB1.out).mono ?_; rintro e w2 ⟨rfl, hb2⟩; have HB2 := Lib.hid (HB1.out.trans (hb2.mono HB1.out.size)); clear hb2))
  go_loopw [22] (fun i wr => ∃ (k : Nat), k ≤ n ∧ i = .int .i64 k ∧ Hid ((M.take k).all (fitB L) = true) ∧ Below w.heap.size w wr) (fun i _ => n - (intOf i).toNat)
  case atStart => exact ⟨0, Nat.zero_le _, rfl, Lib.hid rfl, HB2.out⟩
  case round =>
    obtain ⟨k, hk, rfl, HA, hbel⟩ := hrel
    have hsz := hbel.size
    by_cases hlt : k < n
    case neg =>
      obtain rfl : k = n := by omega
      have HF : Hid (R1 = true ∧ R2 = 0) := Lib.hid ⟨by
        have h := HA.out
        rw [List.take_of_length_le (by rw [HN.out]; exact Nat.le_refl _)] at h
        rw [HRR.out.1]
        exact h, HRR.out.2⟩
      go_wp2_with fail
      go_ret2
      rw [HF.out.1, HF.out.2]
      exact ⟨rfl, hbel⟩
    obtain ⟨x, hx⟩ : ∃ x, M[k]? = some x := ⟨_, List.getElem?_eq_getElem (by rw [HN.out]; exact hlt)⟩
    obtain ⟨b, off, cs, rfl, ⟨rfl, hl1, hl2, hl3, hl4⟩, _, hck⟩ := (HT.out.below mtR_mono hbel).get hx
    have c0 := hck 0 _ rfl
    have c1 := hck 1 _ rfl
    have c2 := hck 2 _ rfl
    rw [Nat.add_zero] at c0
    obtain ⟨F, hF⟩ : ∃ F, fitB L x = F := ⟨_, rfl⟩
    have HFT := Lib.hid (fun W (hb : Below w.heap.size w W) => fit_any _ L x W (HS.out.below lbR_mono hb) (HMT.out.below hb) (by have := valF_len HE.out x.nm; omega))
    rw [hF] at HFT
    have HX := Lib.hid hx
    have HFF := Lib.hid hF
    obtain ⟨K, hK⟩ : ∃ z, x.kd = z := ⟨_, rfl⟩
    obtain ⟨Sn, hSn⟩ : ∃ z, mkS x.nm = z := ⟨_, rfl⟩
    obtain ⟨V, hV⟩ : ∃ z, mkS x.vl = z := ⟨_, rfl⟩
    rw [hK, hSn, hV] at HFT
    rw [hK] at c0
    rw [hSn] at c1
    rw [hV] at c2
    clear hck hx hF hl1 hl2 hl3 hl4 hK hSn hV
    go_upto_region 10 with (fail)
    obtain ⟨wA, hwA⟩ : ∃ wA, wA = wr.alloc (Obj.cells #[.int .i64 K, .string Sn, .string V] 70) := ⟨_, rfl⟩
    have hbox : wA.heap[wr.heap.size]? = some (.cells #[.int .i64 K, .string Sn, .string V] 70 (0, 0)) := by rw [hwA]; exact heap_alloc_new wr _
    have hbA : Below w.heap.size w wA := by rw [hwA]; exact hbel.alloc hsz _
    rw [← hwA]
    obtain ⟨⟨d0, d1, d2⟩, -⟩ := bx3 hbox
    have HC := Lib.hid (HFT.out wA hbA)
    have HBA := Lib.hid hbA
    generalize wr.heap.size = bx at *
    clear hwA hbox hbA c0 c1 c2
    cases F with
    | true =>
      have HA2 := Lib.hid (fits_yes HA.out HX.out HFF.out)
      go_wp2_with (go_at_call 55; refine HC.out.mono ?_; rintro e w3 ⟨rfl, hb3⟩; have HB3 := Lib.hid (HBA.out.trans (hb3.mono HBA.out.size)); clear hb3)
      go_roundw
      case rel => exact ⟨k + 1, by omega, by go_num, HA2, HB3.out⟩
      case measure => simp [intOf]; omega
    | false =>
      have HF : Hid (R1 = false ∧ R2 = 0) := Lib.hid ⟨by rw [HRR.out.1]; exact fits_no HX.out HFF.out, HRR.out.2⟩
      go_wp2_with (go_at_call 55; refine HC.out.mono ?_; rintro e w3 ⟨rfl, hb3⟩; have HB3 := Lib.hid (HBA.out.trans (hb3.mono HBA.out.size)); clear hb3)
      go_ret2
      rw [HF.out.1, HF.out.2]
      exact ⟨rfl, HB3.out⟩
end Go.Proofs.YtlfhcjhbnakamaaGreatDoor.Lab
/-
  Labels: the walk of ReadMatch.
-/
namespace Go.Proofs.YtlfhcjhbnakamaaGreatDoor.Lab
open Go.RowKit Go.Gh
set_option linter.unusedVariables false
set_option linter.unusedSimpArgs false
theorem unq_len : ∀ (l acc v r : By), unq l acc = some (v, r) → r.length + 1 ≤ l.length
  | [], acc, v, r, h => by simp [unq] at h
  | b :: l, acc, v, r, h => by
    rw [unq_cons] at h
    split at h
    · injection h with h
      injection h with h1 h2
      rw [← h2]
      simp
    · split at h
      · cases l with
        | nil => simp at h
        | cons c l =>
          have := unq_len l _ v r h
          simp only [List.length_cons]
          omega
      · have := unq_len l _ v r h
        simp only [List.length_cons]
        omega
theorem sgn_len {D r : By} {k : Int} (h : sgnAt D = some (k, r)) : r.length + 2 ≤ D.length := by
  unfold sgnAt at h
  split at h <;> first | (injection h with h; injection h with h1 h2; subst h2; simp only [List.length_cons]; omega) | simp at h
theorem one_len {l b : By} {m : Mt} (h : oneP l = some (m, b)) : b.length + 3 ≤ l.length := by
  unfold oneP at h
  split at h
  · simp at h
  · rename_i k r hs
    split at h
    · simp at h
    · rename_i v r' hu
      injection h with h
      injection h with h1 h2
      subst h2
      have e1 := unq_len _ _ _ _ hu
      have e2 := sgn_len hs
      have e3 := (List.dropWhile_suffix (fun b => !opB b) (l := l)).length_le
      omega
theorem trim_len (b : By) : (trimC b).length ≤ b.length := by
  unfold trimC
  split
  · simp
  · exact Nat.le_refl _
theorem trim_lib (b : By) : Lib.trimPrefix b [44] = trimC b := by
  unfold Lib.trimPrefix Lib.hasPrefix trimC
  match b with
  | [] => rfl
  | c :: r =>
    by_cases h : c = 44
    · subst h; rfl
    · have h2 : ([44] : By).isPrefixOf (c :: r) = false := by simp [List.isPrefixOf, Ne.symm h]
      rw [h2, if_neg (by simp)]
      split
      · rename_i r' e
        injection e with e1 e2
        exact absurd e1 h
      · rfl
theorem unq_vlen : ∀ (l acc v r : By), unq l acc = some (v, r) → v.length ≤ acc.length + l.length
  | [], acc, v, r, h => by simp [unq] at h
  | b :: l, acc, v, r, h => by
    rw [unq_cons] at h
    split at h
    · injection h with h
      injection h with h1 h2
      rw [← h1]
      omega
    · split at h
      · cases l with
        | nil => simp at h
        | cons c l =>
          have := unq_vlen l _ v r h
          simp only [List.length_cons, List.length_append, List.length_nil] at this ⊢
          omega
      · have := unq_vlen l _ v r h
        simp only [List.length_cons, List.length_append, List.length_nil] at this ⊢
        omega
theorem sgn_kd {D r : By} {k : Int} (h : sgnAt D = some (k, r)) : 1 ≤ k ∧ k ≤ 4 := by
  unfold sgnAt at h
  split at h <;> first | (injection h with h; injection h with h1 h2; subst h1; decide) | simp at h
theorem one_sizes {l b : By} {m : Mt} (h : oneP l = some (m, b)) (hl : l.length ≤ 1048576) : m.nm.length ≤ 140737488355328 ∧ m.vl.length ≤ 140737488355328 ∧ 1 ≤ m.kd ∧ m.kd ≤ 4 := by
  unfold oneP at h
  split at h
  · simp at h
  · rename_i k r hs
    split at h
    · simp at h
    · rename_i v r' hu
      injection h with h
      injection h with h1 h2
      subst h1
      have e1 := unq_vlen _ _ _ _ hu
      have e2 := sgn_len hs
      have e3 := (List.dropWhile_suffix (fun b => !opB b) (l := l)).length_le
      have e4 := (List.takeWhile_prefix (fun b => !opB b) (l := l)).length_le
      obtain ⟨k1, k2⟩ := sgn_kd hs
      simp only [List.length_nil] at e1
      exact ⟨by show (l.takeWhile _).length ≤ _; omega, by show v.length ≤ _; omega, k1, k2⟩
/-- The matches, or the fault. -/
def RmP (w : World) (r : Option (List Mt)) (e : Ending) (w' : World) : Prop := Below w.heap.size w w' ∧ match r with
  | none => e = .returned (.tuple #[.slice none 0 0, .int .i64 4])
  | some ms => ∃ v, e = .returned (.tuple #[v, .int .i64 0]) ∧ Ow MtR 3 70 w.heap.size w' v ms
theorem rmP_none {w w' : World} {r : Option (List Mt)} {e : Ending} (hr : r = none) (hb : Below w.heap.size w w') (he : e = .returned (.tuple #[.slice none 0 0, .int .i64 4])) : RmP w r e w' := by
  subst hr
  exact ⟨hb, he⟩
theorem rmP_some {w w' : World} {r : Option (List Mt)} {e : Ending} {ms : List Mt} {v : Value} (hr : r = some ms) (hb : Below w.heap.size w w') (he : e = .returned (.tuple #[v, .int .i64 0])) (ho : Ow MtR 3 70 w.heap.size w' v ms) : RmP w r e w' := by
  subst hr
  exact ⟨hb, v, he, ho⟩
set_option maxHeartbeats 8000000 in
set_option maxRecDepth 100000 in
theorem rm_any (l : By) (w : World) (hsz : l.length ≤ 1048576) (hT : STab w) : Calls Tryz.prog 26 #[.string (mkS l)] w (RmP w (rmF l)) := by
  have HCP := Lib.hid (fun W => YtlfhcjhbnakamaaGreatDoor.strings_CutPrefix (mkS l) ⟨#[123]⟩ W)
  rw [mkS_data] at HCP
  have ep : (⟨#[123]⟩ : ByteArray).data.toList = [123] := rfl
  rw [ep] at HCP
  clear ep
  obtain ⟨R, hR⟩ : ∃ R, rmF l = R := ⟨_, rfl⟩
  rw [hR]
  have HR := Lib.hid hR
  clear hR
  by_cases h0 : ∃ t, l = 123 :: t
  case neg =>
    have h1 : Lib.hasPrefix l [123] = false := by
      unfold Lib.hasPrefix
      match l, h0 with
      | [], _ => rfl
      | c :: r, h0 =>
        have : c ≠ 123 := fun e => h0 ⟨r, by rw [e]⟩
        simp [List.isPrefixOf, Ne.symm this]
    have HN : Hid (R = none) := Lib.hid (by rw [← HR.out]; exact rm_none (fun t e => h0 ⟨t, e⟩))
    rw [h1] at HCP
    generalize Lib.trimPrefix l [123] = z at HCP
    generalize mkS l = S at HCP ⊢
    clear h0 h1
    go_enter Tryz.func26, Tryz.ntmps26
    go_wp2_with (go_at_call 56; refine (HCP.out _).mono ?_; rintro e w1 ⟨rfl, rfl⟩)
    go_ret2
    exact rmP_none HN.out (Below.refl _ _) rfl
  obtain ⟨t, rfl⟩ := h0
  have h1 : Lib.hasPrefix (123 :: t) [123] = true := rfl
  have h2 : Lib.trimPrefix (123 :: t) [123] = t := rfl
  rw [h1, h2] at HCP
  have htl : t.length + 1 ≤ 1048576 := by simpa using hsz
  have HCP2 : Hid (∀ W, Calls Tryz.prog 56 #[.string (mkS (123 :: t)), .string ⟨#[123]⟩] W fun e w' => e = .returned (.tuple #[.string (mkS t), .bool true]) ∧ w' = W) := Lib.hid HCP.out
  have HT := Lib.hid hT
  clear h1 h2 hsz HCP hT
  obtain ⟨S, hS⟩ : ∃ z, mkS (123 :: t) = z := ⟨_, rfl⟩
  rw [hS] at HCP2 ⊢
  have HS := Lib.hid hS
  clear hS
  obtain ⟨n, hn⟩ : ∃ n, t.length = n := ⟨_, rfl⟩
  rw [hn] at htl
  have HN := Lib.hid hn
  clear hn
  go_enter Tryz.func26, Tryz.ntmps26
  go_wp2_with (go_at_call 56; refine (HCP2.out _).mono ?_; rintro e w1 ⟨rfl, rfl⟩)
  go_wp2_with fail
  go_loopg [4, 6] n (fun g r o wr => ∃ (u : By) (O : List Mt) (q : Nat), Hid (u.length = g) ∧ Hid (O.length = q) ∧ 3 * q + g ≤ n ∧ r = .string (mkS u) ∧ Hid (Ow MtR 3 70 w1.heap.size wr o O) ∧ Hid (∀ res, RdR u O res → RdR t [] res) ∧ Below w1.heap.size w1 wr)
  case atStart => exact ⟨t, [], 0, HN, Lib.hid rfl, by omega, rfl, Lib.hid Ow.nil, Lib.hid (fun _ h => h), Below.refl _ _⟩
  case round =>
    obtain ⟨u, O, q, HU, HQ, hq, rfl, HO, HC, hbel⟩ := hrel
    obtain ⟨uo, uc, rfl, hu1, hu2⟩ := Sp.shapeN HO.out.sp HQ.out
    have hus : (mkS u).size = u.length := mkS_size u
    have hul := mkS_list u
    have hws := hbel.size
    have HU2 := Lib.hid (mkS_list u)
    by_cases hd : u = [] ∨ u = [125]
    · have HCR := Lib.hid (HC.out _ (RdR.done u O hd))
      have HD := Lib.hid hd
      clear hd
      go_upto_region 5 with (fail)
      go_cut [24] (fun t wx => t = .bool false ∧ wx = wr)
      case first =>
        rcases HD.out with rfl | rfl
        · have e0 : mkS ([] : By) = ⟨#[]⟩ := rfl
          simp only [e0] at *
          go_wp2_with fail
          go_meet
          case rel => exact ⟨rfl, rfl⟩
        · have e0 : mkS ([125] : By) = ⟨#[125]⟩ := rfl
          simp only [e0] at *
          go_wp2_with fail
          go_meet
          case rel => exact ⟨by simp, rfl⟩
      case rest =>
        obtain ⟨rfl, hwc⟩ := hcut
        have hwc := hwc.symm
        subst hwc
        have HMT := Lib.hid (mtt_any _ O wr HO.out.sp (HT.out.below hbel))
        have hrp := rm_prog rfl HCR.out
        rw [HR.out] at hrp
        have HRP := Lib.hid hrp
        obtain ⟨E, hE⟩ : ∃ E, matchF O = E := ⟨_, rfl⟩
        rw [hE] at HMT
        have HE := Lib.hid hE
        clear hrp hE
        by_cases hz : E = 0
        case neg =>
          have HN2 : Hid (R = none) := Lib.hid (by
            rcases HRP.out with ⟨ms, e1, e2, -⟩ | ⟨-, h⟩
            · injection e1 with e1
              rw [← e1, HE.out] at e2
              exact absurd e2 hz
            · exact h)
          have t1 : (E != 0) = true := by rw [bne_iff_ne]; exact hz
          have HMT2 : Hid (Calls Tryz.prog 25 #[.slice uo q uc] wr fun e w' => e = .returned (.tuple #[.string ⟨#[]⟩, .int .i64 E]) ∧ Below wr.heap.size wr w') := Lib.hid (by
            have h := HMT.out
            unfold txP at h
            rw [if_neg hz] at h
            exact h)
          clear hz HMT
          go_wp2_with (go_at_call 25; refine HMT2.out.mono ?_; rintro e w5 ⟨rfl, hb5⟩; have HB5 := Lib.hid (hbel.trans (hb5.mono hbel.size)); clear hb5)
          go_ret2
          exact rmP_none HN2.out HB5.out rfl
        subst hz
        obtain ⟨X, hX⟩ : ∃ X, mkS (textM O) = X := ⟨_, rfl⟩
        have HMT2 : Hid (Calls Tryz.prog 25 #[.slice uo q uc] wr fun e w' => e = .returned (.tuple #[.string X, .int .i64 0]) ∧ Below wr.heap.size wr w') := Lib.hid (by
          have h := HMT.out
          unfold txP at h
          rw [if_pos rfl, hX] at h
          exact h)
        have hxs : (X.toList == S.toList) = decide (textM O = 123 :: t) := by
          rw [← hX, ← HS.out, mkS_list, mkS_list, Bool.eq_iff_iff]
          simp
        by_cases hts : textM O = 123 :: t
        · rw [decide_eq_true hts] at hxs
          have HN2 : Hid (R = some O) := Lib.hid (by
            rcases HRP.out with ⟨ms, e1, e2, e3, e4⟩ | ⟨h, -⟩
            · injection e1 with e1
              rw [e1]; exact e4
            · exact absurd ⟨HE.out, hts⟩ (h O rfl))
          clear hts HMT hX
          go_wp2_with (go_at_call 25; refine HMT2.out.mono ?_; rintro e w5 ⟨rfl, hb5⟩; have HB5 := Lib.hid hb5; clear hb5)
          go_ret2
          exact rmP_some HN2.out (hbel.trans (HB5.out.mono hbel.size)) rfl (HO.out.below mtR_mono HB5.out)
        · rw [decide_eq_false hts] at hxs
          have HN2 : Hid (R = none) := Lib.hid (by
            rcases HRP.out with ⟨ms, e1, e2, e3, e4⟩ | ⟨-, h⟩
            · injection e1 with e1
              rw [← e1] at e3
              exact absurd e3 hts
            · exact h)
          clear hts HMT hX
          go_wp2_with (go_at_call 25; refine HMT2.out.mono ?_; rintro e w5 ⟨rfl, hb5⟩; have HB5 := Lib.hid hb5; clear hb5)
          go_ret2
          exact rmP_none HN2.out (hbel.trans (HB5.out.mono hbel.size)) rfl
    have hd1 : u ≠ [] := fun e => hd (Or.inl e)
    have hd2 : u ≠ [125] := fun e => hd (Or.inr e)
    obtain ⟨f1, f2⟩ := tl_ne hd1
    have f3 : ((mkS u).toList == [125]) = false := by rw [mkS_list]; exact beq_eq_false_iff_ne.2 hd2
    have hub : u.length ≤ 1048576 := by rw [HU.out]; omega
    have HON := Lib.hid (one_any u wr hub (HT.out.below hbel))
    obtain ⟨X, hX⟩ : ∃ X, oneP u = X := ⟨_, rfl⟩
    rw [hX] at HON
    cases X with
    | none =>
      have HN2 : Hid (R = none) := Lib.hid (by
        rcases rm_prog rfl (HC.out _ (RdR.bad u O hd hX)) with ⟨ms, e1, -⟩ | ⟨-, h⟩
        · simp at e1
        · rw [← HR.out]; exact h)
      clear hX hd hd1 hd2 hub hul
      go_wp2_with (go_at_call 57; refine HON.out.mono ?_; rintro e w5 ⟨hb5, k5, a5, b5, t5, rfl⟩; have HB5 := Lib.hid (hbel.trans (hb5.mono hbel.size)); clear hb5)
      go_ret2
      refine rmP_none HN2.out ?_ rfl
      exact HB5.out.alloc HB5.out.size _
    | some mb =>
      obtain ⟨m, b⟩ := mb
      have HC2 : Hid (∀ res, RdR (trimC b) (O ++ [m]) res → RdR t [] res) := Lib.hid (fun res h => HC.out res (RdR.more u O m b res hd hX h))
      obtain ⟨z1, z2, z3, z4⟩ := one_sizes hX hub
      have hln := one_len hX
      have htr := trim_len b
      have HMR : Hid (MtR wr m [.int .i64 m.kd, .string (mkS m.nm), .string (mkS m.vl)]) := Lib.hid ⟨rfl, z1, z2, by omega, by omega⟩
      have HTP := Lib.hid (fun W => YtlfhcjhbnakamaaGreatDoor.strings_TrimPrefix (mkS b) ⟨#[44]⟩ W)
      rw [mkS_data] at HTP
      have HTP2 : Hid (∀ W, Calls Tryz.prog 58 #[.string (mkS b), .string ⟨#[44]⟩] W fun e w' => e = .returned (.string (mkS (trimC b))) ∧ w' = W) := Lib.hid (fun W => by
        have h := HTP.out W
        have ep : (⟨#[44]⟩ : ByteArray).data.toList = [44] := rfl
        rw [ep, trim_lib] at h
        exact h)
      have HLN : Hid ((trimC b).length + 3 ≤ gk) := Lib.hid (by rw [← HU.out]; omega)
      have HQ2 : Hid ((O ++ [m]).length = q + 1) := Lib.hid (by rw [List.length_append, HQ.out]; rfl)
      have HON2 : Hid (Calls Tryz.prog 57 #[.string (mkS u)] wr fun e w' => Below wr.heap.size wr w' ∧ e = .returned (.tuple #[.agg #[.int .i64 m.kd, .string (mkS m.nm), .string (mkS m.vl)], .string (mkS b), .bool true])) := Lib.hid HON.out
      obtain ⟨P, hP1, hP2, hP3, hP4⟩ := HO.out
      rw [HQ.out] at hP4
      have HPP := Lib.hid (And.intro hP1 (And.intro hP2 hP3))
      have HOW := Lib.hid hP4
      have hq47 : 3 * q ≤ n := by omega
      clear hX hd hd1 hd2 hub hul z1 z2 z3 z4 hln htr HTP hP1 hP2 hP3 hP4 HON
      obtain ⟨κ, hκ⟩ : ∃ z, m.kd = z := ⟨_, rfl⟩
      obtain ⟨Sn, hSn⟩ : ∃ z, mkS m.nm = z := ⟨_, rfl⟩
      obtain ⟨V, hV⟩ : ∃ z, mkS m.vl = z := ⟨_, rfl⟩
      rw [hκ, hSn, hV] at HON2 HMR
      clear hκ hSn hV
      go_upto_region 7 with (go_at_call 57; refine HON2.out.mono ?_; rintro e w5 ⟨hb5, rfl⟩; have HB5 := Lib.hid hb5; clear hb5)
      obtain ⟨wA, hwA⟩ : ∃ wA, wA = w5.alloc (Obj.cells #[.int .i64 κ, .string Sn, .string V] 70) := ⟨_, rfl⟩
      have hbox : wA.heap[w5.heap.size]? = some (.cells #[.int .i64 κ, .string Sn, .string V] 70 (0, 0)) := by rw [hwA]; exact heap_alloc_new w5 _
      have hbA : Below wr.heap.size wr wA := by rw [hwA]; exact HB5.out.alloc HB5.out.size _
      rw [← hwA]
      have HBA := Lib.hid (hbel.trans (hbA.mono hws))
      have hO4 : wA.ownsRow w1.heap.size 70 3 (.slice uo q uc) q (pc P) := own_below HOW.out hbA
      obtain ⟨⟨d0, d1, d2⟩, -⟩ := bx3 hbox
      generalize w5.heap.size = bx at *
      clear hwA hbox hbA
      go_wp2_with (at_builtin; refine append1 [.int .i64 κ, .string Sn, .string V] elMt rfl _ _ rfl hO4 HBA.out HBA.out.size rfl rfl rfl (by intro x hx; simp at hx; rcases hx with rfl | rfl | rfl <;> rfl) ?c4 ?c5 ?_)
      case c4 => omega
      case c5 => omega
      intro v6 w6 hown6 hbel6 hgr6
      have HON3 : Hid (Ow MtR 3 70 w1.heap.size w6 v6 (O ++ [m])) := Lib.hid (Ow.snoc (w := wA) (mtR_grow _ _ _) HPP.out.1 HPP.out.2.1 (fun q hq => HPP.out.2.2 q hq) hO4 HQ.out.symm hgr6 hown6 rfl HMR.out)
      have HB6 := Lib.hid hbel6
      obtain ⟨vo, vc, rfl, -, -, -⟩ := own_shape hown6
      clear hO4 hown6 hgr6 hbel6 d0 d1 d2
      go_wp2_with (go_at_call 58; refine (HTP2.out _).mono ?_; rintro e w7 ⟨rfl, rfl⟩)
      go_roundg (trimC b).length
      case measure => have := HLN.out; omega
      case rel => exact ⟨trimC b, O ++ [m], q + 1, Lib.hid rfl, HQ2, (by have := HLN.out; omega), rfl, HON3, HC2, HB6.out⟩
end Go.Proofs.YtlfhcjhbnakamaaGreatDoor.Lab
/-
  Labels: the walk of Read.
-/
namespace Go.Proofs.YtlfhcjhbnakamaaGreatDoor.Lab
open Go.RowKit Go.Gh
set_option linter.unusedVariables false
set_option linter.unusedSimpArgs false
theorem asL_take {L : List Mt} {k : Nat} {x : Mt} (h : L[k]? = some x) : asL (L.take (k + 1)) = asL (L.take k) ++ [⟨x.nm, x.vl⟩] := by
  unfold asL
  rw [List.take_add_one, h, List.map_append]
  rfl
theorem asL_len (L : List Mt) : (asL L).length = L.length := by unfold asL; rw [List.length_map]
theorem rmF_spec {l : By} {ms : List Mt} (h : rmF l = some ms) : matchF ms = 0 ∧ textM ms = l := by
  unfold rmF at h
  split at h
  · rename_i hp
    injection h with h
    rw [← h]
    exact hp.choose_spec
  · simp at h
/-- The labels, or the fault. -/
def LbP (w : World) (r : Option (List Lb)) (e : Ending) (w' : World) : Prop := Below w.heap.size w w' ∧ match r with
  | none => e = .returned (.tuple #[.slice none 0 0, .int .i64 4])
  | some ms => ∃ v, e = .returned (.tuple #[v, .int .i64 0]) ∧ Ow LbR 2 72 w.heap.size w' v ms
theorem lbP_none {w w' : World} {r : Option (List Lb)} {e : Ending} (hr : r = none) (hb : Below w.heap.size w w') (he : e = .returned (.tuple #[.slice none 0 0, .int .i64 4])) : LbP w r e w' := by
  subst hr
  exact ⟨hb, he⟩
theorem lbP_some {w w' : World} {r : Option (List Lb)} {e : Ending} {ms : List Lb} {v : Value} (hr : r = some ms) (hb : Below w.heap.size w w') (he : e = .returned (.tuple #[v, .int .i64 0])) (ho : Ow LbR 2 72 w.heap.size w' v ms) : LbP w r e w' := by
  subst hr
  exact ⟨hb, v, he, ho⟩
theorem lbF_none {l : By} (h : rmF l = none) : lbF l = none := by unfold lbF; rw [h]
theorem lbF_some {l : By} {ms : List Mt} (h : rmF l = some ms) : lbF l = if labelF (asL ms) = 0 ∧ textM (asM (asL ms)) = l then some (asL ms) else none := by unfold lbF; rw [h]
set_option maxHeartbeats 8000000 in
set_option maxRecDepth 100000 in
theorem lbread_any (l : By) (w : World) (hsz : l.length ≤ 1048576) (hT : STab w) : Calls Tryz.prog 8 #[.string (mkS l)] w (LbP w (lbF l)) := by
  have HRM := Lib.hid (rm_any l w hsz hT)
  obtain ⟨X, hX⟩ : ∃ R, rmF l = R := ⟨_, rfl⟩
  rw [hX] at HRM
  have HX := Lib.hid hX
  have HT := Lib.hid hT
  obtain ⟨R, hR⟩ : ∃ R, lbF l = R := ⟨_, rfl⟩
  rw [hR]
  have HR := Lib.hid hR
  obtain ⟨S, hS⟩ : ∃ z, mkS l = z := ⟨_, rfl⟩
  rw [hS] at HRM ⊢
  have HS := Lib.hid hS
  clear hX hT hR hS hsz
  cases X with
  | none =>
    have HN := Lib.hid (lbF_none HX.out)
    rw [HR.out] at HN
    go_enter Tryz.func8, Tryz.ntmps8
    go_wp2_with (go_at_call 26; refine HRM.out.mono ?_; rintro e w1 ⟨hb1, rfl⟩; have HB1 := Lib.hid hb1; clear hb1)
    go_ret2
    exact lbP_none HN.out HB1.out rfl
  | some ms =>
    obtain ⟨m0, m1⟩ := rmF_spec HX.out
    obtain ⟨n, hn⟩ : ∃ n, ms.length = n := ⟨_, rfl⟩
    have hn10 : n ≤ 10 := by rw [← hn]; exact (matchF_zero m0).1
    have HN := Lib.hid hn
    have HLB := Lib.hid (lbF_some HX.out)
    rw [HR.out] at HLB
    have HRM2 : Hid (Calls Tryz.prog 26 #[.string S] w fun e w' => Below w.heap.size w w' ∧ ∃ ao c, e = .returned (.tuple #[.slice ao n c, .int .i64 0]) ∧ Ow MtR 3 70 w.heap.size w' (.slice ao n c) ms) := Lib.hid (HRM.out.mono (fun e w' h => by
      obtain ⟨hb, v, he, ho⟩ := h
      obtain ⟨ao, c, rfl, -, -⟩ := ho.sp.shapeN HN.out
      exact ⟨hb, ao, c, he, ho⟩))
    clear m0 m1 hn HRM
    go_enter Tryz.func8, Tryz.ntmps8
    go_wp2_with (go_at_call 26; refine HRM2.out.mono ?_; rintro e w1 ⟨hb1, ao, c, rfl, ho⟩; have HB1 := Lib.hid hb1; have HO1 := Lib.hid ho.sp; clear hb1 ho)
    have hs1 := HB1.out.size
    go_loopw [6, 21] (fun u i wr => ∃ (k : Nat), k ≤ n ∧ i = .int .i64 k ∧ Hid (Ow LbR 2 72 w1.heap.size wr u (asL (ms.take k))) ∧ Below w1.heap.size w1 wr) (fun _ i _ => n - (intOf i).toNat)
    case atStart => exact ⟨0, Nat.zero_le _, rfl, Lib.hid Ow.nil, Below.refl _ _⟩
    case round =>
      obtain ⟨k, hk, rfl, HO, hbel⟩ := hrel
      have hsz := hbel.size
      have HPL : Hid ((asL (ms.take k)).length = k) := Lib.hid (by rw [asL_len, List.length_take, HN.out]; omega)
      obtain ⟨uo, uc, rfl, hu1, hu2⟩ := Sp.shapeN HO.out.sp HPL.out
      by_cases hlt : k < n
      case neg =>
        obtain rfl : k = n := by omega
        have HO2 : Hid (Ow LbR 2 72 w1.heap.size wr (.slice uo k uc) (asL ms)) := Lib.hid (by have := HO.out; rwa [List.take_of_length_le (by rw [HN.out]; exact Nat.le_refl _)] at this)
        have hbw := HB1.out.trans (hbel.mono hs1)
        have HBW := Lib.hid hbw
        have HMT := Lib.hid (text2_any _ (asL ms) wr HO2.out.sp (HT.out.below hbw))
        obtain ⟨E, hE⟩ : ∃ E, labelF (asL ms) = E := ⟨_, rfl⟩
        rw [hE] at HMT HLB
        clear hE hbw hbel
        by_cases hz : E = 0
        case neg =>
          have HN2 : Hid (R = none) := Lib.hid (by rw [HLB.out, if_neg (fun h => hz h.1)])
          have t1 : (E != 0) = true := by rw [bne_iff_ne]; exact hz
          have HMT2 : Hid (Calls Tryz.prog 7 #[.slice uo k uc] wr fun e w' => e = .returned (.tuple #[.string ⟨#[]⟩, .int .i64 E]) ∧ Below wr.heap.size wr w') := Lib.hid (by
            have h := HMT.out
            unfold txP at h
            rw [if_neg hz] at h
            exact h)
          clear hz HMT HLB
          go_wp2_with (go_at_call 7; refine HMT2.out.mono ?_; rintro e w5 ⟨rfl, hb5⟩; have HB5 := Lib.hid (HBW.out.trans (hb5.mono HBW.out.size)); clear hb5)
          go_ret2
          exact lbP_none HN2.out HB5.out rfl
        subst hz
        obtain ⟨X, hX⟩ : ∃ X, mkS (textM (asM (asL ms))) = X := ⟨_, rfl⟩
        have HMT2 : Hid (Calls Tryz.prog 7 #[.slice uo k uc] wr fun e w' => e = .returned (.tuple #[.string X, .int .i64 0]) ∧ Below wr.heap.size wr w') := Lib.hid (by
          have h := HMT.out
          unfold txP at h
          rw [if_pos rfl, hX] at h
          exact h)
        have hxs : (X.toList == S.toList) = decide (textM (asM (asL ms)) = l) := by
          rw [← hX, ← HS.out, mkS_list, mkS_list, Bool.eq_iff_iff]
          simp
        by_cases hts : textM (asM (asL ms)) = l
        · rw [decide_eq_true hts] at hxs
          have HN2 : Hid (R = some (asL ms)) := Lib.hid (by rw [HLB.out, if_pos ⟨rfl, hts⟩])
          clear hts HMT hX HLB
          go_wp2_with (go_at_call 7; refine HMT2.out.mono ?_; rintro e w5 ⟨rfl, hb5⟩; have HB5 := Lib.hid hb5; clear hb5)
          go_ret2
          exact lbP_some HN2.out (HBW.out.trans (HB5.out.mono HBW.out.size)) rfl ((HO2.out.mono hs1).below lbR_mono HB5.out)
        · rw [decide_eq_false hts] at hxs
          have HN2 : Hid (R = none) := Lib.hid (by rw [HLB.out, if_neg (fun h => hts h.2)])
          clear hts HMT hX HLB
          go_wp2_with (go_at_call 7; refine HMT2.out.mono ?_; rintro e w5 ⟨rfl, hb5⟩; have HB5 := Lib.hid hb5; clear hb5)
          go_ret2
          exact lbP_none HN2.out (HBW.out.trans (HB5.out.mono HBW.out.size)) rfl
      obtain ⟨x, hx⟩ : ∃ x, ms[k]? = some x := ⟨_, List.getElem?_eq_getElem (by rw [HN.out]; exact hlt)⟩
      obtain ⟨b, off, cs, rfl, ⟨rfl, hl1, hl2, hl3, hl4⟩, _, hck⟩ := (HO1.out.below mtR_mono hbel).get hx
      have HXK := Lib.hid hx
      have c0 := hck 0 _ rfl
      have c1 := hck 1 _ rfl
      have c2 := hck 2 _ rfl
      rw [Nat.add_zero] at c0
      obtain ⟨P, hP1, hP2, hP3, hP4⟩ := HO.out
      rw [HPL.out] at hP4
      have HPP := Lib.hid (And.intro hP1 (And.intro hP2 hP3))
      have HOW := Lib.hid hP4
      have HMR : Hid (LbR w ⟨x.nm, x.vl⟩ [.string (mkS x.nm), .string (mkS x.vl)]) := Lib.hid ⟨rfl, hl1, hl2⟩
      obtain ⟨κ, hκ⟩ : ∃ z, z = x.kd := ⟨_, rfl⟩
      obtain ⟨Sn, hSn⟩ : ∃ S, S = mkS x.nm := ⟨_, rfl⟩
      obtain ⟨V, hV⟩ : ∃ S, S = mkS x.vl := ⟨_, rfl⟩
      rw [← hSn, ← hV] at HMR
      rw [← hκ] at c0
      rw [← hSn] at c1
      rw [← hV] at c2
      clear hck hx hP1 hP2 hP3 hP4 hSn hV hl1 hl2 hl3 hl4 hκ
      go_upto_region 8 with (fail)
      obtain ⟨wA, hwA⟩ : ∃ wA, wA = wr.alloc (Obj.cells #[.int .i64 κ, .string Sn, .string V] 70) := ⟨_, rfl⟩
      have hbox : wA.heap[wr.heap.size]? = some (.cells #[.int .i64 κ, .string Sn, .string V] 70 (0, 0)) := by rw [hwA]; exact heap_alloc_new wr _
      have hbA : Below wr.heap.size wr wA := by rw [hwA]; exact (Below.refl _ _).alloc (Nat.le_refl _) _
      rw [← hwA]
      have HBA := Lib.hid (hbel.trans (hbA.mono hsz))
      have hO4 : wA.ownsRow w1.heap.size 72 2 (.slice uo k uc) k (pc P) := own_below HOW.out hbA
      obtain ⟨⟨d0, d1, d2⟩, -⟩ := bx3 hbox
      generalize wr.heap.size = bx at *
      clear hwA hbox hbA c0 c1 c2
      go_wp2_with (at_builtin; refine append1 [.string Sn, .string V] elLb rfl _ _ rfl hO4 HBA.out HBA.out.size rfl rfl rfl (by intro x hx; simp at hx; rcases hx with rfl | rfl <;> rfl) ?c4 ?c5 ?_)
      case c4 => omega
      case c5 => omega
      intro v5 w5 hown5 hbel5 hgr5
      have HON : Hid (Ow LbR 2 72 w1.heap.size w5 v5 (asL (ms.take (k + 1)))) := Lib.hid (by
        rw [asL_take HXK.out]
        exact Ow.snoc (w := wA) (lbR_grow _ _ _) HPP.out.1 HPP.out.2.1 (fun q hq => HPP.out.2.2 q hq) hO4 HPL.out.symm hgr5 hown5 rfl HMR.out)
      have HB5 := Lib.hid hbel5
      obtain ⟨vo, vc, rfl, -, -, -⟩ := own_shape hown5
      clear hO4 hown5 hgr5 hbel5 d0 d1 d2
      go_wp2_with fail
      go_roundw
      case rel => exact ⟨k + 1, by omega, by go_num, HON, HB5.out⟩
      case measure => simp [intOf]; omega
end Go.Proofs.YtlfhcjhbnakamaaGreatDoor.Lab
/-
  Labels: the matches at the front of a text, and what is behind them: as a plain function.
-/
namespace Go.Gh
set_option linter.unusedVariables false
set_option linter.unusedSimpArgs false
theorem notR_end {m : Mt} (hn : nameOk m.nm = true) (t z : By) : mtx m ++ t ≠ 125 :: z := by
  obtain ⟨c, r, e, hc⟩ := mtx_head hn
  rw [e]
  intro h
  have : c = 125 := by simpa using congrArg List.head? h
  rw [this] at hc
  revert hc
  decide
theorem textR_inj : ∀ (a b : List Mt) (z z' : By), Right a → Right b → commas (a.map mtx) ++ 125 :: z = commas (b.map mtx) ++ 125 :: z' → a = b ∧ z = z'
  | [], [], z, z', _, _, h => by
    have h' : 125 :: z = 125 :: z' := h
    injection h' with _ h'
    exact ⟨rfl, h'⟩
  | [], m :: r, z, z', _, hb, h => by
    rw [commas_consR] at h
    exact absurd h.symm (notR_end (hb m (by simp)).2.2.1 _ _)
  | m :: r, [], z, z', ha, _, h => by
    rw [commas_consR] at h
    exact absurd h (notR_end (ha m (by simp)).2.2.1 _ _)
  | m :: r, m' :: r', z, z', ha, hb, h => by
    rw [commas_consR, commas_consR] at h
    have h1 := ha m (by simp)
    have h2 := hb m' (by simp)
    have o1 := one_mtx h1.1 h1.2.1 h1.2.2.1 (tailR r z)
    have o2 := one_mtx h2.1 h2.2.1 h2.2.2.1 (tailR r' z')
    rw [h, o2] at o1
    injection o1 with o1
    injection o1 with e1 e2
    subst e1
    have : r = r' ∧ z = z' := by
      cases r with
      | nil => cases r' with
        | nil =>
          have e2' : 125 :: z' = 125 :: z := e2
          injection e2' with _ e3
          exact ⟨rfl, e3.symm⟩
        | cons y s => exact absurd (congrArg List.head? e2) (by simp [tailR])
      | cons x q => cases r' with
        | nil => exact absurd (congrArg List.head? e2) (by simp [tailR])
        | cons y s =>
          unfold tailR at e2
          injection e2 with _ e3
          exact textR_inj (x :: q) (y :: s) z z' (fun u hu => ha u (by simp [hu])) (fun u hu => hb u (by simp [hu])) e3.symm
    rw [this.1]
    exact ⟨rfl, this.2⟩
open Classical in
/-- The matches at the front, and the rest. -/
noncomputable def maF (s : By) : Option (List Mt × By) := if h : ∃ p : List Mt × By, matchF p.1 = 0 ∧ textM p.1 ++ p.2 = s then some h.choose else none
theorem textM_app (ms : List Mt) (z : By) : textM ms ++ z = 123 :: (commas (ms.map mtx) ++ 125 :: z) := by
  unfold textM
  simp [List.append_assoc]
theorem ma_some {s : By} {ms : List Mt} {z : By} (h1 : matchF ms = 0) (h2 : textM ms ++ z = s) : maF s = some (ms, z) := by
  unfold maF
  have hp : ∃ p : List Mt × By, matchF p.1 = 0 ∧ textM p.1 ++ p.2 = s := ⟨(ms, z), h1, h2⟩
  rw [dif_pos hp]
  obtain ⟨c1, c2⟩ := hp.choose_spec
  generalize hp.choose = q at c1 c2
  have e : textM q.1 ++ q.2 = textM ms ++ z := c2.trans h2.symm
  rw [textM_app, textM_app] at e
  injection e with _ e
  obtain ⟨e1, e2⟩ := textR_inj _ _ _ _ (matchF_zero c1).2 (matchF_zero h1).2 e
  cases q
  simp only at e1 e2
  rw [e1, e2]
theorem ma_spec {s : By} {ms : List Mt} {z : By} (h : maF s = some (ms, z)) : matchF ms = 0 ∧ textM ms ++ z = s := by
  unfold maF at h
  split at h
  · rename_i hp
    injection h with h
    have := hp.choose_spec
    rw [h] at this
    exact this
  · simp at h
theorem ma_none {s : By} (h : ∀ t, s ≠ 123 :: t) : maF s = none := by
  cases hm : maF s with
  | none => rfl
  | some p =>
    obtain ⟨ms, z⟩ := p
    have := (ma_spec hm).2
    rw [textM_app] at this
    exact absurd this.symm (h _)
/-- What the document's reading comes to. -/
theorem ma_ref {s t : By} {res : Option (List Mt × By)} (hs : s = 123 :: t) (hr : RrR t [] res) : (∃ ms z, res = some (ms, z) ∧ matchF ms = 0 ∧ textM ms ++ z = s ∧ maF s = some (ms, z)) ∨ ((∀ ms z, res = some (ms, z) → ¬ (matchF ms = 0 ∧ textM ms ++ z = s)) ∧ maF s = none) := by
  cases hm : maF s with
  | none =>
    refine Or.inr ⟨fun ms z _ h => ?_, rfl⟩
    rw [ma_some h.1 h.2] at hm
    simp at hm
  | some p =>
    obtain ⟨ms, z⟩ := p
    obtain ⟨c1, c2⟩ := ma_spec hm
    have et : commas (ms.map mtx) ++ 125 :: z = t := by
      rw [textM_app, hs] at c2
      injection c2
    rw [← et] at hr
    exact Or.inl ⟨ms, z, rr_text ms z res (matchF_zero c1).2 hr, c1, c2, rfl⟩
theorem rm_ma_some {s : By} {ms : List Mt} (h : maF s = some (ms, [])) : rmF s = some ms := by
  obtain ⟨c1, c2⟩ := ma_spec h
  rw [List.append_nil] at c2
  exact rm_some c1 c2
theorem rmF_spec' {l : By} {ms : List Mt} (h : rmF l = some ms) : matchF ms = 0 ∧ textM ms = l := by
  unfold rmF at h
  split at h
  · rename_i hp
    injection h with h
    rw [← h]
    exact hp.choose_spec
  · simp at h
theorem rm_ma_none {s : By} (h : ∀ ms, maF s ≠ some (ms, [])) : rmF s = none := by
  cases hm : rmF s with
  | none => rfl
  | some ms =>
    obtain ⟨c1, c2⟩ := rmF_spec' hm
    exact absurd (ma_some c1 (by rw [List.append_nil]; exact c2)) (h ms)
end Go.Gh
/-
  Labels: the walk of begins.
-/
namespace Go.Proofs.YtlfhcjhbnakamaaGreatDoor.Lab
open Go.RowKit Go.Gh
set_option linter.unusedVariables false
set_option linter.unusedSimpArgs false
theorem begins_any (a b : By) (w : World) : Calls Tryz.prog 60 #[.string (mkS a), .string (mkS b)] w fun e w' => e = .returned (.bool (b.isPrefixOf a)) ∧ w' = w := by
  have ha := mkS_size a
  have hb := mkS_size b
  have hx := mkS_ext a 0 b.length
  have hlb := mkS_list b
  have hpp : ∀ h : b.length ≤ a.length, ((mkS (a.take b.length)).toList == b) = b.isPrefixOf a := by
    intro h
    rw [mkS_list, Bool.eq_iff_iff, beq_iff_eq, List.isPrefixOf_iff_prefix]
    constructor
    · intro e; exact ⟨a.drop b.length, by conv => lhs; lhs; rw [← e]
                                          exact List.take_append_drop _ _⟩
    · rintro ⟨t, rfl⟩; rw [List.take_left]
  rw [Nat.sub_zero, List.drop_zero] at hx
  obtain ⟨F, hF⟩ : ∃ F, b.isPrefixOf a = F := ⟨_, rfl⟩
  rw [hF] at hpp ⊢
  by_cases hl : b.length ≤ a.length
  · have hq := hpp hl
    obtain ⟨X, hX⟩ : ∃ X, mkS (a.take b.length) = X := ⟨_, rfl⟩
    rw [hX] at hx hq
    obtain ⟨SA, hSA⟩ : ∃ X, mkS a = X := ⟨_, rfl⟩
    obtain ⟨SB, hSB⟩ : ∃ X, mkS b = X := ⟨_, rfl⟩
    rw [hSA] at ha hx ⊢
    rw [hSB] at hb hlb ⊢
    rw [← hlb] at hq
    obtain ⟨n, hn⟩ : ∃ n, a.length = n := ⟨_, rfl⟩
    obtain ⟨m, hm⟩ : ∃ n, b.length = n := ⟨_, rfl⟩
    rw [hn] at ha hl
    rw [hm] at hb hl hx
    have hli : (m : Int) ≤ (n : Int) := by omega
    clear hn hm hF hpp hX hSA hSB hlb
    go_enter Tryz.func60, Tryz.ntmps60
    go_wp2_with fail
    go_ret
    exact ⟨rfl, rfl⟩
  · have hF2 : F = false := by
      rw [← hF]
      cases h : b.isPrefixOf a with
      | false => rfl
      | true => exact absurd (List.isPrefixOf_iff_prefix.1 h).length_le hl
    subst hF2
    obtain ⟨SA, hSA⟩ : ∃ X, mkS a = X := ⟨_, rfl⟩
    obtain ⟨SB, hSB⟩ : ∃ X, mkS b = X := ⟨_, rfl⟩
    rw [hSA] at ha ⊢
    rw [hSB] at hb ⊢
    have hli : ¬ (SB.size : Int) ≤ (SA.size : Int) := by omega
    clear hx hlb hpp hF ha hb hSA hSB hl
    go_enter Tryz.func60, Tryz.ntmps60
    go_wp2_with fail
    go_ret
    exact ⟨by simp, rfl⟩
end Go.Proofs.YtlfhcjhbnakamaaGreatDoor.Lab
/-
  Labels that fit matches: the walk of FitsAll.
-/
namespace Go.Proofs.YtlfhcjhbnakamaaGreatDoor.Lab
open Go.RowKit Go.Gh
set_option linter.unusedVariables false
set_option linter.unusedSimpArgs false
def anyAt (v s : By) (k : Nat) : Bool := (List.range k).any fun i => s.isPrefixOf (v.drop i)
set_option maxHeartbeats 16000000 in
set_option maxRecDepth 100000 in
theorem fitsall_any (v u : Value) (L : List Lb) (M : List Mt) (w : World) (hs : Sp LbR 2 w v L) (ht : Sp MtR 3 w u M) (h0 : labelF L = 0) (h1 : matchF M = 0) : Calls Tryz.prog 31 #[v, u] w fun e w' => e = .returned (.bool (fitsB L M)) ∧ Below w.heap.size w w' := by
  obtain ⟨ao, c, rfl, -, -⟩ := hs.shape
  obtain ⟨p, hp⟩ : ∃ n, L.length = n := ⟨_, rfl⟩
  rw [hp] at hs ⊢
  obtain ⟨n, hn⟩ : ∃ n, M.length = n := ⟨_, rfl⟩
  obtain ⟨mo, mc, rfl, hnc, hmc⟩ := ht.shapeN hn
  have HS := Lib.hid hs
  have HT := Lib.hid ht
  have HN := Lib.hid hn
  have HLF := Lib.hid h0
  have HOK := Lib.hid (fun m (hm : m ∈ M) => ok_mem h1 hm)
  obtain ⟨R, hR⟩ : ∃ a, fitsB L M = a := ⟨_, rfl⟩
  rw [hR]
  have HR := Lib.hid hR
  clear hp hs ht hn hR h0 h1
  go_enter Tryz.func31, Tryz.ntmps31
  go_wp2_with fail
  go_loopw [12] (fun i wr => ∃ (k : Nat), k ≤ n ∧ i = .int .i64 k ∧ Hid ((M.take k).all (fitB L) = true) ∧ Below w.heap.size w wr) (fun i _ => n - (intOf i).toNat)
  case atStart => exact ⟨0, Nat.zero_le _, rfl, Lib.hid rfl, Below.refl _ _⟩
  case round =>
    obtain ⟨k, hk, rfl, HA, hbel⟩ := hrel
    obtain ⟨wB, rfl⟩ : ∃ x, x = wr := ⟨_, rfl⟩
    have hsz := hbel.size
    by_cases hlt : k < n
    case neg =>
      obtain rfl : k = n := by omega
      have HF : Hid (R = true) := Lib.hid (by
        have h := HA.out
        rw [List.take_of_length_le (by rw [HN.out]; exact Nat.le_refl _)] at h
        rw [← HR.out]
        exact h)
      go_wp2_with fail
      go_ret
      rw [HF.out]
      exact ⟨rfl, hbel⟩
    obtain ⟨x, hx⟩ : ∃ x, M[k]? = some x := ⟨_, List.getElem?_eq_getElem (by rw [HN.out]; exact hlt)⟩
    obtain ⟨o1, o2, o3, o4⟩ := HOK.out x (List.mem_of_getElem? hx)
    obtain ⟨b, off, cs, rfl, ⟨rfl, hl1, hl2, hl3, hl4⟩, _, hck⟩ := (HT.out.below mtR_mono hbel).get hx
    have c0 := hck 0 _ rfl
    have c1 := hck 1 _ rfl
    have c2 := hck 2 _ rfl
    rw [Nat.add_zero] at c0
    obtain ⟨F, hF⟩ : ∃ F, fitB L x = F := ⟨_, rfl⟩
    have HX := Lib.hid hx
    have HFF := Lib.hid hF
    have HVI := Lib.hid (fun W (hb : Below w.heap.size w W) => valuein_any _ L x.nm W (HS.out.below lbR_mono hb))
    rw [val_same HLF.out] at HVI
    unfold fitB at hF
    obtain ⟨vf, hvf⟩ : ∃ z, valF L x.nm = z := ⟨_, rfl⟩
    have hv40 : vf.length ≤ 40 := by rw [← hvf]; exact valF_len HLF.out _
    rw [hvf] at hF HVI
    have HEQ := Lib.hid (str_eq vf x.vl)
    have HBG := Lib.hid (fun W => begins_any vf x.vl W)
    have HBI := Lib.hid (fun i W => begins_any (vf.drop i) x.vl W)
    have HCT := Lib.hid (contains_upto vf x.vl)
    have HAN := Lib.hid (any_next vf x.vl)
    obtain ⟨xv, hxv⟩ : ∃ z, x.vl = z := ⟨_, rfl⟩
    rw [hxv] at hF HEQ HBG HBI HCT HAN c2
    have HX3 := Lib.hid (mkS_ext vf)
    have hvs := mkS_size vf
    obtain ⟨K, hK⟩ : ∃ z, x.kd = z := ⟨_, rfl⟩
    obtain ⟨Sn, hSn⟩ : ∃ z, mkS x.nm = z := ⟨_, rfl⟩
    obtain ⟨V, hV⟩ : ∃ z, mkS xv = z := ⟨_, rfl⟩
    obtain ⟨VF, hVF⟩ : ∃ z, mkS vf = z := ⟨_, rfl⟩
    rw [hSn, hVF] at HVI
    rw [hVF, hV] at HEQ HBG
    rw [hV] at HBI
    rw [hVF] at HX3 hvs
    rw [hK] at c0 hF o1 o2
    rw [hSn] at c1
    rw [hV] at c2
    obtain ⟨vn, hvn⟩ : ∃ z, VF.size = z := ⟨_, rfl⟩
    rw [hvn] at hvs
    have HF := Lib.hid hF
    have HVN := Lib.hid hvs
    have hvn40 : vn ≤ 40 := by omega
    clear hck hx hF hl1 hl2 hl3 hl4 hK hSn hV hVF hxv hvf o3 o4 hvs
    go_upto_region 4 with (fail)
    obtain ⟨wA, hwA⟩ : ∃ wA, wA = wB.alloc (Obj.cells #[.int .i64 K, .string Sn, .string V] 70) := ⟨_, rfl⟩
    have hbox : wA.heap[wB.heap.size]? = some (.cells #[.int .i64 K, .string Sn, .string V] 70 (0, 0)) := by rw [hwA]; exact heap_alloc_new wB _
    have hbA : Below w.heap.size w wA := by rw [hwA]; exact hbel.alloc hsz _
    rw [← hwA]
    obtain ⟨⟨d0, d1, d2⟩, -⟩ := bx3 hbox
    have HC := Lib.hid (HVI.out wA hbA)
    have HBA := Lib.hid hbA
    have hsG : wB.heap.size < wA.heap.size := (Array.getElem?_eq_some_iff.1 hbox).1
    generalize wB.heap.size = bx at *
    clear hwA hbA c0 c1 c2
    go_upto_region 5 with (go_at_call 61; refine HC.out.mono ?_; rintro e w3 ⟨rfl, hb3⟩; have hbox3 := (hb3.block bx hsG).trans hbox; have HB3 := Lib.hid (HBA.out.trans (hb3.mono HBA.out.size)); clear hb3 d0 d1 d2; obtain ⟨⟨d0, d1, d2⟩, -⟩ := bx3 hbox3)
    cases F with
    | true =>
      have HA2 := Lib.hid (fits_yes HA.out HX.out HFF.out)
      by_cases k1 : K = 1
      · subst k1
        have hf := HF.out
        rw [if_pos rfl] at hf
        have heq := HEQ.out
        rw [hf] at heq
        clear hf
        go_wp2_with fail
        go_roundw
        case rel => exact ⟨k + 1, by omega, by go_num, HA2, HB3.out⟩
        case measure => simp [intOf]; omega
      have b1 : (K == 1) = false := beq_eq_false_iff_ne.2 k1
      by_cases k2 : K = 2
      · subst k2
        have hf := HF.out
        rw [if_neg (by decide), if_pos rfl] at hf
        have heq := HEQ.out
        rw [show decide (vf = xv) = false by revert hf; cases decide (vf = xv) <;> simp] at heq
        clear hf k1
        go_wp2_with fail
        go_roundw
        case rel => exact ⟨k + 1, by omega, by go_num, HA2, HB3.out⟩
        case measure => simp [intOf]; omega
      have b2 : (K == 2) = false := beq_eq_false_iff_ne.2 k2
      by_cases k3 : K = 3
      · subst k3
        have hf := HF.out
        rw [if_neg (by decide), if_neg (by decide), if_pos rfl] at hf
        rw [hf] at HBG
        clear hf k1 k2
        go_wp2_with (go_at_call 60; refine (HBG.out _).mono ?_; rintro e w4 ⟨rfl, rfl⟩)
        go_roundw
        case rel => exact ⟨k + 1, by omega, by go_num, HA2, HB3.out⟩
        case measure => simp [intOf]; omega
      have b3 : (K == 3) = false := beq_eq_false_iff_ne.2 k3
      have hf := HF.out
      rw [if_neg k1, if_neg k2, if_neg k3, HCT.out, HVN.out.symm] at hf
      have HFA : Hid (anyAt vf xv (vn + 1) = true) := Lib.hid hf
      have HBX3 := Lib.hid hbox3
      clear hf k1 k2 k3 hbox3
      go_wp2_with fail
      clear d0 d1 d2
      go_loopw [8, 25] (fun u y wx => ∃ j : Nat, j ≤ vn + 1 ∧ y = .int .i64 j ∧ u = .bool (anyAt vf xv j) ∧ Hid (wx.heap[bx]? = some (.cells #[.int .i64 K, .string Sn, .string V] 70 (0, 0))) ∧ Hid (Below w.heap.size w wx)) (fun _ y _ => vn + 1 - (intOf y).toNat)
      case atStart => exact ⟨0, by omega, rfl, rfl, HBX3, HB3⟩
      case round =>
        obtain ⟨j, hj, rfl, rfl, HBJ, HBW⟩ := hrel
        obtain ⟨⟨d0, d1, d2⟩, -⟩ := bx3 HBJ.out
        by_cases hjl : j < vn + 1
        case neg =>
          obtain rfl : j = vn + 1 := by omega
          rw [HFA.out]
          have hji : ¬ ((vn : Int) + 1 < (vn : Int) + 1) := by omega
          go_wp2_with fail
          refine ⟨⟨k + 1, by omega, by go_num, HA2, HBW.out⟩, ?_⟩
          simp [intOf]
          omega
        have hjv : (j : Int) ≤ (vn : Int) := by omega
        have hjn : (j : Int) < (vn : Int) + 1 := by omega
        have HNX := Lib.hid (HAN.out j)
        obtain ⟨A, hA⟩ : ∃ A, anyAt vf xv j = A := ⟨_, rfl⟩
        have HAJ := Lib.hid hA
        rw [hA]
        clear hA
        cases A with
        | true =>
          have HU : Hid (anyAt vf xv (j + 1) = true) := Lib.hid (by
            have h1 := HNX.out
            have h2 := HAJ.out
            unfold anyAt at h2 ⊢
            rw [h1, h2]
            rfl)
          go_wp2_with fail
          go_quiet (fail)
          go_wp2_with fail
          go_roundw
          case rel => exact ⟨j + 1, by omega, by go_num, by rw [HU.out], HBJ, Lib.hid (below_drewN HBW.out _)⟩
          case measure => simp [intOf]; omega
        | false =>
          have hexj : VF.extract j vn = mkS (vf.drop j) := by rw [HX3.out, List.take_of_length_le (by rw [List.length_drop, HVN.out]; exact Nat.le_refl _)]
          have HBJI := Lib.hid (HBI.out j)
          obtain ⟨PC, hPC⟩ : ∃ z, mkS (vf.drop j) = z := ⟨_, rfl⟩
          rw [hPC] at hexj HBJI
          obtain ⟨C, hC⟩ : ∃ C, xv.isPrefixOf (vf.drop j) = C := ⟨_, rfl⟩
          rw [hC] at HBJI
          have HU : Hid (anyAt vf xv (j + 1) = C) := Lib.hid (by
            have h1 := HNX.out
            have h2 := HAJ.out
            unfold anyAt at h2 ⊢
            rw [h1, h2, hC]
            rfl)
          clear hPC hC
          go_wp2_with fail
          go_quiet ((go_at_call 60; refine Calls.quiet_of_same (HBJI.out _)))
          go_wp2_with fail
          go_roundw
          case rel => exact ⟨j + 1, by omega, by go_num, by rw [HU.out], HBJ, Lib.hid (below_drewN HBW.out _)⟩
          case measure => simp [intOf]; omega
    | false =>
      have HRF : Hid (R = false) := Lib.hid (by rw [← HR.out]; exact fits_no HX.out HFF.out)
      by_cases k1 : K = 1
      · subst k1
        have hf := HF.out
        rw [if_pos rfl] at hf
        have heq := HEQ.out
        rw [hf] at heq
        clear hf
        go_wp2_with fail
        go_ret
        rw [HRF.out]
        exact ⟨rfl, HB3.out⟩
      have b1 : (K == 1) = false := beq_eq_false_iff_ne.2 k1
      by_cases k2 : K = 2
      · subst k2
        have hf := HF.out
        rw [if_neg (by decide), if_pos rfl] at hf
        have heq := HEQ.out
        rw [show decide (vf = xv) = true by revert hf; cases decide (vf = xv) <;> simp] at heq
        clear hf k1
        go_wp2_with fail
        go_ret
        rw [HRF.out]
        exact ⟨rfl, HB3.out⟩
      have b2 : (K == 2) = false := beq_eq_false_iff_ne.2 k2
      by_cases k3 : K = 3
      · subst k3
        have hf := HF.out
        rw [if_neg (by decide), if_neg (by decide), if_pos rfl] at hf
        rw [hf] at HBG
        clear hf k1 k2
        go_wp2_with (go_at_call 60; refine (HBG.out _).mono ?_; rintro e w4 ⟨rfl, rfl⟩)
        go_ret
        rw [HRF.out]
        exact ⟨rfl, HB3.out⟩
      have b3 : (K == 3) = false := beq_eq_false_iff_ne.2 k3
      have hf := HF.out
      rw [if_neg k1, if_neg k2, if_neg k3, HCT.out, HVN.out.symm] at hf
      have HFA : Hid (anyAt vf xv (vn + 1) = false) := Lib.hid hf
      have HBX3 := Lib.hid hbox3
      clear hf k1 k2 k3 hbox3
      go_wp2_with fail
      clear d0 d1 d2
      go_loopw [8, 25] (fun u y wx => ∃ j : Nat, j ≤ vn + 1 ∧ y = .int .i64 j ∧ u = .bool (anyAt vf xv j) ∧ Hid (wx.heap[bx]? = some (.cells #[.int .i64 K, .string Sn, .string V] 70 (0, 0))) ∧ Hid (Below w.heap.size w wx)) (fun _ y _ => vn + 1 - (intOf y).toNat)
      case atStart => exact ⟨0, by omega, rfl, rfl, HBX3, HB3⟩
      case round =>
        obtain ⟨j, hj, rfl, rfl, HBJ, HBW⟩ := hrel
        obtain ⟨⟨d0, d1, d2⟩, -⟩ := bx3 HBJ.out
        by_cases hjl : j < vn + 1
        case neg =>
          obtain rfl : j = vn + 1 := by omega
          rw [HFA.out]
          have hji : ¬ ((vn : Int) + 1 < (vn : Int) + 1) := by omega
          go_wp2_with fail
          go_ret
          rw [HRF.out]
          exact ⟨rfl, HBW.out⟩
        have hjv : (j : Int) ≤ (vn : Int) := by omega
        have hjn : (j : Int) < (vn : Int) + 1 := by omega
        have HNX := Lib.hid (HAN.out j)
        obtain ⟨A, hA⟩ : ∃ A, anyAt vf xv j = A := ⟨_, rfl⟩
        have HAJ := Lib.hid hA
        rw [hA]
        clear hA
        cases A with
        | true =>
          have HU : Hid (anyAt vf xv (j + 1) = true) := Lib.hid (by
            have h1 := HNX.out
            have h2 := HAJ.out
            unfold anyAt at h2 ⊢
            rw [h1, h2]
            rfl)
          go_wp2_with fail
          go_quiet (fail)
          go_wp2_with fail
          go_roundw
          case rel => exact ⟨j + 1, by omega, by go_num, by rw [HU.out], HBJ, Lib.hid (below_drewN HBW.out _)⟩
          case measure => simp [intOf]; omega
        | false =>
          have hexj : VF.extract j vn = mkS (vf.drop j) := by rw [HX3.out, List.take_of_length_le (by rw [List.length_drop, HVN.out]; exact Nat.le_refl _)]
          have HBJI := Lib.hid (HBI.out j)
          obtain ⟨PC, hPC⟩ : ∃ z, mkS (vf.drop j) = z := ⟨_, rfl⟩
          rw [hPC] at hexj HBJI
          obtain ⟨C, hC⟩ : ∃ C, xv.isPrefixOf (vf.drop j) = C := ⟨_, rfl⟩
          rw [hC] at HBJI
          have HU : Hid (anyAt vf xv (j + 1) = C) := Lib.hid (by
            have h1 := HNX.out
            have h2 := HAJ.out
            unfold anyAt at h2 ⊢
            rw [h1, h2, hC]
            rfl)
          clear hPC hC
          go_wp2_with fail
          go_quiet ((go_at_call 60; refine Calls.quiet_of_same (HBJI.out _)))
          go_wp2_with fail
          go_roundw
          case rel => exact ⟨j + 1, by omega, by go_num, by rw [HU.out], HBJ, Lib.hid (below_drewN HBW.out _)⟩
          case measure => simp [intOf]; omega
end Go.Proofs.YtlfhcjhbnakamaaGreatDoor.Lab
