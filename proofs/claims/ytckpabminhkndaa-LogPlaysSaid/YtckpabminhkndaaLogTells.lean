/-
  The walk of the law LogTells.
-/
import Derived.Test.YtckpabminhkndaaLog4
namespace Go.Proofs.Ytckpabminhkndaa.LogTells
open Go.RowKit Go.Gh Go.WideShapes Go.Proofs.Ytckpabminhkndaa.Bits Go.Proofs.Ytckpabminhkndaa.Log
set_option linter.unusedVariables false
theorem sl_at {w : World} {v : Value} {n : Nat} {xs : List Value} (h : Sl w 1 v n xs) {i : Nat} (hi : i < n) : ∃ b off c x, v = .slice (some ⟨b, off, none⟩) n c ∧ xs[i]? = some x ∧ w.cell? ⟨b, off + i, none⟩ = some x := by
  obtain ⟨ao, cap, rfl, h2, h3, h4, h5, h6⟩ := h
  obtain ⟨b, off, rfl, hc⟩ := h6 (by omega)
  obtain ⟨x, hx⟩ : ∃ x, xs[i]? = some x := ⟨_, List.getElem?_eq_getElem (by omega)⟩
  exact ⟨b, off, cap, x, rfl, hx, hc i x hx⟩
set_option maxRecDepth 100000 in
theorem eqf_any (u u' : Value) (m base base' : Nat) (vs vs' : List Value) (L : List (List Int)) (w : World) (hu : Sl w 1 u m vs) (hu' : Sl w 1 u' m vs') (hr : RowsT w base vs L) (hr' : RowsT w base' vs' L) :
    Calls Try.prog 38 #[u, u', .func (.func 13) #[] #[]] w fun e w' => e = .returned (.bool true) ∧ w = w' := by
  obtain ⟨ao, c, rfl, hnc, hc, _⟩ := hu.shape
  obtain ⟨bo, d, rfl, hod, hd, _⟩ := hu'.shape
  have HU := Lib.hid hu
  have HU' := Lib.hid hu'
  have HR := Lib.hid hr
  have HR' := Lib.hid hr'
  have t1 : ((m : Int) != (m : Int)) = false := by simp
  clear hu hu' hr hr'
  go_enter Try.func38, Try.ntmps38
  go_wp2_with fail
  go_loop [7, 8, 9, 17] (fun _ _ _ i => ∃ k : Nat, k ≤ m ∧ i = .int .i64 k) (fun _ _ _ i => m - (intOf i).toNat)
  case atStart => exact ⟨0, by omega, rfl⟩
  case round =>
    obtain ⟨k, hk, rfl⟩ := hrel
    by_cases hlt : k < m
    · obtain ⟨b, off, c', x, he, hx, hcx⟩ := sl_at HU.out hlt
      obtain ⟨rfl, rfl⟩ : ao = some ⟨b, off, none⟩ ∧ c = c' := by simpa using he
      obtain ⟨b2, off2, d', y, he2, hy, hcy⟩ := sl_at HU'.out hlt
      obtain ⟨rfl, rfl⟩ : bo = some ⟨b2, off2, none⟩ ∧ d = d' := by simpa using he2
      obtain ⟨h1, h2, _⟩ := HR.out.2 k x hx
      obtain ⟨h3, h4, _⟩ := HR'.out.2 k y hy
      have HE := equal_any x y _ _ _ _ w h1 h3 (bytesL_wf h2) (bytesL_wf h4)
      rw [show decide (L.getD k [] = L.getD k []) = true from by simp] at HE
      have HEE := Lib.hid HE
      clear HE h1 h2 h3 h4 he he2 hx hy
      go_wp2_with fail
      refine HEE.out.mono ?_
      rintro e w' ⟨rfl, rfl⟩
      go_wp2_with fail
      go_round
      case rel => exact ⟨k + 1, by omega, by go_num⟩
      case measure => simp [intOf]; omega
    · obtain rfl : k = m := by omega
      go_wp2_with fail
      go_ret
      exact ⟨rfl, rfl⟩
theorem sameb_any (u u' : Value) (m base base' : Nat) (vs vs' : List Value) (L : List (List Int)) (w : World) (hu : Sl w 1 u m vs) (hu' : Sl w 1 u' m vs') (hr : RowsT w base vs L) (hr' : RowsT w base' vs' L) :
    Calls Try.prog 24 #[u, u'] w fun e w' => e = .returned (.bool true) ∧ w = w' := by
  go_enter Try.func24, Try.ntmps24
  go_wp2_with fail
  refine (eqf_any u u' m base base' vs vs' L _ hu hu' hr hr').mono ?_
  rintro e w' ⟨rfl, rfl⟩
  go_wp2_with fail
  go_ret
  exact ⟨rfl, rfl⟩
theorem bytes_wfL {l : List Int} (h : ∀ z ∈ l, (Lit.int .u8 z).wf = true) : BytesL l := by
  intro z hz
  have := h z hz
  simp [Lit.wf, IntKind.min, IntKind.max, IntKind.signed, IntKind.bits] at this
  omega
set_option maxHeartbeats 4000000 in
set_option maxRecDepth 100000 in
theorem walk (v0 v1 : Value) (w : World) (h0 : IsInts .u8 w v0) (h1 : IsInts .u8 w v1) :
    Calls Try.prog 5 #[v0, v1] w fun e w' => e = .returned (.bool true) ∧ Below w.heap.size w w' := by
  obtain ⟨n, l, hs, hwf, hn⟩ := h0
  obtain ⟨m, b, ht, hwf', hm⟩ := h1
  obtain ⟨ao, c, rfl, hnc, hc, hll⟩ := hs.shape
  obtain ⟨bo, d, rfl, hod, hd, hlm⟩ := ht.shape
  have hll : l.length = n := by simpa using hll
  have hlm : b.length = m := by simpa using hlm
  have HS := Lib.hid hs
  have HT := Lib.hid ht
  have HB := Lib.hid (bytes_wfL hwf)
  have HB' := Lib.hid (bytes_wfL hwf')
  have HL := Lib.hid hll
  have HL' := Lib.hid hlm
  clear hs ht hwf hwf' hll hlm
  by_cases hbig : 2001 < n
  · go_enter Try.func5, Try.ntmps5
    go_wp2_with fail
    go_ret
    exact ⟨rfl, Below.refl _ _⟩
  by_cases hbig2 : 2001 < m
  · go_enter Try.func5, Try.ntmps5
    go_wp2_with fail
    go_ret
    exact ⟨rfl, Below.refl _ _⟩
  obtain ⟨R, hR⟩ : ∃ R, cutF (b.length + 1) b = R := ⟨_, rfl⟩
  have HR := Lib.hid hR
  have tk : ((R.2 : Int) != (R.2 : Int)) = false := by simp
  clear hR
  by_cases h2000 : 2000 < n
  · go_enter Try.func5, Try.ntmps5
    go_wp2_with fail
    refine (frame_large _ n l _ HS.out h2000).mono ?_
    rintro e w1 ⟨rfl, rfl⟩
    go_wp2_with fail
    refine (cut_any _ m b _ HT.out HL'.out HB'.out (by omega)).mono ?_
    rintro e w2 ⟨u, vs, rfl, hu, hr, hb2⟩
    rw [HR.out] at hu hr ⊢
    go_wp2_with fail
    refine (frames_any _ m b _ (HT.out.below hb2) HL'.out HB'.out (by omega)).mono ?_
    rintro e w3 ⟨u', vs', rfl, hu', hr', hb3⟩
    rw [HR.out] at hu' hr' ⊢
    have hfin := hb2.trans (hb3.mono hb2.size)
    have HSB := Lib.hid (sameb_any u u' _ _ _ vs vs' _ w3 (hu.below hb3) hu' (hr.below hb3) hr')
    clear hu hu' hr hr'
    go_wp2_with fail
    refine HSB.out.mono ?_
    rintro e w4 ⟨rfl, rfl⟩
    go_wp2_with fail
    go_ret
    exact ⟨rfl, hfin⟩
  · have hn2 : n ≤ 2000 := by omega
    go_enter Try.func5, Try.ntmps5
    go_wp2_with fail
    refine (frame_any _ n l _ HS.out HL.out HB.out hn2).mono ?_
    rintro e w1 ⟨fv, rfl, hown1, hb1⟩
    have HF1 := Lib.hid (own_sl hown1)
    clear hown1
    go_wp2_with fail
    refine (cut_any _ m b _ (HT.out.below hb1) HL'.out HB'.out (by omega)).mono ?_
    rintro e w2 ⟨u, vs, rfl, hu, hr, hb2⟩
    rw [HR.out] at hu hr ⊢
    have hb12 := hb1.trans (hb2.mono hb1.size)
    go_wp2_with fail
    refine (frames_any _ m b _ (HT.out.below hb12) HL'.out HB'.out (by omega)).mono ?_
    rintro e w3 ⟨u', vs', rfl, hu', hr', hb3⟩
    rw [HR.out] at hu' hr' ⊢
    have hb13 := hb12.trans (hb3.mono hb12.size)
    have HSB := Lib.hid (sameb_any u u' _ _ _ vs vs' _ w3 (hu.below hb3) hu' (hr.below hb3) hr')
    have HF3 := Lib.hid ((HF1.out.below hb2).below hb3)
    clear hu hu' hr hr'
    go_wp2_with fail
    refine HSB.out.mono ?_
    rintro e w4 ⟨rfl, rfl⟩
    go_wp2_with fail
    refine (framed_any _ n l _ (HS.out.below hb13) HL.out HB.out hn2).mono ?_
    rintro e w5 ⟨gv, rfl, hown5, hb5⟩
    have hfin := hb13.trans (hb5.mono hb13.size)
    have hbf : ∀ z ∈ frm l, (Lit.int .u8 z).wf = true := by
      apply bytesL_wf
      unfold frm
      exact bytesL_append (bytesL_append (fun z hz => by have := putI_wf 9 (l.length : Int) (by omega) (lt_fuel (by have := HL.out; omega)) z hz; simp [Lit.wf, IntKind.min, IntKind.max, IntKind.signed, IntKind.bits] at this; omega) HB.out) (h8_bytes _)
    have HE := equal_any fv gv _ _ _ _ w5 (HF3.out.below hb5) (own_sl hown5) hbf hbf
    rw [show decide (frm l = frm l) = true from by simp] at HE
    have HEE := Lib.hid HE
    clear HE hown5 hbf
    go_wp2_with fail
    refine HEE.out.mono ?_
    rintro e w6 ⟨rfl, rfl⟩
    go_wp2_with fail
    go_ret
    exact ⟨rfl, hfin⟩
end Go.Proofs.Ytckpabminhkndaa.LogTells
