/-
  The walks of told, Swap, slices.Equal at []Seen.
-/
import Derived.Test.YtcljeedmiobepaaGos2
import Derived.Test.YtcljeedmiobepaaMixEq
namespace Go.Proofs.Ytcljeedmiobepaa.Gos
open Go.RowKit Go.Gh Go.Proofs.Ytcljeedmiobepaa.Nod
set_option linter.unusedVariables false
theorem told_any (v u : Value) (a b : List Cl) (w : World) (hs : Sp ClR 4 w v a) (ht : Sp ClR 4 w u b) (ha : claimsF a = 0) (hb : claimsF b = 0) (h64 : Cl64s a) (hl : ¬ 20 < (mrgC a b).length) :
    Calls Try.prog 109 #[v, u] w fun e w' => ∃ v', e = .returned v' ∧ Ow (ClB 27 w.heap.size) 4 27 w.heap.size w' v' (mrgC a b) ∧ Below w.heap.size w w' := by
  have h1 : clDigest a = (digF a, 0) := by unfold clDigest; rw [if_pos ha]
  have h2 : clDelta b (digF a) = (deltaF b (digF a), 0) := by unfold clDelta; rw [if_pos hb, if_pos (dig_seen ha)]
  have h3 : clMerge a (deltaF b (digF a)) = (mrgC a b, 0) := by
    unfold clMerge
    rw [if_pos ha, if_pos (show claimsF (deltaF b (digF a)) = 0 from claims_filter _ hb), told_eq ha hb, if_neg hl]
  have H1 := Lib.hid h1
  have H2 := Lib.hid h2
  have H3 := Lib.hid h3
  have HS := Lib.hid hs
  have HT := Lib.hid ht
  have H64 := Lib.hid h64
  obtain ⟨ao, c, rfl, -, -⟩ := hs.shape
  obtain ⟨bo, d, rfl, -, -⟩ := ht.shape
  clear h1 h2 h3 hs ht h64 hl ha hb
  go_enter Try.func109, Try.ntmps109
  go_wp2_with fail
  refine (digest_any _ a _ HS.out H64.out).mono ?_
  rw [H1.out]
  rintro e w1 ⟨va, rfl, HO1, hb1⟩
  have HB1 := Lib.hid hb1
  have HOW1 := Lib.hid HO1
  obtain ⟨xo, xc, rfl, -, -⟩ := HO1.shape
  clear hb1 HO1
  go_wp2_with fail
  refine (delta_any _ _ b (digF a) _ (HT.out.below clR_mono HB1.out) HOW1.out.sp).mono ?_
  rw [H2.out]
  rintro e w2 ⟨vb, rfl, HO2, hb2⟩
  have HB2 := Lib.hid (HB1.out.trans (hb2.mono HB1.out.size))
  have HOW2 := Lib.hid HO2
  obtain ⟨yo, yc, rfl, -, -⟩ := HO2.shape
  clear hb2 HO2
  go_wp2_with fail
  refine (clmerge_any _ _ a (deltaF b (digF a)) _ (HS.out.below clR_mono HB2.out) (Sp.weaken HOW2.out.sp (fun a c h => clB_clR a c h))).mono ?_
  rw [H3.out]
  rintro e w3 ⟨vc, rfl, HO3, hb3⟩
  have HB3 := Lib.hid (HB2.out.trans (hb3.mono HB2.out.size))
  have hsz := HB2.out.size
  have HOW3 : Hid (Ow (ClB 27 w.heap.size) 4 27 w.heap.size w3 vc (mrgC a b)) := Lib.hid (HO3.mono hsz)
  obtain ⟨zo, zc, rfl, -, -⟩ := HO3.shape
  clear hb3 HO3
  go_wp2_with fail
  go_ret
  exact ⟨_, rfl, HOW3.out, HB3.out⟩
def SwPost (w : World) (a b : List Cl) (e : Ending) (w' : World) : Prop :=
  Below w.heap.size w w' ∧ (((clMerge a b).2 ≠ 0 ∧ e = .returned (.tuple #[.slice none 0 0, .slice none 0 0, .int .i64 (clMerge a b).2])) ∨
    (clMerge a b = (mrgC a b, 0) ∧ ∃ va vb, e = .returned (.tuple #[va, vb, .int .i64 0]) ∧ Ow (ClB 27 w.heap.size) 4 27 w.heap.size w' va (mrgC a b) ∧ Ow (ClB 27 w.heap.size) 4 27 w.heap.size w' vb (mrgC a b)))
theorem merge_ok {a b : List Cl} (h : (clMerge a b).2 = 0) : claimsF a = 0 ∧ claimsF b = 0 ∧ ¬ 20 < (mrgC a b).length ∧ clMerge a b = (mrgC a b, 0) := by
  unfold clMerge at h ⊢
  by_cases h1 : claimsF a = 0
  · rw [if_pos h1] at h ⊢
    by_cases h2 : claimsF b = 0
    · rw [if_pos h2] at h ⊢
      by_cases h3 : 20 < (mrgC a b).length
      · rw [if_pos h3] at h
        exact absurd h (by decide)
      · rw [if_neg h3]
        exact ⟨h1, h2, h3, rfl⟩
    · rw [if_neg h2] at h
      exact absurd h h2
  · rw [if_neg h1] at h
    exact absurd h h1
set_option maxHeartbeats 4000000 in
theorem swap_any (v u : Value) (a b : List Cl) (w : World) (hs : Sp ClR 4 w v a) (ht : Sp ClR 4 w u b) (h64 : Cl64s a) (k64 : Cl64s b) :
    Calls Try.prog 26 #[v, u] w (SwPost w a b) := by
  have HS := Lib.hid hs
  have HT := Lib.hid ht
  have H64 := Lib.hid h64
  have K64 := Lib.hid k64
  obtain ⟨ao, c, rfl, -, -⟩ := hs.shape
  obtain ⟨bo, d, rfl, -, -⟩ := ht.shape
  obtain ⟨R, hR⟩ : ∃ R, clMerge a b = R := ⟨_, rfl⟩
  obtain ⟨m1, e1⟩ := R
  have HR := Lib.hid hR
  clear hs ht h64 k64 hR
  go_enter Try.func26, Try.ntmps26
  go_wp2_with fail
  refine (clmerge_any _ _ a b _ HS.out HT.out).mono ?_
  rw [HR.out]
  rintro e w1 ⟨va, rfl, HO1, hb1⟩
  have HB1 := Lib.hid hb1
  obtain ⟨xo, xc, rfl, -, -⟩ := HO1.shape
  clear hb1 HO1
  by_cases hz : e1 = 0
  case neg =>
    have t1 : (e1 != 0) = true := by rw [bne_iff_ne]; exact hz
    have HF : Hid ((clMerge a b).2 ≠ 0) := Lib.hid (by rw [HR.out]; exact hz)
    have HF2 : Hid ((clMerge a b).2 = e1) := Lib.hid (by rw [HR.out])
    clear hz
    go_wp2_with fail
    go_ret3
    exact ⟨HB1.out, Or.inl ⟨HF.out, by rw [HF2.out]; rfl⟩⟩
  subst hz
  have hok := merge_ok (a := a) (b := b) (by rw [HR.out])
  have HOK := Lib.hid hok
  have HOK2 : Hid (¬ 20 < (mrgC b a).length) := Lib.hid (by rw [← mrgC_comm hok.1 hok.2.1]; exact hok.2.2.1)
  have t1 : ((0 : Int) != 0) = false := rfl
  clear hok
  go_wp2_with fail
  refine (told_any _ _ a b _ (HS.out.below clR_mono HB1.out) (HT.out.below clR_mono HB1.out) HOK.out.1 HOK.out.2.1 H64.out HOK.out.2.2.1).mono ?_
  rintro e w2 ⟨vb, rfl, HO2, hb2⟩
  have HB2 := Lib.hid (HB1.out.trans (hb2.mono HB1.out.size))
  have HOW2 := Lib.hid (HO2.mono HB1.out.size)
  obtain ⟨yo, yc, rfl, -, -⟩ := HO2.shape
  clear hb2 HO2
  go_wp2_with fail
  refine (told_any _ _ b a _ (HT.out.below clR_mono HB2.out) (HS.out.below clR_mono HB2.out) HOK.out.2.1 HOK.out.1 K64.out HOK2.out).mono ?_
  rintro e w3 ⟨vc, rfl, HO3, hb3⟩
  have HB3 := Lib.hid (HB2.out.trans (hb3.mono HB2.out.size))
  have HOW3 := Lib.hid (HO3.mono HB2.out.size)
  have HOW23 := Lib.hid (HOW2.out.below clB_mono hb3)
  obtain ⟨zo, zc, rfl, -, -⟩ := HO3.shape
  clear hb3 HO3
  go_wp2_with fail
  go_ret3
  exact ⟨HB3.out, Or.inr ⟨HOK.out.2.2.2, _, _, rfl, HOW23.out, by rw [mrgC_comm HOK.out.1 HOK.out.2.1]; exact HOW3.out⟩⟩
theorem mixSn : mixed Try.prog 47 2 = true := by kernel_rfl
theorem fSn0 : fieldDesc Try.prog 47 0 = some .string := by kernel_rfl
theorem fSn1 : fieldDesc Try.prog 47 1 = some (.int .i64) := by kernel_rfl
theorem rowSn (s : ByteArray) (z : Int) : rowOk Try.prog 47 [.string s, .int .i64 z] := by
  intro i v hv
  match i, hv with
  | 0, hv =>
    obtain rfl : v = .string s := by simpa using hv.symm
    rw [fSn0]; exact trivial
  | 1, hv =>
    obtain rfl : v = .int .i64 z := by simpa using hv.symm
    rw [fSn1]; exact rfl
  | i + 2, hv => simp at hv
theorem eqSn (s : ByteArray) (z : Int) : eqCells [.string s, .int .i64 z] [.string s, .int .i64 z] = true := by simp [eqCells, eqCell]
set_option maxHeartbeats 2000000 in
set_option maxRecDepth 100000 in
theorem eqseen_any (v u : Value) (L : List Sn) (w : World) (hs : Sp SnR 2 w v L) (ht : Sp SnR 2 w u L) :
    Calls Try.prog 27 #[v, u] w fun e w' => e = .returned (.bool true) ∧ Below w.heap.size w w' := by
  obtain ⟨ao, c, rfl, hnc, hc⟩ := hs.shape
  obtain ⟨bo, d, rfl, hod, hd⟩ := ht.shape
  obtain ⟨n, hn⟩ : ∃ n, L.length = n := ⟨_, rfl⟩
  rw [hn] at hs ht hnc hod ⊢
  have HN := Lib.hid hn
  have HS := Lib.hid hs
  have HT := Lib.hid ht
  clear hn hs ht
  go_enter Try.func27, Try.ntmps27
  go_wp2_with fail
  go_loopw [13] (fun i wr => ∃ k : Nat, k ≤ n ∧ i = .int .i64 k ∧ Below w.heap.size w wr) (fun i _ => n - (intOf i).toNat)
  case atStart => exact ⟨0, by omega, rfl, Below.refl _ _⟩
  case round =>
    obtain ⟨k, hk, rfl, hbr⟩ := hrel
    by_cases hlt : k < n
    · obtain ⟨x, hx⟩ : ∃ x, L[k]? = some x := ⟨_, List.getElem?_eq_getElem (by rw [HN.out]; exact hlt)⟩
      obtain ⟨b, off, cs, rfl, ⟨rfl, _⟩, _, hck⟩ := (HS.out.below snR_mono hbr).get hx
      obtain ⟨b', off', cs', rfl, ⟨rfl, _⟩, _, hck'⟩ := (HT.out.below snR_mono hbr).get hx
      have c0 := hck 0 _ rfl
      have c1 := hck 1 _ rfl
      have d0 := hck' 0 _ rfl
      have d1 := hck' 1 _ rfl
      rw [Nat.add_zero] at c0 d0
      clear hck hck' hx
      go_wp2_with fail
      refine wp_region_quiet_lit (by kernel_rfl) (by kernel_rfl) ?_
      repeat (go_big_quiet_step (fail))
      refine wpQuiet_nil ?_
      rintro _ ⟨nq, rfl⟩
      go_wp2
      go_roundw
      case rel => exact ⟨k + 1, by omega, by go_num, below_drewN hbr _⟩
      case measure => simp [intOf]; omega
    · obtain rfl : k = n := by omega
      go_wp2_with fail
      go_ret
      exact ⟨rfl, hbr⟩
end Go.Proofs.Ytcljeedmiobepaa.Gos
