/-
  Tallies of what is heavy: the walks of find, slices.Clone, Empty, Count.
-/
import Derived.Test.YtcljeedmiobepaaHv4
namespace Go.Proofs.Ytcljeedmiobepaa.Hv
open Go.RowKit Go.Gh
set_option linter.unusedVariables false
theorem clone_ct (v : Value) (n : Nat) (xs : List Value) (w : World) (hv : Sl w 2 v n xs) (h1 : ∀ u ∈ xs, u.oneCell' = true) (hn : n ≤ 1000000000000) :
    Calls Try.prog 116 #[v] w fun e w' => ∃ v', e = .returned v' ∧ w'.ownsRow w.heap.size 175 2 v' n xs ∧ Below w.heap.size w w' := by
  obtain ⟨ao, c, rfl, hnc, hc, hlen⟩ := hv.shape
  have HN := Lib.hid hn
  clear hn
  cases ao with
  | none =>
    have hn0 : n = 0 := by
      obtain ⟨ao', cap, h1, h2, _, h4, _, h6⟩ := hv
      simp at h1
      have := h4 h1.1.symm
      omega
    subst hn0
    have hl : xs = [] := by simpa using hlen
    subst hl
    have he := Lib.run_eql_slice_nil (P := Try.prog) w 84 175 none 0 c 0 0 Try.underlying84
    go_enter Try.func116, Try.ntmps116
    go_wp2_with fail
    go_ret
    exact ⟨_, rfl, World.ownsRow_nil _ _ _ _, Below.refl _ _⟩
  | some a =>
    have he := Lib.run_eql_slice_nil (P := Try.prog) w 84 175 (some a) n c 0 0 Try.underlying84
    have ho := own_build (e := 175) (size := 2) (n := 0) w [] (Nat.le_refl _) rfl (by decide)
    have hs2 := hv.alloc (Obj.cells ([] : List Value).toArray 175)
    clear hlen
    go_enter Try.func116, Try.ntmps116
    go_wp2_with (at_builtin; refine appendS elCt rfl _ _ rfl ho ((Below.refl _ _).alloc (Nat.le_refl _) _) ?c1 rfl rfl hs2 h1 ?c2 ?c3 ?_)
    case c1 => simp
    case c2 => have := HN.out; omega
    case c3 => have := HN.out; omega
    intro v' w1 hown' hbel' _
    go_wp2
    go_ret
    exact ⟨v', rfl, by simpa using hown', hbel'⟩
theorem find_any (v : Value) (key : ByteArray) (L : List Ct) (w : World) (hs : Sp CtR 2 w v L) (hr : Ris L) (hk40 : key.size ≤ 40) (hn : L.length ≤ 1000000) :
    Calls Try.prog 117 #[v, .string key] w fun e w' => ∃ i : Nat, e = .returned (.tuple #[.int .i64 i, .bool (hitB L key i)]) ∧ AtH L key i ∧ Below w.heap.size w w' := by
  go_enter Try.func117, Try.ntmps117
  go_wp2_with fail
  refine (bsf_any v key L w hs hr hk40 hn).mono ?_
  rintro e w1 ⟨i, rfl, hat, hb⟩
  go_wp2_with fail
  go_ret2
  exact ⟨i, rfl, hat, hb⟩
def hv0 : Hv := ⟨0, [], 0, 0⟩
def emptyF (k : Int) : Hv × Int := if k < 1 ∨ 64 < k then (hv0, 1) else (⟨k, [], 0, 0⟩, 0)
/-- A tally and an error. -/
def HvPost (w : World) (r : Hv × Int) (e : Ending) (w' : World) : Prop := ∃ v', e = .returned (.tuple #[v', .int .i64 r.2]) ∧ HvV w' v' r.1 ∧ Below w.heap.size w w'
section
variable {w : World} {b : Nat} {T : TypeId} {a0 a1 a2 a3 : Value}
theorem bx4_store (x0 x1 x2 x3 : Value) (h : w.heap[b]? = some (.cells #[a0, a1, a2, a3] T (0, 0))) : ((((w.setCell ⟨b, 0, none⟩ x0).setCell ⟨b, 1, none⟩ x1).setCell ⟨b, 2, none⟩ x2).setCell ⟨b, 3, none⟩ x3).heap[b]? = some (.cells #[x0, x1, x2, x3] T (0, 0)) :=
  box_over (cs := [a0, a1, a2, a3]) (us := [x0, x1, x2, x3]) h rfl
theorem bx4_below {B : Nat} {w0 : World} (x0 x1 x2 x3 : Value) (hB : B ≤ b) (h : Below B w0 w) : Below B w0 ((((w.setCell ⟨b, 0, none⟩ x0).setCell ⟨b, 1, none⟩ x1).setCell ⟨b, 2, none⟩ x2).setCell ⟨b, 3, none⟩ x3) :=
  below_stores hB [x0, x1, x2, x3] w 0 h
end
theorem hvV_zero (w : World) : HvV w (.agg #[.int .i64 0, .slice none 0 0, .int .i64 0, .int .i64 0]) hv0 := ⟨_, rfl, Sp.nil⟩
set_option maxHeartbeats 4000000 in
set_option maxRecDepth 100000 in
theorem empty_any (k : Int) (w : World) : Calls Try.prog 49 #[.int .i64 k] w (HvPost w (emptyF k)) := by
  obtain ⟨wA, hwA⟩ : ∃ wA, wA = w.alloc (Obj.cells #[.int .i64 0, .slice none 0 0, .int .i64 0, .int .i64 0] 86) := ⟨_, rfl⟩
  have hb1 : Below w.heap.size w wA := by rw [hwA]; exact (Below.refl _ _).alloc (Nat.le_refl _) _
  have hbox : wA.heap[w.heap.size]? = some (.cells #[.int .i64 0, .slice none 0 0, .int .i64 0, .int .i64 0] 86 (0, 0)) := by rw [hwA]; exact heap_alloc_new w _
  obtain ⟨⟨q0, q1, q2, q3⟩, ⟨f0, f1, f2, f3⟩⟩ := bx4 hbox
  by_cases h1 : k < 1 ∨ 64 < k
  · have HE : Hid (emptyF k = (hv0, 1)) := Lib.hid (if_pos h1)
    have hst := bx4_store (.int .i64 0) (.slice none 0 0) (.int .i64 0) (.int .i64 0) hbox
    obtain ⟨⟨s0, s1, s2, s3⟩, -⟩ := bx4 hst
    have HB := Lib.hid (bx4_below (.int .i64 0) (.slice none 0 0) (.int .i64 0) (.int .i64 0) (Nat.le_refl _) hb1)
    have HW := Lib.hid hwA
    clear hbox hst hb1 hwA
    go_enter Try.func49, Try.ntmps49
    go_upto_region 1 with (fail)
    rw [← HW.out]
    rcases h1 with h1 | h1
    · go_wp2_with fail
      refine bodyPost_ret (v := .tuple #[.agg #[.int .i64 0, .slice none 0 0, .int .i64 0, .int .i64 0], .int .i64 1]) (by simp [results, Try.results49, go_sem, s0, s1, s2, s3]) rfl ?_
      show HvPost _ _ _ _
      rw [HE.out]
      exact ⟨_, rfl, hvV_zero _, HB.out⟩
    · have h2 : ¬ k < 1 := by omega
      go_wp2_with fail
      refine bodyPost_ret (v := .tuple #[.agg #[.int .i64 0, .slice none 0 0, .int .i64 0, .int .i64 0], .int .i64 1]) (by simp [results, Try.results49, go_sem, s0, s1, s2, s3]) rfl ?_
      show HvPost _ _ _ _
      rw [HE.out]
      exact ⟨_, rfl, hvV_zero _, HB.out⟩
  · have HE : Hid (emptyF k = (⟨k, [], 0, 0⟩, 0)) := Lib.hid (if_neg h1)
    have hst := bx4_store (.int .i64 k) (.slice none 0 0) (.int .i64 0) (.int .i64 0) hbox
    obtain ⟨⟨s0, s1, s2, s3⟩, -⟩ := bx4 hst
    have HB := Lib.hid (bx4_below (.int .i64 k) (.slice none 0 0) (.int .i64 0) (.int .i64 0) (Nat.le_refl _) hb1)
    have HW := Lib.hid hwA
    have h2 : ¬ k < 1 := by omega
    have h3 : ¬ 64 < k := by omega
    clear hbox hst hb1 hwA h1
    go_enter Try.func49, Try.ntmps49
    go_upto_region 1 with (fail)
    rw [← HW.out]
    go_wp2_with fail
    refine bodyPost_ret (v := .tuple #[.agg #[.int .i64 k, .slice none 0 0, .int .i64 0, .int .i64 0], .int .i64 0]) (by simp [results, Try.results49, go_sem, s0, s1, s2, s3]) rfl ?_
    show HvPost _ _ _ _
    rw [HE.out]
    exact ⟨_, rfl, ⟨_, rfl, Sp.nil⟩, HB.out⟩
open Classical in
noncomputable def countR (s : Hv) (key : ByteArray) : Int × Int := if heavyF s = 0 then if 40 < key.size then (0, 2) else (cntIn key s.l, 0) else (0, heavyF s)
theorem heavy_ok {s : Hv} (h : heavyF s = 0) : wellH s := by
  unfold heavyF at h
  by_cases hw : wellH s
  · exact hw
  · rw [if_neg hw] at h
    exact absurd h (by decide)
theorem well_len {s : Hv} (h : wellH s) : s.l.length ≤ 64 := by
  have := headH_ok.1 h.1
  omega
set_option maxHeartbeats 4000000 in
set_option maxRecDepth 100000 in
theorem count_any (v : Value) (s : Hv) (key : ByteArray) (w : World) (hv : HvV w v s) :
    Calls Try.prog 51 #[v, .string key] w fun e w' => e = .returned (.tuple #[.int .i64 (countR s key).1, .int .i64 (countR s key).2]) ∧ Below w.heap.size w w' := by
  have HV := Lib.hid hv
  obtain ⟨t, rfl, hs⟩ := hv
  obtain ⟨ao, c, rfl, hnc, hc⟩ := hs.shape
  obtain ⟨m, hm⟩ : ∃ m, s.l.length = m := ⟨_, rfl⟩
  rw [hm] at hs hnc HV ⊢
  have HM := Lib.hid hm
  have HS := Lib.hid hs
  clear hm hs
  go_enter Try.func51, Try.ntmps51
  go_upto_region 1 with (fail)
  obtain ⟨wA, hwA⟩ : ∃ wA, wA = w.alloc (Obj.cells #[.int .i64 s.k, .slice ao m c, .int .i64 s.n, .int .i64 s.off] 86) := ⟨_, rfl⟩
  have hbox : wA.heap[w.heap.size]? = some (.cells #[.int .i64 s.k, .slice ao m c, .int .i64 s.n, .int .i64 s.off] 86 (0, 0)) := by rw [hwA]; exact heap_alloc_new w _
  have hbA : Below w.heap.size w wA := by rw [hwA]; exact (Below.refl _ _).alloc (Nat.le_refl _) _
  rw [← hwA]
  have HBA := Lib.hid hbA
  obtain ⟨⟨d0, d1, d2, d3⟩, -⟩ := bx4 hbox
  obtain ⟨bx, hbx⟩ : ∃ bx, w.heap.size = bx := ⟨_, rfl⟩
  rw [hbx] at d0 d1 d2 d3 ⊢
  have HBD : Hid (∀ W, Below wA.heap.size wA W → W.cell? ⟨bx, 1, none⟩ = some (.slice ao m c)) := Lib.hid (fun W h => (h.cell (p := ⟨bx, 1, none⟩) (cell_lt d0)).trans d1)
  have hva := HV.out.below hbA
  obtain ⟨E, hE⟩ : ∃ E, heavyF s = E := ⟨_, rfl⟩
  have HE := Lib.hid hE
  clear hwA hbox hbA hbx hE
  go_wp2_with fail
  refine (hvcheck_any _ s _ hva).mono ?_
  rw [HE.out]
  rintro e w1 ⟨rfl, hb1⟩
  have HB1 := Lib.hid (HBA.out.trans (hb1.mono HBA.out.size))
  clear d0 d1 d2 d3 hva
  have d1 := HBD.out _ hb1
  clear hb1
  by_cases hz : E = 0
  case neg =>
    have t1 : (E != 0) = true := by rw [bne_iff_ne]; exact hz
    have HR : Hid (countR s key = (0, E)) := Lib.hid (by unfold countR; rw [HE.out, if_neg hz])
    clear hz
    go_wp2_with fail
    go_ret2
    exact ⟨by rw [HR.out]; rfl, HB1.out⟩
  subst hz
  have t1 : ((0 : Int) != 0) = false := rfl
  have hok := heavy_ok HE.out
  have hlen := well_len hok
  by_cases hbig : 40 < key.size
  · have HR : Hid (countR s key = (0, 2)) := Lib.hid (by unfold countR; rw [HE.out, if_pos rfl, if_pos hbig])
    clear hok hlen
    go_wp2_with fail
    go_ret2
    exact ⟨by rw [HR.out]; rfl, HB1.out⟩
  have HR : Hid (countR s key = (cntIn key s.l, 0)) := Lib.hid (by unfold countR; rw [HE.out, if_pos rfl, if_neg hbig])
  have hris := ris_of hok.2.1
  have HRIS := Lib.hid hris
  have hS1 := HS.out.below ctR_mono HB1.out
  clear hok hris
  go_wp2_with fail
  refine (find_any _ key s.l _ hS1 HRIS.out (by omega) (by omega)).mono ?_
  rintro e w2 ⟨i, rfl, hat, hb2⟩
  have HAT := Lib.hid hat
  have HB2 := Lib.hid (HB1.out.trans (hb2.mono HB1.out.size))
  have HS2 := Lib.hid (HS.out.below ctR_mono HB2.out)
  have e1 := (hb2.cell (p := ⟨bx, 1, none⟩) (cell_lt d1)).trans d1
  obtain ⟨D, hD⟩ : ∃ D, hitB s.l key i = D := ⟨_, rfl⟩
  rw [hD]
  have HD := Lib.hid hD
  clear hat hb2 d1 hS1 hD
  cases D with
  | false =>
    have HC : Hid (cntIn key s.l = 0) := Lib.hid (cntIn_none HRIS.out HAT.out HD.out)
    go_wp2_with fail
    go_ret2
    exact ⟨by rw [HR.out, HC.out]; rfl, HB2.out⟩
  | true =>
    have hil : i < m := by
      rcases Nat.lt_or_ge i m with h | h
      · exact h
      · have := hitB_none (key := key) (show s.l.length ≤ i by rw [HM.out]; exact h)
        rw [HD.out] at this
        simp at this
    obtain ⟨x, hx⟩ : ∃ x, s.l[i]? = some x := ⟨_, List.getElem?_eq_getElem (by rw [HM.out]; exact hil)⟩
    have hh := HD.out
    rw [hitB_some hx] at hh
    have HC : Hid (cntIn key s.l = x.n) := Lib.hid (cntIn_at HAT.out hx (of_decide_eq_true hh))
    obtain ⟨b, off, cs, rfl, rfl, _, hck⟩ := HS2.out.get hx
    have c1 := hck 1 _ rfl
    clear hck hh hx
    go_wp2_with fail
    go_ret2
    exact ⟨by rw [HR.out, HC.out]; rfl, HB2.out⟩
end Go.Proofs.Ytcljeedmiobepaa.Hv
