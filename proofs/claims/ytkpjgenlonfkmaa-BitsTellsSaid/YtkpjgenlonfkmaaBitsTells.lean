/-
  The walk of the law BitsTells.
-/
import Derived.Test.YtkpjgenlonfkmaaBits2
namespace Go.Proofs.Ytkpjgenlonfkmaa.BitsTells
open Go.RowKit Go.Gh Go.Proofs.Ytkpjgenlonfkmaa.Bits
set_option linter.unusedVariables false
theorem walk (v0 v1 v2 : Value) (w : World) (h0 : IsInt .i64 w v0) (h1 : IsInt .u64 w v1) (h2 : IsInts .u8 w v2) :
    Calls Try.prog 4 #[v0, v1, v2] w fun e w' => e = .returned (.bool true) ∧ Below w.heap.size w w' := by
  obtain ⟨a, rfl, ha⟩ := h0
  obtain ⟨u, rfl, hu⟩ := h1
  obtain ⟨n, l, hv, hl⟩ := h2
  have hb := wf_u64 hu
  have hb2 := wf_i64 ha
  have he : (zigI a == zigI a) = true := by simp
  have he2 : (zagI u == zagI u) = true := by simp
  have hp := Lib.hid (putI_wf 9 u hb.1 (lt_fuel hb.2))
  generalize hr : takeS 0 0 l = r
  have Hr := Lib.hid hr
  clear hr
  have q1 : (r.1 == r.1) = true := by simp
  have q2 : (r.2.1 == r.2.1) = true := by simp
  have q3 : (r.2.2 == r.2.2) = true := by simp
  go_enter Try.func4, Try.ntmps4
  go_wp2_with fail
  refine (take_any v2 n l _ hv hl).mono ?_
  rintro e w' ⟨rfl, rfl⟩
  rw [Hr.out, ret3]
  go_wp2_with fail
  refine (numof_any v2 n l _ hv hl).mono ?_
  rintro e w' ⟨rfl, rfl⟩
  rw [Hr.out, ret3]
  go_wp2_with fail
  refine (zig_any a hb2.1 hb2.2 _).mono ?_
  rintro e w' ⟨rfl, rfl⟩
  go_wp2_with fail
  refine (zigof_any a hb2.1 hb2.2 _).mono ?_
  rintro e w' ⟨rfl, rfl⟩
  go_wp2_with fail
  refine (zag_any u hb.1 hb.2 _).mono ?_
  rintro e w' ⟨rfl, rfl⟩
  go_wp2_with fail
  refine (zagof_any u hb.1 hb.2 _).mono ?_
  rintro e w' ⟨rfl, rfl⟩
  go_wp2_with fail
  refine (put_any u hb.1 hb.2 _).mono ?_
  rintro e w1 ⟨v, rfl, hown, hbel⟩
  go_wp2_with fail
  refine (bytesof_any 9 u hb.1 hb.2 (by omega) (lt_fuel hb.2) _).mono ?_
  rintro e w2 ⟨v', rfl, hown', hbel'⟩
  go_wp2_with fail
  refine (equal_any v v' _ _ _ _ _ ((own_sl hown).below hbel') (own_sl hown') hp.out hp.out).mono ?_
  rintro e w' ⟨rfl, rfl⟩
  have hB := hbel.trans (hbel'.mono hbel.size)
  go_wp2
  go_ret
  exact ⟨rfl, hB⟩
end Go.Proofs.Ytkpjgenlonfkmaa.BitsTells
