/-
  The walk of the law HashTells.
-/
import Derived.Test.YtkpjgenlonfkmaaHash
namespace Go.Proofs.Ytkpjgenlonfkmaa.HashTells
open Go.RowKit Go.Gh Go.Proofs.Ytkpjgenlonfkmaa.Hash
set_option linter.unusedVariables false
theorem walk (v0 v1 : Value) (w : World) (h0 : IsInt .u64 w v0) (h1 : IsInts .u8 w v1) :
    Calls Try.prog 5 #[v0, v1] w fun e w' => e = .returned (.bool true) ∧ Below w.heap.size w w' := by
  obtain ⟨u, rfl, hu⟩ := h0
  obtain ⟨n, l, hv, hl⟩ := h1
  have hb := wf_u64 hu
  have hm : u < M64 := hb.2
  have hx := unmixI_bd u hb.1 hm
  have he : (mixI u == mixI u) = true := by simp
  have he2 : (u == u) = true := by simp
  have he3 : (hashI u l n == hashI u l n) = true := by simp
  go_enter Try.func5, Try.ntmps5
  go_wp2_with fail
  refine (mix_any u hb.1 hm _).mono ?_
  rintro e w' ⟨rfl, rfl⟩
  go_wp2_with fail
  refine (mixed_any u hb.1 hm _).mono ?_
  rintro e w' ⟨rfl, rfl⟩
  go_wp2_with fail
  refine (unmix_any u hb.1 hm _).mono ?_
  rintro e w' ⟨rfl, rfl⟩
  go_wp2_with fail
  refine (mixed_any _ hx.1 hx.2 _).mono ?_
  rintro e w' ⟨rfl, rfl⟩
  rw [mixI_unmixI u hb.1 hm]
  go_wp2_with fail
  refine (of_any u v1 n l hb.1 hm _ hv hl).mono ?_
  rintro e w' ⟨rfl, rfl⟩
  go_wp2_with fail
  refine (hashof_any u v1 n l hb.1 hm _ hv hl).mono ?_
  rintro e w' ⟨rfl, rfl⟩
  go_wp2
  go_ret
  exact ⟨rfl, Below.refl _ _⟩
end Go.Proofs.Ytkpjgenlonfkmaa.HashTells
