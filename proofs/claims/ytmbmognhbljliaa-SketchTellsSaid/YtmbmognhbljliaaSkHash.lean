/-
  The walk of CellOf.
-/
import Derived.Test.YtmbmognhbljliaaSk3
import Derived.Test.YtmbmognhbljliaaHash
import Derived.Lib.ConvBytes
import Derived.Shelf.Abstract
namespace Go.Proofs.Ytmbmognhbljliaa.Sk
open Go.RowKit Go.Gh
set_option linter.unusedVariables false
/-- A text's bytes as numbers. -/
def kb (S : ByteArray) : List Int := S.data.toList.map fun b => (b.toNat : Int)
theorem kb_len (S : ByteArray) : (kb S).length = S.size := by unfold kb; rw [List.length_map]; rfl
theorem kb_wf (S : ByteArray) : ∀ z ∈ kb S, (Lit.int .u8 z).wf = true := by
  intro z hz
  obtain ⟨b, _, rfl⟩ := List.mem_map.1 hz
  have : b.toNat < 256 := b.toNat_lt
  simp [Lit.wf, IntKind.min, IntKind.max, IntKind.signed, IntKind.bits]
  omega
theorem conv_sl (w : World) (e : TypeId) (S : ByteArray) (hS : S.size ≤ 140737488355328) : Sl (Lib.bytesWorld w e S) 1 (.slice (some ⟨w.heap.size, 0, none⟩) S.size (grownCap w S.size 0 e)) S.size ((kb S).map (Value.int .u8)) := by
  refine ⟨some ⟨w.heap.size, 0, none⟩, grownCap w S.size 0 e, rfl, grownCap_ge w S.size 0 e, ?_, fun h => by simp at h, by rw [List.length_map, kb_len, Nat.mul_one], fun _ => ⟨w.heap.size, 0, rfl, fun j u hu => ?_⟩⟩
  · have h := grownCap_le_maxLen w S.size 0 e (by have : maxLen = 9223372036854775807 := by decide
                                                  omega)
    have : maxLen = 9223372036854775807 := by decide
    omega
  · have hj : j < S.size := by
      have := (List.getElem?_eq_some_iff.1 hu).1
      rw [List.length_map, kb_len] at this
      exact this
    rw [Nat.zero_add, Lib.bytesWorld_cell w e S j hj]
    unfold kb at hu
    rw [List.map_map, List.getElem?_map] at hu
    have hj2 : j < S.data.toList.length := hj
    rw [List.getElem?_eq_getElem hj2] at hu
    simp only [Option.map_some, Function.comp] at hu
    rw [List.getD_eq_getElem?_getD, List.getElem?_eq_getElem hj2]
    exact hu
theorem conv_below (w : World) (e : TypeId) (S : ByteArray) : Below w.heap.size w (Lib.bytesWorld w e S) :=
  ⟨rfl, rfl, rfl, by rw [Lib.bytesWorld_size]; omega, fun k hk => Lib.bytesWorld_at_old w e S k hk⟩
theorem conv_cell (w : World) (e : TypeId) (S : ByteArray) {B j : Nat} (hB : B < w.heap.size) : (Lib.bytesWorld w e S).cell? ⟨B, j, none⟩ = w.cell? ⟨B, j, none⟩ := by
  have := Lib.bytesWorld_at_old w e S B hB
  simp only [World.cell?, this]
def ca (S : ByteArray) (W i : Nat) : Nat := i * W + (Hash.hashI i (kb S) S.size % W).toNat
theorem ca_lt (S : ByteArray) {W i D : Nat} (hW : 1 ≤ W) (hi : i < D) : ca S W i < D * W := by
  unfold ca
  have h1 : Hash.hashI i (kb S) S.size % W < W := Int.emod_lt_of_pos _ (by omega)
  have h2 : 0 ≤ Hash.hashI i (kb S) S.size % W := Int.emod_nonneg _ (by omega)
  have := chunk_end (W := W) hi
  omega
theorem ca_int (S : ByteArray) {W i : Nat} (hW : 1 ≤ W) : (ca S W i : Int) = (i : Int) * W + Hash.hashI i (kb S) S.size % W := by
  unfold ca
  have h2 : 0 ≤ Hash.hashI i (kb S) S.size % W := Int.emod_nonneg _ (by omega)
  rw [Int.natCast_add, Int.natCast_mul, Int.toNat_of_nonneg h2]
theorem wrap_small {a : Nat} (h : a ≤ 100000) : IntKind.i64.wrap (a : Int) = a := by
  rw [IntWalk.i64_left]
  unfold wrap64
  omega
theorem wrap_two {a b : Nat} (h : a ≤ 1600) (h2 : b ≤ 200) : IntKind.i64.wrap (IntKind.i64.wrap (a : Int) + IntKind.i64.wrap (b : Int)) = (a : Int) + b := by
  rw [wrap_small (by omega), wrap_small (by omega), ← Int.natCast_add, wrap_small (by omega)]
set_option maxHeartbeats 4000000 in
set_option maxRecDepth 100000 in
theorem cellof_any (v : Value) (D W i : Nat) (N : Int) (c : List Int) (S : ByteArray) (w : World) (hv : SkV w v D W c N) (hD : D ≤ 8) (hW : 1 ≤ W) (hW2 : W ≤ 200) (hi : i < D) (hS : S.size ≤ 140737488355328) :
    Calls Try.prog 63 #[v, .int .i64 i, .string S] w fun e w' => e = .returned (.int .i64 (ca S W i)) ∧ Below w.heap.size w w' := by
  obtain ⟨cv, n, rfl, -⟩ := hv
  have hconv : ∀ W', (convert 9 23 (.string S)).run Try.prog W' = .ok (.slice (some ⟨W'.heap.size, 0, none⟩) S.size (grownCap W' S.size 0 5)) (Lib.bytesWorld W' 5 S) := fun W' => Lib.run_convert_string_bytes W' 9 23 5 S Try.underlying9 Try.underlying23 Try.underlying5
  have hbd := Hash.hashI_bd i (kb S) (by omega) (by unfold Hash.M64; omega) S.size
  have HC := Lib.hid (ca_int S (i := i) hW)
  obtain ⟨H, hH⟩ : ∃ H, Hash.hashI i (kb S) S.size = H := ⟨_, rfl⟩
  have HH := Lib.hid hH
  rw [hH] at hbd
  unfold Hash.M64 at hbd
  obtain ⟨IW, hIW⟩ : ∃ IW : Nat, i * W = IW := ⟨_, rfl⟩
  have hIWi : (i : Int) * (W : Int) = (IW : Int) := by rw [← hIW]; exact (Int.natCast_mul i W).symm
  have hIWb : IW ≤ 1600 := by rw [← hIW]; exact Nat.mul_le_mul (show i ≤ 8 by omega) hW2
  have HIW := Lib.hid hIW
  clear hH hIW
  have hW0 : ¬ W = 0 := by omega
  obtain ⟨R, hR⟩ : ∃ R : Nat, H % W = R := ⟨(H % W).toNat, (Int.toNat_of_nonneg (Int.emod_nonneg _ (by omega))).symm⟩
  have hRb : R < W := by
    have : H % (W : Int) < W := Int.emod_lt_of_pos _ (by omega)
    omega
  have htm : H.tmod W = (R : Int) := by rw [Int.tmod_eq_emod_of_nonneg hbd.1, hR]
  have HV : Hid ((ca S W i : Int) = (IW : Int) + R) := Lib.hid (by rw [HC.out, HH.out, hR, hIWi])
  have HV2 : Hid (IntKind.i64.wrap (IntKind.i64.wrap (IW : Int) + IntKind.i64.wrap (R : Int)) = (ca S W i : Int)) := Lib.hid (by
    rw [HV.out]
    exact wrap_two (by omega) (by omega))
  have HR := Lib.hid hR
  clear hR HV
  go_enter Try.func63, Try.ntmps63
  go_upto_region 1 with (fail)
  have hui : IntKind.u64.wrap (i : Int) = i := by rw [IntKind.wrap_u64]; omega
  have huw : IntKind.u64.wrap (W : Int) = W := by rw [IntKind.wrap_u64]; omega
  refine wp_abs (fun w1 => w1.cell? ⟨w.heap.size, 1, none⟩ = some (.int .i64 W) ∧ Below w.heap.size w w1 ∧ w.heap.size < w1.heap.size) ⟨cell_new w _ [.int .i64 D, .int .i64 W, cv, .int .i64 N] 1 _ rfl, (Below.refl _ _).alloc (Nat.le_refl _) _, by simp⟩ ?_
  rintro w1 ⟨h1, hb1, hlt1⟩
  have hcc : ∀ k, (Lib.bytesWorld (w1.drewN k) 5 S).cell? ⟨w.heap.size, 1, none⟩ = some (.int .i64 W) := fun k => by rw [conv_cell _ _ _ (by simpa using hlt1)]; simpa using h1
  have hcd : (Lib.bytesWorld w1.drew 5 S).cell? ⟨w.heap.size, 1, none⟩ = some (.int .i64 W) := hcc 1
  have hsl : Sl (Lib.bytesWorld w1.drew 5 S) 1 (.slice (some ⟨w1.heap.size, 0, none⟩) S.size (grownCap w1.drew S.size 0 5)) S.size ((kb S).map (Value.int .u8)) := conv_sl w1.drew 5 S hS
  have hbe : Below w.heap.size w (Lib.bytesWorld w1.drew 5 S) := hb1.drew.trans ((conv_below w1.drew 5 S).mono hb1.drew.size)
  have HBE := Lib.hid hbe
  clear hb1 hbe
  have HCALL := (Hash.hashof_any i _ S.size (kb S) (by omega) (by unfold Hash.M64; omega) _ hsl (kb_wf S))
  rw [HH.out] at HCALL
  have HCA := Lib.hid HCALL
  clear HCALL hcc hlt1 hD hW hW2 hi hIWb hRb hbd hsl
  go_cut [6] (fun t wx => t = .int .i64 (ca S W i) ∧ Below w.heap.size w wx)
  case first =>
    go_region_law (first
      | (go_simp; go_at_call 25; refine HCA.out.mono ?_; rintro e w2 ⟨rfl, rfl⟩))
    all_goals (go_wp2_with fail; go_meet)
    all_goals exact ⟨by simpa using HV2.out, HBE.out⟩
  case rest =>
    obtain ⟨rfl, hb⟩ := hcut
    go_wp2_with fail
    go_ret
    exact ⟨rfl, hb⟩
end Go.Proofs.Ytmbmognhbljliaa.Sk
