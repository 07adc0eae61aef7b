/-
  The walks over bits that lie in a struct: whether they are right, whether they are the same, and back to noughts and ones.
-/
import Derived.Test.YtbifhmbfmoeofaaDoorBits3
import Derived.Deep.QuietTactic
import Derived.BigQuiet
import Derived.StillTailTactics
import Derived.Deep.Cut
import Derived.Deep.DeepCutAuto
namespace Go.Proofs.YtbifhmbfmoeofaaDoor.Bits
open Go.RowKit Go.Gh Go.WideShapes
set_option linter.unusedVariables false

/-- A value of type api.Bits: its bytes l, and how many bits. -/
def BitsV (w : World) (v : Value) (l : List Int) (N : Int) : Prop :=
  ∃ b n, v = .agg #[b, .int .i64 N] ∧ Sl w 1 b n (l.map (Value.int .u8)) ∧ Bytes l ∧ (∀ z ∈ l, (Lit.int .u8 z).wf = true) ∧ n ≤ 140737488355328 ∧ -9223372036854775808 ≤ N ∧ N ≤ 9223372036854775807

open Classical in
noncomputable def faultB (l : List Int) (N : Int) : Int := if okB l N then 0 else 4

theorem box2 (w : World) (x y : Value) (e : TypeId) : (w.alloc (.cells #[x, y] e)).cell? ⟨w.heap.size, 0, none⟩ = some x ∧ (w.alloc (.cells #[x, y] e)).cell? ⟨w.heap.size, 1, none⟩ = some y :=
  ⟨cell_new w e [x, y] 0 x rfl, cell_new w e [x, y] 1 y rfl⟩

theorem bit_test (l : List Int) (z : Int) (k : Nat) (h0 : 0 ≤ z) (HZ : Hid (l.getD (k / 8) 0 = z)) : ((z / 2 ^ (7 - k % 8)).tmod 2 == 1) = bitAt l k := by
  unfold bitAt bitI
  rw [HZ.out, Int.tmod_eq_emod_of_nonneg (Int.ediv_nonneg h0 (Int.le_of_lt (two_pow_pos _)))]

set_option maxHeartbeats 1000000 in
theorem fault_any (v : Value) (l : List Int) (N : Int) (w : World) (hv : BitsV w v l N) :
    Calls Tryd.prog 24 #[v] w fun e w' => e = .returned (.int .i64 (faultB l N)) ∧ Below w.heap.size w w' := by
  obtain ⟨b, n, rfl, hs, hl, hwf, hn, hN0, hN1⟩ := hv
  obtain ⟨ao, c, rfl, hn', hc, hlen0⟩ := hs.shape
  have hlen : l.length = n := by simpa using hlen0
  by_cases h1 : N < 0
  · have HF : Hid (faultB l N = 4) := if_neg (by intro h; have := h.1; omega)
    go_enter Tryd.func24, Tryd.ntmps24
    go_wp2
    go_ret
    exact ⟨ret_int HF.out.symm, (Below.refl _ _).alloc (Nat.le_refl _) _⟩
  · by_cases h2 : 8 * (n : Int) < N
    · have HF : Hid (faultB l N = 4) := if_neg (by intro h; have := h.2.1; omega)
      clear hlen hlen0
      go_enter Tryd.func24, Tryd.ntmps24
      go_wp2
      go_ret
      exact ⟨ret_int HF.out.symm, (Below.refl _ _).alloc (Nat.le_refl _) _⟩
    · by_cases h3 : 7 < 8 * (n : Int) - N
      · have HF : Hid (faultB l N = 4) := if_neg (by intro h; have := h.2.2.1; omega)
        clear hlen hlen0
        go_enter Tryd.func24, Tryd.ntmps24
        go_wp2
        go_ret
        exact ⟨ret_int HF.out.symm, (Below.refl _ _).alloc (Nat.le_refl _) _⟩
      · obtain ⟨M, rfl⟩ := Int.eq_ofNat_of_zero_le (show 0 ≤ N by omega)
        have HL := Lib.hid hlen
        clear hlen hlen0
        go_enter Tryd.func24, Tryd.ntmps24
        go_wp2_with fail
        refine wp_abs (fun w1 => Sl w1 1 (.slice ao n c) n (l.map (Value.int .u8)) ∧ w1.cell? ⟨w.heap.size, 0, none⟩ = some (.slice ao n c) ∧ w1.cell? ⟨w.heap.size, 1, none⟩ = some (.int .i64 M) ∧ Below w.heap.size w w1) ⟨hs.alloc _, (box2 w _ _ _).1, (box2 w _ _ _).2, (Below.refl _ _).alloc (Nat.le_refl _) _⟩ ?_
        rintro w1 ⟨hs1, hb0, hb1, hbel⟩
        go_loop [3] (fun i => ∃ k : Nat, M ≤ k ∧ k ≤ 8 * n ∧ i = .int .i64 k ∧ Hid (∀ i : Nat, M ≤ i → i < k → bitAt l i = false)) (fun i => 8 * n - (intOf i).toNat)
        case atStart => exact ⟨M, by omega, by omega, rfl, fun i h1 h2 => by omega⟩
        case round =>
          obtain ⟨k, hk0, hk1, rfl, hz⟩ := hrel
          by_cases hlt : k < 8 * n
          · obtain ⟨b, off, z, rfl, hcell, hz0, hz1, HZ⟩ := hs1.byte hwf (show k / 8 < n by omega)
            have t0 := bit_test l z k hz0 HZ
            cases hb : bitAt l k with
            | true =>
              rw [hb] at t0
              have HF : Hid (faultB l (M : Int) = 4) := if_neg (by intro h; have := h.2.2.2 k (by omega) (by rw [HL.out]; omega); rw [hb] at this; exact absurd this (by decide))
              clear hb
              go_wp2
              go_ret
              exact ⟨ret_int HF.out.symm, hbel⟩
            | false =>
              rw [hb] at t0
              have HN : Hid (∀ i : Nat, M ≤ i → i < k + 1 → bitAt l i = false) := by
                intro i h1 h2
                rcases Nat.lt_or_eq_of_le (Nat.le_of_lt_succ h2) with h | h
                · exact hz.out i h1 h
                · rw [h]; exact hb
              clear hb
              go_wp2
              go_round
              case rel => exact ⟨k + 1, by omega, by omega, by go_num, HN⟩
              case measure => simp [intOf]; omega
          · have HF : Hid (faultB l (M : Int) = 0) := if_pos ⟨by omega, by rw [HL.out]; omega, by rw [HL.out]; omega, fun i h1 h2 => hz.out i (by omega) (by rw [HL.out] at h2; omega)⟩
            go_wp2
            go_ret
            exact ⟨ret_int HF.out.symm, hbel⟩
end Go.Proofs.YtbifhmbfmoeofaaDoor.Bits
