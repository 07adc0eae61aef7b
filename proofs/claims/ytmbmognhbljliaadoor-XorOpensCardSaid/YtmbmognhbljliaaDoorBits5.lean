/-
  The walk of bits.Check.
-/
import Derived.Test.YtmbmognhbljliaaDoorBits4
namespace Go.Proofs.YtmbmognhbljliaaDoor.Bits
open Go.RowKit Go.Gh Go.WideShapes
set_option linter.unusedVariables false

theorem low_bits (z : Int) (m : Nat) : (∀ j, j < m → bitI z j = false) ↔ z % 2 ^ m = 0 := by
  constructor
  · intro h
    rw [← val_signs]
    have : ∀ k, k ≤ m → ∀ s acc, acc = 0 → s = signs z k → valF acc s = 0 := by
      intro k
      induction k with
      | zero => intro _ s acc ha hs; subst ha hs; rfl
      | succ k ih =>
        intro hk s acc ha hs
        subst ha hs
        simp only [signs, valF]
        exact ih (by omega) _ _ (by rw [h k (by omega)]; rfl) rfl
    exact this m (Nat.le_refl _) _ 0 rfl rfl
  · intro h j hj
    rw [← bitI_mod z m j hj, h, bitI_zero]

theorem tail_test (l : List Int) (z : Int) (N n : Nat) (hN : 0 < N % 8) (hn : (N + 7) / 8 = n) (HZ : Hid (l.getD (n - 1) 0 = z)) :
    (∀ i : Nat, (N : Int) ≤ i → i < 8 * n → bitAt l i = false) ↔ z * 2 ^ (N % 8) % 256 = 0 := by
  have e : z * 2 ^ (N % 8) % 256 = z % 2 ^ (8 - N % 8) * 2 ^ (N % 8) := by
    have h256 : (256 : Int) = 2 ^ (8 - N % 8) * 2 ^ (N % 8) := by
      rw [← Int.pow_add, show 8 - N % 8 + N % 8 = 8 from by omega]; decide
    rw [h256, Int.mul_comm z, Int.mul_comm (2 ^ (8 - N % 8)), Int.mul_emod_mul_of_pos _ _ (two_pow_pos _), Int.mul_comm]
  rw [e]
  have hp := two_pow_pos (N % 8)
  have e2 : z % 2 ^ (8 - N % 8) * 2 ^ (N % 8) = 0 ↔ z % 2 ^ (8 - N % 8) = 0 := by
    constructor
    · intro h
      rcases Int.mul_eq_zero.1 h with h | h
      · exact h
      · omega
    · intro h; rw [h, Int.zero_mul]
  rw [e2, ← low_bits]
  constructor
  · intro h j hj
    have := h (8 * (n - 1) + (7 - j)) (by omega) (by omega)
    unfold bitAt at this
    rw [show (8 * (n - 1) + (7 - j)) / 8 = n - 1 from by omega, show (8 * (n - 1) + (7 - j)) % 8 = 7 - j from by omega, HZ.out, show 7 - (7 - j) = j from by omega] at this
    exact this
  · intro h i h1 h2
    unfold bitAt
    rw [show i / 8 = n - 1 from by omega, HZ.out]
    exact h _ (by omega)

set_option maxHeartbeats 1000000 in
theorem check_any (v : Value) (l : List Int) (N : Int) (w : World) (hv : BitsV w v l N) :
    Calls Tryd.prog 30 #[v] w fun e w' => e = .returned (.int .i64 (faultB l N)) ∧ Below w.heap.size w w' := by
  obtain ⟨b, n, rfl, hs, hl, hwf, hn, hN0, hN1⟩ := hv
  obtain ⟨ao, c, rfl, hn', hc, hlen0⟩ := hs.shape
  have hlen : l.length = n := by simpa using hlen0
  have HL := Lib.hid hlen
  clear hlen0
  by_cases h1 : N < 0
  · have HF : Hid (faultB l N = 4) := if_neg (by intro h; have := h.1; omega)
    clear hlen
    have d1 : decide (N < 0) = true := by simpa using h1
    go_enter Tryd.func30, Tryd.ntmps30
    go_wp2
    go_quiet (fail)
    go_wp2
    go_ret
    exact ⟨ret_int HF.out.symm, below_drewN ((Below.refl _ _).alloc (Nat.le_refl _) _) _⟩
  · obtain ⟨M, rfl⟩ := Int.eq_ofNat_of_zero_le (show 0 ≤ N by omega)
    have d1 : decide ((M : Int) < 0) = false := by simp
    by_cases h2 : 8 * n < M
    · have HF : Hid (faultB l M = 4) := if_neg (by intro h; have := h.2.1; omega)
      clear hlen h1
      have d2 : decide (8 * (n : Int) < M) = true := by simp; omega
      go_enter Tryd.func30, Tryd.ntmps30
      go_wp2
      go_quiet (fail)
      go_wp2
      go_ret
      exact ⟨ret_int HF.out.symm, below_drewN ((Below.refl _ _).alloc (Nat.le_refl _) _) _⟩
    · have d2 : decide (8 * (n : Int) < M) = false := by simp; omega
      by_cases h3 : (M + 7) / 8 < n
      · have HF : Hid (faultB l M = 4) := if_neg (by intro h; have := h.2.2.1; omega)
        clear hlen h1
        have d3 : decide (((M : Int) + 7) / 8 < n) = true := by simp; omega
        go_enter Tryd.func30, Tryd.ntmps30
        go_wp2
        go_quiet (fail)
        go_wp2
        go_ret
        exact ⟨ret_int HF.out.symm, below_drewN ((Below.refl _ _).alloc (Nat.le_refl _) _) _⟩
      · have d3 : decide (((M : Int) + 7) / 8 < n) = false := by simp; omega
        by_cases h4 : M % 8 = 0
        · have HF : Hid (faultB l M = 0) := if_pos ⟨by omega, by omega, by omega, fun i h1 h2 => by omega⟩
          have d4 : decide (0 < (M : Int) % 8) = false := by simp; omega
          clear hlen h1 h4
          go_enter Tryd.func30, Tryd.ntmps30
          go_wp2
          go_quiet (fail)
          go_wp2
          go_ret
          exact ⟨ret_int HF.out.symm, below_drewN ((Below.refl _ _).alloc (Nat.le_refl _) _) _⟩
        · have d4 : decide (0 < (M : Int) % 8) = true := by simp; omega
          obtain ⟨b, off, z, rfl, hcell, hz0, hz1, HZ⟩ := (hs.alloc (Obj.cells #[.slice ao n c, .int .i64 M] 25)).byte hwf (show n - 1 < n by omega)
          have hT := tail_test l z M n (by omega) (by omega) HZ
          have g1 : 0 ≤ (n : Int) - 1 := by omega
          have g2 : (n : Int) - 1 < n := by omega
          have g3 : ((n : Int) - 1).toNat = n - 1 := by omega
          by_cases h5 : z * 2 ^ (M % 8) % 256 = 0
          · have HF : Hid (faultB l M = 0) := if_pos ⟨by omega, by omega, by omega, fun i h1 h2 => hT.2 h5 i h1 (by omega)⟩
            clear hlen h1 h4 hT
            go_enter Tryd.func30, Tryd.ntmps30
            go_wp2
            go_quiet (fail)
            go_wp2
            go_ret
            exact ⟨ret_int HF.out.symm, below_drewN ((Below.refl _ _).alloc (Nat.le_refl _) _) _⟩
          · have HF : Hid (faultB l M = 4) := if_neg (by intro h; exact h5 (hT.1 fun i h1 h2 => h.2.2.2 i h1 (by omega)))
            have h6 : (z * 2 ^ (M % 8) % 256 == 0) = false := by simpa using h5
            clear hlen h1 h4 hT
            go_enter Tryd.func30, Tryd.ntmps30
            go_wp2
            go_quiet (fail)
            go_wp2
            go_ret
            exact ⟨ret_int HF.out.symm, below_drewN ((Below.refl _ _).alloc (Nat.le_refl _) _) _⟩
end Go.Proofs.YtmbmognhbljliaaDoor.Bits
