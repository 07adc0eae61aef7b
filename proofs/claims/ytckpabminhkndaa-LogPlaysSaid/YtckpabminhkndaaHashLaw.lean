/-
  Plain arithmetic for the hash: turning a whole part into a number is undone by as many rounds as it takes, and the mixed number comes back.
-/
namespace Go.Gh

def xs (n s : Nat) : Nat := n ^^^ (n / 2 ^ s)
def mixN (u : Nat) : Nat := xs (xs (xs u 29 * 10321020848683521121 % 18446744073709551616) 32 * 7694936916205891629 % 18446744073709551616) 28

theorem xs_lt (n s k : Nat) (h : n < 2 ^ k) : xs n s < 2 ^ k :=
  Nat.xor_lt_two_pow h (Nat.lt_of_le_of_lt (Nat.div_le_self _ _) h)

theorem mixN_lt (u : Nat) : mixN u < 18446744073709551616 := xs_lt _ _ 64 (Nat.mod_lt _ (by decide))

def itU (u n : Nat) : Nat → Nat
  | 0 => u
  | k + 1 => u ^^^ (itU u n k / 2 ^ n)

theorem itU_lt (u n k b : Nat) (h : u < 2 ^ b) : itU u n k < 2 ^ b := by
  induction k with
  | zero => exact h
  | succ k ih => exact Nat.xor_lt_two_pow h (Nat.lt_of_le_of_lt (Nat.div_le_self _ _) ih)

theorem div_xor (a b n : Nat) : (a ^^^ b) / 2 ^ n = (a / 2 ^ n) ^^^ (b / 2 ^ n) := by
  rw [← Nat.shiftRight_eq_div_pow, ← Nat.shiftRight_eq_div_pow, ← Nat.shiftRight_eq_div_pow, Nat.shiftRight_xor_distrib]

theorem itU_err (u n k : Nat) : itU u n k ^^^ (itU u n k / 2 ^ n) ^^^ u = u / 2 ^ ((k + 1) * n) := by
  induction k with
  | zero => simp [itU, Nat.xor_comm u, Nat.xor_assoc]
  | succ k ih =>
    have e : u / 2 ^ ((k + 1 + 1) * n) = (u / 2 ^ ((k + 1) * n)) / 2 ^ n := by
      rw [Nat.div_div_eq_div_mul, ← Nat.pow_add]; congr 2; rw [Nat.add_mul (k+1)]; omega
    rw [e, ← ih, div_xor, div_xor]
    simp only [itU, div_xor]
    generalize itU u n k / 2 ^ n = v
    generalize u / 2 ^ n = x
    generalize v / 2 ^ n = y
    rw [Nat.xor_comm u v, Nat.xor_assoc, Nat.xor_assoc, Nat.xor_comm x y]
    rw [← Nat.xor_assoc u, Nat.xor_comm u, Nat.xor_assoc, Nat.xor_self, Nat.xor_zero, Nat.xor_assoc]

theorem xs_itU (u n k b : Nat) (h : u < 2 ^ b) (hb : b ≤ (k + 1) * n) : xs (itU u n k) n = u := by
  have e := itU_err u n k
  have z : u / 2 ^ ((k + 1) * n) = 0 := Nat.div_eq_of_lt (Nat.lt_of_lt_of_le h (Nat.pow_le_pow_right (by decide) hb))
  rw [z] at e
  unfold xs
  have := congrArg (· ^^^ u) e
  simpa [Nat.xor_assoc] using this

def unmixN (u : Nat) : Nat :=
  itU (itU (itU u 28 2 * 6263247216084901797 % 18446744073709551616) 32 1 * 6334239490909081505 % 18446744073709551616) 29 2

theorem mul_back (c a i : Nat) (h : i * a % 18446744073709551616 = 1) (hc : c < 18446744073709551616) : c * i % 18446744073709551616 * a % 18446744073709551616 = c := by
  rw [Nat.mod_mul_mod, Nat.mul_assoc, Nat.mul_mod, h, Nat.mul_one, Nat.mod_mod, Nat.mod_eq_of_lt hc]

theorem mix_unmix (u : Nat) (h : u < 18446744073709551616) : mixN (unmixN u) = u := by
  unfold mixN unmixN
  rw [xs_itU _ 29 2 64 (Nat.mod_lt _ (by decide)) (by decide), mul_back _ _ _ (by decide) (itU_lt _ _ _ 64 (Nat.mod_lt _ (by decide))),
    xs_itU _ 32 1 64 (Nat.mod_lt _ (by decide)) (by decide), mul_back _ _ _ (by decide) (itU_lt _ _ _ 64 h), xs_itU _ 28 2 64 h (by decide)]

end Go.Gh
