/-
  The walks of math/bits: Len64 (after the kit's worked walk), LeadingZeros64, TrailingZeros64.
-/
import Derived.Test.YtbifhmbfmoeofaaDoorXor1
import Derived.Lib.Strings
import Derived.Lib.Slices
import Derived.Lib.Small
import Derived.Lib.Walk
import Derived.Lib.BitFns
namespace Go.Proofs.YtbifhmbfmoeofaaDoor.Xor
open Go.RowKit Go.Gh Go.Proofs.YtbifhmbfmoeofaaDoor.Bits
set_option linter.unusedVariables false

theorem isLen_aux : ∀ f x, x < 2 ^ f → IsLen x (Lib.bitLenAux f x) := by
  intro f
  induction f with
  | zero => intro x h; exact ⟨h, Or.inl rfl⟩
  | succ f ih =>
    intro x h
    rw [Lib.bitLenAux]
    split
    · rename_i h0; subst h0; exact ⟨by decide, Or.inl rfl⟩
    · rename_i h0
      have hx : x / 2 < 2 ^ f := by rw [Nat.pow_succ] at h; omega
      have hi := ih (x / 2) hx
      by_cases h1 : x = 1
      · subst h1
        have : Lib.bitLenAux f (1 / 2) = 0 := by cases f <;> simp [Lib.bitLenAux]
        rw [this]
        exact ⟨by decide, Or.inr (by decide)⟩
      · exact isLen_shift (k := 1) (by omega) hi
theorem isLen_bitLen {x : Nat} (h : x < 18446744073709551616) : IsLen x (Lib.bitLen x) := isLen_aux 64 x h
theorem bitLen_64 {x : Nat} (h : x < 18446744073709551616) : Lib.bitLen x ≤ 64 := by
  have := (isLen_bitLen h).2
  rcases this with h1 | h1
  · omega
  · refine Nat.le_of_not_lt fun hc => ?_
    have : 2 ^ 64 ≤ 2 ^ (Lib.bitLen x - 1) := Nat.pow_le_pow_right (by decide) (by omega)
    omega

theorem isLen_uniq {x a b : Nat} (ha : IsLen x a) (hb : IsLen x b) : a = b := by
  have key : ∀ {a b : Nat}, IsLen x a → IsLen x b → ¬ a < b := by
    intro a b ha hb hlt
    rcases hb.2 with h | h
    · omega
    · have := Nat.lt_of_lt_of_le ha.1 (Nat.pow_le_pow_right (show 0 < 2 by decide) (show a ≤ b - 1 by omega))
      omega
  have h1 := key ha hb
  have h2 := key hb ha
  omega
theorem tab_len (y : Nat) (hy : y < 256) (h : y < Lib.len8tab.size) : ((Lib.len8tab[y]'h).toNat : Int) = Lib.bitLen y ∧ Lib.bitLen y ≤ 8 := by
  have e := Lib.len8_eq ⟨y, hy⟩
  have l := Lib.bitLen_le8 ⟨y, hy⟩
  refine ⟨?_, l⟩
  rw [← e]
  unfold Lib.len8
  simp only [Int.toNat_natCast]
  rw [ByteArray.getElem?_lt' _ _ h]
  rfl
theorem len_fin (x y : Int) (k : Nat) (h0 : 0 ≤ x) (h1 : x ≤ 18446744073709551615) (hk : (2 : Int) ^ k ≤ x) (hk64 : k ≤ 64) (hy : y = x / 2 ^ k) (hy2 : y < 256) (hb : y.toNat < Lib.len8tab.size) :
    wrap64 (k + wrap64 ((Lib.len8tab[y.toNat]'hb).toNat : Int)) = (Lib.bitLen x.toNat : Int) := by
  obtain ⟨X, rfl⟩ := Int.eq_ofNat_of_zero_le h0
  rw [two_pow_cast] at hk hy
  obtain ⟨Y, hY⟩ : ∃ Y, X / 2 ^ k = Y := ⟨_, rfl⟩
  have hy' : y = (Y : Int) := by rw [hy, ← hY]; rfl
  subst hy'
  simp only [Int.toNat_natCast] at hb ⊢
  obtain ⟨e, l⟩ := tab_len Y (by omega) hb
  rw [e]
  have hs := isLen_shift (x := X) (k := k) (by omega) (by rw [hY]; exact isLen_bitLen (by omega))
  rw [isLen_uniq (isLen_bitLen (x := X) (by omega)) hs]
  unfold wrap64
  omega
theorem len_fin0 (x : Int) (h0 : 0 ≤ x) (hy2 : x < 256) (hb : x.toNat < Lib.len8tab.size) :
    wrap64 (wrap64 ((Lib.len8tab[x.toNat]'hb).toNat : Int)) = (Lib.bitLen x.toNat : Int) := by
  obtain ⟨e, l⟩ := tab_len x.toNat (by omega) hb
  rw [e]
  unfold wrap64
  omega
set_option maxHeartbeats 4000000 in
set_option maxRecDepth 100000 in
theorem len64_any (x : Int) (w : World) (h0 : 0 ≤ x) (h1 : x ≤ 18446744073709551615) :
    Calls Tryd.prog 53 #[.int .u64 x] w fun e w' => e = .returned (.int .i64 (Lib.bitLen x.toNat)) ∧ w' = w := by
  go_enter Tryd.func53, Tryd.ntmps53
  have hsz : Lib.len8tab.size = 256 := Lib.len8tab_size
  go_wp2_with fail
  all_goals go_ret
  all_goals refine ⟨congrArg Ending.returned (congrArg (Value.int IntKind.i64) ?_), rfl⟩
  · exact len_fin x _ 56 h0 h1 (by omega) (by decide) (by omega) (by omega) _
  · exact len_fin x _ 48 h0 h1 (by omega) (by decide) (by omega) (by omega) _
  · exact len_fin x _ 40 h0 h1 (by omega) (by decide) (by omega) (by omega) _
  · exact len_fin x _ 32 h0 h1 (by omega) (by decide) (by omega) (by omega) _
  · exact len_fin x _ 24 h0 h1 (by omega) (by decide) (by omega) (by omega) _
  · exact len_fin x _ 16 h0 h1 (by omega) (by decide) (by omega) (by omega) _
  · exact len_fin x _ 8 h0 h1 (by omega) (by decide) (by omega) (by omega) _
  · exact len_fin0 x h0 (by omega) _
theorem leading_any (x : Nat) (h : x < 18446744073709551616) (w : World) :
    Calls Tryd.prog 39 #[.int .u64 x] w fun e w' => e = .returned (.int .i64 (leadF x)) ∧ w' = w := by
  have hb := bitLen_64 h
  have HE := Lib.hid (lead_nat (isLen_bitLen h) hb)
  have HX : Hid ((x : Int).toNat = x) := Int.toNat_natCast x
  obtain ⟨L, hL⟩ : ∃ L, Lib.bitLen x = L := ⟨_, rfl⟩
  have HL := Lib.hid hL
  rw [hL] at hb
  clear hL
  go_enter Tryd.func39, Tryd.ntmps39
  go_wp2_with fail
  refine (len64_any x _ (by omega) (by omega)).mono ?_
  rw [HX.out, HL.out]
  rintro e w' ⟨rfl, rfl⟩
  go_wp2_with fail
  go_ret
  refine ⟨congrArg Ending.returned (congrArg (Value.int IntKind.i64) ?_), rfl⟩
  rw [HE.out, HL.out]
  omega
/-- The table in its variable. -/
def TabX (w : World) : Prop := ∀ j, j < 64 → w.cell? ⟨1, j, none⟩ = some (.int .u8 (Lib.deBruijn64tab.getD j 0)) 
theorem TabX.below {w w' : World} (h : TabX w) (hb : Below 2 w w') : TabX w' := fun j hj => (hb.cell (p := ⟨1, j, none⟩) (show 1 < 2 by decide)).trans (h j hj)
theorem tz_key (x a : Nat) (hx : x < 18446744073709551616) (hx0 : x ≠ 0) (hlow : x &&& (18446744073709551616 - x) = a) :
    IntKind.u64.wrap (bits BinOp.and IntKind.u64 (x : Int) (IntKind.u64.wrap (-(x : Int))) * 285870213051353865) / 288230376151711744 = ((a * 285870213051353865 % 18446744073709551616 / 288230376151711744 : Nat) : Int) := by
  have e1 : IntKind.u64.wrap (-(x : Int)) = ((18446744073709551616 - x : Nat) : Int) := by rw [IntKind.wrap_u64]; omega
  rw [e1, bits_and_u64_nat x _ hx (by omega), hlow, IntKind.wrap_u64]
  omega
set_option maxHeartbeats 1000000 in
theorem tz_core (x k idx : Nat) (w : World) (hx0 : ((x : Int) == 0) = false)
    (key : IntKind.u64.wrap (bits BinOp.and IntKind.u64 (x : Int) (IntKind.u64.wrap (-(x : Int))) * 285870213051353865) / 288230376151711744 = (idx : Int))
    (hi : idx < 64) (hk : k < 64) (hcell : w.cell? ⟨1, idx, none⟩ = some (.int .u8 k)) :
    Calls Tryd.prog 40 #[.int .u64 x] w fun e w' => e = .returned (.int .i64 k) ∧ w' = w := by
  go_enter Tryd.func40, Tryd.ntmps40
  go_wp2_with (simp only [key])
  go_ret
  exact ⟨rfl, rfl⟩
theorem trailing_any (x : Nat) (hx : x < 18446744073709551616) (hx0 : x ≠ 0) (w : World) (hT : TabX w) :
    Calls Tryd.prog 40 #[.int .u64 x] w fun e w' => e = .returned (.int .i64 (tailF x)) ∧ w' = w := by
  obtain ⟨hlow, hk⟩ := Lib.lowest_bit 64 x hx0 hx
  obtain ⟨hi, htab⟩ := Lib.deBruijn64_at _ hk
  have hcell := hT _ hi
  rw [htab] at hcell
  rw [tail_nat hx0]
  exact tz_core x _ _ w (by simp; omega) (tz_key x _ hx hx0 hlow) hi hk hcell
end Go.Proofs.YtbifhmbfmoeofaaDoor.Xor
