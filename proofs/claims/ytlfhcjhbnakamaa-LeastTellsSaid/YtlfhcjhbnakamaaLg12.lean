/-
  The walks of package hash and of the references to it: what each answers, as a number.
-/
import Derived.Test.YtlfhcjhbnakamaaLg1
import Derived.Test.YtlfhcjhbnakamaaLg2
import Derived.Test.YtlfhcjhbnakamaaLg11
import Derived.Test.YtlfhcjhbnakamaaRows
import Derived.Outline
import Derived.Deep.RegionHeld3
namespace Go.Proofs.Ytlfhcjhbnakamaa.Hash
open Go.RowKit Go.Gh
set_option linter.unusedVariables false

def xsI (x p : Int) : Int := bits .xor .u64 x (x / p)
def mulI (x c : Int) : Int := IntKind.u64.wrap (x * c)
def mixI (x : Int) : Int := xsI (mulI (xsI (mulI (xsI x 536870912) 10321020848683521121) 4294967296) 7694936916205891629) 268435456

theorem xsI_nat (X s : Nat) (p : Int) (hX : X < 18446744073709551616) (hp : p = ((2 ^ s : Nat) : Int)) : xsI X p = ((xs X s : Nat) : Int) := by
  subst hp; exact xorShift_u64 X (2 ^ s) hX
theorem mulI_nat (X C : Nat) (c : Int) (hc : c = (C : Int)) : mulI X c = ((X * C % 18446744073709551616 : Nat) : Int) := by
  subst hc; unfold mulI; rw [IntKind.wrap_u64, ← Int.natCast_mul]; rfl
theorem mixI_nat (X : Nat) (hX : X < 18446744073709551616) : mixI X = ((mixN X : Nat) : Int) := by
  unfold mixI
  rw [xsI_nat X 29 536870912 hX rfl, mulI_nat _ 10321020848683521121 10321020848683521121 rfl, xsI_nat _ 32 4294967296 (Nat.mod_lt _ (by decide)) rfl, mulI_nat _ 7694936916205891629 7694936916205891629 rfl, xsI_nat _ 28 268435456 (Nat.mod_lt _ (by decide)) rfl]
  rfl

theorem mix_any (x : Int) (h0 : 0 ≤ x) (h1 : x < 18446744073709551616) (w : World) :
    Calls Try.prog 17 #[.int .u64 x] w fun e w' => e = .returned (.int .u64 (mixI x)) ∧ w = w' := by
  go_enter Try.func17, Try.ntmps17
  go_wp2
  go_ret
  exact ⟨rfl, rfl⟩

def M64 : Int := 18446744073709551616
theorem mulI_eq (a b : Int) : mulI a b = a * b % M64 := by unfold mulI M64; exact IntKind.wrap_u64 _

/-- One round of 'times': the sum that is to come stays the same. -/
theorem times_odd (n a b : Int) (hb : b % 2 = 1) : ((n + a) % M64 + (a + a) % M64 * (b / 2)) % M64 = (n + a * b) % M64 := by
  have e : a * b = a + (a + a) * (b / 2) := by
    have : b = 2 * (b / 2) + 1 := by omega
    rw [show a * b = a * (2 * (b / 2) + 1) from by rw [← this]]
    generalize b / 2 = c
    rw [Int.mul_add, Int.mul_one, Int.add_comm, Int.add_mul, Int.mul_left_comm, Int.two_mul]
  rw [e, Int.add_emod, Int.emod_emod_of_dvd _ (Int.dvd_refl _), Int.mul_emod, Int.emod_emod_of_dvd _ (Int.dvd_refl _), ← Int.mul_emod, ← Int.add_emod, Int.add_assoc]
theorem times_even (n a b : Int) (hb : b % 2 = 0) : (n + (a + a) % M64 * (b / 2)) % M64 = (n + a * b) % M64 := by
  have e : a * b = (a + a) * (b / 2) := by
    have : b = 2 * (b / 2) := by omega
    rw [show a * b = a * (2 * (b / 2)) from by rw [← this]]
    generalize b / 2 = c
    rw [Int.mul_left_comm, Int.two_mul, Int.add_mul]
  rw [e, Int.add_emod, Int.mul_emod, Int.emod_emod_of_dvd _ (Int.dvd_refl _), ← Int.mul_emod, ← Int.add_emod]

theorem times_any (a b : Int) (ha : 0 ≤ a) (ha1 : a < M64) (hb : 0 ≤ b) (hb1 : b < M64) (w : World) :
    Calls Try.prog 47 #[.int .u64 a, .int .u64 b] w fun e w' => e = .returned (.int .u64 (mulI a b)) ∧ w = w' := by
  go_enter Try.func47, Try.ntmps47
  go_wp2
  go_loop [0, 1, 5] (fun x y n => ∃ A B N : Int, x = .int .u64 A ∧ y = .int .u64 B ∧ n = .int .u64 N ∧ 0 ≤ A ∧ 0 ≤ B ∧ 0 ≤ N ∧ N < M64 ∧ B < 18446744073709551616 ∧ Hid ((N + A * B) % M64 = mulI a b)) (fun _ y _ => (intOf y).toNat)
  case atStart => exact ⟨a, b, 0, rfl, rfl, rfl, ha, hb, by decide, by decide, hb1, by show _ = _; rw [Int.zero_add, mulI_eq]⟩
  case round =>
    obtain ⟨A, B, N, rfl, rfl, rfl, hA, hB, hN, hN1, hB1, hs⟩ := hrel
    by_cases hB0 : 0 < B
    · have hq : 0 ≤ B / 2 := by omega
      have hm : (B / 2).toNat < B.toNat := by omega
      have hr1 : 0 ≤ (A + A) % M64 := Int.emod_nonneg _ (by decide)
      have hr2 : 0 ≤ (N + A) % M64 := Int.emod_nonneg _ (by decide)
      have hr3 : (N + A) % M64 < M64 := Int.emod_lt_of_pos _ (by decide)
      by_cases hodd : (B % 2 == 1) = true
      · have H1 : Hid (((N + A) % M64 + (A + A) % M64 * (B / 2)) % M64 = mulI a b) := (times_odd N A B (by simpa using hodd)).trans hs
        go_wp2
        go_round
        case rel => exact ⟨_, _, _, rfl, rfl, rfl, by rw [IntKind.wrap_u64]; exact hr1, hq, by rw [IntKind.wrap_u64]; exact hr2, by rw [IntKind.wrap_u64]; exact hr3, by omega, by rw [IntKind.wrap_u64, IntKind.wrap_u64]; exact H1⟩
        case measure => simp [intOf]; omega
      · have H1 : Hid ((N + (A + A) % M64 * (B / 2)) % M64 = mulI a b) := (times_even N A B (by simp at hodd; omega)).trans hs
        go_wp2
        go_round
        case rel => exact ⟨_, _, _, rfl, rfl, rfl, by rw [IntKind.wrap_u64]; exact hr1, hq, hN, hN1, by omega, by rw [IntKind.wrap_u64]; exact H1⟩
        case measure => simp [intOf]; omega
    · have hB2 : B = 0 := by omega
      subst hB2
      have e : N = mulI a b := by have := RowKit.Hid.out hs; rw [Int.mul_zero, Int.add_zero, Int.emod_eq_of_lt hN hN1] at this; exact this
      have HE := Lib.hid e
      clear e hs
      go_wp2
      go_ret
      exact ⟨ret_int HE.out, rfl⟩

theorem xsI_bd (x p : Int) (h0 : 0 ≤ x) (h1 : x < M64) (hp : p = 536870912 ∨ p = 4294967296 ∨ p = 268435456) : 0 ≤ xsI x p ∧ xsI x p < M64 := by
  obtain ⟨u, rfl⟩ := Int.eq_ofNat_of_zero_le h0
  have hu : u < 18446744073709551616 := by unfold M64 at h1; omega
  have key : ∀ s, p = ((2 ^ s : Nat) : Int) → 0 ≤ xsI u p ∧ xsI u p < M64 := by
    intro s hs
    rw [xsI_nat u s p hu hs]
    have := xs_lt u s 64 hu
    unfold M64
    omega
  rcases hp with h | h | h
  · exact key 29 (h.trans rfl)
  · exact key 32 (h.trans rfl)
  · exact key 28 (h.trans rfl)
theorem mulI_bd (a b : Int) : 0 ≤ mulI a b ∧ mulI a b < M64 := by
  rw [mulI_eq]; exact ⟨Int.emod_nonneg _ (by decide), Int.emod_lt_of_pos _ (by decide)⟩
theorem mixI_bd (x : Int) (h0 : 0 ≤ x) (h1 : x < M64) : 0 ≤ mixI x ∧ mixI x < M64 := by
  unfold mixI
  exact xsI_bd _ _ (mulI_bd _ _).1 (mulI_bd _ _).2 (by simp)

theorem mixed_any (x : Int) (h0 : 0 ≤ x) (h1 : x < 18446744073709551616) (w : World) :
    Calls Try.prog 18 #[.int .u64 x] w fun e w' => e = .returned (.int .u64 (mixI x)) ∧ w = w' := by
  have b1 := xsI_bd x 536870912 h0 h1 (by simp)
  have m1 := mulI_bd (xsI x 536870912) 10321020848683521121
  have b2 := xsI_bd _ 4294967296 m1.1 m1.2 (by simp)
  have m2 := mulI_bd (xsI (mulI (xsI x 536870912) 10321020848683521121) 4294967296) 7694936916205891629
  go_enter Try.func18, Try.ntmps18
  go_wp2_with fail
  refine (times_any (xsI x 536870912) 10321020848683521121 b1.1 b1.2 (by decide) (by decide) _).mono ?_
  rintro e w' ⟨rfl, rfl⟩
  generalize hy : mulI (xsI x 536870912) 10321020848683521121 = y at *
  have Hy := Lib.hid hy
  clear hy
  obtain ⟨hy0, hy1⟩ : 0 ≤ y ∧ y < 18446744073709551616 := m1
  go_wp2_with fail
  refine (times_any (xsI y 4294967296) 7694936916205891629 b2.1 b2.2 (by decide) (by decide) _).mono ?_
  rintro e w' ⟨rfl, rfl⟩
  generalize hz : mulI (xsI y 4294967296) 7694936916205891629 = z at *
  have Hz := Lib.hid hz
  clear hz
  obtain ⟨hz0, hz1⟩ : 0 ≤ z ∧ z < 18446744073709551616 := m2
  go_wp2
  go_ret
  exact ⟨ret_int (by unfold mixI; rw [Hy.out, Hz.out]; rfl), rfl⟩

def invI (a : Int) : Nat → Int
  | 0 => a
  | k + 1 => mulI (invI a k) (IntKind.u64.wrap (2 - mulI a (invI a k)))
theorem invI_bd (a : Int) (h0 : 0 ≤ a) (h1 : a < M64) (k : Nat) : 0 ≤ invI a k ∧ invI a k < M64 := by
  cases k with
  | zero => exact ⟨h0, h1⟩
  | succ k => exact mulI_bd _ _
theorem inverse_any (a : Int) (h0 : 0 ≤ a) (h1 : a < M64) (w : World) :
    Calls Try.prog 49 #[.int .u64 a] w fun e w' => e = .returned (.int .u64 (invI a 5)) ∧ w = w' := by
  go_enter Try.func49, Try.ntmps49
  go_wp2
  go_loop [3, 5] (fun x i => ∃ k : Nat, k ≤ 5 ∧ i = .int .i64 k ∧ x = .int .u64 (invI a k)) (fun _ i => 5 - (intOf i).toNat)
  case atStart => exact ⟨0, by omega, rfl, rfl⟩
  case round =>
    obtain ⟨k, hk, rfl, rfl⟩ := hrel
    by_cases hlt : k < 5
    · go_wp2
      go_round
      case rel => exact ⟨k + 1, by omega, by go_num, rfl⟩
      case measure => simp [intOf]; omega
    · obtain rfl : k = 5 := by omega
      go_wp2
      go_ret
      exact ⟨rfl, rfl⟩

def itI (u p : Int) : Nat → Int
  | 0 => u
  | k + 1 => bits .xor .u64 u (itI u p k / p)
theorem itI_nat (u s : Nat) (p : Int) (hu : u < 18446744073709551616) (hp : p = ((2 ^ s : Nat) : Int)) (k : Nat) : itI u p k = ((itU u s k : Nat) : Int) := by
  induction k with
  | zero => rfl
  | succ k ih =>
    show bits .xor .u64 (u : Int) (itI u p k / p) = _
    have h1 := itU_lt u s k 64 hu
    rw [ih, hp, ← Int.natCast_ediv, u64_xor_nat _ _ hu (Nat.lt_of_le_of_lt (Nat.div_le_self _ _) h1)]
    rfl
theorem unturn_any (u n p : Int) (r : Nat) (h0 : 0 ≤ u) (h1 : u < M64) (hn : n = 28 ∧ r = 2 ∧ p = 268435456 ∨ n = 32 ∧ r = 1 ∧ p = 4294967296 ∨ n = 29 ∧ r = 2 ∧ p = 536870912) (w : World) :
    Calls Try.prog 48 #[.int .u64 u, .int .i64 n] w fun e w' => e = .returned (.int .u64 (itI u p r)) ∧ w = w' := by
  have hu : u < 18446744073709551616 := h1
  have rest : 1 ≤ r ∧ r ≤ 2 := by omega
  rcases hn with ⟨rfl, rfl, rfl⟩ | ⟨rfl, rfl, rfl⟩ | ⟨rfl, rfl, rfl⟩
  · go_enter Try.func48, Try.ntmps48
    go_wp2
    go_loop [5, 6] (fun v i => ∃ k : Nat, k ≤ 2 ∧ i = .int .i64 (28 * (k + 1)) ∧ v = .int .u64 (itI u 268435456 k)) (fun _ i => 100 - (intOf i).toNat)
    case atStart => exact ⟨0, by omega, rfl, rfl⟩
    case round =>
      obtain ⟨k, hk, rfl, rfl⟩ := hrel
      by_cases hlt : k < 2
      · go_wp2
        go_round
        case rel => exact ⟨k + 1, by omega, by go_num, rfl⟩
        case measure => simp [intOf]; omega
      · obtain rfl : k = 2 := by omega
        go_wp2
        go_ret
        exact ⟨rfl, rfl⟩
  · go_enter Try.func48, Try.ntmps48
    go_wp2
    go_loop [5, 6] (fun v i => ∃ k : Nat, k ≤ 1 ∧ i = .int .i64 (32 * (k + 1)) ∧ v = .int .u64 (itI u 4294967296 k)) (fun _ i => 100 - (intOf i).toNat)
    case atStart => exact ⟨0, by omega, rfl, rfl⟩
    case round =>
      obtain ⟨k, hk, rfl, rfl⟩ := hrel
      by_cases hlt : k < 1
      · go_wp2
        go_round
        case rel => exact ⟨k + 1, by omega, by go_num, rfl⟩
        case measure => simp [intOf]; omega
      · obtain rfl : k = 1 := by omega
        go_wp2
        go_ret
        exact ⟨rfl, rfl⟩
  · go_enter Try.func48, Try.ntmps48
    go_wp2
    go_loop [5, 6] (fun v i => ∃ k : Nat, k ≤ 2 ∧ i = .int .i64 (29 * (k + 1)) ∧ v = .int .u64 (itI u 536870912 k)) (fun _ i => 100 - (intOf i).toNat)
    case atStart => exact ⟨0, by omega, rfl, rfl⟩
    case round =>
      obtain ⟨k, hk, rfl, rfl⟩ := hrel
      by_cases hlt : k < 2
      · go_wp2
        go_round
        case rel => exact ⟨k + 1, by omega, by go_num, rfl⟩
        case measure => simp [intOf]; omega
      · obtain rfl : k = 2 := by omega
        go_wp2
        go_ret
        exact ⟨rfl, rfl⟩


theorem itI_bd (u p : Int) (k : Nat) (h0 : 0 ≤ u) (h1 : u < M64) (hp : p = 536870912 ∨ p = 4294967296 ∨ p = 268435456) : 0 ≤ itI u p k ∧ itI u p k < M64 := by
  obtain ⟨u, rfl⟩ := Int.eq_ofNat_of_zero_le h0
  have hu : u < 18446744073709551616 := by unfold M64 at h1; omega
  have key : ∀ s, p = ((2 ^ s : Nat) : Int) → 0 ≤ itI u p k ∧ itI u p k < M64 := by
    intro s hs
    rw [itI_nat u s p hu hs]
    have := itU_lt u s k 64 hu
    unfold M64
    omega
  rcases hp with h | h | h
  · exact key 29 (h.trans rfl)
  · exact key 32 (h.trans rfl)
  · exact key 28 (h.trans rfl)

def unmixI (u : Int) : Int := itI (mulI (itI (mulI (itI u 268435456 2) (invI 7694936916205891629 5)) 4294967296 1) (invI 10321020848683521121 5)) 536870912 2

theorem unmix_any (x : Int) (h0 : 0 ≤ x) (h1 : x < M64) (w : World) :
    Calls Try.prog 19 #[.int .u64 x] w fun e w' => e = .returned (.int .u64 (unmixI x)) ∧ w = w' := by
  have b1 := itI_bd x 268435456 2 h0 h1 (by simp)
  go_enter Try.func19, Try.ntmps19
  go_wp2_with fail
  refine (unturn_any x 28 268435456 2 h0 h1 (by simp) _).mono ?_
  rintro e w' ⟨rfl, rfl⟩
  generalize hy : itI x 268435456 2 = y at *
  have Hy := Lib.hid hy
  clear hy
  go_wp2_with fail
  refine (inverse_any 7694936916205891629 (by decide) (by decide) _).mono ?_
  rintro e w' ⟨rfl, rfl⟩
  generalize hi : invI 7694936916205891629 5 = i at *
  have Hi := Lib.hid hi
  clear hi
  have m1 := mulI_bd y i
  have b2 := itI_bd (mulI y i) 4294967296 1 m1.1 m1.2 (by simp)
  go_wp2_with fail
  refine (unturn_any (mulI y i) 32 4294967296 1 m1.1 m1.2 (by simp) _).mono ?_
  rintro e w' ⟨rfl, rfl⟩
  generalize hz : itI (mulI y i) 4294967296 1 = z at *
  have Hz := Lib.hid hz
  clear hz
  go_wp2_with fail
  refine (inverse_any 10321020848683521121 (by decide) (by decide) _).mono ?_
  rintro e w' ⟨rfl, rfl⟩
  generalize hj : invI 10321020848683521121 5 = j at *
  have Hj := Lib.hid hj
  clear hj
  have m2 := mulI_bd z j
  go_wp2_with fail
  refine (unturn_any (mulI z j) 29 536870912 2 m2.1 m2.2 (by simp) _).mono ?_
  rintro e w' ⟨rfl, rfl⟩
  go_wp2
  go_ret
  exact ⟨ret_int (by unfold unmixI; rw [Hy.out, Hi.out, Hz.out, Hj.out]), rfl⟩

theorem inv1 : invI 7694936916205891629 5 = 6263247216084901797 := by decide +kernel
theorem inv2 : invI 10321020848683521121 5 = 6334239490909081505 := by decide +kernel

theorem unmixI_nat (u : Nat) (hu : u < 18446744073709551616) : unmixI u = ((unmixN u : Nat) : Int) := by
  unfold unmixI unmixN
  rw [inv1, inv2, itI_nat u 28 268435456 hu rfl, mulI_nat _ 6263247216084901797 6263247216084901797 rfl, itI_nat _ 32 4294967296 (Nat.mod_lt _ (by decide)) rfl,
    mulI_nat _ 6334239490909081505 6334239490909081505 rfl, itI_nat _ 29 536870912 (Nat.mod_lt _ (by decide)) rfl]

theorem unmixI_bd (x : Int) (h0 : 0 ≤ x) (h1 : x < M64) : 0 ≤ unmixI x ∧ unmixI x < M64 := by
  unfold unmixI
  exact itI_bd _ _ _ (mulI_bd _ _).1 (mulI_bd _ _).2 (by simp)

theorem mixI_unmixI (x : Int) (h0 : 0 ≤ x) (h1 : x < M64) : mixI (unmixI x) = x := by
  obtain ⟨u, rfl⟩ := Int.eq_ofNat_of_zero_le h0
  have hu : u < 18446744073709551616 := by unfold M64 at h1; omega
  have h2 := unmixI_bd (u : Int) h0 h1
  rw [unmixI_nat u hu] at h2 ⊢
  have h3 : unmixN u < 18446744073709551616 := by unfold M64 at h2; omega
  rw [mixI_nat _ h3, mix_unmix u hu]

/-- The hash after k bytes. -/
def hashI (u : Int) (l : List Int) : Nat → Int
  | 0 => mixI u
  | k + 1 => mixI (IntKind.u64.wrap (IntKind.u64.wrap (hashI u l k + l.getD k 0) + IntKind.u64.wrap (256 * k)))
theorem hashI_bd (u : Int) (l : List Int) (h0 : 0 ≤ u) (h1 : u < M64) (k : Nat) : 0 ≤ hashI u l k ∧ hashI u l k < M64 := by
  cases k with
  | zero => exact mixI_bd _ h0 h1
  | succ k => exact mixI_bd _ (by rw [IntKind.wrap_u64]; exact Int.emod_nonneg _ (by decide)) (by rw [IntKind.wrap_u64]; exact Int.emod_lt_of_pos _ (by decide))

theorem of_any (u : Int) (v : Value) (n : Nat) (l : List Int) (h0 : 0 ≤ u) (h1 : u < M64) (w : World) (hv : Sl w 1 v n (l.map (Value.int .u8))) (hl : ∀ z ∈ l, (Lit.int .u8 z).wf = true) :
    Calls Try.prog 20 #[.int .u64 u, v] w fun e w' => e = .returned (.int .u64 (hashI u l n)) ∧ w = w' := by
  obtain ⟨ao, c, rfl, hn, hc, hlen⟩ := hv.shape
  have hb := mixI_bd u h0 h1
  go_enter Try.func20, Try.ntmps20
  go_wp2_with fail
  refine (mix_any u h0 h1 _).mono ?_
  rintro e w' ⟨rfl, rfl⟩
  go_wp2_with fail
  go_loop [5, 12] (fun x i => ∃ k : Nat, k ≤ n ∧ i = .int .i64 k ∧ x = .int .u64 (hashI u l k)) (fun _ i => n - (intOf i).toNat)
  case atStart => exact ⟨0, by omega, rfl, rfl⟩
  case round =>
    obtain ⟨k, hk, rfl, rfl⟩ := hrel
    by_cases hlt : k < n
    · obtain ⟨b, off, z, rfl, hcell, hz0, hz1, HZ⟩ := hv.byte hl hlt
      have hs := hashI_bd u l h0 h1 k
      go_wp2_with fail
      refine (mix_any _ (by rw [IntKind.wrap_u64]; exact Int.emod_nonneg _ (by decide)) (by rw [IntKind.wrap_u64]; exact Int.emod_lt_of_pos _ (by decide)) _).mono ?_
      rintro e w' ⟨rfl, rfl⟩
      go_wp2
      go_round
      case rel => exact ⟨k + 1, by omega, by go_num, by rw [hashI, HZ.out]⟩
      case measure => simp [intOf]; omega
    · obtain rfl : k = n := by omega
      go_wp2
      go_ret
      exact ⟨rfl, rfl⟩

theorem hashof_any (u : Int) (v : Value) (n : Nat) (l : List Int) (h0 : 0 ≤ u) (h1 : u < M64) (w : World) (hv : Sl w 1 v n (l.map (Value.int .u8))) (hl : ∀ z ∈ l, (Lit.int .u8 z).wf = true) :
    Calls Try.prog 21 #[.int .u64 u, v] w fun e w' => e = .returned (.int .u64 (hashI u l n)) ∧ w = w' := by
  obtain ⟨ao, c, rfl, hn, hc, hlen⟩ := hv.shape
  have hb := mixI_bd u h0 h1
  go_enter Try.func21, Try.ntmps21
  go_wp2_with fail
  refine (mixed_any u h0 h1 _).mono ?_
  rintro e w' ⟨rfl, rfl⟩
  go_wp2_with fail
  go_loop [5, 11] (fun x i => ∃ k : Nat, k ≤ n ∧ i = .int .i64 k ∧ x = .int .u64 (hashI u l k)) (fun _ i => n - (intOf i).toNat)
  case atStart => exact ⟨0, by omega, rfl, rfl⟩
  case round =>
    obtain ⟨k, hk, rfl, rfl⟩ := hrel
    by_cases hlt : k < n
    · obtain ⟨b, off, z, rfl, hcell, hz0, hz1, HZ⟩ := hv.byte hl hlt
      have hs := hashI_bd u l h0 h1 k
      go_wp2_with fail
      refine (mixed_any _ (by rw [IntKind.wrap_u64]; exact Int.emod_nonneg _ (by decide)) (by rw [IntKind.wrap_u64]; exact Int.emod_lt_of_pos _ (by decide)) _).mono ?_
      rintro e w' ⟨rfl, rfl⟩
      go_wp2
      go_round
      case rel => exact ⟨k + 1, by omega, by go_num, by rw [hashI, HZ.out, Int.mul_comm 256]⟩
      case measure => simp [intOf]; omega
    · obtain rfl : k = n := by omega
      go_wp2
      go_ret
      exact ⟨rfl, rfl⟩
end Go.Proofs.Ytlfhcjhbnakamaa.Hash
/-
  Sieves: the walk of Add.
-/
namespace Go.Proofs.Ytlfhcjhbnakamaa.Lst
open Go.RowKit Go.Gh Go.Proofs.Ytlfhcjhbnakamaa.Qs
set_option linter.unusedVariables false
set_option linter.unusedSimpArgs false
theorem wp_append {P : Program} {o : Oper} {a : Act} {W W' : World} {K : Act → World → Prop} {Q : Exit → Act → World → Prop} {s x : Operand} {t : TypeId} {v y v' : Value} (ho : o.op = .call { callee := .builtin .append, args := #[s, x], argTypes := #[t, t] }) (hs : a.eval s = v) (hxv : a.eval x = y)
    (hr : (Builtin.append_ #[t, t] o.type #[v, y]).run P W = .ok v' W') (h : K (a.put o.dst v') W') : Oper.wp P o a W K Q := by
  unfold Oper.wp execOp
  simp only [ho, resolve, invoke, builtin, Sem.run_bind, Sem.run_pure, Result.andThen_ok, List.map_toArray, List.map_cons, List.map_nil, hs, hxv, hr]
  exact h
theorem step_app_gen {P : Program} {ops : Array Oper} {o : Oper} {a : Act} {K : Act → World → Prop} {Q : Exit → Act → World → Prop} {E : Prop} {W : World} {B : Nat} {t e : TypeId} {size bytes n m c : Nat} {ao : Option Addr} {xs news : List Value} {v : Value}
    (el : Elem P t e size bytes) (hgd : o.guard = none) (s x : Operand) (ho : o.op = .call { callee := .builtin .append, args := #[s, x], argTypes := #[t, t] })
    (hown : W.ownsRow B e size v n xs) (hs : a.eval s = v) (hx : a.eval x = .slice ao m c) (hsl : Sl W size (.slice ao m c) m news) (h1 : ∀ u ∈ news, u.oneCell' = true) (h47 : (n + m) * bytes ≤ 140737488355328) (h63 : n + m ≤ 9223372036854775807) (hB : B ≤ W.heap.size)
    (h : ∀ v' w', w'.ownsRow B e size v' (n + m) (xs ++ news) → W.grownBy w' v.ownBlock → K (a.put o.dst v') w') :
    if Region.wanted o (yielded ops a.tmps) = true then Oper.wp P o a W K Q else E := by
  have hw : Region.wanted o (yielded ops a.tmps) = true := by unfold Region.wanted; rw [hgd]
  rw [if_pos hw]
  obtain ⟨v', w', hr, h2, h3⟩ := run_append_gen (P := P) (t := t) (ty := o.type) el hown hsl h1 h47 h63 hB
  exact wp_append ho hs hx hr (h v' w' h2 h3)
set_option maxHeartbeats 8000000 in
set_option maxRecDepth 100000 in
theorem ladd_any (v u : Value) (s : Ls) (p : Nat) (d : List Int) (w : World) (hv : LsV w v s) (hu : Sl w 1 u p (d.map (Value.int .u8))) (hd : ∀ z ∈ d, (Lit.int .u8 z).wf = true) :
    Calls Try.prog 30 #[v, u] w fun e w' => ∃ v', e = .returned (.tuple #[v', .int .i64 (lsF s)]) ∧ LsV w' v' (if lsF s = 0 then svU s (Hash.hashI 0 d p) else ⟨0, []⟩) ∧ Below w.heap.size w w' := by
  have hck := fun W (hW : Below w.heap.size w W) => lcheck_any v s W (hv.below hW)
  obtain ⟨F, hF⟩ : ∃ F, lsF s = F := ⟨_, rfl⟩
  have HV := Lib.hid hv
  have HF := Lib.hid hF
  rw [hF] at hck ⊢
  obtain ⟨t, rfl, hs, hz, hk1, hk2, hn9⟩ := hv
  obtain ⟨K, l⟩ := s
  have hs : Sl w 1 t l.length (l.map (Value.int .u64)) := hs
  have hz : ∀ z ∈ l, U64 z := hz
  obtain ⟨n, hn⟩ : ∃ n, l.length = n := ⟨_, rfl⟩
  rw [hn] at hs
  obtain ⟨ao, c, rfl, hnc, hc, -⟩ := hs.shape
  obtain ⟨uo, uc, rfl, huc, huc2, -⟩ := hu.shape
  have hck : ∀ W, Below w.heap.size w W → Calls Try.prog 35 #[.agg #[.int .i64 K, .slice ao n c]] W fun e w' => e = .returned (.int .i64 F) ∧ Below W.heap.size W w' := hck
  obtain ⟨wa, hwa, hbox, hba, hsa⟩ := box_ls w (.int .i64 K) (.slice ao n c)
  obtain ⟨wb, hwb, hbox4, hbb, hsb⟩ := box_ls wa (.int .i64 0) (.slice none 0 0)
  have hz1 : wa.heap.size = w.heap.size + 1 := by rw [hwa]; simp
  have hbx := (hbb.block _ hsa).trans hbox
  have hBB := hba.trans (hbb.mono hba.size)
  obtain ⟨b2, hb2⟩ : ∃ x, w.heap.size = x := ⟨_, rfl⟩
  obtain ⟨b4, hb4⟩ : ∃ x, wa.heap.size = x := ⟨_, rfl⟩
  have hl2 : b2 < wb.heap.size := by rw [← hb2]; omega
  have hl4 : b4 < wb.heap.size := by rw [← hb4]; exact hsb
  have HCK := Lib.hid (hck wb hBB)
  rw [hb2] at hbx
  rw [hb4] at hbox4
  have HE2 := Lib.hid (And.intro hb2 (And.intro hb4 hz1))
  have HWA := Lib.hid hwa
  have HWB := Lib.hid hwb
  have HBB := Lib.hid hBB
  have HX2 := Lib.hid hbx
  have HX4 := Lib.hid hbox4
  have HSL := Lib.hid hs
  have HN := Lib.hid hn
  have HUA := Lib.hid hz
  have HU := Lib.hid hu
  have HD := Lib.hid hd
  obtain ⟨⟨d0, d1⟩, -⟩ := bx2 hbx
  clear hs hz hn hu hd hck hF hwa hwb hbox hbox4 hba hbb hsa hsb hz1 hBB hb2 hb4 hbx hk1 hk2 hn9
  go_enter Try.func30, Try.ntmps30
  go_upto_region 1 with (fail)
  rw [← HWA.out, ← HWB.out, ← HE2.out.2.2, HE2.out.1, HE2.out.2.1]
  go_wp2_with fail
  refine HCK.out.mono ?_
  rintro e w1 ⟨rfl, hb1⟩
  have HB1 := Lib.hid hb1
  have HX21 := Lib.hid ((hb1.block _ hl2).trans HX2.out)
  have HX41 := Lib.hid ((hb1.block _ hl4).trans HX4.out)
  have hl21 := Nat.lt_of_lt_of_le hl2 hb1.size
  have hl41 := Nat.lt_of_lt_of_le hl4 hb1.size
  clear hb1 d0 d1 HX2 HX4
  by_cases hF0 : F = 0
  case neg =>
    have hne : (F != 0) = true := by rw [bne_iff_ne]; exact hF0
    obtain ⟨⟨q0, q1⟩, ⟨g0, g1⟩⟩ := bx2 HX41.out
    have hq := fun x y => bx2_store (c := x) (d := y) HX41.out
    have HQ := Lib.hid hq
    clear hq
    go_wp2_with fail
    obtain ⟨⟨c0, c1⟩, -⟩ := bx2 (HQ.out (.int .i64 0) (.slice none 0 0))
    refine bodyPost_ret (v := .tuple #[.agg #[.int .i64 0, .slice none 0 0], .int .i64 F]) (by simp [results, Try.results30, go_sem, c0, c1]) rfl ?_
    try rw [if_neg hF0]
    have hw4 : w.heap.size ≤ b4 := by rw [← HE2.out.2.1]; have := HE2.out.2.2; omega
    exact ⟨_, rfl, ⟨_, rfl, own_sl (World.ownsRow_nil _ w.heap.size 22 _), (fun z hz => by cases hz), by decide, by decide, by decide⟩, ((HBB.out.trans (HB1.out.mono HBB.out.size)).setCell (p := ⟨b4, 0, none⟩) hw4 _).setCell (p := ⟨b4, 1, none⟩) hw4 _⟩
  subst hF0
  obtain ⟨g1, g2, g3, hris⟩ := lsF_ok HF.out
  have g1 : 2 ≤ K := g1
  have g2 : K ≤ 64 := g2
  have g3 : (l.length : Int) ≤ K := g3
  have hris : Ris l := hris
  obtain ⟨KN, rfl⟩ : ∃ KN : Nat, K = (KN : Int) := ⟨K.toNat, by omega⟩
  have hn64 : n ≤ 64 := by rw [← HN.out]; omega
  obtain ⟨H, hH⟩ : ∃ H, Hash.hashI 0 d p = H := ⟨_, rfl⟩
  have hHU : U64 H := by rw [← hH]; exact Hash.hashI_bd 0 d (by decide) (by decide) p
  have HW1 := Lib.hid (HBB.out.trans (HB1.out.mono HBB.out.size))
  have hge := HW1.out.size
  have HCLN : Hid (∀ W, Below w1.heap.size w1 W → Calls Try.prog 57 #[.slice ao n c] W (fun e w' => ∃ v', e = .returned v' ∧ w'.ownsRow w1.heap.size 22 1 v' n (l.map (Value.int .u64)) ∧ Below w1.heap.size w1 w' ∧ Below W.heap.size W w')) := Lib.hid (fun W hW => (clone_u64 _ n l W (HSL.out.below (HW1.out.trans (hW.mono hge))) (by omega)).mono (by
    rintro e w' ⟨v', rfl, ho, hb⟩
    exact ⟨v', rfl, own_mono ho hW.size, hW.trans (hb.mono hW.size), hb⟩))
  have HOF : Hid (∀ W, Below w1.heap.size w1 W → Calls Try.prog 20 #[.int .u64 0, .slice uo p uc] W (fun e w' => e = .returned (.int .u64 H) ∧ W = w')) := Lib.hid (fun W hW => by
    rw [← hH]
    exact Hash.of_any 0 _ p d (by decide) (by decide) W (HU.out.below (HW1.out.trans (hW.mono hge))) HD.out)
  have HXS : Hid (∀ W, Below w1.heap.size w1 W → W.cell? ⟨b2, 0, none⟩ = some (.int .i64 (KN : Int)) ∧ W.cell? ⟨b2, 1, none⟩ = some (.slice ao n c)) := Lib.hid (fun W hW => (bx2 ((hW.block _ hl21).trans HX21.out)).1)
  have HX4 : Hid (∀ W, Below w1.heap.size w1 W → W.heap[b4]? = some (.cells #[.int .i64 0, .slice none 0 0] 46 (0, 0))) := Lib.hid (fun W hW => (hW.block _ hl41).trans HX41.out)
  have hn24 : b2 ≠ b4 := by rw [← HE2.out.1, ← HE2.out.2.1, HE2.out.2.2]; omega
  have hn42 : b4 ≠ b2 := fun h => hn24 h.symm
  go_upto_region 4 with (fail)
  have hbd : Below w1.heap.size w1 w1.drew := (Below.refl _ w1).drew
  have hbe : ∀ o, Below w1.heap.size w1 (w1.alloc o).drew := fun o => ((Below.refl _ w1).alloc (Nat.le_refl _) o).drew
  have z0 := HXS.out _ hbd
  have z0a := fun o => HXS.out _ (hbe o)
  go_region_held3 (fun w' => w'.cell? ⟨b2, 0, none⟩ = some (.int .i64 (KN : Int)) ∧ w'.cell? ⟨b2, 1, none⟩ = some (.slice ao n c)) (first | (with_reducible exact z5) | (with_reducible exact z4) | (with_reducible exact z1) | (with_reducible exact z1a _) | (with_reducible exact z0) | (with_reducible exact z0a _) | go_keep) (first
    | (go_at_call 57; refine (HCLN.out _ (by first | exact hbd | exact hbe _)).mono ?_; rintro e w2 ⟨v2, rfl, hown2, hb2, hbW⟩; obtain ⟨co, cc, rfl, hcc, -, -⟩ := own_shape hown2; have z1 := HXS.out _ hb2; have z1a := fun o => HXS.out _ (hb2.alloc hb2.size o); try (have hsl2 : Sl w2 1 (.slice (some ⟨w1.heap.size, 0, none⟩) 1 1) 1 [.int .u64 H] := (sl_new w1.drew [.int .u64 H] rfl (by decide)).below hbW))
    | (go_at_call 20; refine (HOF.out _ (by first | exact hbd | exact hb2)).mono ?_; rintro e w3 ⟨rfl, rfl⟩)
    | ((first
        | (refine step_app_gen (B := w1.heap.size) (news := [.int .u64 H]) elU64 rfl _ _ rfl (hown2.alloc _) rfl rfl (sl_new w2 [.int .u64 H] rfl (by decide)) (by intro x hx; simp at hx; subst hx; rfl) (by omega) (by omega) (by have := hb2.size; simp; omega) ?_; intro v4 w4 hown4 hgr4; have hb4 : Below w1.heap.size w1 w4 := (hb2.alloc hb2.size _).grown hgr4 (by have := hb2.size; simp; omega) (fun k hk => (hown2.lt k hk).1))
        | (refine step_app_gen (B := w1.heap.size) (news := [.int .u64 H]) elU64 rfl _ _ rfl hown2 rfl rfl hsl2 (by intro x hx; simp at hx; subst hx; rfl) (by omega) (by omega) hb2.size ?_; intro v4 w4 hown4 hgr4; have hb4 : Below w1.heap.size w1 w4 := hb2.grown hgr4 hb2.size (fun k hk => (hown2.lt k hk).1))); have z4 := HXS.out _ hb4; have hown4' : w4.ownsRow w1.heap.size 22 1 v4 (l ++ [H]).length ((l ++ [H]).map (Value.int .u64)) := (by rw [List.length_append, HN.out, List.map_append]; exact hown4))
    | (go_at_call 56; refine (kept_any KN w1.heap.size v4 (l ++ [H]) w4 hown4' (by rw [List.length_append, HN.out]; simp; omega) hb4.size (by omega)).mono ?_; rintro e w5 ⟨t5, rfl, hown5, hb5⟩; obtain ⟨m5, hm5⟩ : ∃ m5, ((setL (l ++ [H])).take KN).length = m5 := ⟨_, rfl⟩; rw [hm5] at hown5; obtain ⟨o5, c5, rfl, -, -, -⟩ := own_shape hown5; have hb9 := hb4.trans hb5; have z5 := HXS.out _ hb9; obtain ⟨⟨q0, q1⟩, ⟨f0, f1⟩⟩ := bx2 (HX4.out _ hb9)))
  all_goals
    have hbx4 := HX4.out _ hb9
    have hne4 := own_block_ne hown5 hbx4 (by decide)
    have hw4 : w.heap.size ≤ b4 := by rw [← HE2.out.2.1]; have := HE2.out.2.2; omega
    have hfb := ((HW1.out.trans (hb9.mono hge)).setCell (p := ⟨b4, 0, none⟩) hw4 (.int .i64 (KN : Int))).setCell (p := ⟨b4, 1, none⟩) hw4 (.slice o5 m5 c5)
    have hfo := ownsRow_setCell_other (ownsRow_setCell_other hown5 (a := ⟨b4, 0, none⟩) hne4 (.int .i64 (KN : Int))) (a := ⟨b4, 1, none⟩) hne4 (.slice o5 m5 c5)
    obtain ⟨⟨c0, c1⟩, -⟩ := bx2 (bx2_store (c := .int .i64 (KN : Int)) (d := .slice o5 m5 c5) hbx4)
    have hsv : svU ⟨(KN : Int), l⟩ H = ⟨(KN : Int), (setL (l ++ [H])).take KN⟩ := by rw [svU_set hris]; rfl
    have HFB := Lib.hid hfb
    have HFO := Lib.hid hfo
    have HSV := Lib.hid hsv
    have HM5 := Lib.hid hm5
    clear hfb hfo hsv hm5 z0 z0a z1 z1a z4 z5
    go_wp2_with fail
    refine bodyPost_ret (v := .tuple #[.agg #[.int .i64 (KN : Int), .slice o5 m5 c5], .int .i64 0]) (by simp [results, Try.results30, go_sem, c0, c1]) rfl ?_
    try rw [if_pos rfl]
    try rw [hH]
    rw [HSV.out]
    refine ⟨_, rfl, ⟨_, rfl, ?_, ?_, by show -9223372036854775808 ≤ (KN : Int); omega, by show (KN : Int) < 9223372036854775808; omega, ?_⟩, HFB.out⟩
    · show Sl _ 1 _ ((setL (l ++ [H])).take KN).length (((setL (l ++ [H])).take KN).map (Value.int .u64))
      rw [HM5.out]
      exact own_sl HFO.out
    · intro z hz
      rcases List.mem_append.1 (mem_setL.1 (List.mem_of_mem_take hz)) with h | h
      · exact HUA.out z h
      · obtain rfl : z = H := by simpa using h
        exact hHU
    · show ((setL (l ++ [H])).take KN).length ≤ 140737488355328
      rw [List.length_take]
      omega
end Go.Proofs.Ytlfhcjhbnakamaa.Lst
/-
  Sieves: the walk of Merge (PRINTED by mklt8.py).
-/
namespace Go.Proofs.Ytlfhcjhbnakamaa.Lst
open Go.RowKit Go.Gh Go.Proofs.Ytlfhcjhbnakamaa.Qs
set_option linter.unusedVariables false
set_option linter.unusedSimpArgs false
def mergeL (s t : Ls) : Ls × Int := if lsF s ≠ 0 then (⟨0, []⟩, lsF s) else if lsF t ≠ 0 then (⟨0, []⟩, lsF t) else if s.k ≠ t.k then (⟨0, []⟩, 1) else (⟨s.k, (setL (s.h ++ t.h)).take s.k.toNat⟩, 0)
theorem lsv_zero (w : World) : LsV w (.agg #[.int .i64 0, .slice none 0 0]) ⟨0, []⟩ := ⟨_, rfl, own_sl (World.ownsRow_nil _ w.heap.size 22 _), (fun z hz => by cases hz), by decide, by decide, by decide⟩
set_option maxHeartbeats 16000000 in
set_option maxRecDepth 100000 in
theorem lmerge_any (v v' : Value) (s t : Ls) (w : World) (hv : LsV w v s) (hv' : LsV w v' t) :
    Calls Try.prog 31 #[v, v'] w fun e w' => ∃ u, e = .returned (.tuple #[u, .int .i64 (mergeL s t).2]) ∧ LsV w' u (mergeL s t).1 ∧ Below w.heap.size w w' := by
  have hck := fun W (hW : Below w.heap.size w W) => lcheck_any v s W (hv.below hW)
  have hck' := fun W (hW : Below w.heap.size w W) => lcheck_any v' t W (hv'.below hW)
  obtain ⟨F, hF⟩ : ∃ F, lsF s = F := ⟨_, rfl⟩
  obtain ⟨F', hF'⟩ : ∃ F, lsF t = F := ⟨_, rfl⟩
  have HF1 := Lib.hid hF
  have HF2 := Lib.hid hF'
  rw [hF] at hck
  rw [hF'] at hck'
  obtain ⟨ts, rfl, hs, hz, -⟩ := hv
  obtain ⟨ts', rfl, hs', hz', -⟩ := hv'
  obtain ⟨K, l⟩ := s
  obtain ⟨K', l'⟩ := t
  have hs : Sl w 1 ts l.length (l.map (Value.int .u64)) := hs
  have hz : ∀ z ∈ l, U64 z := hz
  have hs' : Sl w 1 ts' l'.length (l'.map (Value.int .u64)) := hs'
  have hz' : ∀ z ∈ l', U64 z := hz'
  have HSL0 := Lib.hid hs
  have HSL0' := Lib.hid hs'
  obtain ⟨n, hn⟩ : ∃ n, l.length = n := ⟨_, rfl⟩
  obtain ⟨m, hm⟩ : ∃ n, l'.length = n := ⟨_, rfl⟩
  rw [hn] at hs HSL0
  rw [hm] at hs' HSL0'
  obtain ⟨ao, c, rfl, hnc, hc, -⟩ := hs.shape
  obtain ⟨ao', c', rfl, hnc', hc', -⟩ := hs'.shape
  have HCK : Hid (∀ W, Below w.heap.size w W → Calls Try.prog 35 #[.agg #[.int .i64 K, .slice ao n c]] W fun e w' => e = .returned (.int .i64 F) ∧ Below W.heap.size W w') := Lib.hid hck
  have HCK' : Hid (∀ W, Below w.heap.size w W → Calls Try.prog 35 #[.agg #[.int .i64 K', .slice ao' m c']] W fun e w' => e = .returned (.int .i64 F') ∧ Below W.heap.size W w') := Lib.hid hck'
  obtain ⟨wa, hwa, hbox2, hba, hsa⟩ := box_ls w (.int .i64 K) (.slice ao n c)
  obtain ⟨wb, hwb, hbox3, hbb, hsb⟩ := box_ls wa (.int .i64 K') (.slice ao' m c')
  obtain ⟨wc, hwc, hbox4, hbc, hsc⟩ := box_ls wb (.int .i64 0) (.slice none 0 0)
  obtain ⟨wd, hwd⟩ : ∃ wd, wd = wc.alloc (Obj.cells #[.int .i64 K, .slice ao n c, .int .i64 K', .slice ao' m c'] 46) := ⟨_, rfl⟩
  have hbox5 : wd.heap[wc.heap.size]? = some (.cells #[.int .i64 K, .slice ao n c, .int .i64 K', .slice ao' m c'] 46 (0, 0)) := by rw [hwd]; exact heap_alloc_new wc _
  have hbd : Below wc.heap.size wc wd := by rw [hwd]; exact (Below.refl _ _).alloc (Nat.le_refl _) _
  have hsd : wc.heap.size < wd.heap.size := by rw [hwd]; simp
  have hz1 : wa.heap.size = w.heap.size + 1 := by rw [hwa]; simp
  have hz2 : wb.heap.size = w.heap.size + 1 + 1 := by rw [hwb]; simp [hz1]
  have hz3 : wc.heap.size = w.heap.size + 1 + 1 + 1 := by rw [hwc]; simp [hz2]
  have hB2 := ((hbd.block _ (by omega)).trans ((hbc.block _ (by omega)).trans ((hbb.block _ hsa).trans hbox2)))
  have hB3 := ((hbd.block _ (by omega)).trans ((hbc.block _ hsb).trans hbox3))
  have hB4 := ((hbd.block _ hsc).trans hbox4)
  have hBD := ((hba.trans (hbb.mono (by omega))).trans (hbc.mono (by omega))).trans (hbd.mono (by omega))
  obtain ⟨b2, hb2⟩ : ∃ x, w.heap.size = x := ⟨_, rfl⟩
  obtain ⟨b3, hb3⟩ : ∃ x, wa.heap.size = x := ⟨_, rfl⟩
  obtain ⟨b4, hb4⟩ : ∃ x, wb.heap.size = x := ⟨_, rfl⟩
  obtain ⟨b5, hb5⟩ : ∃ x, wc.heap.size = x := ⟨_, rfl⟩
  have hl2 : b2 < wd.heap.size := by omega
  have hl3 : b3 < wd.heap.size := by omega
  have hl4 : b4 < wd.heap.size := by omega
  have hl5 : b5 < wd.heap.size := by omega
  have HW4 : Hid (w.heap.size ≤ b4) := Lib.hid (by omega)
  have hn24 : b2 ≠ b4 := by omega
  have hn34 : b3 ≠ b4 := by omega
  have hn42 : b4 ≠ b2 := by omega
  have hn43 : b4 ≠ b3 := by omega
  rw [hb2] at hB2
  rw [hb3] at hB3
  rw [hb4] at hB4
  rw [hb5] at hbox5
  have HX2 : Hid (∀ W, Below wd.heap.size wd W → W.heap[b2]? = some (.cells #[.int .i64 K, .slice ao n c] 46 (0, 0))) := Lib.hid (fun W hW => (hW.block _ hl2).trans hB2)
  have HX3 : Hid (∀ W, Below wd.heap.size wd W → W.heap[b3]? = some (.cells #[.int .i64 K', .slice ao' m c'] 46 (0, 0))) := Lib.hid (fun W hW => (hW.block _ hl3).trans hB3)
  have HX4 : Hid (∀ W, Below wd.heap.size wd W → W.heap[b4]? = some (.cells #[.int .i64 0, .slice none 0 0] 46 (0, 0))) := Lib.hid (fun W hW => (hW.block _ hl4).trans hB4)
  have HX5 : Hid (∀ W, Below wd.heap.size wd W → W.heap[b5]? = some (.cells #[.int .i64 K, .slice ao n c, .int .i64 K', .slice ao' m c'] 46 (0, 0))) := Lib.hid (fun W hW => (hW.block _ hl5).trans hbox5)
  have HWC := Lib.hid (And.intro hwa (And.intro hwb hwc))
  have HWD := Lib.hid hwd
  have HBD := Lib.hid hBD
  have HEQ := Lib.hid (And.intro hb2 (And.intro hb3 (And.intro hb4 hb5)))
  have HSZ := Lib.hid (And.intro hz1 (And.intro hz2 hz3))
  have HX2c : Hid (wc.heap[b2]? = some (.cells #[.int .i64 K, .slice ao n c] 46 (0, 0)) ∧ wc.heap[b3]? = some (.cells #[.int .i64 K', .slice ao' m c'] 46 (0, 0))) := Lib.hid ⟨by rw [← hB2, hbd.block _ (by omega)], by rw [← hB3, hbd.block _ (by omega)]⟩
  obtain ⟨⟨d0, d1⟩, -⟩ := bx2 HX2c.out.1
  obtain ⟨⟨e0, e1⟩, -⟩ := bx2 HX2c.out.2
  have HN := Lib.hid (And.intro hn hm)
  have HUA := Lib.hid (And.intro hz hz')
  clear hs hs' hz hz' hck hck' hF hF' hn hm hwa hwb hwc hwd hbox2 hbox3 hbox4 hbox5 hba hbb hbc hbd hsa hsb hsc hsd hz1 hz2 hz3 hB2 hB3 hB4 hBD hb2 hb3 hb4 hb5
  go_enter Try.func31, Try.ntmps31
  go_upto_region 1 with (fail)
  rw [← HWC.out.1, ← HWC.out.2.1, ← HWC.out.2.2, ← HSZ.out.2.1, ← HSZ.out.1, HEQ.out.2.2.1, HEQ.out.2.1, HEQ.out.1]
  go_wp2_with fail
  rw [← HWD.out]
  rw [HEQ.out.2.2.2]
  clear d0 d1 e0 e1
  go_loopw [7, 8, 13] (fun _ _ i wr => ∃ k : Int, (k = 0 ∨ k = 1 ∨ k = 2) ∧ i = .int .i64 k ∧ Hid (Below wd.heap.size wd wr) ∧ Hid ((1 ≤ k → F = 0) ∧ (2 ≤ k → F' = 0))) (fun _ _ i _ => (3 - intOf i).toNat)
  case atStart => exact ⟨0, Or.inl rfl, rfl, Lib.hid (Below.refl _ _), Lib.hid (by constructor <;> intro h <;> omega)⟩
  case round =>
    obtain ⟨k, hk, rfl, hbr, hdone⟩ := hrel
    obtain ⟨q0, q1, q2, q3⟩ := (bx4 (HX5.out _ hbr.out)).1
    rcases hk with rfl | rfl | rfl
    · have hbe := fun o => hbr.out.alloc (hbr.out.size) o
      have hcA := HCK.out _ (HBD.out.trans ((hbe (Obj.cells #[.int .i64 K, .slice ao n c] 46)).mono HBD.out.size))
      have HCA := Lib.hid hcA
      clear hcA
      by_cases hz : F = 0
      · have HNN : Hid ((1 ≤ (1 : Int) → F = 0) ∧ (2 ≤ (1 : Int) → F' = 0)) := Lib.hid ⟨fun _ => hz, fun h => by omega⟩
        have t1 : (F != 0) = false := by rw [hz]; rfl
        clear hz
        go_wp2_with fail
        refine HCA.out.mono ?_
        rintro e w1 ⟨rfl, hb1⟩
        go_wp2_with fail
        go_roundw
        case rel => exact ⟨1, by omega, by first | rfl | go_num, Lib.hid ((hbe _).trans (hb1.mono (by have := hbr.out.size; simp; omega))), HNN⟩
        case measure => simp [intOf]
      · have HF : Hid (mergeL ⟨K, l⟩ ⟨K', l'⟩ = (⟨0, []⟩, F)) := Lib.hid (by unfold mergeL; rw [if_pos (by rw [HF1.out]; exact hz), HF1.out])
        have t1 : (F != 0) = true := by rw [bne_iff_ne]; exact hz
        clear hz
        go_wp2_with fail
        refine HCA.out.mono ?_
        rintro e w1 ⟨rfl, hb1⟩
        have hbf : Below wd.heap.size wd w1 := (hbe _).trans (hb1.mono (by have := hbr.out.size; simp; omega))
        clear q0 q1 q2 q3
        have hz4 := HX4.out _ hbf
        obtain ⟨⟨r0, r1⟩, ⟨f0, f1⟩⟩ := bx2 hz4
        obtain ⟨⟨s0, s1⟩, -⟩ := bx2 (bx2_store (c := .int .i64 0) (d := .slice none 0 0) hz4)
        clear hz4
        go_wp2_with fail
        refine bodyPost_ret (v := .tuple #[.agg #[.int .i64 0, .slice none 0 0], .int .i64 F]) (by simp [results, Try.results31, go_sem, s0, s1]) rfl ?_
        rw [HF.out]
        exact ⟨_, rfl, lsv_zero _, ((HBD.out.trans (hbf.mono HBD.out.size)).setCell (p := ⟨b4, 0, none⟩) HW4.out _).setCell (p := ⟨b4, 1, none⟩) HW4.out _⟩
    · have hbe := fun o => hbr.out.alloc (hbr.out.size) o
      have hcA := HCK'.out _ (HBD.out.trans ((hbe (Obj.cells #[.int .i64 K', .slice ao' m c'] 46)).mono HBD.out.size))
      have HCA := Lib.hid hcA
      clear hcA
      by_cases hz : F' = 0
      · have HNN : Hid ((1 ≤ (2 : Int) → F = 0) ∧ (2 ≤ (2 : Int) → F' = 0)) := Lib.hid ⟨fun _ => hdone.out.1 (by omega), fun _ => hz⟩
        have t1 : (F' != 0) = false := by rw [hz]; rfl
        clear hz
        go_wp2_with fail
        refine HCA.out.mono ?_
        rintro e w1 ⟨rfl, hb1⟩
        go_wp2_with fail
        go_roundw
        case rel => exact ⟨2, by omega, by first | rfl | go_num, Lib.hid ((hbe _).trans (hb1.mono (by have := hbr.out.size; simp; omega))), HNN⟩
        case measure => simp [intOf]
      · have HF : Hid (mergeL ⟨K, l⟩ ⟨K', l'⟩ = (⟨0, []⟩, F')) := Lib.hid (by unfold mergeL; rw [if_neg (by rw [HF1.out]; exact fun h => h (hdone.out.1 (by omega))), if_pos (by rw [HF2.out]; exact hz), HF2.out])
        have t1 : (F' != 0) = true := by rw [bne_iff_ne]; exact hz
        clear hz
        go_wp2_with fail
        refine HCA.out.mono ?_
        rintro e w1 ⟨rfl, hb1⟩
        have hbf : Below wd.heap.size wd w1 := (hbe _).trans (hb1.mono (by have := hbr.out.size; simp; omega))
        clear q0 q1 q2 q3
        have hz4 := HX4.out _ hbf
        obtain ⟨⟨r0, r1⟩, ⟨f0, f1⟩⟩ := bx2 hz4
        obtain ⟨⟨s0, s1⟩, -⟩ := bx2 (bx2_store (c := .int .i64 0) (d := .slice none 0 0) hz4)
        clear hz4
        go_wp2_with fail
        refine bodyPost_ret (v := .tuple #[.agg #[.int .i64 0, .slice none 0 0], .int .i64 F']) (by simp [results, Try.results31, go_sem, s0, s1]) rfl ?_
        rw [HF.out]
        exact ⟨_, rfl, lsv_zero _, ((HBD.out.trans (hbf.mono HBD.out.size)).setCell (p := ⟨b4, 0, none⟩) HW4.out _).setCell (p := ⟨b4, 1, none⟩) HW4.out _⟩
    · clear q0 q1 q2 q3
      have hz1 : F = 0 := hdone.out.1 (by omega)
      have hz2 : F' = 0 := hdone.out.2 (by omega)
      obtain ⟨⟨x0, x1⟩, -⟩ := bx2 (HX2.out _ hbr.out)
      obtain ⟨⟨y0, y1⟩, -⟩ := bx2 (HX3.out _ hbr.out)
      by_cases hKK : K = K'
      case neg =>
        have t1 : (K != K') = true := by rw [bne_iff_ne]; exact hKK
        have HF : Hid (mergeL ⟨K, l⟩ ⟨K', l'⟩ = (⟨0, []⟩, 1)) := Lib.hid (by unfold mergeL; rw [if_neg (by rw [HF1.out]; exact fun h => h hz1), if_neg (by rw [HF2.out]; exact fun h => h hz2), if_pos hKK])
        clear hKK hz1 hz2
        have hz4 := HX4.out _ hbr.out
        obtain ⟨⟨r0, r1⟩, ⟨f0, f1⟩⟩ := bx2 hz4
        obtain ⟨⟨s0, s1⟩, -⟩ := bx2 (bx2_store (c := .int .i64 0) (d := .slice none 0 0) hz4)
        clear hz4
        go_wp2_with fail
        refine bodyPost_ret (v := .tuple #[.agg #[.int .i64 0, .slice none 0 0], .int .i64 1]) (by simp [results, Try.results31, go_sem, s0, s1]) rfl ?_
        rw [HF.out]
        exact ⟨_, rfl, lsv_zero _, ((HBD.out.trans (hbr.out.mono HBD.out.size)).setCell (p := ⟨b4, 0, none⟩) HW4.out _).setCell (p := ⟨b4, 1, none⟩) HW4.out _⟩
      subst hKK
      obtain ⟨g1, g2, g3, hris⟩ := lsF_ok (HF1.out.trans hz1)
      have g1 : 2 ≤ K := g1
      have g2 : K ≤ 64 := g2
      have g3 : (l.length : Int) ≤ K := g3
      obtain ⟨-, -, g4, -⟩ := lsF_ok (HF2.out.trans hz2)
      have g4 : (l'.length : Int) ≤ K := g4
      obtain ⟨KN, rfl⟩ : ∃ KN : Nat, K = (KN : Int) := ⟨K.toNat, by omega⟩
      have hl64 : l.length ≤ 64 := by omega
      have hl64' : l'.length ≤ 64 := by omega
      have HF : Hid (mergeL ⟨(KN : Int), l⟩ ⟨(KN : Int), l'⟩ = (⟨(KN : Int), (setL (l ++ l')).take KN⟩, 0)) := Lib.hid (by unfold mergeL; rw [if_neg (by rw [HF1.out]; exact fun h => h hz1), if_neg (by rw [HF2.out]; exact fun h => h hz2), if_neg (fun h => h rfl)]; rfl)
      have t1 : ((KN : Int) != (KN : Int)) = false := by simp
      have hWR := HBD.out.trans (hbr.out.mono HBD.out.size)
      have hge := hWR.size
      have hge2 := hbr.out.size
      have hbd : Below wr.heap.size wr wr.drew := (Below.refl _ wr).drew
      have hcc := concatU_any _ [l, l'] _ (sp_twoU (w := wr.drew) (va := .slice ao n c) (vb := .slice ao' m c') (a := l) (b := l') (by rw [HN.out.1]; exact HSL0.out.below (hWR.trans (hbd.mono hge))) (by rw [HN.out.2]; exact HSL0'.out.below (hWR.trans (hbd.mono hge)))) (by intro x hx; simp at hx; rcases hx with rfl | rfl <;> omega) (by simp)
      have hcc2 : Calls Try.prog 58 #[.slice (some ⟨wr.heap.size, 0, none⟩) 2 2] (wr.drew.alloc (.cells #[.slice ao n c, .slice ao' m c'] 44)) fun e w' => ∃ v', e = .returned v' ∧ w'.ownsRow wr.heap.size 22 1 v' (l ++ l').length ((l ++ l').map (Value.int .u64)) ∧ Below wr.heap.size wr w' := hcc.mono (by
        rintro e w' ⟨v', rfl, ho, hb⟩
        rw [show [l, l'].flatten = l ++ l' from by simp] at ho
        exact ⟨v', rfl, own_mono ho (by simp), (hbd.alloc (Nat.le_refl _) _).trans (hb.mono (by simp))⟩)
      have HCC := Lib.hid hcc2
      have HWR := Lib.hid hWR
      have HXS : Hid (∀ W, Below wr.heap.size wr W → W.cell? ⟨b2, 0, none⟩ = some (.int .i64 (KN : Int)) ∧ W.cell? ⟨b2, 1, none⟩ = some (.slice ao n c) ∧ W.cell? ⟨b3, 1, none⟩ = some (.slice ao' m c')) := Lib.hid (fun W hW => by
        have h := hbr.out.trans (hW.mono hge2)
        exact ⟨(bx2 (HX2.out _ h)).1.1, (bx2 (HX2.out _ h)).1.2, (bx2 (HX3.out _ h)).1.2⟩)
      have HX4r : Hid (∀ W, Below wr.heap.size wr W → W.heap[b4]? = some (.cells #[.int .i64 0, .slice none 0 0] 46 (0, 0))) := Lib.hid (fun W hW => HX4.out _ (hbr.out.trans (hW.mono hge2)))
      clear hcc hcc2 hz1 hz2 hWR hris
      go_upto_region 10 with (fail)
      have z0 := HXS.out _ hbd
      have z0a := fun o => HXS.out _ (show Below wr.heap.size wr (wr.alloc o).drew from ((Below.refl _ wr).alloc (Nat.le_refl _) o).drew)
      clear x0 x1 y0 y1
      go_region_held3 (fun w' => w'.cell? ⟨b2, 0, none⟩ = some (.int .i64 (KN : Int)) ∧ w'.cell? ⟨b2, 1, none⟩ = some (.slice ao n c) ∧ w'.cell? ⟨b3, 1, none⟩ = some (.slice ao' m c')) (first | (with_reducible exact z5) | (with_reducible exact z4) | (with_reducible exact z0) | (with_reducible exact z0a _) | go_keep) (first
        | (go_at_call 58; refine HCC.out.mono ?_; rintro e w4 ⟨v4, rfl, hown4, hb4⟩; have z4 := HXS.out _ hb4)
        | (go_at_call 56; refine (kept_any KN wr.heap.size v4 (l ++ l') w4 hown4 (by rw [List.length_append]; omega) hb4.size (by omega)).mono ?_; rintro e w5 ⟨t5, rfl, hown5, hb5⟩; obtain ⟨m5, hm5⟩ : ∃ m5, ((setL (l ++ l')).take KN).length = m5 := ⟨_, rfl⟩; rw [hm5] at hown5; obtain ⟨o5, c5, rfl, -, -, -⟩ := own_shape hown5; have hb9 := hb4.trans hb5; have z5 := HXS.out _ hb9; obtain ⟨⟨p0, p1⟩, ⟨f0, f1⟩⟩ := bx2 (HX4r.out _ hb9)))
      all_goals
        have hbx4 := HX4r.out _ hb9
        have hne4 := own_block_ne hown5 hbx4 (by decide)
        have hfb := ((HWR.out.trans (hb9.mono hge)).setCell (p := ⟨b4, 0, none⟩) HW4.out (.int .i64 (KN : Int))).setCell (p := ⟨b4, 1, none⟩) HW4.out (.slice o5 m5 c5)
        have hfo := ownsRow_setCell_other (ownsRow_setCell_other hown5 (a := ⟨b4, 0, none⟩) hne4 (.int .i64 (KN : Int))) (a := ⟨b4, 1, none⟩) hne4 (.slice o5 m5 c5)
        obtain ⟨⟨c0, c1⟩, -⟩ := bx2 (bx2_store (c := .int .i64 (KN : Int)) (d := .slice o5 m5 c5) hbx4)
        have HFB := Lib.hid hfb
        have HFO := Lib.hid hfo
        have HM5 := Lib.hid hm5
        clear hfb hfo hm5 z0 z0a z4 z5
        go_wp2_with fail
        refine bodyPost_ret (v := .tuple #[.agg #[.int .i64 (KN : Int), .slice o5 m5 c5], .int .i64 0]) (by simp [results, Try.results31, go_sem, c0, c1]) rfl ?_
        rw [HF.out]
        refine ⟨_, rfl, ⟨_, rfl, ?_, ?_, by show -9223372036854775808 ≤ (KN : Int); omega, by show (KN : Int) < 9223372036854775808; omega, ?_⟩, HFB.out⟩
        · show Sl _ 1 _ ((setL (l ++ l')).take KN).length (((setL (l ++ l')).take KN).map (Value.int .u64))
          rw [HM5.out]
          exact own_sl HFO.out
        · intro z hz
          rcases List.mem_append.1 (mem_setL.1 (List.mem_of_mem_take hz)) with h | h
          · exact HUA.out.1 z h
          · exact HUA.out.2 z h
        · show ((setL (l ++ l')).take KN).length ≤ 140737488355328
          rw [List.length_take]
          omega
end Go.Proofs.Ytlfhcjhbnakamaa.Lst
/-
  Sieves: what the law needs of the plain functions.
-/
namespace Go.Proofs.Ytlfhcjhbnakamaa.Lst
open Go.RowKit Go.Gh Go.Proofs.Ytlfhcjhbnakamaa.Qs
set_option linter.unusedVariables false
theorem ris_risB {l : List Int} (h : Ris l) : risB l = true := risB_all (fun i x y h1 h2 => by
  obtain ⟨a1, rfl⟩ := List.getElem?_eq_some_iff.1 h1
  obtain ⟨a2, rfl⟩ := List.getElem?_eq_some_iff.1 h2
  exact List.pairwise_iff_getElem.1 h i (i + 1) a1 a2 (by omega))
theorem lsF_svU {s : Ls} {h : Int} (h0 : lsF s = 0) : lsF (svU s h) = 0 := by
  obtain ⟨g1, g2, g3, g4⟩ := lsF_ok h0
  have hl : (((insU s.h h).take s.k.toNat).length : Int) ≤ s.k := by rw [List.length_take]; omega
  unfold lsF svU
  show (if s.k < 2 ∨ 64 < s.k ∨ s.k < (((insU s.h h).take s.k.toNat).length : Int) then (4 : Int) else if risB ((insU s.h h).take s.k.toNat) = true then 0 else 4) = 0
  rw [if_neg (by omega), if_pos (ris_risB (ris_take (ris_insU g4) _))]
theorem lsF_fold {s : Ls} (h0 : lsF s = 0) : ∀ T : List Int, lsF (T.foldl svU s) = 0 := by
  intro T
  induction T generalizing s with
  | nil => exact h0
  | cons x r ih => exact ih (lsF_svU h0)
theorem fold_next {s : Ls} {T : List Int} {j : Nat} {v : Int} (h : T[j]? = some v) : (T.take (j + 1)).foldl svU s = svU ((T.take j).foldl svU s) v := by
  rw [List.take_add_one, h, List.foldl_append]
  rfl
theorem merge_ok {s t : Ls} (h0 : lsF s = 0) (h1 : lsF t = 0) (hk : s.k = t.k) : mergeL s t = (t.h.foldl svU s, 0) := by
  obtain ⟨g1, g2, g3, g4⟩ := lsF_ok h0
  have e := sv_fold s.k t.h s.h g4
  rw [List.take_of_length_le (by omega)] at e
  unfold mergeL
  rw [if_neg (by rw [h0]; decide), if_neg (by rw [h1]; decide), if_neg (fun h => h hk), ← e]
theorem merge_bad1 {s t : Ls} (h0 : lsF s ≠ 0) : mergeL s t = (⟨0, []⟩, lsF s) := if_pos h0
theorem merge_bad2 {s t : Ls} (h0 : lsF s = 0) (h1 : lsF t ≠ 0) : mergeL s t = (⟨0, []⟩, lsF t) := by
  unfold mergeL
  rw [if_neg (by rw [h0]; decide), if_pos h1]
theorem merge_bad3 {s t : Ls} (h0 : lsF s = 0) (h1 : lsF t = 0) (hk : s.k ≠ t.k) : mergeL s t = (⟨0, []⟩, 1) := by
  unfold mergeL
  rw [if_neg (by rw [h0]; decide), if_neg (by rw [h1]; decide), if_pos hk]
theorem same_self (s : Ls) : sameLs s s = true := by unfold sameLs; simp
end Go.Proofs.Ytlfhcjhbnakamaa.Lst
