/-
  The walks of package hash and of the references to it: what each answers, as a number.
-/
import Derived.Test.YtckpabminhkndaaRows
import Derived.Test.YtckpabminhkndaaHashLaw
import Derived.Test.YtckpabminhkndaaLib
import Derived.Outline
namespace Go.Proofs.Ytckpabminhkndaa.Hash
open Go.RowKit Go.Gh
set_option linter.unusedVariables false

def xsI (x p : Int) : Int := bits .xor .u64 x (x / p)
def mulI (x c : Int) : Int := IntKind.u64.wrap (x * c)
def mixI (x : Int) : Int := xsI (mulI (xsI (mulI (xsI x 536870912) 10321020848683521121) 4294967296) 7694936916205891629) 268435456

theorem xsI_nat (X s : Nat) (p : Int) (hX : X < 18446744073709551616) (hp : p = ((2 ^ s : Nat) : Int)) : xsI X p = ((xs X s : Nat) : Int) := by
  subst hp; exact xorShift_u64 X (2 ^ s) hX
theorem mulI_nat (X C : Nat) (c : Int) (hc : c = (C : Int)) : mulI X c = ((X * C % 18446744073709551616 : Nat) : Int) := by
  subst hc; unfold mulI; rw [IntKind.wrap_u64, ← Int.natCast_mul]; rfl
theorem mixI_nat (X : Nat) (hX : X < 18446744073709551616) : mixI X = ((mixN X : Nat) : Int) := by
  unfold mixI
  rw [xsI_nat X 29 536870912 hX rfl, mulI_nat _ 10321020848683521121 10321020848683521121 rfl, xsI_nat _ 32 4294967296 (Nat.mod_lt _ (by decide)) rfl, mulI_nat _ 7694936916205891629 7694936916205891629 rfl, xsI_nat _ 28 268435456 (Nat.mod_lt _ (by decide)) rfl]
  rfl

theorem mix_any (x : Int) (h0 : 0 ≤ x) (h1 : x < 18446744073709551616) (w : World) :
    Calls Try.prog 16 #[.int .u64 x] w fun e w' => e = .returned (.int .u64 (mixI x)) ∧ w = w' := by
  go_enter Try.func16, Try.ntmps16
  go_wp2
  go_ret
  exact ⟨rfl, rfl⟩

def M64 : Int := 18446744073709551616
theorem mulI_eq (a b : Int) : mulI a b = a * b % M64 := by unfold mulI M64; exact IntKind.wrap_u64 _

/-- One round of 'times': the sum that is to come stays the same. -/
theorem times_odd (n a b : Int) (hb : b % 2 = 1) : ((n + a) % M64 + (a + a) % M64 * (b / 2)) % M64 = (n + a * b) % M64 := by
  have e : a * b = a + (a + a) * (b / 2) := by
    have : b = 2 * (b / 2) + 1 := by omega
    rw [show a * b = a * (2 * (b / 2) + 1) from by rw [← this]]
    generalize b / 2 = c
    rw [Int.mul_add, Int.mul_one, Int.add_comm, Int.add_mul, Int.mul_left_comm, Int.two_mul]
  rw [e, Int.add_emod, Int.emod_emod_of_dvd _ (Int.dvd_refl _), Int.mul_emod, Int.emod_emod_of_dvd _ (Int.dvd_refl _), ← Int.mul_emod, ← Int.add_emod, Int.add_assoc]
theorem times_even (n a b : Int) (hb : b % 2 = 0) : (n + (a + a) % M64 * (b / 2)) % M64 = (n + a * b) % M64 := by
  have e : a * b = (a + a) * (b / 2) := by
    have : b = 2 * (b / 2) := by omega
    rw [show a * b = a * (2 * (b / 2)) from by rw [← this]]
    generalize b / 2 = c
    rw [Int.mul_left_comm, Int.two_mul, Int.add_mul]
  rw [e, Int.add_emod, Int.mul_emod, Int.emod_emod_of_dvd _ (Int.dvd_refl _), ← Int.mul_emod, ← Int.add_emod]

theorem times_any (a b : Int) (ha : 0 ≤ a) (ha1 : a < M64) (hb : 0 ≤ b) (hb1 : b < M64) (w : World) :
    Calls Try.prog 34 #[.int .u64 a, .int .u64 b] w fun e w' => e = .returned (.int .u64 (mulI a b)) ∧ w = w' := by
  go_enter Try.func34, Try.ntmps34
  go_wp2
  go_loop [0, 1, 5] (fun x y n => ∃ A B N : Int, x = .int .u64 A ∧ y = .int .u64 B ∧ n = .int .u64 N ∧ 0 ≤ A ∧ 0 ≤ B ∧ 0 ≤ N ∧ N < M64 ∧ B < 18446744073709551616 ∧ Hid ((N + A * B) % M64 = mulI a b)) (fun _ y _ => (intOf y).toNat)
  case atStart => exact ⟨a, b, 0, rfl, rfl, rfl, ha, hb, by decide, by decide, hb1, by show _ = _; rw [Int.zero_add, mulI_eq]⟩
  case round =>
    obtain ⟨A, B, N, rfl, rfl, rfl, hA, hB, hN, hN1, hB1, hs⟩ := hrel
    by_cases hB0 : 0 < B
    · have hq : 0 ≤ B / 2 := by omega
      have hm : (B / 2).toNat < B.toNat := by omega
      have hr1 : 0 ≤ (A + A) % M64 := Int.emod_nonneg _ (by decide)
      have hr2 : 0 ≤ (N + A) % M64 := Int.emod_nonneg _ (by decide)
      have hr3 : (N + A) % M64 < M64 := Int.emod_lt_of_pos _ (by decide)
      by_cases hodd : (B % 2 == 1) = true
      · have H1 : Hid (((N + A) % M64 + (A + A) % M64 * (B / 2)) % M64 = mulI a b) := (times_odd N A B (by simpa using hodd)).trans hs
        go_wp2
        go_round
        case rel => exact ⟨_, _, _, rfl, rfl, rfl, by rw [IntKind.wrap_u64]; exact hr1, hq, by rw [IntKind.wrap_u64]; exact hr2, by rw [IntKind.wrap_u64]; exact hr3, by omega, by rw [IntKind.wrap_u64, IntKind.wrap_u64]; exact H1⟩
        case measure => simp [intOf]; omega
      · have H1 : Hid ((N + (A + A) % M64 * (B / 2)) % M64 = mulI a b) := (times_even N A B (by simp at hodd; omega)).trans hs
        go_wp2
        go_round
        case rel => exact ⟨_, _, _, rfl, rfl, rfl, by rw [IntKind.wrap_u64]; exact hr1, hq, hN, hN1, by omega, by rw [IntKind.wrap_u64]; exact H1⟩
        case measure => simp [intOf]; omega
    · have hB2 : B = 0 := by omega
      subst hB2
      have e : N = mulI a b := by have := RowKit.Hid.out hs; rw [Int.mul_zero, Int.add_zero, Int.emod_eq_of_lt hN hN1] at this; exact this
      have HE := Lib.hid e
      clear e hs
      go_wp2
      go_ret
      exact ⟨ret_int HE.out, rfl⟩

theorem xsI_bd (x p : Int) (h0 : 0 ≤ x) (h1 : x < M64) (hp : p = 536870912 ∨ p = 4294967296 ∨ p = 268435456) : 0 ≤ xsI x p ∧ xsI x p < M64 := by
  obtain ⟨u, rfl⟩ := Int.eq_ofNat_of_zero_le h0
  have hu : u < 18446744073709551616 := by unfold M64 at h1; omega
  have key : ∀ s, p = ((2 ^ s : Nat) : Int) → 0 ≤ xsI u p ∧ xsI u p < M64 := by
    intro s hs
    rw [xsI_nat u s p hu hs]
    have := xs_lt u s 64 hu
    unfold M64
    omega
  rcases hp with h | h | h
  · exact key 29 (h.trans rfl)
  · exact key 32 (h.trans rfl)
  · exact key 28 (h.trans rfl)
theorem mulI_bd (a b : Int) : 0 ≤ mulI a b ∧ mulI a b < M64 := by
  rw [mulI_eq]; exact ⟨Int.emod_nonneg _ (by decide), Int.emod_lt_of_pos _ (by decide)⟩
theorem mixI_bd (x : Int) (h0 : 0 ≤ x) (h1 : x < M64) : 0 ≤ mixI x ∧ mixI x < M64 := by
  unfold mixI
  exact xsI_bd _ _ (mulI_bd _ _).1 (mulI_bd _ _).2 (by simp)

theorem mixed_any (x : Int) (h0 : 0 ≤ x) (h1 : x < 18446744073709551616) (w : World) :
    Calls Try.prog 17 #[.int .u64 x] w fun e w' => e = .returned (.int .u64 (mixI x)) ∧ w = w' := by
  have b1 := xsI_bd x 536870912 h0 h1 (by simp)
  have m1 := mulI_bd (xsI x 536870912) 10321020848683521121
  have b2 := xsI_bd _ 4294967296 m1.1 m1.2 (by simp)
  have m2 := mulI_bd (xsI (mulI (xsI x 536870912) 10321020848683521121) 4294967296) 7694936916205891629
  go_enter Try.func17, Try.ntmps17
  go_wp2_with fail
  refine (times_any (xsI x 536870912) 10321020848683521121 b1.1 b1.2 (by decide) (by decide) _).mono ?_
  rintro e w' ⟨rfl, rfl⟩
  generalize hy : mulI (xsI x 536870912) 10321020848683521121 = y at *
  have Hy := Lib.hid hy
  clear hy
  obtain ⟨hy0, hy1⟩ : 0 ≤ y ∧ y < 18446744073709551616 := m1
  go_wp2_with fail
  refine (times_any (xsI y 4294967296) 7694936916205891629 b2.1 b2.2 (by decide) (by decide) _).mono ?_
  rintro e w' ⟨rfl, rfl⟩
  generalize hz : mulI (xsI y 4294967296) 7694936916205891629 = z at *
  have Hz := Lib.hid hz
  clear hz
  obtain ⟨hz0, hz1⟩ : 0 ≤ z ∧ z < 18446744073709551616 := m2
  go_wp2
  go_ret
  exact ⟨ret_int (by unfold mixI; rw [Hy.out, Hz.out]; rfl), rfl⟩

def invI (a : Int) : Nat → Int
  | 0 => a
  | k + 1 => mulI (invI a k) (IntKind.u64.wrap (2 - mulI a (invI a k)))
theorem invI_bd (a : Int) (h0 : 0 ≤ a) (h1 : a < M64) (k : Nat) : 0 ≤ invI a k ∧ invI a k < M64 := by
  cases k with
  | zero => exact ⟨h0, h1⟩
  | succ k => exact mulI_bd _ _
theorem inverse_any (a : Int) (h0 : 0 ≤ a) (h1 : a < M64) (w : World) :
    Calls Try.prog 36 #[.int .u64 a] w fun e w' => e = .returned (.int .u64 (invI a 5)) ∧ w = w' := by
  go_enter Try.func36, Try.ntmps36
  go_wp2
  go_loop [3, 5] (fun x i => ∃ k : Nat, k ≤ 5 ∧ i = .int .i64 k ∧ x = .int .u64 (invI a k)) (fun _ i => 5 - (intOf i).toNat)
  case atStart => exact ⟨0, by omega, rfl, rfl⟩
  case round =>
    obtain ⟨k, hk, rfl, rfl⟩ := hrel
    by_cases hlt : k < 5
    · go_wp2
      go_round
      case rel => exact ⟨k + 1, by omega, by go_num, rfl⟩
      case measure => simp [intOf]; omega
    · obtain rfl : k = 5 := by omega
      go_wp2
      go_ret
      exact ⟨rfl, rfl⟩

def itI (u p : Int) : Nat → Int
  | 0 => u
  | k + 1 => bits .xor .u64 u (itI u p k / p)
theorem itI_nat (u s : Nat) (p : Int) (hu : u < 18446744073709551616) (hp : p = ((2 ^ s : Nat) : Int)) (k : Nat) : itI u p k = ((itU u s k : Nat) : Int) := by
  induction k with
  | zero => rfl
  | succ k ih =>
    show bits .xor .u64 (u : Int) (itI u p k / p) = _
    have h1 := itU_lt u s k 64 hu
    rw [ih, hp, ← Int.natCast_ediv, u64_xor_nat _ _ hu (Nat.lt_of_le_of_lt (Nat.div_le_self _ _) h1)]
    rfl
theorem unturn_any (u n p : Int) (r : Nat) (h0 : 0 ≤ u) (h1 : u < M64) (hn : n = 28 ∧ r = 2 ∧ p = 268435456 ∨ n = 32 ∧ r = 1 ∧ p = 4294967296 ∨ n = 29 ∧ r = 2 ∧ p = 536870912) (w : World) :
    Calls Try.prog 35 #[.int .u64 u, .int .i64 n] w fun e w' => e = .returned (.int .u64 (itI u p r)) ∧ w = w' := by
  have hu : u < 18446744073709551616 := h1
  have rest : 1 ≤ r ∧ r ≤ 2 := by omega
  rcases hn with ⟨rfl, rfl, rfl⟩ | ⟨rfl, rfl, rfl⟩ | ⟨rfl, rfl, rfl⟩
  · go_enter Try.func35, Try.ntmps35
    go_wp2
    go_loop [5, 6] (fun v i => ∃ k : Nat, k ≤ 2 ∧ i = .int .i64 (28 * (k + 1)) ∧ v = .int .u64 (itI u 268435456 k)) (fun _ i => 100 - (intOf i).toNat)
    case atStart => exact ⟨0, by omega, rfl, rfl⟩
    case round =>
      obtain ⟨k, hk, rfl, rfl⟩ := hrel
      by_cases hlt : k < 2
      · go_wp2
        go_round
        case rel => exact ⟨k + 1, by omega, by go_num, rfl⟩
        case measure => simp [intOf]; omega
      · obtain rfl : k = 2 := by omega
        go_wp2
        go_ret
        exact ⟨rfl, rfl⟩
  · go_enter Try.func35, Try.ntmps35
    go_wp2
    go_loop [5, 6] (fun v i => ∃ k : Nat, k ≤ 1 ∧ i = .int .i64 (32 * (k + 1)) ∧ v = .int .u64 (itI u 4294967296 k)) (fun _ i => 100 - (intOf i).toNat)
    case atStart => exact ⟨0, by omega, rfl, rfl⟩
    case round =>
      obtain ⟨k, hk, rfl, rfl⟩ := hrel
      by_cases hlt : k < 1
      · go_wp2
        go_round
        case rel => exact ⟨k + 1, by omega, by go_num, rfl⟩
        case measure => simp [intOf]; omega
      · obtain rfl : k = 1 := by omega
        go_wp2
        go_ret
        exact ⟨rfl, rfl⟩
  · go_enter Try.func35, Try.ntmps35
    go_wp2
    go_loop [5, 6] (fun v i => ∃ k : Nat, k ≤ 2 ∧ i = .int .i64 (29 * (k + 1)) ∧ v = .int .u64 (itI u 536870912 k)) (fun _ i => 100 - (intOf i).toNat)
    case atStart => exact ⟨0, by omega, rfl, rfl⟩
    case round =>
      obtain ⟨k, hk, rfl, rfl⟩ := hrel
      by_cases hlt : k < 2
      · go_wp2
        go_round
        case rel => exact ⟨k + 1, by omega, by go_num, rfl⟩
        case measure => simp [intOf]; omega
      · obtain rfl : k = 2 := by omega
        go_wp2
        go_ret
        exact ⟨rfl, rfl⟩


theorem itI_bd (u p : Int) (k : Nat) (h0 : 0 ≤ u) (h1 : u < M64) (hp : p = 536870912 ∨ p = 4294967296 ∨ p = 268435456) : 0 ≤ itI u p k ∧ itI u p k < M64 := by
  obtain ⟨u, rfl⟩ := Int.eq_ofNat_of_zero_le h0
  have hu : u < 18446744073709551616 := by unfold M64 at h1; omega
  have key : ∀ s, p = ((2 ^ s : Nat) : Int) → 0 ≤ itI u p k ∧ itI u p k < M64 := by
    intro s hs
    rw [itI_nat u s p hu hs]
    have := itU_lt u s k 64 hu
    unfold M64
    omega
  rcases hp with h | h | h
  · exact key 29 (h.trans rfl)
  · exact key 32 (h.trans rfl)
  · exact key 28 (h.trans rfl)

def unmixI (u : Int) : Int := itI (mulI (itI (mulI (itI u 268435456 2) (invI 7694936916205891629 5)) 4294967296 1) (invI 10321020848683521121 5)) 536870912 2

theorem unmix_any (x : Int) (h0 : 0 ≤ x) (h1 : x < M64) (w : World) :
    Calls Try.prog 18 #[.int .u64 x] w fun e w' => e = .returned (.int .u64 (unmixI x)) ∧ w = w' := by
  have b1 := itI_bd x 268435456 2 h0 h1 (by simp)
  go_enter Try.func18, Try.ntmps18
  go_wp2_with fail
  refine (unturn_any x 28 268435456 2 h0 h1 (by simp) _).mono ?_
  rintro e w' ⟨rfl, rfl⟩
  generalize hy : itI x 268435456 2 = y at *
  have Hy := Lib.hid hy
  clear hy
  go_wp2_with fail
  refine (inverse_any 7694936916205891629 (by decide) (by decide) _).mono ?_
  rintro e w' ⟨rfl, rfl⟩
  generalize hi : invI 7694936916205891629 5 = i at *
  have Hi := Lib.hid hi
  clear hi
  have m1 := mulI_bd y i
  have b2 := itI_bd (mulI y i) 4294967296 1 m1.1 m1.2 (by simp)
  go_wp2_with fail
  refine (unturn_any (mulI y i) 32 4294967296 1 m1.1 m1.2 (by simp) _).mono ?_
  rintro e w' ⟨rfl, rfl⟩
  generalize hz : itI (mulI y i) 4294967296 1 = z at *
  have Hz := Lib.hid hz
  clear hz
  go_wp2_with fail
  refine (inverse_any 10321020848683521121 (by decide) (by decide) _).mono ?_
  rintro e w' ⟨rfl, rfl⟩
  generalize hj : invI 10321020848683521121 5 = j at *
  have Hj := Lib.hid hj
  clear hj
  have m2 := mulI_bd z j
  go_wp2_with fail
  refine (unturn_any (mulI z j) 29 536870912 2 m2.1 m2.2 (by simp) _).mono ?_
  rintro e w' ⟨rfl, rfl⟩
  go_wp2
  go_ret
  exact ⟨ret_int (by unfold unmixI; rw [Hy.out, Hi.out, Hz.out, Hj.out]), rfl⟩

theorem inv1 : invI 7694936916205891629 5 = 6263247216084901797 := by decide +kernel
theorem inv2 : invI 10321020848683521121 5 = 6334239490909081505 := by decide +kernel

theorem unmixI_nat (u : Nat) (hu : u < 18446744073709551616) : unmixI u = ((unmixN u : Nat) : Int) := by
  unfold unmixI unmixN
  rw [inv1, inv2, itI_nat u 28 268435456 hu rfl, mulI_nat _ 6263247216084901797 6263247216084901797 rfl, itI_nat _ 32 4294967296 (Nat.mod_lt _ (by decide)) rfl,
    mulI_nat _ 6334239490909081505 6334239490909081505 rfl, itI_nat _ 29 536870912 (Nat.mod_lt _ (by decide)) rfl]

theorem unmixI_bd (x : Int) (h0 : 0 ≤ x) (h1 : x < M64) : 0 ≤ unmixI x ∧ unmixI x < M64 := by
  unfold unmixI
  exact itI_bd _ _ _ (mulI_bd _ _).1 (mulI_bd _ _).2 (by simp)

theorem mixI_unmixI (x : Int) (h0 : 0 ≤ x) (h1 : x < M64) : mixI (unmixI x) = x := by
  obtain ⟨u, rfl⟩ := Int.eq_ofNat_of_zero_le h0
  have hu : u < 18446744073709551616 := by unfold M64 at h1; omega
  have h2 := unmixI_bd (u : Int) h0 h1
  rw [unmixI_nat u hu] at h2 ⊢
  have h3 : unmixN u < 18446744073709551616 := by unfold M64 at h2; omega
  rw [mixI_nat _ h3, mix_unmix u hu]

/-- The hash after k bytes. -/
def hashI (u : Int) (l : List Int) : Nat → Int
  | 0 => mixI u
  | k + 1 => mixI (IntKind.u64.wrap (IntKind.u64.wrap (hashI u l k + l.getD k 0) + IntKind.u64.wrap (256 * k)))
theorem hashI_bd (u : Int) (l : List Int) (h0 : 0 ≤ u) (h1 : u < M64) (k : Nat) : 0 ≤ hashI u l k ∧ hashI u l k < M64 := by
  cases k with
  | zero => exact mixI_bd _ h0 h1
  | succ k => exact mixI_bd _ (by rw [IntKind.wrap_u64]; exact Int.emod_nonneg _ (by decide)) (by rw [IntKind.wrap_u64]; exact Int.emod_lt_of_pos _ (by decide))

theorem of_any (u : Int) (v : Value) (n : Nat) (l : List Int) (h0 : 0 ≤ u) (h1 : u < M64) (w : World) (hv : Sl w 1 v n (l.map (Value.int .u8))) (hl : ∀ z ∈ l, (Lit.int .u8 z).wf = true) :
    Calls Try.prog 19 #[.int .u64 u, v] w fun e w' => e = .returned (.int .u64 (hashI u l n)) ∧ w = w' := by
  obtain ⟨ao, c, rfl, hn, hc, hlen⟩ := hv.shape
  have hb := mixI_bd u h0 h1
  go_enter Try.func19, Try.ntmps19
  go_wp2_with fail
  refine (mix_any u h0 h1 _).mono ?_
  rintro e w' ⟨rfl, rfl⟩
  go_wp2_with fail
  go_loop [5, 12] (fun x i => ∃ k : Nat, k ≤ n ∧ i = .int .i64 k ∧ x = .int .u64 (hashI u l k)) (fun _ i => n - (intOf i).toNat)
  case atStart => exact ⟨0, by omega, rfl, rfl⟩
  case round =>
    obtain ⟨k, hk, rfl, rfl⟩ := hrel
    by_cases hlt : k < n
    · obtain ⟨b, off, z, rfl, hcell, hz0, hz1, HZ⟩ := hv.byte hl hlt
      have hs := hashI_bd u l h0 h1 k
      go_wp2_with fail
      refine (mix_any _ (by rw [IntKind.wrap_u64]; exact Int.emod_nonneg _ (by decide)) (by rw [IntKind.wrap_u64]; exact Int.emod_lt_of_pos _ (by decide)) _).mono ?_
      rintro e w' ⟨rfl, rfl⟩
      go_wp2
      go_round
      case rel => exact ⟨k + 1, by omega, by go_num, by rw [hashI, HZ.out]⟩
      case measure => simp [intOf]; omega
    · obtain rfl : k = n := by omega
      go_wp2
      go_ret
      exact ⟨rfl, rfl⟩

theorem hashof_any (u : Int) (v : Value) (n : Nat) (l : List Int) (h0 : 0 ≤ u) (h1 : u < M64) (w : World) (hv : Sl w 1 v n (l.map (Value.int .u8))) (hl : ∀ z ∈ l, (Lit.int .u8 z).wf = true) :
    Calls Try.prog 20 #[.int .u64 u, v] w fun e w' => e = .returned (.int .u64 (hashI u l n)) ∧ w = w' := by
  obtain ⟨ao, c, rfl, hn, hc, hlen⟩ := hv.shape
  have hb := mixI_bd u h0 h1
  go_enter Try.func20, Try.ntmps20
  go_wp2_with fail
  refine (mixed_any u h0 h1 _).mono ?_
  rintro e w' ⟨rfl, rfl⟩
  go_wp2_with fail
  go_loop [5, 11] (fun x i => ∃ k : Nat, k ≤ n ∧ i = .int .i64 k ∧ x = .int .u64 (hashI u l k)) (fun _ i => n - (intOf i).toNat)
  case atStart => exact ⟨0, by omega, rfl, rfl⟩
  case round =>
    obtain ⟨k, hk, rfl, rfl⟩ := hrel
    by_cases hlt : k < n
    · obtain ⟨b, off, z, rfl, hcell, hz0, hz1, HZ⟩ := hv.byte hl hlt
      have hs := hashI_bd u l h0 h1 k
      go_wp2_with fail
      refine (mixed_any _ (by rw [IntKind.wrap_u64]; exact Int.emod_nonneg _ (by decide)) (by rw [IntKind.wrap_u64]; exact Int.emod_lt_of_pos _ (by decide)) _).mono ?_
      rintro e w' ⟨rfl, rfl⟩
      go_wp2
      go_round
      case rel => exact ⟨k + 1, by omega, by go_num, by rw [hashI, HZ.out, Int.mul_comm 256]⟩
      case measure => simp [intOf]; omega
    · obtain rfl : k = n := by omega
      go_wp2
      go_ret
      exact ⟨rfl, rfl⟩
end Go.Proofs.Ytckpabminhkndaa.Hash
