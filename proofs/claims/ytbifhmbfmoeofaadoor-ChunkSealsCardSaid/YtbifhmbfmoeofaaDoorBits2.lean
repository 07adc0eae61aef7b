/-
  The walks of bits.Put and of the reference to it, and of bytes.Equal.
-/
import Derived.Test.YtbifhmbfmoeofaaDoorBits
import Derived.Test.YtbifhmbfmoeofaaDoorBits0
import Derived.OwnWalk
import Derived.Outline
namespace Go.Proofs.YtbifhmbfmoeofaaDoor.Bits
open Go.RowKit Go.Gh Go.WideShapes
set_option linter.unusedVariables false

def putI : Nat → Int → List Int
  | 0, u => [u]
  | f + 1, u => if u < 128 then [u] else (u % 128 + 128) :: putI f (u / 128)
theorem putI_wf : ∀ (f : Nat) (u : Int), 0 ≤ u → u < 128 ^ (f + 1) → ∀ z ∈ putI f u, (Lit.int .u8 z).wf = true
  | 0, u, h0, h1, z, hz => by
    simp [putI] at hz
    subst hz
    simp [Lit.wf, IntKind.min, IntKind.max, IntKind.signed, IntKind.bits] at *
    omega
  | f + 1, u, h0, h1, z, hz => by
    simp only [putI] at hz
    split at hz
    · simp at hz
      subst hz
      simp [Lit.wf, IntKind.min, IntKind.max, IntKind.signed, IntKind.bits] at *
      omega
    · simp at hz
      rcases hz with rfl | hz
      · simp [Lit.wf, IntKind.min, IntKind.max, IntKind.signed, IntKind.bits]
        omega
      · refine putI_wf f (u / 128) (by omega) ?_ z hz
        rw [Int.pow_succ] at h1
        exact Int.ediv_lt_of_lt_mul (by omega) h1
theorem putI_len : ∀ (f : Nat) (u : Int), 0 < (putI f u).length ∧ (putI f u).length ≤ f + 1
  | 0, u => by simp [putI]
  | f + 1, u => by
    have := putI_len f (u / 128)
    simp only [putI]
    split <;> simp <;> omega
theorem or128 (u : Int) : bits .or .u8 (IntKind.u8.wrap u) 128 = u % 128 + 128 := by
  rw [IntKind.wrap_u8', u8_or _ _ (by omega) (by omega) (by decide) (by decide)]
  obtain ⟨n, hn⟩ := Int.eq_ofNat_of_zero_le (show 0 ≤ u % 256 by omega)
  rw [hn, Int.toNat_natCast, show (128 : Int).toNat = 2 ^ 7 from rfl]
  have e : n ||| 2 ^ 7 = 2 ^ 7 ||| (n % 2 ^ 7) := by
    apply Nat.eq_of_testBit_eq
    intro i
    simp only [Nat.testBit_or, Nat.testBit_two_pow, Nat.testBit_mod_two_pow]
    have hlt : n < 2 ^ 8 := by omega
    by_cases h7 : i = 7
    · subst h7; simp
    · by_cases h8 : i < 7
      · simp [h8, Bool.or_comm]
      · have : n.testBit i = false := Nat.testBit_lt_two_pow (Nat.lt_of_lt_of_le hlt (Nat.pow_le_pow_right (by omega) (by omega)))
        simp [this]
  rw [e, nat_join 7 _ _ (by decide) (Nat.mod_lt _ (by decide))]
  omega

theorem put_step (U u : Int) (k : Nat) (acc : List Int) (hk : k < 9) (h : Hid (acc ++ putI (9 - k) U = putI 9 u)) (h128 : 128 ≤ U) : Hid ((acc ++ [U % 128 + 128]) ++ putI (9 - (k + 1)) (U / 128) = putI 9 u) := by
  show _ = _
  rw [← h.out, List.append_assoc]
  congr 1
  rw [show 9 - k = (9 - (k + 1)) + 1 from by omega, putI, if_neg (by omega)]
  rfl
theorem put_end (U u : Int) (k : Nat) (acc : List Int) (hk : k ≤ 9) (h : Hid (acc ++ putI (9 - k) U = putI 9 u)) (h128 : U < 128) : acc ++ [U] = putI 9 u := by
  rw [← h.out]
  congr 1
  by_cases hk9 : k = 9
  · subst hk9; rfl
  · rw [show 9 - k = (9 - (k + 1)) + 1 from by omega, putI, if_pos (by omega)]

theorem or128' (u : Int) : bits .or .u8 (u % 256) 128 = u % 128 + 128 := by rw [← IntKind.wrap_u8']; exact or128 u
theorem put_bd (U : Int) (k : Nat) (hk : k < 9) (h : U < 128 ^ (9 - k) * 2) : U / 128 < 128 ^ (9 - (k + 1)) * 2 := by
  rw [show 9 - k = (9 - (k + 1)) + 1 from by omega, Int.pow_succ] at h
  exact Int.ediv_lt_of_lt_mul (by omega) (by omega)
theorem lt_fuel {u : Int} (h : u < 18446744073709551616) : u < 128 ^ (9 + 1) := by
  rw [show (128 : Int) ^ (9 + 1) = 1180591620717411303424 from by decide]
  omega
theorem put_any (u : Int) (h0 : 0 ≤ u) (h1 : u < 18446744073709551616) (w : World) :
    Calls Tryd.prog 31 #[.int .u64 u] w fun e w' => ∃ v, e = .returned v ∧ w'.ownsRow w.heap.size 5 1 v (putI 9 u).length ((putI 9 u).map (Value.int .u8)) ∧ Below w.heap.size w w' := by
  go_enter Tryd.func31, Tryd.ntmps31
  go_wp2_with fail
  go_loopw [0, 3] (fun x v wr => ∃ (k : Nat) (U : Int) (acc : List Int), x = .int .u64 U ∧ k ≤ 9 ∧ 0 ≤ U ∧ U < 128 ^ (9 - k) * 2 ∧ Hid (acc.length = k) ∧ wr.ownsRow w.heap.size 5 1 v acc.length (acc.map (Value.int .u8)) ∧ Below w.heap.size w wr ∧ Hid (acc ++ putI (9 - k) U = putI 9 u))
    (fun x _ _ => (intOf x).toNat)
  case atStart => exact ⟨0, u, [], rfl, by omega, h0, h1, rfl, World.ownsRow_nil _ _ _ _, Below.refl _ _, rfl⟩
  case round =>
    obtain ⟨k, U, acc, rfl, hk, hU0, hU1, hacc, hown, hbel, hs⟩ := hrel
    have hsz := hbel.size
    by_cases h128 : 128 ≤ U
    · have hk9 : k < 9 := by
        rcases Nat.lt_or_ge k 9 with h | h
        · exact h
        · obtain rfl : k = 9 := by omega
          simp at hU1; omega
      have hla : acc.length ≤ 9 := by have := hacc.out; omega
      go_wp2_with (at_builtin; refine append1 [_] elU8 rfl _ _ rfl hown hbel hsz rfl rfl rfl (one_all _ rfl) ?c4 ?c5 ?_)
      case c4 => omega
      case c5 => omega
      intro v' w1 hown' hbel' _
      have HS := put_step U u k acc hk9 hs h128
      clear hown hbel hs
      go_wp2
      go_roundw
      case rel => exact ⟨k + 1, U / 128, acc ++ [U % 128 + 128], rfl, by omega, by omega, put_bd U k hk9 hU1, by show _ = _; simp [hacc.out], by simpa [or128'] using hown', hbel', HS⟩
      case measure => simp [intOf]; omega
    · have hla : acc.length ≤ 9 := by have := hacc.out; omega
      go_wp2_with (at_builtin; refine append1 [_] elU8 rfl _ _ rfl hown hbel hsz rfl rfl rfl (one_all _ rfl) ?c4 ?c5 ?_)
      case c4 => omega
      case c5 => omega
      intro v' w1 hown' hbel' _
      have HE := Lib.hid (put_end U u k acc hk hs (by omega))
      clear hown hbel hs
      go_wp2
      go_ret
      refine ⟨v', rfl, ?_, hbel'⟩
      rw [← HE.out]
      have e1 : IntKind.u8.wrap U = U := by rw [IntKind.wrap_u8']; omega
      simpa [e1] using hown'

theorem putI_big (f : Nat) (u : Int) (h : 128 ≤ u) : putI (f + 1) u = (u % 128 + 128) :: putI f (u / 128) := by
  rw [putI, if_neg (by omega)]
theorem putI_small (f : Nat) (u : Int) (h : u < 128) : putI f u = [u] := by
  cases f with
  | zero => rfl
  | succ f => rw [putI, if_pos h]
theorem bytesof_any : ∀ (f : Nat) (u : Int) (h0 : 0 ≤ u) (h1 : u < 18446744073709551616) (hf : f ≤ 9) (h2 : u < 128 ^ (f + 1)) (w : World),
    Calls Tryd.prog 32 #[.int .u64 u] w fun e w' => ∃ v, e = .returned v ∧ w'.ownsRow w.heap.size 5 1 v (putI f u).length ((putI f u).map (Value.int .u8)) ∧ Below w.heap.size w w' := by
  intro f
  induction f with
  | zero =>
    intro u h0 h1 hf h2 w
    have h128 : u < 128 := by simpa using h2
    go_enter Tryd.func32, Tryd.ntmps32
    go_wp2_with fail
    go_ret
    rw [putI_small _ _ h128]
    exact ⟨_, rfl, own_build w [_] (Nat.le_refl _) rfl (by decide), (Below.refl _ _).alloc (Nat.le_refl _) _⟩
  | succ f ih =>
    intro u h0 h1 hf h2 w
    have HI := Lib.hid ih
    clear ih
    by_cases h128 : u < 128
    · go_enter Tryd.func32, Tryd.ntmps32
      go_wp2_with fail
      go_ret
      rw [putI_small _ _ h128]
      exact ⟨_, rfl, own_build w [_] (Nat.le_refl _) rfl (by decide), (Below.refl _ _).alloc (Nat.le_refl _) _⟩
    · have hq : u / 128 < 128 ^ (f + 1) := by
        rw [Int.pow_succ] at h2
        exact Int.ediv_lt_of_lt_mul (by omega) h2
      have HQ := Lib.hid hq
      clear hq h2
      have hl := putI_len f (u / 128)
      have hu8 : 0 ≤ u % 128 := by omega
      have hu9 : u % 128 < 128 := by omega
      have hu10 : 0 ≤ u % 128 + 128 := by omega
      go_enter Tryd.func32, Tryd.ntmps32
      go_wp2_with fail
      refine (HI.out (u / 128) (by omega) (by omega) (by omega) HQ.out _).mono ?_
      rintro e w' ⟨v, rfl, hown, hbel⟩
      obtain ⟨g, cap, rfl, hg1, hg2, hc1, hc2, hcells⟩ := own_some hown hl.1
      have ho1 : (w.alloc (.cells [Value.int .u8 (u % 128 + 128)].toArray 5)).ownsRow w.heap.size 5 1 (.slice (some ⟨w.heap.size, 0, none⟩) 1 1) 1 [Value.int .u8 (u % 128 + 128)] := own_build w _ (Nat.le_refl _) rfl (by decide)
      have ho2 := own_below ho1 hbel
      have hb2 : Below w.heap.size w w' := ((Below.refl _ _).alloc (Nat.le_refl _) _).trans (hbel.mono (by simp))
      have hsz := hb2.size
      have HP := Lib.hid (putI_big f u (by omega))
      clear HI HQ
      generalize hd : putI f (u / 128) = d at *
      clear hd ho1 hown
      go_wp2_with (at_builtin; refine appendN elU8 rfl _ _ rfl ho2 hb2 hsz rfl rfl (by rw [List.length_map, Nat.mul_one]) (by simpa using hcells) (ints_one _ _) ?c4 ?c5 ?_)
      case c4 => omega
      case c5 => omega
      intro v' w1 hown' hbel' _
      go_wp2
      go_ret
      refine ⟨v', rfl, ?_, hbel'⟩
      rw [HP.out, List.length_cons, Nat.add_comm]
      exact hown'

theorem equal_any (v v' : Value) (n n' : Nat) (l l' : List Int) (w : World) (hv : Sl w 1 v n (l.map (Value.int .u8))) (hv' : Sl w 1 v' n' (l'.map (Value.int .u8))) (hl : ∀ z ∈ l, (Lit.int .u8 z).wf = true) (hl' : ∀ z ∈ l', (Lit.int .u8 z).wf = true) :
    Calls Tryd.prog 12 #[v, v'] w fun e w' => e = .returned (.bool (decide (l = l'))) ∧ w = w' := by
  have c1 := run_bytes (dst := 9) Tryd.underlying23 Tryd.underlying5 Tryd.underlying9 hv
  have c2 := run_bytes (dst := 9) Tryd.underlying23 Tryd.underlying5 Tryd.underlying9 hv'
  have HI := Lib.hid (bstr_inj hl hl')
  have HI2 : Hid (l = l' → bstr l = bstr l') := fun h => by rw [h]
  generalize bstr l = s at *
  generalize bstr l' = s' at *
  go_enter Tryd.func12, Tryd.ntmps12
  go_wp2_with fail
  go_ret
  refine ⟨ret_bool ?_, rfl⟩
  rw [ByteArray.toList_eq, ByteArray.toList_eq]
  by_cases h : l = l'
  · rw [HI2.out h]; simp [h]
  · have h2 : s.data.toList ≠ s'.data.toList := fun h' => h (HI.out (bytes_inj h'))
    rw [beq_eq_false_iff_ne.2 h2, decide_eq_false h]
end Go.Proofs.YtbifhmbfmoeofaaDoor.Bits
