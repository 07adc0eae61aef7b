/-
  Ranks: how they read; the walks of slices.IsSorted, rising, upTo.
-/
import Derived.Test.YtcljeedmiobepaaRkLaw
import Derived.Test.YtcljeedmiobepaaSort64
import Derived.Test.YtcljeedmiobepaaGen2
import Derived.Test.YtcljeedmiobepaaBoxes
import Derived.Deep.QuietTactic
import Derived.BigQuiet
import Derived.IntWalk
namespace Go.Proofs.Ytcljeedmiobepaa.Rk
open Go.RowKit Go.Gh
set_option linter.unusedVariables false
/-- A list of numbers. -/
def Ns (w : World) (v : Value) (l : List Int) : Prop := Sl w 1 v l.length (l.map (Value.int .i64))
theorem Ns.below {w w' : World} {v : Value} {l : List Int} (h : Ns w v l) (hb : Below w.heap.size w w') : Ns w' v l := Sl.below h hb
/-- A level, of one cell. -/
def LvR (w : World) (l : List Int) (c : List Value) : Prop := ∃ t, c = [t] ∧ Ns w t l
theorem lvR_mono : Mono LvR := fun w w' a c ⟨t, h1, h2⟩ hb => ⟨t, h1, h2.below hb⟩
def RkV (w : World) (v : Value) (s : Rk) : Prop := ∃ t u, v = .agg #[.int .i64 s.k, t, u, .int .i64 s.n, .int .i64 s.sl] ∧ Ns w t s.tl ∧ Sp LvR 1 w u s.lv
theorem RkV.below {w w' : World} {v : Value} {s : Rk} (h : RkV w v s) (hb : Below w.heap.size w w') : RkV w' v s := by
  obtain ⟨t, u, h1, h2, h3⟩ := h
  exact ⟨t, u, h1, h2.below hb, h3.below lvR_mono hb⟩
theorem Ns.at {w : World} {ao : Option Addr} {n c i : Nat} {l : List Int} {z : Int} (h : Ns w (.slice ao n c) l) (hz : l[i]? = some z) : ∃ b off, ao = some ⟨b, off, none⟩ ∧ w.cell? ⟨b, off + i, none⟩ = some (.int .i64 z) := by
  obtain ⟨ao', cap, e, _, _, _, _, h8⟩ := h
  simp at e
  obtain ⟨rfl, rfl, rfl⟩ := e
  obtain ⟨b, off, rfl, hc⟩ := h8 (by have := (List.getElem?_eq_some_iff.1 hz).1; omega)
  exact ⟨b, off, rfl, hc i _ (by rw [List.getElem?_map, hz]; rfl)⟩
theorem drew_add (w : World) (a b : Nat) : (w.drewN a).drewN b = w.drewN (a + b) := by
  induction b with
  | zero => rfl
  | succ b ih => show ((w.drewN a).drewN b).drew = _; rw [ih]; rfl
theorem nan_i64 (x : Int) (w : World) : Calls Try.prog 157 #[.int .i64 x] w fun e w' => e = .returned (.bool false) ∧ w = w' := by
  have h : (x != x) = false := by simp
  go_enter Try.func157, Try.ntmps157
  go_wp2
  go_ret
  exact ⟨rfl, rfl⟩
theorem less_i64 (x y : Int) (w : World) : Calls Try.prog 161 #[.int .i64 x, .int .i64 y] w fun e w' => e = .returned (.bool (decide (x < y))) ∧ ∃ q, w' = w.drewN q := by
  go_enter Try.func161, Try.ntmps161
  go_wp2_with (go_at_call 157; refine (nan_i64 _ _).mono ?_; rintro e w' ⟨rfl, rfl⟩)
  go_ret
  exact ⟨rfl, 0, rfl⟩
set_option maxHeartbeats 2000000 in
set_option maxRecDepth 100000 in
theorem issorted_any (v : Value) (l : List Int) (w : World) (hs : Ns w v l) :
    Calls Try.prog 154 #[v] w fun e w' => e = .returned (.bool (sortB l)) ∧ ∃ q, w' = w.drewN q := by
  obtain ⟨ao, c, rfl, hnc, hc, -⟩ := hs.shape
  obtain ⟨n, hn⟩ : ∃ n, l.length = n := ⟨_, rfl⟩
  have HS := Lib.hid hs
  rw [hn] at HS hnc ⊢
  have HN := Lib.hid hn
  clear hn hs
  go_enter Try.func154, Try.ntmps154
  go_wp2_with fail
  go_loopw [3] (fun i wr => ∃ j : Nat, j ≤ n ∧ i = .int .i64 ((j : Int) - 1) ∧ Hid (∀ (t : Nat) (a b : Int), j ≤ t + 1 → l[t]? = some a → l[t + 1]? = some b → a ≤ b) ∧ ∃ q, wr = w.drewN q) (fun i _ => (intOf i + 1).toNat)
  case atStart => exact ⟨n, Nat.le_refl _, rfl, Lib.hid (fun t a b ht ha hb => by have := (List.getElem?_eq_some_iff.1 hb).1; have := HN.out; omega), 0, rfl⟩
  case round =>
    obtain ⟨j, hj, rfl, HP, q, hq⟩ := hrel
    have HSr := Lib.hid (HS.out.below (show Below w.heap.size w wr by rw [hq]; exact below_drewN (Below.refl _ _) _))
    have HQ : Hid (wr = w.drewN q) := Lib.hid hq
    clear hq
    by_cases h2 : 2 ≤ j
    · obtain ⟨i, rfl⟩ : ∃ i, j = i + 2 := ⟨j - 2, by omega⟩
      obtain ⟨J, hJ⟩ : ∃ J, J = i + 1 := ⟨_, rfl⟩
      have e1 : ((i + 2 : Nat) : Int) - 1 = (J : Int) := by omega
      have e2 : (J : Int) - 1 = (i : Int) := by omega
      have e5 : IntKind.i64.wrap (i : Int) = (i : Int) := IntWalk.i64_in _ (by omega)
      obtain ⟨a, ha⟩ : ∃ a, l[i]? = some a := ⟨_, List.getElem?_eq_getElem (by have := HN.out; omega)⟩
      obtain ⟨b, hb⟩ : ∃ b, l[J]? = some b := ⟨_, List.getElem?_eq_getElem (by have := HN.out; omega)⟩
      obtain ⟨g, off, rfl, c0⟩ := HSr.out.at ha
      obtain ⟨g', off', e3, c1⟩ := HSr.out.at hb
      simp only [Option.some.injEq, Addr.mk.injEq, and_true] at e3
      obtain ⟨rfl, rfl⟩ := e3
      have HA := Lib.hid ha
      have HB := Lib.hid hb
      rw [hJ] at HB
      have hiJ : 0 ≤ (i : Int) := by omega
      have h0 : (0 : Int) < (J : Int) := by omega
      have h3 : (J : Int) < (n : Int) := by omega
      have h4 : (i : Int) < (n : Int) := by omega
      rw [e1]
      have HJ := Lib.hid hJ
      clear ha hb hJ
      by_cases hlt : b < a
      · have HF : Hid (sortB l = false) := Lib.hid (sortB_false HA.out HB.out hlt)
        go_wp2_with fail
        go_quiet ((go_at_call 161; exact Calls.quiet_of (less_i64 _ _ _)))
        go_wp2
        go_ret
        exact ⟨by rw [HF.out]; rfl, q + nq, by rw [HQ.out]; exact drew_add _ _ _⟩
      · have HP2 : Hid (∀ (t : Nat) (x y : Int), i + 1 ≤ t + 1 → l[t]? = some x → l[t + 1]? = some y → x ≤ y) := Lib.hid (fun t x y ht hx hy => by
          rcases Nat.lt_or_ge i t with h | h
          · exact HP.out t x y (by omega) hx hy
          · obtain rfl : t = i := by omega
            rw [HA.out] at hx
            rw [HB.out] at hy
            obtain rfl := Option.some.inj hx
            obtain rfl := Option.some.inj hy
            omega)
        go_wp2_with fail
        go_quiet ((go_at_call 161; exact Calls.quiet_of (less_i64 _ _ _)))
        go_wp2
        go_roundw
        case rel => exact ⟨i + 1, by omega, by rw [Int.natCast_add]; simp, HP2, q + nq, by rw [HQ.out]; exact drew_add _ _ _⟩
        case measure => simp [intOf]; omega
    · have HT : Hid (sortB l = true) := Lib.hid (sortB_true (fun i a b ha hb => HP.out i a b (by omega) ha hb))
      have h0 : ¬ (0 : Int) < (j : Int) - 1 := by omega
      go_wp2_with fail
      go_ret
      exact ⟨by rw [HT.out]; rfl, q, HQ.out⟩
set_option maxHeartbeats 2000000 in
set_option maxRecDepth 100000 in
theorem rising_any (v : Value) (l : List Int) (w : World) (hs : Ns w v l) :
    Calls Try.prog 149 #[v] w fun e w' => e = .returned (.bool (sortB l)) ∧ ∃ q, w' = w.drewN q := by
  obtain ⟨ao, c, rfl, hnc, hc, -⟩ := hs.shape
  obtain ⟨n, hn⟩ : ∃ n, l.length = n := ⟨_, rfl⟩
  have HS := Lib.hid hs
  rw [hn] at HS hnc ⊢
  have HN := Lib.hid hn
  clear hn hs
  go_enter Try.func149, Try.ntmps149
  go_wp2_with fail
  go_loopw [6] (fun i wr => ∃ j : Nat, j ≤ n ∧ i = .int .i64 j ∧ Hid (∀ (t : Nat) (a b : Int), t + 1 < j → l[t]? = some a → l[t + 1]? = some b → a ≤ b) ∧ ∃ q, wr = w.drewN q) (fun i _ => n - (intOf i).toNat)
  case atStart => exact ⟨0, Nat.zero_le _, rfl, Lib.hid (fun t a b ht => absurd ht (by omega)), 0, rfl⟩
  case round =>
    obtain ⟨j, hj, rfl, HP, q, hq⟩ := hrel
    have HSr := Lib.hid (HS.out.below (show Below w.heap.size w wr by rw [hq]; exact below_drewN (Below.refl _ _) _))
    have HQ : Hid (wr = w.drewN q) := Lib.hid hq
    clear hq
    by_cases hlt : j < n
    · rcases Nat.eq_zero_or_pos j with rfl | hjp
      · have HP2 : Hid (∀ (t : Nat) (a b : Int), t + 1 < 0 + 1 → l[t]? = some a → l[t + 1]? = some b → a ≤ b) := Lib.hid (fun t a b ht => absurd ht (by omega))
        go_wp2_with fail
        go_quiet (fail)
        go_wp2
        go_roundw
        case rel => exact ⟨0 + 1, by omega, by go_num, HP2, q + nq, by rw [HQ.out]; exact drew_add _ _ _⟩
        case measure => simp [intOf]; omega
      · obtain ⟨i, rfl⟩ : ∃ i, j = i + 1 := ⟨j - 1, by omega⟩
        have e2 : ((i + 1 : Nat) : Int) - 1 = (i : Int) := by omega
        obtain ⟨a, ha⟩ : ∃ a, l[i]? = some a := ⟨_, List.getElem?_eq_getElem (by have := HN.out; omega)⟩
        obtain ⟨b, hb⟩ : ∃ b, l[i + 1]? = some b := ⟨_, List.getElem?_eq_getElem (by have := HN.out; omega)⟩
        obtain ⟨g, off, rfl, c0⟩ := HSr.out.at ha
        obtain ⟨g', off', e3, c1⟩ := HSr.out.at hb
        simp only [Option.some.injEq, Addr.mk.injEq, and_true] at e3
        obtain ⟨rfl, rfl⟩ := e3
        have HA := Lib.hid ha
        have HB := Lib.hid hb
        have h0 : (0 : Int) < ((i + 1 : Nat) : Int) := by omega
        have h4 : (i : Int) < (n : Int) := by omega
        clear ha hb
        by_cases hlt2 : b < a
        · have HF : Hid (sortB l = false) := Lib.hid (sortB_false HA.out HB.out hlt2)
          go_wp2_with fail
          go_quiet (fail)
          go_wp2
          go_ret
          exact ⟨by rw [HF.out]; rfl, q + nq, by rw [HQ.out]; exact drew_add _ _ _⟩
        · have HP2 : Hid (∀ (t : Nat) (x y : Int), t + 1 < i + 1 + 1 → l[t]? = some x → l[t + 1]? = some y → x ≤ y) := Lib.hid (fun t x y ht hx hy => by
            rcases Nat.lt_or_ge t i with h | h
            · exact HP.out t x y (by omega) hx hy
            · obtain rfl : t = i := by omega
              rw [HA.out] at hx
              rw [HB.out] at hy
              obtain rfl := Option.some.inj hx
              obtain rfl := Option.some.inj hy
              omega)
          go_wp2_with fail
          go_quiet (fail)
          go_wp2
          go_roundw
          case rel => exact ⟨i + 1 + 1, by omega, by go_num, HP2, q + nq, by rw [HQ.out]; exact drew_add _ _ _⟩
          case measure => simp [intOf]; omega
    · obtain rfl : j = n := by omega
      have HT : Hid (sortB l = true) := Lib.hid (sortB_true (fun i a b ha hb => HP.out i a b (by have := (List.getElem?_eq_some_iff.1 hb).1; have := HN.out; omega) ha hb))
      go_wp2_with fail
      go_ret
      exact ⟨by rw [HT.out]; rfl, q, HQ.out⟩
set_option maxHeartbeats 2000000 in
set_option maxRecDepth 100000 in
theorem upto_any (v : Value) (l : List Int) (x : Int) (w : World) (hs : Ns w v l) (hp : l.Pairwise (· ≤ ·)) :
    Calls Try.prog 197 #[v, .int .i64 x] w fun e w' => e = .returned (.int .i64 (cntLe x l : Nat)) ∧ w = w' := by
  obtain ⟨ao, c, rfl, hnc, hc, -⟩ := hs.shape
  obtain ⟨n, hn⟩ : ∃ n, l.length = n := ⟨_, rfl⟩
  have HS := Lib.hid hs
  have HP := Lib.hid hp
  rw [hn] at HS hnc ⊢
  have HN := Lib.hid hn
  clear hn hs hp
  go_enter Try.func197, Try.ntmps197
  go_wp2_with fail
  go_loopw [5] (fun i wr => ∃ j : Nat, j ≤ n ∧ i = .int .i64 j ∧ Hid (∀ (t : Nat) (a : Int), t < j → l[t]? = some a → a ≤ x) ∧ w = wr) (fun i _ => n - (intOf i).toNat)
  case atStart => exact ⟨0, Nat.zero_le _, rfl, Lib.hid (fun t a ht => absurd ht (by omega)), rfl⟩
  case round =>
    obtain ⟨j, hj, rfl, HL, rfl⟩ := hrel
    by_cases hlt : j < n
    · obtain ⟨a, ha⟩ : ∃ a, l[j]? = some a := ⟨_, List.getElem?_eq_getElem (by have := HN.out; omega)⟩
      obtain ⟨g, off, rfl, c0⟩ := HS.out.at ha
      have HA := Lib.hid ha
      clear ha
      by_cases hle : a ≤ x
      · have HL2 : Hid (∀ (t : Nat) (b : Int), t < j + 1 → l[t]? = some b → b ≤ x) := Lib.hid (fun t b ht hb => by
          rcases Nat.lt_or_ge t j with h | h
          · exact HL.out t b h hb
          · obtain rfl : t = j := by omega
            rw [HA.out] at hb
            obtain rfl := Option.some.inj hb
            exact hle)
        go_wp2_with fail
        go_roundw
        case rel => exact ⟨j + 1, by omega, by go_num, HL2, by first | rfl | trivial⟩
        case measure => simp [intOf]; omega
      · have HC : Hid (cntLe x l = j) := Lib.hid (upto_cnt HP.out (by have := HN.out; omega) HL.out (fun v hv => by rw [HA.out] at hv; obtain rfl := Option.some.inj hv; omega))
        go_wp2_with fail
        go_ret
        exact ⟨by rw [HC.out]; rfl, by first | rfl | trivial⟩
    · obtain rfl : j = n := by omega
      have HC : Hid (cntLe x l = j) := Lib.hid (upto_cnt HP.out (by have := HN.out; omega) HL.out (fun v hv => by have := (List.getElem?_eq_some_iff.1 hv).1; have := HN.out; omega))
      go_wp2_with fail
      go_ret
      exact ⟨by rw [HC.out]; rfl, by first | rfl | trivial⟩
end Go.Proofs.Ytcljeedmiobepaa.Rk
