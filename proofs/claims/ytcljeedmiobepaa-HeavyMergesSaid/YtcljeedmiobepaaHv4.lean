/-
  Tallies of what is heavy: the walks of find and of slices.Clone.
-/
import Derived.Test.YtcljeedmiobepaaHv3
import Derived.Lib.SmallJoins
import Derived.Lib.SliceRun
import Derived.Deep.LoopGhost
import Derived.Shelf.Abstract
namespace Go.Proofs.Ytcljeedmiobepaa.Hv
open Go.RowKit Go.Gh
set_option linter.unusedVariables false
def cmpZ (x y : Int) : Int := if x < y then -1 else if y < x then 1 else 0
theorem nan_str (x : ByteArray) (w : World) : Calls Try.prog 202 #[.string x] w fun e w' => e = .returned (.bool false) ∧ w = w' := by
  have h : (x.toList != x.toList) = false := by simp
  go_enter Try.func202, Try.ntmps202
  go_wp2
  go_ret
  exact ⟨rfl, rfl⟩
theorem cmp_str (x y : ByteArray) (w : World) (hx : x.size ≤ 40) (hy : y.size ≤ 40) : Calls Try.prog 166 #[.string x, .string y] w fun e w' => e = .returned (.int .i64 (cmpZ (kH x) (kH y))) ∧ w = w' := by
  have h1 := kH_less hx hy
  have h2 := kH_less hy hx
  have h3 := kH_same hx hy
  obtain ⟨C, hC⟩ : ∃ C, cmpZ (kH x) (kH y) = C := ⟨_, rfl⟩
  rw [hC]
  unfold cmpZ at hC
  generalize hb1 : Op.bytesLess x.toList y.toList = B1 at *
  generalize hb2 : Op.bytesLess y.toList x.toList = B2 at *
  generalize hb3 : (x.toList == y.toList) = B3 at *
  go_enter Try.func166, Try.ntmps166
  rcases Int.lt_trichotomy (kH x) (kH y) with h | h | h
  · rw [if_pos h] at hC
    subst hC
    obtain rfl : B1 = true := by rw [h1]; exact decide_eq_true h
    clear h1 h2 h3 h
    go_wp2_with (go_at_call 202; refine (nan_str _ _).mono ?_; rintro e w' ⟨rfl, rfl⟩)
    go_ret
    exact ⟨rfl, rfl⟩
  · rw [if_neg (by omega), if_neg (by omega)] at hC
    subst hC
    obtain rfl : B1 = false := by rw [h1]; exact decide_eq_false (by omega)
    obtain rfl : B2 = false := by rw [h2]; exact decide_eq_false (by omega)
    obtain rfl : B3 = true := by rw [h3]; exact decide_eq_true h
    clear h1 h2 h3 h
    go_wp2_with (go_at_call 202; refine (nan_str _ _).mono ?_; rintro e w' ⟨rfl, rfl⟩)
    go_ret
    exact ⟨rfl, rfl⟩
  · rw [if_neg (by omega), if_pos h] at hC
    subst hC
    obtain rfl : B1 = false := by rw [h1]; exact decide_eq_false (by omega)
    obtain rfl : B2 = true := by rw [h2]; exact decide_eq_true h
    obtain rfl : B3 = false := by rw [h3]; exact decide_eq_false (by omega)
    clear h1 h2 h3 h
    go_wp2_with (go_at_call 202; refine (nan_str _ _).mono ?_; rintro e w' ⟨rfl, rfl⟩)
    go_ret
    exact ⟨rfl, rfl⟩
theorem find1_any (x : Ct) (key : ByteArray) (w : World) (hx : x.ky.size ≤ 40) (hk : key.size ≤ 40) : Calls Try.prog 165 #[.agg #[.string x.ky, .int .i64 x.n], .string key] w fun e w' => e = .returned (.int .i64 (cmpZ (kH x.ky) (kH key))) ∧ Below w.heap.size w w' := by
  have hb := (Below.refl w.heap.size w).alloc (Nat.le_refl _) (Obj.cells #[.string x.ky, .int .i64 x.n] 175)
  go_enter Try.func165, Try.ntmps165
  go_wp2_with (go_at_call 166; refine (cmp_str _ _ _ hx hk).mono ?_; rintro e w' ⟨rfl, rfl⟩)
  go_ret
  exact ⟨rfl, hb⟩
set_option maxHeartbeats 4000000 in
set_option maxRecDepth 100000 in
theorem bsf_any (v : Value) (key : ByteArray) (L : List Ct) (w : World) (hs : Sp CtR 2 w v L) (hr : Ris L) (hk40 : key.size ≤ 40) (hn : L.length ≤ 1000000) :
    Calls Try.prog 164 #[v, .string key, .func (.func 165) #[] #[]] w fun e w' => ∃ i : Nat, e = .returned (.tuple #[.int .i64 i, .bool (hitB L key i)]) ∧ AtH L key i ∧ Below w.heap.size w w' := by
  obtain ⟨ao, c, rfl, hnc, hc⟩ := hs.shape
  obtain ⟨n, hm⟩ : ∃ m, L.length = m := ⟨_, rfl⟩
  rw [hm] at hs hnc hn ⊢
  have HM := Lib.hid hm
  have HS := Lib.hid hs
  have HR := Lib.hid hr
  clear hm hs hr
  go_enter Try.func164, Try.ntmps164
  go_wp2_with fail
  go_loopg [9, 10] n (fun kx s5 s6 wr => ∃ (lo hi : Nat), s5 = .int .i64 lo ∧ s6 = .int .i64 hi ∧ lo ≤ hi ∧ hi ≤ n ∧ hi - lo ≤ kx ∧ Below w.heap.size w wr ∧
    Hid ((∀ (j : Nat) (x : Ct), j < lo → L[j]? = some x → kH x.ky < kH key) ∧ (∀ (j : Nat) (x : Ct), hi ≤ j → L[j]? = some x → kH key ≤ kH x.ky)))
  case atStart => exact ⟨0, n, rfl, rfl, Nat.zero_le _, Nat.le_refl _, by omega, Below.refl _ _, Lib.hid ⟨fun j x hj => absurd hj (Nat.not_lt_zero _), fun j x h1 h2 => by have := (List.getElem?_eq_some_iff.1 h2).1; have := HM.out; omega⟩⟩
  case round =>
    obtain ⟨lo, hi, rfl, rfl, hlh, hin, hg, hbr, I⟩ := hrel
    by_cases hlt : lo < hi
    · obtain ⟨x, hx⟩ : ∃ x, L[(lo + hi) / 2]? = some x := ⟨_, List.getElem?_eq_getElem (by rw [HM.out]; omega)⟩
      obtain ⟨b, off, cs, rfl, rfl, _, hck⟩ := (HS.out.below ctR_mono hbr).get hx
      have c0 := hck 0 _ rfl
      have c1 := hck 1 _ rfl
      rw [Nat.add_zero] at c0
      obtain ⟨M, hM⟩ : ∃ M, (lo + hi) / 2 = M := ⟨_, rfl⟩
      have hMi : ((lo : Int) + (hi : Int)) / 2 = (M : Int) := by omega
      rw [hM] at hx c0 c1
      have HX := Lib.hid hx
      have hx40 := (HR.out.1 x (List.mem_of_getElem? hx)).1
      clear hck hx
      by_cases hlk : kH x.ky < kH key
      · have hcz : cmpZ (kH x.ky) (kH key) = -1 := if_pos hlk
        have HCZ := Lib.hid hcz
        clear hcz
        go_wp2_with fail
        refine (find1_any x key _ hx40 hk40).mono ?_
        rw [HCZ.out]
        rintro e w' ⟨rfl, hb'⟩
        go_wp2_with fail
        go_roundg (hi - (M + 1))
        case measure => omega
        case rel =>
          have I2 : Hid ((∀ (j : Nat) (y : Ct), j < M + 1 → L[j]? = some y → kH y.ky < kH key) ∧ (∀ (j : Nat) (y : Ct), hi ≤ j → L[j]? = some y → kH key ≤ kH y.ky)) := Lib.hid ⟨fun j y hj hy => (by
            rcases Nat.lt_or_ge j M with h | h
            · have := ris_lt HR.out h hy HX.out
              omega
            · obtain rfl : j = M := by omega
              have := HX.out
              rw [this] at hy
              obtain rfl := Option.some.inj hy
              exact hlk), I.out.2⟩
          exact ⟨M + 1, hi, by go_num, rfl, by omega, hin, Nat.le_refl _, hbr.trans (hb'.mono hbr.size), I2⟩
      · have hcz : ¬ cmpZ (kH x.ky) (kH key) < 0 := by unfold cmpZ; rw [if_neg hlk]; split <;> omega
        obtain ⟨C, hC⟩ : ∃ C, cmpZ (kH x.ky) (kH key) = C := ⟨_, rfl⟩
        rw [hC] at hcz
        have HCZ := Lib.hid hC
        clear hC
        go_wp2_with fail
        refine (find1_any x key _ hx40 hk40).mono ?_
        rw [HCZ.out]
        rintro e w' ⟨rfl, hb'⟩
        go_wp2_with fail
        go_roundg (M - lo)
        case measure => omega
        case rel =>
          have I2 : Hid ((∀ (j : Nat) (y : Ct), j < lo → L[j]? = some y → kH y.ky < kH key) ∧ (∀ (j : Nat) (y : Ct), M ≤ j → L[j]? = some y → kH key ≤ kH y.ky)) := Lib.hid ⟨I.out.1, fun j y hj hy => (by
            rcases Nat.lt_or_ge M j with h | h
            · have := ris_lt HR.out h HX.out hy
              omega
            · obtain rfl : j = M := by omega
              have := HX.out
              rw [this] at hy
              obtain rfl := Option.some.inj hy
              omega)⟩
          exact ⟨lo, M, rfl, by go_num, by omega, by omega, Nat.le_refl _, hbr.trans (hb'.mono hbr.size), I2⟩
    · obtain rfl : hi = lo := by omega
      have HAT : Hid (AtH L key hi) := Lib.hid ⟨by rw [HM.out]; exact hin, I.out.1, I.out.2⟩
      by_cases hend : hi < n
      · obtain ⟨x, hx⟩ : ∃ x, L[hi]? = some x := ⟨_, List.getElem?_eq_getElem (by rw [HM.out]; exact hend)⟩
        obtain ⟨b, off, cs, rfl, rfl, _, hck⟩ := (HS.out.below ctR_mono hbr).get hx
        have c0 := hck 0 _ rfl
        have c1 := hck 1 _ rfl
        rw [Nat.add_zero] at c0
        have hx40 := (HR.out.1 x (List.mem_of_getElem? hx)).1
        have HH : Hid (hitB L key hi = decide (kH x.ky = kH key)) := Lib.hid (hitB_some hx)
        obtain ⟨C, hC⟩ : ∃ C, cmpZ (kH x.ky) (kH key) = C := ⟨_, rfl⟩
        have HC := Lib.hid hC
        have hcz : (C == 0) = decide (kH x.ky = kH key) := by
          rw [← hC]
          unfold cmpZ
          rcases Int.lt_trichotomy (kH x.ky) (kH key) with h | h | h
          · rw [if_pos h, decide_eq_false (by omega)]; rfl
          · rw [if_neg (by omega), if_neg (by omega), decide_eq_true h]; rfl
          · rw [if_neg (by omega), if_pos h, decide_eq_false (by omega)]; rfl
        generalize decide (kH x.ky = kH key) = D at *
        clear hck hx hC
        go_wp2_with fail
        refine (find1_any x key _ hx40 hk40).mono ?_
        rw [HC.out]
        rintro e w' ⟨rfl, hb'⟩
        go_wp2_with fail
        go_ret2
        exact ⟨hi, by rw [HH.out]; rfl, HAT.out, hbr.trans (hb'.mono hbr.size)⟩
      · have HH : Hid (hitB L key hi = false) := Lib.hid (hitB_none (by rw [HM.out]; omega))
        go_wp2_with fail
        go_ret2
        exact ⟨hi, by rw [HH.out]; rfl, HAT.out, hbr⟩
end Go.Proofs.Ytcljeedmiobepaa.Hv
