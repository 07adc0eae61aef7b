/-
  The walks of sameTokens, SameNodes, SameClaims at equal lists.
-/
import Derived.Test.YtcljeedmiobepaaCmp
import Derived.Deep.QuietTactic
import Derived.BigQuiet
namespace Go.Proofs.Ytcljeedmiobepaa.Nod
open Go.RowKit Go.Gh
set_option linter.unusedVariables false
set_option maxRecDepth 100000 in
theorem sametok_any (v u : Value) (l : List Int) (w : World) (hs : Toks w v l) (ht : Toks w u l) :
    Calls Try.prog 107 #[v, u] w fun e w' => e = .returned (.bool true) ∧ ∃ q, w' = w.drewN q := by
  obtain ⟨ao, c, rfl, hnc, hc, -⟩ := hs.1.shape
  obtain ⟨bo, d, rfl, hod, hd, -⟩ := ht.1.shape
  obtain ⟨n, hn⟩ : ∃ n, l.length = n := ⟨_, rfl⟩
  rw [hn] at hs ht hnc hod ⊢
  have HN := Lib.hid hn
  have HS := Lib.hid hs
  have HT := Lib.hid ht
  clear hn hs ht
  go_enter Try.func107, Try.ntmps107
  go_wp2_with fail
  go_loopw [13] (fun i wr => ∃ k : Nat, k ≤ n ∧ i = .int .i64 k ∧ ∃ q, wr = w.drewN q) (fun i _ => n - (intOf i).toNat)
  case atStart => exact ⟨0, by omega, rfl, 0, rfl⟩
  case round =>
    obtain ⟨k, hk, rfl, q, rfl⟩ := hrel
    by_cases hlt : k < n
    · obtain ⟨b, off, rfl, hc1⟩ := HS.out.at (i := k) (by rw [HN.out]; exact hlt)
      obtain ⟨b', off', rfl, hc2⟩ := HT.out.at (i := k) (by rw [HN.out]; exact hlt)
      generalize l.getD k 0 = z at *
      have hz : (z != z) = false := by simp
      go_wp2_with fail
      go_quiet (fail)
      go_wp2
      go_roundw
      case rel => exact ⟨k + 1, by omega, by go_num, _, rfl⟩
      case measure => simp [intOf]; omega
    · obtain rfl : k = n := by omega
      go_wp2_with fail
      go_ret
      exact ⟨rfl, _, rfl⟩
theorem sp_at {α : Type} {R : World → α → List Value → Prop} {k : Nat} {w : World} {ao : Option Addr} {n c i : Nat} {L : List α} (h : Sp R k w (.slice ao n c) L) (hi : i < L.length) : ∃ a, L[i]? = some a := ⟨_, List.getElem?_eq_getElem hi⟩
set_option maxHeartbeats 2000000 in
set_option maxRecDepth 100000 in
theorem samenodes_any (v u : Value) (L : List Nd) (w : World) (hs : Sp NdR 2 w v L) (ht : Sp NdR 2 w u L) :
    Calls Try.prog 21 #[v, u] w fun e w' => e = .returned (.bool true) ∧ Below w.heap.size w w' := by
  obtain ⟨ao, c, rfl, hnc, hc⟩ := hs.shape
  obtain ⟨bo, d, rfl, hod, hd⟩ := ht.shape
  obtain ⟨n, hn⟩ : ∃ n, L.length = n := ⟨_, rfl⟩
  rw [hn] at hs ht hnc hod ⊢
  have HN := Lib.hid hn
  have HS := Lib.hid hs
  have HT := Lib.hid ht
  clear hn hs ht
  go_enter Try.func21, Try.ntmps21
  go_wp2_with fail
  go_loopw [13] (fun i wr => ∃ k : Nat, k ≤ n ∧ i = .int .i64 k ∧ Below w.heap.size w wr) (fun i _ => n - (intOf i).toNat)
  case atStart => exact ⟨0, by omega, rfl, Below.refl _ _⟩
  case round =>
    obtain ⟨k, hk, rfl, hbr⟩ := hrel
    by_cases hlt : k < n
    · obtain ⟨x, hx⟩ : ∃ x, L[k]? = some x := ⟨_, List.getElem?_eq_getElem (by rw [HN.out]; exact hlt)⟩
      obtain ⟨b, off, cs, rfl, ⟨t, rfl, htx⟩, _, hck⟩ := (HS.out.below ndR_mono hbr).get hx
      obtain ⟨b', off', cs', rfl, ⟨t', rfl, htx'⟩, _, hck'⟩ := (HT.out.below ndR_mono hbr).get hx
      have c0 := hck 0 _ rfl
      have c1 := hck 1 _ rfl
      have d0 := hck' 0 _ rfl
      have d1 := hck' 1 _ rfl
      rw [Nat.add_zero] at c0 d0
      have h1 := htx.one
      have HX : Hid (∀ q, Toks (wr.drewN q) t x.tk) := Lib.hid (fun q => htx.below (below_drewN (Below.refl _ _) q))
      have HX' : Hid (∀ q, Toks (wr.drewN q) t' x.tk) := Lib.hid (fun q => htx'.below (below_drewN (Below.refl _ _) q))
      obtain ⟨ta, tc, rfl, -, -, -⟩ := htx.1.shape
      obtain ⟨tb, td, rfl, -, -, -⟩ := htx'.1.shape
      clear hck hck' htx htx' hx h1
      have hz : (x.nm.toList != x.nm.toList) = false := by simp
      go_wp2_with fail
      go_quiet ((go_at_call 107; exact Calls.quiet_of (sametok_any _ _ x.tk _ (HX.out _) (HX'.out _))))
      go_wp2
      go_roundw
      case rel => exact ⟨k + 1, by omega, by go_num, below_drewN hbr _⟩
      case measure => simp [intOf]; omega
    · obtain rfl : k = n := by omega
      go_wp2_with fail
      go_ret
      exact ⟨rfl, hbr⟩
set_option maxHeartbeats 4000000 in
set_option maxRecDepth 100000 in
theorem sameclaims_any (v u : Value) (L : List Cl) (w : World) (hs : Sp ClR 4 w v L) (ht : Sp ClR 4 w u L) :
    Calls Try.prog 23 #[v, u] w fun e w' => e = .returned (.bool true) ∧ Below w.heap.size w w' := by
  obtain ⟨ao, c, rfl, hnc, hc⟩ := hs.shape
  obtain ⟨bo, d, rfl, hod, hd⟩ := ht.shape
  obtain ⟨n, hn⟩ : ∃ n, L.length = n := ⟨_, rfl⟩
  rw [hn] at hs ht hnc hod ⊢
  have HN := Lib.hid hn
  have HS := Lib.hid hs
  have HT := Lib.hid ht
  clear hn hs ht
  go_enter Try.func23, Try.ntmps23
  go_wp2_with fail
  go_loopw [13] (fun i wr => ∃ k : Nat, k ≤ n ∧ i = .int .i64 k ∧ Below w.heap.size w wr) (fun i _ => n - (intOf i).toNat)
  case atStart => exact ⟨0, by omega, rfl, Below.refl _ _⟩
  case round =>
    obtain ⟨k, hk, rfl, hbr⟩ := hrel
    by_cases hlt : k < n
    · obtain ⟨x, hx⟩ : ∃ x, L[k]? = some x := ⟨_, List.getElem?_eq_getElem (by rw [HN.out]; exact hlt)⟩
      obtain ⟨b, off, cs, rfl, ⟨t, rfl, htx⟩, _, hck⟩ := (HS.out.below clR_mono hbr).get hx
      obtain ⟨b', off', cs', rfl, ⟨t', rfl, htx'⟩, _, hck'⟩ := (HT.out.below clR_mono hbr).get hx
      have c0 := hck 0 _ rfl
      have c1 := hck 1 _ rfl
      have c2 := hck 2 _ rfl
      have c3 := hck 3 _ rfl
      have d0 := hck' 0 _ rfl
      have d1 := hck' 1 _ rfl
      have d2 := hck' 2 _ rfl
      have d3 := hck' 3 _ rfl
      rw [Nat.add_zero] at c0 d0
      have HX : Hid (∀ q, Toks (wr.drewN q) t x.tk) := Lib.hid (fun q => htx.below (below_drewN (Below.refl _ _) q))
      have HX' : Hid (∀ q, Toks (wr.drewN q) t' x.tk) := Lib.hid (fun q => htx'.below (below_drewN (Below.refl _ _) q))
      obtain ⟨ta, tc, rfl, -, -, -⟩ := htx.1.shape
      obtain ⟨tb, td, rfl, -, -, -⟩ := htx'.1.shape
      clear hck hck' htx htx' hx
      have hz : (x.nm.toList != x.nm.toList) = false := by simp
      have hz1 : (x.ver != x.ver) = false := by simp
      have hz2 : (x.st != x.st) = false := by simp
      go_wp2_with fail
      go_quiet ((go_at_call 107; exact Calls.quiet_of (sametok_any _ _ x.tk _ (HX.out _) (HX'.out _))))
      go_wp2
      go_roundw
      case rel => exact ⟨k + 1, by omega, by go_num, below_drewN hbr _⟩
      case measure => simp [intOf]; omega
    · obtain rfl : k = n := by omega
      go_wp2_with fail
      go_ret
      exact ⟨rfl, hbr⟩
end Go.Proofs.Ytcljeedmiobepaa.Nod
