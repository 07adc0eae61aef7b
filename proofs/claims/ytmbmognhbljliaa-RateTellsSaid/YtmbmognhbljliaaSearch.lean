/-
  The walks of sort.Search and of the two conditions that Range hands it.
-/
import Derived.Test.YtmbmognhbljliaaSmpEl
import Derived.Deep.LoopGhost
import Derived.Shelf.Abstract
namespace Go.Proofs.Ytmbmognhbljliaa.Sam
open Go.RowKit Go.Gh
set_option linter.unusedVariables false

set_option maxHeartbeats 4000000 in
set_option maxRecDepth 1000000 in
theorem search_any (g : Nat) (cb : Array Value) (n : Nat) (p : Nat → Bool) (w : World) (eg : ∀ args w, (callFunc g args).run Try.prog w = .ok (.enter g args) w) (hsz : n < 4611686018427387904)
    (hf : ∀ (i : Nat) (w' : World), i < n → Below w.heap.size w w' → Calls Try.prog g (#[.int .i64 i] ++ cb) w' fun e w'' => e = .returned (.bool (p i)) ∧ Below w'.heap.size w' w'')
    (hmono : ∀ a b, a ≤ b → b < n → p a = true → p b = true) :
    Calls Try.prog 72 #[.int .i64 n, .func (.func g) #[] cb] w fun e w' => (∃ k : Nat, k ≤ n ∧ e = .returned (.int .i64 k) ∧ (∀ t, t < k → p t = false) ∧ (∀ t, k ≤ t → t < n → p t = true)) ∧ Below w.heap.size w w' := by
  have HF := Lib.hid hf
  have M := Lib.hid hmono
  clear hf hmono
  go_enter Try.func72, Try.ntmps72
  go_wp2_with fail
  go_loopg [5, 6] n (fun kx s5 s6 wr => ∃ (lo hi : Nat), s5 = .int .i64 lo ∧ s6 = .int .i64 hi ∧ lo ≤ hi ∧ hi ≤ n ∧ hi - lo ≤ kx ∧ Below w.heap.size w wr ∧
    Hid ((∀ t, t < lo → p t = false) ∧ (∀ t, hi ≤ t → t < n → p t = true)))
  case atStart => exact ⟨0, n, rfl, rfl, Nat.zero_le _, Nat.le_refl _, by omega, Below.refl _ _, Lib.hid ⟨fun t ht => absurd ht (Nat.not_lt_zero _), fun t h1 h2 => by omega⟩⟩
  case round =>
    obtain ⟨lo, hi, rfl, rfl, hlh, hin, hg, hbr, I⟩ := hrel
    by_cases hlt : lo < hi
    · have hc := HF.out ((lo + hi) / 2) wr (by omega) hbr
      rw [show (((lo + hi) / 2 : Nat) : Int) = ((lo : Int) + (hi : Int)) / 2 by omega] at hc
      cases hp : p ((lo + hi) / 2) <;> rw [hp] at hc
      · have HP := Lib.hid hp
        clear hp
        go_wp2_with (go_at_fn g; refine hc.mono ?_; rintro e w' ⟨rfl, hb'⟩)
        go_roundg (hi - ((lo + hi) / 2 + 1))
        case measure => omega
        case rel =>
          have I2 : Hid ((∀ t, t < (lo + hi) / 2 + 1 → p t = false) ∧ (∀ t, hi ≤ t → t < n → p t = true)) := Lib.hid ⟨fun t ht => (by
            cases h : p t with
            | false => rfl
            | true => have := M.out t ((lo + hi) / 2) (by omega) (by omega) h; rw [HP.out] at this; cases this), I.out.2⟩
          exact ⟨(lo + hi) / 2 + 1, hi, by rw [show ((lo : Int) + (hi : Int)) / 2 + 1 = (((lo + hi) / 2 + 1 : Nat) : Int) by omega], rfl, by omega, hin, Nat.le_refl _, hbr.trans (hb'.mono hbr.size), I2⟩
      · have HP := Lib.hid hp
        clear hp
        go_wp2_with (go_at_fn g; refine hc.mono ?_; rintro e w' ⟨rfl, hb'⟩)
        go_roundg ((lo + hi) / 2 - lo)
        case measure => omega
        case rel =>
          have I2 : Hid ((∀ t, t < lo → p t = false) ∧ (∀ t, (lo + hi) / 2 ≤ t → t < n → p t = true)) := Lib.hid ⟨I.out.1, fun t ht htn => M.out ((lo + hi) / 2) t ht htn HP.out⟩
          exact ⟨lo, (lo + hi) / 2, rfl, by rw [show ((lo : Int) + (hi : Int)) / 2 = (((lo + hi) / 2 : Nat) : Int) by omega], by omega, by omega, Nat.le_refl _, hbr.trans (hb'.mono hbr.size), I2⟩
    · obtain rfl : hi = lo := by omega
      go_wp2_with fail
      go_ret
      exact ⟨⟨hi, hin, rfl, I.out.1, I.out.2⟩, hbr⟩
set_option maxRecDepth 100000 in
theorem closure1 (ba bx n c : Nat) (ao : Option Addr) (l : List (List Int)) (x : Int) (i : Nat) (W : World) (hi : i < n) (ha : W.cell? ⟨ba, 0, none⟩ = some (.slice ao n c)) (hx : W.cell? ⟨bx, 0, none⟩ = some (.int .i64 x)) (hs : Sl W 2 (.slice ao n c) n (rowCells l)) (hl : l.length = n) (hr : RowsK 2 l) :
    Calls Try.prog 73 (#[.int .i64 i] ++ #[.pointer (some ⟨ba, 0, none⟩), .pointer (some ⟨bx, 0, none⟩)]) W fun e w' => e = .returned (.bool (decide (x ≤ rg (l.getD i []) 0))) ∧ Below W.heap.size W w' := by
  obtain ⟨b, off, rfl, hk1, hck⟩ := hs.rowk hl hr hi
  obtain ⟨T, V, hv⟩ := row2 _ hk1
  rw [hv] at hck
  rw [hv]
  have c0 : _ = some (Value.int .i64 T) := hck 0 (by decide)
  rw [Nat.add_zero] at c0
  have hiz : (i : Int) < (n : Int) := by omega
  clear hck hk1 hv hl hr hs
  go_enter Try.func73, Try.ntmps73
  go_wp2_with fail
  go_quiet (fail)
  go_wp2_with fail
  go_ret
  exact ⟨by first | rfl | simp [rg], below_drewN (Below.refl _ _) _⟩
set_option maxRecDepth 100000 in
theorem closure2 (ba bx n c : Nat) (ao : Option Addr) (l : List (List Int)) (x : Int) (i : Nat) (W : World) (hi : i < n) (ha : W.cell? ⟨ba, 0, none⟩ = some (.slice ao n c)) (hx : W.cell? ⟨bx, 0, none⟩ = some (.int .i64 x)) (hs : Sl W 2 (.slice ao n c) n (rowCells l)) (hl : l.length = n) (hr : RowsK 2 l) :
    Calls Try.prog 74 (#[.int .i64 i] ++ #[.pointer (some ⟨ba, 0, none⟩), .pointer (some ⟨bx, 0, none⟩)]) W fun e w' => e = .returned (.bool (decide (x ≤ rg (l.getD i []) 0))) ∧ Below W.heap.size W w' := by
  obtain ⟨b, off, rfl, hk1, hck⟩ := hs.rowk hl hr hi
  obtain ⟨T, V, hv⟩ := row2 _ hk1
  rw [hv] at hck
  rw [hv]
  have c0 : _ = some (Value.int .i64 T) := hck 0 (by decide)
  rw [Nat.add_zero] at c0
  have hiz : (i : Int) < (n : Int) := by omega
  clear hck hk1 hv hl hr hs
  go_enter Try.func74, Try.ntmps74
  go_wp2_with fail
  go_quiet (fail)
  go_wp2_with fail
  go_ret
  exact ⟨by first | rfl | simp [rg], below_drewN (Below.refl _ _) _⟩
end Go.Proofs.Ytmbmognhbljliaa.Sam
