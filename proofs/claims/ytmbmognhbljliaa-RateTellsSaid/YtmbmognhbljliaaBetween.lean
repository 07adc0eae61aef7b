/-
  The walk of Between.
-/
import Derived.Test.YtmbmognhbljliaaSmpEl
namespace Go.Proofs.Ytmbmognhbljliaa.Sam
open Go.RowKit Go.Gh
set_option linter.unusedVariables false
def betRows (fr till : Int) (l : List (List Int)) (k : Nat) : List Value := rowCells (betF fr till (l.take k))
theorem betRows_in {fr till T V : Int} {l : List (List Int)} {k : Nat} (h : k < l.length) (hx : l.getD k [] = [T, V]) (h1 : fr ≤ T) (h2 : T < till) : betRows fr till l (k + 1) = betRows fr till l k ++ [T, V].map (Value.int .i64) ∧ (betF fr till (l.take (k + 1))).length = (betF fr till (l.take k)).length + 1 := by
  unfold betRows
  have := betF_in (fr := fr) (till := till) h (by rw [hx]; exact h1) (by rw [hx]; exact h2)
  rw [this, hx, rowCells_append, rowCells_one]
  exact ⟨rfl, by simp⟩
theorem betRows_out {fr till T V : Int} {l : List (List Int)} {k : Nat} (h : k < l.length) (hx : l.getD k [] = [T, V]) (h1 : ¬ (fr ≤ T ∧ T < till)) : betRows fr till l (k + 1) = betRows fr till l k ∧ (betF fr till (l.take (k + 1))).length = (betF fr till (l.take k)).length := by
  unfold betRows
  have := betF_out (fr := fr) (till := till) h (by rw [hx]; exact h1)
  rw [this]
  exact ⟨rfl, rfl⟩
def betN (fr till : Int) (l : List (List Int)) (k : Nat) : Nat := (betF fr till (l.take k)).length
theorem betN_le (fr till : Int) (l : List (List Int)) (k : Nat) : betN fr till l k ≤ k := Nat.le_trans (betF_len _ _ _) (by rw [List.length_take]; omega)
set_option maxHeartbeats 1000000 in
set_option maxRecDepth 100000 in
theorem between_any (v : Value) (n : Nat) (l : List (List Int)) (fr till : Int) (w : World) (hs : Sl w 2 v n (rowCells l)) (hl : l.length = n) (hr : RowsK 2 l) (hn : n ≤ 140737488355328 / 32) :
    Calls Try.prog 34 #[v, .int .i64 fr, .int .i64 till] w fun e w' => ∃ v', e = .returned v' ∧ w'.ownsRow w.heap.size 90 2 v' (betF fr till l).length (rowCells (betF fr till l)) ∧ Below w.heap.size w w' := by
  obtain ⟨ao, c, rfl, hnc, hc, _⟩ := hs.shape
  have HL := Lib.hid hl
  have hn2 : n ≤ 4398046511104 := hn
  clear hl hn
  go_enter Try.func34, Try.ntmps34
  go_wp2_with fail
  go_loopw [7, 12] (fun u i wr => ∃ k : Nat, k ≤ n ∧ i = .int .i64 k ∧ wr.ownsRow w.heap.size 90 2 u (betN fr till l k) (betRows fr till l k) ∧ Below w.heap.size w wr) (fun _ i _ => n - (intOf i).toNat)
  case atStart => exact ⟨0, by omega, rfl, World.ownsRow_nil _ _ _ _, Below.refl _ _⟩
  case round =>
    obtain ⟨k, hk, rfl, hown, hbel⟩ := hrel
    have hsz := hbel.size
    by_cases hlt : k < n
    · obtain ⟨b, off, rfl, hk1, hck⟩ := (hs.below hbel).rowk HL.out hr hlt
      obtain ⟨T, V, hx⟩ := row2 _ hk1
      rw [hx] at hck
      have c0 : _ = some (Value.int .i64 T) := hck 0 (by decide)
      have c1 : _ = some (Value.int .i64 V) := hck 1 (by decide)
      rw [Nat.add_zero] at c0
      have hm := betN_le fr till l k
      have hbelA := hbel.alloc hsz (Obj.cells #[.int .i64 T, .int .i64 V] 90)
      have HX := Lib.hid hx
      clear hck hk1 hx
      by_cases h1 : fr ≤ T
      · by_cases h2 : T < till
        · have HO := Lib.hid (betRows_in (fr := fr) (till := till) (by rw [HL.out]; exact hlt) HX.out h1 h2)
          generalize hN : betN fr till l k = N at *
          have HN := Lib.hid hN
          clear hN
          go_wp2_with (at_builtin; refine append1p ([T, V].map (Value.int .i64)) elSmp rfl _ _ rfl (hown.alloc _) hbelA ?c1 rfl rfl ?c0 rfl (ints_one _) ?c2 ?c3 ?_)
          case c0 => simp
          case c1 => simp; omega
          case c2 => omega
          case c3 => omega
          intro v' w2 hown' hbel' _
          have hown2 : w2.ownsRow w.heap.size 90 2 v' (betN fr till l (k + 1)) (betRows fr till l (k + 1)) := by
            have e : betN fr till l (k + 1) = N + 1 := by rw [← HN.out]; exact HO.out.2
            rw [e, HO.out.1]
            exact hown'
          clear hown hbel hbelA c0 c1 hown'
          go_wp2
          go_roundw
          case rel => exact ⟨k + 1, by omega, by go_num, hown2, hbel'⟩
          case measure => simp [intOf]; omega
        · have HO := Lib.hid (betRows_out (fr := fr) (till := till) (by rw [HL.out]; exact hlt) HX.out (fun h => h2 h.2))
          have hown2 : wr.ownsRow w.heap.size 90 2 u7 (betN fr till l (k + 1)) (betRows fr till l (k + 1)) := by
            have e : betN fr till l (k + 1) = betN fr till l k := HO.out.2
            rw [e, HO.out.1]
            exact hown
          go_wp2_with fail
          go_roundw
          case rel => exact ⟨k + 1, by omega, by go_num, hown2.alloc _, hbelA⟩
          case measure => simp [intOf]; omega
      · have HO := Lib.hid (betRows_out (fr := fr) (till := till) (by rw [HL.out]; exact hlt) HX.out (fun h => h1 h.1))
        have hown2 : wr.ownsRow w.heap.size 90 2 u7 (betN fr till l (k + 1)) (betRows fr till l (k + 1)) := by
          have e : betN fr till l (k + 1) = betN fr till l k := HO.out.2
          rw [e, HO.out.1]
          exact hown
        go_wp2_with fail
        go_roundw
        case rel => exact ⟨k + 1, by omega, by go_num, hown2.alloc _, hbelA⟩
        case measure => simp [intOf]; omega
    · obtain rfl : k = n := by omega
      have hown2 : wr.ownsRow w.heap.size 90 2 u7 (betF fr till l).length (rowCells (betF fr till l)) := by
        have e : betF fr till (l.take k) = betF fr till l := by rw [List.take_of_length_le (by rw [HL.out]; exact Nat.le_refl _)]
        unfold betN betRows at hown
        rw [e] at hown
        exact hown
      have HO := Lib.hid hown2
      clear hown hown2
      go_wp2_with fail
      go_ret
      exact ⟨_, rfl, HO.out, hbel⟩
end Go.Proofs.Ytmbmognhbljliaa.Sam
