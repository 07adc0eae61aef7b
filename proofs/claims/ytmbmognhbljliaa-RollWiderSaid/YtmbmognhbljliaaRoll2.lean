/-
  The walks of OnePer, Roll's windows of one sample each.
-/
import Derived.Test.YtmbmognhbljliaaRoll1
import Derived.Test.YtmbmognhbljliaaSmp
namespace Go.Proofs.Ytmbmognhbljliaa.Roll
open Go.RowKit Go.Gh Go.Proofs.Ytmbmognhbljliaa.Smp
set_option linter.unusedVariables false

theorem infoWin : (Try.prog.info? 92).map (fun i => (i.zero, i.size, i.bytes)) = some (some (.agg #[.int .i64 0, .int .i64 0, .int .i64 0, .int .i64 0, .int .i64 0, .int .i64 0, .int .i64 0]), 7, 56) := by kernel_rfl
theorem elWin : Elem Try.prog 36 92 7 56 := elem_of Try.underlying36 infoWin rfl (by decide)

theorem ints7 (l : List Int) : ∀ u ∈ l.map (Value.int .i64), u.oneCell' = true := by
  intro u hu; simp at hu; obtain ⟨z, _, rfl⟩ := hu; rfl
def oneRows (l : List (List Int)) (k : Nat) : List Value := rowCells ((l.take k).map oneW)
theorem oneRows_all (l : List (List Int)) (k : Nat) (h : l.length = k) : oneRows l k = rowCells (l.map oneW) := by
  unfold oneRows; rw [List.take_of_length_le (by omega)]
theorem one_row (l : List (List Int)) (k : Nat) (h : k < l.length) : rowCells ((l.take (k + 1)).map oneW) = rowCells ((l.take k).map oneW) ++ (oneW (l.getD k [])).map (Value.int .i64) := by
  rw [List.take_succ_eq_append_getElem h, List.map_append]
  unfold rowCells
  rw [List.flatMap_append]
  congr 1
  rw [List.getD_eq_getElem?_getD, List.getElem?_eq_getElem h]
  simp

set_option maxHeartbeats 1000000 in
theorem oneRows_succ (l : List (List Int)) (k : Nat) (h : k < l.length) : oneRows l (k + 1) = oneRows l k ++ [.int .i64 ((l.getD k []).getD 0 0), .int .i64 1, .int .i64 ((l.getD k []).getD 1 0), .int .i64 ((l.getD k []).getD 1 0), .int .i64 ((l.getD k []).getD 1 0), .int .i64 ((l.getD k []).getD 1 0), .int .i64 ((l.getD k []).getD 1 0)] :=
  one_row l k h
set_option maxRecDepth 100000 in
theorem oneper_any (v : Value) (n : Nat) (l : List (List Int)) (w : World) (hs : Sl w 2 v n (rowCells l)) (hl : l.length = n) (hr : Rows64 2 l) (hn : n ≤ 1000) :
    Calls Try.prog 29 #[v] w fun e w' => ∃ v', e = .returned v' ∧ w'.ownsRow w.heap.size 92 7 v' n (rowCells (l.map oneW)) ∧ Below w.heap.size w w' := by
  obtain ⟨ao, c, rfl, hnc, hc, _⟩ := hs.shape
  have HL := Lib.hid hl
  clear hl
  go_enter Try.func29, Try.ntmps29
  go_wp2_with fail
  go_loopw [3, 8] (fun u i wr => ∃ k : Nat, k ≤ n ∧ i = .int .i64 k ∧ wr.ownsRow w.heap.size 92 7 u k (oneRows l k) ∧ Below w.heap.size w wr) (fun _ i _ => n - (intOf i).toNat)
  case atStart => exact ⟨0, by omega, rfl, World.ownsRow_nil _ _ _ _, Below.refl _ _⟩
  case round =>
    obtain ⟨k, hk, rfl, hown, hbel⟩ := hrel
    have hsz := hbel.size
    by_cases hlt : k < n
    · obtain ⟨b, off, rfl, hk1, hk2, hck⟩ := (hs.below hbel).row HL.out hr hlt
      have c0 := hck 0 (by decide)
      have c1 := hck 1 (by decide)
      rw [Nat.add_zero] at c0
      have HO := Lib.hid (oneRows_succ l k (by rw [HL.out]; exact hlt))
      clear hck hk1 hk2
      generalize (l.getD k []).getD 0 0 = T at *
      generalize (l.getD k []).getD 1 0 = V at *
      have hbelA := hbel.alloc hsz (Obj.cells #[.int .i64 T, .int .i64 V] 90)
      go_wp2_with (at_builtin; refine append1p ([T, 1, V, V, V, V, V].map (Value.int .i64)) elWin rfl _ _ rfl (hown.alloc _) hbelA ?c1 rfl rfl ?c0 rfl (ints7 _) ?c2 ?c3 ?_)
      case c0 => simp
      case c1 => simp; omega
      case c2 => omega
      case c3 => omega
      intro v' w1 hown' hbel' _
      rw [← HO.out] at hown'
      clear hown hbel hbelA c0 c1
      go_wp2
      go_roundw
      case rel => exact ⟨k + 1, by omega, by go_num, hown', hbel'⟩
      case measure => simp [intOf]; omega
    · obtain rfl : k = n := by omega
      rw [oneRows_all l k HL.out] at hown
      have HO := Lib.hid hown
      clear hown
      go_wp2_with fail
      go_ret
      exact ⟨_, rfl, HO.out, hbel⟩
end Go.Proofs.Ytmbmognhbljliaa.Roll
