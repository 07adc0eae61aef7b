/-
  The walk of the law Names.
-/
import Derived.Test.YtkpjgenlonfkmaaRows
import Derived.Test.YtkpjgenlonfkmaaLib
import Derived.Outline
import Derived.BigQuiet
import Derived.Deep.QuietTactic
namespace Go.Proofs.Ytkpjgenlonfkmaa.Names
open Go.RowKit Go.Gh
set_option linter.unusedVariables false
theorem names_16 : ∀ k, k < 16 → [0, 1, 2, 3, 4, 5, 6, 7, 8, 9, 10, 11, 12, 13, 14, 15].getD k (0 : Int) = k := by decide
def numbers : List Int := [80000, 1000, 10, 40, 10, 200, 1000000000, 1099511627776, 1152921504606846976, 64, 20, 8, 200, 100, 4000, 20, 20, 20, 2000, 30000, 100, 16, 60]
def ups (n : Nat) : List Int := (List.range n).map fun (i : Nat) => (i : Int) + 1
theorem ups_get (n i : Nat) (h : i < n) : (ups n).getD i 0 = (i : Int) + 1 := by simp [ups, h]
set_option maxHeartbeats 4000000 in
theorem walk (w : World) :
    Calls Try.prog 3 #[] w fun e w' => e = .returned (.bool true) ∧ Below w.heap.size w w' := by
  go_enter Try.func3, Try.ntmps3
  go_wp2_with fail
  refine wp_abs (fun w1 => Sl w1 1 (.slice (some ⟨w.heap.size, 0, none⟩) 16 16) 16 ([0, 1, 2, 3, 4, 5, 6, 7, 8, 9, 10, 11, 12, 13, 14, 15].map (Value.int .i64)) ∧ Below w.heap.size w w1) ⟨own_sl (own_build w ([0, 1, 2, 3, 4, 5, 6, 7, 8, 9, 10, 11, 12, 13, 14, 15].map (Value.int .i64)) (Nat.le_refl _) rfl (by decide)), (Below.refl _ _).alloc (Nat.le_refl _) _⟩ ?_
  rintro w1 ⟨hs, hb⟩
  go_loop [0, 12] (fun r i => ∃ k : Nat, k ≤ 16 ∧ i = .int .i64 k ∧ r = .bool false) (fun _ i => 16 - (intOf i).toNat)
  case atStart => exact ⟨0, by omega, rfl, rfl⟩
  case round =>
    obtain ⟨k, hk, rfl, rfl⟩ := hrel
    by_cases hlt : k < 16
    · obtain ⟨b, off, hbo, hcell⟩ := hs.int hlt
      simp only [Option.some.injEq, Addr.mk.injEq, and_true] at hbo
      obtain ⟨rfl, rfl⟩ := hbo
      have hz : [0, 1, 2, 3, 4, 5, 6, 7, 8, 9, 10, 11, 12, 13, 14, 15].getD k (0 : Int) = k := by
        have := names_16 k hlt
        exact this
      rw [hz, Nat.zero_add] at hcell
      clear hz
      have hne : ((k : Int) != k) = false := by simp
      go_wp2
      go_round
      case rel => exact ⟨k + 1, by omega, by go_num, rfl⟩
      case measure => simp [intOf]; omega
    · obtain rfl : k = 16 := by omega
      go_wp2_with fail
      clear hs
      refine wp_abs (fun w2 => (∀ j, j < 3 → ∃ v n, w2.cell? ⟨w1.heap.size + 1 + 1 + 1, j, none⟩ = some v ∧ Sl w2 1 v n ((ups n).map (Value.int .i64))) ∧ Below w.heap.size w w2) ?_ ?_
      · have hsz := hb.size
        refine ⟨?_, (((hb.alloc hsz _).alloc (by simp; omega) _).alloc (by simp; omega) _).alloc (by simp; omega) _⟩
        intro j hj
        have s0 : w1.heap.size + 1 + 1 + 1 = (((w1.alloc (Obj.cells ((ups 4).map (Value.int .i64)).toArray 3)).alloc (Obj.cells ((ups 8).map (Value.int .i64)).toArray 3)).alloc (Obj.cells ((ups 4).map (Value.int .i64)).toArray 3)).heap.size := by simp
        have cn := cell_new (((w1.alloc (Obj.cells ((ups 4).map (Value.int .i64)).toArray 3)).alloc (Obj.cells ((ups 8).map (Value.int .i64)).toArray 3)).alloc (Obj.cells ((ups 4).map (Value.int .i64)).toArray 3)) 24 [.slice (some ⟨w1.heap.size, 0, none⟩) 4 4, .slice (some ⟨w1.heap.size + 1, 0, none⟩) 8 8, .slice (some ⟨w1.heap.size + 1 + 1, 0, none⟩) 4 4]
        rw [← s0] at cn
        match j, hj with
        | 0, _ => exact ⟨_, 4, cn 0 _ rfl, (((sl_new w1 ((ups 4).map (Value.int .i64)) rfl (by decide)).alloc _).alloc _).alloc _⟩
        | 1, _ =>
          have := sl_new (e := 3) (size := 1) (n := 8) (w1.alloc (Obj.cells ((ups 4).map (Value.int .i64)).toArray 3)) ((ups 8).map (Value.int .i64)) rfl (by decide)
          rw [show (w1.alloc (Obj.cells ((ups 4).map (Value.int .i64)).toArray 3)).heap.size = w1.heap.size + 1 from by simp] at this
          exact ⟨_, 8, cn 1 _ rfl, (this.alloc _).alloc _⟩
        | 2, _ =>
          have := sl_new (e := 3) (size := 1) (n := 4) ((w1.alloc (Obj.cells ((ups 4).map (Value.int .i64)).toArray 3)).alloc (Obj.cells ((ups 8).map (Value.int .i64)).toArray 3)) ((ups 4).map (Value.int .i64)) rfl (by decide)
          rw [show ((w1.alloc (Obj.cells ((ups 4).map (Value.int .i64)).toArray 3)).alloc (Obj.cells ((ups 8).map (Value.int .i64)).toArray 3)).heap.size = w1.heap.size + 1 + 1 from by simp] at this
          exact ⟨_, 4, cn 2 _ rfl, this.alloc _⟩
      · rintro w2 ⟨hs, hb⟩
        go_loop [0, 27] (fun r i => ∃ k : Nat, k ≤ 3 ∧ i = .int .i64 k ∧ r = .bool false) (fun _ i => 3 - (intOf i).toNat)
        case atStart => exact ⟨0, by omega, rfl, rfl⟩
        case round =>
          obtain ⟨j, hj, rfl, rfl⟩ := hrel
          by_cases hlt : j < 3
          · obtain ⟨v, n, hcj, hsj⟩ := hs j hlt
            obtain ⟨ao, c, rfl, hn, hc, hlen⟩ := hsj.shape
            have HS := Lib.hid hs
            clear hs
            go_wp2_with fail
            go_loop [0, 33] (fun r i => ∃ k : Nat, k ≤ n ∧ i = .int .i64 k ∧ r = .bool false) (fun _ i => n - (intOf i).toNat)
            case atStart => exact ⟨0, by omega, rfl, rfl⟩
            case round =>
              obtain ⟨k, hk, rfl, rfl⟩ := hrel
              by_cases hlt2 : k < n
              · obtain ⟨b, off, rfl, hcell⟩ := hsj.int hlt2
                rw [ups_get n k hlt2] at hcell
                have hne : ((k : Int) + 1 != (k : Int) + 1) = false := by simp
                go_wp2
                go_round
                case rel => exact ⟨k + 1, by omega, by go_num, rfl⟩
                case measure => simp [intOf]; omega
              · obtain rfl : k = n := by omega
                go_wp2
                go_round
                case rel => exact ⟨j + 1, by omega, by go_num, rfl⟩
                case measure => simp [intOf]; omega
          · obtain rfl : j = 3 := by omega
            clear hs
            go_wp2_with fail
            have hz2 := hb.size
            refine wp_abs (fun w3 => Sl w3 1 (.slice (some ⟨w2.heap.size, 0, none⟩) 23 23) 23 (numbers.map (Value.int .i64)) ∧ Sl w3 1 (.slice (some ⟨w2.heap.size + 1, 0, none⟩) 23 23) 23 (numbers.map (Value.int .i64)) ∧ Below w.heap.size w w3) ?_ ?_
            · have n2 := sl_new (e := 3) (size := 1) (n := 23) (w2.alloc (Obj.cells (numbers.map (Value.int .i64)).toArray 3)) (numbers.map (Value.int .i64)) rfl (by decide)
              rw [show (w2.alloc (Obj.cells (numbers.map (Value.int .i64)).toArray 3)).heap.size = w2.heap.size + 1 from by simp] at n2
              exact ⟨(sl_new w2 (numbers.map (Value.int .i64)) rfl (by decide)).alloc _, n2, (hb.alloc hz2 _).alloc (by simp; omega) _⟩
            · rintro w3 ⟨hs1, hs2, hb⟩
              go_loopw [0, 49] (fun r i wr => ∃ k : Nat, k ≤ 23 ∧ i = .int .i64 k ∧ r = .bool false ∧ Below w3.heap.size w3 wr) (fun _ i _ => 23 - (intOf i).toNat)
              case atStart => exact ⟨0, by omega, rfl, rfl, Below.refl _ _⟩
              case round =>
                obtain ⟨k, hk, rfl, rfl, hbr⟩ := hrel
                by_cases hlt : k < 23
                · obtain ⟨b, off, hbo, c1⟩ := (hs1.below hbr).int hlt
                  obtain ⟨b', off', hbo', c2⟩ := (hs2.below hbr).int hlt
                  simp only [Option.some.injEq, Addr.mk.injEq, and_true] at hbo hbo'
                  obtain ⟨rfl, rfl⟩ := hbo
                  obtain ⟨rfl, rfl⟩ := hbo'
                  rw [Nat.zero_add] at c1 c2
                  generalize numbers.getD k 0 = z at c1 c2
                  have hne : (z != z) = false := by simp
                  have hk1 : (k : Int) < 23 := by omega
                  go_wp2
                  go_quiet (fail)
                  go_wp2
                  go_roundw
                  case rel => exact ⟨k + 1, by omega, by go_num, rfl, by first | exact hbr | exact hbr.drew | exact below_drewN hbr _⟩
                  case measure => simp [intOf]; omega
                · obtain rfl : k = 23 := by omega
                  have hfin := hb.trans (hbr.mono hb.size)
                  go_wp2
                  go_ret
                  exact ⟨rfl, hfin⟩
end Go.Proofs.Ytkpjgenlonfkmaa.Names
