/-
  Sketches: the walks of slices.Clone at []int64, sameNumbers, SameSketch; an argument opened.
-/
import Derived.Test.YtmbmognhbljliaaSk1
import Derived.Deep.QuietTactic
import Derived.Lib.SmallJoins
import Derived.IntWalk
namespace Go.Proofs.Ytmbmognhbljliaa.Sk
open Go.RowKit Go.Gh Go.WideShapes Go.ChangeShapes Go.ChangeAt Go.Joins
set_option linter.unusedVariables false

theorem infoI64 : (Try.prog.info? 2).map (fun i => (i.zero, i.size, i.bytes)) = some (some (.int .i64 0), 1, 8) := by kernel_rfl
theorem elI64 : Elem Try.prog 64 2 1 8 := elem_of Try.underlying64 infoI64 rfl (by decide)
theorem ints_one (l : List Int) : ∀ u ∈ l.map (Value.int .i64), u.oneCell' = true := by
  intro u hu; simp at hu; obtain ⟨z, _, rfl⟩ := hu; rfl
theorem clone_any (v : Value) (n : Nat) (l : List Int) (w : World) (hv : Sl w 1 v n (l.map (Value.int .i64))) (hn : n ≤ 1600) :
    Calls Try.prog 62 #[v] w fun e w' => ∃ v', e = .returned v' ∧ w'.ownsRow w.heap.size 2 1 v' n (l.map (Value.int .i64)) ∧ Below w.heap.size w w' := by
  obtain ⟨ao, c, rfl, hnc, hc, hlen⟩ := hv.shape
  have HN := Lib.hid hn
  clear hn
  cases ao with
  | none =>
    have hn0 : n = 0 := by
      obtain ⟨ao', cap, h1, h2, _, h4, _, h6⟩ := hv
      simp at h1
      have := h4 h1.1.symm
      omega
    subst hn0
    have hl : l = [] := by simpa using hlen
    subst hl
    have he := Lib.run_eql_slice_nil (P := Try.prog) w 64 2 none 0 c 0 0 Try.underlying64
    go_enter Try.func62, Try.ntmps62
    go_wp2_with fail
    go_ret
    exact ⟨_, rfl, World.ownsRow_nil _ _ _ _, Below.refl _ _⟩
  | some a =>
    have he := Lib.run_eql_slice_nil (P := Try.prog) w 64 2 (some a) n c 0 0 Try.underlying64
    have ho := own_build (e := 2) (size := 1) (n := 0) w [] (Nat.le_refl _) rfl (by decide)
    have hs2 := hv.alloc (Obj.cells ([] : List Value).toArray 2)
    clear hlen
    go_enter Try.func62, Try.ntmps62
    go_wp2_with (at_builtin; refine appendS elI64 rfl _ _ rfl ho ((Below.refl _ _).alloc (Nat.le_refl _) _) ?c1 rfl rfl hs2 (ints_one _) ?c2 ?c3 ?_)
    case c1 => simp
    case c2 => have := HN.out; omega
    case c3 => have := HN.out; omega
    intro v' w1 hown' hbel' _
    go_wp2
    go_ret
    exact ⟨v', rfl, by simpa using hown', hbel'⟩
set_option maxRecDepth 100000 in
theorem samenum_any (v u : Value) (n : Nat) (l : List Int) (w : World) (hs : Sl w 1 v n (l.map (Value.int .i64))) (ht : Sl w 1 u n (l.map (Value.int .i64))) :
    Calls Try.prog 78 #[v, u] w fun e w' => e = .returned (.bool true) ∧ Below w.heap.size w w' := by
  obtain ⟨ao, c, rfl, hnc, hc, _⟩ := hs.shape
  obtain ⟨bo, d, rfl, hod, hd, _⟩ := ht.shape
  go_enter Try.func78, Try.ntmps78
  go_wp2_with fail
  go_loopw [13] (fun i wr => ∃ k : Nat, k ≤ n ∧ i = .int .i64 k ∧ Below w.heap.size w wr) (fun i _ => n - (intOf i).toNat)
  case atStart => exact ⟨0, by omega, rfl, Below.refl _ _⟩
  case round =>
    obtain ⟨k, hk, rfl, hbr⟩ := hrel
    by_cases hlt : k < n
    · obtain ⟨b, off, rfl, hc1⟩ := (hs.below hbr).int (i := k) hlt
      obtain ⟨b', off', rfl, hc2⟩ := (ht.below hbr).int (i := k) hlt
      generalize l.getD k 0 = z at *
      have hz : (z != z) = false := by simp
      go_wp2_with fail
      go_quiet (fail)
      go_wp2
      go_roundw
      case rel => exact ⟨k + 1, by omega, by go_num, below_drewN hbr _⟩
      case measure => simp [intOf]; omega
    · obtain rfl : k = n := by omega
      go_wp2_with fail
      go_ret
      exact ⟨rfl, hbr⟩
set_option maxRecDepth 100000 in
theorem same_any (v v' : Value) (D W N : Int) (c : List Int) (w : World) (hv : SkV w v D W c N) (hv' : SkV w v' D W c N) :
    Calls Try.prog 47 #[v, v'] w fun e w' => e = .returned (.bool true) ∧ Below w.heap.size w w' := by
  obtain ⟨cv, n, rfl, hs, hl, -⟩ := hv
  obtain ⟨cu, m, rfl, ht, hm, -⟩ := hv'
  obtain rfl : m = n := by omega
  have hbA : Below w.heap.size w ((w.alloc (Obj.cells #[.int .i64 D, .int .i64 W, cv, .int .i64 N] 66)).alloc (Obj.cells #[.int .i64 D, .int .i64 W, cu, .int .i64 N] 66)) := ((Below.refl _ _).alloc (Nat.le_refl _) _).alloc (by simp) _
  have hs' := hs.below hbA
  have ht' := ht.below hbA
  obtain ⟨ao, ca, rfl, _⟩ := hs.shape
  obtain ⟨bo, cb, rfl, _⟩ := ht.shape
  have d1 : (D == D) = true := by simp
  have d2 : (W == W) = true := by simp
  have d3 : (N == N) = true := by simp
  clear hl hm
  go_enter Try.func47, Try.ntmps47
  go_wp2_with fail
  refine (samenum_any _ _ m c _ hs' ht').mono ?_
  rintro e w1 ⟨rfl, hb1⟩
  go_wp2_with fail
  go_ret
  exact ⟨rfl, hbA.trans (hb1.mono hbA.size)⟩
def IsSk (w : World) (v : Value) : Prop := ∃ D W c N, SkV w v D W c N
section
variable {H : Type} {enc : TypeId × Value → H} {W : World} {base b0 : Nat} {r : Reach} {spare : Nat → Bool} {held : Bool} {v : Value} {d : DataW H} {ps : List MemPlace}
set_option maxRecDepth 100000 in
theorem cellsSk : Try.prog.cellsOf 66 = 4 := by kernel_rfl
set_option maxRecDepth 100000 in
theorem isSk_of (hv : Value.okWide Try.prog W r b0 66 v) (hd : DataW.Trod enc Try.prog W base spare held 66 v d ps) (hs : ∀ n ∈ d.weights Try.prog 66, n ≤ reachBytes) : IsSk W v := by
  obtain ⟨v0, v1, v2, v3, y0, y1, y2, y3, n, rfl, rfl, rfl, h0, h1, h2, h3⟩ := open_agg4 Try.underlying66 (by kernel_rfl) cellsSk hv hd
  obtain ⟨D, hD, _, hDw⟩ := DataW.trod_int Try.underlying3 h0
  obtain ⟨Wd, hW, _, hWw⟩ := DataW.trod_int Try.underlying3 h1
  obtain ⟨N, hN, _, hNw⟩ := DataW.trod_int Try.underlying2 h3
  obtain rfl : v0 = .int .i64 D := by simpa using hD
  obtain rfl : v1 = .int .i64 Wd := by simpa using hW
  obtain rfl : v3 = .int .i64 N := by simpa using hN
  have hs2 : ∀ n ∈ y2.1.weights Try.prog 64, n ≤ reachBytes := by
    intro m hm
    refine hs m ?_
    unfold DataW.weights
    rw [Try.underlying66]
    exact DataW.weights_mem_each (j := 2) rfl rfl m hm
  obtain ⟨len, l, hsl, hwf, hlen⟩ := sl_ints Try.underlying64 Try.underlying2 (by kernel_rfl) h2 hs2
  obtain ⟨_, _, _, _, _, hll⟩ := hsl.shape
  exact ⟨D, Wd, l, N, v2, len, rfl, hsl, by simpa using hll, hwf, reach_le hlen (of_decide_eq_true (by kernel_rfl)), wf_i64 hDw, wf_i64 hWw, wf_i64 hNw⟩
end
end Go.Proofs.Ytmbmognhbljliaa.Sk
