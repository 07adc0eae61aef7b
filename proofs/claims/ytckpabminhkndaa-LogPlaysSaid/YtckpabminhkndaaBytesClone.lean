/-
  The walk of slices.Clone at []byte.
-/
import Derived.Test.YtckpabminhkndaaBits2
import Derived.Lib.SliceRun
namespace Go.Proofs.Ytckpabminhkndaa.Bits
open Go.RowKit Go.Gh Go.WideShapes
set_option linter.unusedVariables false
theorem clone_any (v : Value) (n : Nat) (l : List Int) (w : World) (hv : Sl w 1 v n (l.map (Value.int .u8))) (hn : n ≤ 140737488355328) :
    Calls Try.prog 39 #[v] w fun e w' => ∃ v', e = .returned v' ∧ w'.ownsRow w.heap.size 5 1 v' n (l.map (Value.int .u8)) ∧ Below w.heap.size w w' := by
  obtain ⟨ao, c, rfl, hnc, hc, hlen⟩ := hv.shape
  have HN := Lib.hid hn
  clear hn
  cases ao with
  | none =>
    have hn0 : n = 0 := by
      obtain ⟨ao', cap, h1, h2, _, h4, _, h6⟩ := hv
      simp at h1
      have := h4 h1.1.symm
      omega
    subst hn0
    have hl : l = [] := by simpa using hlen
    subst hl
    have he := Lib.run_eql_slice_nil (P := Try.prog) w 23 5 none 0 c 0 0 Try.underlying23
    go_enter Try.func39, Try.ntmps39
    go_wp2_with fail
    go_ret
    exact ⟨_, rfl, World.ownsRow_nil _ _ _ _, Below.refl _ _⟩
  | some a =>
    have he := Lib.run_eql_slice_nil (P := Try.prog) w 23 5 (some a) n c 0 0 Try.underlying23
    have ho := own_build (e := 5) (size := 1) (n := 0) w [] (Nat.le_refl _) rfl (by decide)
    have hs2 := hv.alloc (Obj.cells ([] : List Value).toArray 5)
    clear hlen
    go_enter Try.func39, Try.ntmps39
    go_wp2_with (at_builtin; refine appendS elU8 rfl _ _ rfl ho ((Below.refl _ _).alloc (Nat.le_refl _) _) ?c1 rfl rfl hs2 (ints_one _ _) ?c2 ?c3 ?_)
    case c1 => simp
    case c2 => have := HN.out; omega
    case c3 => have := HN.out; omega
    intro v' w1 hown' hbel' _
    go_wp2
    go_ret
    exact ⟨v', rfl, hown', hbel'⟩
end Go.Proofs.Ytckpabminhkndaa.Bits
