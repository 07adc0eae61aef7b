/-
  What the bound on the bulk of the arguments gives, and arguments opened under it.
-/
import Derived.Test.YtcljeedmiobepaaRows
import Derived.Test.YtcljeedmiobepaaLib
import Derived.JoinedCond
import Derived.Lib.SmallJoins
namespace Go.Gh
open Go.RowKit Go.ChangeShapes Go.WideShapes Go.ChangeAt Go.Joins Go.Proofs.Ytcljeedmiobepaa
set_option linter.unusedVariables false

theorem bulk_one {H : Type} (d : DataW H) : 1 ≤ Rows.uptoBulk d := by
  cases d with
  | lit l => cases l <;> simp [Rows.uptoBulk]
  | nil => simp [Rows.uptoBulk]
  | ptr d => simp [Rows.uptoBulk]
  | slice elems spare => simp [Rows.uptoBulk]
  | agg parts => simp [Rows.uptoBulk]
  | iface t d => simp [Rows.uptoBulk]
  | map entries => simp [Rows.uptoBulk]
  | held h => simp [Rows.uptoBulk]
theorem bulk_part {H : Type} {d : DataW H} {l : List (DataW H)} (h : d ∈ l) : Rows.uptoBulk d ≤ Rows.uptoBulkAll l := by
  induction l with
  | nil => cases h
  | cons x r ih =>
    simp only [Rows.uptoBulkAll]
    cases List.mem_cons.1 h with
    | inl e => subst e; omega
    | inr e => have := ih e; omega
theorem bulk_len {H : Type} (l : List (DataW H)) : l.length ≤ Rows.uptoBulkAll l := by
  induction l with
  | nil => simp [Rows.uptoBulkAll]
  | cons x r ih => have := bulk_one x; simp only [Rows.uptoBulkAll, List.length_cons]; omega
theorem bulk_at {H : Type} {l : List (DataW H)} (hk : Rows.uptoSmall H l = true) {d : DataW H} (h : d ∈ l) : Rows.uptoBulk d ≤ 1048576 := by
  have h1 : Rows.uptoBulkAll l ≤ 1048576 := of_decide_eq_true hk
  exact Nat.le_trans (bulk_part h) h1

section
variable {H : Type} {enc : TypeId × Value → H} {P : Program} {W : World} {base b0 : Nat} {r : Reach} {spare : Nat → Bool} {held : Bool} {t e : TypeId} {k : IntKind} {v : Value} {d : DataW H} {ps : List MemPlace}
/-- A slice of integers that came in, as 'Sl', and its reading. -/
theorem sl_ints_b {fuel : Nat} {x : DataW H × List MemPlace} (ht : P.underlying t = some (.slice e)) (he : P.underlying e = some (.int k)) (hc : P.cellsOf e = 1)
    (h : DataW.trod enc P W base spare held fuel t [v] = some x) (hb : Rows.uptoBulk x.1 ≤ 1048576) :
    ∃ (n : Nat) (zs : List Int), Sl W 1 v n (zs.map (Value.int k)) ∧ (∀ z ∈ zs, (Lit.int k z).wf = true) ∧ n ≤ 1048576 := by
  rcases open_ints ht he hc h with ⟨hcs, _⟩ | ⟨a, len, cap, zs, hcs, _, hl, hm, hz, hx, hcell, hwz⟩
  · obtain rfl : v = .slice none 0 0 := by simpa using hcs
    exact ⟨0, [], ⟨none, 0, rfl, Nat.le_refl _, Nat.zero_le _, fun _ => rfl, by simp, fun h => absurd h (Nat.lt_irrefl _)⟩, by simp, by simp⟩
  · obtain rfl : v = .slice (some a) len cap := by simpa using hcs
    have hlz : len ≤ zs.length := by rw [hz]; split <;> omega
    refine ⟨len, zs.take len, ⟨some a, cap, rfl, hl, hm, fun h => by simp at h, by simp; omega, fun hn => ?_⟩, fun z hz' => hwz z (List.mem_of_mem_take hz'), ?_⟩
    · have h0 := hcell 0 (by omega)
      obtain ⟨b, off, spot⟩ := a
      have hs := World.cell?_spot h0
      simp [Addr.add] at hs
      subst hs
      refine ⟨b, off, rfl, fun i u hu => ?_⟩
      have hi : i < len := by
        rcases Nat.lt_or_ge i len with h' | h'
        · exact h'
        · rw [List.getElem?_eq_none (by simp; omega)] at hu; simp at hu
      have := hcell i (by omega)
      rw [addr_add] at this
      rw [this]
      have hi' : i < zs.length := by omega
      simp [List.getElem?_map, hi, List.getElem?_eq_getElem hi'] at hu
      rw [← hu, List.getD_eq_getElem?_getD, List.getElem?_eq_getElem hi']
      rfl
    · rw [hx] at hb
      simp only [Rows.uptoBulk] at hb
      have h1 := bulk_len (lits (H := H) k (zs.take len))
      simp [lits] at h1 hb
      omega
theorem isIntB_of (ht : P.underlying t = some (.int k)) (hv : Value.okWide P W r b0 t v) (hd : DataW.Trod enc P W base spare held t v d ps) (hb : Rows.uptoBulk d ≤ 1048576) : IsInt k W v := by
  obtain ⟨n, h1, _, _, h2⟩ := open_int ht hv hd
  exact ⟨n, h1, h2⟩
end
end Go.Gh
