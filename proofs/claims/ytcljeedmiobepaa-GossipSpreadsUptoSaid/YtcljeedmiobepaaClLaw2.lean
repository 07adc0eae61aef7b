/-
  Claims that are merged: as plain functions.
-/
import Derived.Test.YtcljeedmiobepaaClLaw
namespace Go.Gh
open Go.RowKit
set_option linter.unusedVariables false
theorem cmpT_self : ∀ l : List Int, cmpT l l = 0
  | [] => rfl
  | a :: l => by rw [cmpT, if_neg (by omega), if_neg (by omega)]; exact cmpT_self l
/-- A row of two numbers for each claim: its name's key, its place. -/
def keyRow (E : Nat → Cl) (i : Nat) : List Int := [keyS (E i).nm, (i : Int)]
def bothC (E : Nat → Cl) (x y : List Int) : List Int := [rg x 0, if newerC (E (rg y 1).toNat) (E (rg x 1).toNat) then rg y 1 else rg x 1]
def bigC (_ : List Int) : Bool := false
theorem bothC_key (E : Nat → Cl) (x y : List Int) : rg (bothC E x y) 0 = rg x 0 := rfl
/-- The claims that rows stand for. -/
def clsOf (E : Nat → Cl) (R : List (List Int)) : List Cl := R.map fun r => E (rg r 1).toNat
/-- Right claims are in the order of their names' keys. -/
theorem go_zero : ∀ (L : List Cl) (p : Option Cl), goF p L = 0 → (∀ c ∈ L, nodeF c.nm c.tk = 0 ∧ 0 ≤ c.ver ∧ 1 ≤ c.st ∧ c.st ≤ 4) ∧ (L.Pairwise fun c d => keyS c.nm < keyS d.nm) ∧ ∀ q, p = some q → ∀ c ∈ L, keyS q.nm < keyS c.nm
  | [], p, _ => ⟨fun c hc => by simp at hc, List.Pairwise.nil, fun q _ c hc => by simp at hc⟩
  | c :: L, p, h => by
    rw [goF] at h
    split at h
    · rename_i hn
      exact absurd h hn
    · rename_i hn
      have hn : nodeF c.nm c.tk = 0 := Classical.not_not.1 hn
      split at h
      · exact absurd h (by decide)
      · rename_i hk
        split at h
        · exact absurd h (by decide)
        · rename_i hv
          have hv1 := not_or.1 hv
          have hv2 := not_or.1 hv1.2
          obtain ⟨h1, h2, h3⟩ := go_zero L (some c) h
          refine ⟨?_, List.Pairwise.cons (fun d hd => h3 c rfl d hd) h2, ?_⟩
          · intro d hd
            rcases List.mem_cons.1 hd with rfl | hd
            · exact ⟨hn, by omega, by omega, by omega⟩
            · exact h1 d hd
          · intro q hq d hd
            have hqc : keyS q.nm < keyS c.nm := by
              rcases Int.lt_or_le (keyS q.nm) (keyS c.nm) with h' | h'
              · exact h'
              · exact absurd ⟨q, hq, h'⟩ hk
            rcases List.mem_cons.1 hd with rfl | hd
            · exact hqc
            · have := h3 c rfl d hd
              omega
theorem claims_zero {L : List Cl} (h : claimsF L = 0) : L.length ≤ 20 ∧ (∀ c ∈ L, nodeF c.nm c.tk = 0 ∧ 0 ≤ c.ver ∧ 1 ≤ c.st ∧ c.st ≤ 4) ∧ L.Pairwise fun c d => keyS c.nm < keyS d.nm := by
  unfold claimsF at h
  split at h
  · exact absurd h (by decide)
  · rename_i hl
    obtain ⟨h1, h2, _⟩ := go_zero L none h
    exact ⟨by omega, h1, h2⟩
theorem node_zero {nm : ByteArray} {tk : List Int} (h : nodeF nm tk = 0) : 1 ≤ nm.size ∧ nm.size ≤ 20 ∧ tk.length ≤ 20 ∧ AscT tk := by
  unfold nodeF at h
  split at h
  · exact absurd h (by decide)
  · rename_i h1
    have h1 := not_or.1 h1
    split at h
    · exact absurd h (by decide)
    · split at h
      · rename_i h2
        exact ⟨by omega, by omega, by omega, h2⟩
      · exact absurd h (by decide)
end Go.Gh
