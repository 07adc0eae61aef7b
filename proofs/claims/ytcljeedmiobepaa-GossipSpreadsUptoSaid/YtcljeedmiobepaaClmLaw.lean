/-
  Claims: one step of their check.
-/
import Derived.Test.YtcljeedmiobepaaNdLaw
import Derived.Test.YtcljeedmiobepaaGenLaw
namespace Go.Gh
set_option linter.unusedVariables false
def pkc (p : Option Cl) : Int := match p with | none => 0 | some q => keyS q.nm
section
variable {p : Option Cl} {x : Cl} {L : List Cl}
theorem node_key {nm : ByteArray} {tk : List Int} (h : nodeF nm tk = 0) : 0 < keyS nm ∧ nm.size ≤ 20 := by
  have := node_zero h
  exact ⟨key_one (by omega), this.2.1⟩
theorem goF_node (h : ¬ nodeF x.nm x.tk = 0) : goF p (x :: L) = nodeF x.nm x.tk := by rw [goF, if_pos h]
theorem goF_order (h : nodeF x.nm x.tk = 0) (h2 : keyS x.nm ≤ pkc p) : goF p (x :: L) = 5 := by
  have hk := node_key h
  rw [goF, if_neg (by omega), if_pos]
  match p, h2 with
  | none, h2 => unfold pkc at h2; simp only at h2; omega
  | some q, h2 => exact ⟨q, rfl, h2⟩
theorem goF_skip (h : nodeF x.nm x.tk = 0) (h2 : ¬ keyS x.nm ≤ pkc p) : goF p (x :: L) = if x.ver < 0 ∨ x.st < 1 ∨ 4 < x.st then 4 else goF (some x) L := by
  rw [goF, if_neg (by omega), if_neg]
  rintro ⟨q, rfl, h3⟩
  exact h2 h3
theorem goF_form (h : nodeF x.nm x.tk = 0) (h2 : ¬ keyS x.nm ≤ pkc p) (h3 : x.ver < 0 ∨ x.st < 1 ∨ 4 < x.st) : goF p (x :: L) = 4 := by rw [goF_skip h h2, if_pos h3]
theorem goF_on (h : nodeF x.nm x.tk = 0) (h2 : ¬ keyS x.nm ≤ pkc p) (h3 : ¬ (x.ver < 0 ∨ x.st < 1 ∨ 4 < x.st)) : goF p (x :: L) = goF (some x) L := by rw [goF_skip h h2, if_neg h3]
end
/-- The claims of both, of each name the newer one. -/
def kc (c : Cl) : Int := keyS c.nm
def newC (x y : Cl) : Cl := if newerC y x then y else x
def mrgC (a b : List Cl) : List Cl := mrgG kc newC a b
def besC (a b : List Cl) : List Cl := besG kc newC a b
theorem newC_key (x y : Cl) (h : kc x = kc y) : kc (newC x y) = kc x := by
  unfold newC
  split
  · exact h.symm
  · rfl
theorem bes_mrgC {a b : List Cl} (ha : claimsF a = 0) (hb : claimsF b = 0) : besC a b = mrgC a b :=
  bes_mrg newC_key (a.length + b.length) a b (Nat.le_refl _) (claims_zero ha).2.2 (claims_zero hb).2.2
end Go.Gh
