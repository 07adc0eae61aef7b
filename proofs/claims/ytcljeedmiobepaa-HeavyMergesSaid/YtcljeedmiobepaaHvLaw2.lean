/-
  Tallies: where a key stands, and what counting it does.
-/
import Derived.Test.YtcljeedmiobepaaHvLaw
namespace Go.Gh
set_option linter.unusedVariables false
/-- The place of a key among keys that rise. -/
def AtH (l : List Ct) (key : ByteArray) (i : Nat) : Prop := i ≤ l.length ∧ (∀ (j : Nat) (x : Ct), j < i → l[j]? = some x → kH x.ky < kH key) ∧ (∀ (j : Nat) (x : Ct), i ≤ j → l[j]? = some x → kH key ≤ kH x.ky)
def hitB (l : List Ct) (key : ByteArray) (i : Nat) : Bool := match l[i]? with
  | none => false
  | some x => decide (kH x.ky = kH key)
theorem hitB_some {l : List Ct} {key : ByteArray} {i : Nat} {x : Ct} (h : l[i]? = some x) : hitB l key i = decide (kH x.ky = kH key) := by
  unfold hitB
  simp only [h]
theorem hitB_none {l : List Ct} {key : ByteArray} {i : Nat} (h : l.length ≤ i) : hitB l key i = false := by
  unfold hitB
  simp only [List.getElem?_eq_none h]
theorem AtH.uniq {l : List Ct} {key : ByteArray} {i j : Nat} (h1 : AtH l key i) (h2 : AtH l key j) : i = j := by
  rcases Nat.lt_trichotomy i j with h | h | h
  · exfalso
    obtain ⟨x, hx⟩ : ∃ x, l[i]? = some x := ⟨_, List.getElem?_eq_getElem (by have := h2.1; omega)⟩
    have := h2.2.1 i x h hx
    have := h1.2.2 i x (Nat.le_refl _) hx
    omega
  · exact h
  · exfalso
    obtain ⟨x, hx⟩ : ∃ x, l[j]? = some x := ⟨_, List.getElem?_eq_getElem (by have := h1.1; omega)⟩
    have := h1.2.1 j x h hx
    have := h2.2.2 j x (Nat.le_refl _) hx
    omega
theorem ris_lt {l : List Ct} (h : Ris l) {i j : Nat} {x y : Ct} (hij : i < j) (hx : l[i]? = some x) (hy : l[j]? = some y) : kH x.ky < kH y.ky := by
  obtain ⟨h1, h2⟩ := List.getElem?_eq_some_iff.1 hx
  obtain ⟨h3, h4⟩ := List.getElem?_eq_some_iff.1 hy
  have := List.pairwise_iff_getElem.1 h.2 i j h1 h3 hij
  rw [h2, h4] at this
  exact this
/-- What the reference's counting leaves of the rest. -/
def cnted (key : ByteArray) (n : Int) : List Ct → Bool → List Ct
  | [], put => if put = true then [] else [⟨key, n⟩]
  | c :: r, put => if kH c.ky = kH key then ⟨c.ky, c.n + n⟩ :: cnted key n r true
      else if put = false ∧ kH key < kH c.ky then ⟨key, n⟩ :: c :: cnted key n r true
      else c :: cnted key n r put
section
variable {key : ByteArray} {n : Int} {c : Ct} {r : List Ct} {put : Bool}
theorem cnted_hit (h : kH c.ky = kH key) : cnted key n (c :: r) put = ⟨c.ky, c.n + n⟩ :: cnted key n r true := by rw [cnted, if_pos h]
theorem cnted_new (h1 : kH key < kH c.ky) : cnted key n (c :: r) false = ⟨key, n⟩ :: c :: cnted key n r true := by rw [cnted, if_neg (by omega), if_pos ⟨rfl, h1⟩]
theorem cnted_on (h : ¬ kH c.ky = kH key) (h1 : ¬ (put = false ∧ kH key < kH c.ky)) : cnted key n (c :: r) put = c :: cnted key n r put := by rw [cnted, if_neg h, if_neg h1]
theorem cnted_rest : ∀ {r : List Ct}, (∀ x ∈ r, ¬ kH x.ky = kH key) → cnted key n r true = r
  | [], _ => by rw [cnted, if_pos rfl]
  | x :: r, h => by rw [cnted_on (h x (by simp)) (by simp), cnted_rest (fun y hy => h y (by simp [hy]))]
theorem cnted_app : ∀ {a b : List Ct}, (∀ x ∈ a, kH x.ky < kH key) → cnted key n (a ++ b) false = a ++ cnted key n b false
  | [], b, _ => rfl
  | x :: a, b, h => by
    have := h x (by simp)
    rw [List.cons_append, cnted_on (by omega) (by omega), cnted_app (fun y hy => h y (by simp [hy])), List.cons_append]
end
theorem take_lt {l : List Ct} {key : ByteArray} {i : Nat} (h : AtH l key i) : ∀ x ∈ l.take i, kH x.ky < kH key := by
  intro x hx
  obtain ⟨j, hj⟩ := List.mem_iff_getElem?.1 hx
  rw [List.getElem?_take] at hj
  split at hj
  · rename_i hlt; exact h.2.1 j x hlt hj
  · simp at hj
theorem cnted_at {l : List Ct} {key : ByteArray} {n : Int} {i : Nat} {x : Ct} (hr : Ris l) (h : AtH l key i) (hx : l[i]? = some x) (he : kH x.ky = kH key) : cnted key n l false = l.set i ⟨x.ky, x.n + n⟩ := by
  obtain ⟨h1, h2⟩ := List.getElem?_eq_some_iff.1 hx
  conv => lhs; rw [← List.take_append_drop i l, cnted_app (take_lt h), List.drop_eq_getElem_cons h1, h2, cnted_hit he]
  rw [cnted_rest, List.set_eq_take_append_cons_drop, if_pos h1]
  intro y hy
  obtain ⟨j, hj⟩ := List.mem_iff_getElem?.1 hy
  rw [List.getElem?_drop] at hj
  have := ris_lt hr (show i < i + 1 + j by omega) hx hj
  omega
theorem cnted_ins {l : List Ct} {key : ByteArray} {n : Int} {i : Nat} (hr : Ris l) (h : AtH l key i) (hh : hitB l key i = false) : cnted key n l false = l.take i ++ ⟨key, n⟩ :: l.drop i := by
  conv => lhs; rw [← List.take_append_drop i l, cnted_app (take_lt h)]
  congr 1
  rcases Nat.lt_or_ge i l.length with hlt | hge
  · have hx : l[i]? = some l[i] := List.getElem?_eq_getElem hlt
    rw [hitB_some hx] at hh
    have hne : ¬ kH l[i].ky = kH key := of_decide_eq_false hh
    have hle := h.2.2 i _ (Nat.le_refl _) hx
    rw [List.drop_eq_getElem_cons hlt, cnted_new (by omega), cnted_rest]
    intro y hy
    obtain ⟨j, hj⟩ := List.mem_iff_getElem?.1 hy
    rw [List.getElem?_drop] at hj
    have := ris_lt hr (show i < i + 1 + j by omega) hx hj
    omega
  · rw [List.drop_of_length_le hge, cnted, if_neg (by simp)]
/-- How often a key is counted. -/
def cntIn (key : ByteArray) : List Ct → Int
  | [] => 0
  | c :: r => if kH c.ky = kH key then c.n else cntIn key r
theorem cntIn_hit {key : ByteArray} {c : Ct} {r : List Ct} (h : kH c.ky = kH key) : cntIn key (c :: r) = c.n := by rw [cntIn, if_pos h]
theorem cntIn_on {key : ByteArray} {c : Ct} {r : List Ct} (h : ¬ kH c.ky = kH key) : cntIn key (c :: r) = cntIn key r := by rw [cntIn, if_neg h]
theorem cntIn_app {key : ByteArray} : ∀ {a b : List Ct}, (∀ x ∈ a, ¬ kH x.ky = kH key) → cntIn key (a ++ b) = cntIn key b
  | [], b, _ => rfl
  | x :: a, b, h => by rw [List.cons_append, cntIn_on (h x (by simp)), cntIn_app (fun y hy => h y (by simp [hy]))]
theorem cntIn_at {l : List Ct} {key : ByteArray} {i : Nat} {x : Ct} (h : AtH l key i) (hx : l[i]? = some x) (he : kH x.ky = kH key) : cntIn key l = x.n := by
  obtain ⟨h1, h2⟩ := List.getElem?_eq_some_iff.1 hx
  rw [← List.take_append_drop i l, cntIn_app (fun y hy => by have := take_lt h y hy; omega), List.drop_eq_getElem_cons h1, h2, cntIn_hit he]
theorem cntIn_none {l : List Ct} {key : ByteArray} {i : Nat} (hr : Ris l) (h : AtH l key i) (hh : hitB l key i = false) : cntIn key l = 0 := by
  have : ∀ x ∈ l, ¬ kH x.ky = kH key := by
    intro x hx
    obtain ⟨j, hj⟩ := List.mem_iff_getElem?.1 hx
    rcases Nat.lt_trichotomy j i with h1 | h1 | h1
    · have := h.2.1 j x h1 hj
      omega
    · subst h1
      rw [hitB_some hj] at hh
      exact of_decide_eq_false hh
    · obtain ⟨y, hy⟩ : ∃ y, l[i]? = some y := ⟨_, List.getElem?_eq_getElem (by have := (List.getElem?_eq_some_iff.1 hj).1; omega)⟩
      have h2 := ris_lt hr h1 hy hj
      have h3 := h.2.2 i y (Nat.le_refl _) hy
      omega
  have h2 := cntIn_app (key := key) (a := l) (b := []) this
  rw [List.append_nil] at h2
  rw [h2]
  rfl
/-- Each so much less. -/
def lessF (n : Int) : List Ct → List Ct
  | [] => []
  | c :: r => if n < c.n then ⟨c.ky, c.n - n⟩ :: lessF n r else lessF n r
theorem lessF_app (n : Int) : ∀ (a b : List Ct), lessF n (a ++ b) = lessF n a ++ lessF n b
  | [], b => rfl
  | x :: a, b => by
    rw [List.cons_append, lessF, lessF, lessF_app n a b]
    split
    · rw [List.cons_append]
    · rfl
theorem lessF_take {n : Int} {l : List Ct} {k : Nat} {x : Ct} (h : l[k]? = some x) : lessF n (l.take (k + 1)) = lessF n (l.take k) ++ if n < x.n then [⟨x.ky, x.n - n⟩] else [] := by
  obtain ⟨h1, h2⟩ := List.getElem?_eq_some_iff.1 h
  rw [List.take_succ_eq_append_getElem h1, h2, lessF_app]
  congr 1
theorem lessF_len (n : Int) : ∀ (l : List Ct), (lessF n l).length ≤ l.length
  | [] => Nat.le_refl _
  | c :: r => by
    have := lessF_len n r
    rw [lessF]
    split <;> simp only [List.length_cons] <;> omega
/-- A key more. -/
def tallyF (s : Hv) (key : ByteArray) : Hv := if 0 < cntIn key s.l ∨ (s.l.length : Int) < s.k then ⟨s.k, cnted key 1 s.l false, s.n + 1, s.off⟩ else ⟨s.k, lessF 1 s.l, s.n + 1, s.off + 1⟩
end Go.Gh
