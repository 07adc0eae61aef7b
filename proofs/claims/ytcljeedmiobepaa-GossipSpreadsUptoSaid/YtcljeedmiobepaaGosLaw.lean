/-
  Gossip: as plain functions.
-/
import Derived.Test.YtcljeedmiobepaaClmLaw
import Derived.Test.YtcljeedmiobepaaClLaw3
import Derived.Maps.Views
namespace Go.Gh
open Go.WideShapes
set_option linter.unusedVariables false
structure Sn where
  nm : ByteArray
  ver : Int
instance : Inhabited Sn := ⟨⟨ByteArray.empty, 0⟩⟩
def leB (s t : ByteArray) : Bool := Op.bytesLess s.toList t.toList || s.toList == t.toList
def nmEq (s t : ByteArray) : Bool := s.toList == t.toList
/-- Is a list of what was seen out of order? -/
def seenGo : Option Sn → List Sn → Bool
  | _, [] => false
  | none, x :: L => seenGo (some x) L
  | some p, x :: L => leB x.nm p.nm || seenGo (some x) L
def seenF (d : List Sn) : Int := if 20 < d.length then 2 else if seenGo none d = true then 5 else 0
def digF (L : List Cl) : List Sn := L.map fun c => ⟨c.nm, c.ver⟩
def lacksF (d : List Sn) (c : Cl) : Bool := d.all fun z => !(nmEq z.nm c.nm && decide (c.ver < z.ver))
def deltaF (L : List Cl) (d : List Sn) : List Cl := L.filter (lacksF d)
theorem nmEq_iff {s t : ByteArray} : nmEq s t = true ↔ s.data.toList = t.data.toList := by
  unfold nmEq
  rw [ByteArray.toList_eq, ByteArray.toList_eq, beq_iff_eq]
theorem nm_ext {s t : ByteArray} (h : s.data.toList = t.data.toList) : s = t := by
  cases s with
  | mk a => cases t with
    | mk b =>
      have : a = b := Array.toList_inj.1 h
      rw [this]
theorem leB_key {f : Nat} {s t : ByteArray} (hs : s.size ≤ f) (ht : t.size ≤ f) : leB s t = decide (keyL f s.data.toList ≤ keyL f t.data.toList) := by
  unfold leB
  rw [ByteArray.toList_eq, ByteArray.toList_eq, key_less f _ _ (by simpa using hs) (by simpa using ht)]
  by_cases h : keyL f s.data.toList < keyL f t.data.toList
  · rw [decide_eq_true h, decide_eq_true (p := keyL f s.data.toList ≤ keyL f t.data.toList) (by omega)]; rfl
  · by_cases h2 : keyL f s.data.toList = keyL f t.data.toList
    · have := key_same f _ _ (by simpa using hs) (by simpa using ht) h2
      rw [this]
      simp
    · have h3 : s.data.toList ≠ t.data.toList := fun e => h2 (by rw [e])
      rw [decide_eq_false h, decide_eq_false (p := keyL f s.data.toList ≤ keyL f t.data.toList) (by omega)]
      simpa using h3
theorem seenGo_asc (f : Nat) : ∀ (L : List Sn) (p : Option Sn), (∀ x ∈ L, x.nm.size ≤ f) → (∀ q, p = some q → q.nm.size ≤ f) → seenGo p L = false → L.Pairwise (fun x y => keyL f x.nm.data.toList < keyL f y.nm.data.toList) ∧ ∀ q, p = some q → ∀ x ∈ L, keyL f q.nm.data.toList < keyL f x.nm.data.toList
  | [], p, _, _, _ => ⟨List.Pairwise.nil, fun q _ x hx => by simp at hx⟩
  | x :: L, p, hL, hp, h => by
    have hx := hL x (by simp)
    have hL' : ∀ y ∈ L, y.nm.size ≤ f := fun y hy => hL y (by simp [hy])
    have hrest : seenGo (some x) L = false ∧ ∀ q, p = some q → keyL f q.nm.data.toList < keyL f x.nm.data.toList := by
      cases p with
      | none =>
        rw [seenGo] at h
        exact ⟨h, fun q hq => by simp at hq⟩
      | some q =>
        rw [seenGo, leB_key hx (hp q rfl), Bool.or_eq_false_iff] at h
        refine ⟨h.2, fun q' hq => ?_⟩
        have hqq : q = q' := Option.some.inj hq
        subst hqq
        have := of_decide_eq_false h.1
        omega
    obtain ⟨h1, h2⟩ := seenGo_asc f L (some x) hL' (fun q hq => by rw [← Option.some.inj hq]; exact hx) hrest.1
    refine ⟨List.pairwise_cons.2 ⟨fun y hy => h2 x rfl y hy, h1⟩, fun q hq y hy => ?_⟩
    have hqx := hrest.2 q hq
    rcases List.mem_cons.1 hy with rfl | hy
    · exact hqx
    · have := h2 x rfl y hy
      omega
theorem exists_bound : ∀ (L : List Sn), ∃ f, ∀ x ∈ L, x.nm.size ≤ f
  | [] => ⟨0, fun x hx => by simp at hx⟩
  | x :: L => by
    obtain ⟨f, hf⟩ := exists_bound L
    refine ⟨max f x.nm.size, fun y hy => ?_⟩
    rcases List.mem_cons.1 hy with rfl | hy
    · exact Nat.le_max_right _ _
    · exact Nat.le_trans (hf y hy) (Nat.le_max_left _ _)
theorem seen_distinct {d : List Sn} (h : seenGo none d = false) : d.Pairwise fun x y => x.nm.data.toList ≠ y.nm.data.toList := by
  obtain ⟨f, hf⟩ := exists_bound d
  obtain ⟨h1, _⟩ := seenGo_asc f d none hf (fun q hq => by simp at hq) h
  exact h1.imp fun hlt he => by rw [he] at hlt; omega
/-! ### the map of what was seen -/
def kl (s : ByteArray) : Lit := .string s.data.toList
def sD (d : List Sn) : DataW Unit := d.foldl (fun D z => D.put (kl z.nm) (.lit (.int .i64 z.ver))) (.map [])
theorem sD_snoc (d : List Sn) (z : Sn) : sD (d ++ [z]) = (sD d).put (kl z.nm) (.lit (.int .i64 z.ver)) := by
  unfold sD
  rw [List.foldl_append]
  rfl
theorem kl_key (s : ByteArray) : WideAt.IsKeyLit (kl s) := trivial
theorem isMap_fold (d : List Sn) : ∀ D : DataW Unit, Maps.IsMap D → Maps.IsMap (d.foldl (fun D z => D.put (kl z.nm) (.lit (.int .i64 z.ver))) D) := by
  induction d with
  | nil => intro D h; exact h
  | cons z d ih => intro D h; exact ih _ (h.put _ _)
theorem sD_map (d : List Sn) : Maps.IsMap (sD d) := isMap_fold d _ Maps.isMap_empty
theorem kl_inj {s t : ByteArray} (h : kl s = kl t) : s.data.toList = t.data.toList := by
  unfold kl at h
  injection h
theorem sD_has : ∀ (d : List Sn) (s : ByteArray), Maps.has (sD d) (kl s) = d.any fun z => nmEq z.nm s := by
  intro d s
  suffices h : ∀ n, ∀ d : List Sn, d.length = n → Maps.has (sD d) (kl s) = d.any fun z => nmEq z.nm s from h d.length d rfl
  intro n
  induction n with
  | zero =>
    intro d hd
    have : d = [] := List.length_eq_zero_iff.1 hd
    subst this
    rfl
  | succ n ih =>
    intro d hd
    obtain ⟨e, z, rfl⟩ : ∃ e z, d = e ++ [z] := by
      rcases List.eq_nil_or_concat d with h | ⟨e, z, h⟩
      · rw [h] at hd; simp at hd
      · exact ⟨e, z, by simpa using h⟩
    rw [sD_snoc, List.any_append]
    by_cases hz : nmEq z.nm s = true
    · have he : kl z.nm = kl s := by unfold kl; rw [nmEq_iff.1 hz]
      rw [he, Maps.has_put_same (sD_map e) (kl_key s)]
      simp [hz]
    · have hne : kl s ≠ kl z.nm := fun h => hz (nmEq_iff.2 (kl_inj h).symm)
      have hz : nmEq z.nm s = false := by simpa using hz
      rw [Maps.has_put_other hne, ih e (by simpa using hd)]
      simp [hz]
theorem sD_at : ∀ (n : Nat) (d : List Sn), d.length = n → (d.Pairwise fun x y => x.nm.data.toList ≠ y.nm.data.toList) → ∀ z ∈ d, ∀ dflt, (sD d).atKey (kl z.nm) dflt = .lit (.int .i64 z.ver) := by
  intro n
  induction n with
  | zero =>
    intro d hd _ z hz
    have : d = [] := List.length_eq_zero_iff.1 hd
    subst this
    simp at hz
  | succ n ih =>
    intro d hd hp z hz dflt
    obtain ⟨e, y, rfl⟩ : ∃ e z, d = e ++ [z] := by
      rcases List.eq_nil_or_concat d with h | ⟨e, z, h⟩
      · rw [h] at hd; simp at hd
      · exact ⟨e, z, by simpa using h⟩
    rw [sD_snoc]
    have hp' := List.pairwise_append.1 hp
    rcases List.mem_append.1 hz with hz | hz
    · have hne : kl z.nm ≠ kl y.nm := fun h => hp'.2.2 z hz y (by simp) (kl_inj h)
      rw [Maps.atKey_put_other hne]
      exact ih e (by simpa using hd) hp'.1 z hz dflt
    · have : z = y := by simpa using hz
      subst this
      exact Maps.atKey_put_same (sD_map e) (kl_key _) _ _
/-- What a look-up tells. -/
theorem lacks_look {d : List Sn} (h : seenGo none d = false) (c : Cl) (v : Int) (hv : (sD d).atKey (kl c.nm) (.lit (.int .i64 0)) = .lit (.int .i64 v)) : (!Maps.has (sD d) (kl c.nm) || decide (v ≤ c.ver)) = lacksF d c := by
  have hd := seen_distinct h
  rw [sD_has]
  unfold lacksF
  cases hany : d.any fun z => nmEq z.nm c.nm with
  | false =>
    have : (d.all fun z => !(nmEq z.nm c.nm && decide (c.ver < z.ver))) = true := by
      rw [List.all_eq_true]
      intro z hz
      have := List.any_eq_false.1 hany z hz
      simp [this]
    rw [this]; rfl
  | true =>
    obtain ⟨z, hz, he⟩ := List.any_eq_true.1 hany
    have he' := nmEq_iff.1 he
    have hk : kl c.nm = kl z.nm := by unfold kl; rw [he']
    rw [hk, sD_at d.length d rfl hd z hz] at hv
    have hvz : z.ver = v := by injection hv with hv; injection hv
    subst hvz
    have : (d.all fun z => !(nmEq z.nm c.nm && decide (c.ver < z.ver))) = decide (z.ver ≤ c.ver) := by
      by_cases hle : z.ver ≤ c.ver
      · rw [decide_eq_true hle, List.all_eq_true]
        intro y hy
        by_cases hyn : nmEq y.nm c.nm = true
        · have hyz : y = z := by
            rcases List.getElem_of_mem hy with ⟨i, hi, rfl⟩
            rcases List.getElem_of_mem hz with ⟨j, hj, rfl⟩
            have hnames : d[i].nm.data.toList = d[j].nm.data.toList := (nmEq_iff.1 hyn).trans he'.symm
            rcases Nat.lt_trichotomy i j with h1 | h1 | h1
            · exact absurd hnames (List.pairwise_iff_getElem.1 hd i j hi hj h1)
            · subst h1; rfl
            · exact absurd hnames.symm (List.pairwise_iff_getElem.1 hd j i hj hi h1)
          subst hyz
          simp [show ¬ c.ver < y.ver by omega]
        · simp [hyn]
      · rw [decide_eq_false hle, List.all_eq_false]
        exact ⟨z, hz, by simp [he, show c.ver < z.ver by omega]⟩
    rw [this]; rfl
end Go.Gh
