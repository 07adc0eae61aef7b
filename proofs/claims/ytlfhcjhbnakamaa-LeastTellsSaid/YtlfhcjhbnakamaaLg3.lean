/-
  choosePivot (PRINTED by mkqs3.py).
-/
import Derived.Test.YtlfhcjhbnakamaaLg1
import Derived.Test.YtlfhcjhbnakamaaLg2
import Derived.IntWalk
namespace Go.Proofs.Ytlfhcjhbnakamaa.Qs
open Go.RowKit Go.Gh
set_option linter.unusedVariables false
set_option linter.unusedSimpArgs false
set_option maxHeartbeats 8000000 in
set_option maxRecDepth 100000 in
theorem choose_any (g cap a b : Nat) (D : List Int) (rest : List Value) (w : World) (hR : RowAt g D rest w) (hl : a + 12 < b) (hb : b ≤ D.length) (hn : D.length ≤ 1000000) (hcap : D.length ≤ cap) (hc : cap ≤ 9223372036854775807) :
    Calls Try.prog 122 #[.slice (some ⟨g, 0, none⟩) D.length cap, .int .i64 a, .int .i64 b] w (CpP a b w) := by
  obtain ⟨l, hl1⟩ : ∃ l, b - a = l := ⟨_, rfl⟩
  obtain ⟨Q, hQ⟩ : ∃ Q, l / 4 = Q := ⟨_, rfl⟩
  obtain ⟨I, hI⟩ : ∃ I, a + Q = I := ⟨_, rfl⟩
  obtain ⟨J, hJ⟩ : ∃ I, a + Q * 2 = I := ⟨_, rfl⟩
  obtain ⟨K, hK⟩ : ∃ I, a + Q * 3 = I := ⟨_, rfl⟩
  have e1 : (b : Int) - (a : Int) = (l : Int) := by omega
  have e2 : (l : Int) / 4 = (Q : Int) := by omega
  have e3 : (a : Int) + (Q : Int) = (I : Int) := by omega
  have e4 : (a : Int) + (Q : Int) * 2 = (J : Int) := by omega
  have e5 : (a : Int) + (Q : Int) * 3 = (K : Int) := by omega
  have hq9 : Q ≤ 250000 := by omega
  have hl9 : l ≤ 1000000 := by omega
  have hl12 : 12 < l := by omega
  obtain ⟨wA, hwA⟩ : ∃ wA, wA = w.alloc (Obj.cells #[.int .i64 0] 3) := ⟨_, rfl⟩
  have hbA : Below w.heap.size w wA := by rw [hwA]; exact (Below.refl _ _).alloc (Nat.le_refl _) _
  have hsw : SwB w.heap.size 0 wA := by rw [hwA]; exact heap_alloc_new w _
  have hne : g ≠ w.heap.size := by have := hR.lt; omega
  have HBA := Lib.hid hbA
  have HWA := Lib.hid hwA
  have HRA := Lib.hid (hR.below hbA)
  have HMA := Lib.hid (fun (i : Nat) (s : Int) (W : World) (hR : RowAt g D rest W) (hs : SwB w.heap.size s W) (h0 : 0 ≤ s) (h1 : s ≤ 900) (hi : 1 ≤ i) (hi2 : i + 1 < D.length) => medianadj_any g cap i w.heap.size D rest s W hR hs hne h0 h1 hi hi2 hn hcap hc)
  have HMD := Lib.hid (fun (i j k : Nat) (s : Int) (W : World) (hR : RowAt g D rest W) (hs : SwB w.heap.size s W) (h0 : 0 ≤ s) (h1 : s ≤ 900) (hi : i < D.length) (hj : j < D.length) (hk : k < D.length) => median_any g cap i j k w.heap.size D rest s W hR hs hne h0 h1 hi hj hk hn hcap hc)
  have HNE := Lib.hid (some_ne hne)
  have HSW := Lib.hid hsw
  obtain ⟨n, hN⟩ : ∃ n, D.length = n := ⟨_, rfl⟩
  have HBn : Hid (b ≤ n) := Lib.hid (by omega)
  rw [hN] at HMA HMD ⊢
  have HA := Lib.hid (And.intro hl1 (And.intro hQ (And.intro hI (And.intro hJ hK))))
  have hI2 : a < I ∧ I + 1 < J ∧ J + 1 < K ∧ K < b := by omega
  have HI2 := Lib.hid hI2
  have hIJK : I ≤ 1000000 ∧ J ≤ 1000000 ∧ K ≤ 1000000 := by omega
  obtain ⟨i9, j9, k9⟩ := hIJK
  clear hR hN hn hcap hc hne hwA hbA hsw hl hb hl1 hQ hI hJ hK hI2
  obtain ⟨sb, hsb⟩ : ∃ sb, w.heap.size = sb := ⟨_, rfl⟩
  rw [hsb] at HMA HMD HNE HSW
  have HSB := Lib.hid hsb
  clear hsb
  go_enter Try.func122, Try.ntmps122
  go_upto_region 3 with (fail)
  rw [HSB.out, ← HWA.out]
  by_cases h50 : 50 ≤ l
  · have HI3 : Hid (a + 1 < I ∧ I + 2 < J ∧ J + 2 < K ∧ K + 1 < b) := Lib.hid (by
      have h1 := HA.out.1
      have h2 := HA.out.2.1
      have h3 := HA.out.2.2.1
      have h4 := HA.out.2.2.2.1
      have h5 := HA.out.2.2.2.2
      have h6 := HI2.out
      omega)
    have H1 := Lib.hid (HMA.out I 0 wA HRA.out HSW.out (by decide) (by decide) (by have := HI3.out; omega) (by have := HI3.out; have := HBn.out; omega))
    go_wp2_with fail
    refine H1.out.mono ?_
    rintro e w1 ⟨x1, s1, rfl, hx1, hs1, hb1, hg1⟩
    have HX1 := Lib.hid hx1
    have HS1 := Lib.hid hs1
    have HR1 := Lib.hid (HRA.out.grown hg1 HNE.out)
    have HG1 := Lib.hid hg1
    have H2 := Lib.hid (HMA.out J s1 w1 HR1.out hb1 (by omega) (by omega) (by have := HI3.out; omega) (by have := HI3.out; have := HBn.out; omega))
    clear hx1 hs1 hb1 hg1
    go_wp2_with fail
    refine H2.out.mono ?_
    rintro e w2 ⟨x2, s2, rfl, hx2, hs2, hb2, hg2⟩
    have HX2 := Lib.hid hx2
    have HS2 := Lib.hid hs2
    have HR2 := Lib.hid (HR1.out.grown hg2 HNE.out)
    have HG2 := Lib.hid (grown_trans HG1.out hg2)
    have H3 := Lib.hid (HMA.out K s2 w2 HR2.out hb2 (by have := HS1.out; omega) (by have := HS1.out; omega) (by have := HI3.out; omega) (by have := HI3.out; have := HBn.out; omega))
    clear hx2 hs2 hb2 hg2
    go_wp2_with fail
    refine H3.out.mono ?_
    rintro e w3 ⟨x3, s3, rfl, hx3, hs3, hb3, hg3⟩
    have HX3 := Lib.hid hx3
    have HS3 := Lib.hid hs3
    have HR3 := Lib.hid (HR2.out.grown hg3 HNE.out)
    have HG3 := Lib.hid (grown_trans HG2.out hg3)
    have HXX : Hid ((a ≤ x1 ∧ x1 < b) ∧ (a ≤ x2 ∧ x2 < b) ∧ (a ≤ x3 ∧ x3 < b)) := Lib.hid (by
      have h1 := HX1.out
      have h2 := HX2.out
      have h3 := HX3.out
      have h6 := HI3.out
      omega)
    have HSS : Hid (0 ≤ s3 ∧ s3 ≤ 9) := Lib.hid (by
      have h1 := HS1.out
      have h2 := HS2.out
      have h3 := HS3.out
      omega)
    have H4 := Lib.hid (HMD.out x1 x2 x3 s3 w3 HR3.out hb3 (by have := HSS.out; omega) (by have := HSS.out; omega) (by have := HXX.out; have := HBn.out; omega) (by have := HXX.out; have := HBn.out; omega) (by have := HXX.out; have := HBn.out; omega))
    clear hb3 hx3 hs3 hg3
    go_wp2_with fail
    refine H4.out.mono ?_
    rintro e w4 ⟨x4, s4, rfl, hx4, hs4, hb4, hg4⟩
    have HX4 : Hid (a ≤ x4 ∧ x4 < b) := Lib.hid (by have := HXX.out; omega)
    have HB4 : Hid (Below w.heap.size w w4) := Lib.hid (HBA.out.trans (below_of_grown (grown_trans HG3.out hg4) HBA.out.size (fun k e => by have := HSB.out; have := Option.some.inj e; omega)))
    obtain ⟨c0, -⟩ := hb4.get
    clear hx4 hs4 hb4 hg4
    by_cases g0 : s4 = 0
    · subst g0
      go_wp2_with fail
      go_ret2
      exact ⟨x4, 1, rfl, HX4.out.1, HX4.out.2, Or.inr (Or.inl rfl), HB4.out⟩
    have t0 : (s4 == 0) = false := by simp; exact g0
    clear g0
    by_cases g1 : s4 = 12
    · subst g1
      clear t0
      go_wp2_with fail
      go_ret2
      exact ⟨x4, 2, rfl, HX4.out.1, HX4.out.2, Or.inr (Or.inr rfl), HB4.out⟩
    have t1 : (s4 == 12) = false := by simp; exact g1
    clear g1
    go_wp2_with fail
    go_ret2
    exact ⟨x4, 0, rfl, HX4.out.1, HX4.out.2, Or.inl rfl, HB4.out⟩
  · have HR3 := HRA
    obtain ⟨w3, rfl⟩ : ∃ x, x = wA := ⟨_, rfl⟩
    obtain ⟨s3, hs3⟩ : ∃ s : Int, s = 0 := ⟨_, rfl⟩
    have hb3 : SwB sb s3 w3 := by rw [hs3]; exact HSW.out
    have HG3 : Hid (w3.grownBy w3 (some sb)) := Lib.hid (grown_below (Below.refl _ _))
    have HXX : Hid ((a ≤ I ∧ I < b) ∧ (a ≤ J ∧ J < b) ∧ (a ≤ K ∧ K < b)) := Lib.hid (by have h6 := HI2.out; omega)
    have HSS : Hid (0 ≤ s3 ∧ s3 ≤ 9) := Lib.hid (by omega)
    clear hs3
    have H4 := Lib.hid (HMD.out I J K s3 w3 HR3.out hb3 (by have := HSS.out; omega) (by have := HSS.out; omega) (by have := HXX.out; have := HBn.out; omega) (by have := HXX.out; have := HBn.out; omega) (by have := HXX.out; have := HBn.out; omega))
    clear hb3
    go_wp2_with fail
    refine H4.out.mono ?_
    rintro e w4 ⟨x4, s4, rfl, hx4, hs4, hb4, hg4⟩
    have HX4 : Hid (a ≤ x4 ∧ x4 < b) := Lib.hid (by have := HXX.out; omega)
    have HB4 : Hid (Below w.heap.size w w4) := Lib.hid (HBA.out.trans (below_of_grown (grown_trans HG3.out hg4) HBA.out.size (fun k e => by have := HSB.out; have := Option.some.inj e; omega)))
    obtain ⟨c0, -⟩ := hb4.get
    clear hx4 hs4 hb4 hg4
    by_cases g0 : s4 = 0
    · subst g0
      go_wp2_with fail
      go_ret2
      exact ⟨x4, 1, rfl, HX4.out.1, HX4.out.2, Or.inr (Or.inl rfl), HB4.out⟩
    have t0 : (s4 == 0) = false := by simp; exact g0
    clear g0
    by_cases g1 : s4 = 12
    · subst g1
      clear t0
      go_wp2_with fail
      go_ret2
      exact ⟨x4, 2, rfl, HX4.out.1, HX4.out.2, Or.inr (Or.inr rfl), HB4.out⟩
    have t1 : (s4 == 12) = false := by simp; exact g1
    clear g1
    go_wp2_with fail
    go_ret2
    exact ⟨x4, 0, rfl, HX4.out.1, HX4.out.2, Or.inl rfl, HB4.out⟩
end Go.Proofs.Ytlfhcjhbnakamaa.Qs
/-
  Insertion, and partitions, by swaps: as plain lists.
-/
namespace Go.Gh
set_option linter.unusedVariables false
set_option linter.unusedSimpArgs false
/-- One is being inserted, at j; all else is in order up to i. -/
def Ins (a i j : Nat) (D : List Int) : Prop := ∀ p q, a ≤ p → p < q → q ≤ i → q ≠ j → el D p ≤ el D q
theorem ins_start {a i : Nat} {D : List Int} (h : Rs a i D) : Ins a i i D := fun p q h1 h2 h3 h4 => h p q h1 h2 (by omega)
theorem ins_step {a i j : Nat} {D : List Int} (h : Ins a i (j + 1) D) (hlt : el D (j + 1) < el D j) (ha : a ≤ j) (hj : j + 1 ≤ i) (hi : i < D.length) : Ins a i j (sw D (j + 1) j) := by
  intro p q h1 h2 h3 h4
  rw [sw_el (by omega) (by omega), sw_el (by omega) (by omega)]
  rw [if_neg h4]
  by_cases hq : q = j + 1
  · rw [if_pos hq]
    by_cases hp : p = j
    · rw [if_pos hp]
      omega
    · rw [if_neg hp, if_neg (by omega)]
      exact h p j h1 (by omega) (by omega) (by omega)
  · rw [if_neg hq]
    by_cases hp : p = j
    · rw [if_pos hp]
      exact h (j + 1) q (by omega) (by omega) h3 (by omega)
    · rw [if_neg hp]
      by_cases hp2 : p = j + 1
      · rw [if_pos hp2]
        exact h j q ha (by omega) h3 (by omega)
      · rw [if_neg hp2]
        exact h p q h1 h2 h3 (by omega)
theorem ins_end {a i j : Nat} {D : List Int} (h : Ins a i j D) (hj : j ≤ a ∨ el D (j - 1) ≤ el D j) (hji : j ≤ i) : Rs a (i + 1) D := by
  intro p q h1 h2 h3
  by_cases hq : q = j
  · subst hq
    rcases hj with hj | hj
    · omega
    · by_cases hp : p = q - 1
      · rw [hp]; exact hj
      · exact Int.le_trans (h p (q - 1) h1 (by omega) (by omega) (by omega)) hj
  · exact h p q h1 h2 (by omega) hq
theorem Rs.mono {a b b' : Nat} {D : List Int} (h : Rs a b D) (hb : b' ≤ b) : Rs a b' D := fun i j h1 h2 h3 => h i j h1 h2 (by omega)
/-- Parted: below m what is at most the one at m, above it what is at least it. -/
def Pt (a b m : Nat) (D : List Int) : Prop := (∀ k, a ≤ k → k < m → el D k ≤ el D m) ∧ ∀ k, m < k → k < b → el D m ≤ el D k
/-- Being parted: i and j to go. -/
def Pg (a b i j : Nat) (x : Int) (D : List Int) : Prop := el D a = x ∧ (∀ k, a < k → k < i → el D k ≤ x) ∧ ∀ k, j ≤ k → k < b → x ≤ el D k
theorem pg_start {a b : Nat} (D : List Int) : Pg a b (a + 1) b (el D a) D := ⟨rfl, fun k h1 h2 => by omega, fun k h1 h2 => by omega⟩
theorem pg_left {a b i j : Nat} {x : Int} {D : List Int} (h : Pg a b i j x D) (hx : el D i ≤ x) : Pg a b (i + 1) j x D :=
  ⟨h.1, fun k h1 h2 => by
    by_cases e : k = i
    · rw [e]; exact hx
    · exact h.2.1 k h1 (by omega), h.2.2⟩
theorem pg_right {a b i j : Nat} {x : Int} {D : List Int} (h : Pg a b i (j + 1) x D) (hx : x ≤ el D j) : Pg a b i j x D :=
  ⟨h.1, h.2.1, fun k h1 h2 => by
    by_cases e : k = j
    · rw [e]; exact hx
    · exact h.2.2 k (by omega) h2⟩
theorem pg_swap {a b i j : Nat} {x : Int} {D : List Int} (h : Pg a b i (j + 1) x D) (hi : x ≤ el D i) (hj : el D j ≤ x) (hai : a < i) (hij : i < j) (hjb : j < b) (hb : b ≤ D.length) : Pg a b (i + 1) j x (sw D i j) := by
  refine ⟨?_, fun k h1 h2 => ?_, fun k h1 h2 => ?_⟩
  · rw [sw_el (by omega) (by omega), if_neg (by omega), if_neg (by omega)]; exact h.1
  · rw [sw_el (by omega) (by omega), if_neg (by omega)]
    by_cases e : k = i
    · rw [if_pos e]; exact hj
    · rw [if_neg e]; exact h.2.1 k h1 (by omega)
  · rw [sw_el (by omega) (by omega)]
    by_cases e : k = j
    · rw [if_pos e]; exact hi
    · rw [if_neg e, if_neg (by omega)]; exact h.2.2 k (by omega) h2
theorem pg_end {a b j : Nat} {x : Int} {D : List Int} (h : Pg a b (j + 1) (j + 1) x D) (haj : a ≤ j) (hjb : j < b) (hb : b ≤ D.length) : Pt a b j (sw D j a) := by
  have e0 : el (sw D j a) j = x := by
    rw [sw_el (by omega) (by omega)]
    by_cases e : j = a
    · rw [if_pos e, e]; exact h.1
    · rw [if_neg e, if_pos rfl]; exact h.1
  refine ⟨fun k h1 h2 => ?_, fun k h1 h2 => ?_⟩
  · rw [e0, sw_el (by omega) (by omega)]
    by_cases e : k = a
    · rw [if_pos e]; exact h.2.1 j (by omega) (by omega)
    · rw [if_neg e, if_neg (by omega)]; exact h.2.1 k (by omega) (by omega)
  · rw [e0, sw_el (by omega) (by omega), if_neg (by omega), if_neg (by omega)]
    exact h.2.2 k (by omega) h2
/-- Left of a nothing is more than what is right of it. -/
def Lo (a b : Nat) (D : List Int) : Prop := a = 0 ∨ ∀ k, a ≤ k → k < b → el D (a - 1) ≤ el D k
theorem Lo.pm {a b : Nat} {D E : List Int} (h : Lo a b D) (hp : Pm a b D E) (hb : b ≤ D.length) : Lo a b E := by
  rcases h with h | h
  · exact Or.inl h
  · by_cases ha : a = 0
    · exact Or.inl ha
    · refine Or.inr (fun k h1 h2 => ?_)
      rw [hp.out hb (k := a - 1) (Or.inl (by omega))]
      exact hp.all hb (fun x => el D (a - 1) ≤ x) h k h1 h2
/-- What the two sides of a parted row owe. -/
theorem pt_left {a b m : Nat} {D E : List Int} (h : Pt a b m D) (hp : Pm a m D E) (hm : a ≤ m) (hmb : m < b) (hb : b ≤ D.length) : Pt a b m E := by
  have e0 : el E m = el D m := hp.out (by omega) (Or.inr (Nat.le_refl _))
  refine ⟨fun k h1 h2 => ?_, fun k h1 h2 => ?_⟩
  · rw [e0]; exact hp.all (by omega) (fun x => x ≤ el D m) h.1 k h1 h2
  · rw [e0, hp.out (by omega) (Or.inr (by omega))]; exact h.2 k h1 h2
theorem pt_right {a b m : Nat} {D E : List Int} (h : Pt a b m D) (hp : Pm (m + 1) b D E) (hm : a ≤ m) (hmb : m < b) (hb : b ≤ D.length) : Pt a b m E := by
  have e0 : el E m = el D m := hp.out (by omega) (Or.inl (by omega))
  refine ⟨fun k h1 h2 => ?_, fun k h1 h2 => ?_⟩
  · rw [e0, hp.out (by omega) (Or.inl (by omega))]; exact h.1 k h1 h2
  · rw [e0]; exact hp.all (by omega) (fun x => el D m ≤ x) (fun k h1 h2 => h.2 k (by omega) h2) k (by omega) h2
/-- The left side is sorted: go on with the right one. -/
theorem fr_left {a0 b0 a b m : Nat} {D : List Int} (hf : Fr a0 b0 a b D) (h : Pt a b m D) (hr : Rs a m D) (ha : a0 ≤ a) (hm : a ≤ m) (hmb : m < b) (hb : b ≤ b0) : Fr a0 b0 (m + 1) b D := by
  refine ⟨fun i j h1 h2 h3 h4 => ?_, hf.2⟩
  by_cases hia : i < a
  · exact hf.1 i j h1 hia h3 h4
  by_cases hjb : b ≤ j
  · exact hf.2 i j hjb h4 h1 h3
  by_cases him : i = m
  · rw [him]; exact h.2 j (by omega) (by omega)
  · by_cases hjm : j < m
    · exact hr i j (by omega) h3 hjm
    · by_cases hjm2 : j = m
      · rw [hjm2]; exact h.1 i (by omega) (by omega)
      · exact Int.le_trans (h.1 i (by omega) (by omega)) (h.2 j (by omega) (by omega))
/-- The right side is sorted: go on with the left one. -/
theorem fr_right {a0 b0 a b m : Nat} {D : List Int} (hf : Fr a0 b0 a b D) (h : Pt a b m D) (hr : Rs (m + 1) b D) (ha : a0 ≤ a) (hm : a ≤ m) (hmb : m < b) (hb : b ≤ b0) : Fr a0 b0 a m D := by
  refine ⟨hf.1, fun i j h1 h2 h3 h4 => ?_⟩
  by_cases hjb : b ≤ j
  · exact hf.2 i j hjb h2 h3 h4
  by_cases hia : i < a
  · exact hf.1 i j h3 hia h4 h2
  by_cases hjm : j = m
  · rw [hjm]; exact h.1 i (by omega) (by omega)
  · by_cases him : i < m
    · exact Int.le_trans (h.1 i (by omega) him) (h.2 j (by omega) (by omega))
    · by_cases him2 : i = m
      · rw [him2]; exact h.2 j (by omega) (by omega)
      · exact hr i j (by omega) h4 (by omega)
theorem lo_left {a b m : Nat} {D : List Int} (h : Lo a b D) (hmb : m ≤ b) : Lo a m D := by
  rcases h with h | h
  · exact Or.inl h
  · exact Or.inr fun k h1 h2 => h k h1 (by omega)
theorem lo_right {a b m : Nat} {D : List Int} (h : Pt a b m D) : Lo (m + 1) b D := Or.inr fun k h1 h2 => by
  rw [Nat.add_sub_cancel]
  exact h.2 k (by omega) h2
/-- Parted by what is equal: the left are all alike. -/
theorem fr_equal {a0 b0 a b m : Nat} {x : Int} {D : List Int} (hf : Fr a0 b0 a b D) (hlo : ∀ k, a ≤ k → k < b → x ≤ el D k) (h1 : ∀ k, a ≤ k → k < m → el D k ≤ x) (ha : a0 ≤ a) (hm : a ≤ m) (hmb : m ≤ b) (hb : b ≤ b0) : Fr a0 b0 m b D := by
  refine ⟨fun i j g1 g2 g3 g4 => ?_, hf.2⟩
  by_cases hia : i < a
  · exact hf.1 i j g1 hia g3 g4
  by_cases hjb : b ≤ j
  · exact hf.2 i j hjb g4 g1 g3
  · exact Int.le_trans (h1 i (by omega) g2) (hlo j (by omega) (by omega))
end Go.Gh
/-
  insertionSort at uint64.
-/
namespace Go.Proofs.Ytlfhcjhbnakamaa.Qs
open Go.RowKit Go.Gh
set_option linter.unusedVariables false
set_option linter.unusedSimpArgs false
set_option maxHeartbeats 8000000 in
set_option maxRecDepth 100000 in
theorem insertion_any (g cap a b : Nat) (D : List Int) (rest : List Value) (w : World) (hR : RowAt g D rest w) (hb : b ≤ D.length) (hab : a ≤ b) (hn : D.length ≤ 1000000) (hcap : D.length ≤ cap) (hc : cap ≤ 9223372036854775807) :
    Calls Try.prog 119 #[.slice (some ⟨g, 0, none⟩) D.length cap, .int .i64 a, .int .i64 b] w fun e w' => e = .returned (.tuple #[]) ∧ QsP g rest a b D (Rs a b) w w' := by
  obtain ⟨n, hN⟩ : ∃ n, D.length = n := ⟨_, rfl⟩
  rw [hN] at hb hn hcap ⊢
  have HN := Lib.hid hN
  have HR := Lib.hid hR
  clear hN hR
  go_enter Try.func119, Try.ntmps119
  go_wp2_with fail
  go_loopw [6] (fun i wr => ∃ (k : Nat) (E : List Int), i = .int .i64 k ∧ a < k ∧ (k ≤ b ∨ k = a + 1) ∧ Hid (Pm a b D E) ∧ Hid (Rs a k E) ∧ Hid (RowAt g E rest wr) ∧ Hid (w.grownBy wr (some g))) (fun i _ => (b - (intOf i).toNat))
  case atStart => exact ⟨a + 1, D, by go_num, by omega, Or.inr rfl, Lib.hid .refl, Lib.hid (fun i j h1 h2 h3 => by omega), HR, Lib.hid (grown_below (Below.refl _ _))⟩
  case round =>
    obtain ⟨k, E, rfl, hak, hkb, HP, HS, HE, HG⟩ := hrel
    by_cases hlt : k < b
    case neg =>
      go_wp2_with fail
      go_end0
      exact ⟨rfl, E, HP.out, HS.out.mono (by omega), HE.out, HG.out⟩
    obtain ⟨wB, rfl⟩ : ∃ x, x = wr := ⟨_, rfl⟩
    go_wp2_with fail
    go_loopw [7] (fun j wr => ∃ (m : Nat) (E : List Int), j = .int .i64 m ∧ a ≤ m ∧ m ≤ k ∧ Hid (Pm a b D E) ∧ Hid (Ins a k m E) ∧ Hid (RowAt g E rest wr) ∧ Hid (w.grownBy wr (some g))) (fun j _ => (intOf j).toNat)
    case atStart => exact ⟨k, E, rfl, by omega, Nat.le_refl _, HP, Lib.hid (ins_start HS.out), HE, HG⟩
    case round =>
      clear HP HS HE HG
      obtain ⟨m, E, rfl, ham, hmk, HP, HI, HE, HG⟩ := hrel
      by_cases hma : a < m
      case neg =>
        have hma2 : decide (a < m) = false := decide_eq_false (by omega)
        have HS2 : Hid (Rs a (k + 1) E) := Lib.hid (ins_end HI.out (Or.inl (by omega)) hmk)
        go_wp2_with fail
        go_quiet (fail)
        have HE3 : Hid (RowAt g E rest (wr.drewN nq)) := HE
        have HG3 := Lib.hid (grown_drewN HG.out nq)
        go_wp2_with fail
        go_roundw
        case rel => exact ⟨k + 1, E, by go_num, by omega, by omega, HP, HS2, HE3, HG3⟩
        case measure => simp [intOf]; omega
      obtain ⟨p, rfl⟩ : ∃ p, m = p + 1 := ⟨m - 1, by omega⟩
      have hEl : E.length = n := by rw [HP.out.len]; exact HN.out
      obtain ⟨q, hq⟩ : ∃ q, q = p + 1 := ⟨_, rfl⟩
      have e1 : (q : Int) - 1 = (p : Int) := by omega
      have e2 : ((p + 1 : Nat) : Int) = (q : Int) := by omega
      rw [e2]
      obtain ⟨⟨cq, cp⟩, ⟨fq, fp, fqp⟩, hS⟩ := HE.out.swaps (i := q) (j := p) (by omega) (by omega)
      have HSW := Lib.hid hS
      have hma2 : decide (a < q) = true := decide_eq_true (by omega)
      have hq1 : (q : Int) < (n : Int) := by omega
      have hp1 : (p : Int) < (n : Int) := by omega
      have hq0 : (0 : Int) ≤ (q : Int) := by omega
      have hp0 : (0 : Int) ≤ (p : Int) := by omega
      have hwr : IntKind.i64.wrap (p : Int) = (p : Int) := IntWalk.i64_in _ (by omega)
      have HQ := Lib.hid hq
      obtain ⟨x, hx⟩ : ∃ x, el E q = x := ⟨_, rfl⟩
      obtain ⟨y, hy⟩ : ∃ x, el E p = x := ⟨_, rfl⟩
      rw [hx] at cq HSW
      rw [hy] at cp fqp HSW
      have HX := Lib.hid hx
      have HY := Lib.hid hy
      clear hS hx hy hq e2
      by_cases hlt2 : x < y
      · have hd : decide (x < y) = true := decide_eq_true hlt2
        have HP2 : Hid (Pm a b D (sw E q p)) := Lib.hid (HP.out.step (by omega) (by have := HQ.out; omega) (by have := HQ.out; omega) (by omega))
        have HI2 : Hid (Ins a k p (sw E q p)) := Lib.hid (by
          have e := HQ.out
          subst e
          exact ins_step HI.out (by rw [HX.out, HY.out]; exact hlt2) (by omega) hmk (by omega))
        go_wp2_with fail
        go_quiet ((go_at_call 125; exact Calls.quiet_of (less_q _ _ _)))
        obtain ⟨wq, hwq⟩ : ∃ wq, wq = wr.drewN nq := ⟨_, rfl⟩
        have dq : wq.cell? ⟨g, q, none⟩ = some (.int .u64 x) := by rw [hwq]; exact cq
        have dp : wq.cell? ⟨g, p, none⟩ = some (.int .u64 y) := by rw [hwq]; exact cp
        have hq : wq.frozen? ⟨g, q, none⟩ = false := by rw [hwq]; exact fq
        have hp : wq.frozen? ⟨g, p, none⟩ = false := by rw [hwq]; exact fp
        have hqp : (wq.setCell ⟨g, q, none⟩ (.int .u64 y)).frozen? ⟨g, p, none⟩ = false := by rw [hwq]; exact fqp
        have HSQ : Hid (RowAt g (sw E q p) rest ((wq.setCell ⟨g, q, none⟩ (.int .u64 y)).setCell ⟨g, p, none⟩ (.int .u64 x))) := Lib.hid (by rw [hwq]; exact HSW.out)
        have HGQ : Hid (w.grownBy wq (some g)) := Lib.hid (by rw [hwq]; exact grown_drewN HG.out nq)
        rw [← hwq]
        clear hwq cq cp fq fp fqp hd
        go_upto_region 6 with (fail)
        go_region
        obtain ⟨wn, hwn⟩ : ∃ wn, wn = ((wq.setCell ⟨g, q, none⟩ (.int .u64 y)).setCell ⟨g, p, none⟩ (.int .u64 x)).drew := ⟨_, rfl⟩
        have HE2 : Hid (RowAt g (sw E q p) rest wn) := Lib.hid (by rw [hwn]; exact HSQ.out)
        have HG2 : Hid (w.grownBy wn (some g)) := Lib.hid (by rw [hwn]; exact grown_drewN (grown_swap HGQ.out q p _ _) 1)
        rw [← hwn]
        clear hwn dq dp hq hp hqp
        go_wp2_with fail
        go_roundw
        case rel => exact ⟨p, _, by go_num, by omega, by omega, HP2, HI2, HE2, HG2⟩
        case measure => simp [intOf]; omega
      · have hd : decide (x < y) = false := decide_eq_false hlt2
        have HS2 : Hid (Rs a (k + 1) E) := Lib.hid (ins_end HI.out (Or.inr (by
          have e := HQ.out
          subst e
          rw [Nat.add_sub_cancel, HX.out, HY.out]
          omega)) hmk)
        go_wp2_with fail
        go_quiet ((go_at_call 125; exact Calls.quiet_of (less_q _ _ _)))
        have HE3 : Hid (RowAt g E rest (wr.drewN nq)) := HE
        have HG3 := Lib.hid (grown_drewN HG.out nq)
        go_wp2_with fail
        go_roundw
        case rel => exact ⟨k + 1, E, by go_num, by omega, by omega, HP, HS2, HE3, HG3⟩
        case measure => simp [intOf]; omega
end Go.Proofs.Ytlfhcjhbnakamaa.Qs
