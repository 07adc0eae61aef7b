/-
  Tallies of what is heavy: as plain functions.
-/
import Derived.Test.YtcljeedmiobepaaClLaw
namespace Go.Gh
set_option linter.unusedVariables false
structure Ct where
  ky : ByteArray
  n : Int
instance : Inhabited Ct := ⟨⟨ByteArray.empty, 0⟩⟩
def sumN : List Ct → Int
  | [] => 0
  | x :: l => x.n + sumN l
theorem sumN_append : ∀ (a b : List Ct), sumN (a ++ b) = sumN a + sumN b
  | [], b => by simp [sumN]
  | x :: a, b => by rw [List.cons_append, sumN, sumN_append a b, sumN]; omega
theorem sumN_take {l : List Ct} {k : Nat} {x : Ct} (h : l[k]? = some x) : sumN (l.take (k + 1)) = sumN (l.take k) + x.n := by
  obtain ⟨h1, h2⟩ := List.getElem?_eq_some_iff.1 h
  rw [List.take_succ_eq_append_getElem h1, h2, sumN_append, sumN, sumN]
  omega
/-- Does the one ahead have the lesser key? -/
def preB (l : List Ct) (k : Nat) (x : Ct) : Bool := match k with
  | 0 => true
  | i + 1 => match l[i]? with
    | none => true
    | some q => Op.bytesLess q.ky.toList x.ky.toList
theorem preB_succ {l : List Ct} {k : Nat} {x q : Ct} (h : l[k]? = some q) : preB l (k + 1) x = Op.bytesLess q.ky.toList x.ky.toList := by
  unfold preB
  simp only [h]
def headH (K : Int) (len : Nat) (N off : Int) : Bool := decide (1 ≤ K) && (decide (K ≤ 64) && (decide ((len : Int) ≤ K) && (decide (0 ≤ N) && (decide (N ≤ 1000000000) && (decide (0 ≤ off) && decide (off ≤ N))))))
theorem headH_ok {K : Int} {len : Nat} {N off : Int} : headH K len N off = true ↔ (1 ≤ K ∧ K ≤ 64 ∧ (len : Int) ≤ K ∧ 0 ≤ N ∧ N ≤ 1000000000 ∧ 0 ≤ off ∧ off ≤ N) := by
  unfold headH
  simp only [Bool.and_eq_true, decide_eq_true_eq]
def oneOk (l : List Ct) (k : Nat) (x : Ct) : Bool := decide (x.ky.size ≤ 40) && (decide (0 < x.n) && preB l k x)
/-- The program's check, as far as place k. -/
def okP (h : Bool) (N : Int) (l : List Ct) : Nat → Bool
  | 0 => h
  | k + 1 => match l[k]? with
    | none => okP h N l k
    | some x => okP h N l k && (oneOk l k x && decide (x.n ≤ N))
theorem okP_step {h : Bool} {N : Int} {l : List Ct} {k : Nat} {x : Ct} (hx : l[k]? = some x) : okP h N l (k + 1) = (okP h N l k && (oneOk l k x && decide (x.n ≤ N))) := by
  rw [okP, hx]
/-- The reference's, and what is left. -/
def okR (h : Bool) (N : Int) (l : List Ct) : Nat → Bool × Int
  | 0 => (h, N)
  | k + 1 => match l[k]? with
    | none => okR h N l k
    | some x => if ((okR h N l k).1 && (oneOk l k x && decide (x.n ≤ (okR h N l k).2))) = true then (true, (okR h N l k).2 - x.n) else (false, (okR h N l k).2)
theorem okR_step {h : Bool} {N : Int} {l : List Ct} {k : Nat} {x : Ct} (hx : l[k]? = some x) : okR h N l (k + 1) = if ((okR h N l k).1 && (oneOk l k x && decide (x.n ≤ (okR h N l k).2))) = true then (true, (okR h N l k).2 - x.n) else (false, (okR h N l k).2) := by
  rw [okR, hx]
def allOk (l : List Ct) (k : Nat) : Prop := ∀ (i : Nat) (x : Ct), i < k → l[i]? = some x → oneOk l i x = true
theorem okP_iff {h : Bool} {N : Int} {l : List Ct} : ∀ k, k ≤ l.length → (okP h N l k = true ↔ h = true ∧ allOk l k ∧ ∀ (i : Nat) (x : Ct), i < k → l[i]? = some x → x.n ≤ N)
  | 0, _ => by
    rw [okP]
    exact ⟨fun e => ⟨e, fun i x hi => absurd hi (by omega), fun i x hi => absurd hi (by omega)⟩, fun e => e.1⟩
  | k + 1, hk => by
    obtain ⟨x, hx⟩ : ∃ x, l[k]? = some x := ⟨_, List.getElem?_eq_getElem (by omega)⟩
    have ih := okP_iff (h := h) (N := N) (l := l) k (by omega)
    rw [okP_step hx, Bool.and_eq_true, ih, Bool.and_eq_true, decide_eq_true_eq]
    constructor
    · rintro ⟨⟨h1, h2, h3⟩, h4, h5⟩
      refine ⟨h1, fun i y hi hy => ?_, fun i y hi hy => ?_⟩
      · rcases Nat.lt_or_ge i k with hlt | hge
        · exact h2 i y hlt hy
        · obtain rfl : i = k := by omega
          rw [hx] at hy
          obtain rfl := Option.some.inj hy
          exact h4
      · rcases Nat.lt_or_ge i k with hlt | hge
        · exact h3 i y hlt hy
        · obtain rfl : i = k := by omega
          rw [hx] at hy
          obtain rfl := Option.some.inj hy
          exact h5
    · rintro ⟨h1, h2, h3⟩
      exact ⟨⟨h1, fun i y hi hy => h2 i y (by omega) hy, fun i y hi hy => h3 i y (by omega) hy⟩, h2 k x (by omega) hx, h3 k x (by omega) hx⟩
theorem oneOk_pos {l : List Ct} {i : Nat} {x : Ct} (h : oneOk l i x = true) : x.ky.size ≤ 40 ∧ 0 < x.n ∧ preB l i x = true := by
  unfold oneOk at h
  simp only [Bool.and_eq_true, decide_eq_true_eq] at h
  exact h
theorem sumN_pos {l : List Ct} : ∀ k, k ≤ l.length → allOk l k → 0 ≤ sumN (l.take k) ∧ ∀ (i : Nat) (x : Ct), i < k → l[i]? = some x → x.n ≤ sumN (l.take k)
  | 0, _, _ => ⟨by simp [sumN], fun i x hi => absurd hi (by omega)⟩
  | k + 1, hk, ha => by
    obtain ⟨x, hx⟩ : ∃ x, l[k]? = some x := ⟨_, List.getElem?_eq_getElem (by omega)⟩
    have ih := sumN_pos (l := l) k (by omega) (fun i y hi => ha i y (by omega))
    have hp := oneOk_pos (ha k x (by omega) hx)
    rw [sumN_take hx]
    refine ⟨by omega, fun i y hi hy => ?_⟩
    rcases Nat.lt_or_ge i k with hlt | hge
    · have := ih.2 i y hlt hy
      omega
    · obtain rfl : i = k := by omega
      rw [hx] at hy
      obtain rfl := Option.some.inj hy
      omega
theorem okR_iff {h : Bool} {N : Int} {l : List Ct} (hN : h = true → 0 ≤ N) : ∀ k, k ≤ l.length → ((okR h N l k).1 = true ↔ h = true ∧ allOk l k ∧ sumN (l.take k) ≤ N) ∧ ((okR h N l k).1 = true → (okR h N l k).2 = N - sumN (l.take k))
  | 0, _ => by
    rw [okR]
    refine ⟨⟨fun e => ⟨e, fun i x hi => absurd hi (by omega), ?_⟩, fun e => e.1⟩, fun _ => by simp [sumN]⟩
    have := hN e
    simp [sumN]
    exact this
  | k + 1, hk => by
    obtain ⟨x, hx⟩ : ∃ x, l[k]? = some x := ⟨_, List.getElem?_eq_getElem (by omega)⟩
    obtain ⟨ih1, ih2⟩ := okR_iff (h := h) (N := N) (l := l) hN k (by omega)
    rw [okR_step hx, sumN_take hx]
    by_cases hc : ((okR h N l k).1 && (oneOk l k x && decide (x.n ≤ (okR h N l k).2))) = true
    · rw [if_pos hc]
      simp only [Bool.and_eq_true, decide_eq_true_eq] at hc
      obtain ⟨h1, h2, h3⟩ := hc
      have h4 := ih1.1 h1
      have h5 := ih2 h1
      refine ⟨⟨fun _ => ⟨h4.1, fun i y hi hy => ?_, by omega⟩, fun _ => rfl⟩, fun _ => by rw [h5]; omega⟩
      rcases Nat.lt_or_ge i k with hlt | hge
      · exact h4.2.1 i y hlt hy
      · obtain rfl : i = k := by omega
        rw [hx] at hy
        obtain rfl := Option.some.inj hy
        exact h2
    · rw [if_neg hc]
      refine ⟨⟨fun e => by simp at e, fun ⟨h1, h2, h3⟩ => ?_⟩, fun e => by simp at e⟩
      exfalso
      refine hc ?_
      have hp := oneOk_pos (h2 k x (by omega) hx)
      have h6 : (okR h N l k).1 = true := ih1.2 ⟨h1, fun i y hi => h2 i y (by omega), by omega⟩
      have h7 := ih2 h6
      rw [h6, h2 k x (by omega) hx, decide_eq_true (by omega)]
      rfl
structure Hv where
  k : Int
  l : List Ct
  n : Int
  off : Int
def wellH (s : Hv) : Prop := headH s.k s.l.length s.n s.off = true ∧ allOk s.l s.l.length ∧ (s.k + 1) * s.off + sumN s.l ≤ s.n
open Classical in
noncomputable def heavyF (s : Hv) : Int := if wellH s then 0 else 4
theorem mul_nn {K off : Int} (h1 : 1 ≤ K) (h2 : 0 ≤ off) : 0 ≤ (K + 1) * off := Int.mul_nonneg (by omega) h2
theorem heavyP_eq {s : Hv} : wellH s ↔ (okP (headH s.k s.l.length s.n s.off) s.n s.l s.l.length = true ∧ (s.k + 1) * s.off + sumN s.l ≤ s.n) := by
  have h1 := okP_iff (h := headH s.k s.l.length s.n s.off) (N := s.n) (l := s.l) s.l.length (Nat.le_refl _)
  rw [h1]
  constructor
  · rintro ⟨h2, h3, h4⟩
    refine ⟨⟨h2, h3, fun i x hi hx => ?_⟩, h4⟩
    have h5 := (sumN_pos s.l.length (Nat.le_refl _) h3).2 i x hi hx
    rw [List.take_length] at h5
    have h6 := headH_ok.1 h2
    have := mul_nn h6.1 h6.2.2.2.2.2.1
    omega
  · rintro ⟨⟨h2, h3, _⟩, h4⟩
    exact ⟨h2, h3, h4⟩
theorem heavyR_eq {s : Hv} : wellH s ↔ ((okR (headH s.k s.l.length s.n s.off) s.n s.l s.l.length).1 = true ∧ s.off * (s.k + 1) ≤ (okR (headH s.k s.l.length s.n s.off) s.n s.l s.l.length).2) := by
  obtain ⟨h1, h2⟩ := okR_iff (h := headH s.k s.l.length s.n s.off) (N := s.n) (l := s.l) (fun e => (headH_ok.1 e).2.2.2.1) s.l.length (Nat.le_refl _)
  rw [List.take_length] at h1 h2
  have hc : s.off * (s.k + 1) = (s.k + 1) * s.off := Int.mul_comm _ _
  constructor
  · rintro ⟨h3, h4, h5⟩
    have h6 := headH_ok.1 h3
    have := mul_nn h6.1 h6.2.2.2.2.2.1
    have h7 := h1.2 ⟨h3, h4, by omega⟩
    refine ⟨h7, ?_⟩
    rw [h2 h7, hc]
    omega
  · rintro ⟨h3, h4⟩
    have h5 := h1.1 h3
    rw [h2 h3, hc] at h4
    exact ⟨h5.1, h5.2.1, by omega⟩
/-- The key of a name of at most 40 bytes. -/
def kH (s : ByteArray) : Int := keyL 40 s.data.toList
theorem kH_less {s t : ByteArray} (hs : s.size ≤ 40) (ht : t.size ≤ 40) : Op.bytesLess s.toList t.toList = decide (kH s < kH t) := by
  rw [ByteArray.toList_eq, ByteArray.toList_eq]
  exact key_less 40 _ _ (by simpa using hs) (by simpa using ht)
theorem kH_inj {s t : ByteArray} (hs : s.size ≤ 40) (ht : t.size ≤ 40) (h : kH s = kH t) : s = t := by
  have := key_same 40 s.data.toList t.data.toList (by simpa using hs) (by simpa using ht) h
  cases s; cases t
  simp only [ByteArray.mk.injEq]
  exact Array.ext' this
theorem kH_same {s t : ByteArray} (hs : s.size ≤ 40) (ht : t.size ≤ 40) : (s.toList == t.toList) = decide (kH s = kH t) := by
  by_cases h : kH s = kH t
  · rw [decide_eq_true h, kH_inj hs ht h]; simp
  · rw [decide_eq_false h, beq_eq_false_iff_ne]
    intro he
    rw [ByteArray.toList_eq, ByteArray.toList_eq] at he
    exact h (by unfold kH; rw [he])
/-- Keys that rise, of at most 40 bytes each; all counts above nought. -/
def Ris (l : List Ct) : Prop := (∀ x ∈ l, x.ky.size ≤ 40 ∧ 0 < x.n) ∧ l.Pairwise fun a b => kH a.ky < kH b.ky
theorem ris_of {l : List Ct} (h : allOk l l.length) : Ris l := by
  have hs : ∀ (i : Nat) (x : Ct), l[i]? = some x → x.ky.size ≤ 40 ∧ 0 < x.n ∧ preB l i x = true := fun i x hx => oneOk_pos (h i x (List.getElem?_eq_some_iff.1 hx).1 hx)
  refine ⟨fun x hx => ?_, ?_⟩
  · obtain ⟨i, hi⟩ := List.mem_iff_getElem?.1 hx
    have := hs i x hi
    exact ⟨this.1, this.2.1⟩
  · have key : ∀ d i (x y : Ct), l[i]? = some x → l[i + d + 1]? = some y → kH x.ky < kH y.ky := by
      intro d
      induction d with
      | zero =>
        intro i x y hx hy
        have h1 := hs _ y hy
        rw [Nat.add_zero] at h1
        have h2 := h1.2.2
        rw [preB_succ hx, kH_less (hs i x hx).1 h1.1] at h2
        simpa using h2
      | succ d ih =>
        intro i x y hx hy
        have hlt := (List.getElem?_eq_some_iff.1 hy).1
        obtain ⟨z, hz⟩ : ∃ z, l[i + d + 1]? = some z := ⟨_, List.getElem?_eq_getElem (by omega)⟩
        have h1 := ih i x z hx hz
        have h2 := hs _ y hy
        rw [show i + (d + 1) + 1 = (i + d + 1) + 1 from by omega, preB_succ hz, kH_less (hs _ z hz).1 h2.1] at h2
        have h3 : kH z.ky < kH y.ky := by simpa using h2.2.2
        omega
    rw [List.pairwise_iff_getElem]
    intro i j hi hj hij
    exact key (j - i - 1) i _ _ (List.getElem?_eq_getElem hi) (by rw [show i + (j - i - 1) + 1 = j from by omega]; exact List.getElem?_eq_getElem hj)
end Go.Gh
