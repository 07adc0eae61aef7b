/-
  The ring: the places in order; the owners and the compacted places as plain functions.
-/
import Derived.Test.YtcljeedmiobepaaRn3
import Derived.Test.YtcljeedmiobepaaRn4
import Derived.Test.YtcljeedmiobepaaRn7
import Derived.Sort.LotA
import Derived.Sort.Walk0
import Derived.Shelf.SlSortCmp.Insertion
import Derived.Sort.Grow
import Derived.Shelf.SlSortCmp.InsertionK
import Derived.Sort.OwnSortedInts
import Derived.Shelf.SlSortCmp.NoneTotal
import Derived.Ground.SlsfProg
import Derived.Test.YtcljeedmiobepaaProg
namespace Go.Proofs.Ytcljeedmiobepaa.Rng
open Go.RowKit Go.Gh Go.Proofs.Ytcljeedmiobepaa.Nod
set_option linter.unusedVariables false
theorem goN_zero : ∀ (L : List Nd) (p : Option Nd), goN p L = 0 → (∀ x ∈ L, 1 ≤ x.nm.size ∧ x.nm.size ≤ 20 ∧ x.tk.length ≤ 20 ∧ AscT x.tk) ∧ L.Pairwise (fun x y => keyS x.nm < keyS y.nm) ∧ ∀ x ∈ L, pk p < keyS x.nm
  | [], p, h => ⟨fun x hx => by simp at hx, List.Pairwise.nil, fun x hx => by simp at hx⟩
  | x :: L, p, h => by
    rw [goN] at h
    split at h
    · exact absurd h (by decide)
    rename_i h1
    split at h
    · exact absurd h (by decide)
    rename_i h2
    split at h
    · exact absurd h (by decide)
    rename_i h3
    split at h
    case isFalse => exact absurd h (by decide)
    rename_i h4
    obtain ⟨i1, i2, i3⟩ := goN_zero L (some x) h
    have h1 := not_or.1 h1
    refine ⟨fun y hy => ?_, List.pairwise_cons.2 ⟨fun y hy => i3 y hy, i2⟩, fun y hy => ?_⟩
    · rcases List.mem_cons.1 hy with rfl | hy
      · exact ⟨by omega, by omega, by omega, h4⟩
      · exact i1 y hy
    · rcases List.mem_cons.1 hy with rfl | hy
      · omega
      · have := i3 y hy
        have e : pk (some x) = keyS x.nm := rfl
        omega
theorem nodes_zero {L : List Nd} (h : nodesF L = 0) : L.length ≤ 20 ∧ (∀ x ∈ L, 1 ≤ x.nm.size ∧ x.nm.size ≤ 20 ∧ x.tk.length ≤ 20 ∧ AscT x.tk) ∧ L.Pairwise (fun x y => keyS x.nm < keyS y.nm) := by
  unfold nodesF at h
  split at h
  · exact absurd h (by decide)
  · rename_i hl
    obtain ⟨h1, h2, _⟩ := goN_zero L none h
    exact ⟨by omega, h1, h2⟩
theorem asct_pw : ∀ l : List Int, AscT l → l.Pairwise (fun x y => x < y)
  | [], _ => List.Pairwise.nil
  | [a], _ => List.pairwise_singleton _ _
  | a :: b :: l, h => by
    have h2 : AscT (b :: l) := fun i hi => by
      have := h (i + 1) (by simp only [List.length_cons] at hi ⊢; omega)
      simpa using this
    have hab : a < b := by simpa using h 0 (by simp)
    have ih := asct_pw (b :: l) h2
    refine List.pairwise_cons.2 ⟨fun y hy => ?_, ih⟩
    rcases List.mem_cons.1 hy with rfl | hy
    · exact hab
    · exact Int.lt_trans hab ((List.pairwise_cons.1 ih).1 y hy)
/-- The places of nodes. -/
def plN (x : Nd) : List Pl := x.tk.map fun t => Pl.mk t x.nm
def pls (L : List Nd) : List Pl := L.flatMap plN
theorem mem_pls {L : List Nd} {p : Pl} : p ∈ pls L ↔ ∃ x ∈ L, p.t ∈ x.tk ∧ p.nm = x.nm := by
  unfold pls plN
  rw [List.mem_flatMap]
  constructor
  · rintro ⟨x, hx, hp⟩
    obtain ⟨t, ht, rfl⟩ := List.mem_map.1 hp
    exact ⟨x, hx, ht, rfl⟩
  · rintro ⟨x, hx, ht, hn⟩
    exact ⟨x, hx, List.mem_map.2 ⟨p.t, ht, by cases p; simp at hn; rw [hn]⟩⟩
theorem pls_len {L : List Nd} (h : ∀ x ∈ L, x.tk.length ≤ 20) : (pls L).length ≤ L.length * 20 := by
  unfold pls
  induction L with
  | nil => simp
  | cons x L ih =>
    have h1 := h x (by simp)
    have h2 := ih (fun y hy => h y (by simp [hy]))
    rw [List.flatMap_cons, List.length_append]
    have : (plN x).length = x.tk.length := by unfold plN; rw [List.length_map]
    simp only [List.length_cons]
    omega
/-- Tokens are words. -/
def TkW (L : List Nd) : Prop := ∀ x ∈ L, ∀ z ∈ x.tk, 0 ≤ z ∧ z < 18446744073709551616
theorem tkw_of {w : World} {v : Value} {L : List Nd} (hs : Sp NdR 2 w v L) : TkW L := fun x hx z hz => by
  obtain ⟨i, hi⟩ := List.getElem?_of_mem hx
  obtain ⟨ao, c, rfl, -, -⟩ := hs.shape
  obtain ⟨b, off, cs, -, ⟨t, -, ht⟩, -, -⟩ := hs.get hi
  exact wf_u64 (ht.2 z hz)
section
variable {L : List Nd}
theorem pls_word (h : TkW L) : ∀ p ∈ pls L, 0 ≤ p.t ∧ p.t < 18446744073709551616 := fun p hp => by
  obtain ⟨x, hx, ht, -⟩ := mem_pls.1 hp
  exact h x hx _ ht
theorem pls_size (hz : nodesF L = 0) : ∀ p ∈ pls L, 1 ≤ p.nm.size ∧ p.nm.size ≤ 20 := fun p hp => by
  obtain ⟨x, hx, -, hn⟩ := mem_pls.1 hp
  have := (nodes_zero hz).2.1 x hx
  rw [hn]
  exact ⟨this.1, this.2.1⟩
theorem key_inj {a b : ByteArray} (ha : a.size ≤ 20) (hb : b.size ≤ 20) (h : keyS a = keyS b) : a = b := by
  have := keyS_same ha hb
  rw [decide_eq_true h] at this
  exact toList_inj (beq_iff_eq.1 this)
theorem pls_inj (hz : nodesF L = 0) : ∀ x ∈ pls L, ∀ y ∈ pls L, keyS x.nm = keyS y.nm → x.nm = y.nm := fun x hx y hy h => key_inj (pls_size hz x hx).2 (pls_size hz y hy).2 h
theorem pls_pw (hz : nodesF L = 0) : (pls L).Pairwise (fun x y => keyS x.nm < keyS y.nm ∨ (x.nm = y.nm ∧ x.t < y.t)) := by
  obtain ⟨-, h1, h2⟩ := nodes_zero hz
  unfold pls
  rw [List.pairwise_flatMap]
  refine ⟨fun x hx => ?_, h2.imp fun {x y} h a ha b hb => ?_⟩
  · unfold plN
    rw [List.pairwise_map]
    exact (asct_pw _ (h1 x hx).2.2.2).imp fun h => Or.inr ⟨rfl, h⟩
  · obtain ⟨t, -, rfl⟩ := List.mem_map.1 ha
    obtain ⟨u, -, rfl⟩ := List.mem_map.1 hb
    exact Or.inl h
theorem pls_le (hz : nodesF L = 0) : (pls L).Pairwise (fun x y => keyS x.nm ≤ keyS y.nm) := (pls_pw hz).imp fun {x y} h => by
  rcases h with h | h
  · omega
  · rw [h.1]; omega
end
/-- How two places compare, whatever their names. -/
def cfP (a b : Pl) : Int := or2 (cmpI a.t b.t) (cmpB a.nm b.nm)
theorem cfP_neg (a b : Pl) : cfP a b < 0 ↔ a.t < b.t ∨ (a.t = b.t ∧ a.nm.toList < b.nm.toList) := by
  unfold cfP or2 cmpI cmpB
  rw [bytesLess_eq]
  by_cases h1 : a.t < b.t
  · simp [h1]
  · by_cases h2 : b.t < a.t
    · simp [h1, h2]; omega
    · have h5 : a.t = b.t := by omega
      by_cases h3 : a.nm.toList < b.nm.toList
      · simp [h5, h3]
      · by_cases h4 : a.nm.toList = b.nm.toList
        · rw [h4]; simp [h5, List.lt_irrefl]
        · simp [h5, h3, h4]
theorem lt_cfP (a b : Pl) : ltOf cfP a b = decide (a.t < b.t ∨ (a.t = b.t ∧ a.nm.toList < b.nm.toList)) := by
  unfold ltOf
  rw [decide_eq_decide]
  exact cfP_neg a b
theorem swoP : Sort.SWO (ltOf cfP) where
  irrefl x := by rw [lt_cfP]; simp [List.lt_irrefl]
  trans x y z h1 h2 := by
    rw [lt_cfP, decide_eq_true_eq] at *
    rcases h1 with h1 | ⟨h1, h3⟩ <;> rcases h2 with h2 | ⟨h2, h4⟩
    · exact Or.inl (by omega)
    · exact Or.inl (by omega)
    · exact Or.inl (by omega)
    · exact Or.inr ⟨by omega, List.lt_trans h3 h4⟩
  ntrans x y z h1 h2 := by
    rw [lt_cfP, decide_eq_false_iff_not] at *
    rintro (h | ⟨h, h5⟩)
    · exact h1 (Or.inl (Classical.byContradiction fun h6 => h2 (Or.inl (by omega))))
    · have e1 : ¬ x.t < y.t := fun h6 => h1 (Or.inl h6)
      have e2 : ¬ y.t < z.t := fun h6 => h2 (Or.inl h6)
      have h3 : ¬ x.nm.toList < y.nm.toList := fun h6 => h1 (Or.inr ⟨by omega, h6⟩)
      have h4 : ¬ y.nm.toList < z.nm.toList := fun h6 => h2 (Or.inr ⟨by omega, h6⟩)
      exact List.not_lt.2 (List.le_trans (List.not_lt.1 h4) (List.not_lt.1 h3)) h5
theorem totP (x y : Pl) (h1 : ltOf cfP x y = false) (h2 : ltOf cfP y x = false) : x = y := by
  rw [lt_cfP, decide_eq_false_iff_not] at *
  have e : x.t = y.t := by
    have := fun h => h1 (Or.inl h)
    have := fun h => h2 (Or.inl h)
    omega
  have h3 : ¬ x.nm.toList < y.nm.toList := fun h6 => h1 (Or.inr ⟨e, h6⟩)
  have h4 : ¬ y.nm.toList < x.nm.toList := fun h6 => h2 (Or.inr ⟨e.symm, h6⟩)
  have := toList_inj (List.le_antisymm (List.not_lt.1 h4) (List.not_lt.1 h3))
  cases x; cases y; simp_all
def srt (l : List Pl) : List Pl := l.mergeSort fun x y => !(ltOf cfP) y x
theorem srt_perm (l : List Pl) : (srt l).Perm l := List.mergeSort_perm _ _
theorem srt_mem {l : List Pl} (x : Pl) : x ∈ srt l ↔ x ∈ l := (srt_perm l).mem_iff
theorem srt_pw (l : List Pl) (hs : ∀ x ∈ l, x.nm.size ≤ 20) : (srt l).Pairwise (fun x y => x.t < y.t ∨ (x.t = y.t ∧ keyS x.nm ≤ keyS y.nm)) := by
  have h : (srt l).Pairwise (fun x y => (!(ltOf cfP) y x) = true) := List.pairwise_mergeSort (fun a b c h1 h2 => by
    simp only [Bool.not_eq_true'] at *
    exact swoP.ntrans _ _ _ h2 h1) (fun a b => by
    cases h : (ltOf cfP) b a with
    | false => rfl
    | true =>
      cases h2 : (ltOf cfP) a b with
      | false => rfl
      | true => have := swoP.trans _ _ _ h h2; rw [swoP.irrefl] at this; simp at this) l
  refine List.Pairwise.imp_of_mem (fun {x y} hx hy h' => ?_) h
  have hx := hs x ((srt_mem x).1 hx)
  have hy := hs y ((srt_mem y).1 hy)
  rw [Bool.not_eq_true', lt_cfP, decide_eq_false_iff_not] at h'
  by_cases h1 : x.t < y.t
  · exact Or.inl h1
  · have h2 : ¬ y.t < x.t := fun h2 => h' (Or.inl h2)
    have h3 : ¬ y.nm.toList < x.nm.toList := fun h3 => h' (Or.inr ⟨by omega, h3⟩)
    have h4 := keyS_less hy hx
    rw [bytesLess_eq, decide_eq_false h3] at h4
    have := of_decide_eq_false h4.symm
    exact Or.inr ⟨by omega, by omega⟩
/-- The places, turned to begin at the number. -/
def turned (p : List Pl) (at' : Int) : List Pl := p.filter (fun x => !decide (x.t < at')) ++ p.filter (fun x => decide (x.t < at'))
theorem turned_at {p : List Pl} {i : Nat} {at' : Int} (h1 : ∀ x ∈ p.take i, x.t < at') (h2 : ∀ x ∈ p.drop i, ¬ x.t < at') : p.drop i ++ p.take i = turned p at' := by
  unfold turned
  have e1 : p.filter (fun x => !decide (x.t < at')) = p.drop i := by
    conv => lhs; rw [← List.take_append_drop i p]
    rw [List.filter_append, List.filter_eq_nil_iff.2 (fun x hx => by simp [h1 x hx]), List.filter_eq_self.2 (fun x hx => by simpa using h2 x hx), List.nil_append]
  have e2 : p.filter (fun x => decide (x.t < at')) = p.take i := by
    conv => lhs; rw [← List.take_append_drop i p]
    rw [List.filter_append, List.filter_eq_self.2 (fun x hx => by simp [h1 x hx]), List.filter_eq_nil_iff.2 (fun x hx => by simpa using h2 x hx), List.append_nil]
  rw [e1, e2]
theorem bound_ex {at' : Int} : ∀ p : List Pl, p.Pairwise (fun x y => x.t ≤ y.t) → ∃ i, (∀ x ∈ p.take i, x.t < at') ∧ ∀ x ∈ p.drop i, ¬ x.t < at'
  | [], _ => ⟨0, fun x hx => by simp at hx, fun x hx => by simp at hx⟩
  | x :: p, h => by
    obtain ⟨h1, h2⟩ := List.pairwise_cons.1 h
    by_cases hx : x.t < at'
    · obtain ⟨i, i1, i2⟩ := bound_ex p h2
      exact ⟨i + 1, fun y hy => by
        rw [List.take_succ_cons] at hy
        rcases List.mem_cons.1 hy with rfl | hy
        · exact hx
        · exact i1 y hy, fun y hy => i2 y (by simpa using hy)⟩
    · exact ⟨0, fun y hy => by simp at hy, fun y hy => by
        rw [List.drop_zero] at hy
        rcases List.mem_cons.1 hy with rfl | hy
        · exact hx
        · have := h1 y hy; omega⟩
theorem turned_lex {p : List Pl} {at' : Int} (hp : p.Pairwise (fun x y => x.t < y.t ∨ (x.t = y.t ∧ keyS x.nm ≤ keyS y.nm))) (hw : ∀ x ∈ p, 0 ≤ x.t ∧ x.t < 18446744073709551616) (ha : 0 ≤ at' ∧ at' < 18446744073709551616) :
    (turned p at').Pairwise (lexLe keyS at') := by
  obtain ⟨i, h1, h2⟩ := bound_ex (at' := at') p (hp.imp fun {x y} h => by omega)
  rw [← turned_at h1 h2]
  exact turn_lex hp hw ha h1 (fun x hx => by have := h2 x hx; omega)
theorem turned_mem {p : List Pl} {at' : Int} (x : Pl) : x ∈ turned p at' ↔ x ∈ p := by
  unfold turned
  rw [List.mem_append, List.mem_filter, List.mem_filter]
  by_cases h : x.t < at' <;> simp [h]
/-- The owners. -/
noncomputable def owF (L : List Nd) (at' : Int) (n : Nat) : List ByteArray := owP n [] (turned (srt (pls L)) at')
theorem gr_owF {L : List Nd} {at' : Int} {n : Nat} {r : List ByteArray} (hz : nodesF L = 0) (ht : TkW L) (ha : 0 ≤ at' ∧ at' < 18446744073709551616) (h : GrR at' n (pls L) [] r) : r = owF L at' n :=
  gr_ow (key := keyS) (pls_inj hz) (pls_le hz) (pls_word ht) (turned_lex (srt_pw _ (fun x hx => (pls_size hz x hx).2)) (fun x hx => pls_word ht x ((srt_mem x).1 hx)) ha) (fun x => (turned_mem x).trans (srt_mem x)) h
/-- The first owner of a token: the first by name of those that have it. -/
theorem owF_one {L : List Nd} (hz : nodesF L = 0) (ht : TkW L) {x : Pl} (hx : x ∈ pls L) : ∃ nm, owF L x.t 1 = [nm] ∧ ∃ z ∈ pls L, z.t = x.t ∧ z.nm = nm ∧ ∀ y ∈ pls L, y.t = x.t → keyS nm ≤ keyS y.nm := by
  have hw := pls_word ht
  have hlex := turned_lex (p := srt (pls L)) (at' := x.t) (srt_pw _ (fun x hx => (pls_size hz x hx).2)) (fun x hx => hw x ((srt_mem x).1 hx)) (hw x hx)
  have hm := fun y => (turned_mem (p := srt (pls L)) (at' := x.t) y).trans (srt_mem y)
  unfold owF
  revert hlex hm
  cases turned (srt (pls L)) x.t with
  | nil => intro _ hm; have := (hm x).2 hx; simp at this
  | cons z q =>
    intro hlex hm
    have hzl := (hm z).1 (by simp)
    have h0 : ∀ y ∈ pls L, lexLe keyS x.t z y := fun y hy => by
      rcases List.mem_cons.1 ((hm y).2 hy) with rfl | hy
      · exact lexLe.refl _
      · exact (List.pairwise_cons.1 hlex).1 y hy
    have hd : distR x.t x.t = 0 := by unfold distR; omega
    have hzt : z.t = x.t := by
      have h1 := h0 x hx
      have h2 := dist_nn x.t z.t
      unfold lexLe at h1
      exact dist_inj (at' := x.t) (hw z hzl) (hw x hx) (by omega)
    refine ⟨z.nm, ?_, z, hzl, hzt, rfl, fun y hy hyt => ?_⟩
    · show owP 1 (owS 1 [] z) q = _
      have e1 : owS 1 [] z = [z.nm] := if_pos ⟨by decide, by simp⟩
      rw [e1]
      exact owP_full (by simp)
    · have h1 := h0 y hy
      unfold lexLe at h1
      rw [hyt, hzt] at h1
      omega
/-- Without a token twice. -/
def stepC (acc : List Pl) (y : Pl) : List Pl := if acc.getLast?.map Pl.t = some y.t then acc else acc ++ [y]
def cpF (l : List Pl) : List Pl := l.foldl stepC []
theorem cp_snoc (l : List Pl) (y : Pl) : cpF (l ++ [y]) = stepC (cpF l) y := by unfold cpF; rw [List.foldl_append]; rfl
theorem cp_last : ∀ l : List Pl, l ≠ [] → (cpF l).getLast?.map Pl.t = l.getLast?.map Pl.t := by
  have h : ∀ (l : List Pl) (y : Pl), (cpF (l ++ [y])).getLast?.map Pl.t = some y.t := fun l y => by
    rw [cp_snoc]
    unfold stepC
    split
    · rename_i h; exact h
    · simp
  intro l hl
  obtain ⟨l', y, rfl⟩ : ∃ l' y, l = l' ++ [y] := ⟨l.dropLast, l.getLast hl, (List.dropLast_concat_getLast hl).symm⟩
  rw [h]
  simp
theorem cp_succ {l : List Pl} {k : Nat} {x y : Pl} (hx : l[k]? = some x) (hy : l[k + 1]? = some y) : cpF (l.take (k + 2)) = if y.t = x.t then cpF (l.take (k + 1)) else cpF (l.take (k + 1)) ++ [y] := by
  obtain ⟨h1, h2⟩ := List.getElem?_eq_some_iff.1 hx
  obtain ⟨h3, h4⟩ := List.getElem?_eq_some_iff.1 hy
  have e1 : l.take (k + 1) = l.take k ++ [x] := by rw [List.take_succ_eq_append_getElem h1, h2]
  have e2 : l.take (k + 2) = l.take (k + 1) ++ [y] := by rw [List.take_succ_eq_append_getElem h3, h4]
  rw [e2, cp_snoc]
  unfold stepC
  rw [cp_last _ (by rw [e1]; simp), e1]
  simp only [List.getLast?_append, List.getLast?_singleton, Option.some_or, Option.map_some, Option.some.injEq]
  by_cases h : y.t = x.t
  · rw [if_pos h, if_pos h.symm]
  · rw [if_neg h, if_neg (fun e => h e.symm)]
structure CpI (l c : List Pl) : Prop where
  asc : c.Pairwise (fun x y => x.t < y.t)
  sub : ∀ x ∈ c, x ∈ l ∧ ∀ y ∈ l, y.t = x.t → keyS x.nm ≤ keyS y.nm
  all : ∀ y ∈ l, ∃ x ∈ c, x.t = y.t
theorem cp_go : ∀ (l l0 acc : List Pl), (l0 ++ l).Pairwise (fun x y => x.t < y.t ∨ (x.t = y.t ∧ keyS x.nm ≤ keyS y.nm)) → CpI l0 acc → CpI (l0 ++ l) (l.foldl stepC acc)
  | [], l0, acc, _, h => by rw [List.append_nil]; exact h
  | y :: l, l0, acc, hp, h => by
    have hp0 : ∀ x ∈ l0, x.t < y.t ∨ (x.t = y.t ∧ keyS x.nm ≤ keyS y.nm) := fun x hx => (List.pairwise_append.1 hp).2.2 x hx y (by simp)
    have := cp_go l (l0 ++ [y]) (stepC acc y) (by rw [List.append_assoc]; exact hp) ?_
    · rw [List.append_assoc] at this
      exact this
    have hmem : ∀ z, z ∈ l0 ++ [y] ↔ z ∈ l0 ∨ z = y := fun z => by simp
    unfold stepC
    split
    · rename_i hl
      obtain ⟨z, hz, hzt⟩ := Option.map_eq_some_iff.1 hl
      have hzm := List.mem_of_getLast? hz
      refine ⟨h.asc, fun x hx => ⟨(hmem x).2 (Or.inl (h.sub x hx).1), fun u hu hut => ?_⟩, fun u hu => ?_⟩
      · rcases (hmem u).1 hu with hu | rfl
        · exact (h.sub x hx).2 u hu hut
        · have h1 := h.sub x hx
          have := hp0 x h1.1
          omega
      · rcases (hmem u).1 hu with hu | rfl
        · exact h.all u hu
        · exact ⟨z, hzm, hzt⟩
    · rename_i hl
      have hlt : ∀ x ∈ acc, x.t < y.t := fun x hx => by
        have h1 := hp0 x (h.sub x hx).1
        rcases h1 with h1 | ⟨h1, -⟩
        · exact h1
        · exfalso
          have hne : acc ≠ [] := fun e => by rw [e] at hx; simp at hx
          obtain ⟨z, hz⟩ : ∃ z, acc.getLast? = some z := ⟨_, List.getLast?_eq_some_getLast hne⟩
          have hzm := List.mem_of_getLast? hz
          have hz0 := hp0 z (h.sub z hzm).1
          have hzne : ¬ z.t = y.t := fun e => hl (by rw [hz]; simp [e])
          -- x is not behind the last
          have hac : acc = acc.dropLast ++ [z] := by
            have := List.dropLast_concat_getLast hne
            rw [← this]
            have e2 : acc.getLast hne = z := by rw [List.getLast?_eq_some_getLast hne] at hz; injection hz
            rw [e2]
            simp
          rw [hac] at hx
          rcases List.mem_append.1 hx with hx | hx
          · have hasc := h.asc
            rw [hac] at hasc
            have := (List.pairwise_append.1 hasc).2.2 x hx z (by simp)
            omega
          · have : x = z := by simpa using hx
            subst this
            exact hzne h1
      refine ⟨List.pairwise_append.2 ⟨h.asc, List.pairwise_singleton _ _, fun x hx u hu => ?_⟩, fun x hx => ?_, fun u hu => ?_⟩
      · have : u = y := by simpa using hu
        rw [this]; exact hlt x hx
      · rcases List.mem_append.1 hx with hx | hx
        · refine ⟨(hmem x).2 (Or.inl (h.sub x hx).1), fun u hu hut => ?_⟩
          rcases (hmem u).1 hu with hu | e2
          · exact (h.sub x hx).2 u hu hut
          · have := hlt x hx
            rw [e2] at hut
            omega
        · have e : x = y := by simpa using hx
          refine ⟨(hmem x).2 (Or.inr e), fun u hu hut => ?_⟩
          rcases (hmem u).1 hu with hu | e2
          · obtain ⟨z, hz, hzt⟩ := h.all u hu
            have := hlt z hz
            rw [e] at hut
            omega
          · rw [e, e2]; omega
      · rcases (hmem u).1 hu with hu | rfl
        · obtain ⟨z, hz, hzt⟩ := h.all u hu
          exact ⟨z, List.mem_append_left _ hz, hzt⟩
        · exact ⟨u, by simp, rfl⟩
theorem cp_cpt {l : List Pl} (hs : ∀ x ∈ l, x.nm.size ≤ 20) : Cpt keyS l (cpF (srt l)) := by
  have h := cp_go (srt l) [] [] (by simpa using srt_pw l hs) ⟨List.Pairwise.nil, fun x hx => by simp at hx, fun x hx => by simp at hx⟩
  rw [List.nil_append] at h
  exact ⟨h.asc, fun x hx => ⟨(srt_mem x).1 (h.sub x hx).1, fun y hy e => (h.sub x hx).2 y ((srt_mem y).2 hy) e⟩, fun y hy => h.all y ((srt_mem y).2 hy)⟩
/-- Both ways tell the same share. -/
noncomputable def ow1 (L : List Nd) (t : Int) : ByteArray := (owF L t 1)[0]?.getD ByteArray.empty
theorem share_both {L : List Nd} (hz : nodesF L = 0) (ht : TkW L) (name : ByteArray) : shareP (cpF (srt (pls L))) name = shareR (pls L) (ow1 L) name := by
  have hc := cp_cpt (l := pls L) (fun x hx => (pls_size hz x hx).2)
  refine share_same hc (pls_word ht) (pls_pw hz) (fun x hx => ?_)
  obtain ⟨nm, h1, z, hz1, h2, h3, h4⟩ := owF_one hz ht hx
  obtain ⟨c, hcm, hct⟩ := hc.all x hx
  refine ⟨c, hcm, hct, ?_⟩
  have h5 := hc.sub c hcm
  have k1 := h5.2 z hz1 (by omega)
  have k2 := h4 c h5.1 hct
  have e : ow1 L x.t = nm := by unfold ow1; rw [h1]; rfl
  rw [e, ← h3]
  exact pls_inj hz z hz1 c h5.1 (by rw [← h3] at k2; omega)
/-- A node put among the others: the document's way. -/
def withS (x : Nd) (st : List Nd × Bool) (y : Nd) : List Nd × Bool := if st.2 = false ∧ Op.bytesLess x.nm.toList y.nm.toList = true then (st.1 ++ [x, y], true) else (st.1 ++ [y], st.2)
def withP (L : List Nd) (x : Nd) : List Nd × Bool := L.foldl (withS x) ([], false)
def withN (L : List Nd) (x : Nd) : List Nd := if (withP L x).2 then (withP L x).1 else (withP L x).1 ++ [x]
theorem withP_take {L : List Nd} {k : Nat} {y x : Nd} (h : L[k]? = some y) : withP (L.take (k + 1)) x = withS x (withP (L.take k) x) y := by
  obtain ⟨h1, h2⟩ := List.getElem?_eq_some_iff.1 h
  unfold withP
  rw [List.take_succ_eq_append_getElem h1, h2, List.foldl_append]
  rfl
theorem with_no (x : Nd) : ∀ (l : List Nd) (o : List Nd), (∀ y ∈ l, Op.bytesLess x.nm.toList y.nm.toList = false) → l.foldl (withS x) (o, false) = (o ++ l, false)
  | [], o, _ => by simp
  | y :: l, o, h => by
    have e : withS x (o, false) y = (o ++ [y], false) := if_neg (fun h' => by rw [h y (by simp)] at h'; simp at h')
    show l.foldl (withS x) (withS x (o, false) y) = _
    rw [e, with_no x l _ (fun z hz => h z (by simp [hz])), List.append_assoc]
    rfl
theorem with_put (x : Nd) : ∀ (l : List Nd) (o : List Nd), l.foldl (withS x) (o, true) = (o ++ l, true)
  | [], o => by simp
  | y :: l, o => by
    have e : withS x (o, true) y = (o ++ [y], true) := if_neg (fun h' => by simp at h')
    show l.foldl (withS x) (withS x (o, true) y) = _
    rw [e, with_put x l, List.append_assoc]
    rfl
theorem withN_is {L : List Nd} {x : Nd} {i : Nat} (h1 : ∀ y ∈ L.take i, Op.bytesLess x.nm.toList y.nm.toList = false) (h2 : ∀ y, L[i]? = some y → Op.bytesLess x.nm.toList y.nm.toList = true) : withN L x = L.take i ++ x :: L.drop i := by
  have e : withP L x = (L.drop i).foldl (withS x) (L.take i, false) := by
    unfold withP
    conv => lhs; rw [← List.take_append_drop i L]
    rw [List.foldl_append, with_no x _ _ h1, List.nil_append]
  unfold withN
  rw [e]
  cases hd : L.drop i with
  | nil => simp
  | cons y r =>
    have hy : L[i]? = some y := by
      have : (L.drop i)[0]? = some y := by rw [hd]; rfl
      rwa [List.getElem?_drop, Nat.add_zero] at this
    have e2 : withS x (L.take i, false) y = (L.take i ++ [x, y], true) := if_pos ⟨rfl, h2 y hy⟩
    have e3 : (y :: r).foldl (withS x) (L.take i, false) = (L.take i ++ x :: y :: r, true) := by
      show r.foldl (withS x) (withS x (L.take i, false) y) = _
      rw [e2, with_put, List.append_assoc]
      rfl
    rw [e3]
    simp
def n01 (b : Bool) : Nat := match b with | true => 0 | false => 1
theorem withP_len (x : Nd) : ∀ (l : List Nd) (st : List Nd × Bool), (l.foldl (withS x) st).1.length + n01 (l.foldl (withS x) st).2 = st.1.length + l.length + n01 st.2
  | [], st => by simp
  | y :: l, st => by
    have ih := withP_len x l (withS x st y)
    have e : (withS x st y).1.length + n01 (withS x st y).2 = st.1.length + 1 + n01 st.2 := by
      obtain ⟨o, b⟩ := st
      unfold withS
      split
      · rename_i h; dsimp only at h ⊢; rw [h.1]; simp [n01]
      · simp only [List.length_append, List.length_cons, List.length_nil]
    rw [List.foldl_cons]
    simp only [List.length_cons]
    omega
end Go.Proofs.Ytcljeedmiobepaa.Rng
/-
  The ring: the comparison of places, at whatever names, and what it leaves.
-/
namespace Go.Proofs.Ytcljeedmiobepaa.Rng
open Go.RowKit Go.Gh Go.Proofs.Ytcljeedmiobepaa.Nod
set_option linter.unusedVariables false
set_option maxHeartbeats 4000000 in
set_option maxRecDepth 100000 in
theorem placescmp_exact (a b : Pl) (w : World) : Calls Try.prog 171 #[.agg #[.int .u64 a.t, .string a.nm], .agg #[.int .u64 b.t, .string b.nm]] w fun e w' => e = .returned (.int .i64 (cfP a b)) ∧ ∃ q os', w' = Sort.grow (w.drewN q) os' := by
  obtain ⟨x, s⟩ := a
  obtain ⟨y, t⟩ := b
  unfold cfP
  dsimp only
  obtain ⟨C1, hC1⟩ : ∃ C, cmpI x y = C := ⟨_, rfl⟩
  obtain ⟨C2, hC2⟩ : ∃ C, cmpB s t = C := ⟨_, rfl⟩
  rw [hC1, hC2]
  have HC1 := Lib.hid hC1
  have HC2 := Lib.hid hC2
  obtain ⟨R, hR⟩ : ∃ R, or2 C1 C2 = R := ⟨_, rfl⟩
  rw [hR]
  have HR := Lib.hid hR
  clear hC1 hC2 hR
  go_enter Try.func171, Try.ntmps171
  go_upto_region 1 with (fail)
  obtain ⟨wA, hwA⟩ : ∃ wA, wA = (w.alloc (Obj.cells #[.int .u64 x, .string s] 186)).alloc (Obj.cells #[.int .u64 y, .string t] 186) := ⟨_, rfl⟩
  have hb1 : wA.heap[w.heap.size]? = some (.cells #[.int .u64 x, .string s] 186 (0, 0)) := by rw [hwA]; exact two_first w _ _
  have hb2 : wA.heap[w.heap.size + 1]? = some (.cells #[.int .u64 y, .string t] 186 (0, 0)) := by rw [hwA]; exact two_second w _ _
  rw [← hwA]
  have a0 := (row_cell 0 _ hb1 rfl).1
  have a1 := (row_cell 1 _ hb1 rfl).1
  have b0 := (row_cell 0 _ hb2 rfl).1
  have b1 := (row_cell 1 _ hb2 rfl).1
  have HWA : Hid (wA = Sort.grow w #[Obj.cells #[.int .u64 x, .string s] 186, Obj.cells #[.int .u64 y, .string t] 186]) := Lib.hid (by rw [hwA]; simp only [Sort.alloc_eq_grow, Sort.grow_grow]; rfl)
  clear hwA hb1 hb2
  generalize hbx : w.heap.size = bx at *
  clear hbx
  go_region_held3 (fun w' => w'.cell? ⟨bx, 0, none⟩ = some (.int .u64 x) ∧ w'.cell? ⟨bx, 1, none⟩ = some (.string s) ∧ w'.cell? ⟨bx + 1, 0, none⟩ = some (.int .u64 y) ∧ w'.cell? ⟨bx + 1, 1, none⟩ = some (.string t)) (first | (with_reducible exact ⟨a0, a1, b0, b1⟩) | go_keep) (first
    | (go_at_call 159; refine (cmp_u64 _ _ _).mono ?_; rw [HC1.out]; rintro e w2 ⟨rfl, rfl⟩)
    | (go_at_call 166; refine (cmpB_any _ _ _).mono ?_; rw [HC2.out]; rintro e w2 ⟨rfl, rfl⟩)
    | (go_at_call 103; refine (or2_any _ C1 C2 _ (by exact cell_new wA _ [_, _] 0 _ rfl) (by exact cell_new wA _ [_, _] 1 _ rfl)).mono ?_; rw [HR.out]; rintro e w2 ⟨rfl, rfl⟩))
  all_goals
    go_wp2_with fail
    go_ret
    refine ⟨rfl, 1, #[Obj.cells #[.int .u64 x, .string s] 186, Obj.cells #[.int .u64 y, .string t] 186, Obj.cells #[.int .i64 C1, .int .i64 C2] 3], ?_⟩
    rw [HWA.out]
    simp only [Sort.alloc_eq_grow, Sort.drew_grow, Sort.grow_grow]
    rfl
end Go.Proofs.Ytcljeedmiobepaa.Rng
/-
  The ring: rows of places.
-/
namespace Go.Proofs.Ytcljeedmiobepaa.Rng
open Go.RowKit Go.Gh Go.Proofs.Ytcljeedmiobepaa.Nod
set_option linter.unusedVariables false
/-- A place's two cells. -/
def encP (x : Pl) : List Value := [.int .u64 x.t, .string x.nm]
instance : Inhabited Pl := ⟨⟨0, ByteArray.empty⟩⟩
def encL (l : List Pl) : List Value := l.flatMap encP
theorem encL_len (l : List Pl) : (encL l).length = l.length * 2 := by
  unfold encL
  induction l with
  | nil => rfl
  | cons x l ih => rw [List.flatMap_cons, List.length_append, ih, List.length_cons]; show 2 + _ = _; omega
theorem encL_get : ∀ (l : List Pl) (i j : Nat) (x : Pl), l[i]? = some x → j < 2 → (encL l)[i * 2 + j]? = (encP x)[j]?
  | [], i, j, x, h, _ => by simp at h
  | y :: l, 0, j, x, h, hj => by
    simp at h
    subst h
    unfold encL
    rw [List.flatMap_cons, Nat.zero_mul, Nat.zero_add, List.getElem?_append_left (by show j < 2; exact hj)]
  | y :: l, i + 1, j, x, h, hj => by
    have ih := encL_get l i j x (by simpa using h) hj
    unfold encL at *
    rw [List.flatMap_cons, List.getElem?_append_right (by show 2 ≤ _; omega)]
    have e : (i + 1) * 2 + j - (encP y).length = i * 2 + j := by show (i + 1) * 2 + j - 2 = _; omega
    rw [e, ih]
theorem flat_encL (l : List Pl) : (Sort.flatK encP 2 l.toArray).toList = encL l := by
  apply List.ext_getElem?
  intro t
  by_cases ht : t < l.length * 2
  · have hs : t < (Sort.flatK encP 2 l.toArray).size := by simpa using ht
    have h1 : t / 2 < l.length := by omega
    obtain ⟨x, hx⟩ : ∃ x, l[t / 2]? = some x := ⟨_, List.getElem?_eq_getElem h1⟩
    have h2 := encL_get l (t / 2) (t % 2) x hx (Nat.mod_lt _ (by decide))
    rw [show t / 2 * 2 + t % 2 = t by omega] at h2
    rw [h2, Array.getElem?_toList, Array.getElem?_eq_getElem hs, ← getElem!_pos _ t hs, Sort.get_flatK _ _ _ _ (by simpa using ht)]
    have h3 : l.toArray[t / 2]! = x := by
      rw [getElem!_pos l.toArray (t / 2) (by simpa using h1)]
      have := (List.getElem?_eq_some_iff.1 hx).2
      simpa using this
    rw [h3]
    have h4 : t % 2 < (encP x).length := Nat.mod_lt _ (by decide)
    rw [getElem!_pos (encP x) _ h4, List.getElem?_eq_getElem h4]
  · rw [List.getElem?_eq_none (by rw [Array.length_toList, Sort.size_flatK]; simp; omega), List.getElem?_eq_none (by rw [encL_len]; omega)]
section
variable {w : World} {g n : Nat} {os : Array Obj} {cur : Array Value} {e : TypeId} {fr : Nat × Nat}
theorem holds_of_blockV {F : Array Value} (hb : w.heap[g]? = some (.cells cur e (0, 0))) (ht : cur.toList.take F.size = F.toList) : Sort.Holds id w g 0 F := by
  intro j hj
  refine ⟨?_, by simp [World.frozen?, hb]⟩
  have h1 : (cur.toList.take F.size)[j]? = F.toList[j]? := by rw [ht]
  rw [List.getElem?_take_of_lt hj] at h1
  simp only [World.cell?, hb, Nat.zero_add]
  simp only [Option.isSome_none, Bool.false_eq_true, if_false]
  rw [← Array.getElem?_toList, h1, Array.getElem?_toList, Array.getElem?_eq_getElem hj, ← getElem!_pos F j hj]
  rfl
theorem heap_sortedV (d : Array Value) (hb : w.heap[g]? = some (.cells cur e fr)) :
    (Sort.grow (Sort.putRow id (Sort.ahead w n) g 0 d) os).heap[g]? = some (.cells (Sort.putCells id 0 d cur) e fr) := by
  have hg : g < w.heap.size := (Array.getElem?_eq_some_iff.1 hb).1
  rw [Sort.heap_grow_old _ _ (by simpa using hg)]
  simp [Sort.putRow, Sort.mapBlock, Sort.ahead, Array.getElem?_modify, hb, Sort.onCells]
theorem grownBy_sortedV (d : Array Value) : w.grownBy (Sort.grow (Sort.putRow id (Sort.ahead w n) g 0 d) os) (some g) := by
  refine ⟨rfl, rfl, rfl, by simp, fun k hk hne => ?_⟩
  rw [Sort.heap_grow_old _ _ (by simpa using hk)]
  have : g ≠ k := fun e => hne (by rw [e])
  simp [Sort.putRow, Sort.mapBlock, Sort.ahead, Array.getElem?_modify, this]
theorem take_putCellsV (cur F : Array Value) (h : F.size ≤ cur.size) : (Sort.putCells id 0 F cur).toList.take F.size = F.toList := by
  apply List.ext_getElem?
  intro j
  by_cases hj : j < F.size
  · rw [List.getElem?_take_of_lt hj, Array.getElem?_toList]
    simp [Sort.putCells, hj, show j < cur.size by omega]
  · rw [List.getElem?_take_eq_none (by omega), List.getElem?_eq_none (by simp; omega)]
end
theorem infoPl : (Try.prog.info? 186).map (fun i => (i.zero, i.size, i.bytes)) = some (some (.agg #[.int .u64 0, .string ⟨#[]⟩]), 2, 24) := by kernel_rfl
theorem elPl : Elem Try.prog 182 186 2 24 := elem_of Try.underlying182 infoPl rfl (by decide)
theorem encP_one (x : Pl) : ∀ v ∈ encP x, v.oneCell' = true := by intro v hv; simp [encP] at hv; rcases hv with rfl | rfl <;> rfl
end Go.Proofs.Ytcljeedmiobepaa.Rng
/-
  Contracts of the library at this program, laid by the kit's own tool (in plain words).
-/
namespace Go.Proofs
open Go.Shelf
def Ytcljeedmiobepaa.laysSortPl_ren : Go.Shelf.Ren := ⟨fun | 6 => 170 | 15 => 141 | 14 => 212 | 28 => 192 | 29 => 193 | 20 => 225 | 21 => 226 | 22 => 227 | 23 => 228 | 24 => 229 | 25 => 230 | 26 => 231 | 27 => 232 | 46 => 246 | 47 => 216 | 48 => 217 | 49 => 247 | 50 => 248 | 57 => 252 | n => n, fun | 22 => 182 | 24 => 186 | 25 => 229 | 3 => 3 | 39 => 205 | 0 => 0 | 53 => 250 | 55 => 99 | 4 => 4 | 46 => 243 | 45 => 242 | 50 => 169 | 5 => 5 | 9 => 9 | 66 => 264 | 70 => 268 | 76 => 285 | 77 => 286 | n => n, fun | n => n⟩
theorem Ytcljeedmiobepaa.laysSortPl : Go.Proofs.SlLaysF0.n6 Try.prog Ytcljeedmiobepaa.laysSortPl_ren := {
  mixed := by kernel_rfl
  f6 := ⟨Try.f170.name, by decide, Try.func170.trans (congrArg some (by kernel_rfl))⟩
  f14 := ⟨Try.f212.name, by decide, Try.func212.trans (congrArg some (by kernel_rfl))⟩
  f15 := Try.func141.trans (congrArg some (by kernel_rfl))
  f20 := ⟨Try.f225.name, by decide, Try.func225.trans (congrArg some (by kernel_rfl))⟩
  f21 := ⟨Try.f226.name, by decide, Try.func226.trans (congrArg some (by kernel_rfl))⟩
  f22 := ⟨Try.f227.name, by decide, Try.func227.trans (congrArg some (by kernel_rfl))⟩
  f23 := ⟨Try.f228.name, by decide, Try.func228.trans (congrArg some (by kernel_rfl))⟩
  f24 := ⟨Try.f229.name, by decide, Try.func229.trans (congrArg some (by kernel_rfl))⟩
  f25 := ⟨Try.f230.name, by decide, Try.func230.trans (congrArg some (by kernel_rfl))⟩
  f26 := ⟨Try.f231.name, by decide, Try.func231.trans (congrArg some (by kernel_rfl))⟩
  f27 := ⟨Try.f232.name, by decide, Try.func232.trans (congrArg some (by kernel_rfl))⟩
  f28 := Try.func192.trans (congrArg some (by kernel_rfl))
  f29 := Try.func193.trans (congrArg some (by kernel_rfl))
  f46 := ⟨Try.f246.name, by decide, Try.func246.trans (congrArg some (by kernel_rfl))⟩
  f47 := Try.func216.trans (congrArg some (by kernel_rfl))
  f48 := Try.func217.trans (congrArg some (by kernel_rfl))
  f49 := ⟨Try.f247.name, by decide, Try.func247.trans (congrArg some (by kernel_rfl))⟩
  f50 := ⟨Try.f248.name, by decide, Try.func248.trans (congrArg some (by kernel_rfl))⟩
  f57 := ⟨Try.f252.name, by decide, Try.func252.trans (congrArg some (by kernel_rfl))⟩
  t0 := Try.underlying0
  a0 := Try.isAgg0
  z0 := Try.sizeOf0
  v0 := Try.zeroValue0
  t3 := Try.underlying3
  a3 := Try.isAgg3
  z3 := Try.sizeOf3
  v3 := Try.zeroValue3
  t4 := Try.underlying4
  a4 := Try.isAgg4
  z4 := Try.sizeOf4
  v4 := Try.zeroValue4
  t5 := Try.underlying5
  a5 := Try.isAgg5
  z5 := Try.sizeOf5
  v5 := Try.zeroValue5
  t9 := Try.underlying9
  a9 := Try.isAgg9
  z9 := Try.sizeOf9
  v9 := Try.zeroValue9
  t22 := Try.underlying182
  a22 := Try.isAgg182
  z22 := Try.sizeOf182
  v22 := Try.zeroValue182
  t25 := Try.underlying229
  a25 := Try.isAgg229
  z25 := Try.sizeOf229
  v25 := Try.zeroValue229
  t39 := Try.underlying205
  a39 := Try.isAgg205
  z39 := Try.sizeOf205
  v39 := Try.zeroValue205
  t45 := Try.underlying242
  a45 := Try.isAgg242
  z45 := Try.sizeOf242
  v45 := Try.zeroValue242
  t46 := Try.underlying243
  a46 := Try.isAgg243
  z46 := Try.sizeOf243
  v46 := Try.zeroValue243
  t50 := Try.underlying169
  a50 := Try.isAgg169
  z50 := Try.sizeOf169
  v50 := Try.zeroValue169
  t53 := Try.underlying250
  a53 := Try.isAgg250
  z53 := Try.sizeOf250
  v53 := Try.zeroValue250
  t55 := Try.underlying99
  a55 := Try.isAgg99
  z55 := Try.sizeOf99
  v55 := Try.zeroValue99
  t66 := Try.underlying264
  a66 := Try.isAgg264
  z66 := Try.sizeOf264
  v66 := Try.zeroValue264
  t70 := Try.underlying268
  a70 := Try.isAgg268
  z70 := Try.sizeOf268
  v70 := Try.zeroValue268
  t76 := Try.underlying285
  a76 := Try.isAgg285
  z76 := Try.sizeOf285
  v76 := Try.zeroValue285
  t77 := Try.underlying286
  a77 := Try.isAgg286
  z77 := Try.sizeOf286
  v77 := Try.zeroValue286 }
end Go.Proofs
/-
  The ring: slices.SortFunc of places, of a row of the call's own.
-/
namespace Go.Proofs.Ytcljeedmiobepaa.Rng
open Go.RowKit Go.Gh Go.Proofs.Ytcljeedmiobepaa.Nod
set_option linter.unusedVariables false
theorem sort_places (v : Value) (B : Nat) (l : List Pl) (w : World) (h : w.ownsRow B 186 2 v l.length (encL l)) (hn : l.length < 1000000) :
    Calls Try.prog 170 #[v, .func (.func 171) #[] #[]] w fun e w' => e = .returned (.tuple #[]) ∧ w'.ownsRow B 186 2 v l.length (encL (srt l)) ∧ w.grownBy w' v.ownBlock := by
  have eg : ∀ args w, (callFunc 171 args).run Try.prog w = .ok (.enter 171 args) w := enters_of Try.func171 (by kernel_rfl) rfl
  have h0 := h
  rcases h.2 with ⟨rfl, hn0⟩ | ⟨g, cap, cur, rfl, hb, hg, hn1, hm, hs, ht⟩
  · have hl : l = [] := List.length_eq_zero_iff.1 hn0
    subst hl
    have hcon := AnyF.slices_SortFunc_none Ytcljeedmiobepaa.laysSortPl none 0 (.func (.func 171) #[] #[]) w
    change Calls Try.prog 170 _ _ _ at hcon
    refine hcon.mono ?_
    rintro e w' ⟨rfl, rfl⟩
    exact ⟨rfl, by have e : srt [] = [] := by simp [srt]
                   rw [e]; exact h0, ⟨rfl, rfl, rfl, Nat.le_refl _, fun k _ _ => rfl⟩⟩
  · have hH : Sort.HoldsK encP 2 w g 0 l.toArray := holds_of_blockV hg (by rw [flat_encL, Sort.size_flatK]; simpa using ht)
    have hcmp : CmpLays Try.prog 171 #[] encP 2 cfP g 0 l.toArray.size w := fun _ _ _ _ x y => placescmp_exact x y _
    have hcon := AnyQ.slices_SortFunc_total Ytcljeedmiobepaa.laysSortPl 2 Try.isAgg186 Try.sizeOf186 encP (fun _ => rfl) encP_one cfP swoP 171 #[] g 0 cap l.toArray w eg hcmp hH (Array.getElem?_eq_some_iff.1 hg).1 (by simp; omega) totP
    change Calls Try.prog 170 _ _ _ at hcon
    simp only [List.size_toArray] at hcon
    refine hcon.mono ?_
    rintro e w' ⟨rfl, q, os, rfl⟩
    have hsz : (Sort.flatK encP 2 (srt l).toArray).size = l.length * 2 := by rw [Sort.size_flatK]; simp [srt]
    refine ⟨rfl, ⟨by rw [encL_len]; simp [srt], Or.inr ⟨g, cap, _, rfl, hb, heap_sortedV (Sort.flatK encP 2 (srt l).toArray) hg, hn1, hm, by simp [Sort.putCells, hs], ?_⟩⟩, grownBy_sortedV _⟩
    rw [← flat_encL, ← hsz]
    exact take_putCellsV cur _ (by rw [hsz, hs]; exact Nat.mul_le_mul_right _ hn1)
end Go.Proofs.Ytcljeedmiobepaa.Rng
/-
  The ring: the walk of places.
-/
namespace Go.Proofs.Ytcljeedmiobepaa.Rng
open Go.RowKit Go.Gh Go.Proofs.Ytcljeedmiobepaa.Nod
set_option linter.unusedVariables false
theorem encL_app (a b : List Pl) : encL (a ++ b) = encL a ++ encL b := by unfold encL; rw [List.flatMap_append]
theorem pls_take {L : List Nd} {k : Nat} {x : Nd} (h : L[k]? = some x) : pls (L.take (k + 1)) = pls (L.take k) ++ plN x := by
  obtain ⟨h1, h2⟩ := List.getElem?_eq_some_iff.1 h
  unfold pls
  rw [List.take_succ_eq_append_getElem h1, h2, List.flatMap_append]
  simp
theorem plN_len (x : Nd) : (plN x).length = x.tk.length := by unfold plN; rw [List.length_map]
theorem plN_take {x : Nd} {j : Nat} {z : Int} (h : x.tk[j]? = some z) : (plN x).take (j + 1) = (plN x).take j ++ [⟨z, x.nm⟩] := by
  obtain ⟨h1, h2⟩ := List.getElem?_eq_some_iff.1 h
  unfold plN
  rw [List.take_succ_eq_append_getElem (by rw [List.length_map]; exact h1), List.getElem_map, h2]
theorem pls_len_take {L : List Nd} (h : ∀ x ∈ L, x.tk.length ≤ 20) (k : Nat) : (pls (L.take k)).length ≤ k * 20 := by
  have h1 := pls_len (L := L.take k) (fun x hx => h x (List.mem_of_mem_take hx))
  have h2 : (L.take k).length ≤ k := by rw [List.length_take]; exact Nat.min_le_left _ _
  omega
set_option maxHeartbeats 8000000 in
set_option maxRecDepth 100000 in
theorem places_any (v : Value) (L : List Nd) (w : World) (hs : Sp NdR 2 w v L) (hl20 : L.length ≤ 20) (htk : ∀ x ∈ L, x.tk.length ≤ 20) : Calls Try.prog 123 #[v] w fun e w' =>
    ∃ v', e = .returned v' ∧ w'.ownsRow w.heap.size 186 2 v' (pls L).length (encL (srt (pls L))) ∧ Below w.heap.size w w' := by
  obtain ⟨n, hn⟩ : ∃ n, L.length = n := ⟨_, rfl⟩
  obtain ⟨ao, c, rfl, hnc, hc⟩ := hs.shapeN hn
  rw [hn] at hl20
  have HN := Lib.hid hn
  have HS := Lib.hid hs
  have HTK := Lib.hid htk
  have HLT : Hid (∀ k, (pls (L.take k)).length ≤ k * 20) := Lib.hid (pls_len_take htk)
  clear hn hs htk
  go_enter Try.func123, Try.ntmps123
  go_wp2_with fail
  go_loopw [3, 10] (fun u i wr => ∃ (k p : Nat), k ≤ n ∧ i = .int .i64 k ∧ Hid ((pls (L.take k)).length = p) ∧ Hid (wr.ownsRow w.heap.size 186 2 u p (encL (pls (L.take k)))) ∧ Below w.heap.size w wr) (fun _ i _ => n - (intOf i).toNat)
  case atStart => exact ⟨0, 0, Nat.zero_le _, rfl, Lib.hid rfl, Lib.hid (World.ownsRow_nil _ _ _ _), Below.refl _ _⟩
  case round =>
    obtain ⟨k, p, hk, rfl, HP, HO, hbel⟩ := hrel
    have hsz := hbel.size
    by_cases hlt : k < n
    case neg =>
      obtain rfl : k = n := by omega
      have hLk : L.take k = L := List.take_of_length_le (by rw [HN.out]; exact Nat.le_refl _)
      rw [hLk] at HP HO
      have HO2 : Hid (wr.ownsRow w.heap.size 186 2 u3 (pls L).length (encL (pls L))) := Lib.hid (by rw [HP.out]; exact HO.out)
      have HPL : Hid ((pls L).length < 1000000) := Lib.hid (by have := HLT.out k; rw [hLk] at this; omega)
      have HBL := Lib.hid hbel
      clear hbel
      go_wp2_with fail
      refine (sort_places _ w.heap.size _ _ HO2.out HPL.out).mono ?_
      rintro e w2 ⟨rfl, hown, hgr⟩
      have HO3 := Lib.hid hown
      have HB3 : Hid (Below w.heap.size w w2) := Lib.hid (HBL.out.trans (below_of_grown hgr HBL.out.size (fun k hk => (HO2.out.lt k hk).1)))
      clear hown hgr
      go_wp2_with fail
      go_ret
      exact ⟨_, rfl, HO3.out, HB3.out⟩
    obtain ⟨x, hx⟩ : ∃ x, L[k]? = some x := ⟨_, List.getElem?_eq_getElem (by rw [HN.out]; exact hlt)⟩
    obtain ⟨b, off, cs, rfl, ⟨t, rfl, htx⟩, _, hck⟩ := (HS.out.below ndR_mono hbel).get hx
    have HX := Lib.hid hx
    have HX20 : Hid (x.tk.length ≤ 20) := Lib.hid (HTK.out x (List.mem_of_getElem? hx))
    have c0 := hck 0 _ rfl
    have c1 := hck 1 _ rfl
    rw [Nat.add_zero] at c0
    obtain ⟨ta, tc, rfl, htc, htm, -⟩ := htx.1.shape
    have HTX := Lib.hid htx
    obtain ⟨m, hm⟩ : ∃ m, x.tk.length = m := ⟨_, rfl⟩
    rw [hm] at HTX htc c1
    have HM := Lib.hid hm
    clear hck hx htx hm
    go_upto_region 5 with (fail)
    obtain ⟨wA, hwA⟩ : ∃ wA, wA = wr.alloc (Obj.cells #[.string x.nm, .slice ta m tc] 25) := ⟨_, rfl⟩
    have hbox : wA.heap[wr.heap.size]? = some (.cells #[.string x.nm, .slice ta m tc] 25 (0, 0)) := by rw [hwA]; exact heap_alloc_new wr _
    have hbA : Below wr.heap.size wr wA := by rw [hwA]; exact (Below.refl _ _).alloc (Nat.le_refl _) _
    rw [← hwA]
    have HBA : Hid (Below w.heap.size w wA) := Lib.hid (hbel.trans (hbA.mono hsz))
    have HOA : Hid (wA.ownsRow w.heap.size 186 2 u3 p (encL (pls (L.take k)))) := Lib.hid (own_below HO.out hbA)
    have HTA : Hid (Toks wA (.slice ta m tc) x.tk) := Lib.hid (HTX.out.below hbA)
    have HBX := Lib.hid hbox
    have hbl : w.heap.size ≤ wr.heap.size := hsz
    have HBB : Hid (Below w.heap.size w wr) := Lib.hid hbel
    have HTW : Hid (∀ w4 : World, Below w.heap.size w w4 → Toks w4 (.slice ta m tc) x.tk) := Lib.hid (fun w4 h4 => by
      obtain ⟨b0, off0, cs0, e0, ⟨t0, rfl, htx0⟩, _, hck0⟩ := HS.out.get HX.out
      have htt : t0 = .slice ta m tc := by
        have h1 := hck0 1 _ rfl
        injection e0 with e0
        have h2 := (hbel.cell (p := ⟨b0, off0 + k * 2 + 1, none⟩) (cell_lt h1)).trans h1
        injection e0 with e1 e2
        rw [e1, e2] at c1
        rw [c1] at h2
        exact (Option.some.inj h2).symm
      rw [← htt]
      exact htx0.below h4)
    obtain ⟨⟨y0, y1⟩, -⟩ := bx2 hbox
    generalize wr.heap.size = bx at *
    clear hwA hbox hbA c0 c1 hbel
    go_wp2_with fail
    go_loopw [3, 17] (fun u i wr => ∃ (j q : Nat), j ≤ m ∧ q = p + j ∧ i = .int .i64 j ∧ Hid (wr.ownsRow w.heap.size 186 2 u q (encL (pls (L.take k) ++ (plN x).take j))) ∧ Hid (wr.heap[bx]? = some (.cells #[.string x.nm, .slice ta m tc] 25 (0, 0))) ∧ Below w.heap.size w wr) (fun _ i _ => m - (intOf i).toNat)
    case atStart => exact ⟨0, p, Nat.zero_le _, rfl, rfl, Lib.hid (by rw [List.take_zero, List.append_nil]; exact HOA.out), HBX, HBA.out⟩
    case round =>
      obtain ⟨j, q, hj, rfl, rfl, HQ, HBJ, hbej⟩ := hrel
      obtain ⟨⟨x0, x1⟩, -⟩ := bx2 HBJ.out
      by_cases hlj : j < m
      case neg =>
        obtain rfl : j = m := by omega
        have hfull : (plN x).take j = plN x := List.take_of_length_le (by rw [plN_len, HM.out]; exact Nat.le_refl _)
        have HQ2 : Hid (wr.ownsRow w.heap.size 186 2 u3 (p + j) (encL (pls (L.take (k + 1))))) := Lib.hid (by rw [pls_take HX.out, ← hfull]; exact HQ.out)
        have HL2 : Hid ((pls (L.take (k + 1))).length = p + j) := Lib.hid (by rw [pls_take HX.out, List.length_append, HP.out, plN_len, HM.out])
        clear hfull
        go_wp2_with fail
        go_roundw
        case rel => exact ⟨k + 1, p + j, by omega, by go_num, HL2, HQ2, hbej⟩
        case measure => simp [intOf]; omega
      have hz : x.tk[j]? = some (x.tk.getD j 0) := by
        have h1 : j < x.tk.length := by rw [HM.out]; exact hlj
        rw [List.getElem?_eq_getElem h1, List.getD_eq_getElem?_getD, List.getElem?_eq_getElem h1]
        rfl
      obtain ⟨tb, toff, rfl, z0⟩ := (HTW.out wr hbej).at (i := j) (by rw [HM.out]; exact hlj)
      obtain ⟨z, hzz⟩ : ∃ z, x.tk.getD j 0 = z := ⟨_, rfl⟩
      rw [hzz] at hz z0
      have HTJ : Hid ((plN x).take (j + 1) = (plN x).take j ++ [⟨z, x.nm⟩]) := Lib.hid (plN_take hz)
      have hpm : p ≤ 400 := by have := HLT.out k; rw [HP.out] at this; omega
      have hm20 : m ≤ 20 := by have := HX20.out; rw [HM.out] at this; exact this
      have HBE := Lib.hid hbej
      obtain ⟨uo, uc, rfl, hu1, hu2, -⟩ := own_shape HQ.out
      have HNE : Hid (Value.ownBlock (.slice uo (p + j) uc) ≠ some bx) := Lib.hid (own_block_ne HQ.out HBJ.out (by decide))
      clear hz hzz hbej
      go_wp2_with (at_builtin; refine append1 [.int .u64 z, .string x.nm] elPl rfl _ _ rfl HQ.out HBE.out HBE.out.size rfl rfl rfl (by intro x hx; simp at hx; rcases hx with rfl | rfl <;> rfl) ?c4 ?c5 ?_)
      case c4 => omega
      case c5 => omega
      intro v5 w5 hown5 hbel5 hgr5
      have HQ5 : Hid (w5.ownsRow w.heap.size 186 2 v5 (p + j + 1) (encL (pls (L.take k) ++ (plN x).take (j + 1)))) := Lib.hid (by
        rw [HTJ.out, ← List.append_assoc, encL_app]
        exact hown5)
      have HBJ5 : Hid (w5.heap[bx]? = some (.cells #[.string x.nm, .slice (some ⟨tb, toff, none⟩) m tc] 25 (0, 0))) := Lib.hid (grown_block2 hgr5 HNE.out HBJ.out)
      have HB5 := Lib.hid hbel5
      obtain ⟨vo, vc, rfl, -, -, -⟩ := own_shape hown5
      clear hown5 hgr5 hbel5
      go_wp2_with fail
      go_roundw
      case rel => exact ⟨j + 1, p + j + 1, by omega, by omega, by go_num, HQ5, HBJ5, HB5.out⟩
      case measure => simp [intOf]; omega
end Go.Proofs.Ytcljeedmiobepaa.Rng
/-
  The ring: the literals of Owners and of Share.
-/
namespace Go.Proofs.Ytcljeedmiobepaa.Rng
open Go.RowKit Go.Gh Go.Proofs.Ytcljeedmiobepaa.Nod
set_option linter.unusedVariables false
theorem ownlit_any (a : Pl) (at' : Int) (w : World) : Calls Try.prog 125 #[.agg #[.int .u64 a.t, .string a.nm], .int .u64 at'] w fun e w' => e = .returned (.int .i64 (if a.t < at' then -1 else 1)) ∧ Below w.heap.size w w' := by
  obtain ⟨x, s⟩ := a
  dsimp only
  have hb := (Below.refl w.heap.size w).alloc (Nat.le_refl _) (Obj.cells #[.int .u64 x, .string s] 186)
  by_cases h : x < at'
  · rw [if_pos h]
    go_enter Try.func125, Try.ntmps125
    go_wp2_with fail
    go_ret
    exact ⟨rfl, hb⟩
  · rw [if_neg h]
    go_enter Try.func125, Try.ntmps125
    go_wp2_with fail
    go_ret
    exact ⟨rfl, hb⟩
theorem sharelit_any (a b : Pl) (w : World) : Calls Try.prog 129 #[.agg #[.int .u64 a.t, .string a.nm], .agg #[.int .u64 b.t, .string b.nm]] w fun e w' => e = .returned (.bool (a.t == b.t)) ∧ Below w.heap.size w w' := by
  obtain ⟨x, s⟩ := a
  obtain ⟨y, t⟩ := b
  dsimp only
  have hb := ((Below.refl w.heap.size w).alloc (Nat.le_refl _) (Obj.cells #[.int .u64 x, .string s] 186)).alloc (by simp) (Obj.cells #[.int .u64 y, .string t] 186)
  have hb1 := two_first w (.cells #[.int .u64 x, .string s] 186) (.cells #[.int .u64 y, .string t] 186)
  have a0 := (row_cell 0 _ hb1 rfl).1
  go_enter Try.func129, Try.ntmps129
  go_wp2_with fail
  go_ret
  exact ⟨rfl, hb⟩
end Go.Proofs.Ytcljeedmiobepaa.Rng
