/-
  Slices of whatever elements: how they read; rows of the call's own; arguments opened.
-/
import Derived.Test.YtlfhcjhbnakamaaLg8
import Derived.Laws.IdiomCopy
import Derived.Lib.AppendZerosOnto
import Derived.Lib.Overlaps
import Derived.Deep.RegionLaw
namespace Go.Gh
open Go.RowKit Go.ChangeShapes Go.WideShapes Go.ChangeAt Go.Deep
set_option linter.unusedVariables false
section
variable {α : Type}
/-- The cells of elements, each with its cells. -/
def pc (P : List (α × List Value)) : List Value := P.flatMap (·.2)
def PK (k : Nat) (P : List (α × List Value)) : Prop := ∀ p ∈ P, p.2.length = k
theorem pc_nil : pc ([] : List (α × List Value)) = [] := rfl
theorem pc_cons (p : α × List Value) (P : List (α × List Value)) : pc (p :: P) = p.2 ++ pc P := rfl
theorem pc_append (P Q : List (α × List Value)) : pc (P ++ Q) = pc P ++ pc Q := List.flatMap_append
theorem pc_snoc (P : List (α × List Value)) (a : α) (c : List Value) : pc P ++ c = pc (P ++ [(a, c)]) := by
  rw [pc_append, pc_cons, pc_nil, List.append_nil]
variable {k : Nat} {P : List (α × List Value)}
theorem PK.nil : PK k ([] : List (α × List Value)) := fun p hp => by simp at hp
theorem PK.snoc (h : PK k P) {a : α} {c : List Value} (hc : c.length = k) : PK k (P ++ [(a, c)]) := by
  intro p hp
  rcases List.mem_append.1 hp with h' | h'
  · exact h p h'
  · have : p = (a, c) := by simpa using h'
    rw [this]; exact hc
theorem PK.drop (h : PK k P) (i : Nat) : PK k (P.drop i) := fun p hp => h p (List.mem_of_mem_drop hp)
theorem PK.take (h : PK k P) (i : Nat) : PK k (P.take i) := fun p hp => h p (List.mem_of_mem_take hp)
theorem pc_len : ∀ {P : List (α × List Value)}, PK k P → (pc P).length = P.length * k
  | [], _ => by simp [pc]
  | p :: P, h => by
    rw [pc_cons, List.length_append, h p (by simp), pc_len (P := P) (fun q hq => h q (by simp [hq])), List.length_cons, Nat.succ_mul, Nat.add_comm]
theorem pc_get : ∀ {P : List (α × List Value)} {i j : Nat} {p : α × List Value}, PK k P → P[i]? = some p → j < k → (pc P)[i * k + j]? = p.2[j]?
  | [], i, j, p, _, h, _ => by simp at h
  | q :: P, 0, j, p, h, hi, hj => by
    have : q = p := by simpa using hi
    subst this
    rw [pc_cons, Nat.zero_mul, Nat.zero_add, List.getElem?_append_left (by rw [h q (by simp)]; exact hj)]
  | q :: P, i + 1, j, p, h, hi, hj => by
    have hq := h q (by simp)
    rw [pc_cons, Nat.succ_mul, List.getElem?_append_right (by rw [hq]; omega), hq, show i * k + k + j - k = i * k + j from by omega]
    exact pc_get (fun r hr => h r (by simp [hr])) (by simpa using hi) hj
theorem pc_drop (h : PK k P) (i : Nat) (hi : i ≤ P.length) : (pc P).drop (i * k) = pc (P.drop i) := by
  conv => lhs; rw [← List.take_append_drop i P]
  have hl : (pc (P.take i)).length = i * k := by rw [pc_len (h.take i), List.length_take, Nat.min_eq_left hi]
  rw [pc_append, List.drop_append_of_le_length (by omega), List.drop_of_length_le (by omega), List.nil_append]
theorem pc_take (h : PK k P) (i : Nat) : (pc P).take (i * k) = pc (P.take i) := by
  rcases Nat.lt_or_ge i P.length with hi | hi
  · conv => lhs; rw [← List.take_append_drop i P]
    have hl : (pc (P.take i)).length = i * k := by rw [pc_len (h.take i), List.length_take, Nat.min_eq_left (by omega)]
    rw [pc_append, List.take_append_of_le_length (by omega), List.take_of_length_le (by omega)]
  · rw [List.take_of_length_le hi, List.take_of_length_le]
    rw [pc_len h]
    exact Nat.mul_le_mul_right _ hi
/-- An element is written over. -/
theorem pc_set (h : PK k P) {i : Nat} (hi : i < P.length) {a : α} {c : List Value} (hc : c.length = k) : setFrom (pc P) (i * k) c = pc (P.set i (a, c)) := by
  have e1 : P = P.take i ++ [P[i]] ++ P.drop (i + 1) := by
    rw [List.append_assoc, List.singleton_append, ← List.drop_eq_getElem_cons hi, List.take_append_drop]
  have e2 : P.set i (a, c) = P.take i ++ [(a, c)] ++ P.drop (i + 1) := by
    rw [List.set_eq_take_append_cons_drop, if_pos hi, List.append_assoc, List.singleton_append]
  have hl : (pc (P.take i)).length = i * k := by rw [pc_len (h.take i), List.length_take, Nat.min_eq_left (by omega)]
  rw [e2]
  conv => lhs; rw [e1]
  rw [pc_append, pc_append, pc_append, pc_append, ← hl]
  have := setFrom_mid c (pc [P[i]]) (pc (P.take i)) (pc (P.drop (i + 1))) (by rw [pc_cons, pc_nil, List.append_nil, h P[i] (List.getElem_mem _), hc])
  rw [this, pc_cons, pc_nil, List.append_nil]
theorem pair_at {L : List α} {i : Nat} {a : α} (h : P.map (·.1) = L) (hi : L[i]? = some a) : ∃ cs, P[i]? = some (a, cs) := by
  rw [← h, List.getElem?_map] at hi
  obtain ⟨p, h1, h2⟩ := Option.map_eq_some_iff.1 hi
  exact ⟨p.2, by rw [h1]; simp [← h2]⟩
/-- What is known of an element's cells stays known. -/
def Mono (R : World → α → List Value → Prop) : Prop := ∀ (w w' : World) (a : α) (c : List Value), R w a c → Below w.heap.size w w' → R w' a c
variable {R : World → α → List Value → Prop}
/-- The slice value v reads as the list L. -/
def Sp (R : World → α → List Value → Prop) (k : Nat) (w : World) (v : Value) (L : List α) : Prop :=
  ∃ P : List (α × List Value), P.map (·.1) = L ∧ PK k P ∧ (∀ p ∈ P, R w p.1 p.2) ∧ Sl w k v L.length (pc P)
theorem Sp.below {w w' : World} {v : Value} {L : List α} (hR : Mono R) (h : Sp R k w v L) (hb : Below w.heap.size w w') : Sp R k w' v L := by
  obtain ⟨P, h1, h2, h3, h4⟩ := h
  exact ⟨P, h1, h2, fun p hp => hR _ _ _ _ (h3 p hp) hb, h4.below hb⟩
theorem Sp.nil {w : World} : Sp R k w (.slice none 0 0) ([] : List α) := ⟨[], rfl, PK.nil, fun p hp => by simp at hp, none, 0, rfl, Nat.le_refl _, Nat.zero_le _, fun _ => rfl, by simp [pc], fun h => absurd h (Nat.lt_irrefl _)⟩
theorem Sp.shape {w : World} {v : Value} {L : List α} (h : Sp R k w v L) : ∃ ao c, v = .slice ao L.length c ∧ L.length ≤ c ∧ c ≤ 9223372036854775807 := by
  obtain ⟨P, h1, h2, h3, h4⟩ := h
  obtain ⟨ao, c, e, h5, h6, _⟩ := h4.shape
  exact ⟨ao, c, e, h5, h6⟩
theorem Sp.get {w : World} {ao : Option Addr} {n c i : Nat} {L : List α} {a : α} (h : Sp R k w (.slice ao n c) L) (hi : L[i]? = some a) :
    ∃ b off cs, ao = some ⟨b, off, none⟩ ∧ R w a cs ∧ cs.length = k ∧ ∀ j u, cs[j]? = some u → w.cell? ⟨b, off + i * k + j, none⟩ = some u := by
  obtain ⟨P, h1, h2, h3, ao', cap, e, h4, h5, h6, h7, h8⟩ := h
  simp at e
  obtain ⟨rfl, rfl, rfl⟩ := e
  have hlt : i < L.length := (List.getElem?_eq_some_iff.1 hi).1
  obtain ⟨b, off, rfl, hc⟩ := h8 (by omega)
  obtain ⟨cs, hp⟩ := pair_at h1 hi
  have hm : (a, cs) ∈ P := List.mem_of_getElem? hp
  refine ⟨b, off, cs, rfl, h3 _ hm, h2 _ hm, fun j u hu => ?_⟩
  have hj : j < k := by
    have h9 := (List.getElem?_eq_some_iff.1 hu).1
    have h10 : cs.length = k := h2 _ hm
    omega
  rw [Nat.add_assoc]
  exact hc _ u (by rw [pc_get h2 hp hj]; exact hu)
theorem take_pairs {L : List α} {i : Nat} (h : P.map (·.1) = L) : (P.take i).map (·.1) = L.take i := by rw [List.map_take, h]
theorem drop_pairs {L : List α} {i : Nat} (h : P.map (·.1) = L) : (P.drop i).map (·.1) = L.drop i := by rw [List.map_drop, h]
/-- x[lo:hi]. -/
theorem Sp.cut {w : World} {ao : Option Addr} {n c lo hi : Nat} {L : List α} (h : Sp R k w (.slice ao n c) L) (h1 : lo ≤ hi) (h2 : hi ≤ n) : Sp R k w (sliced ao lo hi c k) ((L.drop lo).take (hi - lo)) := by
  obtain ⟨P, e1, e2, e3, e4⟩ := h
  have hn : n = L.length := by
    obtain ⟨_, _, e, _⟩ := e4
    simp at e
    exact e.2.1
  subst hn
  have hlen : ((L.drop lo).take (hi - lo)).length = hi - lo := by rw [List.length_take, List.length_drop]; omega
  have hPl : P.length = L.length := by rw [← e1, List.length_map]
  refine ⟨(P.drop lo).take (hi - lo), by rw [List.map_take, List.map_drop, e1], (e2.drop lo).take _, fun p hp => e3 p (List.mem_of_mem_drop (List.mem_of_mem_take hp)), ?_⟩
  have := sl_sliced e4 h1 h2
  rw [pc_drop e2 lo (by omega), pc_take (e2.drop lo)] at this
  rw [hlen]
  exact this
/-- x[1:], spelled out. -/
theorem Sp.tail {w : World} {b off q c : Nat} {x : α} {L : List α} (h : Sp R k w (.slice (some ⟨b, off, none⟩) (q + 1) c) (x :: L)) :
    (c = 1 → Sp R k w (.slice (some ⟨b, off, none⟩) q 0) L) ∧ (¬ c = 1 → Sp R k w (.slice (some ⟨b, off + k, none⟩) q (c - 1)) L) := by
  have hq : q = L.length := by
    obtain ⟨_, _, e, _⟩ := h.shape
    simp at e
    exact e.2.1
  have := h.cut (show 1 ≤ q + 1 by omega) (Nat.le_refl _)
  rw [List.drop_succ_cons, List.drop_zero, List.take_of_length_le (by omega)] at this
  unfold sliced at this
  constructor
  · intro hc
    subst hc
    simpa using this
  · intro hc
    rw [if_neg hc] at this
    simpa [addr_add] using this
/-- A row of the call's own that holds the list L. -/
def Ow (R : World → α → List Value → Prop) (k : Nat) (T : TypeId) (B : Nat) (w : World) (v : Value) (L : List α) : Prop :=
  ∃ P : List (α × List Value), P.map (·.1) = L ∧ PK k P ∧ (∀ p ∈ P, R w p.1 p.2) ∧ w.ownsRow B T k v L.length (pc P)
theorem Ow.sp {T : TypeId} {B : Nat} {w : World} {v : Value} {L : List α} (h : Ow R k T B w v L) : Sp R k w v L := by
  obtain ⟨P, h1, h2, h3, h4⟩ := h
  exact ⟨P, h1, h2, h3, own_sl h4⟩
theorem Ow.below {T : TypeId} {B : Nat} {w w' : World} {v : Value} {L : List α} (hR : Mono R) (h : Ow R k T B w v L) (hb : Below w.heap.size w w') : Ow R k T B w' v L := by
  obtain ⟨P, h1, h2, h3, h4⟩ := h
  exact ⟨P, h1, h2, fun p hp => hR _ _ _ _ (h3 p hp) hb, own_below h4 hb⟩
theorem Ow.mono {T : TypeId} {B B' : Nat} {w : World} {v : Value} {L : List α} (h : Ow R k T B w v L) (hb : B' ≤ B) : Ow R k T B' w v L := by
  obtain ⟨P, h1, h2, h3, h4⟩ := h
  exact ⟨P, h1, h2, h3, own_mono h4 hb⟩
theorem Ow.nil {T : TypeId} {B : Nat} {w : World} : Ow R k T B w (.slice none 0 0) ([] : List α) := ⟨[], rfl, PK.nil, fun p hp => by simp at hp, World.ownsRow_nil _ _ _ _⟩
theorem Ow.shape {T : TypeId} {B : Nat} {w : World} {v : Value} {L : List α} (h : Ow R k T B w v L) : ∃ ao c, v = .slice ao L.length c ∧ L.length ≤ c ∧ c ≤ 9223372036854775807 := h.sp.shape
/-- What is known of an element's cells stays known where a row of type T grows. -/
def Grow (R : World → α → List Value → Prop) (T : TypeId) (k B : Nat) : Prop := ∀ (w w' : World) (a : α) (c : List Value) (u : Value) (m : Nat) (us : List Value), R w a c → w.ownsRow B T k u m us → w.grownBy w' u.ownBlock → R w' a c
/-- One element more, behind an append to the row. -/
theorem Ow.snoc {T : TypeId} {B n : Nat} {w w' : World} {v v' : Value} {L : List α} {a : α} {c : List Value} {P : List (α × List Value)} (hG : Grow R T k B) (h1 : P.map (·.1) = L) (h2 : PK k P) (h3 : ∀ p ∈ P, R w p.1 p.2) (h4 : w.ownsRow B T k v n (pc P)) (hn : n = L.length) (hg : w.grownBy w' v.ownBlock) (hown : w'.ownsRow B T k v' (n + 1) (pc P ++ c)) (hc : c.length = k) (ha : R w a c) : Ow R k T B w' v' (L ++ [a]) := by
  refine ⟨P ++ [(a, c)], by rw [List.map_append, h1]; rfl, h2.snoc hc, ?_, ?_⟩
  · intro p hp
    rcases List.mem_append.1 hp with h' | h'
    · exact hG _ _ _ _ _ _ _ (h3 p h') h4 hg
    · have : p = (a, c) := by simpa using h'
      rw [this]
      exact hG _ _ _ _ _ _ _ ha h4 hg
  · rw [← pc_snoc, List.length_append, ← hn]
    exact hown
end
section
variable {α : Type} {H : Type} {enc : TypeId × Value → H} {P : Program} {W : World} {base : Nat} {spare : Nat → Bool} {held : Bool} {R : World → α → List Value → Prop}
/-- A slice that came in, element by element. -/
theorem sp_of {t e : TypeId} {k fuel : Nat} {v : Value} {x : DataW H × List MemPlace} (inh : Inhabited α) (ht : P.underlying t = some (.slice e)) (hk : P.cellsOf e = k) (hpos : 0 < k)
    (hel : ∀ fuel cs x, DataW.trod enc P W base spare held fuel e cs = some x → cs.length = k → ∃ a, R W a cs)
    (h : DataW.trod enc P W base spare held fuel t [v] = some x) : ∃ L : List α, Sp R k W v L ∧ L.length ≤ 9223372036854775807 ∧ ((∀ n ∈ x.1.weights P t, n ≤ reachBytes) → L.length * P.bytesOf e ≤ reachBytes) := by
  rcases open_slice ht h with ⟨hcs, _⟩ | ⟨a, len, cap, m, n, D, Pl, hcs, hb, hl, hm, hmm, hx, hi'⟩
  · obtain rfl : v = .slice none 0 0 := by simpa using hcs
    exact ⟨[], Sp.nil, by simp, fun _ => by simp⟩
  · obtain rfl : v = .slice (some a) len cap := by simpa using hcs
    have hlm : len ≤ m := by rw [hmm]; split <;> omega
    have each : ∀ i, i < len → ∃ p : α × List Value, p.2.length = k ∧ R W p.1 p.2 ∧ ∀ j u, p.2[j]? = some u → W.cell? (a.add (i * k + j)) = some u := by
      intro i hlt
      obtain ⟨cs', hc, ht'⟩ := hi' i (by omega)
      rw [hk] at hc
      obtain ⟨_, hcl, hat⟩ := World.cells?_some hc
      obtain ⟨y, hy⟩ := hel _ _ _ ht' hcl
      refine ⟨(y, cs'), hcl, hy, fun j u hu => ?_⟩
      have hj : j < k := by
        have h9 : j < cs'.length := (List.getElem?_eq_some_iff.1 hu).1
        have h10 : cs'.length = k := hcl
        omega
      have h2 := hat j hj
      rw [add_add] at h2
      rw [h2]
      exact hu
    haveI : Inhabited (α × List Value) := ⟨(inh.default, [])⟩
    obtain ⟨Q, hQ⟩ := choose_lt each
    have hL : ((List.range len).map Q).length = len := by simp
    have hPK : PK k ((List.range len).map Q) := by
      intro p hp
      obtain ⟨i, hi, rfl⟩ := List.mem_map.1 hp
      exact (hQ i (by simpa using hi)).1
    refine ⟨((List.range len).map Q).map (·.1), ⟨(List.range len).map Q, rfl, hPK, ?_, some a, cap, ?_, ?_, hm, fun h => by simp at h, ?_, fun hn => ?_⟩, ?_, ?_⟩
    · intro p hp
      obtain ⟨i, hi, rfl⟩ := List.mem_map.1 hp
      exact (hQ i (by simpa using hi)).2.1
    · rw [List.length_map, hL]
    · rw [List.length_map, hL]; exact hl
    · rw [pc_len hPK, List.length_map, List.length_map, List.length_map]
    · rw [List.length_map, hL] at hn
      obtain ⟨u0, hu0⟩ : ∃ u, (Q 0).2[0]? = some u := ⟨_, List.getElem?_eq_getElem (by rw [(hQ 0 hn).1]; exact hpos)⟩
      have h0 := (hQ 0 hn).2.2 0 u0 hu0
      obtain ⟨b, off, spot⟩ := a
      have hs := World.cell?_spot h0
      simp [Addr.add] at hs
      subst hs
      refine ⟨b, off, rfl, fun i u hu => ?_⟩
      have hidx : i < len * k := by
        rcases Nat.lt_or_ge i (len * k) with h' | h'
        · exact h'
        · rw [List.getElem?_eq_none (by rw [pc_len hPK, hL]; exact h')] at hu; simp at hu
      have hq : i / k < len := Nat.div_lt_of_lt_mul (by rw [Nat.mul_comm]; exact hidx)
      have hr : i % k < k := Nat.mod_lt _ hpos
      have hdm : i / k * k + i % k = i := by rw [Nat.mul_comm]; exact Nat.div_add_mod i k
      have hp : ((List.range len).map Q)[i / k]? = some (Q (i / k)) := by simp [hq]
      rw [← hdm, pc_get hPK hp hr] at hu
      have := (hQ (i / k) hq).2.2 (i % k) u hu
      rw [addr_add, hdm] at this
      exact this
    · rw [List.length_map, hL]; unfold maxLen at hm; omega
    · intro hs
      rw [List.length_map, hL]
      have := hs ((((List.range len).map D).length + ((List.range (m - len)).map fun j => D (len + j)).length) * P.bytesOf e) (by rw [hx]; simp [DataW.weights, ht])
      refine Nat.le_trans (Nat.mul_le_mul_right _ ?_) this
      simp
end
theorem Sp.shapeN {α : Type} {R : World → α → List Value → Prop} {k n : Nat} {w : World} {v : Value} {L : List α} (h : Sp R k w v L) (hl : L.length = n) : ∃ ao c, v = .slice ao n c ∧ n ≤ c ∧ c ≤ 9223372036854775807 := by
  subst hl
  exact h.shape
theorem Sp.headN {α : Type} {R : World → α → List Value → Prop} {k n c : Nat} {ao : Option Addr} {w : World} {x : α} {L : List α} (h : Sp R k w (.slice ao n c) (x :: L)) :
    ∃ b off cs, ao = some ⟨b, off, none⟩ ∧ R w x cs ∧ cs.length = k ∧ ∀ j u, cs[j]? = some u → w.cell? ⟨b, off + j, none⟩ = some u := by
  obtain ⟨b, off, cs, h1, h2, h3, h4⟩ := h.get (i := 0) (a := x) rfl
  refine ⟨b, off, cs, h1, h2, h3, fun j u hu => ?_⟩
  have := h4 j u hu
  rwa [Nat.zero_mul, Nat.add_zero] at this
theorem Sp.weaken {α : Type} {R R' : World → α → List Value → Prop} {k : Nat} {w : World} {v : Value} {L : List α} (h : Sp R k w v L) (hw : ∀ a c, R w a c → R' w a c) : Sp R' k w v L := by
  obtain ⟨P, h1, h2, h3, h4⟩ := h
  exact ⟨P, h1, h2, fun p hp => hw _ _ (h3 p hp), h4⟩
theorem cons_of' {α : Type} {l : List α} {n : Nat} (h : l.length = n + 1) : ∃ x r, l = x :: r ∧ r.length = n := by
  cases l with
  | nil => simp at h
  | cons x r => exact ⟨x, r, rfl, by simpa using h⟩
/-- A slice's block is old, or bears another type than T. -/
def Apart (w : World) (B : Nat) (T : TypeId) (v : Value) : Prop := ∀ b, v.ownBlock = some b → (b < B ∧ b < w.heap.size) ∨ ∃ cs e fr, w.heap[b]? = some (.cells cs e fr) ∧ e ≠ T
theorem Apart.below {w w' : World} {B : Nat} {T : TypeId} {v : Value} (h : Apart w B T v) (hb : Below w.heap.size w w') : Apart w' B T v := by
  intro b hv
  rcases h b hv with h | ⟨cs, e, fr, h, hne⟩
  · exact Or.inl ⟨h.1, Nat.lt_of_lt_of_le h.2 hb.size⟩
  · exact Or.inr ⟨cs, e, fr, (hb.block b (Array.getElem?_eq_some_iff.1 h).1).trans h, hne⟩
theorem Apart.ne {w : World} {B k m : Nat} {T : TypeId} {u v : Value} {us : List Value} {b : Nat} (h : Apart w B T v) (ho : w.ownsRow B T k u m us) (hv : v.ownBlock = some b) : u.ownBlock ≠ some b := by
  intro hu
  rcases h b hv with h | ⟨cs, e, fr, h, hne⟩
  · have := (ho.lt b hu).1
    omega
  · exact own_block_ne ho h (fun e' => hne e'.symm) hu
theorem Apart.grown {w w' : World} {B k m : Nat} {T : TypeId} {u v : Value} {us : List Value} (h : Apart w B T v) (ho : w.ownsRow B T k u m us) (hg : w.grownBy w' u.ownBlock) : Apart w' B T v := by
  intro b hv
  have hne := h.ne ho hv
  rcases h b hv with h | ⟨cs, e, fr, h, hne'⟩
  · exact Or.inl ⟨h.1, Nat.lt_of_lt_of_le h.2 hg.size⟩
  · exact Or.inr ⟨cs, e, fr, (hg.block b (Array.getElem?_eq_some_iff.1 h).1 (fun e' => hne e'.symm)).trans h, hne'⟩
/-- A slice that is apart from a row that grows reads as before. -/
theorem Sl.grownA {w w' : World} {size n B k m : Nat} {T : TypeId} {v u : Value} {xs us : List Value} (h : Sl w size v n xs) (ha : Apart w B T v) (ho : w.ownsRow B T k u m us) (hg : w.grownBy w' u.ownBlock) : Sl w' size v n xs := by
  obtain ⟨ao, cap, rfl, h2, h3, h4, h5, h6⟩ := h
  refine ⟨ao, cap, rfl, h2, h3, h4, h5, fun hn => ?_⟩
  obtain ⟨b', off, rfl, hc⟩ := h6 hn
  refine ⟨b', off, rfl, fun i u hu => ?_⟩
  exact hg.cell (hc i u hu) (fun e => ha.ne ho (b := b') rfl e.symm)
theorem Apart.own {w : World} {B B' size n : Nat} {T e : TypeId} {v : Value} {xs : List Value} (h : w.ownsRow B' e size v n xs) (hne : e ≠ T) : Apart w B T v := by
  intro b hv
  rcases h.2 with ⟨rfl, _⟩ | ⟨g, cap, cur, rfl, _, hg, _⟩
  · simp [Value.ownBlock] at hv
  · have : g = b := by simpa [Value.ownBlock] using hv
    subst this
    exact Or.inr ⟨_, _, _, hg, hne⟩
end Go.Gh
/-
  Rows of the call's own in which an element is put in, or written over.
-/
namespace Go.Gh
open Go.RowKit
set_option linter.unusedVariables false
section
variable {α : Type} {k : Nat} {P : List (α × List Value)}
theorem pc_ins (P : List (α × List Value)) (a : α) (c : List Value) (i : Nat) : pc (P.take i ++ (a, c) :: P.drop i) = pc (P.take i) ++ (c ++ pc (P.drop i)) := by
  rw [pc_append, pc_cons]
theorem PK.ins (h : PK k P) {a : α} {c : List Value} (hc : c.length = k) (i : Nat) : PK k (P.take i ++ (a, c) :: P.drop i) := by
  intro p hp
  rcases List.mem_append.1 hp with h' | h'
  · exact h p (List.mem_of_mem_take h')
  · rcases List.mem_cons.1 h' with h'' | h''
    · rw [h'']; exact hc
    · exact h p (List.mem_of_mem_drop h'')
theorem PK.set (h : PK k P) {a : α} {c : List Value} (hc : c.length = k) (i : Nat) : PK k (P.set i (a, c)) := by
  intro p hp
  rcases List.mem_or_eq_of_mem_set hp with h' | h'
  · exact h p h'
  · rw [h']; exact hc
theorem map_ins (P : List (α × List Value)) (a : α) (c : List Value) (i : Nat) : (P.take i ++ (a, c) :: P.drop i).map (·.1) = (P.map (·.1)).take i ++ a :: (P.map (·.1)).drop i := by
  rw [List.map_append, List.map_cons, List.map_take, List.map_drop]
theorem map_set (P : List (α × List Value)) (a : α) (c : List Value) (i : Nat) : (P.set i (a, c)).map (·.1) = (P.map (·.1)).set i a := by
  rw [List.map_set]
theorem all_ins {Q : α × List Value → Prop} (h : ∀ p ∈ P, Q p) {a : α} {c : List Value} (hc : Q (a, c)) (i : Nat) : ∀ p ∈ P.take i ++ (a, c) :: P.drop i, Q p := by
  intro p hp
  rcases List.mem_append.1 hp with h' | h'
  · exact h p (List.mem_of_mem_take h')
  · rcases List.mem_cons.1 h' with h'' | h''
    · rw [h'']; exact hc
    · exact h p (List.mem_of_mem_drop h'')
theorem all_set {Q : α × List Value → Prop} (h : ∀ p ∈ P, Q p) {a : α} {c : List Value} (hc : Q (a, c)) (i : Nat) : ∀ p ∈ P.set i (a, c), Q p := by
  intro p hp
  rcases List.mem_or_eq_of_mem_set hp with h' | h'
  · exact h p h'
  · rw [h']; exact hc
/-- An element is put in at a place of a row that is the call's own. -/
theorem own_insP {w' : World} {B : Nat} {e : TypeId} {p j g cap : Nat} {a : α} {c : List Value} (h : w'.ownsRow B e k (.slice (some ⟨g, 0, none⟩) (j + (1 + (p - j))) cap) (j + (1 + (p - j))) ((pc P).take (j * k) ++ (c ++ (pc P).drop (j * k)))) (hk : PK k P) (hp : P.length = p) (hj : j ≤ p) :
    w'.ownsRow B e k (.slice (some ⟨g, 0, none⟩) (p + 1) cap) (p + 1) (pc (P.take j ++ (a, c) :: P.drop j)) := by
  rw [pc_ins, ← pc_take hk j, ← pc_drop hk j (by omega)]
  rw [show j + (1 + (p - j)) = p + 1 by omega] at h
  exact h
theorem own_insP_end {w' : World} {B : Nat} {e : TypeId} {j g cap : Nat} {a : α} {c : List Value} (h : w'.ownsRow B e k (.slice (some ⟨g, 0, none⟩) (j + 1) cap) (j + 1) ((pc P).take (j * k) ++ (c ++ (pc P).drop (j * k)))) (hk : PK k P) (hp : P.length = j) :
    w'.ownsRow B e k (.slice (some ⟨g, 0, none⟩) (j + 1) cap) (j + 1) (pc (P.take j ++ (a, c) :: P.drop j)) := by
  rw [pc_ins, ← pc_take hk j, ← pc_drop hk j (by omega)]
  exact h
/-- The cells of an element of a row that is the call's own. -/
theorem own_el {w : World} {B : Nat} {e : TypeId} {g n cap i : Nat} {p : α × List Value} (h : w.ownsRow B e k (.slice (some ⟨g, 0, none⟩) n cap) n (pc P)) (hk : PK k P) (hp : P[i]? = some p) (hi : i < n) : (∀ j u, p.2[j]? = some u → w.cell? ⟨g, i * k + j, none⟩ = some u) ∧ ∀ j, w.frozen? ⟨g, i * k + j, none⟩ = false := by
  obtain ⟨g', cap', e1, _, _, _, _, hc⟩ := own_some h (by omega)
  simp at e1
  obtain ⟨rfl, rfl⟩ := e1
  refine ⟨fun j u hu => ?_, fun j => h.frozenAt _⟩
  have hj : j < k := by
    have h1 := (List.getElem?_eq_some_iff.1 hu).1
    have h2 : p.2.length = k := hk p (List.mem_of_getElem? hp)
    omega
  exact hc _ _ (by rw [pc_get hk hp hj]; exact hu)
/-- An element of a row that is the call's own is written over. -/
theorem own_over {w : World} {B : Nat} {e : TypeId} {g n cap i : Nat} {a : α} {c : List Value} (h : w.ownsRow B e k (.slice (some ⟨g, 0, none⟩) n cap) n (pc P)) (hk : PK k P) (hi : i < P.length) (hc : c.length = k) : (setCells w g (i * k) c).ownsRow B e k (.slice (some ⟨g, 0, none⟩) n cap) n (pc (P.set i (a, c))) := by
  have := own_stores c w (i * k) (pc P) h
  rwa [pc_set hk hi hc] at this
end
end Go.Gh
/-
  copy at elements of whatever size; what slices.Insert leaves, as own rows.
-/
namespace Go.Gh
open Go.RowKit
set_option linter.unusedVariables false
theorem setCells_eq (b : Nat) : ∀ (vs : List Value) (o : Nat) (w : World), w.setCells b o vs = setCells w b o vs
  | [], _, _ => rfl
  | v :: vs, o, w => by rw [World.setCells, setCells, setCells_eq b vs]
theorem run_copy_k {P : Program} (w : World) (dT sT ty elem : TypeId) (k b o dLen dCap : Nat) (a : Addr) (sLen sCap m : Nat) (cs : List Value)
    (hu : P.underlying dT = some (.slice elem)) (hs : (P.info? elem).map (·.size) = some k) (hm : Nat.min sLen dLen = m) (hn : cs.length = m * k)
    (hsrc : ∀ j v, cs[j]? = some v → w.cell? (a.add j) = some v) (hc : ∀ j, j < cs.length → (w.cell? ⟨b, o + j, none⟩).isSome = true) (hf : ∀ j, j < cs.length → w.frozen? ⟨b, o + j, none⟩ = false) (h1 : ∀ v ∈ cs, v.oneCell' = true) :
    (Builtin.copy_ #[dT, sT] ty #[.slice (some ⟨b, o, none⟩) dLen dCap, .slice (some a) sLen sCap]).run P w = .ok (goInt m) (setCells w b o cs) := by
  have hl := run_loadCells_list (P := P) w a cs hsrc
  have hst := run_storeCells_cells (P := P) b o cs 0 w (by simpa using hc) (by simpa using hf) h1
  rw [hn] at hl
  rw [← setCells_eq]
  cases hq : P.info? elem with
  | none => simp [hq] at hs
  | some i =>
    have hi : i.size = k := by simpa [hq] using hs
    simp [Builtin.copy_, run_underlying hu, Builtin.lenOf, Builtin.firstCells, sizeOf, typeInfo, hq, hi, hm, hl, hst]
theorem wp_copy_run' {P : Program} (w : World) {o : Oper} {a : Act} {K : Act → World → Prop} {Q : Exit → Act → World → Prop} (d s : Operand) (t t' : TypeId)
    (ho : o.op = .call { callee := .builtin .copy, args := #[d, s], argTypes := #[t, t'] }) (v u : Value) (hd : a.eval d = v) (hs : a.eval s = u) {v' : Value} {w' : World}
    (hr : (Builtin.copy_ #[t, t'] o.type #[v, u]).run P w = .ok v' w') (h : K (a.put o.dst v') w') : o.wp P a w K Q := by
  unfold Oper.wp execOp
  simp only [ho, resolve, invoke, builtin, Sem.run_bind, Sem.run_pure, Result.andThen_ok, List.map_toArray, List.map_cons, List.map_nil, hd, hs, hr]
  exact h
theorem wpList_copy_run' {P : Program} (w : World) {ops : Array Oper} {rest : List Oper} {o : Oper} {a : Act} {Q : Exit → Act → World → Prop} (hgd : o.guard = none) (d s : Operand) (t t' : TypeId)
    (ho : o.op = .call { callee := .builtin .copy, args := #[d, s], argTypes := #[t, t'] }) (v u : Value) (hd : a.eval d = v) (hs : a.eval s = u) {v' : Value} {w' : World}
    (hr : (Builtin.copy_ #[t, t'] o.type #[v, u]).run P w = .ok v' w') (h : wpList P ops Q rest (a.put o.dst v') w') : wpList P ops Q (o :: rest) a w :=
  wpList_plain hgd fun _ hK => wp_copy_run' w d s t t' ho v u hd hs hr (hK _ _ h)
theorem step_copy_run' {P : Program} {ops : Array Oper} {o : Oper} {a : Act} {w : World} {K : Act → World → Prop} {Q : Exit → Act → World → Prop} {E : Prop}
    (hg : o.guard = none) (d x : Operand) (dT sT : TypeId) (hop : o.op = Op.call { callee := Callee.builtin Builtin.copy, args := #[d, x], argTypes := #[dT, sT] })
    (v u : Value) (hd : a.eval d = v) (hx : a.eval x = u) {v' : Value} {w' : World} (hr : (Builtin.copy_ #[dT, sT] o.type #[v, u]).run P w = .ok v' w') (hK : K (a.put o.dst v') w') :
    if Region.wanted o (yielded ops a.tmps) = true then Oper.wp P o a w K Q else E := by
  have hw : Region.wanted o (yielded ops a.tmps) = true := by simp [Region.wanted, hg]
  rw [if_pos hw]
  exact wp_copy_run' w d x dT sT hop v u hd hx hr hK
/-- What a copy into a row of the call's own leaves. -/
theorem copy_own {P : Program} {w : World} {dT sT ty e : TypeId} {k g n cap o dLen dCap sLen sCap m B : Nat} {a : Addr} {xs cs : List Value} (ht : P.underlying dT = some (.slice e)) (hs : (P.info? e).map (·.size) = some k) (h : w.ownsRow B e k (.slice (some ⟨g, 0, none⟩) n cap) n xs)
    (hm : Nat.min sLen dLen = m) (hn : cs.length = m * k) (hfit : o + m * k ≤ n * k) (hsrc : ∀ j v, cs[j]? = some v → w.cell? (a.add j) = some v) (h1 : ∀ v ∈ cs, v.oneCell' = true) :
    (Builtin.copy_ #[dT, sT] ty #[.slice (some ⟨g, o, none⟩) dLen dCap, .slice (some a) sLen sCap]).run P w = .ok (goInt m) (setCells w g o cs) ∧ (setCells w g o cs).ownsRow B e k (.slice (some ⟨g, 0, none⟩) n cap) n (setFrom xs o cs) := by
  have hl : xs.length = n * k := h.1
  refine ⟨run_copy_k w dT sT ty e k g o dLen dCap a sLen sCap m cs ht hs hm hn hsrc (fun j hj => ?_) (fun j hj => h.frozenAt _) h1, own_stores cs w o xs h⟩
  have hx : o + j < xs.length := by omega
  have hc := h.cells (g := g) rfl (o + j) _ (List.getElem?_eq_getElem hx)
  rw [addr_add, Nat.zero_add] at hc
  rw [hc]
  rfl
theorem drew_setCells' (b : Nat) : ∀ (vs : List Value) (o : Nat) (w : World), (setCells w b o vs).drew = setCells w.drew b o vs
  | [], _, _ => rfl
  | v :: r, o, w => by rw [setCells, setCells, drew_setCells' b r]; rfl
theorem grown_cells {w : World} {b : Nat} {r : Option Nat} (hb : w.heap.size ≤ b ∨ r = some b) : ∀ (us : List Value) (w' : World) (k : Nat), w.grownBy w' r → w.grownBy (setCells w' b k us) r
  | [], w', k, h => h
  | u :: us, w', k, h => grown_cells hb us _ (k + 1) ⟨h.os, h.tape, h.output, by simpa using h.size, fun j hj hne => by
      rw [Below.heap_setCell w' ⟨b, k, none⟩ u j (fun e => by
        rcases hb with hb | hb
        · dsimp only at e; omega
        · exact hne (by rw [hb]; dsimp only at e; rw [e]))]
      exact h.block j hj hne⟩
/-- A row that grows by zero values behind its head. -/
theorem zeros_row {w : World} {e : TypeId} {k n i B old : Nat} {z : Value} {xs : List Value} (hz : z.cells.size = k) (hl : xs.length = i * k) (hi : i ≤ n) (hold : old < n) (hB : B ≤ w.heap.size) (hn : n ≤ maxLen) :
    (w.drew.alloc (.cells (xs.toArray ++ Builtin.zeroCells z.cells (n - i) ++ Builtin.zeroCells z.cells (grownCap w n old e - n)) e)).ownsRow B e k (.slice (some ⟨w.heap.size, 0, none⟩) n (grownCap w n old e)) n (xs ++ (Builtin.zeroCells z.cells (n - i)).toList) ∧ ((Builtin.zeroCells z.cells (n - i)).toList).length = (n - i) * k := by
  have hzl : ((Builtin.zeroCells z.cells (n - i)).toList).length = (n - i) * k := by rw [Array.length_toList, size_zeroCells, hz]
  have := grown_row w (e := e) (old := old) z hz (xs ++ (Builtin.zeroCells z.cells (n - i)).toList) (n := n) (by rw [List.length_append, hl, hzl, ← Nat.add_mul]; congr 1; omega) hold hn hB
  refine ⟨?_, hzl⟩
  rw [show xs.toArray ++ Builtin.zeroCells z.cells (n - i) = (xs ++ (Builtin.zeroCells z.cells (n - i)).toList).toArray from by simp]
  exact this
/-- A row is taken an element longer, into its spare room. -/
theorem own_longer {w : World} {B : Nat} {e : TypeId} {k g n cap : Nat} {xs : List Value} (h : w.ownsRow B e k (.slice (some ⟨g, 0, none⟩) n cap) n xs) (hc : n + 1 ≤ cap) :
    ∃ J : List Value, J.length = k ∧ w.ownsRow B e k (.slice (some ⟨g, 0, none⟩) (n + 1) cap) (n + 1) (xs ++ J) := by
  obtain ⟨hl, h2⟩ := h
  rcases h2 with ⟨e1, _⟩ | ⟨g', cap', cur, e1, hb, hg, hnc, hcm, hsz, htk⟩
  · simp at e1
  · simp at e1
    obtain ⟨rfl, rfl⟩ := e1
    have hcl : cur.toList.length = cap * k := by rw [Array.length_toList, hsz]
    have hle : (n + 1) * k ≤ cap * k := Nat.mul_le_mul_right _ hc
    have hnk : (n + 1) * k = n * k + k := Nat.succ_mul _ _
    refine ⟨(cur.toList.drop (n * k)).take k, by rw [List.length_take, List.length_drop, hcl]; omega, ?_, Or.inr ⟨g, cap, cur, rfl, hb, hg, hc, hcm, hsz, ?_⟩⟩
    · rw [List.length_append, hl, List.length_take, List.length_drop, hcl, hnk]; omega
    · rw [hnk, List.take_add, htk]
theorem ins_grow {xs Z c : List Value} {k n i : Nat} (hx : xs.length = n * k) (hi : i ≤ n) (hc : c.length = k) (hZ : Z.length = (n + 1 - i) * k) :
    setFrom (setFrom (xs.take (i * k) ++ Z) (i * k) c) ((i + 1) * k) (xs.drop (i * k)) = xs.take (i * k) ++ (c ++ xs.drop (i * k)) := by
  have hik : i * k ≤ n * k := Nat.mul_le_mul_right _ hi
  have h1 : (xs.take (i * k)).length = i * k := by rw [List.length_take]; omega
  have hZ2 : (n + 1 - i) * k = k + (n - i) * k := by rw [show n + 1 - i = (n - i) + 1 from by omega, Nat.succ_mul, Nat.add_comm]
  have hni : (n - i) * k = n * k - i * k := Nat.sub_mul _ _ _
  have e1 : Z = Z.take k ++ Z.drop k := (List.take_append_drop k Z).symm
  have h2 : setFrom (xs.take (i * k) ++ Z) (i * k) c = xs.take (i * k) ++ c ++ Z.drop k := by
    conv => lhs; rw [e1, ← List.append_assoc]
    conv => lhs; arg 2; rw [← h1]
    exact setFrom_mid c (Z.take k) (xs.take (i * k)) (Z.drop k) (by rw [List.length_take]; omega)
  rw [h2]
  have h3 := setFrom_mid (xs.drop (i * k)) (Z.drop k) (xs.take (i * k) ++ c) [] (by rw [List.length_drop, List.length_drop]; omega)
  rw [List.append_nil, List.append_nil, List.length_append, h1, hc] at h3
  rw [Nat.succ_mul, h3, List.append_assoc]
theorem ins_shift {xs J c : List Value} {k n i : Nat} (hx : xs.length = n * k) (hi : i ≤ n) (hc : c.length = k) (hJ : J.length = k) :
    setFrom (setFrom (xs ++ J) ((i + 1) * k) (xs.drop (i * k))) (i * k) c = xs.take (i * k) ++ (c ++ xs.drop (i * k)) := by
  have hik : i * k ≤ n * k := Nat.mul_le_mul_right _ hi
  have hsk : (i + 1) * k = i * k + k := Nat.succ_mul _ _
  have hl : (xs ++ J).length = n * k + k := by rw [List.length_append, hx, hJ]
  have h1 : ((xs ++ J).take ((i + 1) * k)).length = (i + 1) * k := by rw [List.length_take]; omega
  have e1 : xs ++ J = (xs ++ J).take ((i + 1) * k) ++ (xs ++ J).drop ((i + 1) * k) := (List.take_append_drop _ _).symm
  have h2 : setFrom (xs ++ J) ((i + 1) * k) (xs.drop (i * k)) = (xs ++ J).take ((i + 1) * k) ++ xs.drop (i * k) := by
    have := setFrom_mid (xs.drop (i * k)) ((xs ++ J).drop ((i + 1) * k)) ((xs ++ J).take ((i + 1) * k)) [] (by rw [List.length_drop, List.length_drop]; omega)
    rw [List.append_nil, List.append_nil, h1, ← e1] at this
    exact this
  have h3 : (xs ++ J).take ((i + 1) * k) = xs.take (i * k) ++ ((xs ++ J).drop (i * k)).take k := by
    rw [hsk, List.take_add, List.take_append_of_le_length (by omega)]
  rw [h2, h3]
  have h4 := setFrom_mid c (((xs ++ J).drop (i * k)).take k) (xs.take (i * k)) (xs.drop (i * k)) (by rw [List.length_take, List.length_drop]; omega)
  have h5 : (xs.take (i * k)).length = i * k := by rw [List.length_take]; omega
  rw [h5] at h4
  rw [h4, List.append_assoc]
end Go.Gh
