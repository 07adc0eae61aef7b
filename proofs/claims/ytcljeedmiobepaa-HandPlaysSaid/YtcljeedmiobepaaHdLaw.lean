/-
  A shard from hand to hand: what each act does, as plain functions.
-/
import Derived.Test.YtcljeedmiobepaaRkLaw2
import Derived.Test.YtcljeedmiobepaaIxLaw
namespace Go.Gh
set_option linter.unusedVariables false
/-- A number put into a set. -/
def insU (l : List Int) (x : Int) : List Int := if x ∈ l then l else insB l x
theorem mem_insU {l : List Int} {x z : Int} : z ∈ insU l x ↔ (z = x ∨ z ∈ l) := by
  unfold insU
  split
  · rename_i h
    exact ⟨Or.inr, fun h' => h'.elim (fun e => e ▸ h) id⟩
  · rw [(insB_perm l x).mem_iff, List.mem_cons]
theorem ris_le {l : List Int} (h : Ris l) : l.Pairwise (· ≤ ·) := h.imp (fun h => Int.le_of_lt h)
theorem ris_insU {l : List Int} {x : Int} (h : Ris l) : Ris (insU l x) := by
  unfold insU
  split
  · exact h
  · rename_i hx
    have h1 := insB_sort (v := x) (ris_le h)
    have h2 : (insB l x).Nodup := (insB_perm l x).nodup_iff.2 (List.nodup_cons.2 ⟨hx, ris_nodup h⟩)
    exact (h1.and h2).imp (fun {a b} h => by omega)
theorem insU_len (l : List Int) (x : Int) : (insU l x).length = if x ∈ l then l.length else l.length + 1 := by
  unfold insU
  split
  · rfl
  · exact insB_len l x
theorem insU_le (l : List Int) (x : Int) : (insU l x).length ≤ l.length + 1 := by
  rw [insU_len]
  split <;> omega
def foldU (l m : List Int) : List Int := m.foldl insU l
theorem ris_foldU : ∀ {m l : List Int}, Ris l → Ris (foldU l m)
  | [], l, h => h
  | x :: m, l, h => ris_foldU (m := m) (ris_insU h)
theorem foldU_le : ∀ (m l : List Int), (foldU l m).length ≤ l.length + m.length
  | [], l => Nat.le_refl _
  | x :: m, l => by
    have h1 := foldU_le m (insU l x)
    have h2 := insU_le l x
    show (foldU (insU l x) m).length ≤ _
    rw [List.length_cons]
    omega
theorem foldU_take {l m : List Int} {j : Nat} {x : Int} (h : m[j]? = some x) : foldU l (m.take (j + 1)) = insU (foldU l (m.take j)) x := by
  obtain ⟨h1, h2⟩ := List.getElem?_eq_some_iff.1 h
  unfold foldU
  rw [List.take_succ_eq_append_getElem h1, h2, List.foldl_append]
  rfl
theorem foldU_mem : ∀ (m l : List Int) (z : Int), z ∈ foldU l m → z ∈ l ∨ z ∈ m
  | [], l, z, h => Or.inl h
  | x :: m, l, z, h => by
    rcases foldU_mem m (insU l x) z h with h1 | h1
    · rcases mem_insU.1 h1 with h2 | h2
      · exact Or.inr (by rw [h2]; simp)
      · exact Or.inl h2
    · exact Or.inr (by simp [h1])
/-- What a shard holds: its epoch, its owner, who is to have it, the owner's numbers, the other one's, those that are left to copy. -/
structure Hd where
  e : Int
  o : ByteArray
  t : ByteArray
  has : List Int
  next : List Int
  left : List Int
def noB : ByteArray := ⟨#[]⟩
def crH (s : Hd) : Hd := ⟨s.e, s.o, noB, s.has, [], []⟩
def wrH (s : Hd) (ep id : Int) : Int × Hd :=
  if ep ≠ s.e then (10, s) else if id ∈ s.has then (8, s) else if s.has.length = 1000 then (9, s)
  else (0, ⟨s.e, s.o, s.t, insU s.has id, if s.t.toList = [] then s.next else insU s.next id, s.left⟩)
def prH (s : Hd) (to' : ByteArray) : Int × Hd :=
  if to'.toList = [] ∨ 20 < to'.size then (4, s) else if ¬ s.t.toList = [] then (11, s) else if to'.toList = s.o.toList then (8, s)
  else (0, ⟨s.e, s.o, to', s.has, [], s.has⟩)
def cpH (s : Hd) (n : Int) : (Int × Int) × Hd :=
  if n < 0 then ((0, 1), s) else if s.t.toList = [] then ((0, 11), s)
  else (((s.left.drop n.toNat).length, 0), ⟨s.e, s.o, s.t, s.has, foldU s.next (s.left.take n.toNat), s.left.drop n.toNat⟩)
def cuH (s : Hd) : Int × Hd :=
  if s.t.toList = [] then (11, s) else if 0 < s.left.length then (13, s) else (0, crH ⟨s.e + 1, s.t, s.t, s.next, s.next, s.left⟩)
def abH (s : Hd) : Int × Hd := if s.t.toList = [] then (15, s) else (0, crH s)
def WfI (l : List Int) : Prop := ∀ x ∈ l, -9223372036854775808 ≤ x ∧ x ≤ 9223372036854775807
theorem wf_insU {l : List Int} {x : Int} (h : WfI l) (hx : -9223372036854775808 ≤ x ∧ x ≤ 9223372036854775807) : WfI (insU l x) := fun z hz => by
  rcases mem_insU.1 hz with h1 | h1
  · rw [h1]; exact hx
  · exact h z h1
theorem wf_foldU {l m : List Int} (h : WfI l) (hm : WfI m) : WfI (foldU l m) := fun z hz => by
  rcases foldU_mem m l z hz with h1 | h1
  · exact h z h1
  · exact hm z h1
/-- Behind j acts. -/
structure HInv (j : Nat) (s : Hd) : Prop where
  has : Ris s.has ∧ s.has.length ≤ j ∧ WfI s.has
  nxt : Ris s.next ∧ s.next.length + s.left.length ≤ j ∧ WfI s.next
  lft : WfI s.left
  ep : 0 ≤ s.e ∧ s.e ≤ 1 + j
theorem HInv.more {j : Nat} {s : Hd} (h : HInv j s) : HInv (j + 1) s := ⟨⟨h.has.1, by have := h.has.2.1; omega, h.has.2.2⟩, ⟨h.nxt.1, by have := h.nxt.2.1; omega, h.nxt.2.2⟩, h.lft, ⟨h.ep.1, by have := h.ep.2; omega⟩⟩
theorem wf_nil : WfI [] := fun x hx => by simp at hx
theorem HInv.cr {j : Nat} {s : Hd} (h : HInv j s) : HInv j (crH s) := ⟨h.has, ⟨List.Pairwise.nil, Nat.zero_le _, wf_nil⟩, wf_nil, h.ep⟩
theorem HInv.wr {j : Nat} {s : Hd} (h : HInv j s) (ep id : Int) (hw : -9223372036854775808 ≤ id ∧ id ≤ 9223372036854775807) : HInv (j + 1) (wrH s ep id).2 := by
  unfold wrH
  split
  · exact h.more
  · split
    · exact h.more
    · split
      · exact h.more
      · have h1 := insU_le s.has id
        have h2 := insU_le s.next id
        have h3 := h.has.2.1
        have h4 := h.nxt.2.1
        refine ⟨⟨ris_insU h.has.1, by show (insU s.has id).length ≤ _; omega, wf_insU h.has.2.2 hw⟩, ?_, h.lft, ⟨h.ep.1, by have := h.ep.2; show s.e ≤ _; omega⟩⟩
        dsimp only
        split
        · exact ⟨h.nxt.1, by omega, h.nxt.2.2⟩
        · exact ⟨ris_insU h.nxt.1, by omega, wf_insU h.nxt.2.2 hw⟩
theorem HInv.pr {j : Nat} {s : Hd} (h : HInv j s) (t : ByteArray) : HInv (j + 1) (prH s t).2 := by
  unfold prH
  split
  · exact h.more
  · split
    · exact h.more
    · split
      · exact h.more
      · exact ⟨⟨h.has.1, by have := h.has.2.1; show s.has.length ≤ _; omega, h.has.2.2⟩, ⟨List.Pairwise.nil, by have := h.has.2.1; show 0 + s.has.length ≤ _; omega, wf_nil⟩, h.has.2.2, ⟨h.ep.1, by have := h.ep.2; show s.e ≤ _; omega⟩⟩
theorem HInv.cp {j : Nat} {s : Hd} (h : HInv j s) (n : Int) : HInv (j + 1) (cpH s n).2 := by
  unfold cpH
  split
  · exact h.more
  · split
    · exact h.more
    · have h1 := foldU_le (s.left.take n.toNat) s.next
      have h2 := h.nxt.2.1
      refine ⟨⟨h.has.1, by have := h.has.2.1; show s.has.length ≤ _; omega, h.has.2.2⟩, ⟨ris_foldU h.nxt.1, ?_, wf_foldU h.nxt.2.2 (fun x hx => h.lft x (List.mem_of_mem_take hx))⟩, fun x hx => h.lft x (List.mem_of_mem_drop hx), ⟨h.ep.1, by have := h.ep.2; show s.e ≤ _; omega⟩⟩
      show (foldU s.next (s.left.take n.toNat)).length + (s.left.drop n.toNat).length ≤ _
      rw [List.length_take] at h1
      rw [List.length_drop]
      omega
theorem HInv.cu {j : Nat} {s : Hd} (h : HInv j s) : HInv (j + 1) (cuH s).2 := by
  unfold cuH
  split
  · exact h.more
  · split
    · exact h.more
    · exact HInv.cr ⟨⟨h.nxt.1, by have := h.nxt.2.1; show s.next.length ≤ _; omega, h.nxt.2.2⟩, ⟨h.nxt.1, by have := h.nxt.2.1; show s.next.length + s.left.length ≤ _; omega, h.nxt.2.2⟩, h.lft, ⟨by have := h.ep.1; show 0 ≤ s.e + 1; omega, by have := h.ep.2; show s.e + 1 ≤ _; omega⟩⟩
theorem HInv.ab {j : Nat} {s : Hd} (h : HInv j s) : HInv (j + 1) (abH s).2 := by
  unfold abH
  split
  · exact h.more
  · exact h.cr.more
end Go.Gh
