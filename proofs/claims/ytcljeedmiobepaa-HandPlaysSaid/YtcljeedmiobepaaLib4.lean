/-
  Words shared by the walks, part four: results that are a list of rows and an error's number; heads and tails.
-/
import Derived.Test.YtcljeedmiobepaaCuts
import Derived.Test.YtcljeedmiobepaaMergeLaw
namespace Go.Gh
open Go.RowKit
set_option linter.unusedVariables false

def RowPost (T : TypeId) (k : Nat) (w : World) (r : List (List Int) × Int) (e : Ending) (w' : World) : Prop := ∃ v', e = .returned (.tuple #[v', .int .i64 r.2]) ∧ w'.ownsRow w.heap.size T k v' r.1.length (rowCells r.1) ∧ Below w.heap.size w w' ∧ RowsK k r.1 ∧ r.1.length ≤ 1000
theorem rowPost_nil {T : TypeId} {k : Nat} {w w' : World} {c : Int} {r : List (List Int) × Int} (h : r = ([], c)) (hb : Below w.heap.size w w') : RowPost T k w r (.returned (.tuple #[.slice none 0 0, .int .i64 c])) w' := by
  subst h
  exact ⟨_, rfl, World.ownsRow_nil _ _ _ _, hb, by intro r hr; simp at hr, by simp⟩
theorem rowPost_below {T : TypeId} {k : Nat} {w w1 w' : World} {r : List (List Int) × Int} {e : Ending} (h : RowPost T k w1 r e w') (hb : Below w.heap.size w w1) : RowPost T k w r e w' := by
  obtain ⟨v, h1, h2, h3, h4, h5⟩ := h
  exact ⟨v, h1, own_mono h2 hb.size, hb.trans (h3.mono hb.size), h4, h5⟩
theorem tail_spec {w : World} {k q c b off : Nat} {x : List Int} {a : List (List Int)} (h : Sl w k (.slice (some ⟨b, off, none⟩) (q + 1) c) (q + 1) (rowCells (x :: a))) (hx : x.length = k) :
    (c = 1 → Sl w k (.slice (some ⟨b, off, none⟩) q 0) q (rowCells a)) ∧ (¬ c = 1 → Sl w k (.slice (some ⟨b, off + k, none⟩) q (c - 1)) q (rowCells a)) := by
  have := sl_sliced h (show 1 ≤ q + 1 by omega) (Nat.le_refl _)
  rw [Nat.one_mul, rowCells_tail hx, Nat.add_sub_cancel] at this
  have hl : (rowCells a).length = q * k := by
    obtain ⟨_, _, _, _, _, _, h5, _⟩ := h
    unfold rowCells at h5 ⊢
    rw [List.flatMap_cons, List.length_append, List.length_map, hx, Nat.add_mul] at h5
    omega
  rw [List.take_of_length_le (by omega)] at this
  unfold sliced at this
  constructor
  · intro hc
    subst hc
    simpa using this
  · intro hc
    rw [if_neg hc] at this
    simpa [addr_add] using this
/-- Two lists as they are merged: what is left of each, and what has been put out. -/
structure MRel (T : TypeId) (k : Nat) (both : List Int → List Int → List Int) (big : List Int → Bool) (l m : List (List Int)) (B p q r : Nat) (w wr : World) (ua ub u : Value) : Prop where
  ex : ∃ a b acc, Sl w k ua p (rowCells a) ∧ a.length = p ∧ RowsK k a ∧ Sl w k ub q (rowCells b) ∧ b.length = q ∧ RowsK k b ∧ wr.ownsRow B T k u r (rowCells acc) ∧ acc.length = r ∧ RowsK k acc ∧ mergeF both big l m = (mergeF both big a b).map (acc ++ ·)
theorem map_push (o : Option (List (List Int))) (x : List Int) (acc : List (List Int)) : (o.map (x :: ·)).map (acc ++ ·) = o.map ((acc ++ [x]) ++ ·) := by
  cases o <;> simp
theorem RowsK.head {k : Nat} {x : List Int} {a : List (List Int)} (h : RowsK k (x :: a)) : x.length = k := h x (by simp)
theorem rows_snoc (acc : List (List Int)) (r : List Int) : rowCells acc ++ r.map (Value.int .i64) = rowCells (acc ++ [r]) := by
  rw [rowCells_append, rowCells_one]
section
variable {T : TypeId} {k : Nat} {both : List Int → List Int → List Int} {big : List Int → Bool} {l m a b acc : List (List Int)} {B p q r : Nat} {w wr : World} {ua ub u : Value} {x y : List Int}
theorem mrel_a (hsa : Sl w k ua p (rowCells a)) (hla : (x :: a).length = p + 1) (hra : RowsK k (x :: a)) (hsb : Sl w k ub q (rowCells b)) (hlb : b.length = q) (hrb : RowsK k b) (hown : wr.ownsRow B T k u (r + 1) (rowCells acc ++ x.map (Value.int .i64))) (hlc : acc.length = r) (hrc : RowsK k acc)
    (hf : mergeF both big l m = (mergeF both big (x :: a) b).map (acc ++ ·)) (hlt : ∀ y b', b = y :: b' → rg x 0 < rg y 0) : MRel T k both big l m B p q (r + 1) w wr ua ub u := by
  refine ⟨a, b, acc ++ [x], hsa, by simpa using hla, hra.tail, hsb, hlb, hrb, ?_, by simp [hlc], hrc.snoc hra.head, ?_⟩
  · rw [← rows_snoc]; exact hown
  · rw [hf, ← map_push]
    cases b with
    | nil => rw [merge_nil, merge_nil]; rfl
    | cons y b' => rw [merge_lt (hlt y b' rfl)]
theorem mrel_b (hsa : Sl w k ua p (rowCells a)) (hla : a.length = p) (hra : RowsK k a) (hsb : Sl w k ub q (rowCells b)) (hlb : (y :: b).length = q + 1) (hrb : RowsK k (y :: b)) (hown : wr.ownsRow B T k u (r + 1) (rowCells acc ++ y.map (Value.int .i64))) (hlc : acc.length = r) (hrc : RowsK k acc)
    (hf : mergeF both big l m = (mergeF both big a (y :: b)).map (acc ++ ·)) (hlt : ∀ x a', a = x :: a' → rg y 0 < rg x 0) : MRel T k both big l m B p q (r + 1) w wr ua ub u := by
  refine ⟨a, b, acc ++ [y], hsa, hla, hra, hsb, by simpa using hlb, hrb.tail, ?_, by simp [hlc], hrc.snoc hrb.head, ?_⟩
  · rw [← rows_snoc]; exact hown
  · rw [hf, ← map_push]
    cases a with
    | nil => rw [mergeF, mergeF]; rfl
    | cons x a' => rw [merge_gt (hlt x a' rfl)]
theorem mrel_ab (hsa : Sl w k ua p (rowCells a)) (hla : (x :: a).length = p + 1) (hra : RowsK k (x :: a)) (hsb : Sl w k ub q (rowCells b)) (hlb : (y :: b).length = q + 1) (hrb : RowsK k (y :: b)) (hown : wr.ownsRow B T k u (r + 1) (rowCells acc ++ (both x y).map (Value.int .i64))) (hlc : acc.length = r) (hrc : RowsK k acc)
    (hbk : (both x y).length = k) (hf : mergeF both big l m = (mergeF both big (x :: a) (y :: b)).map (acc ++ ·)) (heq : rg x 0 = rg y 0) (hbig : big (both x y) = false) : MRel T k both big l m B p q (r + 1) w wr ua ub u := by
  refine ⟨a, b, acc ++ [both x y], hsa, by simpa using hla, hra.tail, hsb, by simpa using hlb, hrb.tail, ?_, by simp [hlc], hrc.snoc hbk, ?_⟩
  · rw [← rows_snoc]; exact hown
  · rw [hf, ← map_push, merge_eq heq hbig]
end
theorem cons_of {l : List (List Int)} {n : Nat} (h : l.length = n + 1) : ∃ x r, l = x :: r := by
  cases l with
  | nil => simp at h
  | cons x r => exact ⟨x, r, rfl⟩
end Go.Gh
