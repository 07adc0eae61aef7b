/-
  Two structs whose fields are all int64, held against each other.
-/
import Derived.Test.YtcljeedmiobepaaSamples
import Derived.ChangeKeysEq
import Derived.BigQuiet
namespace Go.Gh
open Go.RowKit
set_option linter.unusedVariables false

/-- A struct type of k int64 fields, compared field by field. -/
def ints64 (P : Program) (t : TypeId) (k : Nat) : Bool :=
  (match P.underlying t with
  | some (.struct fs) => fs.size == k && (List.range k).all fun j => match fs[j]? with
    | some f => f.name != "_" && f.offset == j && (match P.underlying f.type with | some (.int .i64) => true | _ => false)
    | none => false
  | _ => false) && !P.stoodInHeld t && !P.eqGuardType P.depth t
theorem ints64_of {P : Program} {t : TypeId} {k : Nat} (h : ints64 P t k = true) : ∃ fs : Array Field, P.underlying t = some (.struct fs) ∧ fs.size = k ∧ P.stoodInHeld t = false ∧ P.eqGuardType P.depth t = false ∧
    ∀ (j : Nat) (f : Field), fs[j]? = some f → f.name ≠ "_" ∧ f.offset = j ∧ P.underlying f.type = some (.int .i64) := by
  unfold ints64 at h
  rw [Bool.and_eq_true, Bool.and_eq_true] at h
  obtain ⟨⟨h1, h2⟩, h3⟩ := h
  split at h1
  · rename_i fs hu
    rw [Bool.and_eq_true] at h1
    refine ⟨fs, hu, by simpa using h1.1, by simpa using h2, by simpa using h3, fun j f hj => ?_⟩
    have hk : fs.size = k := by simpa using h1.1
    have hjl : j < k := by rw [← hk]; exact (Array.getElem?_eq_some_iff.1 hj).1
    have := List.all_eq_true.1 h1.2 j (List.mem_range.2 hjl)
    rw [hj] at this
    simp only [Bool.and_eq_true] at this
    refine ⟨by simpa using this.1.1, by simpa using this.1.2, ?_⟩
    have h4 := this.2
    split at h4
    · assumption
    · simp at h4
  · simp at h1
theorem run_part_int {P : Program} {w : World} {t : TypeId} (hu : P.underlying t = some (.int .i64)) {xs : Array Value} {off : Nat} {v : Value} (hx : xs[off]? = some v) : (part t xs off).run P w = .ok v w := by
  simp [part, isAgg, run_underlying hu, hx]
theorem run_eqFields_ints {P : Program} {w : World} {d : Nat} {l m : List Int} : ∀ (fs : List Field) (j : Nat), (∀ (i : Nat) (f : Field), fs[i]? = some f → f.name ≠ "_" ∧ f.offset = j + i ∧ P.underlying f.type = some (.int .i64)) →
    l.length = j + fs.length → m.length = j + fs.length → (Op.eqFields (d + 1) (l.map (Value.int .i64)).toArray (m.map (Value.int .i64)).toArray fs).run P w = .ok (decide (l.drop j = m.drop j)) w
  | [], j, h, hl, hm => by
    simp only [List.length_nil, Nat.add_zero] at hl hm
    rw [List.drop_of_length_le (by omega), List.drop_of_length_le (by omega)]
    simp [Op.eqFields]
  | f :: fs, j, h, hl, hm => by
    obtain ⟨hn, ho, hu⟩ := h 0 f rfl
    rw [Nat.add_zero] at ho
    rw [List.length_cons] at hl hm
    have jl : j < l.length := by omega
    have jm : j < m.length := by omega
    have p1 : (part f.type (l.map (Value.int .i64)).toArray f.offset).run P w = .ok (.int .i64 l[j]) w := run_part_int hu (by rw [ho]; simp [jl])
    have p2 : (part f.type (m.map (Value.int .i64)).toArray f.offset).run P w = .ok (.int .i64 m[j]) w := run_part_int hu (by rw [ho]; simp [jm])
    have ih := run_eqFields_ints (P := P) (w := w) (d := d) (l := l) (m := m) fs (j + 1) (fun i g hg => by have := h (i + 1) g hg; rw [show j + 1 + i = j + (i + 1) from by omega]; exact this) (by omega) (by omega)
    simp only [Op.eqFields, hn, ne_eq, not_false_eq_true, if_true, Sem.run_bind, p1, p2, Result.andThen_ok, run_equalIn_int w d f.type .i64 .i64 l[j] m[j] hu]
    rw [List.drop_eq_getElem_cons jl, List.drop_eq_getElem_cons jm]
    generalize l.drop (j + 1) = A at *
    generalize m.drop (j + 1) = B at *
    by_cases he : l[j] = m[j]
    · rw [he]
      simp only [beq_self_eq_true, Bool.not_true, Bool.false_eq_true, if_false, List.cons.injEq, true_and]
      exact ih
    · have : (l[j] == m[j]) = false := by simpa using he
      simp only [this, Bool.not_false, if_true, List.cons.injEq, he, false_and, decide_false]
      rfl
theorem run_equal_ints {P : Program} {w : World} {t : TypeId} {k : Nat} (ht : ints64 P t k = true) {l m : List Int} (hl : l.length = k) (hm : m.length = k) :
    (Op.equalIn 10000 t (.agg (l.map (Value.int .i64)).toArray) (.agg (m.map (Value.int .i64)).toArray)).run P w = .ok (decide (l = m)) w := by
  obtain ⟨fs, hu, hk, hs, _, hf⟩ := ints64_of ht
  have hfo : P.fieldsOf t = fs := by unfold Program.fieldsOf; rw [hu]
  rw [show (10000 : Nat) = 9999 + 1 from rfl, run_equalIn_struct w 9999 t _ _ (by rw [hfo]; exact hu) hs, hfo]
  have := run_eqFields_ints (P := P) (w := w) (d := 9998) (l := l) (m := m) fs.toList 0 (fun i f h => by rw [Nat.zero_add]; exact hf i f (by simpa using h)) (by simp; omega) (by simp; omega)
  simpa using this
theorem exec_neq_ints {P : Program} {ρ : Operand → Value} {o : Oper} {w : World} {t t' : TypeId} {x y : Operand} {k : Nat} (ho : o.op = .binOp .neq t x y t') (ht : ints64 P t k = true) {l m : List Int} (hl : l.length = k) (hm : m.length = k)
    (hx : ρ x = .agg (l.map (Value.int .i64)).toArray) (hy : ρ y = .agg (m.map (Value.int .i64)).toArray) : (execOp ρ o).run P w = .ok (.value (.bool (!decide (l = m)))) w := by
  obtain ⟨_, _, _, _, hg, _⟩ := ints64_of ht
  unfold execOp
  rw [ho]
  simp only [Sem.run_bind, hx, hy, run_eqGuard_agg w _ _ _ _ _ _ hg, Result.andThen_ok, run_neq_struct, run_equal_ints ht hl hm]
  rfl
theorem quiet_of_run {P : Program} {o : Oper} {a : Act} {C : World → Prop} {K : Act → Prop} (v : Value) (h : ∀ w, (execOp a.eval o).run P w = .ok (.value v) w) (hk : K (a.put o.dst v)) : o.quiet P a C K :=
  ⟨v, fun w _ => by unfold Oper.quietAt; rw [h w]; exact ⟨rfl, rfl⟩, hk⟩
/-- Two lists are alike up to k. -/
def sameUp (l m : List (List Int)) (k : Nat) : Prop := ∀ i, i < k → l.getD i [] = m.getD i []
theorem sameUp_succ {l m : List (List Int)} {k : Nat} (h : sameUp l m k) (hk : l.getD k [] = m.getD k []) : sameUp l m (k + 1) := by
  intro i hi
  rcases Nat.lt_or_eq_of_le (Nat.le_of_lt_succ hi) with h' | h'
  · exact h i h'
  · rw [h']; exact hk
theorem same_all {l m : List (List Int)} (hlen : l.length = m.length) (h : sameUp l m l.length) : l = m := by
  refine List.ext_getElem hlen fun i h1 h2 => ?_
  have := h i h1
  rwa [List.getD_eq_getElem?_getD, List.getD_eq_getElem?_getD, List.getElem?_eq_getElem h1, List.getElem?_eq_getElem h2] at this
end Go.Gh
