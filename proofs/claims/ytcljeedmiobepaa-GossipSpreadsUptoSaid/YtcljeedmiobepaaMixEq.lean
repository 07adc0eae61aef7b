/-
  Two structs whose fields are integers and strings, held against each other.
-/
import Derived.Test.YtcljeedmiobepaaStructEq
import Derived.Laws.StructEq
namespace Go.Gh
open Go.RowKit
set_option linter.unusedVariables false
def mixTy : Option TypeDesc → Bool
  | some (.int _) => true
  | some .string => true
  | _ => false
/-- A struct type of k fields of one cell each, integers or strings. -/
def mixed (P : Program) (t : TypeId) (k : Nat) : Bool :=
  (match P.underlying t with
  | some (.struct fs) => fs.size == k && (List.range k).all fun j => match fs[j]? with
    | some f => f.name != "_" && f.offset == j && mixTy (P.underlying f.type)
    | none => false
  | _ => false) && !P.stoodInHeld t && !P.eqGuardType P.depth t
/-- A cell is of its field's kind. -/
def cellOk (d : Option TypeDesc) (v : Value) : Prop := match d, v with
  | some (.int k), .int k' _ => k = k'
  | some .string, .string _ => True
  | _, _ => False
def eqCell : Value → Value → Bool
  | .int _ a, .int _ b => a == b
  | .string a, .string b => a.toList == b.toList
  | _, _ => false
def eqCells : List Value → List Value → Bool
  | [], [] => true
  | a :: l, b :: m => eqCell a b && eqCells l m
  | _, _ => false
theorem mixed_of {P : Program} {t : TypeId} {k : Nat} (h : mixed P t k = true) : ∃ fs : Array Field, P.underlying t = some (.struct fs) ∧ fs.size = k ∧ P.stoodInHeld t = false ∧ P.eqGuardType P.depth t = false ∧
    ∀ (j : Nat) (f : Field), fs[j]? = some f → f.name ≠ "_" ∧ f.offset = j ∧ mixTy (P.underlying f.type) = true := by
  unfold mixed at h
  rw [Bool.and_eq_true, Bool.and_eq_true] at h
  obtain ⟨⟨h1, h2⟩, h3⟩ := h
  split at h1
  · rename_i fs hu
    rw [Bool.and_eq_true] at h1
    refine ⟨fs, hu, by simpa using h1.1, by simpa using h2, by simpa using h3, fun j f hj => ?_⟩
    have hk : fs.size = k := by simpa using h1.1
    have hjl : j < k := by rw [← hk]; exact (Array.getElem?_eq_some_iff.1 hj).1
    have := List.all_eq_true.1 h1.2 j (List.mem_range.2 hjl)
    rw [hj] at this
    simp only [Bool.and_eq_true] at this
    exact ⟨by simpa using this.1.1, by simpa using this.1.2, this.2⟩
  · simp at h1
theorem run_part_mix {P : Program} {w : World} {t : TypeId} (hu : mixTy (P.underlying t) = true) {xs : Array Value} {off : Nat} {v : Value} (hx : xs[off]? = some v) : (part t xs off).run P w = .ok v w := by
  cases h : P.underlying t with
  | none => rw [h] at hu; simp [mixTy] at hu
  | some d =>
    rw [h] at hu
    cases d <;> simp [mixTy] at hu <;> simp [part, isAgg, run_underlying h, hx]
theorem run_equal_cell {P : Program} {w : World} {t : TypeId} {d : Nat} {a b : Value} (ha : cellOk (P.underlying t) a) (hb : cellOk (P.underlying t) b) : (Op.equalIn (d + 1) t a b).run P w = .ok (eqCell a b) w := by
  cases h : P.underlying t with
  | none => rw [h] at ha; cases a <;> simp [cellOk] at ha
  | some D =>
    rw [h] at ha hb
    cases D <;> cases a <;> simp [cellOk] at ha <;> cases b <;> simp [cellOk] at hb
    · subst ha
      subst hb
      exact run_equalIn_int w d t _ _ _ _ h
    · exact run_equalIn_string w d t _ _ h
theorem run_eqFields_mix {P : Program} {w : World} {d : Nat} {l m : List Value} : ∀ (fs : List Field) (j : Nat), (∀ (i : Nat) (f : Field), fs[i]? = some f → f.name ≠ "_" ∧ f.offset = j + i ∧ mixTy (P.underlying f.type) = true) →
    (∀ (i : Nat) (f : Field) (v : Value), fs[i]? = some f → l[j + i]? = some v → cellOk (P.underlying f.type) v) → (∀ (i : Nat) (f : Field) (v : Value), fs[i]? = some f → m[j + i]? = some v → cellOk (P.underlying f.type) v) →
    l.length = j + fs.length → m.length = j + fs.length → (Op.eqFields (d + 1) l.toArray m.toArray fs).run P w = .ok (eqCells (l.drop j) (m.drop j)) w
  | [], j, h, _, _, hl, hm => by
    simp only [List.length_nil, Nat.add_zero] at hl hm
    rw [List.drop_of_length_le (by omega), List.drop_of_length_le (by omega)]
    simp [Op.eqFields, eqCells]
  | f :: fs, j, h, ca, cb, hl, hm => by
    obtain ⟨hn, ho, hu⟩ := h 0 f rfl
    rw [Nat.add_zero] at ho
    rw [List.length_cons] at hl hm
    have jl : j < l.length := by omega
    have jm : j < m.length := by omega
    have p1 : (part f.type l.toArray f.offset).run P w = .ok l[j] w := run_part_mix hu (by rw [ho]; simp [jl])
    have p2 : (part f.type m.toArray f.offset).run P w = .ok m[j] w := run_part_mix hu (by rw [ho]; simp [jm])
    have k1 := ca 0 f l[j] rfl (by rw [Nat.add_zero]; exact List.getElem?_eq_getElem jl)
    have k2 := cb 0 f m[j] rfl (by rw [Nat.add_zero]; exact List.getElem?_eq_getElem jm)
    have sh : ∀ i, j + 1 + i = j + (i + 1) := fun i => by omega
    have ih := run_eqFields_mix (P := P) (w := w) (d := d) (l := l) (m := m) fs (j + 1) (fun i g hg => by have := h (i + 1) g hg; rw [sh]; exact this) (fun i g v hg hv => ca (i + 1) g v hg (by rw [sh] at hv; exact hv)) (fun i g v hg hv => cb (i + 1) g v hg (by rw [sh] at hv; exact hv)) (by omega) (by omega)
    simp only [Op.eqFields, hn, ne_eq, not_false_eq_true, if_true, Sem.run_bind, p1, p2, Result.andThen_ok, run_equal_cell k1 k2]
    rw [List.drop_eq_getElem_cons jl, List.drop_eq_getElem_cons jm, eqCells]
    cases eqCell l[j] m[j] with
    | true => simpa using ih
    | false => simp
def fieldDesc (P : Program) (t : TypeId) (i : Nat) : Option TypeDesc := match P.underlying t with
  | some (.struct fs) => (fs[i]?).bind fun f => P.underlying f.type
  | _ => none
theorem fieldDesc_at {P : Program} {t : TypeId} {fs : Array Field} {i : Nat} {f : Field} (hu : P.underlying t = some (.struct fs)) (hf : fs[i]? = some f) : fieldDesc P t i = P.underlying f.type := by
  unfold fieldDesc
  rw [hu]
  simp only [hf, Option.bind_some]
/-- The cells are of the fields' kinds. -/
def rowOk (P : Program) (t : TypeId) (l : List Value) : Prop := ∀ (i : Nat) (v : Value), l[i]? = some v → cellOk (fieldDesc P t i) v
theorem run_equal_mix {P : Program} {w : World} {t : TypeId} {k : Nat} (ht : mixed P t k = true) {l m : List Value} (hl : l.length = k) (hm : m.length = k) (hlo : rowOk P t l) (hmo : rowOk P t m) :
    (Op.equalIn 10000 t (.agg l.toArray) (.agg m.toArray)).run P w = .ok (eqCells l m) w := by
  obtain ⟨fs, hu, hk, hs, _, hf⟩ := mixed_of ht
  have hfo : P.fieldsOf t = fs := by unfold Program.fieldsOf; rw [hu]
  rw [show (10000 : Nat) = 9999 + 1 from rfl, run_equalIn_struct w 9999 t _ _ (by rw [hfo]; exact hu) hs, hfo]
  have := run_eqFields_mix (P := P) (w := w) (d := 9998) (l := l) (m := m) fs.toList 0 (fun i f h => by rw [Nat.zero_add]; exact hf i f (by simpa using h)) (fun i f v h hv => by rw [← fieldDesc_at hu (by simpa using h)]; exact hlo i v (by rw [Nat.zero_add] at hv; exact hv)) (fun i f v h hv => by rw [← fieldDesc_at hu (by simpa using h)]; exact hmo i v (by rw [Nat.zero_add] at hv; exact hv)) (by simp; omega) (by simp; omega)
  simpa using this
theorem exec_neq_mix {P : Program} {ρ : Operand → Value} {o : Oper} {w : World} {t t' : TypeId} {x y : Operand} {k : Nat} (ho : o.op = .binOp .neq t x y t') (ht : mixed P t k = true) {l m : List Value} (hl : l.length = k) (hm : m.length = k) (hlo : rowOk P t l) (hmo : rowOk P t m)
    (hx : ρ x = .agg l.toArray) (hy : ρ y = .agg m.toArray) : (execOp ρ o).run P w = .ok (.value (.bool (!eqCells l m))) w := by
  obtain ⟨_, _, _, _, hg, _⟩ := mixed_of ht
  unfold execOp
  rw [ho]
  simp only [Sem.run_bind, hx, hy, run_eqGuard_agg w _ _ _ _ _ _ hg, Result.andThen_ok, run_neq_struct, run_equal_mix ht hl hm hlo hmo]
  rfl
theorem eqCells_self {l : List Value} (h : ∀ v ∈ l, (∃ k a, v = .int k a) ∨ ∃ s, v = .string s) : eqCells l l = true := by
  induction l with
  | nil => rfl
  | cons v l ih =>
    rw [eqCells, ih (fun u hu => h u (by simp [hu]))]
    rcases h v (by simp) with ⟨k, a, rfl⟩ | ⟨s, rfl⟩
    · simp [eqCell]
    · simp [eqCell]
end Go.Gh
