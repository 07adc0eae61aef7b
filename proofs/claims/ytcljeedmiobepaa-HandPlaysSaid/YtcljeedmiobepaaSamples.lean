/-
  Slices of structs whose fields are all int64: how they read, and arguments opened.
-/
import Derived.Test.YtcljeedmiobepaaLib2
import Derived.Test.YtcljeedmiobepaaFlat
import Derived.Deep.Fields
import Derived.ChangeSame
namespace Go.Gh
open Go.RowKit Go.ChangeShapes Go.WideShapes Go.ChangeAt Go.Deep
set_option linter.unusedVariables false

/-- The cells of rows of numbers. -/
def rowCells (l : List (List Int)) : List Value := l.flatMap fun r => r.map (Value.int .i64)
def Rows64 (k : Nat) (l : List (List Int)) : Prop := ∀ r ∈ l, r.length = k ∧ ∀ z ∈ r, (Lit.int .i64 z).wf = true

theorem rowCells_len (k : Nat) (l : List (List Int)) (h : ∀ r ∈ l, r.length = k) : (rowCells l).length = l.length * k := by
  unfold rowCells
  induction l with
  | nil => simp
  | cons a l ih => rw [List.flatMap_cons, List.length_append, List.length_map, h a (by simp), ih (fun r hr => h r (by simp [hr])), List.length_cons, Nat.succ_mul, Nat.add_comm]
theorem rowCells_get (k : Nat) (l : List (List Int)) (h : ∀ r ∈ l, r.length = k) (i j : Nat) (hi : i < l.length) (hj : j < k) : (rowCells l)[i * k + j]? = (l[i].map (Value.int .i64))[j]? := by
  unfold rowCells
  induction l generalizing i with
  | nil => simp at hi
  | cons a l ih =>
    have ha := h a (by simp)
    rw [List.flatMap_cons]
    cases i with
    | zero => rw [Nat.zero_mul, Nat.zero_add, List.getElem?_append_left (by rw [List.length_map, ha]; exact hj)]; rfl
    | succ i =>
      rw [Nat.succ_mul, List.getElem?_append_right (by rw [List.length_map, ha]; omega), List.length_map, ha, show i * k + k + j - k = i * k + j from by omega]
      exact ih (fun r hr => h r (by simp [hr])) i (by simpa using hi)
section
variable {H : Type} {enc : TypeId × Value → H} {P : Program} {W : World} {base : Nat} {spare : Nat → Bool} {held : Bool}
theorem sl_structs {t e : TypeId} {fs : Array Field} {fuel : Nat} {v : Value} {x : DataW H × List MemPlace} (ht : P.underlying t = some (.slice e)) (he : P.underlying e = some (.struct fs))
    (hi : ∀ (j : Nat) (f : Field), fs[j]? = some f → P.underlying f.type = some (.int .i64)) (hone : oneCellFields P fs = true) (hpos : 0 < fs.size) (hC : P.cellsOf e = fs.size)
    (h : DataW.trod enc P W base spare held fuel t [v] = some x) (hs : ∀ n ∈ x.1.weights P t, n ≤ reachBytes) :
    ∃ (n : Nat) (l : List (List Int)), Sl W fs.size v n (rowCells l) ∧ l.length = n ∧ Rows64 fs.size l ∧ n * P.bytesOf e ≤ reachBytes := by
  rcases open_slice ht h with ⟨hcs, _⟩ | ⟨a, len, cap, m, n, D, Pl, hcs, hb, hl, hm, hmm, hx, hi'⟩
  · obtain rfl : v = .slice none 0 0 := by simpa using hcs
    exact ⟨0, [], ⟨none, 0, rfl, Nat.le_refl _, Nat.zero_le _, fun _ => rfl, by simp [rowCells], fun h => absurd h (Nat.lt_irrefl _)⟩, rfl, by intro r hr; simp at hr, by simp⟩
  · obtain rfl : v = .slice (some a) len cap := by simpa using hcs
    have hlm : len ≤ m := by rw [hmm]; split <;> omega
    have each : ∀ i, i < len → ∃ r : List Int, (r.length = fs.size ∧ ∀ z ∈ r, (Lit.int .i64 z).wf = true) ∧ ∀ j u, (r.map (Value.int .i64))[j]? = some u → W.cell? (a.add (i * fs.size + j)) = some u := by
      intro i hlt
      obtain ⟨cs', hc, ht'⟩ := hi' i (by omega)
      rw [hC] at hc
      obtain ⟨xs, n', _, _, hlen, hxl, hf⟩ := DataW.trod_struct he ht'
      obtain ⟨_, hcl, hat⟩ := World.cells?_some hc
      have hz : ∀ j, j < fs.size → ∃ z : Int, cs'[j]? = some (.int .i64 z) ∧ (Lit.int .i64 z).wf = true := by
        intro j hj
        have hfj : fs[j]? = some fs[j] := Array.getElem?_eq_getElem hj
        obtain ⟨ho, hk⟩ := hone_of hone j _ hfj
        have h1 := hf j _ hfj
        have hjc : j < cs'.length := by rw [hcl]; exact hj
        rw [ho, hk, take1_drop cs' j undef hjc, List.getElem?_eq_getElem (show j < xs.length by rw [hxl]; exact hj)] at h1
        obtain ⟨z, hzz, _, hw⟩ := DataW.trod_int (hi j _ hfj) h1
        refine ⟨z, ?_, hw⟩
        rw [List.getElem?_eq_getElem hjc]
        have : cs'.getD j undef = .int .i64 z := by simpa using hzz
        rw [List.getD_eq_getElem?_getD, List.getElem?_eq_getElem hjc] at this
        simpa using this
      obtain ⟨Z, hZ⟩ := choose_lt hz
      refine ⟨(List.range fs.size).map Z, ⟨by simp, ?_⟩, ?_⟩
      · intro z hz'
        simp at hz'
        obtain ⟨j, hj, rfl⟩ := hz'
        exact (hZ j hj).2
      · intro j u hu
        have hj : j < fs.size := by
          rcases Nat.lt_or_ge j fs.size with h' | h'
          · exact h'
          · rw [List.getElem?_eq_none (by simp; exact h')] at hu; simp at hu
        simp [hj] at hu
        subst hu
        have h2 := hat j hj
        rw [add_add, (hZ j hj).1] at h2
        exact h2
    obtain ⟨R, hR⟩ := choose_lt each
    have hlen : ((List.range len).map R).length = len := by simp
    have hsz : ∀ r ∈ (List.range len).map R, r.length = fs.size := by
      intro r hr
      simp at hr
      obtain ⟨i, hi, rfl⟩ := hr
      exact (hR i hi).1.1
    refine ⟨len, (List.range len).map R, ⟨some a, cap, rfl, hl, hm, fun h => by simp at h, ?_, fun hn => ?_⟩, hlen, ?_, ?_⟩
    · rw [rowCells_len fs.size _ hsz, hlen]
    · have h0 := (hR 0 hn).2 0 (.int .i64 ((R 0).getD 0 0)) (by
        have : 0 < (R 0).length := by rw [(hR 0 hn).1.1]; exact hpos
        simp [this])
      obtain ⟨b, off, spot⟩ := a
      have hs := World.cell?_spot h0
      simp [Addr.add] at hs
      subst hs
      refine ⟨b, off, rfl, fun i u hu => ?_⟩
      have hidx : i < len * fs.size := by
        rcases Nat.lt_or_ge i (len * fs.size) with h' | h'
        · exact h'
        · rw [List.getElem?_eq_none (by rw [rowCells_len fs.size _ hsz, hlen]; exact h')] at hu; simp at hu
      have hq : i / fs.size < len := Nat.div_lt_of_lt_mul (by rw [Nat.mul_comm]; exact hidx)
      have hr : i % fs.size < fs.size := Nat.mod_lt _ hpos
      have hdm : i / fs.size * fs.size + i % fs.size = i := by rw [Nat.mul_comm]; exact Nat.div_add_mod i fs.size
      rw [← hdm, rowCells_get fs.size _ hsz (i / fs.size) (i % fs.size) (by rw [hlen]; exact hq) hr] at hu
      have := (hR (i / fs.size) hq).2 (i % fs.size) u (by simpa using hu)
      rw [addr_add, hdm] at this
      exact this
    · intro r hr
      simp at hr
      obtain ⟨i, hi, rfl⟩ := hr
      exact (hR i hi).1
    · have := hs ((((List.range len).map D).length + ((List.range (m - len)).map fun j => D (len + j)).length) * P.bytesOf e) (by rw [hx]; simp [DataW.weights, ht])
      refine Nat.le_trans (Nat.mul_le_mul_right _ ?_) this
      simp
end

/-- A slice of structs of k fields, all int64, that came in. -/
def IsRows (k : Nat) (w : World) (v : Value) : Prop := ∃ (n : Nat) (l : List (List Int)), Sl w k v n (rowCells l) ∧ l.length = n ∧ Rows64 k l ∧ n ≤ 140737488355328
def all64 (P : Program) (fs : Array Field) : Bool := (List.range fs.size).all fun j => match fs[j]? with
  | some f => match P.underlying f.type with
    | some (.int .i64) => true
    | _ => false
  | none => false
theorem all64_of {P : Program} {fs : Array Field} (h : all64 P fs = true) : ∀ (j : Nat) (f : Field), fs[j]? = some f → P.underlying f.type = some (.int .i64) := by
  intro j f hj
  have hlt : j < fs.size := (Array.getElem?_eq_some_iff.1 hj).1
  have := List.all_eq_true.1 h j (List.mem_range.2 hlt)
  rw [hj] at this
  simp only at this
  split at this
  · assumption
  · simp at this
section
variable {H : Type} {enc : TypeId × Value → H} {P : Program} {W : World} {base b0 : Nat} {r : Reach} {spare : Nat → Bool} {held : Bool} {t e : TypeId} {v : Value} {d : DataW H} {ps : List MemPlace}
theorem isRows_of {fs : Array Field} (ht : P.underlying t = some (.slice e)) (he : P.underlying e = some (.struct fs)) (h64 : all64 P fs = true) (hone : oneCellFields P fs = true) (hpos : 0 < fs.size) (hC : P.cellsOf e = fs.size) (hb : 0 < P.bytesOf e)
    (hv : Value.okWide P W r b0 t v) (hd : DataW.Trod enc P W base spare held t v d ps) (hs : ∀ n ∈ d.weights P t, n ≤ reachBytes) : IsRows fs.size W v := by
  obtain ⟨a, l, c, rfl⟩ := okWide_slice ht hv
  obtain ⟨fuel, hf⟩ := hd
  obtain ⟨n, l, h1, h2, h3, h4⟩ := sl_structs ht he (all64_of h64) hone hpos hC (by simpa [Value.cells] using hf) hs
  exact ⟨n, l, h1, h2, h3, reach_le h4 hb⟩
end
/-- An element: where it lies, and its fields' cells. -/
theorem Sl.row {w : World} {ao : Option Addr} {n c k : Nat} {l : List (List Int)} (h : Sl w k (.slice ao n c) n (rowCells l)) (hl : l.length = n) (hr : Rows64 k l) {i : Nat} (hi : i < n) :
    ∃ b off, ao = some ⟨b, off, none⟩ ∧ (l.getD i []).length = k ∧ (∀ z ∈ l.getD i [], (Lit.int .i64 z).wf = true) ∧ ∀ j, j < k → w.cell? ⟨b, off + i * k + j, none⟩ = some (.int .i64 ((l.getD i []).getD j 0)) := by
  obtain ⟨ao', cap, h1, h2, h3, h4, h5, h6⟩ := h
  simp at h1
  obtain ⟨rfl, rfl⟩ := h1
  obtain ⟨b, off, rfl, hc⟩ := h6 (by omega)
  have hil : i < l.length := by omega
  have hg : l.getD i [] = l[i] := by rw [List.getD_eq_getElem?_getD, List.getElem?_eq_getElem hil]; rfl
  rw [hg]
  have hri := hr l[i] (List.getElem_mem _)
  refine ⟨b, off, rfl, hri.1, hri.2, fun j hj => ?_⟩
  have := rowCells_get k l (fun r hr' => (hr r hr').1) i j hil hj
  rw [Nat.add_assoc]
  refine hc _ _ ?_
  rw [this]
  have hj' : j < l[i].length := by rw [hri.1]; exact hj
  simp [hj']
end Go.Gh
