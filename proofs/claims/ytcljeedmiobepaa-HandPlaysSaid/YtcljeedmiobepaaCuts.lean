/-
  Slice expressions on slices that read as lists of cells.
-/
import Derived.Test.YtcljeedmiobepaaLib3
namespace Go.Gh
open Go.RowKit
set_option linter.unusedVariables false

theorem sl_sliced {w : World} {size n L H cap : Nat} {ao : Option Addr} {xs : List Value} (h : Sl w size (.slice ao n cap) n xs) (h1 : L ≤ H) (h2 : H ≤ n) : Sl w size (sliced ao L H cap size) (H - L) ((xs.drop (L * size)).take ((H - L) * size)) := by
  obtain ⟨ao', cap', e1, e2, e3, e4, e5, e6⟩ := h
  simp at e1
  obtain ⟨rfl, rfl⟩ := e1
  have hlen : ((xs.drop (L * size)).take ((H - L) * size)).length = (H - L) * size := by
    rw [List.length_take, List.length_drop, e5]
    have : (H - L) * size + L * size ≤ n * size := by rw [← Nat.add_mul]; exact Nat.mul_le_mul_right _ (by omega)
    omega
  refine ⟨_, cap - L, rfl, by omega, by omega, ?_, hlen, fun hn => ?_⟩
  · intro hnone
    split at hnone
    · omega
    · have : ao = none := by
        cases ao with
        | none => rfl
        | some a => simp at hnone
      have := e4 this
      omega
  · obtain ⟨b, off, rfl, hc⟩ := e6 (by omega)
    rw [if_neg (by omega)]
    refine ⟨b, off + L * size, by simp [addr_add], fun i u hu => ?_⟩
    have hi : i < (H - L) * size := by
      rcases Nat.lt_or_ge i ((H - L) * size) with h | h
      · exact h
      · rw [List.getElem?_eq_none (by rw [hlen]; exact h)] at hu; simp at hu
    rw [List.getElem?_take, if_pos hi, List.getElem?_drop] at hu
    rw [Nat.add_assoc]
    exact hc _ u hu
theorem wpList_run {P : Program} {ops : Array Oper} {rest : List Oper} {o : Oper} {a : Act} {Q : Exit → Act → World → Prop} {W : World} {v : Value} (hgd : o.guard = none) (h : (execOp a.eval o).run P W = .ok (.value v) W) (hk : wpList P ops Q rest (a.put o.dst v) W) : wpList P ops Q (o :: rest) a W :=
  wpList_plain hgd fun _ hK => by
    unfold Oper.wp
    rw [h]
    exact hK _ _ hk
theorem run_sizeOf_el {P : Program} {t e : TypeId} {size bytes : Nat} (el : Elem P t e size bytes) (w : World) : (sizeOf e).run P w = .ok size w := by
  obtain ⟨i, z, h2, h3, h4, _⟩ := el.info
  simp [sizeOf, typeInfo, h2, h4]
theorem elem_eq {P : Program} {t e : TypeId} {size bytes : Nat} (el : Elem P t e size bytes) : P.underlying t = some (.slice (P.elem t)) ∧ P.elem t = e := by
  have h := el.und
  have : P.elem t = e := by unfold Program.elem; rw [h]
  exact ⟨by rw [this]; exact h, this⟩
theorem exec_slice {P : Program} {ρ : Operand → Value} {o : Oper} {W : World} {t e : TypeId} {size bytes n cap L H : Nat} {ao : Option Addr} {x : Operand} {lo hi : Option Operand} (el : Elem P t e size bytes) (ho : o.op = .slice t x lo hi none) (hx : ρ x = .slice ao n cap)
    (hr : (Instr.slice t (.slice ao n cap) (lo.map ρ) (hi.map ρ) none).run P W = ((sizeOf (P.elem t)).run P W).andThen fun s w => .ok (sliced ao L H cap s) w) : (execOp ρ o).run P W = .ok (.value (sliced ao L H cap size)) W := by
  obtain ⟨e1, e2⟩ := elem_eq el
  unfold execOp
  rw [ho]
  simp only [Sem.run_bind, Option.map_none, hx, run_sliceAt_slice W t _ _ _ _ e1, hr, e2, run_sizeOf_el el, Result.andThen_ok]
  rfl
/-- x[1:] of a slice that is not empty. -/
theorem wpList_tail {P : Program} {ops : Array Oper} {rest : List Oper} {o : Oper} {a : Act} {Q : Exit → Act → World → Prop} {W W0 : World} {t e : TypeId} {size bytes n : Nat} {x : Operand} {v : Value} {xs : List Value} (el : Elem P t e size bytes) (hgd : o.guard = none)
    (ho : o.op = .slice t x (some (.const (.int .i64 1))) none none) (hx : a.eval x = v) (hS : Sl W0 size v (n + 1) xs) (h : ∀ ao c, Sl W0 size (.slice ao n c) n (xs.drop size) → wpList P ops Q rest (a.put o.dst (.slice ao n c)) W) : wpList P ops Q (o :: rest) a W := by
  obtain ⟨ao, cap, rfl, h2, h3, h4, h5, h6⟩ := hS
  have hS : Sl W0 size (.slice ao (n + 1) cap) (n + 1) xs := ⟨ao, cap, rfl, h2, h3, h4, h5, h6⟩
  obtain ⟨e1, e2⟩ := elem_eq el
  refine wpList_run hgd (exec_slice (L := 1) (H := n + 1) el ho hx ?_) ?_
  · simp only [Option.map_some, Option.map_none]
    exact run_slice_l W t ao (n + 1) cap e1 .i64 1 (by decide) (by omega)
  · have := sl_sliced hS (show 1 ≤ n + 1 by omega) (Nat.le_refl _)
    rw [Nat.one_mul, List.take_of_length_le (by rw [List.length_drop, h5, Nat.add_sub_cancel, Nat.add_mul]; omega)] at this
    exact h _ _ this
/-- x[lo:hi]. -/
theorem wpList_cut {P : Program} {ops : Array Oper} {rest : List Oper} {o : Oper} {a : Act} {Q : Exit → Act → World → Prop} {W W0 : World} {t e : TypeId} {size bytes n : Nat} {x l h : Operand} {v : Value} {xs : List Value} (L H : Nat) (el : Elem P t e size bytes) (hgd : o.guard = none)
    (ho : o.op = .slice t x (some l) (some h) none) (hx : a.eval x = v) (hl : ∃ k, a.eval l = .int k L) (hh : ∃ k, a.eval h = .int k H) (hS : Sl W0 size v n xs) (h1 : L ≤ H) (h2 : H ≤ n) (hk : ∀ ao c, Sl W0 size (.slice ao (H - L) c) (H - L) ((xs.drop (L * size)).take ((H - L) * size)) → wpList P ops Q rest (a.put o.dst (.slice ao (H - L) c)) W) : wpList P ops Q (o :: rest) a W := by
  obtain ⟨ao, cap, rfl, g2, g3, g4, g5, g6⟩ := hS
  have hS : Sl W0 size (.slice ao n cap) n xs := ⟨ao, cap, rfl, g2, g3, g4, g5, g6⟩
  obtain ⟨e1, e2⟩ := elem_eq el
  obtain ⟨kl, hl⟩ := hl
  obtain ⟨kh, hh⟩ := hh
  refine wpList_run hgd (exec_slice (L := L) (H := H) el ho hx ?_) ?_
  · simp only [Option.map_some, hl, hh]
    have := run_slice_lh W t ao n cap e1 kl kh (L : Int) (H : Int) (by omega) (by omega) (by omega)
    simpa using this
  · exact hk _ _ (sl_sliced hS h1 h2)
theorem rowCells_drop {k : Nat} {l : List (List Int)} (h : RowsK k l) (i : Nat) (hi : i ≤ l.length) : (rowCells l).drop (i * k) = rowCells (l.drop i) := by
  conv => lhs; rw [← List.take_append_drop i l]
  rw [rowCells_append]
  have hl : (rowCells (l.take i)).length = i * k := by
    rw [rowCells_len k _ (fun r hr => h r (List.mem_of_mem_take hr)), List.length_take, Nat.min_eq_left hi]
  rw [List.drop_append_of_le_length (by omega), List.drop_of_length_le (by omega), List.nil_append]
theorem rowCells_take {k : Nat} {l : List (List Int)} (h : RowsK k l) (i : Nat) : (rowCells l).take (i * k) = rowCells (l.take i) := by
  rcases Nat.lt_or_ge i l.length with hi | hi
  · conv => lhs; rw [← List.take_append_drop i l]
    rw [rowCells_append]
    have hl : (rowCells (l.take i)).length = i * k := by
      rw [rowCells_len k _ (fun r hr => h r (List.mem_of_mem_take hr)), List.length_take, Nat.min_eq_left (by omega)]
    rw [List.take_append_of_le_length (by omega), List.take_of_length_le (by omega)]
  · rw [List.take_of_length_le hi, List.take_of_length_le]
    rw [rowCells_len k _ h]
    exact Nat.mul_le_mul_right _ hi
theorem RowsK.drop {k : Nat} {l : List (List Int)} (h : RowsK k l) (i : Nat) : RowsK k (l.drop i) := fun r hr => h r (List.mem_of_mem_drop hr)
theorem RowsK.tail {k : Nat} {r : List Int} {l : List (List Int)} (h : RowsK k (r :: l)) : RowsK k l := fun x hx => h x (List.mem_cons_of_mem _ hx)
theorem rowCells_tail {k : Nat} {r : List Int} {l : List (List Int)} (h : r.length = k) : (rowCells (r :: l)).drop k = rowCells l := by
  unfold rowCells
  rw [List.flatMap_cons, List.drop_append_of_le_length (by simp; omega), List.drop_of_length_le (by simp; omega), List.nil_append]
theorem RowsK.snoc {k : Nat} {acc : List (List Int)} {r : List Int} (h : RowsK k acc) (hr : r.length = k) : RowsK k (acc ++ [r]) := by
  intro x hx
  rcases List.mem_append.1 hx with h' | h'
  · exact h x h'
  · simp at h'; subst h'; exact hr
/-- The head of a list of rows: where it lies, its cells. -/
theorem Sl.head {w : World} {ao : Option Addr} {n c k : Nat} {r : List Int} {l : List (List Int)} (h : Sl w k (.slice ao n c) n (rowCells (r :: l))) (hn : (r :: l).length = n) (hr : RowsK k (r :: l)) :
    ∃ b off, ao = some ⟨b, off, none⟩ ∧ r.length = k ∧ ∀ j, j < k → w.cell? ⟨b, off + j, none⟩ = some (.int .i64 (r.getD j 0)) := by
  obtain ⟨b, off, h1, h2, h3⟩ := h.rowk hn hr (i := 0) (by rw [← hn]; simp)
  refine ⟨b, off, h1, h2, fun j hj => ?_⟩
  have := h3 j hj
  rwa [Nat.zero_mul, Nat.add_zero] at this
end Go.Gh
