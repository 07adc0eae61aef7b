/-
  copy at elements of whatever size; what slices.Insert leaves, as own rows.
-/
import Derived.Test.YtcljeedmiobepaaGen2
import Derived.Test.YtcljeedmiobepaaLib6
import Derived.Laws.IdiomCopy
import Derived.Lib.AppendZerosOnto
import Derived.Lib.Overlaps
import Derived.Deep.RegionLaw
namespace Go.Gh
open Go.RowKit
set_option linter.unusedVariables false
theorem setCells_eq (b : Nat) : ∀ (vs : List Value) (o : Nat) (w : World), w.setCells b o vs = setCells w b o vs
  | [], _, _ => rfl
  | v :: vs, o, w => by rw [World.setCells, setCells, setCells_eq b vs]
theorem run_copy_k {P : Program} (w : World) (dT sT ty elem : TypeId) (k b o dLen dCap : Nat) (a : Addr) (sLen sCap m : Nat) (cs : List Value)
    (hu : P.underlying dT = some (.slice elem)) (hs : (P.info? elem).map (·.size) = some k) (hm : Nat.min sLen dLen = m) (hn : cs.length = m * k)
    (hsrc : ∀ j v, cs[j]? = some v → w.cell? (a.add j) = some v) (hc : ∀ j, j < cs.length → (w.cell? ⟨b, o + j, none⟩).isSome = true) (hf : ∀ j, j < cs.length → w.frozen? ⟨b, o + j, none⟩ = false) (h1 : ∀ v ∈ cs, v.oneCell' = true) :
    (Builtin.copy_ #[dT, sT] ty #[.slice (some ⟨b, o, none⟩) dLen dCap, .slice (some a) sLen sCap]).run P w = .ok (goInt m) (setCells w b o cs) := by
  have hl := run_loadCells_list (P := P) w a cs hsrc
  have hst := run_storeCells_cells (P := P) b o cs 0 w (by simpa using hc) (by simpa using hf) h1
  rw [hn] at hl
  rw [← setCells_eq]
  cases hq : P.info? elem with
  | none => simp [hq] at hs
  | some i =>
    have hi : i.size = k := by simpa [hq] using hs
    simp [Builtin.copy_, run_underlying hu, Builtin.lenOf, Builtin.firstCells, sizeOf, typeInfo, hq, hi, hm, hl, hst]
theorem wp_copy_run' {P : Program} (w : World) {o : Oper} {a : Act} {K : Act → World → Prop} {Q : Exit → Act → World → Prop} (d s : Operand) (t t' : TypeId)
    (ho : o.op = .call { callee := .builtin .copy, args := #[d, s], argTypes := #[t, t'] }) (v u : Value) (hd : a.eval d = v) (hs : a.eval s = u) {v' : Value} {w' : World}
    (hr : (Builtin.copy_ #[t, t'] o.type #[v, u]).run P w = .ok v' w') (h : K (a.put o.dst v') w') : o.wp P a w K Q := by
  unfold Oper.wp execOp
  simp only [ho, resolve, invoke, builtin, Sem.run_bind, Sem.run_pure, Result.andThen_ok, List.map_toArray, List.map_cons, List.map_nil, hd, hs, hr]
  exact h
theorem wpList_copy_run' {P : Program} (w : World) {ops : Array Oper} {rest : List Oper} {o : Oper} {a : Act} {Q : Exit → Act → World → Prop} (hgd : o.guard = none) (d s : Operand) (t t' : TypeId)
    (ho : o.op = .call { callee := .builtin .copy, args := #[d, s], argTypes := #[t, t'] }) (v u : Value) (hd : a.eval d = v) (hs : a.eval s = u) {v' : Value} {w' : World}
    (hr : (Builtin.copy_ #[t, t'] o.type #[v, u]).run P w = .ok v' w') (h : wpList P ops Q rest (a.put o.dst v') w') : wpList P ops Q (o :: rest) a w :=
  wpList_plain hgd fun _ hK => wp_copy_run' w d s t t' ho v u hd hs hr (hK _ _ h)
theorem step_copy_run' {P : Program} {ops : Array Oper} {o : Oper} {a : Act} {w : World} {K : Act → World → Prop} {Q : Exit → Act → World → Prop} {E : Prop}
    (hg : o.guard = none) (d x : Operand) (dT sT : TypeId) (hop : o.op = Op.call { callee := Callee.builtin Builtin.copy, args := #[d, x], argTypes := #[dT, sT] })
    (v u : Value) (hd : a.eval d = v) (hx : a.eval x = u) {v' : Value} {w' : World} (hr : (Builtin.copy_ #[dT, sT] o.type #[v, u]).run P w = .ok v' w') (hK : K (a.put o.dst v') w') :
    if Region.wanted o (yielded ops a.tmps) = true then Oper.wp P o a w K Q else E := by
  have hw : Region.wanted o (yielded ops a.tmps) = true := by simp [Region.wanted, hg]
  rw [if_pos hw]
  exact wp_copy_run' w d x dT sT hop v u hd hx hr hK
/-- What a copy into a row of the call's own leaves. -/
theorem copy_own {P : Program} {w : World} {dT sT ty e : TypeId} {k g n cap o dLen dCap sLen sCap m B : Nat} {a : Addr} {xs cs : List Value} (ht : P.underlying dT = some (.slice e)) (hs : (P.info? e).map (·.size) = some k) (h : w.ownsRow B e k (.slice (some ⟨g, 0, none⟩) n cap) n xs)
    (hm : Nat.min sLen dLen = m) (hn : cs.length = m * k) (hfit : o + m * k ≤ n * k) (hsrc : ∀ j v, cs[j]? = some v → w.cell? (a.add j) = some v) (h1 : ∀ v ∈ cs, v.oneCell' = true) :
    (Builtin.copy_ #[dT, sT] ty #[.slice (some ⟨g, o, none⟩) dLen dCap, .slice (some a) sLen sCap]).run P w = .ok (goInt m) (setCells w g o cs) ∧ (setCells w g o cs).ownsRow B e k (.slice (some ⟨g, 0, none⟩) n cap) n (setFrom xs o cs) := by
  have hl : xs.length = n * k := h.1
  refine ⟨run_copy_k w dT sT ty e k g o dLen dCap a sLen sCap m cs ht hs hm hn hsrc (fun j hj => ?_) (fun j hj => h.frozenAt _) h1, own_stores cs w o xs h⟩
  have hx : o + j < xs.length := by omega
  have hc := h.cells (g := g) rfl (o + j) _ (List.getElem?_eq_getElem hx)
  rw [addr_add, Nat.zero_add] at hc
  rw [hc]
  rfl
theorem drew_setCells' (b : Nat) : ∀ (vs : List Value) (o : Nat) (w : World), (setCells w b o vs).drew = setCells w.drew b o vs
  | [], _, _ => rfl
  | v :: r, o, w => by rw [setCells, setCells, drew_setCells' b r]; rfl
theorem grown_cells {w : World} {b : Nat} {r : Option Nat} (hb : w.heap.size ≤ b ∨ r = some b) : ∀ (us : List Value) (w' : World) (k : Nat), w.grownBy w' r → w.grownBy (setCells w' b k us) r
  | [], w', k, h => h
  | u :: us, w', k, h => grown_cells hb us _ (k + 1) ⟨h.os, h.tape, h.output, by simpa using h.size, fun j hj hne => by
      rw [Below.heap_setCell w' ⟨b, k, none⟩ u j (fun e => by
        rcases hb with hb | hb
        · dsimp only at e; omega
        · exact hne (by rw [hb]; dsimp only at e; rw [e]))]
      exact h.block j hj hne⟩
/-- A row that grows by zero values behind its head. -/
theorem zeros_row {w : World} {e : TypeId} {k n i B old : Nat} {z : Value} {xs : List Value} (hz : z.cells.size = k) (hl : xs.length = i * k) (hi : i ≤ n) (hold : old < n) (hB : B ≤ w.heap.size) (hn : n ≤ maxLen) :
    (w.drew.alloc (.cells (xs.toArray ++ Builtin.zeroCells z.cells (n - i) ++ Builtin.zeroCells z.cells (grownCap w n old e - n)) e)).ownsRow B e k (.slice (some ⟨w.heap.size, 0, none⟩) n (grownCap w n old e)) n (xs ++ (Builtin.zeroCells z.cells (n - i)).toList) ∧ ((Builtin.zeroCells z.cells (n - i)).toList).length = (n - i) * k := by
  have hzl : ((Builtin.zeroCells z.cells (n - i)).toList).length = (n - i) * k := by rw [Array.length_toList, size_zeroCells, hz]
  have := grown_row w (e := e) (old := old) z hz (xs ++ (Builtin.zeroCells z.cells (n - i)).toList) (n := n) (by rw [List.length_append, hl, hzl, ← Nat.add_mul]; congr 1; omega) hold hn hB
  refine ⟨?_, hzl⟩
  rw [show xs.toArray ++ Builtin.zeroCells z.cells (n - i) = (xs ++ (Builtin.zeroCells z.cells (n - i)).toList).toArray from by simp]
  exact this
/-- A row is taken an element longer, into its spare room. -/
theorem own_longer {w : World} {B : Nat} {e : TypeId} {k g n cap : Nat} {xs : List Value} (h : w.ownsRow B e k (.slice (some ⟨g, 0, none⟩) n cap) n xs) (hc : n + 1 ≤ cap) :
    ∃ J : List Value, J.length = k ∧ w.ownsRow B e k (.slice (some ⟨g, 0, none⟩) (n + 1) cap) (n + 1) (xs ++ J) := by
  obtain ⟨hl, h2⟩ := h
  rcases h2 with ⟨e1, _⟩ | ⟨g', cap', cur, e1, hb, hg, hnc, hcm, hsz, htk⟩
  · simp at e1
  · simp at e1
    obtain ⟨rfl, rfl⟩ := e1
    have hcl : cur.toList.length = cap * k := by rw [Array.length_toList, hsz]
    have hle : (n + 1) * k ≤ cap * k := Nat.mul_le_mul_right _ hc
    have hnk : (n + 1) * k = n * k + k := Nat.succ_mul _ _
    refine ⟨(cur.toList.drop (n * k)).take k, by rw [List.length_take, List.length_drop, hcl]; omega, ?_, Or.inr ⟨g, cap, cur, rfl, hb, hg, hc, hcm, hsz, ?_⟩⟩
    · rw [List.length_append, hl, List.length_take, List.length_drop, hcl, hnk]; omega
    · rw [hnk, List.take_add, htk]
theorem ins_grow {xs Z c : List Value} {k n i : Nat} (hx : xs.length = n * k) (hi : i ≤ n) (hc : c.length = k) (hZ : Z.length = (n + 1 - i) * k) :
    setFrom (setFrom (xs.take (i * k) ++ Z) (i * k) c) ((i + 1) * k) (xs.drop (i * k)) = xs.take (i * k) ++ (c ++ xs.drop (i * k)) := by
  have hik : i * k ≤ n * k := Nat.mul_le_mul_right _ hi
  have h1 : (xs.take (i * k)).length = i * k := by rw [List.length_take]; omega
  have hZ2 : (n + 1 - i) * k = k + (n - i) * k := by rw [show n + 1 - i = (n - i) + 1 from by omega, Nat.succ_mul, Nat.add_comm]
  have hni : (n - i) * k = n * k - i * k := Nat.sub_mul _ _ _
  have e1 : Z = Z.take k ++ Z.drop k := (List.take_append_drop k Z).symm
  have h2 : setFrom (xs.take (i * k) ++ Z) (i * k) c = xs.take (i * k) ++ c ++ Z.drop k := by
    conv => lhs; rw [e1, ← List.append_assoc]
    conv => lhs; arg 2; rw [← h1]
    exact setFrom_mid c (Z.take k) (xs.take (i * k)) (Z.drop k) (by rw [List.length_take]; omega)
  rw [h2]
  have h3 := setFrom_mid (xs.drop (i * k)) (Z.drop k) (xs.take (i * k) ++ c) [] (by rw [List.length_drop, List.length_drop]; omega)
  rw [List.append_nil, List.append_nil, List.length_append, h1, hc] at h3
  rw [Nat.succ_mul, h3, List.append_assoc]
theorem ins_shift {xs J c : List Value} {k n i : Nat} (hx : xs.length = n * k) (hi : i ≤ n) (hc : c.length = k) (hJ : J.length = k) :
    setFrom (setFrom (xs ++ J) ((i + 1) * k) (xs.drop (i * k))) (i * k) c = xs.take (i * k) ++ (c ++ xs.drop (i * k)) := by
  have hik : i * k ≤ n * k := Nat.mul_le_mul_right _ hi
  have hsk : (i + 1) * k = i * k + k := Nat.succ_mul _ _
  have hl : (xs ++ J).length = n * k + k := by rw [List.length_append, hx, hJ]
  have h1 : ((xs ++ J).take ((i + 1) * k)).length = (i + 1) * k := by rw [List.length_take]; omega
  have e1 : xs ++ J = (xs ++ J).take ((i + 1) * k) ++ (xs ++ J).drop ((i + 1) * k) := (List.take_append_drop _ _).symm
  have h2 : setFrom (xs ++ J) ((i + 1) * k) (xs.drop (i * k)) = (xs ++ J).take ((i + 1) * k) ++ xs.drop (i * k) := by
    have := setFrom_mid (xs.drop (i * k)) ((xs ++ J).drop ((i + 1) * k)) ((xs ++ J).take ((i + 1) * k)) [] (by rw [List.length_drop, List.length_drop]; omega)
    rw [List.append_nil, List.append_nil, h1, ← e1] at this
    exact this
  have h3 : (xs ++ J).take ((i + 1) * k) = xs.take (i * k) ++ ((xs ++ J).drop (i * k)).take k := by
    rw [hsk, List.take_add, List.take_append_of_le_length (by omega)]
  rw [h2, h3]
  have h4 := setFrom_mid c (((xs ++ J).drop (i * k)).take k) (xs.take (i * k)) (xs.drop (i * k)) (by rw [List.length_take, List.length_drop]; omega)
  have h5 : (xs.take (i * k)).length = i * k := by rw [List.length_take]; omega
  rw [h5] at h4
  rw [h4, List.append_assoc]
end Go.Gh
