/-
  copy at elements of whatever size; what slices.Insert leaves, as own rows.
-/
import Derived.Test.YtjmplhkdohlbcaaGreatDoorEz3
import Derived.Test.YtjmplhkdohlbcaaGreatDoorEz5
import Derived.Laws.IdiomCopy
import Derived.Lib.AppendZerosOnto
import Derived.Lib.Overlaps
import Derived.Deep.RegionLaw
import Derived.Deep.Cut
import Derived.Deep.DeepCutAuto
import Derived.WalkSpells
import Derived.OwnWalk
import Derived.Shelf.Lay
import Derived.Shelf.Strings.OnBuilder
import Derived.Shelf.Small.Wraps
import Derived.Shelf.LaysM
import Derived.Shelf.Strings.Shaped
import Derived.Shelf.Strings.Prefix
import Derived.Test.YtjmplhkdohlbcaaGreatDoorProg
namespace Go.Gh
open Go.RowKit
set_option linter.unusedVariables false
theorem setCells_eq (b : Nat) : ∀ (vs : List Value) (o : Nat) (w : World), w.setCells b o vs = setCells w b o vs
  | [], _, _ => rfl
  | v :: vs, o, w => by rw [World.setCells, setCells, setCells_eq b vs]
theorem run_copy_k {P : Program} (w : World) (dT sT ty elem : TypeId) (k b o dLen dCap : Nat) (a : Addr) (sLen sCap m : Nat) (cs : List Value)
    (hu : P.underlying dT = some (.slice elem)) (hs : (P.info? elem).map (·.size) = some k) (hm : Nat.min sLen dLen = m) (hn : cs.length = m * k)
    (hsrc : ∀ j v, cs[j]? = some v → w.cell? (a.add j) = some v) (hc : ∀ j, j < cs.length → (w.cell? ⟨b, o + j, none⟩).isSome = true) (hf : ∀ j, j < cs.length → w.frozen? ⟨b, o + j, none⟩ = false) (h1 : ∀ v ∈ cs, v.oneCell' = true) :
    (Builtin.copy_ #[dT, sT] ty #[.slice (some ⟨b, o, none⟩) dLen dCap, .slice (some a) sLen sCap]).run P w = .ok (goInt m) (setCells w b o cs) := by
  have hl := run_loadCells_list (P := P) w a cs hsrc
  have hst := run_storeCells_cells (P := P) b o cs 0 w (by simpa using hc) (by simpa using hf) h1
  rw [hn] at hl
  rw [← setCells_eq]
  cases hq : P.info? elem with
  | none => simp [hq] at hs
  | some i =>
    have hi : i.size = k := by simpa [hq] using hs
    simp [Builtin.copy_, run_underlying hu, Builtin.lenOf, Builtin.firstCells, sizeOf, typeInfo, hq, hi, hm, hl, hst]
theorem wp_copy_run' {P : Program} (w : World) {o : Oper} {a : Act} {K : Act → World → Prop} {Q : Exit → Act → World → Prop} (d s : Operand) (t t' : TypeId)
    (ho : o.op = .call { callee := .builtin .copy, args := #[d, s], argTypes := #[t, t'] }) (v u : Value) (hd : a.eval d = v) (hs : a.eval s = u) {v' : Value} {w' : World}
    (hr : (Builtin.copy_ #[t, t'] o.type #[v, u]).run P w = .ok v' w') (h : K (a.put o.dst v') w') : o.wp P a w K Q := by
  unfold Oper.wp execOp
  simp only [ho, resolve, invoke, builtin, Sem.run_bind, Sem.run_pure, Result.andThen_ok, List.map_toArray, List.map_cons, List.map_nil, hd, hs, hr]
  exact h
theorem wpList_copy_run' {P : Program} (w : World) {ops : Array Oper} {rest : List Oper} {o : Oper} {a : Act} {Q : Exit → Act → World → Prop} (hgd : o.guard = none) (d s : Operand) (t t' : TypeId)
    (ho : o.op = .call { callee := .builtin .copy, args := #[d, s], argTypes := #[t, t'] }) (v u : Value) (hd : a.eval d = v) (hs : a.eval s = u) {v' : Value} {w' : World}
    (hr : (Builtin.copy_ #[t, t'] o.type #[v, u]).run P w = .ok v' w') (h : wpList P ops Q rest (a.put o.dst v') w') : wpList P ops Q (o :: rest) a w :=
  wpList_plain hgd fun _ hK => wp_copy_run' w d s t t' ho v u hd hs hr (hK _ _ h)
theorem step_copy_run' {P : Program} {ops : Array Oper} {o : Oper} {a : Act} {w : World} {K : Act → World → Prop} {Q : Exit → Act → World → Prop} {E : Prop}
    (hg : o.guard = none) (d x : Operand) (dT sT : TypeId) (hop : o.op = Op.call { callee := Callee.builtin Builtin.copy, args := #[d, x], argTypes := #[dT, sT] })
    (v u : Value) (hd : a.eval d = v) (hx : a.eval x = u) {v' : Value} {w' : World} (hr : (Builtin.copy_ #[dT, sT] o.type #[v, u]).run P w = .ok v' w') (hK : K (a.put o.dst v') w') :
    if Region.wanted o (yielded ops a.tmps) = true then Oper.wp P o a w K Q else E := by
  have hw : Region.wanted o (yielded ops a.tmps) = true := by simp [Region.wanted, hg]
  rw [if_pos hw]
  exact wp_copy_run' w d x dT sT hop v u hd hx hr hK
/-- What a copy into a row of the call's own leaves. -/
theorem copy_own {P : Program} {w : World} {dT sT ty e : TypeId} {k g n cap o dLen dCap sLen sCap m B : Nat} {a : Addr} {xs cs : List Value} (ht : P.underlying dT = some (.slice e)) (hs : (P.info? e).map (·.size) = some k) (h : w.ownsRow B e k (.slice (some ⟨g, 0, none⟩) n cap) n xs)
    (hm : Nat.min sLen dLen = m) (hn : cs.length = m * k) (hfit : o + m * k ≤ n * k) (hsrc : ∀ j v, cs[j]? = some v → w.cell? (a.add j) = some v) (h1 : ∀ v ∈ cs, v.oneCell' = true) :
    (Builtin.copy_ #[dT, sT] ty #[.slice (some ⟨g, o, none⟩) dLen dCap, .slice (some a) sLen sCap]).run P w = .ok (goInt m) (setCells w g o cs) ∧ (setCells w g o cs).ownsRow B e k (.slice (some ⟨g, 0, none⟩) n cap) n (setFrom xs o cs) := by
  have hl : xs.length = n * k := h.1
  refine ⟨run_copy_k w dT sT ty e k g o dLen dCap a sLen sCap m cs ht hs hm hn hsrc (fun j hj => ?_) (fun j hj => h.frozenAt _) h1, own_stores cs w o xs h⟩
  have hx : o + j < xs.length := by omega
  have hc := h.cells (g := g) rfl (o + j) _ (List.getElem?_eq_getElem hx)
  rw [addr_add, Nat.zero_add] at hc
  rw [hc]
  rfl
theorem drew_setCells' (b : Nat) : ∀ (vs : List Value) (o : Nat) (w : World), (setCells w b o vs).drew = setCells w.drew b o vs
  | [], _, _ => rfl
  | v :: r, o, w => by rw [setCells, setCells, drew_setCells' b r]; rfl
theorem grown_cells {w : World} {b : Nat} {r : Option Nat} (hb : w.heap.size ≤ b ∨ r = some b) : ∀ (us : List Value) (w' : World) (k : Nat), w.grownBy w' r → w.grownBy (setCells w' b k us) r
  | [], w', k, h => h
  | u :: us, w', k, h => grown_cells hb us _ (k + 1) ⟨h.os, h.tape, h.output, by simpa using h.size, fun j hj hne => by
      rw [Below.heap_setCell w' ⟨b, k, none⟩ u j (fun e => by
        rcases hb with hb | hb
        · dsimp only at e; omega
        · exact hne (by rw [hb]; dsimp only at e; rw [e]))]
      exact h.block j hj hne⟩
/-- A row that grows by zero values behind its head. -/
theorem zeros_row {w : World} {e : TypeId} {k n i B old : Nat} {z : Value} {xs : List Value} (hz : z.cells.size = k) (hl : xs.length = i * k) (hi : i ≤ n) (hold : old < n) (hB : B ≤ w.heap.size) (hn : n ≤ maxLen) :
    (w.drew.alloc (.cells (xs.toArray ++ Builtin.zeroCells z.cells (n - i) ++ Builtin.zeroCells z.cells (grownCap w n old e - n)) e)).ownsRow B e k (.slice (some ⟨w.heap.size, 0, none⟩) n (grownCap w n old e)) n (xs ++ (Builtin.zeroCells z.cells (n - i)).toList) ∧ ((Builtin.zeroCells z.cells (n - i)).toList).length = (n - i) * k := by
  have hzl : ((Builtin.zeroCells z.cells (n - i)).toList).length = (n - i) * k := by rw [Array.length_toList, size_zeroCells, hz]
  have := grown_row w (e := e) (old := old) z hz (xs ++ (Builtin.zeroCells z.cells (n - i)).toList) (n := n) (by rw [List.length_append, hl, hzl, ← Nat.add_mul]; congr 1; omega) hold hn hB
  refine ⟨?_, hzl⟩
  rw [show xs.toArray ++ Builtin.zeroCells z.cells (n - i) = (xs ++ (Builtin.zeroCells z.cells (n - i)).toList).toArray from by simp]
  exact this
/-- A row is taken an element longer, into its spare room. -/
theorem own_longer {w : World} {B : Nat} {e : TypeId} {k g n cap : Nat} {xs : List Value} (h : w.ownsRow B e k (.slice (some ⟨g, 0, none⟩) n cap) n xs) (hc : n + 1 ≤ cap) :
    ∃ J : List Value, J.length = k ∧ w.ownsRow B e k (.slice (some ⟨g, 0, none⟩) (n + 1) cap) (n + 1) (xs ++ J) := by
  obtain ⟨hl, h2⟩ := h
  rcases h2 with ⟨e1, _⟩ | ⟨g', cap', cur, e1, hb, hg, hnc, hcm, hsz, htk⟩
  · simp at e1
  · simp at e1
    obtain ⟨rfl, rfl⟩ := e1
    have hcl : cur.toList.length = cap * k := by rw [Array.length_toList, hsz]
    have hle : (n + 1) * k ≤ cap * k := Nat.mul_le_mul_right _ hc
    have hnk : (n + 1) * k = n * k + k := Nat.succ_mul _ _
    refine ⟨(cur.toList.drop (n * k)).take k, by rw [List.length_take, List.length_drop, hcl]; omega, ?_, Or.inr ⟨g, cap, cur, rfl, hb, hg, hc, hcm, hsz, ?_⟩⟩
    · rw [List.length_append, hl, List.length_take, List.length_drop, hcl, hnk]; omega
    · rw [hnk, List.take_add, htk]
theorem ins_grow {xs Z c : List Value} {k n i : Nat} (hx : xs.length = n * k) (hi : i ≤ n) (hc : c.length = k) (hZ : Z.length = (n + 1 - i) * k) :
    setFrom (setFrom (xs.take (i * k) ++ Z) (i * k) c) ((i + 1) * k) (xs.drop (i * k)) = xs.take (i * k) ++ (c ++ xs.drop (i * k)) := by
  have hik : i * k ≤ n * k := Nat.mul_le_mul_right _ hi
  have h1 : (xs.take (i * k)).length = i * k := by rw [List.length_take]; omega
  have hZ2 : (n + 1 - i) * k = k + (n - i) * k := by rw [show n + 1 - i = (n - i) + 1 from by omega, Nat.succ_mul, Nat.add_comm]
  have hni : (n - i) * k = n * k - i * k := Nat.sub_mul _ _ _
  have e1 : Z = Z.take k ++ Z.drop k := (List.take_append_drop k Z).symm
  have h2 : setFrom (xs.take (i * k) ++ Z) (i * k) c = xs.take (i * k) ++ c ++ Z.drop k := by
    conv => lhs; rw [e1, ← List.append_assoc]
    conv => lhs; arg 2; rw [← h1]
    exact setFrom_mid c (Z.take k) (xs.take (i * k)) (Z.drop k) (by rw [List.length_take]; omega)
  rw [h2]
  have h3 := setFrom_mid (xs.drop (i * k)) (Z.drop k) (xs.take (i * k) ++ c) [] (by rw [List.length_drop, List.length_drop]; omega)
  rw [List.append_nil, List.append_nil, List.length_append, h1, hc] at h3
  rw [Nat.succ_mul, h3, List.append_assoc]
theorem ins_shift {xs J c : List Value} {k n i : Nat} (hx : xs.length = n * k) (hi : i ≤ n) (hc : c.length = k) (hJ : J.length = k) :
    setFrom (setFrom (xs ++ J) ((i + 1) * k) (xs.drop (i * k))) (i * k) c = xs.take (i * k) ++ (c ++ xs.drop (i * k)) := by
  have hik : i * k ≤ n * k := Nat.mul_le_mul_right _ hi
  have hsk : (i + 1) * k = i * k + k := Nat.succ_mul _ _
  have hl : (xs ++ J).length = n * k + k := by rw [List.length_append, hx, hJ]
  have h1 : ((xs ++ J).take ((i + 1) * k)).length = (i + 1) * k := by rw [List.length_take]; omega
  have e1 : xs ++ J = (xs ++ J).take ((i + 1) * k) ++ (xs ++ J).drop ((i + 1) * k) := (List.take_append_drop _ _).symm
  have h2 : setFrom (xs ++ J) ((i + 1) * k) (xs.drop (i * k)) = (xs ++ J).take ((i + 1) * k) ++ xs.drop (i * k) := by
    have := setFrom_mid (xs.drop (i * k)) ((xs ++ J).drop ((i + 1) * k)) ((xs ++ J).take ((i + 1) * k)) [] (by rw [List.length_drop, List.length_drop]; omega)
    rw [List.append_nil, List.append_nil, h1, ← e1] at this
    exact this
  have h3 : (xs ++ J).take ((i + 1) * k) = xs.take (i * k) ++ ((xs ++ J).drop (i * k)).take k := by
    rw [hsk, List.take_add, List.take_append_of_le_length (by omega)]
  rw [h2, h3]
  have h4 := setFrom_mid c (((xs ++ J).drop (i * k)).take k) (xs.take (i * k)) (xs.drop (i * k)) (by rw [List.length_take, List.length_drop]; omega)
  have h5 : (xs.take (i * k)).length = i * k := by rw [List.length_take]; omega
  rw [h5] at h4
  rw [h4, List.append_assoc]
end Go.Gh
/-
  The replacer: byteStringReplacer.Replace.
-/
namespace Go.Proofs.YtjmplhkdohlbcaaGreatDoor.Rep
open Go.RowKit Go.Gh
set_option linter.unusedVariables false
set_option linter.unusedSimpArgs false
/-- What stands in the table's cell of a byte, as the walk asks it. -/
theorem rep_cell {w : World} {RB : Nat} (h : RepIs w RB) (b : UInt8) :
    (spB b = false ∧ escB b = [b] ∧ w.cell? ⟨RB, b.toNat, none⟩ = some (.slice none 0 0)) ∨
    (spB b = true ∧ ∃ q c, w.cell? ⟨RB, b.toNat, none⟩ = some (.slice (some ⟨q, 0, none⟩) 2 c) ∧ (escB b).length = 2 ∧ Sl w 1 (.slice (some ⟨q, 0, none⟩) 2 c) 2 (((escB b).map fun x => (x.toNat : Int)).map (Value.int .u8))) := by
  obtain ⟨T, h1, h2, h3, h4, -⟩ := h
  have hc := h1 b.toNat (UInt8.toNat_lt b)
  have he := escB_repl b
  revert hc he
  unfold spB
  cases hr : replF tab3 b.toNat with
  | none => exact fun hc he => Or.inl ⟨rfl, he, hc⟩
  | some bs =>
    rintro ⟨q, c, q1, q2, q3, q4⟩ he
    have hl := repl_two hr
    have he : escB b = bs := he
    rw [hl] at q1 q2
    exact Or.inr ⟨rfl, q, c, q1, by rw [he]; exact hl, by rw [he]; exact q2⟩
def cF (a b c : Nat) (k : Nat) : Nat := if k = 0 then 0 else if k = 1 then a else if k = 2 then a + b else a + b + c
theorem cF0 (a b c : Nat) : cF a b c 1 = cF a b c 0 + a := by simp [cF]
theorem cF1 (a b c : Nat) : cF a b c 2 = cF a b c 1 + b := by simp [cF]
theorem cF2 (a b c : Nat) : cF a b c 3 = cF a b c 2 + c := by simp [cF]
theorem cF_le (a b c k : Nat) : cF a b c k ≤ a + b + c := by unfold cF; split; omega; split; omega; split; omega; omega
theorem rep_at {w : World} {RB : Nat} (h : RepIs w RB) {o : Nat} (ho : o = 10 ∨ o = 34 ∨ o = 92) : ∃ q c, w.cell? ⟨RB, o, none⟩ = some (.slice (some ⟨q, 0, none⟩) 2 c) := by
  have hx : o.toUInt8.toNat = o ∧ spB o.toUInt8 = true := by rcases ho with rfl | rfl | rfl <;> exact ⟨rfl, rfl⟩
  rcases rep_cell h o.toUInt8 with ⟨h1, -⟩ | ⟨-, q, c, h2, -⟩
  · rw [hx.2] at h1; exact absurd h1 (by decide)
  · rw [hx.1] at h2
    exact ⟨q, c, h2⟩
theorem rep_last {w : World} {RB : Nat} (h : RepIs w RB) : ∃ T, w.cell? ⟨RB, 256, none⟩ = some (.slice (some ⟨T, 0, none⟩) 3 3) ∧ w.cell? ⟨T, 0, none⟩ = some (.string ⟨#[10]⟩) ∧ w.cell? ⟨T, 1, none⟩ = some (.string ⟨#[34]⟩) ∧ w.cell? ⟨T, 2, none⟩ = some (.string ⟨#[92]⟩) := by
  obtain ⟨T, _, _, _, h4, h5⟩ := h
  exact ⟨T, h4, h5⟩
def byV (l : By) : List Value := (l.map fun x => (x.toNat : Int)).map (Value.int .u8)
theorem infoB : (Tryz.prog.info? 5).map (fun i => (i.zero, i.size, i.bytes)) = some (some (.int .u8 0), 1, 1) := by kernel_rfl
theorem elB : Elem Tryz.prog 117 5 1 1 := elem_of Tryz.underlying117 infoB rfl (by decide)
theorem setFrom_app (xs us : List Value) (o : Nat) (h : o + us.length ≤ xs.length) : (setFrom xs o us).take (o + us.length) = xs.take o ++ us := by
  have h1 : (xs.take o).length = o := by rw [List.length_take]; omega
  have h2 : ((xs.drop o).take us.length).length = us.length := by rw [List.length_take, List.length_drop]; omega
  have e : xs = xs.take o ++ (xs.drop o).take us.length ++ (xs.drop o).drop us.length := by rw [List.append_assoc, List.take_append_drop, List.take_append_drop]
  have h3 := setFrom_mid us ((xs.drop o).take us.length) (xs.take o) ((xs.drop o).drop us.length) h2
  rw [← e, h1] at h3
  rw [h3, List.take_left' (by rw [List.length_append, h1])]
theorem RepIs.below {w w' : World} {RB : Nat} (h : RepIs w RB) (hb : Below w.heap.size w w') : RepIs w' RB := by
  obtain ⟨T, h1, h2, h3, h4, h5, h6, h7⟩ := h
  have hc : ∀ b j v, w.cell? ⟨b, j, none⟩ = some v → w'.cell? ⟨b, j, none⟩ = some v := fun b j v hv => (hb.cell (p := ⟨b, j, none⟩) (cell_lt hv)).trans hv
  exact ⟨T, h1.below hb, h2, Nat.lt_of_lt_of_le h3 hb.size, hc _ _ _ h4, hc _ _ _ h5, hc _ _ _ h6, hc _ _ _ h7⟩
theorem RepIs.drew {w : World} {RB : Nat} (h : RepIs w RB) (q : Nat) : RepIs (w.drewN q) RB := by
  obtain ⟨T, h1, h2⟩ := h
  exact ⟨T, h1.below (below_drewN (Below.refl _ _) q), by simpa using h2⟩
set_option maxHeartbeats 8000000 in
set_option maxRecDepth 100000 in
theorem repl_any (RB : Nat) (l : By) (w : World) (hR : RepIs w RB) (hsz : l.length ≤ 70368744177664) : Calls Tryz.prog 246 #[.pointer (some ⟨RB, 0, none⟩), .string (mkS l)] w fun e w' => e = .returned (.string (mkS (esc l))) ∧ Below w.heap.size w w' := by
  have hml := mkS_size l
  have HG := Lib.hid (mkS_get l)
  have hcl : (mkS l).data.toList = l := List.toList_toArray
  have HC := Lib.hid (fun c w => count_any (mkS l) c w)
  rw [hcl] at HC
  obtain ⟨R, hR2⟩ : ∃ R, mkS (esc l) = R := ⟨_, rfl⟩
  rw [hR2]
  have HR := Lib.hid hR2
  have HS := Lib.hid (fun (h : sp l = 0) => (congrArg mkS (esc_same l h)).symm.trans hR2)
  clear hR2 hcl
  generalize mkS l = S at hml HG HC HS ⊢
  obtain ⟨n, hn⟩ : ∃ n, S.size = n := ⟨_, rfl⟩
  rw [hn] at hml
  have HL := Lib.hid hml.symm
  have hn63 : n ≤ 70368744177664 := by omega
  have HEL := Lib.hid (esc_len l)
  have hspl := sp_len l
  have HSC := Lib.hid (sp_count l)
  rw [← hml] at hspl HEL
  clear hml
  have HRp := Lib.hid hR
  obtain ⟨T, c256, ct0, ct1, ct2⟩ := rep_last hR
  clear hR
  obtain ⟨M, hM⟩ : ∃ M, M = sp l := ⟨_, rfl⟩
  rw [← hM] at HS HEL hspl HSC
  have HM := Lib.hid hM
  clear hM
  go_enter Tryz.func246, Tryz.ntmps246
  go_upto_if 26 with (fail)
  go_cut [5, 6] (fun a c wx => a = .int .i64 ((n : Int) + (M : Int)) ∧ c = .bool (M != 0) ∧ Hid (RepIs wx RB) ∧ Hid (Below w.heap.size w wx))
  case first =>
    by_cases h24 : 24 ≤ n
    · obtain ⟨a, ha⟩ : ∃ a, l.count 10 = a := ⟨_, rfl⟩
      obtain ⟨b, hb⟩ : ∃ b, l.count 34 = b := ⟨_, rfl⟩
      obtain ⟨c, hc⟩ : ∃ c, l.count 92 = c := ⟨_, rfl⟩
      have HX10 := Lib.hid ha
      have HX34 := Lib.hid hb
      have HX92 := Lib.hid hc
      have hsum : M = a + b + c := by rw [HSC.out, ha, hb, hc]
      have HSM := Lib.hid hsum
      have ha2 : a ≤ n := by omega
      have hb2 : b ≤ n := by omega
      have hc2 : c ≤ n := by omega
      have hab : a + b + c ≤ n := by omega
      clear ha hb hc hsum
      go_wp2_with fail
      clear c256
      go_loopw [32, 5, 6] (fun i d e wr => ∃ k : Nat, k ≤ 3 ∧ d = .int .i64 (n + cF a b c k : Nat) ∧ e = .bool (cF a b c k != 0) ∧ i = .int .i64 k ∧ Hid (RepIs wr RB) ∧ Hid (Below w.heap.size w wr) ∧ wr.cell? ⟨T, 0, none⟩ = some (.string ⟨#[10]⟩) ∧ wr.cell? ⟨T, 1, none⟩ = some (.string ⟨#[34]⟩) ∧ wr.cell? ⟨T, 2, none⟩ = some (.string ⟨#[92]⟩)) (fun i _ _ _ => 3 - (intOf i).toNat)
      case atStart => exact ⟨0, by decide, rfl, rfl, rfl, HRp, Lib.hid (Below.refl _ _), ct0, ct1, ct2⟩
      case round =>
      obtain ⟨k, hk, rfl, rfl, rfl, HRw, HBw, ct0, ct1, ct2⟩ := hrel
      have hk4 : k = 0 ∨ k = 1 ∨ k = 2 ∨ k = 3 := by omega
      rcases hk4 with rfl | rfl | rfl | rfl
      -- ROUNDS
      · -- round 0
        obtain ⟨q1, z1, tb1⟩ := rep_at HRw.out (o := 10) (by decide)
        have hA1 := cF0 a b c
        have hA2 := cF_le a b c 0
        obtain ⟨A, hA⟩ : ∃ A, cF a b c 0 = A := ⟨_, rfl⟩
        rw [hA] at hA1 hA2
        have hbnd : n + A + a ≤ 9223372036854775807 := by omega
        have HA := Lib.hid hA
        have HCF := Lib.hid hA1
        clear hA hA1
        simp only [HA.out]
        by_cases hz : a = 0
        · have HZ := Lib.hid hz
          clear hz
          go_wp2_with (go_at_call 151; refine (HC.out 10 wr).mono ?_; rintro e w9 ⟨rfl, rfl⟩; simp only [HX10.out, HZ.out])
          go_roundw
          case rel => exact ⟨1, by decide, by rw [HCF.out, HZ.out, Nat.add_zero], by rw [HCF.out, HZ.out, Nat.add_zero], rfl, HRw, HBw, ct0, ct1, ct2⟩
          case measure => simp [intOf]
        · have hx : ((⟨#[10]⟩ : ByteArray)[0]'(by decide)).toNat = 10 := rfl
          have hzi : ¬ ((a : Int) = 0) := by omega
          have hAx : (n : Int) + A + a ≤ 9223372036854775807 := by omega
          go_wp2_with (go_at_call 151; refine (HC.out 10 wr).mono ?_; rintro e w9 ⟨rfl, rfl⟩; simp only [HX10.out])
          go_quiet (fail)
          go_wp2_with fail
          go_roundw
          case rel => exact ⟨1, by decide, by rw [HCF.out]; go_num, by rw [HCF.out]; simp; omega, rfl, Lib.hid (HRw.out.drew _), Lib.hid (below_drewN HBw.out _), by simpa using ct0, by simpa using ct1, by simpa using ct2⟩
          case measure => simp [intOf]
      · -- round 1
        obtain ⟨q1, z1, tb1⟩ := rep_at HRw.out (o := 34) (by decide)
        have hA1 := cF1 a b c
        have hA2 := cF_le a b c 1
        obtain ⟨A, hA⟩ : ∃ A, cF a b c 1 = A := ⟨_, rfl⟩
        rw [hA] at hA1 hA2
        have hbnd : n + A + b ≤ 9223372036854775807 := by omega
        have HA := Lib.hid hA
        have HCF := Lib.hid hA1
        clear hA hA1
        simp only [HA.out]
        by_cases hz : b = 0
        · have HZ := Lib.hid hz
          clear hz
          go_wp2_with (go_at_call 151; refine (HC.out 34 wr).mono ?_; rintro e w9 ⟨rfl, rfl⟩; simp only [HX34.out, HZ.out])
          go_roundw
          case rel => exact ⟨2, by decide, by rw [HCF.out, HZ.out, Nat.add_zero], by rw [HCF.out, HZ.out, Nat.add_zero], rfl, HRw, HBw, ct0, ct1, ct2⟩
          case measure => simp [intOf]
        · have hx : ((⟨#[34]⟩ : ByteArray)[0]'(by decide)).toNat = 34 := rfl
          have hzi : ¬ ((b : Int) = 0) := by omega
          have hAx : (n : Int) + A + b ≤ 9223372036854775807 := by omega
          go_wp2_with (go_at_call 151; refine (HC.out 34 wr).mono ?_; rintro e w9 ⟨rfl, rfl⟩; simp only [HX34.out])
          go_quiet (fail)
          go_wp2_with fail
          go_roundw
          case rel => exact ⟨2, by decide, by rw [HCF.out]; go_num, by rw [HCF.out]; simp; omega, rfl, Lib.hid (HRw.out.drew _), Lib.hid (below_drewN HBw.out _), by simpa using ct0, by simpa using ct1, by simpa using ct2⟩
          case measure => simp [intOf]
      · -- round 2
        obtain ⟨q1, z1, tb1⟩ := rep_at HRw.out (o := 92) (by decide)
        have hA1 := cF2 a b c
        have hA2 := cF_le a b c 2
        obtain ⟨A, hA⟩ : ∃ A, cF a b c 2 = A := ⟨_, rfl⟩
        rw [hA] at hA1 hA2
        have hbnd : n + A + c ≤ 9223372036854775807 := by omega
        have HA := Lib.hid hA
        have HCF := Lib.hid hA1
        clear hA hA1
        simp only [HA.out]
        by_cases hz : c = 0
        · have HZ := Lib.hid hz
          clear hz
          go_wp2_with (go_at_call 151; refine (HC.out 92 wr).mono ?_; rintro e w9 ⟨rfl, rfl⟩; simp only [HX92.out, HZ.out])
          go_roundw
          case rel => exact ⟨3, by decide, by rw [HCF.out, HZ.out, Nat.add_zero], by rw [HCF.out, HZ.out, Nat.add_zero], rfl, HRw, HBw, ct0, ct1, ct2⟩
          case measure => simp [intOf]
        · have hx : ((⟨#[92]⟩ : ByteArray)[0]'(by decide)).toNat = 92 := rfl
          have hzi : ¬ ((c : Int) = 0) := by omega
          have hAx : (n : Int) + A + c ≤ 9223372036854775807 := by omega
          go_wp2_with (go_at_call 151; refine (HC.out 92 wr).mono ?_; rintro e w9 ⟨rfl, rfl⟩; simp only [HX92.out])
          go_quiet (fail)
          go_wp2_with fail
          go_roundw
          case rel => exact ⟨3, by decide, by rw [HCF.out]; go_num, by rw [HCF.out]; simp; omega, rfl, Lib.hid (HRw.out.drew _), Lib.hid (below_drewN HBw.out _), by simpa using ct0, by simpa using ct1, by simpa using ct2⟩
          case measure => simp [intOf]
      -- END OF ROUNDS
      · go_wp2_with fail
        go_meet
        case rel =>
          have : cF a b c 3 = M := by rw [HSM.out]; rfl
          rw [this]
          exact ⟨by go_num, rfl, HRw, HBw⟩
    · go_wp2_with fail
      clear c256 ct0 ct1 ct2
      go_loopw [10, 5, 6] (fun i d e wr => ∃ k Z : Nat, k ≤ n ∧ Hid (sp (l.take k) = Z) ∧ Z ≤ n ∧ d = .int .i64 (n + Z : Nat) ∧ e = .bool (Z != 0) ∧ i = .int .i64 k ∧ wr = w) (fun i _ _ _ => n - (intOf i).toNat)
      case atStart => exact ⟨0, 0, Nat.zero_le _, Lib.hid rfl, Nat.zero_le _, rfl, rfl, rfl, rfl⟩
      case round =>
      obtain ⟨k, Z, hk, HZ, hZn, rfl, rfl, rfl, hwe⟩ := hrel
      have hwe := hwe.symm
      subst hwe
      by_cases hlt : k < n
      case neg =>
        obtain rfl : k = n := by omega
        have HZM : Hid (Z = M) := Lib.hid (by rw [← HZ.out, HM.out, List.take_of_length_le (Nat.le_of_eq HL.out)])
        go_wp2_with fail
        go_meet
        case rel => exact ⟨by rw [← HZM.out], by rw [← HZM.out], HRp, Lib.hid (Below.refl _ _)⟩
      have hlk : k < l.length := by rw [HL.out]; exact hlt
      have hks : k < S.size := by rw [hn]; exact hlt
      obtain ⟨d, hd⟩ : ∃ d, l[k]? = some d := ⟨_, List.getElem?_eq_getElem hlk⟩
      obtain ⟨m, hm⟩ : ∃ m, d.toNat = m := ⟨_, rfl⟩
      have hgk : (S[k]'hks).toNat = m := by rw [HG.out k hks hlk, (List.getElem?_eq_some_iff.1 hd).2]; exact hm
      have hm256 : m < 256 := by rw [← hm]; exact UInt8.toNat_lt d
      have hmi : (m : Int) < 256 := by omega
      have hZt := sp_take hd
      rw [HZ.out] at hZt
      have hkn : (k : Int) + 1 ≤ (n : Int) := by omega
      have hnn : (n : Int) + Z + 1 ≤ 9223372036854775807 := by omega
      rcases rep_cell HRp.out d with ⟨hs, -, hc⟩ | ⟨hs, q, c, hc, -⟩
      · rw [hs] at hZt
        rw [hm] at hc
        have HZ2 : Hid (sp (l.take (k + 1)) = Z) := Lib.hid (by rw [hZt]; rfl)
        have he := run_neq_slice_nil_any (P := Tryz.prog) w 117 5 none 0 0 0 0 Tryz.underlying117
        clear hd hm hZt hs
        go_wp2_with fail
        go_roundw
        case rel => exact ⟨k + 1, Z, by omega, HZ2, hZn, rfl, rfl, by go_num, by trivial⟩
        case measure => simp [intOf]; omega
      · rw [hs] at hZt
        rw [hm] at hc
        have HZ2 : Hid (sp (l.take (k + 1)) = Z + 1) := Lib.hid (by rw [hZt]; rfl)
        have hz1 : Z + 1 ≤ n := by
          have h1 := sp_le l (k + 1)
          rw [HZ2.out, ← HM.out] at h1
          omega
        have he := run_neq_slice_nil_any (P := Tryz.prog) w 117 5 (some ⟨q, 0, none⟩) 2 c 0 0 Tryz.underlying117
        clear hd hm hZt hs
        go_wp2_with fail
        go_roundw
        case rel => exact ⟨k + 1, Z + 1, by omega, HZ2, hz1, by go_num, by simp, by go_num, by trivial⟩
        case measure => simp [intOf]; omega
  case rest =>
    obtain ⟨rfl, rfl, HRx, HBx⟩ := hcut
    by_cases hM0 : M = 0
    · have HM0 := Lib.hid hM0
      have HSR := Lib.hid (HS.out hM0)
      subst hM0
      go_wp2_with fail
      go_ret
      exact ⟨by rw [← HSR.out]; rfl, HBx.out⟩
    · obtain ⟨N, hN⟩ : ∃ N, N = n + M := ⟨_, rfl⟩
      have HN := Lib.hid hN
      have hNi : (n : Int) + (M : Int) = (N : Int) := by omega
      have hN63 : N ≤ 140737488355328 := by omega
      have HEN : Hid ((esc l).length = N) := Lib.hid (by rw [HEL.out, hN])
      have hMz : (M != 0) = true := by simp [hM0]
      obtain ⟨G, hG⟩ : ∃ G, G = wc.heap.size := ⟨_, rfl⟩
      have HG0 := Lib.hid hG
      obtain ⟨i0, hi0, hx0⟩ := Option.map_eq_some_iff.1 infoB
      simp only [Prod.mk.injEq] at hx0
      obtain ⟨hz0, hs0, hby0⟩ := hx0
      simp only [hMz]
      clear hN hG
      go_wp2_with (at_make; refine wpList_make_full _ rfl _ _ 117 rfl G 5 i0 (.int .u8 0) 1 elB.und hi0 hz0 hs0 .i64 .i64 ((n : Int) + (M : Int)) ((n : Int) + (M : Int)) N rfl rfl hNi hNi (by rw [hby0]; omega) (by unfold maxLen; omega) (Nat.le_of_eq HG0.out) ?_)
      intro w3 hown3 hgr3
      rw [← HG0.out] at hown3 ⊢
      have HB3 : Hid (Below G wc w3) := Lib.hid (by rw [HG0.out]; exact Below.grown (Below.refl _ _) hgr3 (Nat.le_refl _) (fun k hk => by simp at hk))
      have HO3 := Lib.hid hown3
      clear hown3 hgr3 hNi
      go_wp2_with fail
      go_loopw [14, 13] (fun i j wr => ∃ (k J : Nat) (xs : List Value), k ≤ n ∧ i = .int .i64 k ∧ j = .int .i64 J ∧ Hid ((esc (l.take k)).length = J) ∧ Hid (wr.ownsRow G 5 1 (.slice (some ⟨G, 0, none⟩) N N) N xs) ∧ Hid (xs.take J = byV (esc (l.take k))) ∧ Hid (Below G wc wr)) (fun i _ _ => n - (intOf i).toNat)
      case atStart => exact ⟨0, 0, _, Nat.zero_le _, rfl, rfl, Lib.hid rfl, HO3, Lib.hid rfl, HB3⟩
      case round =>
      obtain ⟨k, J, xs, hk, rfl, rfl, HJ, HO, HT, HBr⟩ := hrel
      by_cases hlt : k < n
      case neg =>
        obtain rfl : k = n := by omega
        have HT2 : Hid (xs = byV (esc l)) := Lib.hid (by
          have h1 := HT.out
          have h2 := HJ.out
          rw [List.take_of_length_le (Nat.le_of_eq HL.out)] at h1 h2
          rw [HEN.out] at h2
          rw [← h2, List.take_of_length_le (by rw [HO.out.1, Nat.mul_one]; omega)] at h1
          exact h1)
        have hconv : (convert 117 9 (.slice (some ⟨G, 0, none⟩) N N)).run Tryz.prog wr = .ok (.string R) wr := by
          have h := run_convert_bytes_back wr 117 9 5 ⟨G, 0, none⟩ N (esc l) Tryz.underlying117 Tryz.underlying5 Tryz.underlying9 (fun j hj => by
            refine HO.out.cells (g := G) rfl j _ ?_
            rw [HT2.out]
            unfold byV
            rw [List.getElem?_map, List.getElem?_map, List.getElem?_eq_getElem hj]
            rfl)
          rw [HEN.out] at h
          rw [← HR.out]
          exact h
        go_wp2_with fail
        go_ret
        exact ⟨rfl, HBx.out.trans (HBr.out.mono (by have := HBx.out.size; rw [HG0.out]; exact this))⟩
      have hlk : k < l.length := by rw [HL.out]; exact hlt
      have hks : k < S.size := by rw [hn]; exact hlt
      obtain ⟨d, hd⟩ : ∃ d, l[k]? = some d := ⟨_, List.getElem?_eq_getElem hlk⟩
      obtain ⟨m, hm⟩ : ∃ m, d.toNat = m := ⟨_, rfl⟩
      have hgk : (S[k]'hks).toNat = m := by rw [HG.out k hks hlk, (List.getElem?_eq_some_iff.1 hd).2]; exact hm
      have hm256 : m < 256 := by rw [← hm]; exact UInt8.toNat_lt d
      have hmi : (m : Int) < 256 := by omega
      have HET := Lib.hid (esc_take' hd)
      have hkn : (k : Int) + 1 ≤ (n : Int) := by omega
      have hJ1 : J + (escB d).length ≤ N := by
        have h1 := esc_take_le l (k + 1)
        rw [HET.out, List.length_append, HJ.out, HEN.out] at h1
        exact h1
      have hxl : xs.length = N := by rw [HO.out.1, Nat.mul_one]
      have HXL := Lib.hid hxl
      clear hxl
      have hRr := HRx.out.below (by rw [← HG0.out]; exact HBr.out)
      rcases rep_cell hRr d with ⟨hs, he1, hc⟩ | ⟨hs, q, c, hc, he2, hsl⟩
      · rw [hm] at hc
        have HE1 := Lib.hid he1
        rw [he1] at hJ1
        have hJN : J < N := by have := hJ1; simp at this; omega
        have hJNi : (J : Int) < (N : Int) := by omega
        have he := run_neq_slice_nil_any (P := Tryz.prog) wr 117 5 none 0 0 0 0 Tryz.underlying117
        obtain ⟨v0, hv0⟩ : ∃ v, wr.cell? ⟨G, J, none⟩ = some v := by
          have h := HO.out.cells (g := G) rfl J _ (List.getElem?_eq_getElem (by rw [HXL.out]; exact hJN))
          rw [addr_add, Nat.zero_add] at h
          exact ⟨_, h⟩
        have hf0 := HO.out.frozenAt J
        have HO2 : Hid ((wr.setCell ⟨G, J, none⟩ (.int .u8 m)).ownsRow G 5 1 (.slice (some ⟨G, 0, none⟩) N N) N (setFrom xs J [.int .u8 m])) := Lib.hid (own_stores [.int .u8 m] wr J xs HO.out)
        have HT2 : Hid ((setFrom xs J [.int .u8 m]).take (J + 1) = byV (esc (l.take (k + 1)))) := Lib.hid (by
          have := setFrom_app xs [.int .u8 m] J (by rw [HXL.out]; exact hJN)
          rw [show J + 1 = J + [Value.int IntKind.u8 (m : Int)].length by rfl, this, HT.out, HET.out, HE1.out]
          unfold byV
          rw [List.map_append, List.map_append, ← hm]
          rfl)
        have HJ2 : Hid ((esc (l.take (k + 1))).length = J + 1) := Lib.hid (by rw [HET.out, HE1.out, List.length_append, HJ.out]; rfl)
        have HB2 : Hid (Below G wc (wr.setCell ⟨G, J, none⟩ (.int .u8 m))) := Lib.hid (HBr.out.setCell (p := ⟨G, J, none⟩) (Nat.le_refl G) _)
        clear hd hm hs he1 hRr
        go_wp2_with fail
        go_roundw
        case rel => exact ⟨k + 1, J + 1, _, by omega, by go_num, by go_num, HJ2, HO2, HT2, HB2⟩
        case measure => simp [intOf]; omega
      · rw [hm] at hc
        have HE2 := Lib.hid he2
        rw [he2] at hJ1
        have hJNi : (J : Int) ≤ (N : Int) := by omega
        have hJN : J ≤ N := by omega
        have hNJ : ¬ N = J := by omega
        have he := run_neq_slice_nil_any (P := Tryz.prog) wr 117 5 (some ⟨q, 0, none⟩) 2 c 0 0 Tryz.underlying117
        have hownd : wr.drew.ownsRow G 5 1 (.slice (some ⟨G, 0, none⟩) N N) N xs := HO.out
        have hcl : (byV (escB d)).length = 2 * 1 := by unfold byV; rw [List.length_map, List.length_map, he2]
        have hm2 : Nat.min 2 (N - J) = 2 := Nat.min_eq_left (by omega)
        have hcp : ∀ ty dc, _ := fun (ty : TypeId) (dc : Nat) => copy_own (P := Tryz.prog) (w := wr.drew) (dT := 117) (sT := 117) (ty := ty) (o := J) (dLen := N - J) (dCap := dc) (sLen := 2) (sCap := c) (a := ⟨q, 0, none⟩) elB.und (by
          obtain ⟨i0, hi0, hx0⟩ := Option.map_eq_some_iff.1 infoB
          simp only [Prod.mk.injEq] at hx0
          rw [hi0]
          show some i0.size = some 1
          rw [hx0.2.1]) hownd hm2 hcl (by omega) (fun j u hj => by
            obtain ⟨ao, cap, e1, _, _, _, hl2, hcell⟩ := hsl
            obtain ⟨b', off, e2, hcell⟩ := hcell (by decide)
            simp at e1
            obtain ⟨rfl, rfl⟩ := e1
            simp at e2
            obtain ⟨rfl, rfl⟩ := e2
            have := hcell j u hj
            rw [addr_add]
            simpa using this) (by
            intro u hu
            unfold byV at hu
            obtain ⟨x, _, rfl⟩ := List.mem_map.1 hu
            rfl)
        obtain ⟨W3, hW3⟩ : ∃ W3, W3 = setCells wr.drew G J (byV (escB d)) := ⟨_, rfl⟩
        have HO2 : Hid (W3.ownsRow G 5 1 (.slice (some ⟨G, 0, none⟩) N N) N (setFrom xs J (byV (escB d)))) := Lib.hid (by rw [hW3]; exact (hcp 0 0).2)
        have HT2 : Hid ((setFrom xs J (byV (escB d))).take (J + 2) = byV (esc (l.take (k + 1)))) := Lib.hid (by
          have := setFrom_app xs (byV (escB d)) J (by rw [hcl, HXL.out]; omega)
          rw [hcl] at this
          rw [this, HT.out, HET.out]
          unfold byV
          rw [List.map_append, List.map_append])
        have HJ2 : Hid ((esc (l.take (k + 1))).length = J + 2) := Lib.hid (by rw [HET.out, List.length_append, HJ.out, HE2.out])
        have HB2 : Hid (Below G wc W3) := Lib.hid (by rw [hW3]; exact below_stores (Nat.le_refl G) _ _ _ (below_drewN HBr.out 1))
        have hcp1 : ∀ ty dc, (Builtin.copy_ #[117, 117] ty #[.slice (some ⟨G, J, none⟩) (N - J) dc, .slice (some ⟨q, 0, none⟩) 2 c]).run Tryz.prog wr.drew = .ok (goInt 2) W3 := fun ty dc => by rw [hW3]; exact (hcp ty dc).1
        clear hd hm hs hRr hcp hW3 hownd hsl he2 hcl
        go_upto_region 28 with (fail)
        go_region_law (refine step_copy_run' rfl _ _ 117 117 rfl _ _ (by simp [Act.eval, Act.put]) (by simp [Act.eval, Act.put]) (hcp1 _ _) ?_)
        go_wp2_with fail
        go_roundw
        case rel => exact ⟨k + 1, J + 2, _, by omega, by go_num, by go_num, HJ2, HO2, HT2, HB2⟩
        case measure => simp [intOf]; omega
end Go.Proofs.YtjmplhkdohlbcaaGreatDoor.Rep
/-
  The replacer: Replacer.Replace; label.quoted.
-/
namespace Go.Proofs.YtjmplhkdohlbcaaGreatDoor.Rep
open Go.RowKit Go.Gh
set_option linter.unusedVariables false
set_option linter.unusedSimpArgs false
set_option maxHeartbeats 4000000 in
set_option maxRecDepth 100000 in
theorem replace_any (B ob c : Nat) (l : By) (w : World) (hB : w.heap[B]? = some (.cells #[.int .u32 0, .int .i32 0, .int .u32 0, .nilIface, .slice (some ⟨ob, 0, none⟩) 6 c] 185 (0, 0))) (ho : ∀ i s, six[i]? = some s → w.cell? ⟨ob, i, none⟩ = some (.string s)) (hne : ob ≠ B) (hsz : l.length ≤ 70368744177664) :
    Calls Tryz.prog 96 #[.pointer (some ⟨B, 0, none⟩), .string (mkS l)] w fun e w' => e = .returned (.string (mkS (esc l))) ∧ Below B w w' := by
  have hlt : B < w.heap.size := (Array.getElem?_eq_some_iff.1 hB).1
  obtain ⟨c0, f0⟩ := row_cell 0 _ hB rfl
  obtain ⟨c1, f1⟩ := row_cell 1 _ hB rfl
  have hB1 := setCell_row hB 1 (.int .i32 1)
  have hf := once_any B ob c 0 (w.setCell ⟨B, 1, none⟩ (.int .i32 1)) hB1 (fun i s hs => (World.cell?_setCell_other _ ⟨B, 1, none⟩ ⟨ob, i, none⟩ _ (by intro e; injection e with e1 e2; exact hne e1.symm)).trans (ho i s hs))
  have HD := Lib.hid (do_any B _ w hf c0 c1 f0 f1)
  clear hf hB1 ho
  have hmk : ∀ w', (Instr.makeFunc (Fn.func 123) #[Value.pointer (some ⟨B, 0, none⟩)] #[]).run Tryz.prog w' = .ok (.func (.func 123) #[.pointer (some ⟨B, 0, none⟩)] #[]) w' := fun _ => rfl
  go_enter Tryz.func96, Tryz.ntmps96
  go_wp2_with (go_at_call 122; refine HD.out.mono ?_; rintro e w1 ⟨rfl, w2, ⟨RB, hR, h3, hb, hs, hz0⟩, rfl⟩)
  have hRW : RepIs (((w2.setCell ⟨B, 0, none⟩ (.int .u32 1)).setCell ⟨B, 1, none⟩ (.int .i32 0)).drew) RB := ((hR.keep (w' := (w2.setCell ⟨B, 0, none⟩ (.int .u32 1)).setCell ⟨B, 1, none⟩ (.int .i32 0)) hz0 (by simp) (fun b j v hbB hv => by
    refine (World.cell?_setCell_other _ ⟨B, 1, none⟩ ⟨b, j, none⟩ _ (by intro e; injection e with e1 e2; exact hbB e1.symm)).trans ?_
    exact (World.cell?_setCell_other _ ⟨B, 0, none⟩ ⟨b, j, none⟩ _ (by intro e; injection e with e1 e2; exact hbB e1.symm)).trans hv)).1).drew 1
  have hbl : Below B w (((w2.setCell ⟨B, 0, none⟩ (.int .u32 1)).setCell ⟨B, 1, none⟩ (.int .i32 0)).drew) := below_drewN ((((Below.refl B w).setCell (p := ⟨B, 1, none⟩) (Nat.le_refl B) _).trans hb).setCell (p := ⟨B, 0, none⟩) (Nat.le_refl B) _ |>.setCell (p := ⟨B, 1, none⟩) (Nat.le_refl B) _) 1
  have hsz2 : B ≤ (((w2.setCell ⟨B, 0, none⟩ (.int .u32 1)).setCell ⟨B, 1, none⟩ (.int .i32 0)).drew).heap.size := by simp; simp at hs; omega
  have HBL := Lib.hid hbl
  have HSZ := Lib.hid hsz2
  have HC := Lib.hid (repl_any RB l _ hRW hsz)
  clear hbl hsz2 hRW hR hb hs
  refine HC.out.mono ?_
  rintro e w3 ⟨rfl, hb3⟩
  have HB3 := Lib.hid hb3
  clear hb3
  go_wp2
  go_ret
  exact ⟨rfl, HBL.out.trans (HB3.out.mono HSZ.out)⟩
set_option maxHeartbeats 4000000 in
set_option maxRecDepth 100000 in
theorem quoted_any (l : By) (w : World) (hsz : l.length ≤ 70368744177664) : Calls Tryz.prog 67 #[.string (mkS l)] w fun e w' => e = .returned (.string (mkS (quo l))) ∧ Below w.heap.size w w' := by
  obtain ⟨W1, hW1⟩ : ∃ W1, W1 = w.alloc (Obj.cells #[.string ⟨#[92]⟩, .string ⟨#[92, 92]⟩, .string ⟨#[34]⟩, .string ⟨#[92, 34]⟩, .string ⟨#[10]⟩, .string ⟨#[92, 110]⟩] 9) := ⟨_, rfl⟩
  have hnew : W1.heap[w.heap.size]? = some (.cells #[.string ⟨#[92]⟩, .string ⟨#[92, 92]⟩, .string ⟨#[34]⟩, .string ⟨#[92, 34]⟩, .string ⟨#[10]⟩, .string ⟨#[92, 110]⟩] 9 (0, 0)) := by rw [hW1]; exact heap_alloc_new w _
  have HN := Lib.hid (new_any w.heap.size 6 W1 (fun i s hs => by
    have h6 : i < 6 := (List.getElem?_eq_some_iff.1 hs).1
    have : i = 0 ∨ i = 1 ∨ i = 2 ∨ i = 3 ∨ i = 4 ∨ i = 5 := by omega
    rcases this with rfl | rfl | rfl | rfl | rfl | rfl <;> (simp [six] at hs; subst hs; exact (row_cell _ _ hnew rfl).1)))
  have HB1 : Hid (Below w.heap.size w W1) := Lib.hid (by rw [hW1]; exact (Below.refl _ _).alloc (Nat.le_refl _) _)
  have HR := Lib.hid (fun B ob c W hB ho hne => replace_any B ob c l W hB ho hne hsz)
  obtain ⟨E, hE⟩ : ∃ E, mkS (esc l) = E := ⟨_, rfl⟩
  have hEs : E.size ≤ 2 * l.length := by
    rw [← hE, mkS_size, esc_len]
    have := sp_len l
    omega
  have hE1 : 1 + E.size ≤ 9223372036854775807 := by omega
  have hE2 : 1 + E.size + 1 ≤ 9223372036854775807 := by omega
  have HQ : Hid ((⟨#[34]⟩ : ByteArray) ++ E ++ ⟨#[34]⟩ = mkS (quo l)) := Lib.hid (by
    rw [← hE]
    show mkS [34] ++ mkS (esc l) ++ mkS [34] = _
    rw [mkS_app, mkS_app]
    unfold quo
    rfl)
  rw [hE] at HR
  clear hE hnew
  generalize mkS (quo l) = Q at HQ ⊢
  generalize mkS l = S at HR ⊢
  have HW1 := Lib.hid hW1
  clear hW1
  go_enter Tryz.func67, Tryz.ntmps67
  go_wp2_with fail
  rw [← HW1.out]
  refine HN.out.mono ?_
  rintro e w2 ⟨B, ob', c', rfl, hBn, hBB, ho2, hne2, hb2⟩
  have HC2 := Lib.hid (HR.out B ob' c' w2 hBB ho2 hne2)
  have HB2 := Lib.hid hb2
  clear hBB ho2 hne2 hb2
  go_wp2_with (go_at_call 96; refine HC2.out.mono ?_; rintro e w3 ⟨rfl, hb3⟩; have HB3 := Lib.hid hb3; clear hb3)
  go_ret
  have hs1 := HB1.out.size
  exact ⟨by rw [← HQ.out]; rfl, (HB1.out.trans (HB2.out.mono hs1)).trans (HB3.out.mono (by omega))⟩
end Go.Proofs.YtjmplhkdohlbcaaGreatDoor.Rep
/-
  Contracts of the library at this program, laid by the kit's own tool (in plain words).
-/

namespace Go.Proofs
open Go.Shelf
def YtjmplhkdohlbcaaGreatDoor.lays156_ren : Go.Shelf.Ren := ⟨fun | 156 => 68 | 165 => 97 | 166 => 98 | 169 => 99 | 240 => 124 | 241 => 125 | 276 => 158 | 277 => 159 | n => n, fun | 31 => 35 | 9 => 9 | 3 => 3 | 4 => 4 | 0 => 0 | 20 => 20 | 72 => 141 | 76 => 145 | 70 => 139 | 37 => 117 | 75 => 144 | 127 => 187 | 164 => 212 | 5 => 5 | 80 => 131 | n => n, fun | n => n⟩
theorem YtjmplhkdohlbcaaGreatDoor.lays156 : Go.Proofs.Lays.n156 Tryz.prog YtjmplhkdohlbcaaGreatDoor.lays156_ren := {
  mixed := by kernel_rfl
  f156 := Tryz.func68.trans (congrArg some (by kernel_rfl))
  f165 := Tryz.func97.trans (congrArg some (by kernel_rfl))
  f166 := Tryz.func98.trans (congrArg some (by kernel_rfl))
  f169 := Tryz.func99.trans (congrArg some (by kernel_rfl))
  f240 := Tryz.func124.trans (congrArg some (by kernel_rfl))
  f241 := Tryz.func125.trans (congrArg some (by kernel_rfl))
  f276 := Tryz.func158.trans (congrArg some (by kernel_rfl))
  f277 := Tryz.func159.trans (congrArg some (by kernel_rfl))
  t0 := Tryz.underlying0
  a0 := Tryz.isAgg0
  z0 := Tryz.sizeOf0
  v0 := Tryz.zeroValue0
  t3 := Tryz.underlying3
  a3 := Tryz.isAgg3
  z3 := Tryz.sizeOf3
  v3 := Tryz.zeroValue3
  t4 := Tryz.underlying4
  a4 := Tryz.isAgg4
  z4 := Tryz.sizeOf4
  v4 := Tryz.zeroValue4
  t9 := Tryz.underlying9
  a9 := Tryz.isAgg9
  z9 := Tryz.sizeOf9
  v9 := Tryz.zeroValue9
  t20 := Tryz.underlying20
  a20 := Tryz.isAgg20
  z20 := Tryz.sizeOf20
  v20 := Tryz.zeroValue20
  t31 := Tryz.underlying35
  a31 := Tryz.isAgg35
  z31 := Tryz.sizeOf35
  v31 := Tryz.zeroValue35
  t37 := Tryz.underlying117
  a37 := Tryz.isAgg117
  z37 := Tryz.sizeOf117
  v37 := Tryz.zeroValue117
  t70 := Tryz.underlying139
  a70 := Tryz.isAgg139
  z70 := Tryz.sizeOf139
  v70 := Tryz.zeroValue139
  t72 := Tryz.underlying141
  a72 := Tryz.isAgg141
  z72 := Tryz.sizeOf141
  v72 := Tryz.zeroValue141
  t75 := Tryz.underlying144
  a75 := Tryz.isAgg144
  z75 := Tryz.sizeOf144
  v75 := Tryz.zeroValue144
  t76 := Tryz.underlying145
  a76 := Tryz.isAgg145
  z76 := Tryz.sizeOf145
  v76 := Tryz.zeroValue145
  t127 := Tryz.underlying187
  a127 := Tryz.isAgg187
  z127 := Tryz.sizeOf187
  v127 := Tryz.zeroValue187
  t164 := Tryz.underlying212
  a164 := Tryz.isAgg212
  z164 := Tryz.sizeOf212
  v164 := Tryz.zeroValue212 }
theorem YtjmplhkdohlbcaaGreatDoor.Builder_Extra_156 : Builder.Extra Tryz.prog YtjmplhkdohlbcaaGreatDoor.lays156_ren := {
  sizeBuilder := by kernel_rfl
  liesBuilder := by kernel_rfl
  t5 := Tryz.underlying5
  a5 := Tryz.isAgg5
  z5 := Tryz.sizeOf5
  v5 := Tryz.zeroValue5
  infoByte := by kernel_rfl
  cellsByte := by kernel_rfl
  sizeByte := by kernel_rfl
  neB5 := by decide }
open Go.RowKit in
theorem YtjmplhkdohlbcaaGreatDoor.strings_Join_none (a : Option Addr) (c : Nat) (sep : ByteArray) (w : World) :
    Calls Tryz.prog 68 #[.slice a 0 c, .string sep] w fun e w' => e = .returned (.string ⟨#[]⟩) ∧ w' = w := Any.strings_Join_none YtjmplhkdohlbcaaGreatDoor.lays156 YtjmplhkdohlbcaaGreatDoor.Builder_Extra_156 a c sep w
open Go.RowKit in
theorem YtjmplhkdohlbcaaGreatDoor.strings_Join (bk o c : Nat) (xs : List ByteArray) (sep : ByteArray) (w : World) (hcells : ∀ (j : Nat) x, xs[j]? = some x → w.cell? ⟨bk, o + j, none⟩ = some (.string x)) (hbk : bk < w.heap.size) (hN : xs.length ≤ 140737488355328) (hcap : xs.length ≤ c) (hlen : (Lib.join (xs.map (·.data.toList)) sep.data.toList).length ≤ 140737488355328) :
    Calls Tryz.prog 68 #[.slice (some ⟨bk, o, none⟩) xs.length c, .string sep] w fun e w' => e = .returned (.string ⟨(Lib.join (xs.map (·.data.toList)) sep.data.toList).toArray⟩) ∧ Below w.heap.size w w' := Any.strings_Join YtjmplhkdohlbcaaGreatDoor.lays156 YtjmplhkdohlbcaaGreatDoor.Builder_Extra_156 bk o c xs sep w hcells hbk hN hcap hlen
def YtjmplhkdohlbcaaGreatDoor.lays103_ren : Go.Shelf.Ren := ⟨fun | 103 => 49 | 210 => 74 | 206 => 101 | n => n, fun | 9 => 9 | 4 => 4 | 24 => 78 | 3 => 3 | n => n, fun | n => n⟩
theorem YtjmplhkdohlbcaaGreatDoor.lays103 : Go.Proofs.Lays.n103 Tryz.prog YtjmplhkdohlbcaaGreatDoor.lays103_ren := {
  mixed := by kernel_rfl
  f103 := Tryz.func49.trans (congrArg some (by kernel_rfl))
  f206 := Tryz.func101.trans (congrArg some (by kernel_rfl))
  f210 := Tryz.func74.trans (congrArg some (by kernel_rfl))
  t3 := Tryz.underlying3
  a3 := Tryz.isAgg3
  z3 := Tryz.sizeOf3
  v3 := Tryz.zeroValue3
  t4 := Tryz.underlying4
  a4 := Tryz.isAgg4
  z4 := Tryz.sizeOf4
  v4 := Tryz.zeroValue4
  t9 := Tryz.underlying9
  a9 := Tryz.isAgg9
  z9 := Tryz.sizeOf9
  v9 := Tryz.zeroValue9
  t24 := Tryz.underlying78
  a24 := Tryz.isAgg78
  z24 := Tryz.sizeOf78
  v24 := Tryz.zeroValue78 }
open Go.RowKit in
theorem YtjmplhkdohlbcaaGreatDoor.strings_CutPrefix (s p : ByteArray) (w : World) :
    Calls Tryz.prog 49 #[.string s, .string p] w fun e w' => e = .returned (.tuple #[.string ⟨(Lib.trimPrefix s.data.toList p.data.toList).toArray⟩, .bool (Lib.hasPrefix s.data.toList p.data.toList)]) ∧ w' = w := Any.strings_CutPrefix YtjmplhkdohlbcaaGreatDoor.lays103 s p w
def YtjmplhkdohlbcaaGreatDoor.laysM144_ren : Go.Shelf.Ren := ⟨fun | 144 => 73 | 143 => 102 | 219 => 130 | 217 => 164 | 225 => 134 | 224 => 133 | 267 => 165 | 266 => 187 | 314 => 188 | n => n, fun | 9 => 9 | 4 => 4 | 3 => 3 | 5 => 5 | 46 => 165 | 146 => 248 | 51 => 173 | n => n, fun | 1 => 2 | n => n⟩
theorem YtjmplhkdohlbcaaGreatDoor.laysM144 : Go.Proofs.LaysM.n144 Tryz.prog YtjmplhkdohlbcaaGreatDoor.laysM144_ren := {
  mixed := by kernel_rfl
  f143 := Tryz.func102.trans (congrArg some (by kernel_rfl))
  f144 := Tryz.func73.trans (congrArg some (by kernel_rfl))
  f217 := Tryz.func164.trans (congrArg some (by kernel_rfl))
  f219 := Tryz.func130.trans (congrArg some (by kernel_rfl))
  f224 := Tryz.func133.trans (congrArg some (by kernel_rfl))
  f225 := Tryz.func134.trans (congrArg some (by kernel_rfl))
  f266 := Tryz.func187.trans (congrArg some (by kernel_rfl))
  f267 := Tryz.func165.trans (congrArg some (by kernel_rfl))
  f314 := Tryz.func188.trans (congrArg some (by kernel_rfl))
  t3 := Tryz.underlying3
  a3 := Tryz.isAgg3
  z3 := Tryz.sizeOf3
  v3 := Tryz.zeroValue3
  t4 := Tryz.underlying4
  a4 := Tryz.isAgg4
  z4 := Tryz.sizeOf4
  v4 := Tryz.zeroValue4
  t5 := Tryz.underlying5
  a5 := Tryz.isAgg5
  z5 := Tryz.sizeOf5
  v5 := Tryz.zeroValue5
  t9 := Tryz.underlying9
  a9 := Tryz.isAgg9
  z9 := Tryz.sizeOf9
  v9 := Tryz.zeroValue9
  t46 := Tryz.underlying165
  a46 := Tryz.isAgg165
  z46 := Tryz.sizeOf165
  v46 := Tryz.zeroValue165
  t51 := Tryz.underlying173
  a51 := Tryz.isAgg173
  z51 := Tryz.sizeOf173
  v51 := Tryz.zeroValue173
  t146 := Tryz.underlying248
  a146 := Tryz.isAgg248
  z146 := Tryz.sizeOf248
  v146 := Tryz.zeroValue248
  g1 := by kernel_rfl
  i3 := by kernel_rfl
  i4 := by kernel_rfl
  i5 := by kernel_rfl
  i9 := by kernel_rfl
  i46 := by kernel_rfl
  i51 := by kernel_rfl
  i146 := by kernel_rfl
  m1 := by kernel_rfl
  s1_3 := fun w h => Go.Proofs.cell_of_shapedOpen_int (zero := #[.int .i64 0]) (t := 3) h (of_decide_eq_true (by kernel_rfl)) (by kernel_rfl) rfl (by kernel_rfl) (by kernel_rfl) Tryz.underlying3 }
open Go.RowKit Go.Lib in
theorem YtjmplhkdohlbcaaGreatDoor.strings_Contains_shaped (s sub : ByteArray) (w : World) (h : w.ShapedOpen Tryz.prog) (hs : s.size < 4294967281) :
    Calls Tryz.prog 73 #[.string s, .string sub] w fun e w' => e = .returned (.bool (Lib.contains s.data.toList sub.data.toList)) ∧ w' = w := Any.strings_Contains_shaped YtjmplhkdohlbcaaGreatDoor.laysM144 s sub w h hs
def YtjmplhkdohlbcaaGreatDoor.lays99_ren : Go.Shelf.Ren := ⟨fun | 99 => 72 | 206 => 101 | n => n, fun | 9 => 9 | 4 => 4 | 3 => 3 | n => n, fun | n => n⟩
theorem YtjmplhkdohlbcaaGreatDoor.lays99 : Go.Proofs.Lays.n99 Tryz.prog YtjmplhkdohlbcaaGreatDoor.lays99_ren := {
  mixed := by kernel_rfl
  f99 := Tryz.func72.trans (congrArg some (by kernel_rfl))
  f206 := Tryz.func101.trans (congrArg some (by kernel_rfl))
  t3 := Tryz.underlying3
  a3 := Tryz.isAgg3
  z3 := Tryz.sizeOf3
  v3 := Tryz.zeroValue3
  t4 := Tryz.underlying4
  a4 := Tryz.isAgg4
  z4 := Tryz.sizeOf4
  v4 := Tryz.zeroValue4
  t9 := Tryz.underlying9
  a9 := Tryz.isAgg9
  z9 := Tryz.sizeOf9
  v9 := Tryz.zeroValue9 }
open Go.RowKit Go.Lib in
theorem YtjmplhkdohlbcaaGreatDoor.strings_HasPrefix (s p : ByteArray) (w : World) :
    Calls Tryz.prog 72 #[.string s, .string p] w fun e w' => e = .returned (.bool (Lib.hasPrefix s.data.toList p.data.toList)) ∧ w' = w := Any.strings_HasPrefix YtjmplhkdohlbcaaGreatDoor.lays99 s p w
def YtjmplhkdohlbcaaGreatDoor.lays101_ren : Go.Shelf.Ren := ⟨fun | 101 => 51 | 208 => 77 | 206 => 101 | n => n, fun | 9 => 9 | 4 => 4 | 3 => 3 | n => n, fun | n => n⟩
theorem YtjmplhkdohlbcaaGreatDoor.lays101 : Go.Proofs.Lays.n101 Tryz.prog YtjmplhkdohlbcaaGreatDoor.lays101_ren := {
  mixed := by kernel_rfl
  f101 := Tryz.func51.trans (congrArg some (by kernel_rfl))
  f206 := Tryz.func101.trans (congrArg some (by kernel_rfl))
  f208 := Tryz.func77.trans (congrArg some (by kernel_rfl))
  t3 := Tryz.underlying3
  a3 := Tryz.isAgg3
  z3 := Tryz.sizeOf3
  v3 := Tryz.zeroValue3
  t4 := Tryz.underlying4
  a4 := Tryz.isAgg4
  z4 := Tryz.sizeOf4
  v4 := Tryz.zeroValue4
  t9 := Tryz.underlying9
  a9 := Tryz.isAgg9
  z9 := Tryz.sizeOf9
  v9 := Tryz.zeroValue9 }
open Go.RowKit Go.Lib in
theorem YtjmplhkdohlbcaaGreatDoor.strings_TrimPrefix (s p : ByteArray) (w : World) :
    Calls Tryz.prog 51 #[.string s, .string p] w fun e w' => e = .returned (.string ⟨(Lib.trimPrefix s.data.toList p.data.toList).toArray⟩) ∧ w' = w := Any.strings_TrimPrefix YtjmplhkdohlbcaaGreatDoor.lays101 s p w
end Go.Proofs
